/- Merged: FldT, FldV, UnrA, UnrB, UnrCh, UnrC. -/
import Derived.Test.YtagjpbcmhaekpaaGreatDoorMg6
import Derived.Laws.IdiomStrings
import Derived.Deep.MidRow
/- A row of texts as an item. -/
namespace Go.Proofs.YtagjpbcmhaekpaaGreatDoor
open Go.RowKit Go.Shelf
set_option linter.unusedVariables false
set_option linter.unusedSimpArgs false

/-- a text as an item -/
abbrev txt (s : ByteArray) : Itm := .mk false s []
def txtV (xs : List ByteArray) : List Value := xs.flatMap fun s => [.bool false, .string s, .slice none 0 0]
theorem txtV_snoc (xs : List ByteArray) (s : ByteArray) : txtV (xs ++ [s]) = txtV xs ++ [.bool false, .string s, .slice none 0 0] := by simp [txtV]
theorem txtV_len (xs : List ByteArray) : (txtV xs).length = xs.length * 3 := by
  induction xs with
  | nil => rfl
  | cons x xs ih => rw [show txtV (x :: xs) = [.bool false, .string x, .slice none 0 0] ++ txtV xs from rfl, List.length_append, ih]; simp; omega

theorem txtV_items (xs : List ByteArray) : txtV xs = itemsV (xs.map txt) (List.replicate xs.length (.slice none 0 0)) := by
  induction xs with
  | nil => rfl
  | cons x xs ih =>
    rw [show txtV (x :: xs) = [.bool false, .string x, .slice none 0 0] ++ txtV xs from rfl, ih]
    rfl
theorem txt_sub {u : World} {base k c : Nat} {A : Option Addr} {xs : List ByteArray} (hl : xs.length = k) (h : u.ownsRow base 40 3 (.slice A k c) k (txtV xs)) : SubV (fun g => base ≤ g) u (xs.map txt) (.slice A k c) := by
  subst hl
  rw [txtV_items] at h
  have hlen : (xs.map txt).length = xs.length := by simp
  rw [← hlen] at h ⊢
  refine SubV.of_own (by simp) h (fun i hi => ?_) (fun g hg => ownBlock_ge h hg)
  have hi' : i < xs.length := by simpa using hi
  have h1 : ((xs.map txt).getD i Itm.none_).items = [] := by
    rw [List.getD_eq_getElem?_getD, List.getElem?_map, List.getElem?_eq_getElem hi']; rfl
  have h2 : (List.replicate (xs.map txt).length (Value.slice none 0 0)).getD i undef = .slice none 0 0 := by
    rw [List.getD_eq_getElem?_getD, List.getElem?_replicate, if_pos hi]; rfl
  rw [h1, h2]
  exact .mk [] none 0 [] (fun h => by cases h) (fun i h => by cases h)
theorem sub_set3 {S : Nat → Prop} {W : World} {xs : List Itm} {v : Value} {g : Nat} (h : SubV S W xs v) (hg : ¬ S g) (x y z : Value) : SubV S (((W.setCell ⟨g, 0, none⟩ x).setCell ⟨g, 1, none⟩ y).setCell ⟨g, 2, none⟩ z) xs v := by
  refine h.keep fun p hp u hu => ?_
  have hne : g ≠ p.block := fun e => hg (e ▸ hp)
  rw [World.cell?_setCell_far _ _ _ _ hne, World.cell?_setCell_far _ _ _ _ hne, World.cell?_setCell_far _ _ _ _ hne]
  exact hu

set_option maxRecDepth 100000 in
set_option maxHeartbeats 2000000 in
theorem texts_any (B : Nat) (A : Option Addr) (n c : Nat) (xs : List ByteArray) (w : World) (h : Reads w B 1 A n (xs.map Value.string)) (hB : B ≤ w.heap.size) (hn : n ≤ 1000) :
    Calls Tryz.prog 19 #[.slice A n c] w fun e w' => ∃ A' c', e = .returned (.agg #[.bool true, .string ⟨#[]⟩, .slice A' n c']) ∧ SubV (fun g => w.heap.size ≤ g) w' (xs.map txt) (.slice A' n c') ∧ w.grownBy w' none := by
  have hl : xs.length = n := by have := h.1; simpa using this
  have hRB := Blk.new w 40 #[.bool false, .string ⟨#[]⟩, .slice none 0 0]
  have hG := only_alloc (World.grownBy.refl w none) (.cells #[.bool false, .string ⟨#[]⟩, .slice none 0 0] 40)
  go_enter Tryz.func19, Tryz.ntmps19
  go_upto_region 1 with (fail)
  obtain ⟨b, hb⟩ : ∃ b, w.heap.size = b := ⟨_, rfl⟩
  have HW := Lib.hid hb
  rw [hb] at hRB ⊢
  have hz : (w.alloc (.cells #[.bool false, .string ⟨#[]⟩, .slice none 0 0] 40)).heap.size = b + 1 := by simp [hb]
  have h := h.alloc hB (.cells #[.bool false, .string ⟨#[]⟩, .slice none 0 0] 40)
  generalize w.alloc (.cells #[.bool false, .string ⟨#[]⟩, .slice none 0 0] 40) = W1 at *
  go_wp2_with fail
  refine (list_any _ ⟨_, _, _, rfl⟩ _).mono ?_
  rintro e w3 ⟨rfl, hg3⟩
  obtain ⟨b3, hb3⟩ : ∃ b, w3.heap.size = b := ⟨_, rfl⟩
  have hz3 := hg3.size
  have K0 : Held3 w3 b3 (.slice none 0 0) 0 (txtV (xs.take 0)) (w3.alloc (.cells #[.bool true, .string ⟨#[]⟩, .slice none 0 0] 40)) := by
    refine ⟨?_, World.ownsRow_nil _ _ _ _, only_alloc (World.grownBy.refl w3 none) _, by simp; omega, by omega⟩
    have := Blk.new w3 40 #[.bool true, .string ⟨#[]⟩, .slice none 0 0]
    rwa [hb3] at this
  have h := h.grown hg3 (by have := HW.out; omega) (by simp)
  have h0 := Lib.hid h
  have HL := Lib.hid hl
  have HB : Hid (B ≤ w3.heap.size) := Lib.hid (by have := HW.out; omega)
  have HRB := Lib.hid (hRB.grown hg3 (by simp))
  have HG := Lib.hid (grown_self hG hg3 (by simp))
  have h := h.alloc HB.out (.cells #[.bool true, .string ⟨#[]⟩, .slice none 0 0] 40)
  have HS : Hid (w.heap.size ≤ b3) := Lib.hid (by have := HW.out; omega)
  have HZB : Hid (b + 1 ≤ b3) := Lib.hid (by omega)
  clear hG hg3 hl hB hRB
  go_upto_region 2 with (fail)
  generalize w3.alloc (.cells #[.bool true, .string ⟨#[]⟩, .slice none 0 0] 40) = W4 at *
  clear hz hz3 hb3
  go_wp2_with fail
  go_loopw [9] (fun i wr => ∃ (k : Nat) (v : Value), i = .int .i64 k ∧ k ≤ n ∧ Held3 w3 b3 v k (txtV (xs.take k)) wr) (fun i _ => n - (intOf i).toNat)
  case atStart => exact ⟨0, _, rfl, by omega, K0⟩
  case round =>
    clear K0 h
    obtain ⟨k, v, rfl, hk, K0⟩ := hrel
    have h := h0.out.grown K0.grown HB.out (by simp)
    by_cases hlt : k < n
    · obtain ⟨g, off, rfl, hg, hc⟩ := Reads.vals Value.string .empty h hlt
      have c0 := hc k hlt
      have q1 : (k : Int) < (n : Int) := by omega
      have hTK : txtV (xs.take k) ++ [.bool false, .string (xs.getD k .empty), .slice none 0 0] = txtV (xs.take (k + 1)) := by
        rw [← txtV_snoc, List.take_add_one, List.getElem?_eq_getElem (by have := HL.out; omega), List.getD_eq_getElem?_getD, List.getElem?_eq_getElem (by have := HL.out; omega)]
        rfl
      obtain ⟨s, hs⟩ : ∃ s, xs.getD k .empty = s := ⟨_, rfl⟩
      rw [hs] at c0 hTK
      have HTK := Lib.hid hTK
      have H0 := Lib.hid h0.out
      clear h hc hs h0 hTK
      obtain ⟨vA, vc, rfl⟩ := own_slice3 K0.own
      go_wp2_with fail
      refine wp_region_held (S := fun _ => True) (by kernel_rfl) ?_
      change wpAnyH _ _ _ _ _ _ _ _ wr.drew
      replace K0 := K0.drew
      generalize wr.drew = u0 at *
      clear c0
      refine held_take (i := 0) (v := .pointer (some ⟨b3, 2, none⟩)) (some 13) rfl (by kernel_rfl) (by kernel_rfl) (by kernel_rfl) (fun _ _ _ h => h) rfl (Or.inl ⟨by rfl, fun W hW => by go_simp⟩) trivial ?_
      simp only [Act.put, List.setIfInBounds_toArray, List.set_cons_zero, List.set_cons_succ]
      refine held_take (i := 2) (v := .string s) (some 15) rfl (by kernel_rfl) (by kernel_rfl) (by kernel_rfl) (fun _ _ _ h => h) rfl (Or.inl ⟨by rfl, fun W hW => by go_simp⟩) trivial ?_
      simp only [Act.put, List.setIfInBounds_toArray, List.set_cons_zero, List.set_cons_succ]
      refine held_two (i := 1) (j := 3) (by kernel_rfl) ?_ ?_
      · refine held_value (some 14) rfl rfl (.slice vA k vc) (exec_load1 38 (.tmp 13) rfl _ rfl _ _ Tryz.underlying38 rfl (K0.blk.cell 2)) rfl trivial ?_
        simp only [Act.put, List.setIfInBounds_toArray, List.set_cons_zero, List.set_cons_succ]
        refine held_one (i := 3) (by kernel_rfl) ?_
        refine held_enter (some 16) rfl rfl 17 #[.string s] (exec_call1 17 (.tmp 15) _ rfl _ rfl rfl) rfl ((text_any s _).mono ?_)
        rintro e u1 ⟨rfl, hgc⟩
        have K1 := K0.kept hgc
        refine ⟨_, rfl, trivial, ?_⟩
        simp only [Act.put, List.setIfInBounds_toArray, List.set_cons_zero, List.set_cons_succ]
        refine held_one (i := 4) (by kernel_rfl) ?_
        refine held_value (some 17) rfl rfl (.slice (some ⟨u1.heap.size, 0, none⟩) 1 1) (by go_simp <;> rfl) rfl trivial ?_
        simp only [Act.put, List.setIfInBounds_toArray, List.set_cons_zero, List.set_cons_succ]
        have K2 := K1.kept (only_alloc (World.grownBy.refl u1 none) (.cells #[.bool false, .string s, .slice none 0 0] 40))
        obtain ⟨i0, hi, hz0, hzs, hzb⟩ := info_parts item_info
        obtain ⟨v', u2, hrun, hown', hgrow, hiff, hob⟩ := run_append_own_at (P := Tryz.prog) (u1.alloc (.cells #[.bool false, .string s, .slice none 0 0] 40)) (b3 + 1) 38 38 40 i0 _ 3 48 Tryz.underlying38 hi hz0 hzs hzb rfl (by decide) (.slice vA k vc) k (txtV (xs.take k)) K2.own ⟨u1.heap.size, 0, none⟩ 1 1 [.bool false, .string s, .slice none 0 0] rfl (cell_three_new _ _ _ _ _) (by simp [Value.oneCell']) (by simp only [maxLen]; omega) (by omega) K2.size
        obtain ⟨g', cap', rfl⟩ := ownsRow_succ hown'
        have K3 := K2.put hown' hgrow
        refine held_one (i := 5) (by kernel_rfl) ?_
        refine held_value (some 18) rfl rfl (.slice (some ⟨g', 0, none⟩) (k + 1) cap') (exec_append (.tmp 14) (.tmp 17) 38 rfl _ _ _ rfl rfl hrun) rfl trivial ?_
        simp only [Act.put, List.setIfInBounds_toArray, List.set_cons_zero, List.set_cons_succ]
        refine held_one (i := 6) (by kernel_rfl) ?_
        refine held_value (some 19) rfl rfl (.pointer (some ⟨b3, 2, none⟩)) (by go_simp <;> rfl) rfl trivial ?_
        simp only [Act.put, List.setIfInBounds_toArray, List.set_cons_zero, List.set_cons_succ]
        refine held_one (i := 7) (by kernel_rfl) ?_
        refine held_store rfl rfl (exec_store1 (.tmp 19) (.tmp 18) rfl rfl rfl (K2.blk.grown hgrow (fun e => by have := ownBlock_ge K2.own e.symm; omega)) (by simp)) trivial ?_
        simp only [Act.put, List.setIfInBounds_toArray, List.set_cons_zero, List.set_cons_succ]
        refine wpAnyH_done (by kernel_rfl) ?_ _
        rw [HTK.out] at K3
        clear hrun hown' hgrow hob K2 hiff
        go_wp2_with fail
        go_roundw
        case rel => exact ⟨k + 1, _, by go_num, by omega, K3⟩
        case measure => simp [intOf]; omega
      · refine held_enter (some 16) rfl rfl 17 #[.string s] (exec_call1 17 (.tmp 15) _ rfl _ rfl rfl) rfl ((text_any s _).mono ?_)
        rintro e u1 ⟨rfl, hgc⟩
        have K1 := K0.kept hgc
        refine ⟨_, rfl, trivial, ?_⟩
        simp only [Act.put, List.setIfInBounds_toArray, List.set_cons_zero, List.set_cons_succ]
        refine held_two (i := 1) (j := 4) (by kernel_rfl) ?_ ?_
        · refine held_value (some 14) rfl rfl (.slice vA k vc) (exec_load1 38 (.tmp 13) rfl _ rfl _ _ Tryz.underlying38 rfl (K1.blk.cell 2)) rfl trivial ?_
          simp only [Act.put, List.setIfInBounds_toArray, List.set_cons_zero, List.set_cons_succ]
          refine held_one (i := 4) (by kernel_rfl) ?_
          refine held_value (some 17) rfl rfl (.slice (some ⟨u1.heap.size, 0, none⟩) 1 1) (by go_simp <;> rfl) rfl trivial ?_
          simp only [Act.put, List.setIfInBounds_toArray, List.set_cons_zero, List.set_cons_succ]
          have K2 := K1.kept (only_alloc (World.grownBy.refl u1 none) (.cells #[.bool false, .string s, .slice none 0 0] 40))
          obtain ⟨i0, hi, hz0, hzs, hzb⟩ := info_parts item_info
          obtain ⟨v', u2, hrun, hown', hgrow, hiff, hob⟩ := run_append_own_at (P := Tryz.prog) (u1.alloc (.cells #[.bool false, .string s, .slice none 0 0] 40)) (b3 + 1) 38 38 40 i0 _ 3 48 Tryz.underlying38 hi hz0 hzs hzb rfl (by decide) (.slice vA k vc) k (txtV (xs.take k)) K2.own ⟨u1.heap.size, 0, none⟩ 1 1 [.bool false, .string s, .slice none 0 0] rfl (cell_three_new _ _ _ _ _) (by simp [Value.oneCell']) (by simp only [maxLen]; omega) (by omega) K2.size
          obtain ⟨g', cap', rfl⟩ := ownsRow_succ hown'
          have K3 := K2.put hown' hgrow
          refine held_one (i := 5) (by kernel_rfl) ?_
          refine held_value (some 18) rfl rfl (.slice (some ⟨g', 0, none⟩) (k + 1) cap') (exec_append (.tmp 14) (.tmp 17) 38 rfl _ _ _ rfl rfl hrun) rfl trivial ?_
          simp only [Act.put, List.setIfInBounds_toArray, List.set_cons_zero, List.set_cons_succ]
          refine held_one (i := 6) (by kernel_rfl) ?_
          refine held_value (some 19) rfl rfl (.pointer (some ⟨b3, 2, none⟩)) (by go_simp <;> rfl) rfl trivial ?_
          simp only [Act.put, List.setIfInBounds_toArray, List.set_cons_zero, List.set_cons_succ]
          refine held_one (i := 7) (by kernel_rfl) ?_
          refine held_store rfl rfl (exec_store1 (.tmp 19) (.tmp 18) rfl rfl rfl (K2.blk.grown hgrow (fun e => by have := ownBlock_ge K2.own e.symm; omega)) (by simp)) trivial ?_
          simp only [Act.put, List.setIfInBounds_toArray, List.set_cons_zero, List.set_cons_succ]
          refine wpAnyH_done (by kernel_rfl) ?_ _
          rw [HTK.out] at K3
          clear hrun hown' hgrow hob K2 hiff
          go_wp2_with fail
          go_roundw
          case rel => exact ⟨k + 1, _, by go_num, by omega, K3⟩
          case measure => simp [intOf]; omega
        · refine held_value (some 17) rfl rfl (.slice (some ⟨u1.heap.size, 0, none⟩) 1 1) (by go_simp <;> rfl) rfl trivial ?_
          simp only [Act.put, List.setIfInBounds_toArray, List.set_cons_zero, List.set_cons_succ]
          have K2 := K1.kept (only_alloc (World.grownBy.refl u1 none) (.cells #[.bool false, .string s, .slice none 0 0] 40))
          refine held_one (i := 1) (by kernel_rfl) ?_
          refine held_value (some 14) rfl rfl (.slice vA k vc) (exec_load1 38 (.tmp 13) rfl _ rfl _ _ Tryz.underlying38 rfl (K2.blk.cell 2)) rfl trivial ?_
          simp only [Act.put, List.setIfInBounds_toArray, List.set_cons_zero, List.set_cons_succ]
          obtain ⟨i0, hi, hz0, hzs, hzb⟩ := info_parts item_info
          obtain ⟨v', u2, hrun, hown', hgrow, hiff, hob⟩ := run_append_own_at (P := Tryz.prog) (u1.alloc (.cells #[.bool false, .string s, .slice none 0 0] 40)) (b3 + 1) 38 38 40 i0 _ 3 48 Tryz.underlying38 hi hz0 hzs hzb rfl (by decide) (.slice vA k vc) k (txtV (xs.take k)) K2.own ⟨u1.heap.size, 0, none⟩ 1 1 [.bool false, .string s, .slice none 0 0] rfl (cell_three_new _ _ _ _ _) (by simp [Value.oneCell']) (by simp only [maxLen]; omega) (by omega) K2.size
          obtain ⟨g', cap', rfl⟩ := ownsRow_succ hown'
          have K3 := K2.put hown' hgrow
          refine held_one (i := 5) (by kernel_rfl) ?_
          refine held_value (some 18) rfl rfl (.slice (some ⟨g', 0, none⟩) (k + 1) cap') (exec_append (.tmp 14) (.tmp 17) 38 rfl _ _ _ rfl rfl hrun) rfl trivial ?_
          simp only [Act.put, List.setIfInBounds_toArray, List.set_cons_zero, List.set_cons_succ]
          refine held_one (i := 6) (by kernel_rfl) ?_
          refine held_value (some 19) rfl rfl (.pointer (some ⟨b3, 2, none⟩)) (by go_simp <;> rfl) rfl trivial ?_
          simp only [Act.put, List.setIfInBounds_toArray, List.set_cons_zero, List.set_cons_succ]
          refine held_one (i := 7) (by kernel_rfl) ?_
          refine held_store rfl rfl (exec_store1 (.tmp 19) (.tmp 18) rfl rfl rfl (K2.blk.grown hgrow (fun e => by have := ownBlock_ge K2.own e.symm; omega)) (by simp)) trivial ?_
          simp only [Act.put, List.setIfInBounds_toArray, List.set_cons_zero, List.set_cons_succ]
          refine wpAnyH_done (by kernel_rfl) ?_ _
          rw [HTK.out] at K3
          clear hrun hown' hgrow hob K2 hiff
          go_wp2_with fail
          go_roundw
          case rel => exact ⟨k + 1, _, by go_num, by omega, K3⟩
          case measure => simp [intOf]; omega

    · obtain rfl : k = n := by omega
      have hfin : decide ((k : Int) < (k : Int)) = false := by simp
      clear h h0
      have hRB := HRB.out.grown K0.grown (by simp)
      obtain ⟨vA, vc, rfl⟩ := own_slice3 K0.own
      have hle : w.heap.size ≤ b := by have := HW.out; omega
      have hb3 : b + 1 ≤ b3 := by have := HZB.out; omega
      have ht : xs.take k = xs := List.take_of_length_le (by have := HL.out; omega)
      have hS := txt_sub HL.out (ht ▸ K0.own)
      have HS5 := Lib.hid (SubV.weak (sub_set3 (g := b) hS (by omega) (.bool true) (.string ⟨#[]⟩) (.slice vA k vc)) (fun g (hg : b3 + 1 ≤ g) => (show w.heap.size ≤ g by omega)))
      have HG5 := Lib.hid (only_set (only_set (only_set (grown_self HG.out K0.grown (by simp)) (p := ⟨b, 0, none⟩) hle (.bool true)) (p := ⟨b, 1, none⟩) hle (.string ⟨#[]⟩)) (p := ⟨b, 2, none⟩) hle (.slice vA k vc))
      have HB5 := Lib.hid (((hRB.set_ 0 (.bool true)).set_ 1 (.string ⟨#[]⟩)).set_ 2 (.slice vA k vc))
      have c0 := hRB.cell 0; have c1 := hRB.cell 1; have c2 := hRB.cell 2
      have d0 := hRB.frozen 0; have d1 := hRB.frozen 1; have d2 := hRB.frozen 2
      have e0 := K0.blk.cell 0; have e1 := K0.blk.cell 1; have e2 := K0.blk.cell 2
      simp only [List.getElem?_toArray, List.getElem?_cons_zero, List.getElem?_cons_succ] at c0 c1 c2 e0 e1 e2
      clear K0 hle hb3 ht hS hRB hk hlt
      go_wp2_with fail
      refine bodyPost_ret (results_cell1 (fn := Tryz.f19) rfl _ _ _ _ rfl (load_itemF HB5.out)) rfl ?_
      exact ⟨_, _, rfl, HS5.out, HG5.out⟩
end Go.Proofs.YtagjpbcmhaekpaaGreatDoor
/- A list's texts, read. -/
namespace Go.Proofs.YtagjpbcmhaekpaaGreatDoor
open Go.RowKit Go.Shelf
set_option linter.unusedVariables false
set_option linter.unusedSimpArgs false

theorem SubV.grown {S : Nat → Prop} {W W' : World} {xs : List Itm} {v : Value} (h : SubV S W xs v) (hg : W.grownBy W' none) : SubV S W' xs v := h.keep fun p _ u hu => hg.cell hu (by simp)
/-- why an item is no text -/
def tE (y : Itm) (least most : Int) : Int := if y.list then 2 else textE y.bytes.size least most
/-- why a row has an item that is no text -/
def gtxE : List Itm → Int → Int → Int
  | [], _, _ => 0
  | y :: ys, least, most => if tE y least most ≠ 0 then tE y least most else gtxE ys least most
/-- the items of a list that may be -/
def gtYs (l : Bool) (n : Nat) (many : Int) (ys : List Itm) : List Itm := if l = true ∧ textE n 0 many = 0 then ys else []
def gtE (l : Bool) (n : Nat) (many least most : Int) (ys : List Itm) : Int :=
  if gtxE (gtYs l n many ys) least most ≠ 0 then gtxE (gtYs l n many ys) least most else if l then textE n 0 many else 2
def gtR (E : Int) (ys : List Itm) : List Itm := if E = 0 then ys else []
theorem gtxE_snoc (ys : List Itm) (y : Itm) (a b : Int) (h : gtxE ys a b = 0) : gtxE (ys ++ [y]) a b = tE y a b := by
  induction ys with
  | nil => show (if tE y a b ≠ 0 then tE y a b else 0) = _; split <;> simp_all
  | cons x xs ih =>
    have hx : tE x a b = 0 := by
      by_cases h1 : tE x a b = 0
      · exact h1
      · rw [gtxE, if_pos h1] at h; exact absurd h h1
    rw [gtxE, if_neg (by simp [hx])] at h
    rw [List.cons_append, gtxE, if_neg (by simp [hx]), ih h]
theorem gtxE_err (ys zs : List Itm) (a b : Int) (h : gtxE ys a b ≠ 0) : gtxE (ys ++ zs) a b = gtxE ys a b := by
  induction ys with
  | nil => exact absurd rfl h
  | cons x xs ih =>
    by_cases h1 : tE x a b = 0
    · rw [gtxE, if_neg (by simp [h1])] at h
      rw [List.cons_append, gtxE, gtxE, if_neg (by simp [h1]), if_neg (by simp [h1]), ih h]
    · rw [List.cons_append, gtxE, gtxE, if_pos h1, if_pos h1]
theorem string_info : (Tryz.prog.info? 9).map (fun i => (i.zero, i.size, i.bytes)) = some (some (.string .empty), 1, 16) := by kernel_rfl

theorem own_lower {w : World} {base base' size n : Nat} {e : TypeId} {v : Value} {xs : List Value} (h : w.ownsRow base e size v n xs) (hb : base' ≤ base) : w.ownsRow base' e size v n xs := by
  refine ⟨h.1, ?_⟩
  rcases h.2 with h1 | ⟨g, cap, cur, hv, hg, rest⟩
  · exact .inl h1
  · exact .inr ⟨g, cap, cur, hv, by omega, rest⟩
set_option maxRecDepth 100000 in
set_option maxHeartbeats 400000 in
theorem getTexts_any (l : Bool) (s : ByteArray) (A : Option Addr) (n c : Nat) (ys : List Itm) (many least most : Int) (w : World) (hS : SubV (fun g => g < w.heap.size) w ys (.slice A n c)) (hn : n ≤ 100000) :
    Calls Tryz.prog 38 #[.agg #[.bool l, .string s, .slice A n c], .int .i64 many, .int .i64 least, .int .i64 most] w fun e w' => ∃ (v : Value) (xs : List Itm), e = .returned (.tuple #[v, .int .i64 (gtE l n many least most ys)]) ∧ w'.ownsRow w.heap.size 9 1 v xs.length (xs.map fun y => Value.string y.bytes) ∧ xs = gtR (gtE l n many least most ys) ys ∧ w.grownBy w' none := by
  have hB := Blk.new w 40 #[.bool l, .string s, .slice A n c]
  have hG := only_alloc (World.grownBy.refl w none) (.cells #[.bool l, .string s, .slice A n c] 40)
  have hz : (w.alloc (.cells #[.bool l, .string s, .slice A n c] 40)).heap.size = w.heap.size + 1 := by simp
  have HNL := Lib.hid hS.row.1
  have hS := hS.grown hG
  have HI := Lib.hid string_info
  go_enter Tryz.func38, Tryz.ntmps38
  go_upto_region 1 with (fail)
  obtain ⟨b, hb⟩ : ∃ b, w.heap.size = b := ⟨_, rfl⟩
  have HW := Lib.hid hb
  rw [hb] at hB hz ⊢
  generalize w.alloc (.cells #[.bool l, .string s, .slice A n c] 40) = W1 at *
  have c0 := hB.cell 0; have c1 := hB.cell 1; have c2 := hB.cell 2
  simp only [List.getElem?_toArray, List.getElem?_cons_zero, List.getElem?_cons_succ] at c0 c1 c2
  go_wp2_with fail
  refine (getList_any l s A n c 0 many _).mono ?_
  rintro e w3 ⟨rfl, hg3⟩
  have hlv : ∃ A' N c', (if l = true ∧ textE n 0 many = 0 then Value.slice A n c else .slice none 0 0) = .slice A' N c' ∧ SubV (fun g => g < w.heap.size) w3 (gtYs l n many ys) (.slice A' N c') ∧ N = (gtYs l n many ys).length ∧ N ≤ 100000 := by
    unfold gtYs
    by_cases hL : l = true ∧ textE n 0 many = 0
    · rw [if_pos hL, if_pos hL]
      exact ⟨A, n, c, rfl, hS.grown hg3, HNL.out, hn⟩
    · rw [if_neg hL, if_neg hL]
      exact ⟨none, 0, 0, rfl, .mk [] none 0 [] (fun h => by cases h) (fun i h => by cases h), rfl, by omega⟩
  have HGE : Hid (gtE l n many least most ys = if gtxE (gtYs l n many ys) least most ≠ 0 then gtxE (gtYs l n many ys) least most else if l then textE n 0 many else 2) := Lib.hid rfl
  have hlink : gtE l n many least most ys = 0 → gtYs l n many ys = ys := by
    intro h0
    unfold gtE at h0
    unfold gtYs at h0 ⊢
    by_cases hL : l = true ∧ textE n 0 many = 0
    · rw [if_pos hL]
    · rw [if_neg hL] at h0
      rw [show gtxE [] least most = 0 from rfl, if_neg (by simp)] at h0
      cases l with
      | false => simp at h0
      | true => exact absurd ⟨rfl, by simpa using h0⟩ hL
  have hlink2 : (if l = true then textE n 0 many else 2) ≠ 0 → gtYs l n many ys = [] := by
    intro h0
    unfold gtYs
    rw [if_neg]
    rintro ⟨rfl, h1⟩
    rw [if_pos rfl] at h0
    exact h0 h1
  obtain ⟨A', N, c', hv, hS', hN, hNn⟩ := hlv
  rw [hv]
  generalize hE1 : (if l = true then textE n 0 many else 2) = e1 at *
  generalize gtYs l n many ys = zs at *
  obtain ⟨E, hE⟩ : ∃ E, gtE l n many least most ys = E := ⟨_, rfl⟩
  rw [hE] at HGE hlink
  have HE := Lib.hid hE
  have HL := Lib.hid hlink
  have HL2 := Lib.hid hlink2
  have HN := Lib.hid hN
  have hle3 : b + 1 ≤ w3.heap.size := by have := hg3.size; omega
  have HG3 := Lib.hid (grown_self hG hg3 (by simp))
  have H3 := Lib.hid hS'
  have HB3 := Lib.hid hle3
  obtain ⟨b3, hb3⟩ : ∃ b, w3.heap.size = b := ⟨_, rfl⟩
  have HE3 := Lib.hid hb3
  obtain ⟨i0, hi, hz0, hzs, hzb⟩ := info_parts string_info
  clear hb3 hE hb hlink hlink2 hv hE1 c0 c1 c2 hB hG hS hS' hg3 hN hz hle3
  go_wp2_with fail
  go_loopw [12, 25] (fun v i wr => ∃ k : Nat, i = .int .i64 k ∧ k ≤ N ∧ gtxE (zs.take k) least most = 0 ∧ wr.ownsRow b3 9 1 v k ((zs.take k).map fun y => Value.string y.bytes) ∧ w3.grownBy wr none) (fun _ i _ => N - (intOf i).toNat)
  case atStart => exact ⟨0, rfl, by omega, rfl, World.ownsRow_nil _ _ _ _, World.grownBy.refl _ _⟩
  case round =>
    obtain ⟨k, rfl, hk, hx, hO, hG⟩ := hrel
    have hsz : b3 ≤ wr.heap.size := by have := hG.size; have := HE3.out; omega
    by_cases hlt : k < N
    · obtain ⟨vs, hvs, hrow⟩ := (H3.out.grown hG).row.2
      have hkz : k < zs.length := by have := HN.out; omega
      obtain ⟨g, off, rfl, hgS, hc⟩ := hrow (by omega)
      obtain ⟨c0, c1, c2⟩ := hc k hkz
      have hzk : zs[k]? = some (zs.getD k Itm.none_) := by rw [List.getD_eq_getElem?_getD, List.getElem?_eq_getElem hkz]; rfl
      have htk : zs.take (k + 1) = zs.take k ++ [zs.getD k Itm.none_] := by rw [List.take_add_one, hzk]; rfl
      have q1 : (k : Int) < (N : Int) := by omega
      obtain ⟨iA, ic, hyv⟩ := (hvs k hkz).slice
      rw [hyv] at c2
      generalize (zs.getD k Itm.none_).items.length = iN at *
      generalize zs.getD k Itm.none_ = y at *
      obtain ⟨yl, yb, yi⟩ := y
      have HTK := Lib.hid htk
      have HX := Lib.hid hx
      clear hyv hc hrow hvs hzk htk hx hkz hgS
      obtain ⟨oA, oc, rfl⟩ := own_slice3 hO
      simp only [Itm.list, Itm.bytes] at c0 c1
      obtain ⟨b14, hb14⟩ : ∃ b, wr.heap.size = b := ⟨_, rfl⟩
      have hB14 := Blk.new wr 40 #[.bool yl, .string yb, .slice iA iN ic]
      have hO := hO.alloc (.cells #[.bool yl, .string yb, .slice iA iN ic] 40)
      have hG := only_alloc hG (.cells #[.bool yl, .string yb, .slice iA iN ic] 40)
      have hsz : b3 ≤ (wr.alloc (.cells #[.bool yl, .string yb, .slice iA iN ic] 40)).heap.size := by simp; omega
      rw [hb14] at hB14
      go_upto_region 6 with (fail)
      generalize wr.alloc (.cells #[.bool yl, .string yb, .slice iA iN ic] 40) = W5 at *
      clear c0 c1 c2
      have c0 := hB14.cell 0; have c1 := hB14.cell 1; have c2 := hB14.cell 2
      simp only [List.getElem?_toArray, List.getElem?_cons_zero, List.getElem?_cons_succ] at c0 c1 c2
      clear hb14 hB14
      go_wp2_with fail
      refine (getText_any yl yb (.slice iA iN ic) least most _).mono ?_
      rintro e w6 ⟨rfl, hg6⟩
      have hO := hO.kept hg6 (by cases oA; exact .inl rfl; exact .inr (by simp [Value.ownBlock]))
      have hsz6 := hg6.size
      have hG := grown_self hG hg6 (by simp)
      clear c0 c1 c2
      have HTE : Hid (tE (.mk yl yb yi) least most = if yl = true then 2 else textE yb.size least most) := Lib.hid rfl
      generalize hEE : (if yl = true then 2 else textE yb.size least most) = ee at *
      by_cases h0 : ee = 0
      · have hl0 : yl = false ∧ textE yb.size least most = 0 := by
          cases yl with
          | true => rw [if_pos rfl] at hEE; omega
          | false => rw [if_neg (by simp)] at hEE; exact ⟨rfl, hEE.trans h0⟩
        rw [if_pos hl0]
        have h0' : (ee != 0) = false := by simp [h0]
        clear hEE hl0
        subst h0
        go_wp2_with (at_builtin; refine wpList_append_own _ rfl _ _ 23 rfl b3 9 i0 _ 1 16 Tryz.underlying23 hi hz0 hzs hzb rfl (by decide) _ _ _ rfl (hO.alloc _) ⟨w6.heap.size, 0, none⟩ 1 1 [.string yb] rfl rfl (cell_one_new _ _ _) (by simp [Value.oneCell']) (by simp only [maxLen]; omega) (by omega) (by simp; omega) ?_; intro v' w7 hown7 hgrow _)
        refine ⟨⟨k + 1, by go_num, by omega, ?_, ?_, ?_⟩, by simp [intOf]; omega⟩
        · rw [HTK.out, gtxE_snoc _ _ _ _ HX.out]; exact HTE.out
        · rw [HTK.out, List.map_append]; exact hown7
        · exact grown_self (only_alloc hG _) hgrow (fun j hj => .inr (by have := own_ge hO hj; have := HE3.out; omega))
      · have hl0 : ¬ (yl = false ∧ textE yb.size least most = 0) := by
          rintro ⟨rfl, h1⟩
          rw [if_neg (by simp)] at hEE; exact h0 (hEE.symm.trans h1)
        rw [if_neg hl0]
        have h0' : (ee != 0) = true := by simp [h0]
        clear hEE hl0
        go_wp2_with fail
        refine bodyPost_ret (results_tmp2 rfl _ _ _) rfl ?_
        have hee : gtxE zs least most = ee := by
          have h1 : gtxE (zs.take (k + 1)) least most = ee := by rw [HTK.out, gtxE_snoc _ _ _ _ HX.out]; exact HTE.out
          rw [← List.take_append_drop (k + 1) zs, gtxE_err _ _ _ _ (by rw [h1]; exact h0), h1]
        have hEv : E = ee := by rw [HGE.out, hee, if_pos h0]
        have hEE := HE.out.trans hEv
        exact ⟨_, [], by rw [hEE]; rfl, World.ownsRow_nil _ _ _ _, by rw [hEE]; exact (if_neg h0).symm, grown_self HG3.out hG (by simp)⟩
    · obtain rfl : k = N := by omega
      have hfin : decide ((k : Int) < (k : Int)) = false := by simp
      go_wp2_with fail
      refine bodyPost_ret (results_tmp2 rfl _ _ _) rfl ?_
      have ht : zs.take k = zs := List.take_of_length_le (by have := HN.out; omega)
      rw [ht] at hx hO
      have hEv : E = e1 := by rw [HGE.out, hx, if_neg (by simp)]
      have hEE := HE.out.trans hEv
      have hzl : zs = if e1 = 0 then ys else [] := by
        by_cases h1 : e1 = 0
        · rw [if_pos h1, HL.out (hEv.trans h1)]
        · rw [if_neg h1, HL2.out h1]
      have hzk : zs.length = k := HN.out.symm
      exact ⟨_, zs, by rw [hEE]; rfl, by rw [hzk]; exact own_lower hO (by have := HE3.out; have := HG3.out.size; omega), by rw [hEE]; exact hzl, grown_self HG3.out hG (by simp)⟩
end Go.Proofs.YtagjpbcmhaekpaaGreatDoor
/- Texts of bytes (for a program without rows of bytes), and the length of a head. -/
namespace Go.Proofs.YtagjpbcmhaekpaaGreatDoor
open Go.RowKit Go.Shelf

theorem take_snoc {α : Type} (xs : List α) (k : Nat) (d : α) (hk : k < xs.length) : xs.take (k + 1) = xs.take k ++ [xs.getD k d] := by
  rw [List.take_succ_eq_append_getElem hk, List.getD_eq_getElem?_getD, List.getElem?_eq_getElem hk]; rfl
theorem at_getD {α : Type} {xs : List α} {k : Nat} (d : α) (hk : k < xs.length) : xs[k]? = some (xs.getD k d) := by
  rw [List.getD_eq_getElem?_getD, List.getElem?_eq_getElem hk]; rfl

/-- the number of bytes, the highest one first -/
def valL (l : List UInt8) : Nat := l.foldl (fun n b => n * 256 + b.toNat) 0
theorem valL_snoc (l : List UInt8) (b : UInt8) : valL (l ++ [b]) = valL l * 256 + b.toNat := by simp [valL]
theorem valL_lt (l : List UInt8) : valL l < 256 ^ l.length := by
  have key : ∀ r : List UInt8, valL r.reverse < 256 ^ r.reverse.length := by
    intro r
    induction r with
    | nil => simp [valL]
    | cons b r ih =>
      rw [List.reverse_cons, valL_snoc, List.length_append, Nat.pow_add]
      have := b.toNat_lt
      simp at *; omega
  have := key l.reverse
  rwa [List.reverse_reverse] at this
theorem or_low (n : Nat) (b : UInt8) : n * 256 ||| b.toNat = n * 256 + b.toNat := by
  have := b.toNat_lt
  rw [show n * 256 = n <<< 8 by rw [Nat.shiftLeft_eq], Nat.shiftLeft_add_eq_or_of_lt (by omega)]

/-- the length in the bytes behind a head -/
def lenB (l : List UInt8) (a m : Nat) : Nat := valL ((l.drop (a + 1)).take m)
def lengthE (l : List UInt8) (a m : Nat) : Int := if 3 < m then 5 else if l.length < a + 1 + m then 3 else if (l.getD (a + 1) 0).toNat = 0 ∨ lenB l a m < 56 then 8 else 0
theorem lenB_lt (l : List UInt8) (a m : Nat) (hm : m ≤ 3) : lenB l a m ≤ 16777215 := by
  unfold lenB
  have h1 := valL_lt ((l.drop (a + 1)).take m)
  have h2 : ((l.drop (a + 1)).take m).length ≤ 3 := by rw [List.length_take]; omega
  have h3 : 256 ^ ((l.drop (a + 1)).take m).length ≤ 256 ^ 3 := Nat.pow_le_pow_right (by omega) h2
  have h4 : (256 : Nat) ^ 3 = 16777216 := rfl
  omega
theorem lenB_succ (l : List UInt8) (a k : Nat) (h : a + 1 + k < l.length) : lenB l a (k + 1) = lenB l a k * 256 + (l.getD (a + 1 + k) 0).toNat := by
  unfold lenB
  rw [take_snoc _ k 0 (by rw [List.length_drop]; omega), valL_snoc]
  congr 2
  rw [List.getD_eq_getElem?_getD, List.getElem?_drop, List.getD_eq_getElem?_getD]

theorem results_ct {P : Program} {fn : Func} {p q : Tmp} {t : TypeId} (h : fn.results = #[.cell p t, .tmp q]) (tmps : Array Value) (w : World) (a : Addr) (x : Value) (hp : tmps.getD p undef = .pointer (some a))
    (hx : (loadVar t a).run P w = .ok x w) : (results fn tmps).run P w = .ok (.tuple #[x, tmps.getD q undef]) w := by
  have hp' : tmps[p]?.getD undef = .pointer (some a) := by simpa using hp
  simp [results, h, hp', asAddr, hx]
theorem load_own {w : World} {g : Nat} {a b c : Value} (hg : Blk w g 106 #[a, b, c]) : (loadVar 106 ⟨g, 0, none⟩).run Tryz.prog w = .ok (.agg #[a, b, c]) w :=
  run_loadVar_row w g 106 106 _ (0, 0) _ hg Tryz.underlying106 rfl (by kernel_rfl)

set_option maxRecDepth 100000 in
set_option maxHeartbeats 2000000 in
theorem length_any (s : ByteArray) (a m : Nat) (ha : a < s.size) (hs : s.size ≤ 9223372036854775807) (hm : 1 ≤ m) (hm8 : m ≤ 8) (w : World) :
    Calls Tryz.prog 83 #[.string s, .int .i64 (a : Int), .int .i64 (m : Int)] w fun e w' => e = .returned (.tuple #[.agg #[.int .i64 (if lengthE s.data.toList a m = 0 then ((a + 1 + m : Nat) : Int) else 0), .int .i64 (if lengthE s.data.toList a m = 0 then ((lenB s.data.toList a m : Nat) : Int) else 0), .bool false], .int .i64 (lengthE s.data.toList a m)]) ∧ w.grownBy w' none := by
  obtain ⟨l, hl⟩ : ∃ l, s.data.toList = l := ⟨_, rfl⟩
  have hlz : l.length = s.size := by rw [← hl, ba_len]
  rw [hl]
  have HS := Lib.hid hl; have HZ := Lib.hid hlz
  clear hl hlz
  have hw0 := Blk.new w 106 #[.int .i64 0, .int .i64 0, .bool false]
  have hG0 : w.grownBy (w.alloc (.cells #[.int .i64 0, .int .i64 0, .bool false] 106)) none := only_alloc (World.grownBy.refl _ _) _
  by_cases h1 : 3 < m
  · have hE : lengthE l a m = 5 := by unfold lengthE; rw [if_pos h1]
    rw [hE]
    have d1 : decide ((3 : Int) < (m : Int)) = true := decide_eq_true (by omega)
    have d1' : decide (3 < m) = true := decide_eq_true h1
    clear hE
    go_enter Tryz.func83, Tryz.ntmps83
    go_wp2_with fail
    refine bodyPost_ret (results_ct (fn := Tryz.f83) rfl _ _ _ _ rfl (load_own hw0)) rfl ?_
    exact ⟨by simp, hG0⟩
  have d1 : decide ((3 : Int) < (m : Int)) = false := decide_eq_false (by omega)
  have d1' : decide (3 < m) = false := decide_eq_false h1
  have v1 : IntKind.i64.wrap ((s.size : Int) - (a : Int)) = (s.size : Int) - (a : Int) := IntWalk.i64_in _ (by omega)
  have v2 : IntKind.i64.wrap ((s.size : Int) - (a : Int) - 1) = (s.size : Int) - (a : Int) - 1 := IntWalk.i64_in _ (by omega)
  by_cases h2 : s.size < a + 1 + m
  · have hE : lengthE l a m = 3 := by unfold lengthE; rw [if_neg h1, if_pos (by have := HZ.out; omega)]
    rw [hE]
    have d2 : decide ((s.size : Int) - (a : Int) - 1 < (m : Int)) = true := decide_eq_true (by omega)
    have d2' : (s.size : Int) - (a : Int) - 1 < (m : Int) := by omega
    clear hE
    go_enter Tryz.func83, Tryz.ntmps83
    go_wp2_with fail
    refine bodyPost_ret (results_ct (fn := Tryz.f83) rfl _ _ _ _ rfl (load_own hw0)) rfl ?_
    exact ⟨by simp, hG0⟩
  have d2 : decide ((s.size : Int) - (a : Int) - 1 < (m : Int)) = false := decide_eq_false (by omega)
  have d2' : ¬ ((s.size : Int) - (a : Int) - 1 < (m : Int)) := by omega
  have hE0 : lengthE l a m = if (l.getD (a + 1) 0).toNat = 0 ∨ lenB l a m < 56 then 8 else 0 := by unfold lengthE; rw [if_neg h1, if_neg (by have := HZ.out; omega)]
  have hl1 : a + 1 < l.length := by have := HZ.out; omega
  have hid1 : ∀ W, (Instr.index 9 (.string s) (.int .i64 ((a : Int) + 1))).run Tryz.prog W = .ok (.int .u8 ((l.getD (a + 1) 0).toNat : Int)) W := fun W => by
    have := idx_str s (a + 1) (l.getD (a + 1) 0) (by rw [HS.out]; exact at_getD 0 hl1) W
    simpa using this
  have hv := lenB_lt l a m (by omega)
  have hcl := (l.getD (a + 1) 0).toNat_lt
  obtain ⟨c, hc⟩ : ∃ c, (l.getD (a + 1) 0).toNat = c := ⟨_, rfl⟩
  obtain ⟨V, hV⟩ : ∃ v, lenB l a m = v := ⟨_, rfl⟩
  rw [hc] at hE0 hcl hid1
  rw [hV] at hE0 hv ⊢
  obtain ⟨E, hE⟩ : ∃ e, lengthE l a m = e := ⟨_, rfl⟩
  rw [hE] at hE0 ⊢
  have HE0 := Lib.hid hE0; have HV := Lib.hid hV
  clear hE0 hE hV hc
  have e1 : IntKind.i64.wrap ((a : Int) + 1) = (a : Int) + 1 := IntWalk.i64_in _ (by omega)
  have e3 : IntKind.i64.wrap ((a : Int) + 1 + (m : Int)) = (a : Int) + 1 + (m : Int) := IntWalk.i64_in _ (by omega)
  go_enter Tryz.func83, Tryz.ntmps83
  go_wp2_with fail
  go_loopw [8, 22] (fun n i wr => ∃ k : Nat, i = .int .i64 (k : Int) ∧ k ≤ m ∧ n = .int .i64 (lenB l a k : Nat) ∧ wr = w.alloc (.cells #[.int .i64 0, .int .i64 0, .bool false] 106)) (fun _ i _ => m - (intOf i).toNat)
  case atStart => exact ⟨0, rfl, by omega, by simp [lenB, valL], by first | rfl | trivial⟩
  case round =>
    obtain ⟨k, rfl, hk, rfl, rfl⟩ := hrel
    by_cases hlt : k < m
    · have hl1 : a + 1 + k < l.length := by have := HZ.out; omega
      have hsn := lenB_succ l a k hl1
      have hid : ∀ W, (Instr.index 9 (.string s) (.int .i64 ((a : Int) + 1 + (k : Int)))).run Tryz.prog W = .ok (.int .u8 ((l.getD (a + 1 + k) 0).toNat : Int)) W := fun W => by
        have := idx_str s (a + 1 + k) (l.getD (a + 1 + k) 0) (by rw [HS.out]; exact at_getD 0 hl1) W
        simpa using this
      have hv := lenB_lt l a k (by omega)
      have hv2 := lenB_lt l a (k + 1) (by omega)
      have hor := or_low (lenB l a k) (l.getD (a + 1 + k) 0)
      generalize l.getD (a + 1 + k) 0 = c at *
      have hcl := c.toNat_lt
      obtain ⟨V1, hV1⟩ : ∃ v, lenB l a (k + 1) = v := ⟨_, rfl⟩
      rw [hV1] at hsn hv2
      have HV := Lib.hid hV1
      clear hV1 hl1
      generalize lenB l a k = V at *
      have hb : bits .or .i64 ((V : Int) * 256) (c.toNat : Int) = (V1 : Int) := by
        have := i64_or_nat (V * 256) c.toNat (by omega) (by omega)
        rw [hor, ← hsn] at this
        rw [← this]; simp
      have HBT := Lib.hid hb
      have e2 : IntKind.i64.wrap ((a : Int) + 1 + (k : Int)) = (a : Int) + 1 + (k : Int) := IntWalk.i64_in _ (by omega)
      clear hb hor hid1
      go_wp2_with fail
      exact ⟨⟨k + 1, by simp, by omega, by rw [HBT.out, HV.out], by first | rfl | trivial⟩, by simp [intOf]; omega⟩
    · obtain rfl : k = m := by omega
      have q1 : decide ((k : Int) < (k : Int)) = false := by simp
      rw [HV.out]
      have hE1 := HE0.out
      clear HE0
      by_cases h3 : c = 0
      · rw [if_pos (.inl h3)] at hE1
        subst hE1
        subst h3
        go_wp2_with fail
        refine bodyPost_ret (results_ct (fn := Tryz.f83) rfl _ _ _ _ rfl (load_own hw0)) rfl ?_
        exact ⟨by simp, hG0⟩
      · have d3 : ((c : Int) == 0) = false := by simp; omega
        by_cases h4 : V < 56
        · rw [if_pos (.inr h4)] at hE1
          subst hE1
          have d4 : decide ((V : Int) < 56) = true := decide_eq_true (by omega)
          have d4' : decide (V < 56) = true := decide_eq_true h4
          clear h3
          go_wp2_with fail
          refine bodyPost_ret (results_ct (fn := Tryz.f83) rfl _ _ _ _ rfl (load_own hw0)) rfl ?_
          exact ⟨by simp, hG0⟩
        · rw [if_neg (by omega)] at hE1
          subst hE1
          have d4 : decide ((V : Int) < 56) = false := decide_eq_false (by omega)
          have d4' : decide (V < 56) = false := decide_eq_false h4
          clear h3
          go_wp2_with fail
          refine bodyPost_ret (results_ct (fn := Tryz.f83) rfl _ _ _ _ rfl (load_own (Blk.new w _ _))) rfl ?_
          exact ⟨by simp, only_alloc (World.grownBy.refl _ _) _⟩
end Go.Proofs.YtagjpbcmhaekpaaGreatDoor
/- What a head tells (look). -/
namespace Go.Proofs.YtagjpbcmhaekpaaGreatDoor
open Go.RowKit Go.Shelf

def headC (l : List UInt8) (a : Nat) : Nat := (l.getD a 0).toNat
/-- a head, whatever stands behind it: what is wrong, where its own begins, how much it is -/
def rawE (l : List UInt8) (a : Nat) : Int := if headC l a < 128 then 0 else if (headC l a - 128) % 64 < 56 then 0 else lengthE l a ((headC l a - 128) % 64 - 55)
def rawFrom (l : List UInt8) (a : Nat) : Nat := if headC l a < 128 then a else if (headC l a - 128) % 64 < 56 then a + 1 else a + 1 + ((headC l a - 128) % 64 - 55)
def rawN (l : List UInt8) (a : Nat) : Nat := if headC l a < 128 then 1 else if (headC l a - 128) % 64 < 56 then (headC l a - 128) % 64 else lenB l a ((headC l a - 128) % 64 - 55)
/-- what is wrong with the head at a place -/
def lookE (l : List UInt8) (i : Int) : Int :=
  if i < 0 ∨ (l.length : Int) < i then 1 else if i = l.length then 3 else if rawE l i.toNat ≠ 0 then rawE l i.toNat else
  if l.length < rawFrom l i.toNat + rawN l i.toNat then 3 else if headC l i.toNat = 129 ∧ headC l (i.toNat + 1) < 128 then 8 else 0
def lookFrom (l : List UInt8) (i : Int) : Nat := if lookE l i = 0 then rawFrom l i.toNat else 0
def lookN (l : List UInt8) (i : Int) : Nat := if lookE l i = 0 then rawN l i.toNat else 0
def lookL (l : List UInt8) (i : Int) : Bool := if lookE l i = 0 then decide (192 ≤ headC l i.toNat) else false

theorem look_bad {l : List UInt8} {i e : Int} (h : lookE l i = e) (h0 : e ≠ 0) : lookFrom l i = 0 ∧ lookN l i = 0 ∧ lookL l i = false := by
  subst h
  exact ⟨if_neg h0, if_neg h0, if_neg h0⟩
theorem headC_lt (l : List UInt8) (a : Nat) : headC l a < 256 := by unfold headC; exact (l.getD a 0).toNat_lt
theorem only_weak {a w : World} (h : a.grownBy w none) (row : Option Nat) : a.grownBy w row := ⟨h.os, h.tape, h.output, h.size, fun i hi _ => h.block i hi (by simp)⟩
theorem rawFrom_le {l : List UInt8} {a : Nat} (ha : a < l.length) (h : rawE l a = 0) : rawFrom l a ≤ l.length ∧ a ≤ rawFrom l a ∧ rawFrom l a ≤ a + 4 ∧ a < rawFrom l a + rawN l a ∧ rawN l a ≤ 16777215 := by
  unfold rawE at h
  unfold rawFrom rawN
  split at h
  · rename_i h1; rw [if_pos h1, if_pos h1]; omega
  · rename_i h1
    rw [if_neg h1, if_neg h1]
    split at h
    · rename_i h2; rw [if_pos h2, if_pos h2]; have := headC_lt l a; omega
    · rename_i h2
      rw [if_neg h2, if_neg h2]
      unfold lengthE at h
      split at h
      · cases h
      · rename_i h3
        split at h
        · cases h
        · have := lenB_lt l a ((headC l a - 128) % 64 - 55) (by omega)
          omega

theorem look_ok {l : List UInt8} {a : Nat} (h : lookE l (a : Int) = 0) : a < l.length ∧ lookFrom l (a : Int) + lookN l (a : Int) ≤ l.length ∧ a ≤ lookFrom l (a : Int) ∧ a < lookFrom l (a : Int) + lookN l (a : Int) ∧ lookFrom l (a : Int) ≤ a + 4 ∧ lookL l (a : Int) = decide (192 ≤ headC l a) := by
  have h1 : lookFrom l (a : Int) = rawFrom l a := by unfold lookFrom; rw [if_pos h, Int.toNat_natCast]
  have h2 : lookN l (a : Int) = rawN l a := by unfold lookN; rw [if_pos h, Int.toNat_natCast]
  have h3 : lookL l (a : Int) = decide (192 ≤ headC l a) := by unfold lookL; rw [if_pos h, Int.toNat_natCast]
  rw [h1, h2, h3]
  unfold lookE at h
  split at h
  · cases h
  rename_i g1
  split at h
  · cases h
  rename_i g2
  rw [Int.toNat_natCast] at h
  split at h
  · rename_i g3; exact absurd h g3
  rename_i g3
  split at h
  · cases h
  have := rawFrom_le (l := l) (a := a) (by omega) (by omega)
  exact ⟨by omega, by omega, by omega, by omega, by omega, rfl⟩
theorem blk_set3 {w : World} {g : Nat} {t : TypeId} {a b c : Value} (h : Blk w g t #[a, b, c]) (x y z : Value) : Blk (((w.setCell ⟨g, 0, none⟩ x).setCell ⟨g, 1, none⟩ y).setCell ⟨g, 2, none⟩ z) g t #[x, y, z] := by
  have := ((h.set_ 0 x).set_ 1 y).set_ 2 z
  simpa using this
theorem only_set3 {a w : World} {row : Option Nat} (h : a.grownBy w row) {g : Nat} (hg : a.heap.size ≤ g) (x y z : Value) : a.grownBy (((w.setCell ⟨g, 0, none⟩ x).setCell ⟨g, 1, none⟩ y).setCell ⟨g, 2, none⟩ z) row :=
  only_set (only_set (only_set h (p := ⟨g, 0, none⟩) hg x) (p := ⟨g, 1, none⟩) hg y) (p := ⟨g, 2, none⟩) hg z

set_option maxRecDepth 100000 in
set_option maxHeartbeats 4000000 in
theorem look_any (s : ByteArray) (i : Int) (hs : s.size ≤ 9223372036854770000) (w : World) :
    Calls Tryz.prog 71 #[.string s, .int .i64 i] w fun e w' => e = .returned (.tuple #[.agg #[.int .i64 (lookFrom s.data.toList i : Nat), .int .i64 (lookN s.data.toList i : Nat), .bool (lookL s.data.toList i)], .int .i64 (lookE s.data.toList i)]) ∧ w.grownBy w' none := by
  obtain ⟨l, hl⟩ : ∃ l, s.data.toList = l := ⟨_, rfl⟩
  have hlz : l.length = s.size := by rw [← hl, ba_len]
  have hlen := fun a m h1 h2 h3 W => length_any s a m h1 (by omega) h2 h3 W
  rw [hl] at hlen ⊢
  have HS := Lib.hid hl; have HZ := Lib.hid hlz
  clear hl
  have hw0 := Blk.new w 106 #[.int .i64 0, .int .i64 0, .bool false]
  have hG0 : w.grownBy (w.alloc (.cells #[.int .i64 0, .int .i64 0, .bool false] 106)) none := only_alloc (World.grownBy.refl _ _) _
  by_cases h1 : i < 0 ∨ (s.size : Int) < i
  · have hE : lookE l i = 1 := by unfold lookE; rw [if_pos (by rw [hlz]; exact h1)]
    obtain ⟨b1, b2, b3⟩ := look_bad hE (by decide)
    rw [hE, b1, b2, b3]
    clear hE b1 b2 b3 hlz hlen
    by_cases h2 : i < 0
    · clear h1
      go_enter Tryz.func71, Tryz.ntmps71
      go_wp2_with fail
      refine bodyPost_ret (results_ct (fn := Tryz.f71) rfl _ _ _ _ rfl (load_own hw0)) rfl ?_
      exact ⟨by simp, hG0⟩
    · have d1 : decide (i < 0) = false := decide_eq_false h2
      have h3 : (s.size : Int) < i := by omega
      clear h1 h2
      go_enter Tryz.func71, Tryz.ntmps71
      go_wp2_with fail
      refine bodyPost_ret (results_ct (fn := Tryz.f71) rfl _ _ _ _ rfl (load_own hw0)) rfl ?_
      exact ⟨by simp, hG0⟩
  obtain ⟨a, rfl⟩ := Int.eq_ofNat_of_zero_le (show 0 ≤ i by omega)
  have ha : a ≤ s.size := by omega
  have d1 : decide ((a : Int) < 0) = false := decide_eq_false (by omega)
  have d1' : decide ((s.size : Int) < (a : Int)) = false := decide_eq_false (by omega)
  have d1'' : decide (s.size < a) = false := decide_eq_false (by omega)
  by_cases h2 : a = s.size
  · have hE : lookE l (a : Int) = 3 := by unfold lookE; rw [if_neg (by rw [hlz]; exact h1), if_pos (by omega)]
    obtain ⟨b1, b2, b3⟩ := look_bad hE (by decide)
    rw [hE, b1, b2, b3]
    clear hE b1 b2 b3 hlz hlen h1
    subst h2
    go_enter Tryz.func71, Tryz.ntmps71
    go_wp2_with fail
    refine bodyPost_ret (results_ct (fn := Tryz.f71) rfl _ _ _ _ rfl (load_own hw0)) rfl ?_
    exact ⟨by simp, hG0⟩
  have hal : a < l.length := by omega
  have d2 : ((a : Int) == (s.size : Int)) = false := by simp; omega
  have d2' : (a == s.size) = false := by simp; omega
  have hE0 : lookE l (a : Int) = if rawE l a ≠ 0 then rawE l a else if l.length < rawFrom l a + rawN l a then 3 else if headC l a = 129 ∧ headC l (a + 1) < 128 then 8 else 0 := by
    unfold lookE; rw [if_neg (by rw [hlz]; exact h1), if_neg (by omega), Int.toNat_natCast]
  have hid := fun W => idx_str s a (l.getD a 0) (by rw [HS.out]; exact at_getD 0 hal) W
  have hcl := headC_lt l a
  have hrle := rawFrom_le hal
  have hfr : lookE l (a : Int) = 0 → lookFrom l (a : Int) = rawFrom l a ∧ lookN l (a : Int) = rawN l a ∧ lookL l (a : Int) = decide (192 ≤ headC l a) := fun h => by
    unfold lookFrom lookN lookL
    rw [if_pos h, if_pos h, if_pos h, Int.toNat_natCast]
    exact ⟨rfl, rfl, rfl⟩
  have hcE : rawE l a = if headC l a < 128 then 0 else if (headC l a - 128) % 64 < 56 then 0 else lengthE l a ((headC l a - 128) % 64 - 55) := rfl
  have hcF : rawFrom l a = if headC l a < 128 then a else if (headC l a - 128) % 64 < 56 then a + 1 else a + 1 + ((headC l a - 128) % 64 - 55) := rfl
  have hcN : rawN l a = if headC l a < 128 then 1 else if (headC l a - 128) % 64 < 56 then (headC l a - 128) % 64 else lenB l a ((headC l a - 128) % 64 - 55) := rfl
  change ∀ W, (Instr.index 9 (.string s) (.int .i64 (a : Int))).run Tryz.prog W = .ok (.int .u8 ((headC l a : Nat) : Int)) W at hid
  obtain ⟨c, hc⟩ : ∃ c, headC l a = c := ⟨_, rfl⟩
  rw [hc] at hid hcl hfr hcE hcF hcN hE0
  obtain ⟨E, hE⟩ : ∃ e, lookE l (a : Int) = e := ⟨_, rfl⟩
  obtain ⟨F, hF⟩ : ∃ e, lookFrom l (a : Int) = e := ⟨_, rfl⟩
  obtain ⟨N, hN⟩ : ∃ e, lookN l (a : Int) = e := ⟨_, rfl⟩
  obtain ⟨L, hL⟩ : ∃ e, lookL l (a : Int) = e := ⟨_, rfl⟩
  have hbad := fun e (h : lookE l (a : Int) = e) h0 => look_bad h h0
  rw [hF, hN, hL] at hbad hfr
  rw [hE] at hE0 hfr hbad
  rw [hE, hF, hN, hL]
  clear hF hN hL hE hc
  have HBAD := Lib.hid hbad; have HFR := Lib.hid hfr; have HE0 := Lib.hid hE0; have HR := Lib.hid hrle
  clear hbad hfr hE0 hrle h1 h2
  by_cases h3 : c < 128
  · rw [if_pos h3] at hcE hcF hcN
    have hE : E = 0 := by rw [HE0.out, hcE, hcF, hcN, if_neg (by simp), if_neg (by omega), if_neg (by omega)]
    obtain ⟨rfl, rfl, rfl⟩ := HFR.out hE
    rw [hcF, hcN, decide_eq_false (by omega)]
    subst hE
    have d3 : decide ((c : Int) < 128) = true := decide_eq_true (by omega)
    have d3' : decide (c < 128) = true := decide_eq_true h3
    clear hcE hcF hcN hlen hlz h3
    go_enter Tryz.func71, Tryz.ntmps71
    go_wp2_with fail
    refine bodyPost_ret (results_ct (fn := Tryz.f71) rfl _ _ _ _ rfl (load_own (Blk.new w _ _))) rfl ?_
    exact ⟨by simp, only_alloc (World.grownBy.refl _ _) _⟩
  rw [if_neg h3] at hcE hcF hcN
  have d3 : decide ((c : Int) < 128) = false := decide_eq_false (by omega)
  have d3' : decide (c < 128) = false := decide_eq_false h3
  obtain ⟨b, hb⟩ : ∃ b, (c - 128) % 64 = b := ⟨_, rfl⟩
  have hb64 : b < 64 := by omega
  have v0 : IntKind.i64.wrap (c : Int) = (c : Int) := IntWalk.i64_in _ (by omega)
  have v1 : IntKind.i64.wrap ((c : Int) - 128) = (c : Int) - 128 := IntWalk.i64_in _ (by omega)
  have v2 : ((c : Int) - 128).tmod 64 = (b : Int) := by rw [Int.tmod_eq_emod_of_nonneg (by omega)]; omega
  have v3 : ((c : Int) - 128) % 64 = (b : Int) := by omega
  have v4 : IntKind.i64.wrap (b : Int) = (b : Int) := IntWalk.i64_in _ (by omega)
  have v5 : IntKind.i64.wrap ((a : Int) + 1) = (a : Int) + 1 := IntWalk.i64_in _ (by omega)
  rw [hb] at hcE hcF hcN
  by_cases h4 : b < 56
  · rw [if_pos h4] at hcE hcF hcN
    have d4 : decide ((56 : Int) ≤ (b : Int)) = false := decide_eq_false (by omega)
    have d4' : decide (56 ≤ b) = false := decide_eq_false (by omega)
    have v6 : IntKind.i64.wrap ((s.size : Int) - ((a : Int) + 1)) = (s.size : Int) - ((a : Int) + 1) := IntWalk.i64_in _ (by omega)
    by_cases h5 : l.length < a + 1 + b
    · have hE : E = 3 := by rw [HE0.out, hcE, hcF, hcN, if_neg (by simp), if_pos h5]
      obtain ⟨rfl, rfl, rfl⟩ := HBAD.out _ rfl (by rw [hE]; decide)
      subst hE
      have d5 : decide ((s.size : Int) - ((a : Int) + 1) < (b : Int)) = true := decide_eq_true (by omega)
      have d5' : (s.size : Int) - ((a : Int) + 1) < (b : Int) := by omega
      clear hcE hcF hcN hlen hlz h3 h4 h5
      go_enter Tryz.func71, Tryz.ntmps71
      go_wp2_with fail
      refine bodyPost_ret (results_ct (fn := Tryz.f71) rfl _ _ _ _ rfl (load_own (hw0.alloc _))) rfl ?_
      exact ⟨by simp, only_alloc hG0 _⟩
    · have d5 : decide ((s.size : Int) - ((a : Int) + 1) < (b : Int)) = false := decide_eq_false (by omega)
      have d5' : ¬ ((s.size : Int) - ((a : Int) + 1) < (b : Int)) := by omega
      have hE1 : E = if c = 129 ∧ headC l (a + 1) < 128 then 8 else 0 := by rw [HE0.out, hcE, hcF, hcN, if_neg (by simp), if_neg h5]
      by_cases h6 : c = 129
      · have hl1 : a + 1 < l.length := by omega
        have hid1 : ∀ W, (Instr.index 9 (.string s) (.int .i64 ((a : Int) + 1))).run Tryz.prog W = .ok (.int .u8 ((headC l (a + 1) : Nat) : Int)) W := fun W => by
          have := idx_str s (a + 1) (l.getD (a + 1) 0) (by rw [HS.out]; exact at_getD 0 hl1) W
          exact this
        generalize headC l (a + 1) = c1 at *
        obtain rfl : b = 1 := by omega
        by_cases h7 : c1 < 128
        · have hE : E = 8 := by rw [hE1, if_pos ⟨h6, h7⟩]
          obtain ⟨rfl, rfl, rfl⟩ := HBAD.out _ rfl (by rw [hE]; decide)
          subst hE; subst h6
          have d7 : decide ((c1 : Int) < 128) = true := decide_eq_true (by omega)
          have d7' : decide (c1 < 128) = true := decide_eq_true h7
          clear hcE hcF hcN hlen hlz h3 h4 h5 hE1 h7 hb
          go_enter Tryz.func71, Tryz.ntmps71
          go_wp2_with fail
          refine bodyPost_ret (results_ct (fn := Tryz.f71) rfl _ _ _ _ rfl (load_own (hw0.alloc _))) rfl ?_
          exact ⟨by simp, only_alloc hG0 _⟩
        · have hE : E = 0 := by rw [hE1, if_neg (by omega)]
          obtain ⟨rfl, rfl, rfl⟩ := HFR.out hE
          rw [hcF, hcN, decide_eq_false (by omega)]
          subst hE; subst h6
          have d7 : decide ((c1 : Int) < 128) = false := decide_eq_false (by omega)
          have d7' : decide (c1 < 128) = false := decide_eq_false h7
          clear hcE hcF hcN hlen hlz h3 h4 h5 hE1 h7 hb
          go_enter Tryz.func71, Tryz.ntmps71
          go_wp2_with fail
          refine bodyPost_ret (results_ct (fn := Tryz.f71) rfl _ _ _ _ rfl (load_own ((Blk.new w _ _).alloc _))) rfl ?_
          exact ⟨by simp, only_alloc (only_alloc (World.grownBy.refl _ _) _) _⟩
      · have hE : E = 0 := by rw [hE1, if_neg (by omega)]
        obtain ⟨rfl, rfl, rfl⟩ := HFR.out hE
        rw [hcF, hcN]
        subst hE
        have d6 : ((c : Int) == 129) = false := by simp; omega
        have d6' : (c == 129) = false := by simpa using h6
        obtain ⟨L0, hL0⟩ : ∃ x, decide (192 ≤ c) = x := ⟨_, rfl⟩
        have d8 : decide ((192 : Int) ≤ (c : Int)) = L0 := by rw [← hL0]; apply decide_eq_decide.2; omega
        rw [hL0]
        clear hcE hcF hcN hlen hlz h3 h4 h5 hE1 h6 hb
        go_enter Tryz.func71, Tryz.ntmps71
        go_wp2_with fail
        refine bodyPost_ret (results_ct (fn := Tryz.f71) rfl _ _ _ _ rfl (load_own ((Blk.new w _ _).alloc _))) rfl ?_
        exact ⟨by simp, only_alloc (only_alloc (World.grownBy.refl _ _) _) _⟩
  · rw [if_neg h4] at hcE hcF hcN
    have d4 : decide ((56 : Int) ≤ (b : Int)) = true := decide_eq_true (by omega)
    have d4' : decide (56 ≤ b) = true := decide_eq_true (by omega)
    obtain ⟨m, hm⟩ : ∃ m, b - 55 = m := ⟨_, rfl⟩
    have v7 : IntKind.i64.wrap ((b : Int) - 56) = (b : Int) - 56 := IntWalk.i64_in _ (by omega)
    have v8 : IntKind.i64.wrap ((b : Int) - 56 + 1) = (m : Int) := by rw [IntWalk.i64_in _ (by omega)]; omega
    have v9 : (b : Int) - 56 + 1 = (m : Int) := by omega
    have v10 : IntKind.i64.wrap (m : Int) = (m : Int) := IntWalk.i64_in _ (by omega)
    have d6 : ((c : Int) == 129) = false := by simp; omega
    have d6' : (c == 129) = false := by simp; omega
    have h6 : ¬ c = 129 := by omega
    rw [hm] at hcE hcF hcN
    have hl := hlen a m (by omega) (by omega) (by omega)
    have hlb := lenB_lt l a m
    have hlE : lengthE l a m = 0 → m ≤ 3 ∧ a + 1 + m ≤ l.length := fun h => by
      unfold lengthE at h
      split at h
      · cases h
      · split at h
        · cases h
        · omega
    generalize lengthE l a m = e0 at *
    generalize lenB l a m = V at *
    have HLB := Lib.hid hlb; have HLE := Lib.hid hlE
    clear hlen hlb hlE
    have hx0 := hw0.alloc (.cells #[.int .i64 ((a : Int) + 1), .int .i64 (b : Int), .bool false] 106)
    have hx1 := Blk.new (w.alloc (.cells #[.int .i64 0, .int .i64 0, .bool false] 106)) 106 #[.int .i64 ((a : Int) + 1), .int .i64 (b : Int), .bool false]
    rw [World.size_alloc] at hx1
    have hG1 : w.grownBy ((w.alloc (.cells #[.int .i64 0, .int .i64 0, .bool false] 106)).alloc (.cells #[.int .i64 ((a : Int) + 1), .int .i64 (b : Int), .bool false] 106)) none := only_alloc hG0 _
    clear h3 h4 hb hm
    go_enter Tryz.func71, Tryz.ntmps71
    go_wp2_with fail
    refine (hl _).mono ?_
    rintro e w2 ⟨rfl, hg⟩
    have y0 := hx0.grown hg (by simp)
    have y1 := hx1.grown hg (by simp)
    have hG2 := only_weak (grown_self hG1 hg (by simp)) none
    clear hl hx0 hx1 hG0 hG1 hg hw0
    have k0 := y0.cell 0; have k1 := y0.cell 1; have k2 := y0.cell 2
    have j0 := y1.cell 0; have j1 := y1.cell 1; have j2 := y1.cell 2
    have f0 := y0.frozen 0; have f1 := y0.frozen 1; have f2 := y0.frozen 2
    have g0 := y1.frozen 0; have g1 := y1.frozen 1; have g2 := y1.frozen 2
    simp only [List.getElem?_toArray, List.getElem?_cons_zero, List.getElem?_cons_succ] at k0 k1 k2 j0 j1 j2
    by_cases h7 : e0 = 0
    · subst h7
      simp only [if_true]
      obtain ⟨hm3, hml⟩ := HLE.out rfl
      have hV := HLB.out hm3
      have w2' : IntKind.i64.wrap ((s.size : Int) - ((a : Int) + 1 + (m : Int))) = (s.size : Int) - ((a : Int) + 1 + (m : Int)) := IntWalk.i64_in _ (by omega)
      by_cases h8 : l.length < a + 1 + m + V
      · have hE : E = 3 := by rw [HE0.out, hcE, hcF, hcN, if_neg (by simp), if_pos h8]
        obtain ⟨rfl, rfl, rfl⟩ := HBAD.out _ rfl (by rw [hE]; decide)
        subst hE
        have d5' : (s.size : Int) - ((a : Int) + 1 + (m : Int)) < (V : Int) := by omega
        clear hcE hcF hcN hlz h6 h8
        have y2 := blk_set3 y1 (.int .i64 ((a : Int) + 1 + (m : Int))) (.int .i64 (V : Int)) (.bool false)
        have hG3 := only_set3 hG2 (g := w.heap.size + 1) (by omega) (.int .i64 ((a : Int) + 1 + (m : Int))) (.int .i64 (V : Int)) (.bool false)
        have y3 : Blk (((w2.setCell ⟨w.heap.size + 1, 0, none⟩ (.int .i64 ((a : Int) + 1 + (m : Int)))).setCell ⟨w.heap.size + 1, 1, none⟩ (.int .i64 (V : Int))).setCell ⟨w.heap.size + 1, 2, none⟩ (.bool false)) w.heap.size 106 #[.int .i64 0, .int .i64 0, .bool false] := ((y0.far (p := ⟨w.heap.size + 1, 0, none⟩) (by simp) _).far (p := ⟨w.heap.size + 1, 1, none⟩) (by simp) _).far (p := ⟨w.heap.size + 1, 2, none⟩) (by simp) _
        go_wp2_with fail
        refine bodyPost_ret (results_ct (fn := Tryz.f71) rfl _ _ _ _ rfl (load_own (blk_set3 y3 _ _ _))) rfl ?_
        exact ⟨by simp, only_set3 hG3 (Nat.le_refl _) _ _ _⟩
      · have hE : E = 0 := by rw [HE0.out, hcE, hcF, hcN, if_neg (by simp), if_neg h8, if_neg (by omega)]
        obtain ⟨hF1, hF2, hF3⟩ := HFR.out hE
        rw [hcF] at hF1
        rw [hcN] at hF2
        subst hF1; subst hF2; subst hE
        have d5' : ¬ ((s.size : Int) - ((a : Int) + 1 + (m : Int)) < (N : Int)) := by omega
        have d5 : decide ((s.size : Int) - ((a : Int) + 1 + (m : Int)) < (N : Int)) = false := decide_eq_false d5'
        obtain ⟨L0, hL0⟩ : ∃ x, decide (192 ≤ c) = x := ⟨_, rfl⟩
        have d8 : decide ((192 : Int) ≤ (c : Int)) = L0 := by rw [← hL0]; apply decide_eq_decide.2; omega
        rw [hL0] at hF3
        subst hF3
        clear hcE hcF hcN hlz h6 h8
        have y2 := (blk_set3 y1 (.int .i64 ((a : Int) + 1 + (m : Int))) (.int .i64 (N : Int)) (.bool false)).set_ 2 (.bool L)
        have hG3 := only_set (only_set3 hG2 (g := w.heap.size + 1) (by omega) (.int .i64 ((a : Int) + 1 + (m : Int))) (.int .i64 (N : Int)) (.bool false)) (p := ⟨w.heap.size + 1, 2, none⟩) (by simp) (.bool L)
        have y3 := (((y0.far (p := ⟨w.heap.size + 1, 0, none⟩) (by simp) (.int .i64 ((a : Int) + 1 + (m : Int)))).far (p := ⟨w.heap.size + 1, 1, none⟩) (by simp) (.int .i64 (N : Int))).far (p := ⟨w.heap.size + 1, 2, none⟩) (by simp) (.bool false)).far (p := ⟨w.heap.size + 1, 2, none⟩) (by simp) (.bool L)
        have hld := load_own y2
        have i0 := y2.cell 0; have i1 := y2.cell 1; have i2 := y2.cell 2
        have h0 := y3.cell 0; have h1 := y3.cell 1; have h2 := y3.cell 2
        have q0 := y3.frozen 0; have q1 := y3.frozen 1; have q2 := y3.frozen 2
        simp only [List.setIfInBounds_toArray, List.set_cons_zero, List.set_cons_succ, List.getElem?_toArray, List.getElem?_cons_zero, List.getElem?_cons_succ] at i0 i1 i2 h0 h1 h2 hld
        go_wp2_with fail
        refine bodyPost_ret (results_ct (fn := Tryz.f71) rfl _ _ _ _ rfl (load_own (blk_set3 y3 _ _ _))) rfl ?_
        exact ⟨by simp, only_set3 hG3 (Nat.le_refl _) _ _ _⟩
    · have hE : E = e0 := by rw [HE0.out, hcE, if_pos h7]
      obtain ⟨rfl, rfl, rfl⟩ := HBAD.out _ rfl (by rw [hE]; exact h7)
      subst hE
      have d9 : (E != 0) = true := by simpa using h7
      have h7' := Lib.hid h7
      clear hcE hcF hcN hlz h6
      simp only [if_neg h7]
      clear h7
      have y3 := ((y0.far (p := ⟨w.heap.size + 1, 0, none⟩) (by simp) (.int .i64 0)).far (p := ⟨w.heap.size + 1, 1, none⟩) (by simp) (.int .i64 0)).far (p := ⟨w.heap.size + 1, 2, none⟩) (by simp) (.bool false)
      have hG3 := only_set3 hG2 (g := w.heap.size + 1) (by omega) (.int .i64 0) (.int .i64 0) (.bool false)
      go_wp2_with fail
      refine bodyPost_ret (results_ct (fn := Tryz.f71) rfl _ _ _ _ rfl (load_own (blk_set3 y3 _ _ _))) rfl ?_
      exact ⟨by simp, only_set3 hG3 (Nat.le_refl _) _ _ _⟩
end Go.Proofs.YtagjpbcmhaekpaaGreatDoor
/- Head. -/
namespace Go.Proofs.YtagjpbcmhaekpaaGreatDoor
open Go.RowKit Go.Shelf

end Go.Proofs.YtagjpbcmhaekpaaGreatDoor
/- Next. -/
namespace Go.Proofs.YtagjpbcmhaekpaaGreatDoor
open Go.RowKit Go.Shelf

end Go.Proofs.YtagjpbcmhaekpaaGreatDoor
