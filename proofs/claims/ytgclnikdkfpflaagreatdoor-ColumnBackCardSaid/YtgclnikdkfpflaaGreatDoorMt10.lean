/- Merged: CoJ, RowJ. -/
import Derived.Test.YtgclnikdkfpflaaGreatDoorMt1
import Derived.Test.YtgclnikdkfpflaaGreatDoorMt6
import Derived.Test.YtgclnikdkfpflaaGreatDoorMt7
import Derived.Test.YtgclnikdkfpflaaGreatDoorMt8
import Derived.Test.YtgclnikdkfpflaaGreatDoorMt9
namespace Go.Proofs.YtgclnikdkfpflaaGreatDoor
open Go.RowKit Go.Shelf
open List renaming set_cons_zero → jz, set_cons_succ → js, setIfInBounds_toArray → jb
set_option linter.unusedVariables false
set_option linter.unusedSimpArgs false
set_option maxRecDepth 100000
set_option maxHeartbeats 16000000
def pairI (a : AccV) : Itm := .mk true ⟨#[]⟩ [txt a.addr, .mk true ⟨#[]⟩ (a.keys.map txt)]
def accI (l : List AccV) : Itm := .mk true ⟨#[]⟩ (l.map pairI)
theorem two_subS (S : Nat → Prop) (V : World) (p : ByteArray) (ys : List Itm) (A : Option Addr) (c : Nat) (hS : S V.heap.size) (h : SubV S V ys (.slice A ys.length c)) :
  SubV S (V.alloc (.cells #[.bool false, .string p, .slice none 0 0, .bool true, .string ⟨#[]⟩, .slice A ys.length c] 106)) [txt p, .mk true ⟨#[]⟩ ys] (.slice (some ⟨V.heap.size, 0, none⟩) 2 2) := by
 have hb := Blk.new V 106 #[.bool false, .string p, .slice none 0 0, .bool true, .string ⟨#[]⟩, .slice A ys.length c]
 have hg := only_alloc (World.grownBy.refl V none) (.cells #[.bool false, .string p, .slice none 0 0, .bool true, .string ⟨#[]⟩, .slice A ys.length c] 106)
 have hn : ∀ W : World, SubV S W [] (.slice none 0 0) := fun W => .mk [] none 0 [] (fun h => by cases h) (fun i h => by cases h)
 refine .mk [txt p, .mk true ⟨#[]⟩ ys] (some ⟨V.heap.size, 0, none⟩) 2 [.slice none 0 0, .slice A ys.length c] ?_ ?_
 ·intro _
  refine ⟨V.heap.size, 0, rfl, hS, fun i hi => ?_⟩
  match i, hi with
  | 0, _ => exact ⟨hb.cell 0, hb.cell 1, hb.cell 2⟩
  | 1, _ => exact ⟨hb.cell 3, hb.cell 4, hb.cell 5⟩
 ·intro i hi
  match i, hi with
  | 0, _ => exact hn _
  | 1, _ => exact SubV.grown h hg
theorem accessI_any (B : Nat) (A : Option Addr) (n c : Nat) (ls : List AccV) (w : World) (h : AccR B w ls A n) (hB : B ≤ w.heap.size) (hn : n ≤ 1000) (hts : ∀ l ∈ ls, l.keys.length ≤ 1000) :
  Calls Tryz.prog 75 #[.slice A n c] w fun e w' => ∃ A' c', e = .returned (.agg #[.bool true, .string ⟨#[]⟩, .slice A' n c']) ∧ SubV (fun g => w.heap.size ≤ g) w' (ls.map pairI) (.slice A' n c') ∧ w.grownBy w' none := by
 have hl : ls.length = n := h.1
 have hRB := Blk.new w 106 #[.bool false, .string ⟨#[]⟩, .slice none 0 0]
 have hG := only_alloc (World.grownBy.refl w none) (.cells #[.bool false, .string ⟨#[]⟩, .slice none 0 0] 106)
 have h := h.grown hG hB
 have hB1 := Nat.le_trans hB hG.size
 go_enter Tryz.func75, Tryz.ntmps75
 go_upto_region 1 with (fail)
 obtain ⟨b, hb⟩ : ∃ b, w.heap.size = b := ⟨_, rfl⟩
 have HW := Lib.hid hb
 rw [hb] at hRB ⊢
 have hz : (w.alloc (.cells #[.bool false, .string ⟨#[]⟩, .slice none 0 0] 106)).heap.size = b + 1 := by simp [hb]
 clear hb
 generalize w.alloc (.cells #[.bool false, .string ⟨#[]⟩, .slice none 0 0] 106) = W1 at *
 go_wp2_with fail
 refine (list_any _ ⟨_, _, _, rfl⟩ _).mono ?_
 rintro e w3 ⟨rfl, hg3⟩
 obtain ⟨b3, hb3⟩ : ∃ b, w3.heap.size = b := ⟨_, rfl⟩
 have hz3 := hg3.size
 have K0 : RdI w3 b3 (.slice none 0 0) 0 ((ls.take 0).map pairI) [] (w3.alloc (.cells #[.bool true, .string ⟨#[]⟩, .slice none 0 0] 106)) := by
  refine ⟨⟨?_, World.ownsRow_nil _ _ _ _, only_alloc (World.grownBy.refl w3 none) _, by simp; omega, by omega⟩, rfl, rfl, fun i hi => absurd hi (by omega)⟩
  have := Blk.new w3 106 #[.bool true, .string ⟨#[]⟩, .slice none 0 0]
  rwa [hb3] at this
 have H0 := Lib.hid (h.grown hg3 hB1)
 have HL := Lib.hid hl
 have HB : Hid (B ≤ w3.heap.size) := Lib.hid (Nat.le_trans hB1 hz3)
 have HB3 : Hid (w3.heap.size = b3) := Lib.hid hb3
 have HRB := Lib.hid (hRB.grown hg3 (by simp))
 have HG := Lib.hid (grown_self hG hg3 (by simp))
 have HZB : Hid (b + 1 ≤ b3) := Lib.hid (by omega)
 have HTS := Lib.hid hts
 clear hG hg3 hl hB hB1 hRB h hts
 go_upto_region 2 with (fail)
 generalize w3.alloc (.cells #[.bool true, .string ⟨#[]⟩, .slice none 0 0] 106) = W4 at *
 clear hz hz3 hb3
 go_wp2_with fail
 go_loopw [9] (fun i wr => ∃ (k : Nat) (v : Value) (vs : List Value), i = .int .i64 k ∧ k ≤ n ∧ RdI w3 b3 v k ((ls.take k).map pairI) vs wr) (fun i _ => n - (intOf i).toNat)
 case atStart => exact ⟨0, _, _, rfl, by omega, K0⟩
 case round =>
  clear K0
  obtain ⟨k, v, vs, rfl, hk, K0⟩ := hrel
  by_cases hlt : k < n
  ·obtain ⟨q, off, T, tc, x, rfl, hx, hmem, c0, c1, hT, _⟩ := (H0.out.grown K0.held.grown HB.out).at_ hlt
   have q1 : (k : Int) < (n : Int) := by omega
   have htl := HTS.out x hmem
   have hTK : (ls.take k).map pairI ++ [pairI x] = (ls.take (k + 1)).map pairI := by
    rw [List.take_add_one, List.getElem?_eq_getElem (by have := HL.out; omega), List.map_append]
    rw [← hx, List.getD_eq_getElem?_getD, List.getElem?_eq_getElem (by have := HL.out; omega)]
    rfl
   have HTK := Lib.hid hTK
   obtain ⟨its, hits⟩ : ∃ its, (ls.take k).map pairI = its := ⟨_, rfl⟩
   rw [hits] at HTK K0
   obtain ⟨ad, keys⟩ := x
   simp only at c0 c1 hT htl
   obtain ⟨kn, hkn⟩ : ∃ m, keys.length = m := ⟨_, rfl⟩
   have hkl : (keys.map txt).length = kn := by simp [hkn]
   rw [hkn] at c1 hT htl
   have HBW := Lib.hid (Nat.le_trans HB.out K0.held.grown.size)
   have HTX : Hid (∀ V, wr.grownBy V none → Calls Tryz.prog 111 #[.slice T kn tc] V fun e w' => ∃ A' c', e = .returned (.agg #[.bool true, .string ⟨#[]⟩, .slice A' kn c']) ∧ SubV (fun g => V.heap.size ≤ g) w' (keys.map txt) (.slice A' kn c') ∧ V.grownBy w' none) := Lib.hid fun V hV => texts_any B T kn tc keys V (hT.grown hV HBW.out (by simp)) (Nat.le_trans HBW.out hV.size) htl
   clear hx hmem hT hTK hits htl hkn
   obtain ⟨vA, vc, rfl⟩ := own_slice3 K0.held.own
   have hb7 := Blk.new wr 82 #[.string ad, .slice T kn tc]
   have hN7 : (Value.slice vA k vc).ownBlock ≠ some wr.heap.size := fun e => by have := own_ltB K0.held.own e; omega
   have hB7 : b3 ≠ wr.heap.size := by have := K0.held.size; omega
   have K0 := K0.kept (only_alloc (World.grownBy.refl wr none) (.cells #[.string ad, .slice T kn tc] 82))
   have hgu := only_alloc (World.grownBy.refl wr none) (.cells #[.string ad, .slice T kn tc] 82)
   go_upto_region 5 with (fail)
   obtain ⟨b7, hb7e⟩ : ∃ g, wr.heap.size = g := ⟨_, rfl⟩
   rw [hb7e] at hb7 hN7 hB7 ⊢
   have HN7 := Lib.hid hN7; have HB7 := Lib.hid hB7
   clear hb7e hN7 hB7 c0 c1
   generalize wr.alloc (.cells #[.string ad, .slice T kn tc] 82) = w5 at *
   refine wp_region_f 13 (fun b W => b = false → W.cell? ⟨b3, 2, none⟩ = some (.slice vA k vc) ∧ W.cell? ⟨b7, 0, none⟩ = some (.string ad) ∧ W.cell? ⟨b7, 1, none⟩ = some (.slice T kn tc)) (by kernel_rfl) ?_
   replace hb7 : Blk w5.drew b7 82 #[.string ad, .slice T kn tc] := hb7
   replace hgu := only_drew hgu
   replace K0 : RdI w3 b3 (.slice vA k vc) k its vs w5.drew := K0.kept (only_drew (World.grownBy.refl w5 none))
   generalize w5.drew = u0 at *
   have hS0 : false = false → u0.cell? ⟨b3, 2, none⟩ = some (.slice vA k vc) ∧ u0.cell? ⟨b7, 0, none⟩ = some (.string ad) ∧ u0.cell? ⟨b7, 1, none⟩ = some (.slice T kn tc) := fun _ => ⟨K0.held.blk.cell 2, hb7.cell 0, hb7.cell 1⟩
   refine f_take (i := 0) (v := .pointer (some ⟨b3, 2, none⟩)) (some 13) rfl (by kernel_rfl) (by kernel_rfl) (by kernel_rfl) (by kernel_rfl) (by kernel_rfl) (by kernel_rfl) (fun _ _ _ h => h) rfl (Or.inl ⟨by rfl, fun W hW => by go_simp⟩) hS0 ?_
   simp only [Act.put, jb, jz, js]
   refine f_take (i := 1) (v := .slice vA k vc) (some 14) rfl (by kernel_rfl) (by kernel_rfl) (by kernel_rfl) (by kernel_rfl) (by kernel_rfl) (by kernel_rfl) (fun _ _ _ h => h) rfl (Or.inl ⟨by rfl, fun W hW => exec_loadC 104 (.tmp 13) rfl _ rfl _ _ Tryz.underlying104 rfl (hW rfl).1⟩) hS0 ?_
   simp only [Act.put, jb, jz, js]
   refine f_take (i := 2) (v := .pointer (some ⟨b7, 0, none⟩)) (some 15) rfl (by kernel_rfl) (by kernel_rfl) (by kernel_rfl) (by kernel_rfl) (by kernel_rfl) (by kernel_rfl) (fun _ _ _ h => h) rfl (Or.inl ⟨by rfl, fun W hW => by go_simp⟩) hS0 ?_
   simp only [Act.put, jb, jz, js]
   refine f_take (i := 3) (v := .string ad) (some 16) rfl (by kernel_rfl) (by kernel_rfl) (by kernel_rfl) (by kernel_rfl) (by kernel_rfl) (by kernel_rfl) (fun _ _ _ h => h) rfl (Or.inl ⟨by rfl, fun W hW => exec_loadC 9 (.tmp 15) rfl _ rfl _ _ Tryz.underlying9 rfl (hW rfl).2.1⟩) hS0 ?_
   simp only [Act.put, jb, jz, js]
   refine f_take (i := 5) (v := .pointer (some ⟨b7, 1, none⟩)) (some 18) rfl (by kernel_rfl) (by kernel_rfl) (by kernel_rfl) (by kernel_rfl) (by kernel_rfl) (by kernel_rfl) (fun _ _ _ h => h) rfl (Or.inl ⟨by rfl, fun W hW => by go_simp⟩) hS0 ?_
   simp only [Act.put, jb, jz, js]
   refine f_take (i := 6) (v := .slice T kn tc) (some 19) rfl (by kernel_rfl) (by kernel_rfl) (by kernel_rfl) (by kernel_rfl) (by kernel_rfl) (by kernel_rfl) (fun _ _ _ h => h) rfl (Or.inl ⟨by rfl, fun W hW => exec_loadC 57 (.tmp 18) rfl _ rfl _ _ Tryz.underlying57 rfl (hW rfl).2.2⟩) hS0 ?_
   simp only [Act.put, jb, jz, js]
   clear hS0
   refine f_one (i := 4) (by kernel_rfl) ?_
   refine f_enter (some 17) rfl rfl 74 #[.string ad] (exec_call1 _ (.tmp 16) _ rfl _ rfl (enters_of Tryz.func74 (by kernel_rfl) rfl _ _)) rfl false (by kernel_rfl) ((text_any ad u0).mono ?_)
   rintro e u1 ⟨rfl, hg1⟩
   replace K0 := K0.kept hg1
   replace hb7 := hb7.grown hg1 (by simp)
   replace hgu := grown_self hgu hg1 (by simp)
   refine ⟨_, rfl, (fun _ => ⟨K0.held.blk.cell 2, hb7.cell 0, hb7.cell 1⟩), ?_⟩
   simp only [Act.put, jb, jz, js]
   refine f_one (i := 7) (by kernel_rfl) ?_
   refine f_enter (some 20) rfl rfl 111 #[.slice T kn tc] (exec_call1 _ (.tmp 19) _ rfl _ rfl (enters_of Tryz.func111 (by kernel_rfl) rfl _ _)) rfl false (by kernel_rfl) ((HTX.out u1 hgu).mono ?_)
   rintro e u2 ⟨A', c', rfl, hsub, hg2⟩
   have hx1 : SubV (fun g => b3 + 1 ≤ g ∧ (Value.slice vA k vc).ownBlock ≠ some g) u2 (keys.map txt) (.slice A' kn c') := hsub.weak (fun g (h : u1.heap.size ≤ g) => ⟨by have := K0.held.size; omega, fun e => by have := own_ltB K0.held.own e; omega⟩)
   replace K0 := K0.kept hg2
   replace hb7 := hb7.grown hg2 (by simp)
   clear hsub hg1 hg2 hgu HTX
   refine ⟨_, rfl, (fun _ => ⟨K0.held.blk.cell 2, hb7.cell 0, hb7.cell 1⟩), ?_⟩
   simp only [Act.put, jb, jz, js]
   refine f_one (i := 8) (by kernel_rfl) ?_
   rw [← hkl] at hx1
   have hx2 := two_subS (fun g => b3 + 1 ≤ g ∧ (Value.slice vA k vc).ownBlock ≠ some g) u2 ad (keys.map txt) A' c' ⟨by have := K0.held.size; omega, fun e => by have := own_ltB K0.held.own e; omega⟩ hx1
   rw [hkl] at hx2
   have hga := only_alloc (World.grownBy.refl u2 none) (.cells #[.bool false, .string ad, .slice none 0 0, .bool true, .string ⟨#[]⟩, .slice A' kn c'] 106)
   replace K0 := K0.kept hga
   replace hb7 := hb7.grown hga (by simp)
   refine f_value (some 21) rfl rfl (.slice (some ⟨u2.heap.size, 0, none⟩) 2 2) (w' := u2.alloc (.cells #[.bool false, .string ad, .slice none 0 0, .bool true, .string ⟨#[]⟩, .slice A' kn c'] 106)) (by go_simp <;> rfl) rfl false (by kernel_rfl) (fun _ => ⟨K0.held.blk.cell 2, hb7.cell 0, hb7.cell 1⟩) ?_
   simp only [Act.put, jb, jz, js]
   obtain ⟨z, hz⟩ : ∃ z, u2.heap.size = z := ⟨_, rfl⟩
   rw [hz] at hx2
   clear hga hx1
   generalize u2.alloc (.cells #[.bool false, .string ad, .slice none 0 0, .bool true, .string ⟨#[]⟩, .slice A' kn c'] 106) = u3 at *
   refine f_one (i := 9) (by kernel_rfl) ?_
   refine f_enter (some 22) rfl rfl 72 #[.slice (some ⟨z, 0, none⟩) 2 2] (exec_call1 _ (.tmp 21) _ rfl _ (by rw [← hz]; rfl) (enters_of Tryz.func72 (by kernel_rfl) rfl _ _)) rfl false (by kernel_rfl) ((list_any (.slice (some ⟨z, 0, none⟩) 2 2) ⟨_, _, _, rfl⟩ u3).mono ?_)
   rintro e u4 ⟨rfl, hg4⟩
   replace K0 := K0.kept hg4
   replace hb7 := hb7.grown hg4 (by simp)
   replace hx2 := SubV.grown hx2 hg4
   refine ⟨_, rfl, (fun _ => ⟨K0.held.blk.cell 2, hb7.cell 0, hb7.cell 1⟩), ?_⟩
   simp only [Act.put, jb, jz, js]
   clear hg4
   refine f_one (i := 10) (by kernel_rfl) ?_
   have hga := only_alloc (World.grownBy.refl u4 none) (.cells #[.bool true, .string ⟨#[]⟩, .slice (some ⟨z, 0, none⟩) 2 2] 106)
   replace K0 := K0.kept hga
   replace hb7 := hb7.grown hga (by simp)
   replace hx2 := SubV.grown hx2 hga
   refine f_value (some 23) rfl rfl (.slice (some ⟨u4.heap.size, 0, none⟩) 1 1) (w' := u4.alloc (.cells #[.bool true, .string ⟨#[]⟩, .slice (some ⟨z, 0, none⟩) 2 2] 106)) (by go_simp <;> rfl) rfl false (by kernel_rfl) (fun _ => ⟨K0.held.blk.cell 2, hb7.cell 0, hb7.cell 1⟩) ?_
   simp only [Act.put, jb, jz, js]
   obtain ⟨i0, hi, hz0, hzs, hzb⟩ := info_parts item_info
   obtain ⟨v', u6, hrun, hown', hgrow, hiff, hob⟩ := run_append_own_at (P := Tryz.prog) (u4.alloc (.cells #[.bool true, .string ⟨#[]⟩, .slice (some ⟨z, 0, none⟩) 2 2] 106)) (b3 + 1) 104 104 106 i0 _ 3 48 Tryz.underlying104 hi hz0 hzs hzb rfl (by decide) (.slice vA k vc) k (itemsV its vs) K0.held.own ⟨u4.heap.size, 0, none⟩ 1 1 [.bool true, .string ⟨#[]⟩, .slice (some ⟨z, 0, none⟩) 2 2] rfl (cell_three_new _ _ _ _ _) (by simp [Value.oneCell']) (by simp only [maxLen]; omega) (by omega) K0.held.size
   obtain ⟨g', cap', rfl⟩ := ownsRow_succ hown'
   have K3 := K0.put (pairI ⟨ad, keys⟩) (.slice (some ⟨z, 0, none⟩) 2 2) hx2 hown' hgrow hob
   have hb8 := hb7.grown hgrow (fun e => HN7.out e.symm)
   have hbb := K0.held.blk.grown hgrow (fun e => by have := ownBlock_ge K0.held.own e.symm; omega)
   refine f_one (i := 11) (by kernel_rfl) ?_
   refine f_value (some 24) rfl rfl (.slice (some ⟨g', 0, none⟩) (k + 1) cap') (exec_append (.tmp 14) (.tmp 23) 104 rfl _ _ _ rfl rfl hrun) rfl false (by kernel_rfl) (fun _ => ⟨hbb.cell 2, hb8.cell 0, hb8.cell 1⟩) ?_
   simp only [Act.put, jb, jz, js]
   refine f_one (i := 12) (by kernel_rfl) ?_
   refine f_value (some 25) rfl rfl (.pointer (some ⟨b3, 2, none⟩)) (by go_simp <;> rfl) rfl false (by kernel_rfl) (fun _ => ⟨hbb.cell 2, hb8.cell 0, hb8.cell 1⟩) ?_
   simp only [Act.put, jb, jz, js]
   refine f_one (i := 13) (by kernel_rfl) ?_
   refine f_skip rfl rfl rfl (exec_store1 (.tmp 25) (.tmp 24) rfl rfl rfl hbb (by simp)) true (by kernel_rfl) (fun e => by cases e) ?_
   (try simp only [Act.put, jb, jz, js])
   refine f_done (by kernel_rfl) ?_ _
   rw [HTK.out] at K3
   clear hrun hown' hgrow hob hiff hx2 K0 hb7 hb8 hbb hga hz
   go_wp2_with fail
   go_roundw
   case rel => exact ⟨k + 1, _, _, by go_num, by omega, K3⟩
   case measure => simp [intOf]; omega
  ·obtain rfl : k = n := by omega
   have hfin : decide ((k : Int) < (k : Int)) = false := by simp
   have hRB := HRB.out.grown K0.held.grown (by simp)
   obtain ⟨vA, vc, rfl⟩ := own_slice3 K0.held.own
   have hle : w.heap.size ≤ b := by have := HW.out; omega
   have hb3 : b + 1 ≤ b3 := by have := HZB.out; omega
   have ht : ls.take k = ls := List.take_of_length_le (by have := HL.out; omega)
   rw [ht] at K0
   have hS := K0.row
   have HS5 := Lib.hid (SubV.weak (sub_set3 (g := b) hS (by omega) (.bool true) (.string ⟨#[]⟩) (.slice vA k vc)) (fun g (hg : b3 + 1 ≤ g) => (show w.heap.size ≤ g by omega)))
   have HG5 := Lib.hid (only_set (only_set (only_set (grown_self HG.out K0.held.grown (by simp)) (p := ⟨b, 0, none⟩) hle (.bool true)) (p := ⟨b, 1, none⟩) hle (.string ⟨#[]⟩)) (p := ⟨b, 2, none⟩) hle (.slice vA k vc))
   have HB5 := Lib.hid (((hRB.set_ 0 (.bool true)).set_ 1 (.string ⟨#[]⟩)).set_ 2 (.slice vA k vc))
   have c0 := hRB.cell 0; have c1 := hRB.cell 1; have c2 := hRB.cell 2
   have d0 := hRB.frozen 0; have d1 := hRB.frozen 1; have d2 := hRB.frozen 2
   have e0 := K0.held.blk.cell 0; have e1 := K0.held.blk.cell 1; have e2 := K0.held.blk.cell 2
   simp only [List.getElem?_toArray, List.getElem?_cons_zero, List.getElem?_cons_succ] at c0 c1 c2 e0 e1 e2
   clear K0 hle hb3 ht hS hRB hk hlt
   go_wp2_with fail
   refine bodyPost_ret (results_cell1 (fn := Tryz.f75) rfl _ _ _ _ rfl (load_itemF HB5.out)) rfl ?_
   exact ⟨_, _, rfl, HS5.out, HG5.out⟩
theorem itemsV_app (xs ys : List Itm) (vs us : List Value) (h : xs.length = vs.length) : itemsV (xs ++ ys) (vs ++ us) = itemsV xs vs ++ itemsV ys us := by
 unfold itemsV
 rw [List.zip_append h, List.flatMap_append]
structure RdJ (w : World) (o b3 : Nat) (v : Value) (j : Nat) (xs : List Itm) (vs : List Value) (u : World) : Prop where
 blk : Blk u b3 106 #[.bool true, .string ⟨#[]⟩, v]
 own : u.ownsRow o 106 3 v j (itemsV xs vs)
 ne : v.ownBlock ≠ some b3
 grown : w.grownBy u none
 low : w.heap.size ≤ o
 lowb : w.heap.size ≤ b3
 size : o ≤ u.heap.size
 lx : xs.length = j
 lv : vs.length = j
 sub : ∀ i, i < j → SubV (fun g => o ≤ g ∧ g ≠ b3 ∧ v.ownBlock ≠ some g) u (xs.getD i Itm.none_).items (vs.getD i undef)
theorem RdJ.kept {w u u' : World} {o b3 j : Nat} {v : Value} {xs : List Itm} {vs : List Value} (h : RdJ w o b3 v j xs vs u) (hg : u.grownBy u' none) : RdJ w o b3 v j xs vs u' := by
 obtain ⟨A, c, rfl⟩ := own_slice3 h.own
 exact ⟨h.blk.grown hg (by simp), h.own.kept hg (by cases A; exact .inl rfl; exact .inr (by simp [Value.ownBlock])), h.ne, grown_self h.grown hg (by simp), h.low, h.lowb, Nat.le_trans h.size hg.size, h.lx, h.lv, fun i hi => (h.sub i hi).grown hg⟩
theorem RdJ.put {w u u2 : World} {o b3 j m g' cap' : Nat} {v : Value} {xs : List Itm} {vs : List Value} (h : RdJ w o b3 v j xs vs u) (ys : List Itm) (us : List Value) (hy : ys.length = m) (hus : us.length = m)
  (hx : ∀ i, i < m → SubV (fun g => o ≤ g ∧ g ≠ b3 ∧ v.ownBlock ≠ some g) u (ys.getD i Itm.none_).items (us.getD i undef))
  (hown : u2.ownsRow o 106 3 (.slice (some ⟨g', 0, none⟩) (j + m) cap') (j + m) (itemsV xs vs ++ itemsV ys us)) (hg : u.grownBy u2 v.ownBlock) (hob : (Value.slice (some ⟨g', 0, none⟩) (j + m) cap').ownBlock = v.ownBlock ∨ (Value.slice (some ⟨g', 0, none⟩) (j + m) cap').ownBlock = some u.heap.size) :
  RdJ w o b3 (.slice (some ⟨g', 0, none⟩) (j + m) cap') (j + m) (xs ++ ys) (vs ++ us) (u2.setCell ⟨b3, 2, none⟩ (.slice (some ⟨g', 0, none⟩) (j + m) cap')) := by
 have hlt := h.blk.lt
 have hne : (Value.slice (some ⟨g', 0, none⟩) (j + m) cap').ownBlock ≠ some b3 := fun e => by
  rcases hob with e2 | e2
  ·exact h.ne (e2.symm.trans e)
  ·have := Option.some.inj (e2.symm.trans e); omega
 have key : ∀ zs sv', SubV (fun g => o ≤ g ∧ g ≠ b3 ∧ v.ownBlock ≠ some g) u zs sv' → SubV (fun g => o ≤ g ∧ g ≠ b3 ∧ (Value.slice (some ⟨g', 0, none⟩) (j + m) cap').ownBlock ≠ some g) (u2.setCell ⟨b3, 2, none⟩ (.slice (some ⟨g', 0, none⟩) (j + m) cap')) zs sv' := by
  intro zs sv' hs
  refine (hs.lt.keep fun p hp c hc => ?_).weak fun g hS => ⟨hS.1.1, hS.1.2.1, fun e => ?_⟩
  ·rw [World.cell?_setCell_far _ _ _ _ (by exact fun e => hp.1.2.1 e.symm)]
   exact hg.cell hc (fun e => hp.1.2.2 e.symm)
  ·rcases hob with e2 | e2
   ·exact hS.1.2.2 (e2.symm.trans e)
   ·have := Option.some.inj (e2.symm.trans e)
    have := hS.2
    omega
 have hgw : w.grownBy u2 none := grown_self h.grown hg (fun k hk => .inr (by have := ownBlock_ge h.own hk; have := h.low; omega))
 refine ⟨by simpa using (h.blk.grown hg (fun e => h.ne e.symm)).set_ 2 (.slice (some ⟨g', 0, none⟩) (j + m) cap'), ?_, hne, only_set hgw (p := ⟨b3, 2, none⟩) h.lowb _, h.low, h.lowb, by have := hg.size; have := h.size; simp; omega, by simp [h.lx, hy], by simp [h.lv, hus], fun i hi => ?_⟩
 ·rw [itemsV_app xs ys vs us (by rw [h.lx, h.lv])]
  exact own_far hown (p := ⟨b3, 2, none⟩) (by show g' ≠ b3; exact fun e => hne (by rw [e]; rfl)) _
 by_cases hij : i < j
 ·rw [List.getD_eq_getElem?_getD, List.getElem?_append_left (by rw [h.lx]; exact hij), ← List.getD_eq_getElem?_getD, List.getD_eq_getElem?_getD (l := vs ++ us), List.getElem?_append_left (by rw [h.lv]; exact hij), ← List.getD_eq_getElem?_getD]
  exact key _ _ (h.sub i hij)
 ·rw [List.getD_eq_getElem?_getD, List.getElem?_append_right (by rw [h.lx]; omega), ← List.getD_eq_getElem?_getD, List.getD_eq_getElem?_getD (l := vs ++ us), List.getElem?_append_right (by rw [h.lv]; omega), ← List.getD_eq_getElem?_getD, h.lx, h.lv]
  exact key _ _ (hx (i - j) (by omega))
theorem RdJ.row {w u : World} {o b3 j c : Nat} {A : Option Addr} {xs : List Itm} {vs : List Value} (h : RdJ w o b3 (.slice A j c) j xs vs u) : SubV (fun g => o ≤ g ∧ g ≠ b3) u xs (.slice A j c) := by
 obtain ⟨h1, h2, h3, h4, h5, h6, h7, h8, h9, h10⟩ := h
 subst h8
 exact SubV.of_own (by rw [h9]) h2 (fun i hi => (h10 i hi).weak fun g hg => ⟨hg.1, hg.2.1⟩) (fun g hg => ⟨ownBlock_ge h2 hg, fun e => h3 (e ▸ hg)⟩)
end Go.Proofs.YtgclnikdkfpflaaGreatDoor
