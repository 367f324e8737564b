/- Merged: SzD. -/
import Derived.Test.YtagjpbcmhaekpaaGreatDoorMg14
/- Batches of one block: the document's Put.  Printed by wip/genSzD.py from XSngD. -/
namespace Go.Proofs.YtagjpbcmhaekpaaGreatDoor
open Go.RowKit Go.Shelf
set_option linter.unusedVariables false
set_option linter.unusedSimpArgs false

theorem five_subS (S : Nat → Prop) (V : World) (p q r s : ByteArray) (ys : List Itm) (A : Option Addr) (c : Nat) (hS : S V.heap.size) (h : SubV S V ys (.slice A ys.length c)) :
    SubV S (V.alloc (.cells #[.bool false, .string p, .slice none 0 0, .bool false, .string q, .slice none 0 0, .bool false, .string r, .slice none 0 0, .bool false, .string s, .slice none 0 0, .bool true, .string ⟨#[]⟩, .slice A ys.length c] 40)) [txt p, txt q, txt r, txt s, .mk true ⟨#[]⟩ ys] (.slice (some ⟨V.heap.size, 0, none⟩) 5 5) := by
  have hb := Blk.new V 40 #[.bool false, .string p, .slice none 0 0, .bool false, .string q, .slice none 0 0, .bool false, .string r, .slice none 0 0, .bool false, .string s, .slice none 0 0, .bool true, .string ⟨#[]⟩, .slice A ys.length c]
  have hg := only_alloc (World.grownBy.refl V none) (.cells #[.bool false, .string p, .slice none 0 0, .bool false, .string q, .slice none 0 0, .bool false, .string r, .slice none 0 0, .bool false, .string s, .slice none 0 0, .bool true, .string ⟨#[]⟩, .slice A ys.length c] 40)
  have hn : ∀ W : World, SubV S W [] (.slice none 0 0) := fun W => .mk [] none 0 [] (fun h => by cases h) (fun i h => by cases h)
  refine .mk [txt p, txt q, txt r, txt s, .mk true ⟨#[]⟩ ys] (some ⟨V.heap.size, 0, none⟩) 5 [.slice none 0 0, .slice none 0 0, .slice none 0 0, .slice none 0 0, .slice A ys.length c] ?_ ?_
  · intro _
    refine ⟨V.heap.size, 0, rfl, hS, fun i hi => ?_⟩
    match i, hi with
    | 0, _ => exact ⟨hb.cell 0, hb.cell 1, hb.cell 2⟩
    | 1, _ => exact ⟨hb.cell 3, hb.cell 4, hb.cell 5⟩
    | 2, _ => exact ⟨hb.cell 6, hb.cell 7, hb.cell 8⟩
    | 3, _ => exact ⟨hb.cell 9, hb.cell 10, hb.cell 11⟩
    | 4, _ => exact ⟨hb.cell 12, hb.cell 13, hb.cell 14⟩
  · intro i hi
    match i, hi with
    | 0, _ => exact hn _
    | 1, _ => exact hn _
    | 2, _ => exact hn _
    | 3, _ => exact hn _
    | 4, _ => exact SubV.grown h hg

set_option maxRecDepth 100000 in
set_option maxHeartbeats 40000000 in
theorem putR_16 (b : Sgl) (hk : b.Ok) (B : Nat) (A : Option Addr) (n c : Nat) (w : World) (h : Reads w B 1 A n (b.txs.map Value.string)) (hB : B ≤ w.heap.size) (hn : n ≤ 9223372036854775807) :
    Calls Tryz.prog 9 #[.agg (sglC b (.slice A n c))] w fun e w' => e = .returned (.tuple #[.string ⟨(putSL b).toArray⟩, .int .i64 (putSE b)]) ∧ w.grownBy w' none := by
  have hl : b.txs.length = n := by have := h.1; simpa using this
  have hbk := Blk.new w 25 (sglC b (.slice A n c))
  have hG := only_alloc (World.grownBy.refl w none) (.cells (sglC b (.slice A n c)) 25)
  have hR := h.grown hG hB (by simp)
  have hB1 := Nat.le_trans hB hG.size
  have HC := Lib.hid (checkR_16 b B A n c _ hR hB1 hn)
  have HR := Lib.hid hR; have HB1 := Lib.hid hB1; have HG := Lib.hid hG; have HL := Lib.hid hl
  obtain ⟨E, hE⟩ : ∃ E, checkS b = E := ⟨_, rfl⟩
  by_cases h0 : E = 0
  rotate_left
  · have hp : putSE b = E := by unfold putSE; rw [hE, if_pos h0]
    have hp2 : putSL b = [] := if_neg (by rw [hp]; exact h0)
    have e1 : (E != 0) = true := by simpa using h0
    rw [hE] at HC
    rw [hp, hp2]
    obtain ⟨bp, be, bh, bt, xs⟩ := b
    simp only [sglC] at *
    clear hp hp2 hE h0 h hR hG hB1 hl HR hB
    go_enter Tryz.func9, Tryz.ntmps9
    go_upto_region 1 with (fail)
    obtain ⟨g, hg⟩ : ∃ g, w.heap.size = g := ⟨_, rfl⟩
    rw [hg] at hbk ⊢
    clear hg HB1
    have c0 := hbk.cell 0; have c1 := hbk.cell 1; have c2 := hbk.cell 2; have c3 := hbk.cell 3; have c4 := hbk.cell 4
    simp only [List.getElem?_toArray, List.getElem?_cons_zero, List.getElem?_cons_succ] at c0 c1 c2 c3 c4
    clear hbk
    generalize w.alloc (.cells #[.string bp, .int .u64 (be : Int), .string bh, .int .u64 (bt : Int), .slice A n c] 25) = w1 at *
    go_wp2_with fail
    refine HC.out.mono ?_
    rintro e w2 ⟨rfl, hg⟩
    have HG := Lib.hid (grown_self HG.out hg (by simp))
    clear hg HC
    go_wp2_with fail
    go_ret2
    exact ⟨rfl, HG.out⟩
  subst h0
  obtain ⟨k1, k2, k3, k4⟩ := checkS_0.1 hE
  have hpE : putSE b = checkI (itemS b) := by unfold putSE; rw [if_neg (by rw [hE]; simp)]
  have hpL : putSL b = if checkI (itemS b) = 0 then 0 :: bytesF (itemS b) else [] := by unfold putSL; rw [hpE]
  have hcb : (catB b.txs).length ≤ 32 * 4096 := by
    have key : ∀ ys : List ByteArray, (∀ x ∈ ys, 1 ≤ x.size ∧ x.size ≤ 4096) → (catB ys).length ≤ ys.length * 4096 := by
      intro ys
      induction ys with
      | nil => intro _; simp [catB]
      | cons y ys ih =>
        intro hy
        have h1 := ih fun z hz => hy z (by simp [hz])
        have h2 := hy y (by simp)
        have h3 : y.data.toList.length = y.size := Array.length_toList
        have e : catB (y :: ys) = y.data.toList ++ catB ys := by simp [catB]
        rw [e, List.length_append, List.length_cons, Nat.succ_mul]; omega
    exact Nat.le_trans (key _ k4) (Nat.mul_le_mul_right _ k3)
  have hwt := wt_item b hk
  have hwt2 : wtF (itemS b) ≤ 1000000000 := by omega
  have HENC := Lib.hid (fun V sx h => bytesR_item (itemS b) V sx h hwt2)
  have hci := check_item b (by omega)
  rw [hE] at HC
  have HK1 := Lib.hid hk.1; have HK2 := Lib.hid hk.2
  have HN := Lib.hid (show n ≤ 32 by omega)
  obtain ⟨IE, hIE⟩ : ∃ IE, checkI (itemS b) = IE := ⟨_, rfl⟩
  obtain ⟨L, hL⟩ : ∃ L, bytesF (itemS b) = L := ⟨_, rfl⟩
  rw [hL] at HENC
  have hLs : (65536 < L.length → IE = 5) ∧ (L.length ≤ 65536 → IE = 0) ∧ L.length ≤ 1000000000 := by
    rw [hIE, hL] at hci
    have := bytesF_len (itemS b) hwt2
    rw [hL] at this
    refine ⟨fun h => by rw [hci, if_pos h], fun h => by rw [hci, if_neg (by omega)], by omega⟩
  have HLS := Lib.hid hLs
  have hI : itemS b = .mk true ⟨#[]⟩ [txt b.parent, txt (numB b.epoch), txt b.hash, txt (numB b.time), .mk true ⟨#[]⟩ (b.txs.map txt)] := rfl
  rw [hI] at HENC
  rw [hpE, hpL, hIE, hL]
  obtain ⟨bp, be, bh, bt, xs⟩ := b
  simp only [sglC] at *
  have hnum1 := fun V => numberR6_any be HK1.out V
  have hnum2 := fun V => numberR6_any bt HK2.out V
  obtain ⟨N1, hN1⟩ : ∃ N1, numB be = N1 := ⟨_, rfl⟩
  obtain ⟨N2, hN2⟩ : ∃ N1, numB bt = N1 := ⟨_, rfl⟩
  rw [show (⟨(beN be).toArray⟩ : ByteArray) = N1 from hN1] at hnum1
  rw [show (⟨(beN bt).toArray⟩ : ByteArray) = N2 from hN2] at hnum2
  rw [hN1, hN2] at HENC
  have HM1 := Lib.hid hnum1; have HM2 := Lib.hid hnum2
  have hl : xs.length = n := hl
  clear hpE hpL hE k1 k2 k3 k4 h hR hG hB1 hB hcb hwt hwt2 hci hk hIE hL hLs hI hnum1 hnum2 hN1 hN2
  go_enter Tryz.func9, Tryz.ntmps9
  go_upto_region 1 with (fail)
  obtain ⟨g, hg⟩ : ∃ g, w.heap.size = g := ⟨_, rfl⟩
  have hgz : g < (w.alloc (.cells #[.string bp, .int .u64 (be : Int), .string bh, .int .u64 (bt : Int), .slice A n c] 25)).heap.size := by rw [← hg]; simp
  rw [hg] at hbk ⊢
  clear hg
  generalize w.alloc (.cells #[.string bp, .int .u64 (be : Int), .string bh, .int .u64 (bt : Int), .slice A n c] 25) = w1 at *
  have c0 := hbk.cell 0; have c1 := hbk.cell 1; have c2 := hbk.cell 2; have c3 := hbk.cell 3; have c4 := hbk.cell 4
  simp only [List.getElem?_toArray, List.getElem?_cons_zero, List.getElem?_cons_succ] at c0 c1 c2 c3 c4
  go_wp2_with fail
  refine HC.out.mono ?_
  rintro e w2 ⟨rfl, hg⟩
  have HG := Lib.hid (grown_self HG.out hg (by simp))
  have HR := Lib.hid (HR.out.grown hg HB1.out (by simp))
  have HB1 := Lib.hid (Nat.le_trans HB1.out hg.size)
  have hbk2 := hbk.grown hg (by simp)
  have hgz2 : g < w2.heap.size := Nat.lt_of_lt_of_le hgz hg.size
  clear hg HC c0 c1 c2 c3 c4 hbk hgz
  go_upto_region 4 with (fail)
  have hr0 : ∀ V, Below w2.heap.size w2 V → V.cell? ⟨g, 0, none⟩ = some (.string bp) := fun V hV => (hV.cell (p := ⟨g, 0, none⟩) hgz2).trans (hbk2.cell 0)
  have hr1 : ∀ V, Below w2.heap.size w2 V → V.cell? ⟨g, 1, none⟩ = some (.int .u64 (be : Int)) := fun V hV => (hV.cell (p := ⟨g, 1, none⟩) hgz2).trans (hbk2.cell 1)
  have hr2 : ∀ V, Below w2.heap.size w2 V → V.cell? ⟨g, 2, none⟩ = some (.string bh) := fun V hV => (hV.cell (p := ⟨g, 2, none⟩) hgz2).trans (hbk2.cell 2)
  have hr3 : ∀ V, Below w2.heap.size w2 V → V.cell? ⟨g, 3, none⟩ = some (.int .u64 (bt : Int)) := fun V hV => (hV.cell (p := ⟨g, 3, none⟩) hgz2).trans (hbk2.cell 3)
  have hr4 : ∀ V, Below w2.heap.size w2 V → V.cell? ⟨g, 4, none⟩ = some (.slice A n c) := fun V hV => (hV.cell (p := ⟨g, 4, none⟩) hgz2).trans (hbk2.cell 4)
  refine wp_region_held (S := fun W => Below w2.heap.size w2 W) (by kernel_rfl) ?_
  change wpAnyH _ _ _ _ _ _ _ _ w2.drew
  have hS : Below w2.heap.size w2 w2.drew := ⟨rfl, rfl, rfl, Nat.le_refl _, fun _ _ => rfl⟩
  generalize w2.drew = u0 at *
  refine held_take (i := 0) (v := .pointer (some ⟨g, 0, none⟩)) (some 12) rfl (by kernel_rfl) (by kernel_rfl) (by kernel_rfl) (fun _ _ _ h => h) rfl (Or.inl ⟨by rfl, fun W hW => by go_simp⟩) hS ?_
  simp only [Act.put, List.setIfInBounds_toArray, List.set_cons_zero, List.set_cons_succ]
  refine held_take (i := 1) (v := .string bp) (some 13) rfl (by kernel_rfl) (by kernel_rfl) (by kernel_rfl) (fun _ _ _ h => h) rfl (Or.inl ⟨by rfl, fun W hW => by have q := hr0 W hW; go_simp⟩) hS ?_
  simp only [Act.put, List.setIfInBounds_toArray, List.set_cons_zero, List.set_cons_succ]
  refine held_take (i := 3) (v := .pointer (some ⟨g, 1, none⟩)) (some 15) rfl (by kernel_rfl) (by kernel_rfl) (by kernel_rfl) (fun _ _ _ h => h) rfl (Or.inl ⟨by rfl, fun W hW => by go_simp⟩) hS ?_
  simp only [Act.put, List.setIfInBounds_toArray, List.set_cons_zero, List.set_cons_succ]
  refine held_take (i := 4) (v := .int .u64 (be : Int)) (some 16) rfl (by kernel_rfl) (by kernel_rfl) (by kernel_rfl) (fun _ _ _ h => h) rfl (Or.inl ⟨by rfl, fun W hW => by have q := hr1 W hW; go_simp⟩) hS ?_
  simp only [Act.put, List.setIfInBounds_toArray, List.set_cons_zero, List.set_cons_succ]
  refine held_take (i := 6) (v := .pointer (some ⟨g, 2, none⟩)) (some 18) rfl (by kernel_rfl) (by kernel_rfl) (by kernel_rfl) (fun _ _ _ h => h) rfl (Or.inl ⟨by rfl, fun W hW => by go_simp⟩) hS ?_
  simp only [Act.put, List.setIfInBounds_toArray, List.set_cons_zero, List.set_cons_succ]
  refine held_take (i := 7) (v := .string bh) (some 19) rfl (by kernel_rfl) (by kernel_rfl) (by kernel_rfl) (fun _ _ _ h => h) rfl (Or.inl ⟨by rfl, fun W hW => by have q := hr2 W hW; go_simp⟩) hS ?_
  simp only [Act.put, List.setIfInBounds_toArray, List.set_cons_zero, List.set_cons_succ]
  refine held_take (i := 9) (v := .pointer (some ⟨g, 3, none⟩)) (some 21) rfl (by kernel_rfl) (by kernel_rfl) (by kernel_rfl) (fun _ _ _ h => h) rfl (Or.inl ⟨by rfl, fun W hW => by go_simp⟩) hS ?_
  simp only [Act.put, List.setIfInBounds_toArray, List.set_cons_zero, List.set_cons_succ]
  refine held_take (i := 10) (v := .int .u64 (bt : Int)) (some 22) rfl (by kernel_rfl) (by kernel_rfl) (by kernel_rfl) (fun _ _ _ h => h) rfl (Or.inl ⟨by rfl, fun W hW => by have q := hr3 W hW; go_simp⟩) hS ?_
  simp only [Act.put, List.setIfInBounds_toArray, List.set_cons_zero, List.set_cons_succ]
  refine held_take (i := 12) (v := .pointer (some ⟨g, 4, none⟩)) (some 24) rfl (by kernel_rfl) (by kernel_rfl) (by kernel_rfl) (fun _ _ _ h => h) rfl (Or.inl ⟨by rfl, fun W hW => by go_simp⟩) hS ?_
  simp only [Act.put, List.setIfInBounds_toArray, List.set_cons_zero, List.set_cons_succ]
  refine held_take (i := 13) (v := .slice A n c) (some 25) rfl (by kernel_rfl) (by kernel_rfl) (by kernel_rfl) (fun _ _ _ h => h) rfl (Or.inl ⟨by rfl, fun W hW => by have q := hr4 W hW; go_simp⟩) hS ?_
  simp only [Act.put, List.setIfInBounds_toArray, List.set_cons_zero, List.set_cons_succ]
  clear hr0 hr1 hr2 hr3 hr4
  refine held_two (i := 2) (j := 17) (by kernel_rfl) ?_ ?_
  · refine held_enter (some 14) rfl rfl 21 #[.string bp] (exec_call1 _ (.tmp 13) _ rfl _ rfl (enters_of Tryz.func21 (by kernel_rfl) rfl _ _)) rfl ((textR6_any bp u0).mono ?_)
    rintro e v1 ⟨rfl, hg⟩
    replace hS : Below w2.heap.size w2 v1 := hS.trans ((below_of_grown hg).mono hS.size)
    refine ⟨_, rfl, hS, ?_⟩
    simp only [Act.put, List.setIfInBounds_toArray, List.set_cons_zero, List.set_cons_succ]
    clear hg
    refine held_two (i := 5) (j := 17) (by kernel_rfl) ?_ ?_
    · refine held_enter (some 17) rfl rfl 22 #[.int .u64 (be : Int)] (exec_call1 _ (.tmp 16) _ rfl _ rfl (enters_of Tryz.func22 (by kernel_rfl) rfl _ _)) rfl ((HM1.out v1).mono ?_)
      rintro e v3 ⟨rfl, hg⟩
      replace hS : Below w2.heap.size w2 v3 := hS.trans ((below_of_grown hg).mono hS.size)
      refine ⟨_, rfl, hS, ?_⟩
      simp only [Act.put, List.setIfInBounds_toArray, List.set_cons_zero, List.set_cons_succ]
      clear hg
      refine held_two (i := 8) (j := 17) (by kernel_rfl) ?_ ?_
      · refine held_enter (some 20) rfl rfl 21 #[.string bh] (exec_call1 _ (.tmp 19) _ rfl _ rfl (enters_of Tryz.func21 (by kernel_rfl) rfl _ _)) rfl ((textR6_any bh v3).mono ?_)
        rintro e v5 ⟨rfl, hg⟩
        replace hS : Below w2.heap.size w2 v5 := hS.trans ((below_of_grown hg).mono hS.size)
        refine ⟨_, rfl, hS, ?_⟩
        simp only [Act.put, List.setIfInBounds_toArray, List.set_cons_zero, List.set_cons_succ]
        clear hg
        refine held_two (i := 11) (j := 17) (by kernel_rfl) ?_ ?_
        · refine held_enter (some 23) rfl rfl 22 #[.int .u64 (bt : Int)] (exec_call1 _ (.tmp 22) _ rfl _ rfl (enters_of Tryz.func22 (by kernel_rfl) rfl _ _)) rfl ((HM2.out v5).mono ?_)
          rintro e v7 ⟨rfl, hg⟩
          replace hS : Below w2.heap.size w2 v7 := hS.trans ((below_of_grown hg).mono hS.size)
          refine ⟨_, rfl, hS, ?_⟩
          simp only [Act.put, List.setIfInBounds_toArray, List.set_cons_zero, List.set_cons_succ]
          clear hg
          refine held_two (i := 14) (j := 17) (by kernel_rfl) ?_ ?_
          · have hR4 := HR.out.grown (grown_of_below hS) HB1.out (by simp)
            refine held_enter (some 26) rfl rfl 23 #[.slice A n c] (exec_call1 _ (.tmp 25) _ rfl _ rfl (enters_of Tryz.func23 (by kernel_rfl) rfl _ _)) rfl ((textsR6_any B A n c xs v7 hR4 (Nat.le_trans HB1.out hS.size) (by have := HN.out; omega)).mono ?_)
            rintro e v9 ⟨A', c', rfl, hsub, hg⟩
            replace hS : Below w2.heap.size w2 v9 := hS.trans ((below_of_grown hg).mono hS.size)
            refine ⟨_, rfl, hS, ?_⟩
            simp only [Act.put, List.setIfInBounds_toArray, List.set_cons_zero, List.set_cons_succ]
            have hml : (xs.map txt).length = n := by rw [List.length_map]; exact HL.out
            replace hsub := hsub.here
            clear hg hR4
            refine held_two (i := 15) (j := 17) (by kernel_rfl) ?_ ?_
            · rw [← hml] at hsub
              have hrow := five_sub v9 bp N1 bh N2 (xs.map txt) A' c' hsub
              rw [hml] at hrow
              clear hsub
              replace hS := hS.alloc hS.size (.cells #[.bool false, .string bp, .slice none 0 0, .bool false, .string N1, .slice none 0 0, .bool false, .string bh, .slice none 0 0, .bool false, .string N2, .slice none 0 0, .bool true, .string ⟨#[]⟩, .slice A' n c'] 40)
              refine held_value (some 27) rfl rfl (.slice (some ⟨v9.heap.size, 0, none⟩) 5 5) (w' := v9.alloc (.cells #[.bool false, .string bp, .slice none 0 0, .bool false, .string N1, .slice none 0 0, .bool false, .string bh, .slice none 0 0, .bool false, .string N2, .slice none 0 0, .bool true, .string ⟨#[]⟩, .slice A' n c'] 40)) (by go_simp <;> rfl) rfl hS ?_
              simp only [Act.put, List.setIfInBounds_toArray, List.set_cons_zero, List.set_cons_succ]
              obtain ⟨u5z, hu5z⟩ : ∃ z, v9.heap.size = z := ⟨_, rfl⟩
              rw [hu5z] at hrow
              generalize v9.alloc (.cells #[.bool false, .string bp, .slice none 0 0, .bool false, .string N1, .slice none 0 0, .bool false, .string bh, .slice none 0 0, .bool false, .string N2, .slice none 0 0, .bool true, .string ⟨#[]⟩, .slice A' n c'] 40) = v11 at *
              refine held_two (i := 16) (j := 17) (by kernel_rfl) ?_ ?_
              · refine held_enter (some 28) rfl rfl 20 #[.slice (some ⟨u5z, 0, none⟩) 5 5] (exec_call1 _ (.tmp 27) _ rfl _ (by rw [← hu5z]; rfl) (enters_of Tryz.func20 (by kernel_rfl) rfl _ _)) rfl ((listR6_any (.slice (some ⟨u5z, 0, none⟩) 5 5) ⟨_, _, _, rfl⟩ v11).mono ?_)
                rintro e v13 ⟨rfl, hg⟩
                replace hS : Below w2.heap.size w2 v13 := hS.trans ((below_of_grown hg).mono hS.size)
                refine ⟨_, rfl, hS, ?_⟩
                simp only [Act.put, List.setIfInBounds_toArray, List.set_cons_zero, List.set_cons_succ]
                replace hrow := SubW.grown hrow hg
                clear hg
                refine held_one (i := 17) (by kernel_rfl) ?_
                have hb := Blk.new v13 40 #[.bool false, .string ⟨#[]⟩, .slice none 0 0]
                have hg8 := only_alloc (World.grownBy.refl v13 none) (.cells #[.bool false, .string ⟨#[]⟩, .slice none 0 0] 40)
                have hz8 : w2.heap.size ≤ v13.heap.size := hS.size
                replace hS := hS.trans ((below_of_grown hg8).mono hS.size)
                have hlt : v13.heap.size < (v13.alloc (.cells #[.bool false, .string ⟨#[]⟩, .slice none 0 0] 40)).heap.size := by simp
                replace hrow : SubV (fun q => q ≠ v13.heap.size) (v13.alloc (.cells #[.bool false, .string ⟨#[]⟩, .slice none 0 0] 40)) [txt bp, txt N1, txt bh, txt N2, .mk true ⟨#[]⟩ (xs.map txt)] (.slice (some ⟨u5z, 0, none⟩) 5 5) := (SubV.grown hrow hg8).weak (fun q (hq : q < v13.heap.size) => Nat.ne_of_lt hq)
                refine held_value (some 5) rfl rfl (.pointer (some ⟨v13.heap.size, 0, none⟩)) (w' := v13.alloc (.cells #[.bool false, .string ⟨#[]⟩, .slice none 0 0] 40)) (by go_simp <;> rfl) rfl hS ?_
                simp only [Act.put, List.setIfInBounds_toArray, List.set_cons_zero, List.set_cons_succ]
                obtain ⟨k7, hk7⟩ : ∃ z, v13.heap.size = z := ⟨_, rfl⟩
                rw [hk7] at hb hz8 hlt hrow ⊢
                clear hk7 hg8
                generalize v13.alloc (.cells #[.bool false, .string ⟨#[]⟩, .slice none 0 0] 40) = v15 at *
                have hb9 : Blk (((v15.setCell ⟨k7, 0, none⟩ (.bool true)).setCell ⟨k7, 1, none⟩ (.string ⟨#[]⟩)).setCell ⟨k7, 2, none⟩ (.slice (some ⟨u5z, 0, none⟩) 5 5)) k7 40 #[.bool true, .string ⟨#[]⟩, .slice (some ⟨u5z, 0, none⟩) 5 5] := ((hb.set_ 0 _).set_ 1 _).set_ 2 _
                have h9 := (sub_set3 (g := k7) hrow (fun h => h rfl) (.bool true) (.string ⟨#[]⟩) (.slice (some ⟨u5z, 0, none⟩) 5 5)).here
                have hS9 : Below w2.heap.size w2 (((v15.setCell ⟨k7, 0, none⟩ (.bool true)).setCell ⟨k7, 1, none⟩ (.string ⟨#[]⟩)).setCell ⟨k7, 2, none⟩ (.slice (some ⟨u5z, 0, none⟩) 5 5)) := below_of_grown (only_set (only_set (only_set (grown_of_below hS) (p := ⟨k7, 0, none⟩) hz8 _) (p := ⟨k7, 1, none⟩) hz8 _) (p := ⟨k7, 2, none⟩) hz8 _)
                refine held_one (i := 18) (by kernel_rfl) ?_
                refine held_store rfl rfl (exec_store3 (.tmp 5) (.tmp 28) rfl rfl rfl hb (by simp)) hS9 ?_
                simp only [Act.put, List.setIfInBounds_toArray, List.set_cons_zero, List.set_cons_succ]
                refine wpAnyH_done (by kernel_rfl) ?_ _
                have HG := Lib.hid (grown_self HG.out (grown_of_below hS9) (by simp))
                clear hS hS9 hbk2 hml hu5z hb hlt hz8 hrow
                generalize ((v15.setCell ⟨k7, 0, none⟩ (.bool true)).setCell ⟨k7, 1, none⟩ (.string ⟨#[]⟩)).setCell ⟨k7, 2, none⟩ (.slice (some ⟨u5z, 0, none⟩) 5 5) = u9 at *
                have c0 := hb9.cell 0; have c1 := hb9.cell 1; have c2 := hb9.cell 2
                simp only [List.getElem?_toArray, List.getElem?_cons_zero, List.getElem?_cons_succ] at c0 c1 c2
                go_wp2_with fail
                refine (HENC.out u9 _ h9).mono ?_
                rintro e u10 ⟨rfl, hg⟩
                have HG := Lib.hid (grown_self HG.out hg (by simp))
                clear hg c0 c1 c2 hb9 h9
                by_cases hbig : 65536 < L.length
                · have hI0 := HLS.out.1 hbig
                  subst hI0
                  have q2 : decide ((65536 : Int) < (L.length : Int)) = true := by simp; omega
                  clear hbig
                  go_wp2_with fail
                  go_ret2
                  exact ⟨rfl, HG.out⟩
                have hI0 := HLS.out.2.1 (by omega)
                subst hI0
                have q2 : decide ((65536 : Int) < (L.length : Int)) = false := by simp; omega
                have hsum : 1 + L.length ≤ 9223372036854775807 := by omega
                have hcv : (convert 36 9 (.slice (some ⟨u10.heap.size, 0, none⟩) 1 1)).run Tryz.prog (u10.alloc (.cells #[.int .u8 0] 5)) = .ok (.string ⟨#[0]⟩) (u10.alloc (.cells #[.int .u8 0] 5)) := conv_own (own_new1 u10 0)
                have HG := Lib.hid (only_alloc HG.out (.cells #[.int .u8 0] 5))
                clear hbig
                go_wp2_with fail
                go_ret2
                refine ⟨?_, HG.out⟩
                (try rw [if_pos rfl])
                rw [show (0 :: L) = [0] ++ L from rfl, ← ba_cat]
                rfl
              · have hb := Blk.new v11 40 #[.bool false, .string ⟨#[]⟩, .slice none 0 0]
                have hg8 := only_alloc (World.grownBy.refl v11 none) (.cells #[.bool false, .string ⟨#[]⟩, .slice none 0 0] 40)
                have hz8 : w2.heap.size ≤ v11.heap.size := hS.size
                replace hS := hS.trans ((below_of_grown hg8).mono hS.size)
                have hlt : v11.heap.size < (v11.alloc (.cells #[.bool false, .string ⟨#[]⟩, .slice none 0 0] 40)).heap.size := by simp
                replace hrow : SubV (fun q => q ≠ v11.heap.size) (v11.alloc (.cells #[.bool false, .string ⟨#[]⟩, .slice none 0 0] 40)) [txt bp, txt N1, txt bh, txt N2, .mk true ⟨#[]⟩ (xs.map txt)] (.slice (some ⟨u5z, 0, none⟩) 5 5) := (SubV.grown hrow hg8).weak (fun q (hq : q < v11.heap.size) => Nat.ne_of_lt hq)
                refine held_value (some 5) rfl rfl (.pointer (some ⟨v11.heap.size, 0, none⟩)) (w' := v11.alloc (.cells #[.bool false, .string ⟨#[]⟩, .slice none 0 0] 40)) (by go_simp <;> rfl) rfl hS ?_
                simp only [Act.put, List.setIfInBounds_toArray, List.set_cons_zero, List.set_cons_succ]
                obtain ⟨k7, hk7⟩ : ∃ z, v11.heap.size = z := ⟨_, rfl⟩
                rw [hk7] at hb hz8 hlt hrow ⊢
                clear hk7 hg8
                generalize v11.alloc (.cells #[.bool false, .string ⟨#[]⟩, .slice none 0 0] 40) = v14 at *
                refine held_one (i := 16) (by kernel_rfl) ?_
                refine held_enter (some 28) rfl rfl 20 #[.slice (some ⟨u5z, 0, none⟩) 5 5] (exec_call1 _ (.tmp 27) _ rfl _ (by rw [← hu5z]; rfl) (enters_of Tryz.func20 (by kernel_rfl) rfl _ _)) rfl ((listR6_any (.slice (some ⟨u5z, 0, none⟩) 5 5) ⟨_, _, _, rfl⟩ v14).mono ?_)
                rintro e v16 ⟨rfl, hg⟩
                replace hS : Below w2.heap.size w2 v16 := hS.trans ((below_of_grown hg).mono hS.size)
                refine ⟨_, rfl, hS, ?_⟩
                simp only [Act.put, List.setIfInBounds_toArray, List.set_cons_zero, List.set_cons_succ]
                replace hrow := SubV.grown hrow hg
                replace hb := hb.grown hg (by simp)
                replace hlt := Nat.lt_of_lt_of_le hlt hg.size
                clear hg
                have hb9 : Blk (((v16.setCell ⟨k7, 0, none⟩ (.bool true)).setCell ⟨k7, 1, none⟩ (.string ⟨#[]⟩)).setCell ⟨k7, 2, none⟩ (.slice (some ⟨u5z, 0, none⟩) 5 5)) k7 40 #[.bool true, .string ⟨#[]⟩, .slice (some ⟨u5z, 0, none⟩) 5 5] := ((hb.set_ 0 _).set_ 1 _).set_ 2 _
                have h9 := (sub_set3 (g := k7) hrow (fun h => h rfl) (.bool true) (.string ⟨#[]⟩) (.slice (some ⟨u5z, 0, none⟩) 5 5)).here
                have hS9 : Below w2.heap.size w2 (((v16.setCell ⟨k7, 0, none⟩ (.bool true)).setCell ⟨k7, 1, none⟩ (.string ⟨#[]⟩)).setCell ⟨k7, 2, none⟩ (.slice (some ⟨u5z, 0, none⟩) 5 5)) := below_of_grown (only_set (only_set (only_set (grown_of_below hS) (p := ⟨k7, 0, none⟩) hz8 _) (p := ⟨k7, 1, none⟩) hz8 _) (p := ⟨k7, 2, none⟩) hz8 _)
                refine held_one (i := 18) (by kernel_rfl) ?_
                refine held_store rfl rfl (exec_store3 (.tmp 5) (.tmp 28) rfl rfl rfl hb (by simp)) hS9 ?_
                simp only [Act.put, List.setIfInBounds_toArray, List.set_cons_zero, List.set_cons_succ]
                refine wpAnyH_done (by kernel_rfl) ?_ _
                have HG := Lib.hid (grown_self HG.out (grown_of_below hS9) (by simp))
                clear hS hS9 hbk2 hml hu5z hb hlt hz8 hrow
                generalize ((v16.setCell ⟨k7, 0, none⟩ (.bool true)).setCell ⟨k7, 1, none⟩ (.string ⟨#[]⟩)).setCell ⟨k7, 2, none⟩ (.slice (some ⟨u5z, 0, none⟩) 5 5) = u9 at *
                have c0 := hb9.cell 0; have c1 := hb9.cell 1; have c2 := hb9.cell 2
                simp only [List.getElem?_toArray, List.getElem?_cons_zero, List.getElem?_cons_succ] at c0 c1 c2
                go_wp2_with fail
                refine (HENC.out u9 _ h9).mono ?_
                rintro e u10 ⟨rfl, hg⟩
                have HG := Lib.hid (grown_self HG.out hg (by simp))
                clear hg c0 c1 c2 hb9 h9
                by_cases hbig : 65536 < L.length
                · have hI0 := HLS.out.1 hbig
                  subst hI0
                  have q2 : decide ((65536 : Int) < (L.length : Int)) = true := by simp; omega
                  clear hbig
                  go_wp2_with fail
                  go_ret2
                  exact ⟨rfl, HG.out⟩
                have hI0 := HLS.out.2.1 (by omega)
                subst hI0
                have q2 : decide ((65536 : Int) < (L.length : Int)) = false := by simp; omega
                have hsum : 1 + L.length ≤ 9223372036854775807 := by omega
                have hcv : (convert 36 9 (.slice (some ⟨u10.heap.size, 0, none⟩) 1 1)).run Tryz.prog (u10.alloc (.cells #[.int .u8 0] 5)) = .ok (.string ⟨#[0]⟩) (u10.alloc (.cells #[.int .u8 0] 5)) := conv_own (own_new1 u10 0)
                have HG := Lib.hid (only_alloc HG.out (.cells #[.int .u8 0] 5))
                clear hbig
                go_wp2_with fail
                go_ret2
                refine ⟨?_, HG.out⟩
                (try rw [if_pos rfl])
                rw [show (0 :: L) = [0] ++ L from rfl, ← ba_cat]
                rfl
            · have hb := Blk.new v9 40 #[.bool false, .string ⟨#[]⟩, .slice none 0 0]
              have hg8 := only_alloc (World.grownBy.refl v9 none) (.cells #[.bool false, .string ⟨#[]⟩, .slice none 0 0] 40)
              have hz8 : w2.heap.size ≤ v9.heap.size := hS.size
              replace hS := hS.trans ((below_of_grown hg8).mono hS.size)
              have hlt : v9.heap.size < (v9.alloc (.cells #[.bool false, .string ⟨#[]⟩, .slice none 0 0] 40)).heap.size := by simp
              replace hsub : SubV (fun q => q ≠ v9.heap.size) (v9.alloc (.cells #[.bool false, .string ⟨#[]⟩, .slice none 0 0] 40)) (xs.map txt) (.slice A' n c') := (SubV.grown hsub hg8).weak (fun q (hq : q < v9.heap.size) => Nat.ne_of_lt hq)
              refine held_value (some 5) rfl rfl (.pointer (some ⟨v9.heap.size, 0, none⟩)) (w' := v9.alloc (.cells #[.bool false, .string ⟨#[]⟩, .slice none 0 0] 40)) (by go_simp <;> rfl) rfl hS ?_
              simp only [Act.put, List.setIfInBounds_toArray, List.set_cons_zero, List.set_cons_succ]
              obtain ⟨k7, hk7⟩ : ∃ z, v9.heap.size = z := ⟨_, rfl⟩
              rw [hk7] at hb hz8 hlt hsub ⊢
              clear hk7 hg8
              generalize v9.alloc (.cells #[.bool false, .string ⟨#[]⟩, .slice none 0 0] 40) = v12 at *
              refine held_one (i := 15) (by kernel_rfl) ?_
              rw [← hml] at hsub
              have hrow := five_subS (fun q => q ≠ k7) v12 bp N1 bh N2 (xs.map txt) A' c' (Nat.ne_of_gt hlt) hsub
              rw [hml] at hrow
              clear hsub
              replace hS := hS.alloc hS.size (.cells #[.bool false, .string bp, .slice none 0 0, .bool false, .string N1, .slice none 0 0, .bool false, .string bh, .slice none 0 0, .bool false, .string N2, .slice none 0 0, .bool true, .string ⟨#[]⟩, .slice A' n c'] 40)
              refine held_value (some 27) rfl rfl (.slice (some ⟨v12.heap.size, 0, none⟩) 5 5) (w' := v12.alloc (.cells #[.bool false, .string bp, .slice none 0 0, .bool false, .string N1, .slice none 0 0, .bool false, .string bh, .slice none 0 0, .bool false, .string N2, .slice none 0 0, .bool true, .string ⟨#[]⟩, .slice A' n c'] 40)) (by go_simp <;> rfl) rfl hS ?_
              simp only [Act.put, List.setIfInBounds_toArray, List.set_cons_zero, List.set_cons_succ]
              replace hb := hb.alloc (.cells #[.bool false, .string bp, .slice none 0 0, .bool false, .string N1, .slice none 0 0, .bool false, .string bh, .slice none 0 0, .bool false, .string N2, .slice none 0 0, .bool true, .string ⟨#[]⟩, .slice A' n c'] 40)
              replace hlt : k7 < (v12.alloc (.cells #[.bool false, .string bp, .slice none 0 0, .bool false, .string N1, .slice none 0 0, .bool false, .string bh, .slice none 0 0, .bool false, .string N2, .slice none 0 0, .bool true, .string ⟨#[]⟩, .slice A' n c'] 40)).heap.size := by simp; omega
              obtain ⟨u5z, hu5z⟩ : ∃ z, v12.heap.size = z := ⟨_, rfl⟩
              rw [hu5z] at hrow
              generalize v12.alloc (.cells #[.bool false, .string bp, .slice none 0 0, .bool false, .string N1, .slice none 0 0, .bool false, .string bh, .slice none 0 0, .bool false, .string N2, .slice none 0 0, .bool true, .string ⟨#[]⟩, .slice A' n c'] 40) = v17 at *
              refine held_one (i := 16) (by kernel_rfl) ?_
              refine held_enter (some 28) rfl rfl 20 #[.slice (some ⟨u5z, 0, none⟩) 5 5] (exec_call1 _ (.tmp 27) _ rfl _ (by rw [← hu5z]; rfl) (enters_of Tryz.func20 (by kernel_rfl) rfl _ _)) rfl ((listR6_any (.slice (some ⟨u5z, 0, none⟩) 5 5) ⟨_, _, _, rfl⟩ v17).mono ?_)
              rintro e v18 ⟨rfl, hg⟩
              replace hS : Below w2.heap.size w2 v18 := hS.trans ((below_of_grown hg).mono hS.size)
              refine ⟨_, rfl, hS, ?_⟩
              simp only [Act.put, List.setIfInBounds_toArray, List.set_cons_zero, List.set_cons_succ]
              replace hrow := SubV.grown hrow hg
              replace hb := hb.grown hg (by simp)
              replace hlt := Nat.lt_of_lt_of_le hlt hg.size
              clear hg
              have hb9 : Blk (((v18.setCell ⟨k7, 0, none⟩ (.bool true)).setCell ⟨k7, 1, none⟩ (.string ⟨#[]⟩)).setCell ⟨k7, 2, none⟩ (.slice (some ⟨u5z, 0, none⟩) 5 5)) k7 40 #[.bool true, .string ⟨#[]⟩, .slice (some ⟨u5z, 0, none⟩) 5 5] := ((hb.set_ 0 _).set_ 1 _).set_ 2 _
              have h9 := (sub_set3 (g := k7) hrow (fun h => h rfl) (.bool true) (.string ⟨#[]⟩) (.slice (some ⟨u5z, 0, none⟩) 5 5)).here
              have hS9 : Below w2.heap.size w2 (((v18.setCell ⟨k7, 0, none⟩ (.bool true)).setCell ⟨k7, 1, none⟩ (.string ⟨#[]⟩)).setCell ⟨k7, 2, none⟩ (.slice (some ⟨u5z, 0, none⟩) 5 5)) := below_of_grown (only_set (only_set (only_set (grown_of_below hS) (p := ⟨k7, 0, none⟩) hz8 _) (p := ⟨k7, 1, none⟩) hz8 _) (p := ⟨k7, 2, none⟩) hz8 _)
              refine held_one (i := 18) (by kernel_rfl) ?_
              refine held_store rfl rfl (exec_store3 (.tmp 5) (.tmp 28) rfl rfl rfl hb (by simp)) hS9 ?_
              simp only [Act.put, List.setIfInBounds_toArray, List.set_cons_zero, List.set_cons_succ]
              refine wpAnyH_done (by kernel_rfl) ?_ _
              have HG := Lib.hid (grown_self HG.out (grown_of_below hS9) (by simp))
              clear hS hS9 hbk2 hml hu5z hb hlt hz8 hrow
              generalize ((v18.setCell ⟨k7, 0, none⟩ (.bool true)).setCell ⟨k7, 1, none⟩ (.string ⟨#[]⟩)).setCell ⟨k7, 2, none⟩ (.slice (some ⟨u5z, 0, none⟩) 5 5) = u9 at *
              have c0 := hb9.cell 0; have c1 := hb9.cell 1; have c2 := hb9.cell 2
              simp only [List.getElem?_toArray, List.getElem?_cons_zero, List.getElem?_cons_succ] at c0 c1 c2
              go_wp2_with fail
              refine (HENC.out u9 _ h9).mono ?_
              rintro e u10 ⟨rfl, hg⟩
              have HG := Lib.hid (grown_self HG.out hg (by simp))
              clear hg c0 c1 c2 hb9 h9
              by_cases hbig : 65536 < L.length
              · have hI0 := HLS.out.1 hbig
                subst hI0
                have q2 : decide ((65536 : Int) < (L.length : Int)) = true := by simp; omega
                clear hbig
                go_wp2_with fail
                go_ret2
                exact ⟨rfl, HG.out⟩
              have hI0 := HLS.out.2.1 (by omega)
              subst hI0
              have q2 : decide ((65536 : Int) < (L.length : Int)) = false := by simp; omega
              have hsum : 1 + L.length ≤ 9223372036854775807 := by omega
              have hcv : (convert 36 9 (.slice (some ⟨u10.heap.size, 0, none⟩) 1 1)).run Tryz.prog (u10.alloc (.cells #[.int .u8 0] 5)) = .ok (.string ⟨#[0]⟩) (u10.alloc (.cells #[.int .u8 0] 5)) := conv_own (own_new1 u10 0)
              have HG := Lib.hid (only_alloc HG.out (.cells #[.int .u8 0] 5))
              clear hbig
              go_wp2_with fail
              go_ret2
              refine ⟨?_, HG.out⟩
              (try rw [if_pos rfl])
              rw [show (0 :: L) = [0] ++ L from rfl, ← ba_cat]
              rfl
          · have hb := Blk.new v7 40 #[.bool false, .string ⟨#[]⟩, .slice none 0 0]
            have hg8 := only_alloc (World.grownBy.refl v7 none) (.cells #[.bool false, .string ⟨#[]⟩, .slice none 0 0] 40)
            have hz8 : w2.heap.size ≤ v7.heap.size := hS.size
            replace hS := hS.trans ((below_of_grown hg8).mono hS.size)
            have hlt : v7.heap.size < (v7.alloc (.cells #[.bool false, .string ⟨#[]⟩, .slice none 0 0] 40)).heap.size := by simp
            refine held_value (some 5) rfl rfl (.pointer (some ⟨v7.heap.size, 0, none⟩)) (w' := v7.alloc (.cells #[.bool false, .string ⟨#[]⟩, .slice none 0 0] 40)) (by go_simp <;> rfl) rfl hS ?_
            simp only [Act.put, List.setIfInBounds_toArray, List.set_cons_zero, List.set_cons_succ]
            obtain ⟨k7, hk7⟩ : ∃ z, v7.heap.size = z := ⟨_, rfl⟩
            rw [hk7] at hb hz8 hlt  ⊢
            clear hk7 hg8
            generalize v7.alloc (.cells #[.bool false, .string ⟨#[]⟩, .slice none 0 0] 40) = v10 at *
            refine held_one (i := 14) (by kernel_rfl) ?_
            have hR4 := HR.out.grown (grown_of_below hS) HB1.out (by simp)
            refine held_enter (some 26) rfl rfl 23 #[.slice A n c] (exec_call1 _ (.tmp 25) _ rfl _ rfl (enters_of Tryz.func23 (by kernel_rfl) rfl _ _)) rfl ((textsR6_any B A n c xs v10 hR4 (Nat.le_trans HB1.out hS.size) (by have := HN.out; omega)).mono ?_)
            rintro e v19 ⟨A', c', rfl, hsub, hg⟩
            replace hS : Below w2.heap.size w2 v19 := hS.trans ((below_of_grown hg).mono hS.size)
            refine ⟨_, rfl, hS, ?_⟩
            simp only [Act.put, List.setIfInBounds_toArray, List.set_cons_zero, List.set_cons_succ]
            have hml : (xs.map txt).length = n := by rw [List.length_map]; exact HL.out
            replace hsub : SubV (fun q => q ≠ k7) v19 (xs.map txt) (.slice A' n c') := hsub.weak (fun q hq => by have : v10.heap.size ≤ q := hq; show q ≠ k7; omega)
            replace hb := hb.grown hg (by simp)
            replace hlt := Nat.lt_of_lt_of_le hlt hg.size
            clear hg hR4
            refine held_one (i := 15) (by kernel_rfl) ?_
            rw [← hml] at hsub
            have hrow := five_subS (fun q => q ≠ k7) v19 bp N1 bh N2 (xs.map txt) A' c' (Nat.ne_of_gt hlt) hsub
            rw [hml] at hrow
            clear hsub
            replace hS := hS.alloc hS.size (.cells #[.bool false, .string bp, .slice none 0 0, .bool false, .string N1, .slice none 0 0, .bool false, .string bh, .slice none 0 0, .bool false, .string N2, .slice none 0 0, .bool true, .string ⟨#[]⟩, .slice A' n c'] 40)
            refine held_value (some 27) rfl rfl (.slice (some ⟨v19.heap.size, 0, none⟩) 5 5) (w' := v19.alloc (.cells #[.bool false, .string bp, .slice none 0 0, .bool false, .string N1, .slice none 0 0, .bool false, .string bh, .slice none 0 0, .bool false, .string N2, .slice none 0 0, .bool true, .string ⟨#[]⟩, .slice A' n c'] 40)) (by go_simp <;> rfl) rfl hS ?_
            simp only [Act.put, List.setIfInBounds_toArray, List.set_cons_zero, List.set_cons_succ]
            replace hb := hb.alloc (.cells #[.bool false, .string bp, .slice none 0 0, .bool false, .string N1, .slice none 0 0, .bool false, .string bh, .slice none 0 0, .bool false, .string N2, .slice none 0 0, .bool true, .string ⟨#[]⟩, .slice A' n c'] 40)
            replace hlt : k7 < (v19.alloc (.cells #[.bool false, .string bp, .slice none 0 0, .bool false, .string N1, .slice none 0 0, .bool false, .string bh, .slice none 0 0, .bool false, .string N2, .slice none 0 0, .bool true, .string ⟨#[]⟩, .slice A' n c'] 40)).heap.size := by simp; omega
            obtain ⟨u5z, hu5z⟩ : ∃ z, v19.heap.size = z := ⟨_, rfl⟩
            rw [hu5z] at hrow
            generalize v19.alloc (.cells #[.bool false, .string bp, .slice none 0 0, .bool false, .string N1, .slice none 0 0, .bool false, .string bh, .slice none 0 0, .bool false, .string N2, .slice none 0 0, .bool true, .string ⟨#[]⟩, .slice A' n c'] 40) = v20 at *
            refine held_one (i := 16) (by kernel_rfl) ?_
            refine held_enter (some 28) rfl rfl 20 #[.slice (some ⟨u5z, 0, none⟩) 5 5] (exec_call1 _ (.tmp 27) _ rfl _ (by rw [← hu5z]; rfl) (enters_of Tryz.func20 (by kernel_rfl) rfl _ _)) rfl ((listR6_any (.slice (some ⟨u5z, 0, none⟩) 5 5) ⟨_, _, _, rfl⟩ v20).mono ?_)
            rintro e v21 ⟨rfl, hg⟩
            replace hS : Below w2.heap.size w2 v21 := hS.trans ((below_of_grown hg).mono hS.size)
            refine ⟨_, rfl, hS, ?_⟩
            simp only [Act.put, List.setIfInBounds_toArray, List.set_cons_zero, List.set_cons_succ]
            replace hrow := SubV.grown hrow hg
            replace hb := hb.grown hg (by simp)
            replace hlt := Nat.lt_of_lt_of_le hlt hg.size
            clear hg
            have hb9 : Blk (((v21.setCell ⟨k7, 0, none⟩ (.bool true)).setCell ⟨k7, 1, none⟩ (.string ⟨#[]⟩)).setCell ⟨k7, 2, none⟩ (.slice (some ⟨u5z, 0, none⟩) 5 5)) k7 40 #[.bool true, .string ⟨#[]⟩, .slice (some ⟨u5z, 0, none⟩) 5 5] := ((hb.set_ 0 _).set_ 1 _).set_ 2 _
            have h9 := (sub_set3 (g := k7) hrow (fun h => h rfl) (.bool true) (.string ⟨#[]⟩) (.slice (some ⟨u5z, 0, none⟩) 5 5)).here
            have hS9 : Below w2.heap.size w2 (((v21.setCell ⟨k7, 0, none⟩ (.bool true)).setCell ⟨k7, 1, none⟩ (.string ⟨#[]⟩)).setCell ⟨k7, 2, none⟩ (.slice (some ⟨u5z, 0, none⟩) 5 5)) := below_of_grown (only_set (only_set (only_set (grown_of_below hS) (p := ⟨k7, 0, none⟩) hz8 _) (p := ⟨k7, 1, none⟩) hz8 _) (p := ⟨k7, 2, none⟩) hz8 _)
            refine held_one (i := 18) (by kernel_rfl) ?_
            refine held_store rfl rfl (exec_store3 (.tmp 5) (.tmp 28) rfl rfl rfl hb (by simp)) hS9 ?_
            simp only [Act.put, List.setIfInBounds_toArray, List.set_cons_zero, List.set_cons_succ]
            refine wpAnyH_done (by kernel_rfl) ?_ _
            have HG := Lib.hid (grown_self HG.out (grown_of_below hS9) (by simp))
            clear hS hS9 hbk2 hml hu5z hb hlt hz8 hrow
            generalize ((v21.setCell ⟨k7, 0, none⟩ (.bool true)).setCell ⟨k7, 1, none⟩ (.string ⟨#[]⟩)).setCell ⟨k7, 2, none⟩ (.slice (some ⟨u5z, 0, none⟩) 5 5) = u9 at *
            have c0 := hb9.cell 0; have c1 := hb9.cell 1; have c2 := hb9.cell 2
            simp only [List.getElem?_toArray, List.getElem?_cons_zero, List.getElem?_cons_succ] at c0 c1 c2
            go_wp2_with fail
            refine (HENC.out u9 _ h9).mono ?_
            rintro e u10 ⟨rfl, hg⟩
            have HG := Lib.hid (grown_self HG.out hg (by simp))
            clear hg c0 c1 c2 hb9 h9
            by_cases hbig : 65536 < L.length
            · have hI0 := HLS.out.1 hbig
              subst hI0
              have q2 : decide ((65536 : Int) < (L.length : Int)) = true := by simp; omega
              clear hbig
              go_wp2_with fail
              go_ret2
              exact ⟨rfl, HG.out⟩
            have hI0 := HLS.out.2.1 (by omega)
            subst hI0
            have q2 : decide ((65536 : Int) < (L.length : Int)) = false := by simp; omega
            have hsum : 1 + L.length ≤ 9223372036854775807 := by omega
            have hcv : (convert 36 9 (.slice (some ⟨u10.heap.size, 0, none⟩) 1 1)).run Tryz.prog (u10.alloc (.cells #[.int .u8 0] 5)) = .ok (.string ⟨#[0]⟩) (u10.alloc (.cells #[.int .u8 0] 5)) := conv_own (own_new1 u10 0)
            have HG := Lib.hid (only_alloc HG.out (.cells #[.int .u8 0] 5))
            clear hbig
            go_wp2_with fail
            go_ret2
            refine ⟨?_, HG.out⟩
            (try rw [if_pos rfl])
            rw [show (0 :: L) = [0] ++ L from rfl, ← ba_cat]
            rfl
        · have hb := Blk.new v5 40 #[.bool false, .string ⟨#[]⟩, .slice none 0 0]
          have hg8 := only_alloc (World.grownBy.refl v5 none) (.cells #[.bool false, .string ⟨#[]⟩, .slice none 0 0] 40)
          have hz8 : w2.heap.size ≤ v5.heap.size := hS.size
          replace hS := hS.trans ((below_of_grown hg8).mono hS.size)
          have hlt : v5.heap.size < (v5.alloc (.cells #[.bool false, .string ⟨#[]⟩, .slice none 0 0] 40)).heap.size := by simp
          refine held_value (some 5) rfl rfl (.pointer (some ⟨v5.heap.size, 0, none⟩)) (w' := v5.alloc (.cells #[.bool false, .string ⟨#[]⟩, .slice none 0 0] 40)) (by go_simp <;> rfl) rfl hS ?_
          simp only [Act.put, List.setIfInBounds_toArray, List.set_cons_zero, List.set_cons_succ]
          obtain ⟨k7, hk7⟩ : ∃ z, v5.heap.size = z := ⟨_, rfl⟩
          rw [hk7] at hb hz8 hlt  ⊢
          clear hk7 hg8
          generalize v5.alloc (.cells #[.bool false, .string ⟨#[]⟩, .slice none 0 0] 40) = v8 at *
          refine held_one (i := 11) (by kernel_rfl) ?_
          refine held_enter (some 23) rfl rfl 22 #[.int .u64 (bt : Int)] (exec_call1 _ (.tmp 22) _ rfl _ rfl (enters_of Tryz.func22 (by kernel_rfl) rfl _ _)) rfl ((HM2.out v8).mono ?_)
          rintro e v22 ⟨rfl, hg⟩
          replace hS : Below w2.heap.size w2 v22 := hS.trans ((below_of_grown hg).mono hS.size)
          refine ⟨_, rfl, hS, ?_⟩
          simp only [Act.put, List.setIfInBounds_toArray, List.set_cons_zero, List.set_cons_succ]
          replace hb := hb.grown hg (by simp)
          replace hlt := Nat.lt_of_lt_of_le hlt hg.size
          clear hg
          refine held_one (i := 14) (by kernel_rfl) ?_
          have hR4 := HR.out.grown (grown_of_below hS) HB1.out (by simp)
          refine held_enter (some 26) rfl rfl 23 #[.slice A n c] (exec_call1 _ (.tmp 25) _ rfl _ rfl (enters_of Tryz.func23 (by kernel_rfl) rfl _ _)) rfl ((textsR6_any B A n c xs v22 hR4 (Nat.le_trans HB1.out hS.size) (by have := HN.out; omega)).mono ?_)
          rintro e v23 ⟨A', c', rfl, hsub, hg⟩
          replace hS : Below w2.heap.size w2 v23 := hS.trans ((below_of_grown hg).mono hS.size)
          refine ⟨_, rfl, hS, ?_⟩
          simp only [Act.put, List.setIfInBounds_toArray, List.set_cons_zero, List.set_cons_succ]
          have hml : (xs.map txt).length = n := by rw [List.length_map]; exact HL.out
          replace hsub : SubV (fun q => q ≠ k7) v23 (xs.map txt) (.slice A' n c') := hsub.weak (fun q hq => by have : v22.heap.size ≤ q := hq; show q ≠ k7; omega)
          replace hb := hb.grown hg (by simp)
          replace hlt := Nat.lt_of_lt_of_le hlt hg.size
          clear hg hR4
          refine held_one (i := 15) (by kernel_rfl) ?_
          rw [← hml] at hsub
          have hrow := five_subS (fun q => q ≠ k7) v23 bp N1 bh N2 (xs.map txt) A' c' (Nat.ne_of_gt hlt) hsub
          rw [hml] at hrow
          clear hsub
          replace hS := hS.alloc hS.size (.cells #[.bool false, .string bp, .slice none 0 0, .bool false, .string N1, .slice none 0 0, .bool false, .string bh, .slice none 0 0, .bool false, .string N2, .slice none 0 0, .bool true, .string ⟨#[]⟩, .slice A' n c'] 40)
          refine held_value (some 27) rfl rfl (.slice (some ⟨v23.heap.size, 0, none⟩) 5 5) (w' := v23.alloc (.cells #[.bool false, .string bp, .slice none 0 0, .bool false, .string N1, .slice none 0 0, .bool false, .string bh, .slice none 0 0, .bool false, .string N2, .slice none 0 0, .bool true, .string ⟨#[]⟩, .slice A' n c'] 40)) (by go_simp <;> rfl) rfl hS ?_
          simp only [Act.put, List.setIfInBounds_toArray, List.set_cons_zero, List.set_cons_succ]
          replace hb := hb.alloc (.cells #[.bool false, .string bp, .slice none 0 0, .bool false, .string N1, .slice none 0 0, .bool false, .string bh, .slice none 0 0, .bool false, .string N2, .slice none 0 0, .bool true, .string ⟨#[]⟩, .slice A' n c'] 40)
          replace hlt : k7 < (v23.alloc (.cells #[.bool false, .string bp, .slice none 0 0, .bool false, .string N1, .slice none 0 0, .bool false, .string bh, .slice none 0 0, .bool false, .string N2, .slice none 0 0, .bool true, .string ⟨#[]⟩, .slice A' n c'] 40)).heap.size := by simp; omega
          obtain ⟨u5z, hu5z⟩ : ∃ z, v23.heap.size = z := ⟨_, rfl⟩
          rw [hu5z] at hrow
          generalize v23.alloc (.cells #[.bool false, .string bp, .slice none 0 0, .bool false, .string N1, .slice none 0 0, .bool false, .string bh, .slice none 0 0, .bool false, .string N2, .slice none 0 0, .bool true, .string ⟨#[]⟩, .slice A' n c'] 40) = v24 at *
          refine held_one (i := 16) (by kernel_rfl) ?_
          refine held_enter (some 28) rfl rfl 20 #[.slice (some ⟨u5z, 0, none⟩) 5 5] (exec_call1 _ (.tmp 27) _ rfl _ (by rw [← hu5z]; rfl) (enters_of Tryz.func20 (by kernel_rfl) rfl _ _)) rfl ((listR6_any (.slice (some ⟨u5z, 0, none⟩) 5 5) ⟨_, _, _, rfl⟩ v24).mono ?_)
          rintro e v25 ⟨rfl, hg⟩
          replace hS : Below w2.heap.size w2 v25 := hS.trans ((below_of_grown hg).mono hS.size)
          refine ⟨_, rfl, hS, ?_⟩
          simp only [Act.put, List.setIfInBounds_toArray, List.set_cons_zero, List.set_cons_succ]
          replace hrow := SubV.grown hrow hg
          replace hb := hb.grown hg (by simp)
          replace hlt := Nat.lt_of_lt_of_le hlt hg.size
          clear hg
          have hb9 : Blk (((v25.setCell ⟨k7, 0, none⟩ (.bool true)).setCell ⟨k7, 1, none⟩ (.string ⟨#[]⟩)).setCell ⟨k7, 2, none⟩ (.slice (some ⟨u5z, 0, none⟩) 5 5)) k7 40 #[.bool true, .string ⟨#[]⟩, .slice (some ⟨u5z, 0, none⟩) 5 5] := ((hb.set_ 0 _).set_ 1 _).set_ 2 _
          have h9 := (sub_set3 (g := k7) hrow (fun h => h rfl) (.bool true) (.string ⟨#[]⟩) (.slice (some ⟨u5z, 0, none⟩) 5 5)).here
          have hS9 : Below w2.heap.size w2 (((v25.setCell ⟨k7, 0, none⟩ (.bool true)).setCell ⟨k7, 1, none⟩ (.string ⟨#[]⟩)).setCell ⟨k7, 2, none⟩ (.slice (some ⟨u5z, 0, none⟩) 5 5)) := below_of_grown (only_set (only_set (only_set (grown_of_below hS) (p := ⟨k7, 0, none⟩) hz8 _) (p := ⟨k7, 1, none⟩) hz8 _) (p := ⟨k7, 2, none⟩) hz8 _)
          refine held_one (i := 18) (by kernel_rfl) ?_
          refine held_store rfl rfl (exec_store3 (.tmp 5) (.tmp 28) rfl rfl rfl hb (by simp)) hS9 ?_
          simp only [Act.put, List.setIfInBounds_toArray, List.set_cons_zero, List.set_cons_succ]
          refine wpAnyH_done (by kernel_rfl) ?_ _
          have HG := Lib.hid (grown_self HG.out (grown_of_below hS9) (by simp))
          clear hS hS9 hbk2 hml hu5z hb hlt hz8 hrow
          generalize ((v25.setCell ⟨k7, 0, none⟩ (.bool true)).setCell ⟨k7, 1, none⟩ (.string ⟨#[]⟩)).setCell ⟨k7, 2, none⟩ (.slice (some ⟨u5z, 0, none⟩) 5 5) = u9 at *
          have c0 := hb9.cell 0; have c1 := hb9.cell 1; have c2 := hb9.cell 2
          simp only [List.getElem?_toArray, List.getElem?_cons_zero, List.getElem?_cons_succ] at c0 c1 c2
          go_wp2_with fail
          refine (HENC.out u9 _ h9).mono ?_
          rintro e u10 ⟨rfl, hg⟩
          have HG := Lib.hid (grown_self HG.out hg (by simp))
          clear hg c0 c1 c2 hb9 h9
          by_cases hbig : 65536 < L.length
          · have hI0 := HLS.out.1 hbig
            subst hI0
            have q2 : decide ((65536 : Int) < (L.length : Int)) = true := by simp; omega
            clear hbig
            go_wp2_with fail
            go_ret2
            exact ⟨rfl, HG.out⟩
          have hI0 := HLS.out.2.1 (by omega)
          subst hI0
          have q2 : decide ((65536 : Int) < (L.length : Int)) = false := by simp; omega
          have hsum : 1 + L.length ≤ 9223372036854775807 := by omega
          have hcv : (convert 36 9 (.slice (some ⟨u10.heap.size, 0, none⟩) 1 1)).run Tryz.prog (u10.alloc (.cells #[.int .u8 0] 5)) = .ok (.string ⟨#[0]⟩) (u10.alloc (.cells #[.int .u8 0] 5)) := conv_own (own_new1 u10 0)
          have HG := Lib.hid (only_alloc HG.out (.cells #[.int .u8 0] 5))
          clear hbig
          go_wp2_with fail
          go_ret2
          refine ⟨?_, HG.out⟩
          (try rw [if_pos rfl])
          rw [show (0 :: L) = [0] ++ L from rfl, ← ba_cat]
          rfl
      · have hb := Blk.new v3 40 #[.bool false, .string ⟨#[]⟩, .slice none 0 0]
        have hg8 := only_alloc (World.grownBy.refl v3 none) (.cells #[.bool false, .string ⟨#[]⟩, .slice none 0 0] 40)
        have hz8 : w2.heap.size ≤ v3.heap.size := hS.size
        replace hS := hS.trans ((below_of_grown hg8).mono hS.size)
        have hlt : v3.heap.size < (v3.alloc (.cells #[.bool false, .string ⟨#[]⟩, .slice none 0 0] 40)).heap.size := by simp
        refine held_value (some 5) rfl rfl (.pointer (some ⟨v3.heap.size, 0, none⟩)) (w' := v3.alloc (.cells #[.bool false, .string ⟨#[]⟩, .slice none 0 0] 40)) (by go_simp <;> rfl) rfl hS ?_
        simp only [Act.put, List.setIfInBounds_toArray, List.set_cons_zero, List.set_cons_succ]
        obtain ⟨k7, hk7⟩ : ∃ z, v3.heap.size = z := ⟨_, rfl⟩
        rw [hk7] at hb hz8 hlt  ⊢
        clear hk7 hg8
        generalize v3.alloc (.cells #[.bool false, .string ⟨#[]⟩, .slice none 0 0] 40) = v6 at *
        refine held_one (i := 8) (by kernel_rfl) ?_
        refine held_enter (some 20) rfl rfl 21 #[.string bh] (exec_call1 _ (.tmp 19) _ rfl _ rfl (enters_of Tryz.func21 (by kernel_rfl) rfl _ _)) rfl ((textR6_any bh v6).mono ?_)
        rintro e v26 ⟨rfl, hg⟩
        replace hS : Below w2.heap.size w2 v26 := hS.trans ((below_of_grown hg).mono hS.size)
        refine ⟨_, rfl, hS, ?_⟩
        simp only [Act.put, List.setIfInBounds_toArray, List.set_cons_zero, List.set_cons_succ]
        replace hb := hb.grown hg (by simp)
        replace hlt := Nat.lt_of_lt_of_le hlt hg.size
        clear hg
        refine held_one (i := 11) (by kernel_rfl) ?_
        refine held_enter (some 23) rfl rfl 22 #[.int .u64 (bt : Int)] (exec_call1 _ (.tmp 22) _ rfl _ rfl (enters_of Tryz.func22 (by kernel_rfl) rfl _ _)) rfl ((HM2.out v26).mono ?_)
        rintro e v27 ⟨rfl, hg⟩
        replace hS : Below w2.heap.size w2 v27 := hS.trans ((below_of_grown hg).mono hS.size)
        refine ⟨_, rfl, hS, ?_⟩
        simp only [Act.put, List.setIfInBounds_toArray, List.set_cons_zero, List.set_cons_succ]
        replace hb := hb.grown hg (by simp)
        replace hlt := Nat.lt_of_lt_of_le hlt hg.size
        clear hg
        refine held_one (i := 14) (by kernel_rfl) ?_
        have hR4 := HR.out.grown (grown_of_below hS) HB1.out (by simp)
        refine held_enter (some 26) rfl rfl 23 #[.slice A n c] (exec_call1 _ (.tmp 25) _ rfl _ rfl (enters_of Tryz.func23 (by kernel_rfl) rfl _ _)) rfl ((textsR6_any B A n c xs v27 hR4 (Nat.le_trans HB1.out hS.size) (by have := HN.out; omega)).mono ?_)
        rintro e v28 ⟨A', c', rfl, hsub, hg⟩
        replace hS : Below w2.heap.size w2 v28 := hS.trans ((below_of_grown hg).mono hS.size)
        refine ⟨_, rfl, hS, ?_⟩
        simp only [Act.put, List.setIfInBounds_toArray, List.set_cons_zero, List.set_cons_succ]
        have hml : (xs.map txt).length = n := by rw [List.length_map]; exact HL.out
        replace hsub : SubV (fun q => q ≠ k7) v28 (xs.map txt) (.slice A' n c') := hsub.weak (fun q hq => by have : v27.heap.size ≤ q := hq; show q ≠ k7; omega)
        replace hb := hb.grown hg (by simp)
        replace hlt := Nat.lt_of_lt_of_le hlt hg.size
        clear hg hR4
        refine held_one (i := 15) (by kernel_rfl) ?_
        rw [← hml] at hsub
        have hrow := five_subS (fun q => q ≠ k7) v28 bp N1 bh N2 (xs.map txt) A' c' (Nat.ne_of_gt hlt) hsub
        rw [hml] at hrow
        clear hsub
        replace hS := hS.alloc hS.size (.cells #[.bool false, .string bp, .slice none 0 0, .bool false, .string N1, .slice none 0 0, .bool false, .string bh, .slice none 0 0, .bool false, .string N2, .slice none 0 0, .bool true, .string ⟨#[]⟩, .slice A' n c'] 40)
        refine held_value (some 27) rfl rfl (.slice (some ⟨v28.heap.size, 0, none⟩) 5 5) (w' := v28.alloc (.cells #[.bool false, .string bp, .slice none 0 0, .bool false, .string N1, .slice none 0 0, .bool false, .string bh, .slice none 0 0, .bool false, .string N2, .slice none 0 0, .bool true, .string ⟨#[]⟩, .slice A' n c'] 40)) (by go_simp <;> rfl) rfl hS ?_
        simp only [Act.put, List.setIfInBounds_toArray, List.set_cons_zero, List.set_cons_succ]
        replace hb := hb.alloc (.cells #[.bool false, .string bp, .slice none 0 0, .bool false, .string N1, .slice none 0 0, .bool false, .string bh, .slice none 0 0, .bool false, .string N2, .slice none 0 0, .bool true, .string ⟨#[]⟩, .slice A' n c'] 40)
        replace hlt : k7 < (v28.alloc (.cells #[.bool false, .string bp, .slice none 0 0, .bool false, .string N1, .slice none 0 0, .bool false, .string bh, .slice none 0 0, .bool false, .string N2, .slice none 0 0, .bool true, .string ⟨#[]⟩, .slice A' n c'] 40)).heap.size := by simp; omega
        obtain ⟨u5z, hu5z⟩ : ∃ z, v28.heap.size = z := ⟨_, rfl⟩
        rw [hu5z] at hrow
        generalize v28.alloc (.cells #[.bool false, .string bp, .slice none 0 0, .bool false, .string N1, .slice none 0 0, .bool false, .string bh, .slice none 0 0, .bool false, .string N2, .slice none 0 0, .bool true, .string ⟨#[]⟩, .slice A' n c'] 40) = v29 at *
        refine held_one (i := 16) (by kernel_rfl) ?_
        refine held_enter (some 28) rfl rfl 20 #[.slice (some ⟨u5z, 0, none⟩) 5 5] (exec_call1 _ (.tmp 27) _ rfl _ (by rw [← hu5z]; rfl) (enters_of Tryz.func20 (by kernel_rfl) rfl _ _)) rfl ((listR6_any (.slice (some ⟨u5z, 0, none⟩) 5 5) ⟨_, _, _, rfl⟩ v29).mono ?_)
        rintro e v30 ⟨rfl, hg⟩
        replace hS : Below w2.heap.size w2 v30 := hS.trans ((below_of_grown hg).mono hS.size)
        refine ⟨_, rfl, hS, ?_⟩
        simp only [Act.put, List.setIfInBounds_toArray, List.set_cons_zero, List.set_cons_succ]
        replace hrow := SubV.grown hrow hg
        replace hb := hb.grown hg (by simp)
        replace hlt := Nat.lt_of_lt_of_le hlt hg.size
        clear hg
        have hb9 : Blk (((v30.setCell ⟨k7, 0, none⟩ (.bool true)).setCell ⟨k7, 1, none⟩ (.string ⟨#[]⟩)).setCell ⟨k7, 2, none⟩ (.slice (some ⟨u5z, 0, none⟩) 5 5)) k7 40 #[.bool true, .string ⟨#[]⟩, .slice (some ⟨u5z, 0, none⟩) 5 5] := ((hb.set_ 0 _).set_ 1 _).set_ 2 _
        have h9 := (sub_set3 (g := k7) hrow (fun h => h rfl) (.bool true) (.string ⟨#[]⟩) (.slice (some ⟨u5z, 0, none⟩) 5 5)).here
        have hS9 : Below w2.heap.size w2 (((v30.setCell ⟨k7, 0, none⟩ (.bool true)).setCell ⟨k7, 1, none⟩ (.string ⟨#[]⟩)).setCell ⟨k7, 2, none⟩ (.slice (some ⟨u5z, 0, none⟩) 5 5)) := below_of_grown (only_set (only_set (only_set (grown_of_below hS) (p := ⟨k7, 0, none⟩) hz8 _) (p := ⟨k7, 1, none⟩) hz8 _) (p := ⟨k7, 2, none⟩) hz8 _)
        refine held_one (i := 18) (by kernel_rfl) ?_
        refine held_store rfl rfl (exec_store3 (.tmp 5) (.tmp 28) rfl rfl rfl hb (by simp)) hS9 ?_
        simp only [Act.put, List.setIfInBounds_toArray, List.set_cons_zero, List.set_cons_succ]
        refine wpAnyH_done (by kernel_rfl) ?_ _
        have HG := Lib.hid (grown_self HG.out (grown_of_below hS9) (by simp))
        clear hS hS9 hbk2 hml hu5z hb hlt hz8 hrow
        generalize ((v30.setCell ⟨k7, 0, none⟩ (.bool true)).setCell ⟨k7, 1, none⟩ (.string ⟨#[]⟩)).setCell ⟨k7, 2, none⟩ (.slice (some ⟨u5z, 0, none⟩) 5 5) = u9 at *
        have c0 := hb9.cell 0; have c1 := hb9.cell 1; have c2 := hb9.cell 2
        simp only [List.getElem?_toArray, List.getElem?_cons_zero, List.getElem?_cons_succ] at c0 c1 c2
        go_wp2_with fail
        refine (HENC.out u9 _ h9).mono ?_
        rintro e u10 ⟨rfl, hg⟩
        have HG := Lib.hid (grown_self HG.out hg (by simp))
        clear hg c0 c1 c2 hb9 h9
        by_cases hbig : 65536 < L.length
        · have hI0 := HLS.out.1 hbig
          subst hI0
          have q2 : decide ((65536 : Int) < (L.length : Int)) = true := by simp; omega
          clear hbig
          go_wp2_with fail
          go_ret2
          exact ⟨rfl, HG.out⟩
        have hI0 := HLS.out.2.1 (by omega)
        subst hI0
        have q2 : decide ((65536 : Int) < (L.length : Int)) = false := by simp; omega
        have hsum : 1 + L.length ≤ 9223372036854775807 := by omega
        have hcv : (convert 36 9 (.slice (some ⟨u10.heap.size, 0, none⟩) 1 1)).run Tryz.prog (u10.alloc (.cells #[.int .u8 0] 5)) = .ok (.string ⟨#[0]⟩) (u10.alloc (.cells #[.int .u8 0] 5)) := conv_own (own_new1 u10 0)
        have HG := Lib.hid (only_alloc HG.out (.cells #[.int .u8 0] 5))
        clear hbig
        go_wp2_with fail
        go_ret2
        refine ⟨?_, HG.out⟩
        (try rw [if_pos rfl])
        rw [show (0 :: L) = [0] ++ L from rfl, ← ba_cat]
        rfl
    · have hb := Blk.new v1 40 #[.bool false, .string ⟨#[]⟩, .slice none 0 0]
      have hg8 := only_alloc (World.grownBy.refl v1 none) (.cells #[.bool false, .string ⟨#[]⟩, .slice none 0 0] 40)
      have hz8 : w2.heap.size ≤ v1.heap.size := hS.size
      replace hS := hS.trans ((below_of_grown hg8).mono hS.size)
      have hlt : v1.heap.size < (v1.alloc (.cells #[.bool false, .string ⟨#[]⟩, .slice none 0 0] 40)).heap.size := by simp
      refine held_value (some 5) rfl rfl (.pointer (some ⟨v1.heap.size, 0, none⟩)) (w' := v1.alloc (.cells #[.bool false, .string ⟨#[]⟩, .slice none 0 0] 40)) (by go_simp <;> rfl) rfl hS ?_
      simp only [Act.put, List.setIfInBounds_toArray, List.set_cons_zero, List.set_cons_succ]
      obtain ⟨k7, hk7⟩ : ∃ z, v1.heap.size = z := ⟨_, rfl⟩
      rw [hk7] at hb hz8 hlt  ⊢
      clear hk7 hg8
      generalize v1.alloc (.cells #[.bool false, .string ⟨#[]⟩, .slice none 0 0] 40) = v4 at *
      refine held_one (i := 5) (by kernel_rfl) ?_
      refine held_enter (some 17) rfl rfl 22 #[.int .u64 (be : Int)] (exec_call1 _ (.tmp 16) _ rfl _ rfl (enters_of Tryz.func22 (by kernel_rfl) rfl _ _)) rfl ((HM1.out v4).mono ?_)
      rintro e v31 ⟨rfl, hg⟩
      replace hS : Below w2.heap.size w2 v31 := hS.trans ((below_of_grown hg).mono hS.size)
      refine ⟨_, rfl, hS, ?_⟩
      simp only [Act.put, List.setIfInBounds_toArray, List.set_cons_zero, List.set_cons_succ]
      replace hb := hb.grown hg (by simp)
      replace hlt := Nat.lt_of_lt_of_le hlt hg.size
      clear hg
      refine held_one (i := 8) (by kernel_rfl) ?_
      refine held_enter (some 20) rfl rfl 21 #[.string bh] (exec_call1 _ (.tmp 19) _ rfl _ rfl (enters_of Tryz.func21 (by kernel_rfl) rfl _ _)) rfl ((textR6_any bh v31).mono ?_)
      rintro e v32 ⟨rfl, hg⟩
      replace hS : Below w2.heap.size w2 v32 := hS.trans ((below_of_grown hg).mono hS.size)
      refine ⟨_, rfl, hS, ?_⟩
      simp only [Act.put, List.setIfInBounds_toArray, List.set_cons_zero, List.set_cons_succ]
      replace hb := hb.grown hg (by simp)
      replace hlt := Nat.lt_of_lt_of_le hlt hg.size
      clear hg
      refine held_one (i := 11) (by kernel_rfl) ?_
      refine held_enter (some 23) rfl rfl 22 #[.int .u64 (bt : Int)] (exec_call1 _ (.tmp 22) _ rfl _ rfl (enters_of Tryz.func22 (by kernel_rfl) rfl _ _)) rfl ((HM2.out v32).mono ?_)
      rintro e v33 ⟨rfl, hg⟩
      replace hS : Below w2.heap.size w2 v33 := hS.trans ((below_of_grown hg).mono hS.size)
      refine ⟨_, rfl, hS, ?_⟩
      simp only [Act.put, List.setIfInBounds_toArray, List.set_cons_zero, List.set_cons_succ]
      replace hb := hb.grown hg (by simp)
      replace hlt := Nat.lt_of_lt_of_le hlt hg.size
      clear hg
      refine held_one (i := 14) (by kernel_rfl) ?_
      have hR4 := HR.out.grown (grown_of_below hS) HB1.out (by simp)
      refine held_enter (some 26) rfl rfl 23 #[.slice A n c] (exec_call1 _ (.tmp 25) _ rfl _ rfl (enters_of Tryz.func23 (by kernel_rfl) rfl _ _)) rfl ((textsR6_any B A n c xs v33 hR4 (Nat.le_trans HB1.out hS.size) (by have := HN.out; omega)).mono ?_)
      rintro e v34 ⟨A', c', rfl, hsub, hg⟩
      replace hS : Below w2.heap.size w2 v34 := hS.trans ((below_of_grown hg).mono hS.size)
      refine ⟨_, rfl, hS, ?_⟩
      simp only [Act.put, List.setIfInBounds_toArray, List.set_cons_zero, List.set_cons_succ]
      have hml : (xs.map txt).length = n := by rw [List.length_map]; exact HL.out
      replace hsub : SubV (fun q => q ≠ k7) v34 (xs.map txt) (.slice A' n c') := hsub.weak (fun q hq => by have : v33.heap.size ≤ q := hq; show q ≠ k7; omega)
      replace hb := hb.grown hg (by simp)
      replace hlt := Nat.lt_of_lt_of_le hlt hg.size
      clear hg hR4
      refine held_one (i := 15) (by kernel_rfl) ?_
      rw [← hml] at hsub
      have hrow := five_subS (fun q => q ≠ k7) v34 bp N1 bh N2 (xs.map txt) A' c' (Nat.ne_of_gt hlt) hsub
      rw [hml] at hrow
      clear hsub
      replace hS := hS.alloc hS.size (.cells #[.bool false, .string bp, .slice none 0 0, .bool false, .string N1, .slice none 0 0, .bool false, .string bh, .slice none 0 0, .bool false, .string N2, .slice none 0 0, .bool true, .string ⟨#[]⟩, .slice A' n c'] 40)
      refine held_value (some 27) rfl rfl (.slice (some ⟨v34.heap.size, 0, none⟩) 5 5) (w' := v34.alloc (.cells #[.bool false, .string bp, .slice none 0 0, .bool false, .string N1, .slice none 0 0, .bool false, .string bh, .slice none 0 0, .bool false, .string N2, .slice none 0 0, .bool true, .string ⟨#[]⟩, .slice A' n c'] 40)) (by go_simp <;> rfl) rfl hS ?_
      simp only [Act.put, List.setIfInBounds_toArray, List.set_cons_zero, List.set_cons_succ]
      replace hb := hb.alloc (.cells #[.bool false, .string bp, .slice none 0 0, .bool false, .string N1, .slice none 0 0, .bool false, .string bh, .slice none 0 0, .bool false, .string N2, .slice none 0 0, .bool true, .string ⟨#[]⟩, .slice A' n c'] 40)
      replace hlt : k7 < (v34.alloc (.cells #[.bool false, .string bp, .slice none 0 0, .bool false, .string N1, .slice none 0 0, .bool false, .string bh, .slice none 0 0, .bool false, .string N2, .slice none 0 0, .bool true, .string ⟨#[]⟩, .slice A' n c'] 40)).heap.size := by simp; omega
      obtain ⟨u5z, hu5z⟩ : ∃ z, v34.heap.size = z := ⟨_, rfl⟩
      rw [hu5z] at hrow
      generalize v34.alloc (.cells #[.bool false, .string bp, .slice none 0 0, .bool false, .string N1, .slice none 0 0, .bool false, .string bh, .slice none 0 0, .bool false, .string N2, .slice none 0 0, .bool true, .string ⟨#[]⟩, .slice A' n c'] 40) = v35 at *
      refine held_one (i := 16) (by kernel_rfl) ?_
      refine held_enter (some 28) rfl rfl 20 #[.slice (some ⟨u5z, 0, none⟩) 5 5] (exec_call1 _ (.tmp 27) _ rfl _ (by rw [← hu5z]; rfl) (enters_of Tryz.func20 (by kernel_rfl) rfl _ _)) rfl ((listR6_any (.slice (some ⟨u5z, 0, none⟩) 5 5) ⟨_, _, _, rfl⟩ v35).mono ?_)
      rintro e v36 ⟨rfl, hg⟩
      replace hS : Below w2.heap.size w2 v36 := hS.trans ((below_of_grown hg).mono hS.size)
      refine ⟨_, rfl, hS, ?_⟩
      simp only [Act.put, List.setIfInBounds_toArray, List.set_cons_zero, List.set_cons_succ]
      replace hrow := SubV.grown hrow hg
      replace hb := hb.grown hg (by simp)
      replace hlt := Nat.lt_of_lt_of_le hlt hg.size
      clear hg
      have hb9 : Blk (((v36.setCell ⟨k7, 0, none⟩ (.bool true)).setCell ⟨k7, 1, none⟩ (.string ⟨#[]⟩)).setCell ⟨k7, 2, none⟩ (.slice (some ⟨u5z, 0, none⟩) 5 5)) k7 40 #[.bool true, .string ⟨#[]⟩, .slice (some ⟨u5z, 0, none⟩) 5 5] := ((hb.set_ 0 _).set_ 1 _).set_ 2 _
      have h9 := (sub_set3 (g := k7) hrow (fun h => h rfl) (.bool true) (.string ⟨#[]⟩) (.slice (some ⟨u5z, 0, none⟩) 5 5)).here
      have hS9 : Below w2.heap.size w2 (((v36.setCell ⟨k7, 0, none⟩ (.bool true)).setCell ⟨k7, 1, none⟩ (.string ⟨#[]⟩)).setCell ⟨k7, 2, none⟩ (.slice (some ⟨u5z, 0, none⟩) 5 5)) := below_of_grown (only_set (only_set (only_set (grown_of_below hS) (p := ⟨k7, 0, none⟩) hz8 _) (p := ⟨k7, 1, none⟩) hz8 _) (p := ⟨k7, 2, none⟩) hz8 _)
      refine held_one (i := 18) (by kernel_rfl) ?_
      refine held_store rfl rfl (exec_store3 (.tmp 5) (.tmp 28) rfl rfl rfl hb (by simp)) hS9 ?_
      simp only [Act.put, List.setIfInBounds_toArray, List.set_cons_zero, List.set_cons_succ]
      refine wpAnyH_done (by kernel_rfl) ?_ _
      have HG := Lib.hid (grown_self HG.out (grown_of_below hS9) (by simp))
      clear hS hS9 hbk2 hml hu5z hb hlt hz8 hrow
      generalize ((v36.setCell ⟨k7, 0, none⟩ (.bool true)).setCell ⟨k7, 1, none⟩ (.string ⟨#[]⟩)).setCell ⟨k7, 2, none⟩ (.slice (some ⟨u5z, 0, none⟩) 5 5) = u9 at *
      have c0 := hb9.cell 0; have c1 := hb9.cell 1; have c2 := hb9.cell 2
      simp only [List.getElem?_toArray, List.getElem?_cons_zero, List.getElem?_cons_succ] at c0 c1 c2
      go_wp2_with fail
      refine (HENC.out u9 _ h9).mono ?_
      rintro e u10 ⟨rfl, hg⟩
      have HG := Lib.hid (grown_self HG.out hg (by simp))
      clear hg c0 c1 c2 hb9 h9
      by_cases hbig : 65536 < L.length
      · have hI0 := HLS.out.1 hbig
        subst hI0
        have q2 : decide ((65536 : Int) < (L.length : Int)) = true := by simp; omega
        clear hbig
        go_wp2_with fail
        go_ret2
        exact ⟨rfl, HG.out⟩
      have hI0 := HLS.out.2.1 (by omega)
      subst hI0
      have q2 : decide ((65536 : Int) < (L.length : Int)) = false := by simp; omega
      have hsum : 1 + L.length ≤ 9223372036854775807 := by omega
      have hcv : (convert 36 9 (.slice (some ⟨u10.heap.size, 0, none⟩) 1 1)).run Tryz.prog (u10.alloc (.cells #[.int .u8 0] 5)) = .ok (.string ⟨#[0]⟩) (u10.alloc (.cells #[.int .u8 0] 5)) := conv_own (own_new1 u10 0)
      have HG := Lib.hid (only_alloc HG.out (.cells #[.int .u8 0] 5))
      clear hbig
      go_wp2_with fail
      go_ret2
      refine ⟨?_, HG.out⟩
      (try rw [if_pos rfl])
      rw [show (0 :: L) = [0] ++ L from rfl, ← ba_cat]
      rfl
  · have hb := Blk.new u0 40 #[.bool false, .string ⟨#[]⟩, .slice none 0 0]
    have hg8 := only_alloc (World.grownBy.refl u0 none) (.cells #[.bool false, .string ⟨#[]⟩, .slice none 0 0] 40)
    have hz8 : w2.heap.size ≤ u0.heap.size := hS.size
    replace hS := hS.trans ((below_of_grown hg8).mono hS.size)
    have hlt : u0.heap.size < (u0.alloc (.cells #[.bool false, .string ⟨#[]⟩, .slice none 0 0] 40)).heap.size := by simp
    refine held_value (some 5) rfl rfl (.pointer (some ⟨u0.heap.size, 0, none⟩)) (w' := u0.alloc (.cells #[.bool false, .string ⟨#[]⟩, .slice none 0 0] 40)) (by go_simp <;> rfl) rfl hS ?_
    simp only [Act.put, List.setIfInBounds_toArray, List.set_cons_zero, List.set_cons_succ]
    obtain ⟨k7, hk7⟩ : ∃ z, u0.heap.size = z := ⟨_, rfl⟩
    rw [hk7] at hb hz8 hlt  ⊢
    clear hk7 hg8
    generalize u0.alloc (.cells #[.bool false, .string ⟨#[]⟩, .slice none 0 0] 40) = v2 at *
    refine held_one (i := 2) (by kernel_rfl) ?_
    refine held_enter (some 14) rfl rfl 21 #[.string bp] (exec_call1 _ (.tmp 13) _ rfl _ rfl (enters_of Tryz.func21 (by kernel_rfl) rfl _ _)) rfl ((textR6_any bp v2).mono ?_)
    rintro e v37 ⟨rfl, hg⟩
    replace hS : Below w2.heap.size w2 v37 := hS.trans ((below_of_grown hg).mono hS.size)
    refine ⟨_, rfl, hS, ?_⟩
    simp only [Act.put, List.setIfInBounds_toArray, List.set_cons_zero, List.set_cons_succ]
    replace hb := hb.grown hg (by simp)
    replace hlt := Nat.lt_of_lt_of_le hlt hg.size
    clear hg
    refine held_one (i := 5) (by kernel_rfl) ?_
    refine held_enter (some 17) rfl rfl 22 #[.int .u64 (be : Int)] (exec_call1 _ (.tmp 16) _ rfl _ rfl (enters_of Tryz.func22 (by kernel_rfl) rfl _ _)) rfl ((HM1.out v37).mono ?_)
    rintro e v38 ⟨rfl, hg⟩
    replace hS : Below w2.heap.size w2 v38 := hS.trans ((below_of_grown hg).mono hS.size)
    refine ⟨_, rfl, hS, ?_⟩
    simp only [Act.put, List.setIfInBounds_toArray, List.set_cons_zero, List.set_cons_succ]
    replace hb := hb.grown hg (by simp)
    replace hlt := Nat.lt_of_lt_of_le hlt hg.size
    clear hg
    refine held_one (i := 8) (by kernel_rfl) ?_
    refine held_enter (some 20) rfl rfl 21 #[.string bh] (exec_call1 _ (.tmp 19) _ rfl _ rfl (enters_of Tryz.func21 (by kernel_rfl) rfl _ _)) rfl ((textR6_any bh v38).mono ?_)
    rintro e v39 ⟨rfl, hg⟩
    replace hS : Below w2.heap.size w2 v39 := hS.trans ((below_of_grown hg).mono hS.size)
    refine ⟨_, rfl, hS, ?_⟩
    simp only [Act.put, List.setIfInBounds_toArray, List.set_cons_zero, List.set_cons_succ]
    replace hb := hb.grown hg (by simp)
    replace hlt := Nat.lt_of_lt_of_le hlt hg.size
    clear hg
    refine held_one (i := 11) (by kernel_rfl) ?_
    refine held_enter (some 23) rfl rfl 22 #[.int .u64 (bt : Int)] (exec_call1 _ (.tmp 22) _ rfl _ rfl (enters_of Tryz.func22 (by kernel_rfl) rfl _ _)) rfl ((HM2.out v39).mono ?_)
    rintro e v40 ⟨rfl, hg⟩
    replace hS : Below w2.heap.size w2 v40 := hS.trans ((below_of_grown hg).mono hS.size)
    refine ⟨_, rfl, hS, ?_⟩
    simp only [Act.put, List.setIfInBounds_toArray, List.set_cons_zero, List.set_cons_succ]
    replace hb := hb.grown hg (by simp)
    replace hlt := Nat.lt_of_lt_of_le hlt hg.size
    clear hg
    refine held_one (i := 14) (by kernel_rfl) ?_
    have hR4 := HR.out.grown (grown_of_below hS) HB1.out (by simp)
    refine held_enter (some 26) rfl rfl 23 #[.slice A n c] (exec_call1 _ (.tmp 25) _ rfl _ rfl (enters_of Tryz.func23 (by kernel_rfl) rfl _ _)) rfl ((textsR6_any B A n c xs v40 hR4 (Nat.le_trans HB1.out hS.size) (by have := HN.out; omega)).mono ?_)
    rintro e v41 ⟨A', c', rfl, hsub, hg⟩
    replace hS : Below w2.heap.size w2 v41 := hS.trans ((below_of_grown hg).mono hS.size)
    refine ⟨_, rfl, hS, ?_⟩
    simp only [Act.put, List.setIfInBounds_toArray, List.set_cons_zero, List.set_cons_succ]
    have hml : (xs.map txt).length = n := by rw [List.length_map]; exact HL.out
    replace hsub : SubV (fun q => q ≠ k7) v41 (xs.map txt) (.slice A' n c') := hsub.weak (fun q hq => by have : v40.heap.size ≤ q := hq; show q ≠ k7; omega)
    replace hb := hb.grown hg (by simp)
    replace hlt := Nat.lt_of_lt_of_le hlt hg.size
    clear hg hR4
    refine held_one (i := 15) (by kernel_rfl) ?_
    rw [← hml] at hsub
    have hrow := five_subS (fun q => q ≠ k7) v41 bp N1 bh N2 (xs.map txt) A' c' (Nat.ne_of_gt hlt) hsub
    rw [hml] at hrow
    clear hsub
    replace hS := hS.alloc hS.size (.cells #[.bool false, .string bp, .slice none 0 0, .bool false, .string N1, .slice none 0 0, .bool false, .string bh, .slice none 0 0, .bool false, .string N2, .slice none 0 0, .bool true, .string ⟨#[]⟩, .slice A' n c'] 40)
    refine held_value (some 27) rfl rfl (.slice (some ⟨v41.heap.size, 0, none⟩) 5 5) (w' := v41.alloc (.cells #[.bool false, .string bp, .slice none 0 0, .bool false, .string N1, .slice none 0 0, .bool false, .string bh, .slice none 0 0, .bool false, .string N2, .slice none 0 0, .bool true, .string ⟨#[]⟩, .slice A' n c'] 40)) (by go_simp <;> rfl) rfl hS ?_
    simp only [Act.put, List.setIfInBounds_toArray, List.set_cons_zero, List.set_cons_succ]
    replace hb := hb.alloc (.cells #[.bool false, .string bp, .slice none 0 0, .bool false, .string N1, .slice none 0 0, .bool false, .string bh, .slice none 0 0, .bool false, .string N2, .slice none 0 0, .bool true, .string ⟨#[]⟩, .slice A' n c'] 40)
    replace hlt : k7 < (v41.alloc (.cells #[.bool false, .string bp, .slice none 0 0, .bool false, .string N1, .slice none 0 0, .bool false, .string bh, .slice none 0 0, .bool false, .string N2, .slice none 0 0, .bool true, .string ⟨#[]⟩, .slice A' n c'] 40)).heap.size := by simp; omega
    obtain ⟨u5z, hu5z⟩ : ∃ z, v41.heap.size = z := ⟨_, rfl⟩
    rw [hu5z] at hrow
    generalize v41.alloc (.cells #[.bool false, .string bp, .slice none 0 0, .bool false, .string N1, .slice none 0 0, .bool false, .string bh, .slice none 0 0, .bool false, .string N2, .slice none 0 0, .bool true, .string ⟨#[]⟩, .slice A' n c'] 40) = v42 at *
    refine held_one (i := 16) (by kernel_rfl) ?_
    refine held_enter (some 28) rfl rfl 20 #[.slice (some ⟨u5z, 0, none⟩) 5 5] (exec_call1 _ (.tmp 27) _ rfl _ (by rw [← hu5z]; rfl) (enters_of Tryz.func20 (by kernel_rfl) rfl _ _)) rfl ((listR6_any (.slice (some ⟨u5z, 0, none⟩) 5 5) ⟨_, _, _, rfl⟩ v42).mono ?_)
    rintro e v43 ⟨rfl, hg⟩
    replace hS : Below w2.heap.size w2 v43 := hS.trans ((below_of_grown hg).mono hS.size)
    refine ⟨_, rfl, hS, ?_⟩
    simp only [Act.put, List.setIfInBounds_toArray, List.set_cons_zero, List.set_cons_succ]
    replace hrow := SubV.grown hrow hg
    replace hb := hb.grown hg (by simp)
    replace hlt := Nat.lt_of_lt_of_le hlt hg.size
    clear hg
    have hb9 : Blk (((v43.setCell ⟨k7, 0, none⟩ (.bool true)).setCell ⟨k7, 1, none⟩ (.string ⟨#[]⟩)).setCell ⟨k7, 2, none⟩ (.slice (some ⟨u5z, 0, none⟩) 5 5)) k7 40 #[.bool true, .string ⟨#[]⟩, .slice (some ⟨u5z, 0, none⟩) 5 5] := ((hb.set_ 0 _).set_ 1 _).set_ 2 _
    have h9 := (sub_set3 (g := k7) hrow (fun h => h rfl) (.bool true) (.string ⟨#[]⟩) (.slice (some ⟨u5z, 0, none⟩) 5 5)).here
    have hS9 : Below w2.heap.size w2 (((v43.setCell ⟨k7, 0, none⟩ (.bool true)).setCell ⟨k7, 1, none⟩ (.string ⟨#[]⟩)).setCell ⟨k7, 2, none⟩ (.slice (some ⟨u5z, 0, none⟩) 5 5)) := below_of_grown (only_set (only_set (only_set (grown_of_below hS) (p := ⟨k7, 0, none⟩) hz8 _) (p := ⟨k7, 1, none⟩) hz8 _) (p := ⟨k7, 2, none⟩) hz8 _)
    refine held_one (i := 18) (by kernel_rfl) ?_
    refine held_store rfl rfl (exec_store3 (.tmp 5) (.tmp 28) rfl rfl rfl hb (by simp)) hS9 ?_
    simp only [Act.put, List.setIfInBounds_toArray, List.set_cons_zero, List.set_cons_succ]
    refine wpAnyH_done (by kernel_rfl) ?_ _
    have HG := Lib.hid (grown_self HG.out (grown_of_below hS9) (by simp))
    clear hS hS9 hbk2 hml hu5z hb hlt hz8 hrow
    generalize ((v43.setCell ⟨k7, 0, none⟩ (.bool true)).setCell ⟨k7, 1, none⟩ (.string ⟨#[]⟩)).setCell ⟨k7, 2, none⟩ (.slice (some ⟨u5z, 0, none⟩) 5 5) = u9 at *
    have c0 := hb9.cell 0; have c1 := hb9.cell 1; have c2 := hb9.cell 2
    simp only [List.getElem?_toArray, List.getElem?_cons_zero, List.getElem?_cons_succ] at c0 c1 c2
    go_wp2_with fail
    refine (HENC.out u9 _ h9).mono ?_
    rintro e u10 ⟨rfl, hg⟩
    have HG := Lib.hid (grown_self HG.out hg (by simp))
    clear hg c0 c1 c2 hb9 h9
    by_cases hbig : 65536 < L.length
    · have hI0 := HLS.out.1 hbig
      subst hI0
      have q2 : decide ((65536 : Int) < (L.length : Int)) = true := by simp; omega
      clear hbig
      go_wp2_with fail
      go_ret2
      exact ⟨rfl, HG.out⟩
    have hI0 := HLS.out.2.1 (by omega)
    subst hI0
    have q2 : decide ((65536 : Int) < (L.length : Int)) = false := by simp; omega
    have hsum : 1 + L.length ≤ 9223372036854775807 := by omega
    have hcv : (convert 36 9 (.slice (some ⟨u10.heap.size, 0, none⟩) 1 1)).run Tryz.prog (u10.alloc (.cells #[.int .u8 0] 5)) = .ok (.string ⟨#[0]⟩) (u10.alloc (.cells #[.int .u8 0] 5)) := conv_own (own_new1 u10 0)
    have HG := Lib.hid (only_alloc HG.out (.cells #[.int .u8 0] 5))
    clear hbig
    go_wp2_with fail
    go_ret2
    refine ⟨?_, HG.out⟩
    (try rw [if_pos rfl])
    rw [show (0 :: L) = [0] ++ L from rfl, ← ba_cat]
    rfl
end Go.Proofs.YtagjpbcmhaekpaaGreatDoor
