/- FieldWrites: the walk.  Printed by wip/genFldY.py -/
import Derived.Test.YtmlkjackopiekaaDoorFldYa
namespace Go.Proofs.YtmlkjackopiekaaDoor
open Go.RowKit Go.Shelf
set_option linter.unusedVariables false
set_option linter.unusedSimpArgs false

theorem writes6_law (n : Nat) (hn : n < 18446744073709551616) (a0 a1 a2 a3 : Nat) (h0 : a0 < 18446744073709551616) (h1 : a1 < 18446744073709551616) (h2 : a2 < 18446744073709551616) (h3 : a3 < 18446744073709551616) (s : ByteArray) (v : Bool) (A : Option Addr) (m c : Nat) (xs : List ByteArray) (W : World) (hR : Reads W W.heap.size 1 A m (xs.map Value.string)) (hm : m ≤ 9223372036854775807) (hs : s.size ≤ 9223372036854775807) (hxs : ∀ x ∈ xs, x.size ≤ 9223372036854775807) :
    Calls Tryd.prog 3 #[.int .u64 (n : Int), .agg #[.int .u64 (a0 : Int), .int .u64 (a1 : Int), .int .u64 (a2 : Int), .int .u64 (a3 : Int)], .string s, .bool v, .slice A m c] W fun e w' => e = .returned (.bool true) ∧ Below W.heap.size W w' := by
  obtain ⟨bn, hbn, hN, -⟩ := number_thru n hn
  obtain ⟨bw, hbw, hW, -⟩ := word_thru a0 a1 a2 a3 h0 h1 h2 h3
  have HN := Lib.hid hN; have HW := Lib.hid hW
  have HNr := Lib.hid (fun V => number_thruR n hn bn hbn V); have HWr := Lib.hid (fun V => word_thruR a0 a1 a2 a3 h0 h1 h2 h3 bw hbw V)
  have HNs := Lib.hid (show bn.size ≤ 9223372036854775807 from Nat.le_trans (size_list hbn 8 (beN_len8 n hn)) (by decide))
  have HWs := Lib.hid (show bw.size ≤ 9223372036854775807 from Nat.le_trans (size_list hbw 32 (beN_len _)) (by decide))
  have hl : xs.length = m := by have := hR.1; simpa using this
  have HL := Lib.hid hl
  have HXS := Lib.hid hxs
  clear hN hW hbn hbw hl hn h0 h1 h2 h3 hxs
  have hB := Blk.new W 24 #[.int .u64 (a0 : Int), .int .u64 (a1 : Int), .int .u64 (a2 : Int), .int .u64 (a3 : Int)]
  have hG := only_alloc (World.grownBy.refl W none) (.cells #[.int .u64 (a0 : Int), .int .u64 (a1 : Int), .int .u64 (a2 : Int), .int .u64 (a3 : Int)] 24)
  have HR := Lib.hid (hR.alloc (Nat.le_refl _) (.cells #[.int .u64 (a0 : Int), .int .u64 (a1 : Int), .int .u64 (a2 : Int), .int .u64 (a3 : Int)] 24))
  go_enter Tryd.func3, Tryd.ntmps3
  go_upto_region 1 with (fail)
  have HZ := Lib.hid (show W.heap.size ≤ (W.alloc (.cells #[.int .u64 (a0 : Int), .int .u64 (a1 : Int), .int .u64 (a2 : Int), .int .u64 (a3 : Int)] 24)).heap.size by simp)
  have HG := Lib.hid hG
  clear hR hG
  obtain ⟨b, hb⟩ : ∃ b, W.heap.size = b := ⟨_, rfl⟩
  rw [hb] at hB HR HZ ⊢
  have HB := Lib.hid hB
  have HE := Lib.hid hb
  clear hb hB
  generalize W.alloc (.cells #[.int .u64 (a0 : Int), .int .u64 (a1 : Int), .int .u64 (a2 : Int), .int .u64 (a3 : Int)] 24) = W1 at *
  go_wp2_with fail
  refine (works6_any _).mono ?_
  rintro e w2 ⟨rfl, hg⟩
  replace HG := Lib.hid (grown_self HG.out hg (by simp))
  replace HR := Lib.hid (HR.out.grown hg HZ.out (by simp))
  replace HZ := Lib.hid (Nat.le_trans HZ.out hg.size)
  replace HB := Lib.hid (HB.out.grown hg (by simp))
  clear hg
  by_cases hs3 : 300 < s.size
  · have g1 : decide ((300 : Int) < (s.size : Int)) = true := by simp; omega
    go_wp2_with fail
    go_ret
    exact ⟨rfl, HE.out ▸ below_of_grown HG.out⟩
  by_cases hm4 : 40 < m
  · have g1 : decide ((300 : Int) < (s.size : Int)) = false := by simp; omega
    have g2 : decide ((40 : Int) < (m : Int)) = true := by simp; omega
    go_wp2_with fail
    go_ret
    exact ⟨rfl, HE.out ▸ below_of_grown HG.out⟩
  have g1 : decide ((300 : Int) < (s.size : Int)) = false := by simp; omega
  have g2 : decide ((40 : Int) < (m : Int)) = false := by simp; omega
  have HM := Lib.hid (show m ≤ 40 by omega)
  have HSs := Lib.hid hs
  clear hm hs hs3 hm4
  go_upto_region 6 with (fail)
  have c0 := HB.out.cell 0; have c1 := HB.out.cell 1; have c2 := HB.out.cell 2; have c3 := HB.out.cell 3
  simp only [List.getElem?_toArray, List.getElem?_cons_zero, List.getElem?_cons_succ] at c0 c1 c2 c3
  have hC0 : (fun V => Below w2.heap.size w2 V) w2.drew := ⟨rfl, rfl, rfl, Nat.le_refl _, fun _ _ => rfl⟩
  refine wp_region_class (fun V => Below w2.heap.size w2 V) (by kernel_rfl) (by kernel_rfl) hC0 ?_
  have hcc := class_const hC0
  have hlb := HB.out.lt
  have hr0 : ∀ V, Below w2.heap.size w2 V → V.cell? ⟨b, 0, none⟩ = some (.int .u64 (a0 : Int)) := fun V hV => (hV.cell (p := ⟨b, 0, none⟩) hlb).trans c0
  have hr1 : ∀ V, Below w2.heap.size w2 V → V.cell? ⟨b, 1, none⟩ = some (.int .u64 (a1 : Int)) := fun V hV => (hV.cell (p := ⟨b, 1, none⟩) hlb).trans c1
  have hr2 : ∀ V, Below w2.heap.size w2 V → V.cell? ⟨b, 2, none⟩ = some (.int .u64 (a2 : Int)) := fun V hV => (hV.cell (p := ⟨b, 2, none⟩) hlb).trans c2
  have hr3 : ∀ V, Below w2.heap.size w2 V → V.cell? ⟨b, 3, none⟩ = some (.int .u64 (a3 : Int)) := fun V hV => (hV.cell (p := ⟨b, 3, none⟩) hlb).trans c3
  clear c0 c1 c2 c3 hlb
  (try simp only [Act.put])
  (repeat go_big_quiet_step (fail))
  refine quiet_call (.agg #[.bool false, .string bn, .slice none 0 0]) 8 #[.int .u64 (n : Int)] rfl (fun V => exec_call1 _ (.tmp 27) _ rfl _ rfl rfl) (fun V hV => HN.out V) ?_
  simp only [Act.put, List.setIfInBounds_toArray, List.set_cons_zero, List.set_cons_succ]
  (repeat go_big_quiet_step (fail))
  refine quiet_call (.agg #[.bool false, .string bn, .slice none 0 0]) 9 #[.int .u64 (n : Int)] rfl (fun V => exec_call1 _ (.tmp 29) _ rfl _ rfl rfl) (fun V hV => HNr.out V) ?_
  simp only [Act.put, List.setIfInBounds_toArray, List.set_cons_zero, List.set_cons_succ]
  refine quiet_call (.bool true) 7 #[.agg #[.bool false, .string bn, .slice none 0 0], .agg #[.bool false, .string bn, .slice none 0 0]] rfl (fun V => exec_call2 _ (.tmp 28) (.tmp 30) _ rfl _ _ rfl rfl rfl) (fun V hV => leafR_any bn HNs.out V) ?_
  simp only [Act.put, List.setIfInBounds_toArray, List.set_cons_zero, List.set_cons_succ]
  (repeat go_big_quiet_step (fail))
  refine wpQuiet_value rfl (.agg #[.int .u64 (a0 : Int), .int .u64 (a1 : Int), .int .u64 (a2 : Int), .int .u64 (a3 : Int)]) (fun V hV => exec_loadW _ rfl rfl (hr0 V hV) (hr1 V hV) (hr2 V hV) (hr3 V hV)) ?_
  simp only [Act.put, List.setIfInBounds_toArray, List.set_cons_zero, List.set_cons_succ]
  refine quiet_call (.agg #[.bool false, .string bw, .slice none 0 0]) 10 #[.agg #[.int .u64 (a0 : Int), .int .u64 (a1 : Int), .int .u64 (a2 : Int), .int .u64 (a3 : Int)]] rfl (fun V => exec_call1 _ (.tmp 33) _ rfl _ rfl rfl) (fun V hV => HW.out V) ?_
  simp only [Act.put, List.setIfInBounds_toArray, List.set_cons_zero, List.set_cons_succ]
  refine wpQuiet_value rfl (.agg #[.int .u64 (a0 : Int), .int .u64 (a1 : Int), .int .u64 (a2 : Int), .int .u64 (a3 : Int)]) (fun V hV => exec_loadW _ rfl rfl (hr0 V hV) (hr1 V hV) (hr2 V hV) (hr3 V hV)) ?_
  simp only [Act.put, List.setIfInBounds_toArray, List.set_cons_zero, List.set_cons_succ]
  refine quiet_call (.agg #[.bool false, .string bw, .slice none 0 0]) 11 #[.agg #[.int .u64 (a0 : Int), .int .u64 (a1 : Int), .int .u64 (a2 : Int), .int .u64 (a3 : Int)]] rfl (fun V => exec_call1 _ (.tmp 35) _ rfl _ rfl rfl) (fun V hV => HWr.out V) ?_
  simp only [Act.put, List.setIfInBounds_toArray, List.set_cons_zero, List.set_cons_succ]
  refine quiet_call (.bool true) 7 #[.agg #[.bool false, .string bw, .slice none 0 0], .agg #[.bool false, .string bw, .slice none 0 0]] rfl (fun V => exec_call2 _ (.tmp 34) (.tmp 36) _ rfl _ _ rfl rfl rfl) (fun V hV => leafR_any bw HWs.out V) ?_
  simp only [Act.put, List.setIfInBounds_toArray, List.set_cons_zero, List.set_cons_succ]
  (repeat go_big_quiet_step (fail))
  refine wpQuiet_nil ?_
  intro w3 hw3
  have hg := grown_of_below hw3
  replace HG := Lib.hid (grown_self HG.out hg (by simp))
  replace HR := Lib.hid (HR.out.grown hg HZ.out (by simp))
  replace HZ := Lib.hid (Nat.le_trans HZ.out hg.size)
  replace HB := Lib.hid (HB.out.grown hg (by simp))
  clear hcc hC0 hr0 hr1 hr2 hr3 hw3 hg
  go_wp2_with fail
  refine (text_any s _).mono ?_
  rintro e w4 ⟨rfl, hg⟩
  replace HG := Lib.hid (grown_self HG.out hg (by simp))
  replace HR := Lib.hid (HR.out.grown hg HZ.out (by simp))
  replace HZ := Lib.hid (Nat.le_trans HZ.out hg.size)
  replace HB := Lib.hid (HB.out.grown hg (by simp))
  clear hg
  go_wp2_with fail
  refine (textR6_any s _).mono ?_
  rintro e w5 ⟨rfl, hg⟩
  replace HG := Lib.hid (grown_self HG.out hg (by simp))
  replace HR := Lib.hid (HR.out.grown hg HZ.out (by simp))
  replace HZ := Lib.hid (Nat.le_trans HZ.out hg.size)
  replace HB := Lib.hid (HB.out.grown hg (by simp))
  clear hg
  go_wp2_with fail
  refine (leafR_any s HSs.out _).mono ?_
  rintro e w6 ⟨rfl, hg⟩
  replace HG := Lib.hid (grown_self HG.out hg (by simp))
  replace HR := Lib.hid (HR.out.grown hg HZ.out (by simp))
  replace HZ := Lib.hid (Nat.le_trans HZ.out hg.size)
  replace HB := Lib.hid (HB.out.grown hg (by simp))
  clear hg
  go_wp2_with fail
  refine (boolF_any v _).mono ?_
  rintro e w7 ⟨rfl, hg⟩
  replace HG := Lib.hid (grown_self HG.out hg (by simp))
  replace HR := Lib.hid (HR.out.grown hg HZ.out (by simp))
  replace HZ := Lib.hid (Nat.le_trans HZ.out hg.size)
  replace HB := Lib.hid (HB.out.grown hg (by simp))
  clear hg
  go_wp2_with fail
  refine (boolR6_any v _).mono ?_
  rintro e w8 ⟨rfl, hg⟩
  replace HG := Lib.hid (grown_self HG.out hg (by simp))
  replace HR := Lib.hid (HR.out.grown hg HZ.out (by simp))
  replace HZ := Lib.hid (Nat.le_trans HZ.out hg.size)
  replace HB := Lib.hid (HB.out.grown hg (by simp))
  clear hg
  go_wp2_with fail
  refine (leafR_any (yesS v) (Nat.le_trans (yesS_size v) (by decide)) _).mono ?_
  rintro e w9 ⟨rfl, hg⟩
  replace HG := Lib.hid (grown_self HG.out hg (by simp))
  replace HR := Lib.hid (HR.out.grown hg HZ.out (by simp))
  replace HZ := Lib.hid (Nat.le_trans HZ.out hg.size)
  replace HB := Lib.hid (HB.out.grown hg (by simp))
  clear hg
  go_wp2_with fail
  refine (texts_any b A m c xs _ HR.out HZ.out (by have := HM.out; omega)).mono ?_
  rintro e w10 ⟨A1, c1, rfl, hS, hg⟩
  replace HG := Lib.hid (grown_self HG.out hg (by simp))
  replace HR := Lib.hid (HR.out.grown hg HZ.out (by simp))
  replace HZ := Lib.hid (Nat.le_trans HZ.out hg.size)
  replace HB := Lib.hid (HB.out.grown hg (by simp))
  have HS1 := Lib.hid hS.here
  clear hg hS
  go_wp2_with fail
  refine (textsR6_any b A m c xs _ HR.out HZ.out (by have := HM.out; omega)).mono ?_
  rintro e w11 ⟨A2, c2, rfl, hS, hg⟩
  replace HG := Lib.hid (grown_self HG.out hg (by simp))
  replace HR := Lib.hid (HR.out.grown hg HZ.out (by simp))
  replace HZ := Lib.hid (Nat.le_trans HZ.out hg.size)
  replace HB := Lib.hid (HB.out.grown hg (by simp))
  replace HS1 := Lib.hid (SubW.grown HS1.out hg)
  have HS2 := Lib.hid hS.here
  clear hg hS
  go_wp2_with fail
  refine (listR_any xs HXS.out (by have := HL.out; have := HM.out; omega) _ _ _ HS1.out HS2.out).mono ?_
  rintro e w12 ⟨rfl, hg⟩
  replace HG := Lib.hid (grown_self HG.out hg (by simp))
  replace HR := Lib.hid (HR.out.grown hg HZ.out (by simp))
  replace HZ := Lib.hid (Nat.le_trans HZ.out hg.size)
  replace HB := Lib.hid (HB.out.grown hg (by simp))
  replace HS1 := Lib.hid (SubW.grown HS1.out hg)
  replace HS2 := Lib.hid (SubW.grown HS2.out hg)
  clear hg
  clear HS1 HS2
  go_wp2_with fail
  refine (HN.out _).mono ?_
  rintro e w13 ⟨rfl, hg⟩
  replace HG := Lib.hid (grown_self HG.out hg (by simp))
  replace HR := Lib.hid (HR.out.grown hg HZ.out (by simp))
  replace HZ := Lib.hid (Nat.le_trans HZ.out hg.size)
  replace HB := Lib.hid (HB.out.grown hg (by simp))
  clear hg
  go_wp2_with fail
  refine (text_any s _).mono ?_
  rintro e w14 ⟨rfl, hg⟩
  replace HG := Lib.hid (grown_self HG.out hg (by simp))
  replace HR := Lib.hid (HR.out.grown hg HZ.out (by simp))
  replace HZ := Lib.hid (Nat.le_trans HZ.out hg.size)
  replace HB := Lib.hid (HB.out.grown hg (by simp))
  clear hg
  go_wp2_with fail
  have hT := two_sub w14 bn s
  have hg := only_alloc (World.grownBy.refl w14 none) (.cells #[.bool false, .string bn, .slice none 0 0, .bool false, .string s, .slice none 0 0] 30)
  obtain ⟨d1, hd⟩ : ∃ d, w14.heap.size = d := ⟨_, rfl⟩
  rw [hd] at hT ⊢
  generalize w14.alloc (.cells #[.bool false, .string bn, .slice none 0 0, .bool false, .string s, .slice none 0 0] 30) = w15 at *
  replace HG := Lib.hid (grown_self HG.out hg (by simp))
  replace HR := Lib.hid (HR.out.grown hg HZ.out (by simp))
  replace HZ := Lib.hid (Nat.le_trans HZ.out hg.size)
  replace HB := Lib.hid (HB.out.grown hg (by simp))
  have HT1 := Lib.hid hT
  clear hg hT hd
  refine (list_any _ ⟨some ⟨d1, 0, none⟩, 2, 2, rfl⟩ _).mono ?_
  rintro e w16 ⟨rfl, hg⟩
  replace HG := Lib.hid (grown_self HG.out hg (by simp))
  replace HR := Lib.hid (HR.out.grown hg HZ.out (by simp))
  replace HZ := Lib.hid (Nat.le_trans HZ.out hg.size)
  replace HB := Lib.hid (HB.out.grown hg (by simp))
  replace HT1 := Lib.hid (SubW.grown HT1.out hg)
  clear hg
  go_wp2_with fail
  refine (HNr.out _).mono ?_
  rintro e w17 ⟨rfl, hg⟩
  replace HG := Lib.hid (grown_self HG.out hg (by simp))
  replace HR := Lib.hid (HR.out.grown hg HZ.out (by simp))
  replace HZ := Lib.hid (Nat.le_trans HZ.out hg.size)
  replace HB := Lib.hid (HB.out.grown hg (by simp))
  replace HT1 := Lib.hid (SubW.grown HT1.out hg)
  clear hg
  go_wp2_with fail
  refine (textR6_any s _).mono ?_
  rintro e w18 ⟨rfl, hg⟩
  replace HG := Lib.hid (grown_self HG.out hg (by simp))
  replace HR := Lib.hid (HR.out.grown hg HZ.out (by simp))
  replace HZ := Lib.hid (Nat.le_trans HZ.out hg.size)
  replace HB := Lib.hid (HB.out.grown hg (by simp))
  replace HT1 := Lib.hid (SubW.grown HT1.out hg)
  clear hg
  go_wp2_with fail
  have hT := two_sub w18 bn s
  have hg := only_alloc (World.grownBy.refl w18 none) (.cells #[.bool false, .string bn, .slice none 0 0, .bool false, .string s, .slice none 0 0] 30)
  obtain ⟨d2, hd⟩ : ∃ d, w18.heap.size = d := ⟨_, rfl⟩
  rw [hd] at hT ⊢
  generalize w18.alloc (.cells #[.bool false, .string bn, .slice none 0 0, .bool false, .string s, .slice none 0 0] 30) = w19 at *
  replace HG := Lib.hid (grown_self HG.out hg (by simp))
  replace HR := Lib.hid (HR.out.grown hg HZ.out (by simp))
  replace HZ := Lib.hid (Nat.le_trans HZ.out hg.size)
  replace HB := Lib.hid (HB.out.grown hg (by simp))
  replace HT1 := Lib.hid (SubW.grown HT1.out hg)
  have HT2 := Lib.hid hT
  clear hg hT hd
  refine (listR6_any _ ⟨some ⟨d2, 0, none⟩, 2, 2, rfl⟩ _).mono ?_
  rintro e w20 ⟨rfl, hg⟩
  replace HG := Lib.hid (grown_self HG.out hg (by simp))
  replace HR := Lib.hid (HR.out.grown hg HZ.out (by simp))
  replace HZ := Lib.hid (Nat.le_trans HZ.out hg.size)
  replace HB := Lib.hid (HB.out.grown hg (by simp))
  replace HT1 := Lib.hid (SubW.grown HT1.out hg)
  replace HT2 := Lib.hid (SubW.grown HT2.out hg)
  clear hg
  have h2s : ∀ x ∈ [bn, s], x.size ≤ 9223372036854775807 := by
    intro x hx
    rcases List.mem_cons.1 hx with h | hx
    · exact h ▸ HNs.out
    · exact (List.mem_singleton.1 hx) ▸ HSs.out
  go_wp2_with fail
  refine (listR_any [bn, s] h2s (by simp) _ _ _ HT1.out HT2.out).mono ?_
  rintro e w21 ⟨rfl, hg⟩
  replace HG := Lib.hid (grown_self HG.out hg (by simp))
  replace HR := Lib.hid (HR.out.grown hg HZ.out (by simp))
  replace HZ := Lib.hid (Nat.le_trans HZ.out hg.size)
  replace HB := Lib.hid (HB.out.grown hg (by simp))
  replace HT1 := Lib.hid (SubW.grown HT1.out hg)
  replace HT2 := Lib.hid (SubW.grown HT2.out hg)
  clear hg
  go_wp2_with fail
  go_ret
  exact ⟨rfl, HE.out ▸ below_of_grown HG.out⟩
end Go.Proofs.YtmlkjackopiekaaDoor
