/- A number, a word, bytes, a list as an item: the document's. -/
import Derived.Test.YtmlkjackopiekaaDoorFldE
import Derived.Test.YtmlkjackopiekaaDoorWrdR
namespace Go.Proofs.YtmlkjackopiekaaDoor
open Go.RowKit Go.Shelf
set_option linter.unusedVariables false
set_option linter.unusedSimpArgs false

set_option maxRecDepth 100000 in
set_option maxHeartbeats 1000000 in
theorem numberR6_any (n : Nat) (hn : n < 18446744073709551616) (w : World) :
    Calls Tryd.prog 9 #[.int .u64 (n : Int)] w fun e w' => e = .returned (.agg #[.bool false, .string ⟨(beN n).toArray⟩, .slice none 0 0]) ∧ w.grownBy w' none := by
  have hB := Blk.new w 30 #[.bool false, .string ⟨#[]⟩, .slice none 0 0]
  have HG := Lib.hid (only_alloc (World.grownBy.refl w none) (.cells #[.bool false, .string ⟨#[]⟩, .slice none 0 0] 30))
  have hbe := fun V => beR_any n hn V
  obtain ⟨t, ht⟩ : ∃ t : ByteArray, (⟨(beN n).toArray⟩ : ByteArray) = t := ⟨_, rfl⟩
  rw [ht] at hbe ⊢
  have HBe := Lib.hid hbe
  clear hbe ht
  go_enter Tryd.func9, Tryd.ntmps9
  go_upto_region 1 with (fail)
  obtain ⟨b, hb⟩ : ∃ b, w.heap.size = b := ⟨_, rfl⟩
  have HW := Lib.hid hb
  rw [hb] at hB ⊢
  clear hb
  generalize w.alloc (.cells #[.bool false, .string ⟨#[]⟩, .slice none 0 0] 30) = W1 at *
  go_wp2_with fail
  refine (HBe.out _).mono ?_
  rintro e w3 ⟨rfl, hg3⟩
  have hB := hB.grown hg3 (by simp)
  have hG4 := grown_self HG.out hg3 (by simp)
  have hle : w.heap.size ≤ b := by have := HW.out; omega
  have HG5 := Lib.hid (only_set (only_set (only_set hG4 (p := ⟨b, 0, none⟩) hle (.bool false)) (p := ⟨b, 1, none⟩) hle (.string t)) (p := ⟨b, 2, none⟩) hle (.slice none 0 0))
  have HB5 := Lib.hid (((hB.set_ 0 (.bool false)).set_ 1 (.string t)).set_ 2 (.slice none 0 0))
  have c0 := hB.cell 0; have c1 := hB.cell 1; have c2 := hB.cell 2
  have d0 := hB.frozen 0; have d1 := hB.frozen 1; have d2 := hB.frozen 2
  simp only [List.getElem?_toArray, List.getElem?_cons_zero, List.getElem?_cons_succ] at c0 c1 c2
  clear hg3 hG4 hB hle
  go_wp2_with fail
  refine bodyPost_ret (results_cell1 (fn := Tryd.f9) rfl _ _ _ _ rfl (load_itemF HB5.out)) rfl ?_
  exact ⟨rfl, HG5.out⟩
set_option maxRecDepth 100000 in
set_option maxHeartbeats 2000000 in
theorem wordR6_any (a0 a1 a2 a3 : Nat) (h0 : a0 < 18446744073709551616) (h1 : a1 < 18446744073709551616) (h2 : a2 < 18446744073709551616) (h3 : a3 < 18446744073709551616) (w : World) :
    Calls Tryd.prog 11 #[.agg #[.int .u64 (a0 : Int), .int .u64 (a1 : Int), .int .u64 (a2 : Int), .int .u64 (a3 : Int)]] w fun e w' => e = .returned (.agg #[.bool false, .string ⟨(beN (wordN a0 a1 a2 a3)).toArray⟩, .slice none 0 0]) ∧ w.grownBy w' none := by
  have hbe := fun V => bytesR_any a0 a1 a2 a3 h0 h1 h2 h3 V
  obtain ⟨t, ht⟩ : ∃ t : ByteArray, (⟨(beN (wordN a0 a1 a2 a3)).toArray⟩ : ByteArray) = t := ⟨_, rfl⟩
  rw [ht] at hbe ⊢
  have HBe := Lib.hid hbe
  clear hbe ht h0 h1 h2 h3
  have hX := (Blk.new w 24 #[.int .u64 (a0 : Int), .int .u64 (a1 : Int), .int .u64 (a2 : Int), .int .u64 (a3 : Int)]).alloc (.cells #[.bool false, .string ⟨#[]⟩, .slice none 0 0] 30)
  have hB := Blk.new (w.alloc (.cells #[.int .u64 (a0 : Int), .int .u64 (a1 : Int), .int .u64 (a2 : Int), .int .u64 (a3 : Int)] 24)) 30 #[.bool false, .string ⟨#[]⟩, .slice none 0 0]
  rw [World.size_alloc] at hB
  have HG := Lib.hid (only_alloc (only_alloc (World.grownBy.refl w none) (.cells #[.int .u64 (a0 : Int), .int .u64 (a1 : Int), .int .u64 (a2 : Int), .int .u64 (a3 : Int)] 24)) (.cells #[.bool false, .string ⟨#[]⟩, .slice none 0 0] 30))
  go_enter Tryd.func11, Tryd.ntmps11
  go_upto_region 1 with (fail)
  obtain ⟨b, hb⟩ : ∃ b, w.heap.size = b := ⟨_, rfl⟩
  have HW := Lib.hid hb
  rw [hb] at hB hX ⊢
  clear hb
  generalize (w.alloc (.cells #[.int .u64 (a0 : Int), .int .u64 (a1 : Int), .int .u64 (a2 : Int), .int .u64 (a3 : Int)] 24)).alloc (.cells #[.bool false, .string ⟨#[]⟩, .slice none 0 0] 30) = W1 at *
  have x0 := hX.cell 0; have x1 := hX.cell 1; have x2 := hX.cell 2; have x3 := hX.cell 3
  simp only [List.getElem?_toArray, List.getElem?_cons_zero, List.getElem?_cons_succ] at x0 x1 x2 x3
  go_wp2_with fail
  refine (HBe.out _).mono ?_
  rintro e w3 ⟨rfl, hg3⟩
  have hB := hB.grown hg3 (by simp)
  have hG4 := grown_self HG.out hg3 (by simp)
  have hle : w.heap.size ≤ b + 1 := by have := HW.out; omega
  have HG5 := Lib.hid (only_set (only_set (only_set hG4 (p := ⟨b + 1, 0, none⟩) hle (.bool false)) (p := ⟨b + 1, 1, none⟩) hle (.string t)) (p := ⟨b + 1, 2, none⟩) hle (.slice none 0 0))
  have HB5 := Lib.hid (((hB.set_ 0 (.bool false)).set_ 1 (.string t)).set_ 2 (.slice none 0 0))
  have c0 := hB.cell 0; have c1 := hB.cell 1; have c2 := hB.cell 2
  have d0 := hB.frozen 0; have d1 := hB.frozen 1; have d2 := hB.frozen 2
  simp only [List.getElem?_toArray, List.getElem?_cons_zero, List.getElem?_cons_succ] at c0 c1 c2
  clear hg3 hG4 hB hle x0 x1 x2 x3 hX
  go_wp2_with fail
  refine bodyPost_ret (results_cell1 (fn := Tryd.f11) rfl _ _ _ _ rfl (load_itemF HB5.out)) rfl ?_
  exact ⟨rfl, HG5.out⟩
set_option maxRecDepth 100000 in
theorem textR6_any (s : ByteArray) (w : World) :
    Calls Tryd.prog 13 #[.string s] w fun e w' => e = .returned (.agg #[.bool false, .string s, .slice none 0 0]) ∧ w.grownBy w' none := by
  have hB := Blk.new w 30 #[.bool false, .string s, .slice none 0 0]
  have hG := only_alloc (World.grownBy.refl w none) (.cells #[.bool false, .string s, .slice none 0 0] 30)
  go_enter Tryd.func13, Tryd.ntmps13
  go_wp2_with fail
  refine bodyPost_ret (results_cell1 (fn := Tryd.f13) rfl _ _ _ _ rfl (load_itemF hB)) rfl ?_
  exact ⟨rfl, hG⟩

set_option maxRecDepth 100000 in
theorem listR6_any (sv : Value) (hsv : ∃ A n c, sv = .slice A n c) (w : World) :
    Calls Tryd.prog 19 #[sv] w fun e w' => e = .returned (.agg #[.bool true, .string ⟨#[]⟩, sv]) ∧ w.grownBy w' none := by
  obtain ⟨A, n, c, rfl⟩ := hsv
  have hB := Blk.new w 30 #[.bool true, .string ⟨#[]⟩, .slice A n c]
  have hG := only_alloc (World.grownBy.refl w none) (.cells #[.bool true, .string ⟨#[]⟩, .slice A n c] 30)
  go_enter Tryd.func19, Tryd.ntmps19
  go_wp2_with fail
  refine bodyPost_ret (results_cell1 (fn := Tryd.f19) rfl _ _ _ _ rfl (load_itemF hB)) rfl ?_
  exact ⟨rfl, hG⟩
end Go.Proofs.YtmlkjackopiekaaDoor
