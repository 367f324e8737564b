/- A word as an item, and read again. -/
import Derived.Test.YtmlkjackopiekaaDoorFldD
namespace Go.Proofs.YtmlkjackopiekaaDoor
open Go.RowKit Go.Shelf
set_option linter.unusedVariables false
set_option linter.unusedSimpArgs false

/-- an item's word -/
def wordE (l : Bool) (s : ByteArray) : Int := if l then 2 else parseE s.data.toList
def wordP (l : Bool) (s : ByteArray) (q : Nat) : Nat := if l then 0 else parseP s.data.toList q

set_option maxRecDepth 100000 in
set_option maxHeartbeats 2000000 in
theorem getWord_any (l : Bool) (s : ByteArray) (sv : Value) (hs : s.size ≤ 9223372036854775807) (w : World) :
    Calls Tryd.prog 21 #[.agg #[.bool l, .string s, sv]] w fun e w' => e = .returned (.tuple #[.agg #[.int .u64 (wordP l s 0 : Nat), .int .u64 (wordP l s 1 : Nat), .int .u64 (wordP l s 2 : Nat), .int .u64 (wordP l s 3 : Nat)], .int .i64 (wordE l s)]) ∧ w.grownBy w' none := by
  have ho := fun V => ofWord_any l s sv (parseE s.data.toList) (wordP l s 0) (wordP l s 1) (wordP l s 2) (wordP l s 3) (fun h => by
      have key : ∀ q, wordP l s q = 0 := fun q => by
        unfold wordP
        rcases h with h | h
        · split
          · rfl
          · exact if_neg h
        · rw [h]; rfl
      exact ⟨key 0, key 1, key 2, key 3⟩) (fun h W => by
      have := parse_any s hs W
      subst h
      exact this) V
  rw [show (if l then (2 : Int) else parseE s.data.toList) = wordE l s from rfl] at ho
  have HO := Lib.hid ho
  clear ho
  generalize wordP l s 0 = a0 at *
  generalize wordP l s 1 = a1 at *
  generalize wordP l s 2 = a2 at *
  generalize wordP l s 3 = a3 at *
  generalize wordE l s = E at *
  have hB := (Blk.new w 30 #[.bool l, .string s, sv]).alloc (.cells wZ 24)
  have hR := Blk.new (w.alloc (.cells #[.bool l, .string s, sv] 30)) 24 wZ
  rw [World.size_alloc] at hR
  have hG := only_alloc (only_alloc (World.grownBy.refl w none) (.cells #[.bool l, .string s, sv] 30)) (.cells wZ 24)
  go_enter Tryd.func21, Tryd.ntmps21
  go_upto_region 1 with (fail)
  obtain ⟨b, hb⟩ : ∃ b, w.heap.size = b := ⟨_, rfl⟩
  have HWS := Lib.hid hb
  rw [hb] at hB hR ⊢
  clear hb
  generalize (w.alloc (.cells #[.bool l, .string s, sv] 30)).alloc (.cells wZ 24) = W1 at *
  have hle : w.heap.size ≤ b + 1 := by have := HWS.out; omega
  have c0 := hB.cell 0; have c1 := hB.cell 1; have c2 := hB.cell 2
  simp only [List.getElem?_toArray, List.getElem?_cons_zero, List.getElem?_cons_succ] at c0 c1 c2
  have HR := Lib.hid hR; have HG := Lib.hid hG
  clear hR hG hB
  go_wp2_with fail
  refine (HO.out _).mono ?_
  rintro e w3 ⟨rfl, hg3⟩
  have hR := HR.out.grown hg3 (by simp)
  have HB5 := Lib.hid (blk_set4 hR (.int .u64 (a0 : Int)) (.int .u64 (a1 : Int)) (.int .u64 (a2 : Int)) (.int .u64 (a3 : Int)))
  have HG5 := Lib.hid (only_set4 (grown_self HG.out hg3 (by simp)) hle (.int .u64 (a0 : Int)) (.int .u64 (a1 : Int)) (.int .u64 (a2 : Int)) (.int .u64 (a3 : Int)))
  have r0 := hR.cell 0; have r1 := hR.cell 1; have r2 := hR.cell 2; have r3 := hR.cell 3
  have f0 := hR.frozen 0; have f1 := hR.frozen 1; have f2 := hR.frozen 2; have f3 := hR.frozen 3
  simp only [List.getElem?_toArray, List.getElem?_cons_zero, List.getElem?_cons_succ] at r0 r1 r2 r3
  clear hg3 hR HR HG hle c0 c1 c2 HO
  go_wp2_with fail
  refine bodyPost_ret (results_cv (fn := Tryd.f21) rfl _ _ _ _ rfl (load_word HB5.out)) rfl ?_
  exact ⟨rfl, HG5.out⟩

set_option maxRecDepth 100000 in
set_option maxHeartbeats 2000000 in
theorem word_any (a0 a1 a2 a3 : Nat) (h0 : a0 < 18446744073709551616) (h1 : a1 < 18446744073709551616) (h2 : a2 < 18446744073709551616) (h3 : a3 < 18446744073709551616) (w : World) :
    Calls Tryd.prog 10 #[.agg #[.int .u64 (a0 : Int), .int .u64 (a1 : Int), .int .u64 (a2 : Int), .int .u64 (a3 : Int)]] w fun e w' => e = .returned (.agg #[.bool false, .string ⟨(beN (wordN a0 a1 a2 a3)).toArray⟩, .slice none 0 0]) ∧ w.grownBy w' none := by
  have hbe := fun V => wordBytes_any a0 a1 a2 a3 h0 h1 h2 h3 V
  obtain ⟨t, ht⟩ : ∃ t : ByteArray, (⟨(beN (wordN a0 a1 a2 a3)).toArray⟩ : ByteArray) = t := ⟨_, rfl⟩
  rw [ht] at hbe ⊢
  have HBe := Lib.hid hbe
  clear hbe ht h0 h1 h2 h3
  have hX := (Blk.new w 24 #[.int .u64 (a0 : Int), .int .u64 (a1 : Int), .int .u64 (a2 : Int), .int .u64 (a3 : Int)]).alloc (.cells #[.bool false, .string ⟨#[]⟩, .slice none 0 0] 30)
  have hB := Blk.new (w.alloc (.cells #[.int .u64 (a0 : Int), .int .u64 (a1 : Int), .int .u64 (a2 : Int), .int .u64 (a3 : Int)] 24)) 30 #[.bool false, .string ⟨#[]⟩, .slice none 0 0]
  rw [World.size_alloc] at hB
  have HG := Lib.hid (only_alloc (only_alloc (World.grownBy.refl w none) (.cells #[.int .u64 (a0 : Int), .int .u64 (a1 : Int), .int .u64 (a2 : Int), .int .u64 (a3 : Int)] 24)) (.cells #[.bool false, .string ⟨#[]⟩, .slice none 0 0] 30))
  go_enter Tryd.func10, Tryd.ntmps10
  go_upto_region 1 with (fail)
  obtain ⟨b, hb⟩ : ∃ b, w.heap.size = b := ⟨_, rfl⟩
  have HW := Lib.hid hb
  rw [hb] at hB hX ⊢
  clear hb
  generalize (w.alloc (.cells #[.int .u64 (a0 : Int), .int .u64 (a1 : Int), .int .u64 (a2 : Int), .int .u64 (a3 : Int)] 24)).alloc (.cells #[.bool false, .string ⟨#[]⟩, .slice none 0 0] 30) = W1 at *
  have x0 := hX.cell 0; have x1 := hX.cell 1; have x2 := hX.cell 2; have x3 := hX.cell 3
  simp only [List.getElem?_toArray, List.getElem?_cons_zero, List.getElem?_cons_succ] at x0 x1 x2 x3
  go_wp2_with fail
  refine (HBe.out _).mono ?_
  rintro e w3 ⟨rfl, hg3⟩
  have hB := hB.grown hg3 (by simp)
  have HG3 := Lib.hid (grown_self HG.out hg3 (by simp))
  clear hg3 x0 x1 x2 x3 hX
  go_wp2_with fail
  refine (text_any t _).mono ?_
  rintro e w4 ⟨rfl, hg4⟩
  have hB := hB.grown hg4 (by simp)
  have hG4 := grown_self HG3.out hg4 (by simp)
  have hle : w.heap.size ≤ b + 1 := by have := HW.out; omega
  have HG5 := Lib.hid (only_set (only_set (only_set hG4 (p := ⟨b + 1, 0, none⟩) hle (.bool false)) (p := ⟨b + 1, 1, none⟩) hle (.string t)) (p := ⟨b + 1, 2, none⟩) hle (.slice none 0 0))
  have HB5 := Lib.hid (((hB.set_ 0 (.bool false)).set_ 1 (.string t)).set_ 2 (.slice none 0 0))
  have c0 := hB.cell 0; have c1 := hB.cell 1; have c2 := hB.cell 2
  have d0 := hB.frozen 0; have d1 := hB.frozen 1; have d2 := hB.frozen 2
  simp only [List.getElem?_toArray, List.getElem?_cons_zero, List.getElem?_cons_succ] at c0 c1 c2
  clear hg4 hG4 hB hle
  go_wp2_with fail
  refine bodyPost_ret (results_cell1 (fn := Tryd.f10) rfl _ _ _ _ rfl (load_itemF HB5.out)) rfl ?_
  exact ⟨rfl, HG5.out⟩
end Go.Proofs.YtmlkjackopiekaaDoor
