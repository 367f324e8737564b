/- The fixed facts of fields (works). -/
import Derived.Test.YtmlkjackopiekaaDoorFldE
import Derived.Test.YtmlkjackopiekaaDoorFldL
import Derived.Test.YtmlkjackopiekaaDoorFldT
import Derived.Test.YtmlkjackopiekaaDoorFldV
import Derived.Test.YtmlkjackopiekaaDoorTxtR
namespace Go.Proofs.YtmlkjackopiekaaDoor
open Go.RowKit Go.Shelf
set_option linter.unusedVariables false
set_option linter.unusedSimpArgs false

theorem fx1 : beN 258 = [1, 2] := by decide +kernel
theorem fx2 : numE false ⟨#[1, 2]⟩ = 0 ∧ numV false ⟨#[1, 2]⟩ = 258 := by decide +kernel
theorem fx3 : numE false ⟨#[]⟩ = 0 ∧ numV false ⟨#[]⟩ = 0 := by decide +kernel
theorem fx4 : numE false ⟨#[0]⟩ = 8 ∧ numV false ⟨#[0]⟩ = 0 := by decide +kernel
theorem fx5 : yesE ⟨#[1]⟩ = 0 ∧ yesV ⟨#[1]⟩ = true := by decide +kernel
theorem fx6 : beN 1 = [1] := by decide +kernel
theorem fx7 : gtE true 2 2 1 2 [txt ⟨#[97]⟩, txt ⟨#[98, 99]⟩] = 0 := by decide +kernel
theorem fx8 : gtE true 2 2 2 2 [txt ⟨#[97]⟩, txt ⟨#[98, 99]⟩] = 3 := by decide +kernel
theorem fx9 : addrE ⟨#[]⟩ = 0 ∧ addrV ⟨#[]⟩ = ⟨#[]⟩ := by decide +kernel
theorem fx10 : addrE ⟨#[120]⟩ = 2 := by decide +kernel
theorem fx11 : beN (wordN 0 1 0 0) = [1, 0, 0, 0, 0, 0, 0, 0, 0] := by decide +kernel
theorem fx12 : wordE false ⟨#[1, 0, 0, 0, 0, 0, 0, 0, 0]⟩ = 0 ∧ wordP false ⟨#[1, 0, 0, 0, 0, 0, 0, 0, 0]⟩ 0 = 0 ∧ wordP false ⟨#[1, 0, 0, 0, 0, 0, 0, 0, 0]⟩ 1 = 1 ∧ wordP false ⟨#[1, 0, 0, 0, 0, 0, 0, 0, 0]⟩ 2 = 0 ∧ wordP false ⟨#[1, 0, 0, 0, 0, 0, 0, 0, 0]⟩ 3 = 0 := by decide +kernel
theorem fc1 (V : World) : Calls Tryd.prog 8 #[.int .u64 258] V fun e w' => e = .returned (.agg #[.bool false, .string ⟨#[1, 2]⟩, (.slice none 0 0)]) ∧ V.grownBy w' none := by
  have := number_any 258 (by omega) V
  rw [fx1] at this
  exact this
theorem fc2 (V : World) : Calls Tryd.prog 20 #[.agg #[.bool false, .string ⟨#[1, 2]⟩, (.slice none 0 0)]] V fun e w' => e = .returned (.tuple #[.int .u64 258, .int .i64 0]) ∧ V.grownBy w' none := by
  have := getNumber_any false ⟨#[1, 2]⟩ (.slice none 0 0) (by decide) V
  rw [fx2.1, fx2.2] at this
  exact this
theorem fc3 (V : World) : Calls Tryd.prog 20 #[.agg #[.bool false, .string ⟨#[]⟩, (.slice none 0 0)]] V fun e w' => e = .returned (.tuple #[.int .u64 0, .int .i64 0]) ∧ V.grownBy w' none := by
  have := getNumber_any false ⟨#[]⟩ (.slice none 0 0) (by decide) V
  rw [fx3.1, fx3.2] at this
  exact this
theorem fc4 (V : World) : Calls Tryd.prog 20 #[.agg #[.bool false, .string ⟨#[0]⟩, (.slice none 0 0)]] V fun e w' => e = .returned (.tuple #[.int .u64 0, .int .i64 8]) ∧ V.grownBy w' none := by
  have := getNumber_any false ⟨#[0]⟩ (.slice none 0 0) (by decide) V
  rw [fx4.1, fx4.2] at this
  exact this
theorem fc5 (V : World) : Calls Tryd.prog 23 #[.agg #[.bool false, .string ⟨#[1]⟩, (.slice none 0 0)]] V fun e w' => e = .returned (.tuple #[.bool true, .int .i64 0]) ∧ V.grownBy w' none := by
  have := getBool_any false ⟨#[1]⟩ (.slice none 0 0) V
  rw [fx5.1, fx5.2] at this
  exact this
theorem fc6 (V : World) : Calls Tryd.prog 8 #[.int .u64 1] V fun e w' => e = .returned (.agg #[.bool false, .string ⟨#[1]⟩, (.slice none 0 0)]) ∧ V.grownBy w' none := by
  have := number_any 1 (by omega) V
  rw [fx6] at this
  exact this
theorem fc9 (V : World) : Calls Tryd.prog 29 #[.agg #[.bool false, .string ⟨#[]⟩, (.slice none 0 0)]] V fun e w' => e = .returned (.tuple #[.string ⟨#[]⟩, .int .i64 0]) ∧ V.grownBy w' none := by
  have := getAddr_any false ⟨#[]⟩ (.slice none 0 0) V
  rw [fx9.1, fx9.2] at this
  exact this
theorem fc10 (V : World) : Calls Tryd.prog 29 #[.agg #[.bool false, .string ⟨#[120]⟩, (.slice none 0 0)]] V fun e w' => e = .returned (.tuple #[.string ⟨#[]⟩, .int .i64 2]) ∧ V.grownBy w' none := by
  have := getAddr_any false ⟨#[120]⟩ (.slice none 0 0) V
  rw [fx10] at this
  exact this
theorem fc11 (V : World) : Calls Tryd.prog 10 #[.agg #[.int .u64 0, .int .u64 1, .int .u64 0, .int .u64 0]] V fun e w' => e = .returned (.agg #[.bool false, .string ⟨#[1, 0, 0, 0, 0, 0, 0, 0, 0]⟩, (.slice none 0 0)]) ∧ V.grownBy w' none := by
  have := word_any 0 1 0 0 (by omega) (by omega) (by omega) (by omega) V
  rw [fx11] at this
  exact this
theorem fc12 (V : World) : Calls Tryd.prog 21 #[.agg #[.bool false, .string ⟨#[1, 0, 0, 0, 0, 0, 0, 0, 0]⟩, (.slice none 0 0)]] V fun e w' => e = .returned (.tuple #[.agg #[.int .u64 0, .int .u64 1, .int .u64 0, .int .u64 0], .int .i64 0]) ∧ V.grownBy w' none := by
  have := getWord_any false ⟨#[1, 0, 0, 0, 0, 0, 0, 0, 0]⟩ (.slice none 0 0) (by decide) V
  rw [fx12.1, fx12.2.1, fx12.2.2.1, fx12.2.2.2.1, fx12.2.2.2.2] at this
  exact this
/-- two texts, made -/
theorem fc7 (V : World) (A : Option Addr) (c B : Nat) (h : Reads V B 1 A 2 [.string ⟨#[97]⟩, .string ⟨#[98, 99]⟩]) (hB : B ≤ V.heap.size) :
    Calls Tryd.prog 16 #[.slice A 2 c] V fun e w' => ∃ A' c', e = .returned (.agg #[.bool true, .string ⟨#[]⟩, .slice A' 2 c']) ∧ SubV (fun g => g < w'.heap.size) w' [txt ⟨#[97]⟩, txt ⟨#[98, 99]⟩] (.slice A' 2 c') ∧ V.grownBy w' none := by
  refine (texts_any B A 2 c [⟨#[97]⟩, ⟨#[98, 99]⟩] V h hB (by omega)).mono ?_
  rintro e w' ⟨A', c', rfl, hs, hg⟩
  exact ⟨A', c', rfl, hs.here, hg⟩
theorem fc7' (V : World) (A : Option Addr) (c : Nat) (h : SubV (fun g => g < V.heap.size) V [txt ⟨#[97]⟩, txt ⟨#[98, 99]⟩] (.slice A 2 c)) :
    Calls Tryd.prog 24 #[.agg #[.bool true, .string ⟨#[]⟩, .slice A 2 c], .int .i64 2, .int .i64 1, .int .i64 2] V fun e w' => ∃ A' c', e = .returned (.tuple #[.slice A' 2 c', .int .i64 0]) ∧ Reads w' w'.heap.size 1 A' 2 [.string ⟨#[97]⟩, .string ⟨#[98, 99]⟩] ∧ V.grownBy w' none := by
  refine (getTexts_any true ⟨#[]⟩ A 2 c _ 2 1 2 V h (by omega)).mono ?_
  rintro e w' ⟨v, xs, he, ho, hx, hg⟩
  rw [fx7] at he hx
  rw [show xs = [txt ⟨#[97]⟩, txt ⟨#[98, 99]⟩] from hx] at ho
  obtain ⟨A', c', rfl⟩ := own_slice3 ho
  exact ⟨A', c', he, Reads.of_own ho, hg⟩
theorem fc8' (V : World) (A : Option Addr) (c : Nat) (h : SubV (fun g => g < V.heap.size) V [txt ⟨#[97]⟩, txt ⟨#[98, 99]⟩] (.slice A 2 c)) :
    Calls Tryd.prog 24 #[.agg #[.bool true, .string ⟨#[]⟩, .slice A 2 c], .int .i64 2, .int .i64 2, .int .i64 2] V fun e w' => ∃ v, e = .returned (.tuple #[v, .int .i64 3]) ∧ V.grownBy w' none := by
  refine (getTexts_any true ⟨#[]⟩ A 2 c _ 2 2 2 V h (by omega)).mono ?_
  rintro e w' ⟨v, xs, he, ho, hx, hg⟩
  rw [fx8] at he
  exact ⟨v, he, hg⟩
theorem fc13 (V : World) (A A' : Option Addr) (c c' B B' : Nat) (h : Reads V B 1 A 2 [.string ⟨#[97]⟩, .string ⟨#[98, 99]⟩]) (h' : Reads V B' 1 A' 2 [.string ⟨#[97]⟩, .string ⟨#[98, 99]⟩]) :
    Calls Tryd.prog 25 #[.slice A 2 c, .slice A' 2 c'] V fun e w' => e = .returned (.bool true) ∧ V.grownBy w' none := by
  refine (textsR_any B B' A A' 2 2 c c' [⟨#[97]⟩, ⟨#[98, 99]⟩] [⟨#[97]⟩, ⟨#[98, 99]⟩] V h h' (by omega) (by omega)).mono ?_
  rintro e w' ⟨rfl, hb⟩
  exact ⟨by simp, only_of_below hb none⟩
theorem lit_texts (V : World) : Reads (V.alloc (.cells #[.string ⟨#[97]⟩, .string ⟨#[98, 99]⟩] 9)) (V.heap.size + 1) 1 (some ⟨V.heap.size, 0, none⟩) 2 [.string ⟨#[97]⟩, .string ⟨#[98, 99]⟩] := by
  refine ⟨rfl, fun _ => ⟨_, rfl, by show V.heap.size < V.heap.size + 1; omega, fun j u hj => ?_⟩⟩
  have hb := Blk.new V 9 #[.string ⟨#[97]⟩, .string ⟨#[98, 99]⟩]
  have := hb.cell j
  rw [Addr.add_mid, Nat.zero_add, this]
  simpa using hj

theorem fc14 (V : World) (A : Option Addr) (c : Nat) : Calls Tryd.prog 30 #[.agg #[.bool true, .string ⟨#[]⟩, .slice A 2 c], .int .i64 2, .int .i64 2] V fun e w' => e = .returned (.tuple #[.slice A 2 c, .int .i64 0]) ∧ V.grownBy w' none := by
  have := getList_any true ⟨#[]⟩ A 2 c 2 2 V
  exact this

set_option maxRecDepth 100000 in
set_option maxHeartbeats 1000000 in
theorem works6_any (w : World) : Calls Tryd.prog 6 #[] w fun e w' => e = .returned (.bool true) ∧ w.grownBy w' none := by
  go_enter Tryd.func6, Tryd.ntmps6
  go_wp2_with fail
  refine (fc1 _).mono ?_
  rintro e w1 ⟨rfl, hg⟩
  go_wp2_with fail
  refine (fc2 _).mono ?_
  rintro e w2 ⟨rfl, hg2⟩
  have HG := Lib.hid (grown_self hg hg2 (by simp)); clear hg hg2
  go_wp2_with fail
  refine (fc3 _).mono ?_
  rintro e w3 ⟨rfl, hg⟩
  replace HG := Lib.hid (grown_self HG.out hg (by simp)); clear hg
  go_wp2_with fail
  refine (text_any _ _).mono ?_
  rintro e w4 ⟨rfl, hg⟩
  replace HG := Lib.hid (grown_self HG.out hg (by simp)); clear hg
  go_wp2_with fail
  refine (fc4 _).mono ?_
  rintro e w5 ⟨rfl, hg⟩
  replace HG := Lib.hid (grown_self HG.out hg (by simp)); clear hg
  go_wp2_with fail
  refine (boolF_any true _).mono ?_
  rintro e w6 ⟨rfl, hg⟩
  replace HG := Lib.hid (grown_self HG.out hg (by simp)); clear hg
  go_wp2_with fail
  refine (fc5 _).mono ?_
  rintro e w7 ⟨rfl, hg⟩
  replace HG := Lib.hid (grown_self HG.out hg (by simp)); clear hg
  go_wp2_with fail
  refine (fc6 _).mono ?_
  rintro e w8 ⟨rfl, hg⟩
  replace HG := Lib.hid (grown_self HG.out hg (by simp)); clear hg
  go_wp2_with fail
  refine (boolF_any false _).mono ?_
  rintro e w9 ⟨rfl, hg⟩
  replace HG := Lib.hid (grown_self HG.out hg (by simp)); clear hg
  go_wp2_with fail
  refine (list_any _ ⟨_, _, _, rfl⟩ _).mono ?_
  rintro e w10 ⟨rfl, hg⟩
  replace HG := Lib.hid (grown_self (only_alloc HG.out _) hg (by simp)); clear hg
  go_wp2_with fail
  refine (fc14 _ _ _).mono ?_
  rintro e w11 ⟨rfl, hg⟩
  replace HG := Lib.hid (grown_self HG.out hg (by simp)); clear hg
  have hl := lit_texts w11
  have hl0 : w11.heap.size + 1 ≤ (w11.alloc (.cells #[.string ⟨#[97]⟩, .string ⟨#[98, 99]⟩] 9)).heap.size := by simp
  go_wp2_with fail
  refine (fc7 _ _ _ _ hl hl0).mono ?_
  rintro e w12 ⟨A1, c1, rfl, hs, hg⟩
  replace HG := Lib.hid (grown_self (only_alloc HG.out _) hg (by simp)); clear hg hl hl0
  go_wp2_with fail
  refine (fc7' _ _ _ hs).mono ?_
  rintro e w13 ⟨A2, c2, rfl, HR, hg⟩
  replace HR := Lib.hid (Reads.more HR (Nat.le_refl _))
  obtain ⟨B, hB⟩ : ∃ B, B = w13.heap.size := ⟨_, rfl⟩
  rw [← hB] at HR
  replace hB := Lib.hid (Nat.le_of_eq hB)
  replace HG := Lib.hid (grown_self HG.out hg (by simp)); clear hg hs
  have hl := lit_texts w13
  have hl0 : w13.heap.size + 1 ≤ (w13.alloc (.cells #[.string ⟨#[97]⟩, .string ⟨#[98, 99]⟩] 9)).heap.size := by simp
  go_wp2_with fail
  refine (fc7 _ _ _ _ hl hl0).mono ?_
  rintro e w14 ⟨A1', c1', rfl, hs, hg⟩
  have hg' := grown_self (only_alloc (World.grownBy.refl w13 none) _) hg (by simp)
  replace HR := Lib.hid (HR.out.grown hg' hB.out (by simp))
  replace hB := Lib.hid (Nat.le_trans hB.out hg'.size)
  replace HG := Lib.hid (grown_self HG.out hg' (by simp)); clear hg hl hl0 hg'
  go_wp2_with fail
  refine (fc8' _ _ _ hs).mono ?_
  rintro e w15 ⟨vE, rfl, hg⟩
  replace HR := Lib.hid (HR.out.grown hg hB.out (by simp))
  replace hB := Lib.hid (Nat.le_trans hB.out hg.size)
  replace HG := Lib.hid (grown_self HG.out hg (by simp)); clear hg hs
  go_wp2_with fail
  refine (fc9 _).mono ?_
  rintro e w16 ⟨rfl, hg⟩
  replace HR := Lib.hid (HR.out.grown hg hB.out (by simp))
  replace hB := Lib.hid (Nat.le_trans hB.out hg.size)
  replace HG := Lib.hid (grown_self HG.out hg (by simp)); clear hg
  go_wp2_with fail
  refine (text_any _ _).mono ?_
  rintro e w17 ⟨rfl, hg⟩
  replace HR := Lib.hid (HR.out.grown hg hB.out (by simp))
  replace hB := Lib.hid (Nat.le_trans hB.out hg.size)
  replace HG := Lib.hid (grown_self HG.out hg (by simp)); clear hg
  go_wp2_with fail
  refine (fc10 _).mono ?_
  rintro e w18 ⟨rfl, hg⟩
  replace HR := Lib.hid (HR.out.grown hg hB.out (by simp))
  replace hB := Lib.hid (Nat.le_trans hB.out hg.size)
  replace HG := Lib.hid (grown_self HG.out hg (by simp)); clear hg
  go_wp2_with fail
  refine (fc11 _).mono ?_
  rintro e w19 ⟨rfl, hg⟩
  replace HR := Lib.hid (HR.out.grown hg hB.out (by simp))
  replace hB := Lib.hid (Nat.le_trans hB.out hg.size)
  replace HG := Lib.hid (grown_self HG.out hg (by simp)); clear hg
  go_wp2_with fail
  refine (fc12 _).mono ?_
  rintro e w20 ⟨rfl, hg⟩
  replace HR := Lib.hid (HR.out.grown hg hB.out (by simp))
  replace hB := Lib.hid (Nat.le_trans hB.out hg.size)
  replace HG := Lib.hid (grown_self HG.out hg (by simp)); clear hg
  have e0 := eq_word 0 1 0 0
  simp only [Int.natCast_zero, Int.natCast_one] at e0
  go_wp2_with fail
  have hl := lit_texts (w20.alloc (.cells #[.int .u64 0, .int .u64 1, .int .u64 0, .int .u64 0] 24))
  rw [World.size_alloc] at hl
  have hb4 := (Blk.new w20 24 #[.int .u64 0, .int .u64 1, .int .u64 0, .int .u64 0]).grown (only_alloc (World.grownBy.refl _ none) (.cells #[.string ⟨#[97]⟩, .string ⟨#[98, 99]⟩] 9)) (by simp) 
  refine (fc13 _ _ _ _ _ _ _ ((HR.out.alloc hB.out _).alloc (Nat.le_trans hB.out (by simp)) _) hl).mono ?_
  rintro e w21 ⟨rfl, hg⟩
  replace hb4 := hb4.grown hg (by simp)
  replace HG := Lib.hid (grown_self (only_alloc (only_alloc HG.out _) _) hg (by simp)); clear hg hl
  have k0 := hb4.cell 0
  have k1 := hb4.cell 1
  have k2 := hb4.cell 2
  have k3 := hb4.cell 3
  simp only [List.getElem?_toArray, List.getElem?_cons_zero, List.getElem?_cons_succ] at k0 k1 k2 k3
  go_wp2_with fail
  go_ret
  exact ⟨rfl, HG.out⟩
end Go.Proofs.YtmlkjackopiekaaDoor
