/- Yes or no, an address, bytes of an item; a list. -/
import Derived.Test.YtmlkjackopiekaaDoorFldA
namespace Go.Proofs.YtmlkjackopiekaaDoor
open Go.RowKit Go.Shelf
set_option linter.unusedVariables false
set_option linter.unusedSimpArgs false

def yesS (v : Bool) : ByteArray := if v then ⟨#[1]⟩ else ⟨#[]⟩
set_option maxRecDepth 100000 in
set_option maxHeartbeats 1000000 in
theorem bool_yes (w : World) :
    Calls Tryd.prog 14 #[.bool true] w fun e w' => e = .returned (.agg #[.bool false, .string ⟨#[1]⟩, .slice none 0 0]) ∧ w.grownBy w' none := by
  have hB := Blk.new w 30 #[.bool false, .string ⟨#[]⟩, .slice none 0 0]
  have HG := Lib.hid (only_alloc (World.grownBy.refl w none) (.cells #[.bool false, .string ⟨#[]⟩, .slice none 0 0] 30))
  go_enter Tryd.func14, Tryd.ntmps14
  go_upto_region 1 with (fail)
  obtain ⟨b, hb⟩ : ∃ b, w.heap.size = b := ⟨_, rfl⟩
  have HW := Lib.hid hb
  rw [hb] at hB ⊢
  clear hb
  generalize w.alloc (.cells #[.bool false, .string ⟨#[]⟩, .slice none 0 0] 30) = W1 at *
  go_wp2_with fail
  refine (text_any _ _).mono ?_
  rintro e w4 ⟨rfl, hg4⟩
  have hB := hB.grown hg4 (by simp)
  have hG4 := grown_self HG.out hg4 (by simp)
  have hle : w.heap.size ≤ b := by have := HW.out; omega
  have HG5 := Lib.hid (only_set (only_set (only_set hG4 (p := ⟨b, 0, none⟩) hle (.bool false)) (p := ⟨b, 1, none⟩) hle (.string ⟨#[1]⟩)) (p := ⟨b, 2, none⟩) hle (.slice none 0 0))
  have HB5 := Lib.hid (((hB.set_ 0 (.bool false)).set_ 1 (.string ⟨#[1]⟩)).set_ 2 (.slice none 0 0))
  have c0 := hB.cell 0; have c1 := hB.cell 1; have c2 := hB.cell 2
  have d0 := hB.frozen 0; have d1 := hB.frozen 1; have d2 := hB.frozen 2
  simp only [List.getElem?_toArray, List.getElem?_cons_zero, List.getElem?_cons_succ] at c0 c1 c2
  clear hg4 hG4 hB hle
  go_wp2_with fail
  refine bodyPost_ret (results_cell1 (fn := Tryd.f14) rfl _ _ _ _ rfl (load_itemF HB5.out)) rfl ?_
  exact ⟨rfl, HG5.out⟩
set_option maxRecDepth 100000 in
set_option maxHeartbeats 1000000 in
theorem bool_no (w : World) :
    Calls Tryd.prog 14 #[.bool false] w fun e w' => e = .returned (.agg #[.bool false, .string ⟨#[]⟩, .slice none 0 0]) ∧ w.grownBy w' none := by
  have hB := Blk.new w 30 #[.bool false, .string ⟨#[]⟩, .slice none 0 0]
  have HG := Lib.hid (only_alloc (World.grownBy.refl w none) (.cells #[.bool false, .string ⟨#[]⟩, .slice none 0 0] 30))
  go_enter Tryd.func14, Tryd.ntmps14
  go_upto_region 1 with (fail)
  obtain ⟨b, hb⟩ : ∃ b, w.heap.size = b := ⟨_, rfl⟩
  have HW := Lib.hid hb
  rw [hb] at hB ⊢
  clear hb
  generalize w.alloc (.cells #[.bool false, .string ⟨#[]⟩, .slice none 0 0] 30) = W1 at *
  go_wp2_with fail
  refine (text_any _ _).mono ?_
  rintro e w4 ⟨rfl, hg4⟩
  have hB := hB.grown hg4 (by simp)
  have hG4 := grown_self HG.out hg4 (by simp)
  have hle : w.heap.size ≤ b := by have := HW.out; omega
  have HG5 := Lib.hid (only_set (only_set (only_set hG4 (p := ⟨b, 0, none⟩) hle (.bool false)) (p := ⟨b, 1, none⟩) hle (.string ⟨#[]⟩)) (p := ⟨b, 2, none⟩) hle (.slice none 0 0))
  have HB5 := Lib.hid (((hB.set_ 0 (.bool false)).set_ 1 (.string ⟨#[]⟩)).set_ 2 (.slice none 0 0))
  have c0 := hB.cell 0; have c1 := hB.cell 1; have c2 := hB.cell 2
  have d0 := hB.frozen 0; have d1 := hB.frozen 1; have d2 := hB.frozen 2
  simp only [List.getElem?_toArray, List.getElem?_cons_zero, List.getElem?_cons_succ] at c0 c1 c2
  clear hg4 hG4 hB hle
  go_wp2_with fail
  refine bodyPost_ret (results_cell1 (fn := Tryd.f14) rfl _ _ _ _ rfl (load_itemF HB5.out)) rfl ?_
  exact ⟨rfl, HG5.out⟩
theorem boolF_any (v : Bool) (w : World) :
    Calls Tryd.prog 14 #[.bool v] w fun e w' => e = .returned (.agg #[.bool false, .string (yesS v), .slice none 0 0]) ∧ w.grownBy w' none := by
  cases v
  · exact bool_no w
  · exact bool_yes w

def yesE (s : ByteArray) : Int := if s = ⟨#[]⟩ ∨ s = ⟨#[1]⟩ then 0 else 2
def yesV (s : ByteArray) : Bool := s = ⟨#[1]⟩
theorem str_eqT {a b : ByteArray} (h : a = b) : (a.toList == b.toList) = true := by rw [h]; simp
theorem isE_of {a : ByteArray} (h : a ≠ ⟨#[]⟩) : a.toList.isEmpty = false ∧ (a.toList == []) = false ∧ (a.toList != []) = true := by
  have h0 : a.toList ≠ [] := fun e => h (ba_ext (by rw [← Lib.toList_data, e]))
  refine ⟨?_, by simpa using h0, by simpa using h0⟩
  cases hq : a.toList with
  | nil => exact absurd hq h0
  | cons x l => rfl
set_option maxRecDepth 100000 in
set_option maxHeartbeats 1000000 in
theorem getBool1_any (s : ByteArray) (w : World) :
    Calls Tryd.prog 43 #[.string s] w fun e w' => e = .returned (.tuple #[.bool (yesV s), .int .i64 (yesE s)]) ∧ w' = w := by
  by_cases h1 : s = ⟨#[]⟩
  · subst h1
    rw [show yesV ⟨#[]⟩ = false from decide_eq_false (by intro e; injection e with e; cases e), show yesE ⟨#[]⟩ = 0 from if_pos (.inl rfl)]
    go_enter Tryd.func43, Tryd.ntmps43
    go_wp2_with fail
    all_goals
      go_ret2
      exact ⟨rfl, rfl⟩
  obtain ⟨g1, g2, g3⟩ := isE_of h1
  by_cases h2 : s = ⟨#[1]⟩
  · subst h2
    rw [show yesV ⟨#[1]⟩ = true from decide_eq_true rfl, show yesE ⟨#[1]⟩ = 0 from if_pos (.inr rfl)]
    clear h1
    go_enter Tryd.func43, Tryd.ntmps43
    go_wp2_with fail
    all_goals
      go_ret2
      exact ⟨rfl, rfl⟩
  · have g4 := str_ne h2
    have g5 : (s.toList != (⟨#[1]⟩ : ByteArray).toList) = true := by rw [bne, g4]; rfl
    have g6 : (s.toList == [1]) = false := by rw [Lib.toList_data (⟨#[1]⟩ : ByteArray)] at g4; exact g4
    rw [show yesV s = false from decide_eq_false h2, show yesE s = 2 from if_neg (by rintro (e | e); exact h1 e; exact h2 e)]
    clear h1 h2
    go_enter Tryd.func43, Tryd.ntmps43
    go_wp2_with fail
    all_goals
      go_ret2
      exact ⟨rfl, rfl⟩
def addrE (s : ByteArray) : Int := if s = ⟨#[]⟩ ∨ s.size = 20 then 0 else 2
def addrV (s : ByteArray) : ByteArray := if addrE s = 0 then s else ⟨#[]⟩
set_option maxRecDepth 100000 in
set_option maxHeartbeats 1000000 in
theorem getAddr1_any (s : ByteArray) (w : World) :
    Calls Tryd.prog 50 #[.string s] w fun e w' => e = .returned (.tuple #[.string (addrV s), .int .i64 (addrE s)]) ∧ w' = w := by
  by_cases h1 : s = ⟨#[]⟩
  · subst h1
    rw [show addrE ⟨#[]⟩ = 0 from if_pos (.inl rfl), show addrV ⟨#[]⟩ = ⟨#[]⟩ from if_pos (if_pos (.inl rfl))]
    go_enter Tryd.func50, Tryd.ntmps50
    go_wp2_with fail
    all_goals
      go_ret2
      exact ⟨rfl, rfl⟩
  obtain ⟨g1, g2, g3⟩ := isE_of h1
  by_cases h2 : s.size = 20
  · have hE : addrE s = 0 := if_pos (.inr h2)
    rw [show addrV s = s from if_pos hE, hE]
    have g4 : ((s.size : Int) != 20) = false := by simp; omega
    clear h1 hE
    go_enter Tryd.func50, Tryd.ntmps50
    go_wp2_with fail
    all_goals
      go_ret2
      exact ⟨rfl, rfl⟩
  · have hE : addrE s = 2 := if_neg (by rintro (e | e); exact h1 e; exact h2 e)
    rw [show addrV s = ⟨#[]⟩ from if_neg (by rw [hE]; decide), hE]
    have g4 : ((s.size : Int) != 20) = true := by simp; omega
    clear h1 h2 hE
    go_enter Tryd.func50, Tryd.ntmps50
    go_wp2_with fail
    all_goals
      go_ret2
      exact ⟨rfl, rfl⟩
set_option maxRecDepth 100000 in
theorem list_any (sv : Value) (hsv : ∃ A n c, sv = .slice A n c) (w : World) :
    Calls Tryd.prog 18 #[sv] w fun e w' => e = .returned (.agg #[.bool true, .string ⟨#[]⟩, sv]) ∧ w.grownBy w' none := by
  obtain ⟨A, n, c, rfl⟩ := hsv
  have hB := Blk.new w 30 #[.bool true, .string ⟨#[]⟩, .slice A n c]
  have hG := only_alloc (World.grownBy.refl w none) (.cells #[.bool true, .string ⟨#[]⟩, .slice A n c] 30)
  go_enter Tryd.func18, Tryd.ntmps18
  go_wp2_with fail
  refine bodyPost_ret (results_cell1 (fn := Tryd.f18) rfl _ _ _ _ rfl (load_itemF hB)) rfl ?_
  exact ⟨rfl, hG⟩
end Go.Proofs.YtmlkjackopiekaaDoor
