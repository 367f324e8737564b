/- Yes or no as an item: the document's. -/
import Derived.Test.YtmlkjackopiekaaDoorFldR
import Derived.Test.YtmlkjackopiekaaDoorRlpA
namespace Go.Proofs.YtmlkjackopiekaaDoor
open Go.RowKit Go.Shelf
set_option linter.unusedVariables false
set_option linter.unusedSimpArgs false

set_option maxRecDepth 100000 in
set_option maxHeartbeats 1000000 in
theorem boolR6_no (w : World) :
    Calls Tryd.prog 15 #[.bool false] w fun e w' => e = .returned (.agg #[.bool false, .string ⟨#[]⟩, .slice none 0 0]) ∧ w.grownBy w' none := by
  have hB := Blk.new w 30 #[.bool false, .string ⟨#[]⟩, .slice none 0 0]
  have hG := only_alloc (World.grownBy.refl w none) (.cells #[.bool false, .string ⟨#[]⟩, .slice none 0 0] 30)
  go_enter Tryd.func15, Tryd.ntmps15
  go_wp2_with fail
  refine bodyPost_ret (results_cell1 (fn := Tryd.f15) rfl _ _ _ _ rfl (load_itemF hB)) rfl ?_
  exact ⟨rfl, hG⟩
set_option maxRecDepth 100000 in
set_option maxHeartbeats 1000000 in
theorem boolR6_yes (w : World) :
    Calls Tryd.prog 15 #[.bool true] w fun e w' => e = .returned (.agg #[.bool false, .string ⟨#[1]⟩, .slice none 0 0]) ∧ w.grownBy w' none := by
  have hB := (Blk.new w 30 #[.bool false, .string ⟨#[]⟩, .slice none 0 0]).alloc (.cells #[.int .u8 1] 5)
  have hG := only_alloc (only_alloc (World.grownBy.refl w none) (.cells #[.bool false, .string ⟨#[]⟩, .slice none 0 0] 30)) (.cells #[.int .u8 1] 5)
  have hcv : (convert 58 9 (.slice (some ⟨(w.alloc (.cells #[.bool false, .string ⟨#[]⟩, .slice none 0 0] 30)).heap.size, 0, none⟩) 1 1)).run Tryd.prog ((w.alloc (.cells #[.bool false, .string ⟨#[]⟩, .slice none 0 0] 30)).alloc (.cells #[.int .u8 1] 5)) = .ok (.string ⟨#[1]⟩) ((w.alloc (.cells #[.bool false, .string ⟨#[]⟩, .slice none 0 0] 30)).alloc (.cells #[.int .u8 1] 5)) := conv_one (w.alloc (.cells #[.bool false, .string ⟨#[]⟩, .slice none 0 0] 30)) 1
  rw [World.size_alloc] at hcv
  have HB5 := Lib.hid ((Blk.new w 30 #[.bool false, .string ⟨#[1]⟩, .slice none 0 0]).alloc (.cells #[.int .u8 1] 5))
  have HG5 := Lib.hid (only_alloc (only_alloc (World.grownBy.refl w none) (.cells #[.bool false, .string ⟨#[1]⟩, .slice none 0 0] 30)) (.cells #[.int .u8 1] 5))
  have c0 := hB.cell 0; have c1 := hB.cell 1; have c2 := hB.cell 2
  have d0 := hB.frozen 0; have d1 := hB.frozen 1; have d2 := hB.frozen 2
  simp only [List.getElem?_toArray, List.getElem?_cons_zero, List.getElem?_cons_succ] at c0 c1 c2
  clear hG hB
  go_enter Tryd.func15, Tryd.ntmps15
  go_wp2_with fail
  refine bodyPost_ret (results_cell1 (fn := Tryd.f15) rfl _ _ _ _ rfl (load_itemF HB5.out)) rfl ?_
  exact ⟨rfl, HG5.out⟩
theorem boolR6_any (v : Bool) (w : World) :
    Calls Tryd.prog 15 #[.bool v] w fun e w' => e = .returned (.agg #[.bool false, .string (yesS v), .slice none 0 0]) ∧ w.grownBy w' none := by
  cases v
  · exact boolR6_no w
  · exact boolR6_yes w
end Go.Proofs.YtmlkjackopiekaaDoor
