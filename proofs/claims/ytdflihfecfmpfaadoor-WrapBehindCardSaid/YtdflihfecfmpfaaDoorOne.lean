/- One item that a law has laid in a box. -/
import Derived.Test.YtdflihfecfmpfaaDoorRlpB
namespace Go.Proofs.YtdflihfecfmpfaaDoor
open Go.RowKit Go.Shelf
set_option linter.unusedVariables false
set_option linter.unusedSimpArgs false

theorem leafW (W : World) (c : Nat) : SubW W [] (.slice none 0 c) := .mk [] none c [] (fun h => by cases h) (fun i h => by cases h)
/-- one item that a law has laid in a box -/
structure One (W0 W : World) (b : Nat) (x : Itm) (sx : Value) : Prop where
  hg : W0.grownBy W none
  bx : Blk W b 51 #[.bool x.list, .string x.bytes, sx]
  sx : SubW W x.items sx
theorem One.grown {W0 W W' : World} {b : Nat} {x : Itm} {sx : Value} (h : One W0 W b x sx) (hg : W.grownBy W' none) : One W0 W' b x sx :=
  ⟨grown_self h.hg hg (by simp), h.bx.grown hg (by simp), h.sx.grown hg⟩
theorem One.cells {W0 W : World} {b : Nat} {x : Itm} {sx : Value} (h : One W0 W b x sx) : W.cell? ⟨b, 0, none⟩ = some (.bool x.list) ∧ W.cell? ⟨b, 1, none⟩ = some (.string x.bytes) ∧ W.cell? ⟨b, 2, none⟩ = some sx :=
  ⟨h.bx.cell 0, h.bx.cell 1, h.bx.cell 2⟩
theorem One.below {W0 W : World} {b : Nat} {x : Itm} {sx : Value} (h : One W0 W b x sx) : Below W0.heap.size W0 W := below_of_grown h.hg
theorem two_boxes (W : World) (x y : Itm) (sx sy : Value) (hx : SubW W x.items sx) (hy : SubW W y.items sy) :
    One W ((W.alloc (.cells #[.bool x.list, .string x.bytes, sx] 51)).alloc (.cells #[.bool y.list, .string y.bytes, sy] 51)) W.heap.size x sx ∧
    One W ((W.alloc (.cells #[.bool x.list, .string x.bytes, sx] 51)).alloc (.cells #[.bool y.list, .string y.bytes, sy] 51)) (W.heap.size + 1) y sy := by
  have hG := only_alloc (only_alloc (World.grownBy.refl W none) (.cells #[.bool x.list, .string x.bytes, sx] 51)) (.cells #[.bool y.list, .string y.bytes, sy] 51)
  have hb := Blk.new (W.alloc (.cells #[.bool x.list, .string x.bytes, sx] 51)) 51 #[.bool y.list, .string y.bytes, sy]
  rw [World.size_alloc] at hb
  exact ⟨⟨hG, (Blk.new W _ _).alloc _, hx.grown hG⟩, ⟨hG, hb, hy.grown hG⟩⟩
theorem one_box (W : World) (x : Itm) (sx : Value) (hx : SubW W x.items sx) : One W (W.alloc (.cells #[.bool x.list, .string x.bytes, sx] 51)) W.heap.size x sx := by
  have hG := only_alloc (World.grownBy.refl W none) (.cells #[.bool x.list, .string x.bytes, sx] 51)
  exact ⟨hG, Blk.new W _ _, hx.grown hG⟩
end Go.Proofs.YtdflihfecfmpfaaDoor
