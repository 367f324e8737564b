/- RlpEncodes: the walk. -/
import Derived.Test.YtacfpjleejfdgaaDoorRlpJ
namespace Go.Proofs.YtacfpjleejfdgaaDoor
open Go.RowKit Go.Shelf
set_option linter.unusedVariables false
set_option linter.unusedSimpArgs false

/-- one item that a law has laid in a box -/
structure One (W0 W : World) (b : Nat) (x : Itm) (sx : Value) : Prop where
  hg : W0.grownBy W none
  bx : Blk W b 24 #[.bool x.list, .string x.bytes, sx]
  sx : SubW W x.items sx
theorem One.grown {W0 W W' : World} {b : Nat} {x : Itm} {sx : Value} (h : One W0 W b x sx) (hg : W.grownBy W' none) : One W0 W' b x sx :=
  ⟨grown_self h.hg hg (by simp), h.bx.grown hg (by simp), h.sx.grown hg⟩
theorem One.cells {W0 W : World} {b : Nat} {x : Itm} {sx : Value} (h : One W0 W b x sx) : W.cell? ⟨b, 0, none⟩ = some (.bool x.list) ∧ W.cell? ⟨b, 1, none⟩ = some (.string x.bytes) ∧ W.cell? ⟨b, 2, none⟩ = some sx :=
  ⟨h.bx.cell 0, h.bx.cell 1, h.bx.cell 2⟩
theorem One.below {W0 W : World} {b : Nat} {x : Itm} {sx : Value} (h : One W0 W b x sx) : Below W0.heap.size W0 W := below_of_grown h.hg
theorem two_boxes (W : World) (x y : Itm) (sx sy : Value) (hx : SubW W x.items sx) (hy : SubW W y.items sy) :
    One W ((W.alloc (.cells #[.bool x.list, .string x.bytes, sx] 24)).alloc (.cells #[.bool y.list, .string y.bytes, sy] 24)) W.heap.size x sx ∧
    One W ((W.alloc (.cells #[.bool x.list, .string x.bytes, sx] 24)).alloc (.cells #[.bool y.list, .string y.bytes, sy] 24)) (W.heap.size + 1) y sy := by
  have hG := only_alloc (only_alloc (World.grownBy.refl W none) (.cells #[.bool x.list, .string x.bytes, sx] 24)) (.cells #[.bool y.list, .string y.bytes, sy] 24)
  have hb := Blk.new (W.alloc (.cells #[.bool x.list, .string x.bytes, sx] 24)) 24 #[.bool y.list, .string y.bytes, sy]
  rw [World.size_alloc] at hb
  exact ⟨⟨hG, (Blk.new W _ _).alloc _, hx.grown hG⟩, ⟨hG, hb, hy.grown hG⟩⟩
theorem one_box (W : World) (x : Itm) (sx : Value) (hx : SubW W x.items sx) : One W (W.alloc (.cells #[.bool x.list, .string x.bytes, sx] 24)) W.heap.size x sx := by
  have hG := only_alloc (World.grownBy.refl W none) (.cells #[.bool x.list, .string x.bytes, sx] 24)
  exact ⟨hG, Blk.new W _ _, hx.grown hG⟩

open Classical in
set_option maxRecDepth 100000 in
set_option maxHeartbeats 4000000 in
theorem encodes_law (x y : Itm) (W : World) (sx sy : Value) (hx : SubW W x.items sx) (hy : SubW W y.items sy) (hwx : wtF x ≤ 1000000000) (hwy : wtF y ≤ 1000000000) :
    Calls Tryd.prog 3 #[.agg #[.bool x.list, .string x.bytes, sx], .agg #[.bool y.list, .string y.bytes, sy]] W fun e W' => e = .returned (.bool true) ∧ Below W.heap.size W W' := by
  have hox := ok_of_wt x hwx
  have hoy := ok_of_wt y hwy
  have HX := Lib.hid hwx; have HY := Lib.hid hwy
  obtain ⟨A, c, rfl⟩ := hx.slice
  obtain ⟨A', c', rfl⟩ := hy.slice
  obtain ⟨T, U⟩ := two_boxes W x y _ _ hx hy
  clear hx hy hwx hwy
  go_enter Tryd.func3, Tryd.ntmps3
  go_upto_region 1 with (fail)
  obtain ⟨b, hb⟩ : ∃ b, W.heap.size = b := ⟨_, rfl⟩
  have hb2 := hb
  rw [hb] at T U ⊢
  have HB := Lib.hid hb
  clear hb hb2
  generalize (W.alloc (.cells #[.bool x.list, .string x.bytes, .slice A x.items.length c] 24)).alloc (.cells #[.bool y.list, .string y.bytes, .slice A' y.items.length c'] 24) = W1 at *
  obtain ⟨c0, c1, c2⟩ := T.cells
  obtain ⟨d0, d1, d2⟩ := U.cells
  go_wp2_with fail
  refine (worksP_any _).mono ?_
  rintro e w2 ⟨rfl, hg⟩
  replace T := T.grown hg
  replace U := U.grown hg
  clear hg c0 c1 c2 d0 d1 d2
  obtain ⟨c0, c1, c2⟩ := T.cells
  obtain ⟨d0, d1, d2⟩ := U.cells
  go_wp2_with fail
  refine (few_any x _ _ T.sx hox).mono ?_
  rintro e w3 ⟨r1, rfl, hg⟩
  replace T := T.grown hg
  replace U := U.grown hg
  clear hg c0 c1 c2 d0 d1 d2
  obtain ⟨c0, c1, c2⟩ := T.cells
  obtain ⟨d0, d1, d2⟩ := U.cells
  cases r1 with
  | false =>
    go_wp2_with fail
    go_ret
    exact ⟨rfl, T.below⟩
  | true =>
  go_wp2_with fail
  refine (few_any y _ _ U.sx hoy).mono ?_
  rintro e w4 ⟨r2, rfl, hg⟩
  replace T := T.grown hg
  replace U := U.grown hg
  clear hg c0 c1 c2 d0 d1 d2
  obtain ⟨c0, c1, c2⟩ := T.cells
  obtain ⟨d0, d1, d2⟩ := U.cells
  cases r2 with
  | false =>
    go_wp2_with fail
    go_ret
    exact ⟨rfl, T.below⟩
  | true =>
  go_wp2_with fail
  refine (checkR_item x _ _ T.sx HX.out).mono ?_
  rintro e w5 ⟨rfl, hg⟩
  replace T := T.grown hg
  replace U := U.grown hg
  clear hg c0 c1 c2 d0 d1 d2
  obtain ⟨c0, c1, c2⟩ := T.cells
  obtain ⟨d0, d1, d2⟩ := U.cells
  go_wp2_with fail
  refine (deepR_any x _ _ T.sx HX.out).mono ?_
  rintro e w6 ⟨rfl, hg⟩
  replace T := T.grown hg
  replace U := U.grown hg
  clear hg c0 c1 c2 d0 d1 d2
  obtain ⟨c0, c1, c2⟩ := T.cells
  obtain ⟨d0, d1, d2⟩ := U.cells
  go_wp2_with fail
  refine (bytesR_item x _ _ T.sx HX.out).mono ?_
  rintro e w7 ⟨rfl, hg⟩
  replace T := T.grown hg
  replace U := U.grown hg
  clear hg c0 c1 c2 d0 d1 d2
  obtain ⟨c0, c1, c2⟩ := T.cells
  obtain ⟨d0, d1, d2⟩ := U.cells
  go_wp2_with fail
  refine (encodeP_any x _ _ T.sx HX.out).mono ?_
  rintro e w8 ⟨rfl, hg⟩
  replace T := T.grown hg
  replace U := U.grown hg
  clear hg c0 c1 c2 d0 d1 d2
  obtain ⟨c0, c1, c2⟩ := T.cells
  obtain ⟨d0, d1, d2⟩ := U.cells
  go_wp2_with fail
  refine (encodeR_any x _ _ T.sx HX.out).mono ?_
  rintro e w9 ⟨rfl, hg⟩
  replace T := T.grown hg
  replace U := U.grown hg
  clear hg c0 c1 c2 d0 d1 d2
  obtain ⟨c0, c1, c2⟩ := T.cells
  obtain ⟨d0, d1, d2⟩ := U.cells
  go_wp2_with fail
  refine (sameR_any x hox _ y _ _ hoy T.sx U.sx).mono ?_
  rintro e w10 ⟨rfl, hg⟩
  replace T := T.grown hg
  replace U := U.grown hg
  clear hg c0 c1 c2 d0 d1 d2
  obtain ⟨c0, c1, c2⟩ := T.cells
  obtain ⟨d0, d1, d2⟩ := U.cells
  go_wp2_with fail
  refine (checkP_any x _ _ T.sx HX.out).mono ?_
  rintro e w11 ⟨rfl, hg⟩
  replace T := T.grown hg
  replace U := U.grown hg
  clear hg c0 c1 c2 d0 d1 d2
  obtain ⟨c0, c1, c2⟩ := T.cells
  obtain ⟨d0, d1, d2⟩ := U.cells
  go_wp2_with fail
  refine (deep_any x _ _ T.sx HX.out).mono ?_
  rintro e w12 ⟨rfl, hg⟩
  replace T := T.grown hg
  replace U := U.grown hg
  clear hg c0 c1 c2 d0 d1 d2
  obtain ⟨c0, c1, c2⟩ := T.cells
  obtain ⟨d0, d1, d2⟩ := U.cells
  go_wp2_with fail
  refine (size_any x _ _ T.sx HX.out).mono ?_
  rintro e w13 ⟨rfl, hg⟩
  replace T := T.grown hg
  replace U := U.grown hg
  clear hg c0 c1 c2 d0 d1 d2
  obtain ⟨c0, c1, c2⟩ := T.cells
  obtain ⟨d0, d1, d2⟩ := U.cells
  go_wp2_with fail
  refine (same_any x hox _ y _ _ hoy T.sx U.sx).mono ?_
  rintro e w14 ⟨rfl, hg⟩
  replace T := T.grown hg
  replace U := U.grown hg
  clear hg c0 c1 c2 d0 d1 d2
  obtain ⟨c0, c1, c2⟩ := T.cells
  obtain ⟨d0, d1, d2⟩ := U.cells
  go_wp2_with fail
  go_ret
  exact ⟨rfl, T.below⟩
end Go.Proofs.YtacfpjleejfdgaaDoor
