/- UnrlpBack: the walk. -/
import Derived.Test.YthbeigcbmalldaaDoorUnlB
namespace Go.Proofs.YthbeigcbmalldaaDoor
open Go.RowKit Go.Shelf
set_option linter.unusedVariables false
set_option linter.unusedSimpArgs false

open Classical in
set_option maxRecDepth 100000 in
set_option maxHeartbeats 4000000 in
theorem back_law (x : Itm) (W : World) (sx : Value) (hx : SubW W x.items sx) (hwx : wtF x ≤ 1000000000) :
    Calls Tryd.prog 4 #[.agg #[.bool x.list, .string x.bytes, sx]] W fun e W' => e = .returned (.bool true) ∧ Below W.heap.size W W' := by
  have hox := ok_of_wt x hwx
  have HX := Lib.hid hwx
  obtain ⟨A, c, rfl⟩ := hx.slice
  have T := one_box W x _ hx
  clear hx
  go_enter Tryd.func4, Tryd.ntmps4
  go_upto_region 1 with (fail)
  obtain ⟨b, hb⟩ : ∃ b, W.heap.size = b := ⟨_, rfl⟩
  rw [hb] at T ⊢
  have HB := Lib.hid hb
  clear hb
  generalize W.alloc (.cells #[.bool x.list, .string x.bytes, .slice A x.items.length c] 24) = W1 at *
  obtain ⟨c0, c1, c2⟩ := T.cells
  go_wp2_with fail
  refine (works_any _).mono ?_
  rintro e w2 ⟨rfl, hg⟩
  replace T := T.grown hg
  clear hg c0 c1 c2
  obtain ⟨c0, c1, c2⟩ := T.cells
  go_wp2_with fail
  refine (few_any x _ _ T.sx hox).mono ?_
  rintro e w3 ⟨r1, rfl, hg⟩
  replace T := T.grown hg
  clear hg c0 c1 c2
  obtain ⟨c0, c1, c2⟩ := T.cells
  cases r1 with
  | false =>
    go_wp2_with fail
    go_ret
    exact ⟨rfl, T.below⟩
  | true =>
  go_wp2_with fail
  refine (encodeP_any x _ _ T.sx HX.out).mono ?_
  rintro e w4 ⟨rfl, hg⟩
  replace T := T.grown hg
  clear hg c0 c1 c2
  obtain ⟨c0, c1, c2⟩ := T.cells
  by_cases h1 : checkI x = 0
  · rw [h1, show encB x = bytesF x from if_pos h1]
    obtain ⟨S, hS⟩ : ∃ S : ByteArray, S = ⟨(bytesF x).toArray⟩ := ⟨_, rfl⟩
    have hSl : S.data.toList = bytesF x := by rw [hS]
    have hdb := decode_back h1
    rw [← hSl] at hdb
    have hSz : S.data.toList.length = S.size := ba_len S
    have hS6 : S.size ≤ 65536 := by have := (check_form h1).2.1; rw [← hSl] at this; omega
    obtain ⟨d1, -, d3⟩ := decode_head hdb
    have hnext := fun V => next_any S 0 (by omega) V (by omega)
    rw [d3, d1, hSz] at hnext
    have HN := Lib.hid hnext
    have HD := Lib.hid (fun V => decode_any S V (by omega))
    have HDB := Lib.hid hdb
    rw [← hS]
    clear hS hSl hdb hSz hS6 d1 d3 hnext h1
    go_wp2_with fail
    refine (HD.out _).mono ?_
    rintro e w5 ⟨l, bb, sA, sn, sc, E, rfl, hg, htail⟩
    replace T := T.grown hg
    obtain ⟨rfl, rfl, rfl, hsub⟩ := dec_ok htail HDB.out
    have hsub := hsub.here
    clear hg htail HD HDB c0 c1 c2
    have hal := only_alloc (World.grownBy.refl w5 none) (.cells #[.bool x.list, .string x.bytes, .slice sA sn sc] 24)
    have U := one_box w5 x _ hsub
    replace T := T.grown hal
    go_upto_region 11 with (fail)
    obtain ⟨b5, hb5⟩ : ∃ b5, w5.heap.size = b5 := ⟨_, rfl⟩
    rw [hb5] at U ⊢
    have U : One w5 _ b5 x (.slice sA sn sc) := U
    clear hb5 hal hsub
    generalize w5.alloc (.cells #[.bool x.list, .string x.bytes, .slice sA sn sc] 24) = w6 at *
    go_wp2_with fail
    refine (HN.out _).mono ?_
    rintro e w7 ⟨rfl, hg⟩
    replace T := T.grown hg
    replace U := U.grown hg
    clear hg HN
    obtain ⟨c0, c1, c2⟩ := T.cells
    obtain ⟨d0, d1, d2⟩ := U.cells
    go_wp2_with fail
    refine (same_any x hox _ x _ _ hox U.sx T.sx).mono ?_
    rintro e w8 ⟨rfl, hg⟩
    replace T := T.grown hg
    rw [decide_eq_true (rfl : x = x)]
    clear hg c0 c1 c2 d0 d1 d2
    go_wp2_with fail
    go_ret
    exact ⟨rfl, T.below⟩
  · rw [show encB x = [] from if_neg h1]
    have e1 : (checkI x != 0) = true := by simpa using h1
    generalize checkI x = E1 at *
    clear h1
    go_wp2_with fail
    go_ret
    exact ⟨rfl, T.below⟩
end Go.Proofs.YthbeigcbmalldaaDoor
