/- RlpApart: the walk. -/
import Derived.Test.YtacfpjleejfdgaaDoorRlpK
import Derived.Test.YtacfpjleejfdgaaDoorRlpL
namespace Go.Proofs.YtacfpjleejfdgaaDoor
open Go.RowKit Go.Shelf
set_option linter.unusedVariables false
set_option linter.unusedSimpArgs false

open Classical in
theorem apart_eq (x y : Itm) (hwx : wtF x ≤ 1000000000) (hwy : wtF y ≤ 1000000000) (h1 : checkI x = 0) (h2 : checkI y = 0) (S T : ByteArray) (hS : S = ⟨(bytesF x).toArray⟩) (hT : T = ⟨(bytesF y).toArray⟩) :
    1 ≤ S.size ∧ (S.toList == T.toList) = decide (x = y) ∧ (S.size ≤ T.size → ((T.extract 0 S.size).toList == S.toList) = decide (x = y)) := by
  have hs : S.data.toList = bytesF x := by rw [hS]
  have ht : T.data.toList = bytesF y := by rw [hT]
  have lz : S.size = (bytesF x).length := by rw [hS, ba_sz]
  obtain ⟨z, l, e, _⟩ := bytesF_first x hwx
  have key : ∀ u, bytesF y = bytesF x ++ u → x = y := fun u h => (bytesF_inj x (check_form h1).1 hwx y u [] (check_form h2).1 hwy (by rw [h]; simp)).1
  refine ⟨by rw [lz, e]; simp, ?_, fun hle => ?_⟩
  · rw [Lib.toList_data, Lib.toList_data, hs, ht]
    by_cases h : x = y
    · rw [h, decide_eq_true rfl]; simp
    · rw [decide_eq_false h, beq_eq_false_iff_ne]
      intro e
      exact h (key [] (by rw [e]; simp))
  · have hx : (T.extract 0 S.size).data.toList = (bytesF y).take S.size := by rw [Lib.extract_data, ht]; simp
    rw [Lib.toList_data, Lib.toList_data, hx, hs]
    by_cases h : x = y
    · rw [← h, decide_eq_true rfl, lz, List.take_length]; simp
    · rw [decide_eq_false h, beq_eq_false_iff_ne]
      intro e
      exact h (key ((bytesF y).drop S.size) (by rw [← e, List.take_append_drop]))

open Classical in
set_option maxRecDepth 100000 in
set_option maxHeartbeats 4000000 in
theorem apart_law (x y : Itm) (W : World) (sx sy : Value) (hx : SubW W x.items sx) (hy : SubW W y.items sy) (hwx : wtF x ≤ 1000000000) (hwy : wtF y ≤ 1000000000) :
    Calls Tryd.prog 4 #[.agg #[.bool x.list, .string x.bytes, sx], .agg #[.bool y.list, .string y.bytes, sy]] W fun e W' => e = .returned (.bool true) ∧ Below W.heap.size W W' := by
  have hox := ok_of_wt x hwx
  have hoy := ok_of_wt y hwy
  have HX := Lib.hid hwx; have HY := Lib.hid hwy
  have HE := Lib.hid (apart_eq x y hwx hwy)
  have HBX : Hid (checkI x = 0 → encB x = bytesF x) := Lib.hid fun h => if_pos h
  have HBY : Hid (checkI y = 0 → encB y = bytesF y) := Lib.hid fun h => if_pos h
  have HNX : Hid (checkI x ≠ 0 → encB x = []) := Lib.hid fun h => if_neg h
  have HNY : Hid (checkI y ≠ 0 → encB y = []) := Lib.hid fun h => if_neg h
  obtain ⟨A, c, rfl⟩ := hx.slice
  obtain ⟨A', c', rfl⟩ := hy.slice
  obtain ⟨T, U⟩ := two_boxes W x y _ _ hx hy
  clear hx hy hwx hwy
  go_enter Tryd.func4, Tryd.ntmps4
  go_upto_region 1 with (fail)
  obtain ⟨b, hb⟩ : ∃ b, W.heap.size = b := ⟨_, rfl⟩
  have hb2 := hb
  rw [hb] at T U ⊢
  have HB := Lib.hid hb
  clear hb hb2
  generalize (W.alloc (.cells #[.bool x.list, .string x.bytes, .slice A x.items.length c] 24)).alloc (.cells #[.bool y.list, .string y.bytes, .slice A' y.items.length c'] 24) = W1 at *
  obtain ⟨c0, c1, c2⟩ := T.cells
  obtain ⟨d0, d1, d2⟩ := U.cells
  go_wp2_with fail
  refine (worksP_any _).mono ?_
  rintro e w2 ⟨rfl, hg⟩
  replace T := T.grown hg
  replace U := U.grown hg
  clear hg c0 c1 c2 d0 d1 d2
  obtain ⟨c0, c1, c2⟩ := T.cells
  obtain ⟨d0, d1, d2⟩ := U.cells
  go_wp2_with fail
  refine (few_any x _ _ T.sx hox).mono ?_
  rintro e w3 ⟨r1, rfl, hg⟩
  replace T := T.grown hg
  replace U := U.grown hg
  clear hg c0 c1 c2 d0 d1 d2
  obtain ⟨c0, c1, c2⟩ := T.cells
  obtain ⟨d0, d1, d2⟩ := U.cells
  cases r1 with
  | false =>
    go_wp2_with fail
    go_ret
    exact ⟨rfl, T.below⟩
  | true =>
  go_wp2_with fail
  refine (few_any y _ _ U.sx hoy).mono ?_
  rintro e w4 ⟨r2, rfl, hg⟩
  replace T := T.grown hg
  replace U := U.grown hg
  clear hg c0 c1 c2 d0 d1 d2
  obtain ⟨c0, c1, c2⟩ := T.cells
  obtain ⟨d0, d1, d2⟩ := U.cells
  cases r2 with
  | false =>
    go_wp2_with fail
    go_ret
    exact ⟨rfl, T.below⟩
  | true =>
  go_wp2_with fail
  refine (encodeP_any x _ _ T.sx HX.out).mono ?_
  rintro e w5 ⟨rfl, hg⟩
  replace T := T.grown hg
  replace U := U.grown hg
  clear hg c0 c1 c2 d0 d1 d2
  obtain ⟨c0, c1, c2⟩ := T.cells
  obtain ⟨d0, d1, d2⟩ := U.cells
  go_wp2_with fail
  refine (encodeP_any y _ _ U.sx HY.out).mono ?_
  rintro e w6 ⟨rfl, hg⟩
  replace T := T.grown hg
  replace U := U.grown hg
  clear hg c0 c1 c2 d0 d1 d2
  obtain ⟨c0, c1, c2⟩ := T.cells
  obtain ⟨d0, d1, d2⟩ := U.cells
  by_cases h1 : checkI x = 0
  · rw [HBX.out h1]
    rw [h1]
    by_cases h2 : checkI y = 0
    · rw [HBY.out h2, h2]
      obtain ⟨S, hS⟩ : ∃ S : ByteArray, S = ⟨(bytesF x).toArray⟩ := ⟨_, rfl⟩
      obtain ⟨R, hR⟩ : ∃ R : ByteArray, R = ⟨(bytesF y).toArray⟩ := ⟨_, rfl⟩
      obtain ⟨f1, f2, f3⟩ := HE.out h1 h2 S R hS hR
      rw [← hS, ← hR]
      have hsame := fun V (a : SubW V x.items (.slice A x.items.length c)) (b : SubW V y.items (.slice A' y.items.length c')) => sameR_any x hox V y _ _ hoy a b
      obtain ⟨q, hq⟩ : ∃ q, decide (x = y) = q := ⟨_, rfl⟩
      rw [hq] at f2 f3 hsame
      have HSM := Lib.hid hsame
      have g1 : decide ((S.size : Int) < 1) = false := decide_eq_false (by omega)
      have g1' : decide (S.size < 1) = false := decide_eq_false (by omega)
      have F3 := Lib.hid f3
      clear hS hR hq hsame h1 h2 f3
      go_wp2_with fail
      refine (HSM.out _ T.sx U.sx).mono ?_
      rintro e w7 ⟨rfl, hg⟩
      replace T := T.grown hg
      clear hg c0 c1 c2 d0 d1 d2
      by_cases hle : S.size ≤ R.size
      · have f3 := F3.out hle
        have e1 : (S.size : Int) ≤ (R.size : Int) := by omega
        cases q
        all_goals
          go_wp2_with fail
          go_ret
          exact ⟨rfl, T.below⟩
      · have e1 : decide ((S.size : Int) ≤ (R.size : Int)) = false := decide_eq_false (by omega)
        have e2 : decide (S.size ≤ R.size) = false := decide_eq_false hle
        cases q
        all_goals
          go_wp2_with fail
          go_ret
          exact ⟨rfl, T.below⟩
    · rw [HNY.out h2]
      have e1 : (checkI y != 0) = true := by simpa using h2
      have e2 : (checkI y == 0) = false := by simpa using h2
      generalize checkI y = E2 at *
      clear h1 h2
      go_wp2_with fail
      go_ret
      exact ⟨rfl, T.below⟩
  · rw [HNX.out h1]
    have e1 : (checkI x != 0) = true := by simpa using h1
    have e2 : (checkI x == 0) = false := by simpa using h1
    by_cases h2 : checkI y = 0
    · rw [h2]
      generalize checkI x = E1 at *
      clear h1 h2
      go_wp2_with fail
      go_ret
      exact ⟨rfl, T.below⟩
    · rw [HNY.out h2]
      have e3 : (checkI y == 0) = false := by simpa using h2
      generalize checkI x = E1 at *
      generalize checkI y = E2 at *
      clear h1 h2
      go_wp2_with fail
      go_ret
      exact ⟨rfl, T.below⟩
end Go.Proofs.YtacfpjleejfdgaaDoor
