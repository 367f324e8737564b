/- UnrlpCut: the walk. -/
import Derived.Test.YthbeigcbmalldaaDoorUnlB
namespace Go.Proofs.YthbeigcbmalldaaDoor
open Go.RowKit Go.Shelf
set_option linter.unusedVariables false
set_option linter.unusedSimpArgs false

open Classical in
set_option maxRecDepth 100000 in
set_option maxHeartbeats 4000000 in
theorem cut_law (x : Itm) (cut : Int) (more : ByteArray) (W : World) (sx : Value) (hx : SubW W x.items sx) (hwx : wtF x ≤ 1000000000) (hm : more.size ≤ 1000000000) (hc1 : -9223372036854775808 ≤ cut) (hc2 : cut ≤ 9223372036854775807) :
    Calls Tryd.prog 3 #[.agg #[.bool x.list, .string x.bytes, sx], .int .i64 cut, .string more] W fun e W' => e = .returned (.bool true) ∧ Below W.heap.size W W' := by
  have hox := ok_of_wt x hwx
  have HX := Lib.hid hwx
  obtain ⟨A, c, rfl⟩ := hx.slice
  have T := one_box W x _ hx
  clear hx
  go_enter Tryd.func3, Tryd.ntmps3
  go_upto_region 1 with (fail)
  obtain ⟨b, hb⟩ : ∃ b, W.heap.size = b := ⟨_, rfl⟩
  rw [hb] at T ⊢
  have HB := Lib.hid hb
  clear hb
  generalize W.alloc (.cells #[.bool x.list, .string x.bytes, .slice A x.items.length c] 24) = W1 at *
  obtain ⟨c0, c1, c2⟩ := T.cells
  go_wp2_with fail
  refine (works_any _).mono ?_
  rintro e w2 ⟨rfl, hg⟩
  replace T := T.grown hg
  clear hg c0 c1 c2
  obtain ⟨c0, c1, c2⟩ := T.cells
  go_wp2_with fail
  refine (few_any x _ _ T.sx hox).mono ?_
  rintro e w3 ⟨r1, rfl, hg⟩
  replace T := T.grown hg
  clear hg c0 c1 c2
  obtain ⟨c0, c1, c2⟩ := T.cells
  cases r1 with
  | false =>
    go_wp2_with fail
    go_ret
    exact ⟨rfl, T.below⟩
  | true =>
  rcases Nat.lt_or_ge 1500 more.size with hlong | hlong
  · have g1 : (1500 : Int) < (more.size : Int) := by omega
    have g1' : decide ((1500 : Int) < (more.size : Int)) = true := decide_eq_true g1
    go_wp2_with fail
    go_ret
    exact ⟨rfl, T.below⟩
  have g1 : decide ((1500 : Int) < (more.size : Int)) = false := decide_eq_false (by omega)
  have g1' : decide (1500 < more.size) = false := decide_eq_false (by omega)
  go_wp2_with fail
  refine (encodeP_any x _ _ T.sx HX.out).mono ?_
  rintro e w4 ⟨rfl, hg⟩
  replace T := T.grown hg
  clear hg c0 c1 c2
  by_cases h1 : checkI x = 0
  · rw [h1, show encB x = bytesF x from if_pos h1]
    obtain ⟨S, hS⟩ : ∃ S : ByteArray, S = ⟨(bytesF x).toArray⟩ := ⟨_, rfl⟩
    have hSl : S.data.toList = bytesF x := by rw [hS]
    have hSz : S.data.toList.length = S.size := ba_len S
    have hS6 : S.size ≤ 65536 := by have := (check_form h1).2.1; rw [← hSl] at this; omega
    have hcutF := fun k (hk : k < S.size) => decode_cut h1 (cut := k) (by rw [← hSl]; omega)
    have hmoreF := fun hm => decode_more h1 (more := more.data.toList) hm
    rw [← hSl] at hcutF hmoreF
    have hmz : more.data.toList.length = more.size := ba_len more
    rw [hSz, hmz] at hmoreF
    have HC := Lib.hid hcutF; have HM := Lib.hid hmoreF
    rw [← hS]
    clear hS hSl hSz hcutF hmoreF h1
    by_cases h2 : cut < 0
    · have e2 : decide (cut < 0) = true := decide_eq_true h2
      clear HC HM
      go_wp2_with fail
      go_ret
      exact ⟨rfl, T.below⟩
    have e2 : decide (cut < 0) = false := decide_eq_false h2
    obtain ⟨k, rfl⟩ := Int.eq_ofNat_of_zero_le (show 0 ≤ cut by omega)
    by_cases h3 : S.size ≤ k
    · have e3 : (S.size : Int) ≤ (k : Int) := by omega
      have e3' : decide ((S.size : Int) ≤ (k : Int)) = true := decide_eq_true e3
      have e3'' : decide (S.size ≤ k) = true := decide_eq_true h3
      clear HC HM
      go_wp2_with fail
      go_ret
      exact ⟨rfl, T.below⟩
    have e3 : decide ((S.size : Int) ≤ (k : Int)) = false := decide_eq_false (by omega)
    have e3' : decide (S.size ≤ k) = false := decide_eq_false h3
    by_cases h4 : more = ⟨#[]⟩
    · have e4 : (more.toList == []) = true := by rw [h4, Lib.toList_data]; rfl
      have e4' : more.toList.isEmpty = true := by rw [h4, Lib.toList_data]; rfl
      clear HC HM h4 h2
      go_wp2_with fail
      go_ret
      exact ⟨rfl, T.below⟩
    have hne : more.data.toList ≠ [] := fun h => h4 (ba_ext (by rw [h]))
    have e4 : (more.toList == []) = false := by rw [Lib.toList_data]; simpa using hne
    have e4' : more.toList.isEmpty = false := by rw [Lib.toList_data]; cases hq : more.data.toList with
      | nil => exact absurd hq hne
      | cons a l => rfl
    have hd1 := HC.out k (by omega)
    have hx1 : (S.extract 0 k).data.toList = S.data.toList.take k := by rw [Lib.extract_data]; simp
    rw [← hx1] at hd1
    have hd2 := HM.out hne
    rw [← ba_toList] at hd2
    have hz1 : (S.extract 0 k).size ≤ 65536 := by
      have := congrArg List.length hx1
      rw [ba_len, List.length_take, ba_len] at this
      omega
    have hz2 : (S ++ more).size = S.size + more.size := by
      have := congrArg List.length (ba_toList S more)
      rw [ba_len, List.length_append, ba_len, ba_len] at this
      exact this
    have HD1 := Lib.hid (fun V => decode_any (S.extract 0 k) V (by omega))
    have HD2 := Lib.hid (fun V => decode_any (S ++ more) V (by omega))
    have H1 := Lib.hid hd1; have H2 := Lib.hid hd2
    have f1 : (k : Int) ≤ (S.size : Int) := by omega
    have f2 : (0 : Int) ≤ (k : Int) := by omega
    have v1 : IntKind.i64.wrap ((S.size : Int) + (more.size : Int)) = (S.size : Int) + (more.size : Int) := IntWalk.i64_in _ (by omega)
    clear HC HM hd1 hd2 hx1 hne h2 h4 hz1 hz2 hmz
    go_wp2_with fail
    refine (HD1.out _).mono ?_
    rintro e w5 ⟨l5, b5, A5, n5, c5, E5, rfl, hg, ht⟩
    obtain rfl := dec_err ht H1.out
    replace T := (T.grown hg).grown (only_alloc (World.grownBy.refl w5 none) (.cells #[.bool l5, .string b5, .slice A5 n5 c5] 24))
    clear hg ht HD1 H1
    go_upto_region 11 with (fail)
    generalize w5.alloc (.cells #[.bool l5, .string b5, .slice A5 n5 c5] 24) = w6 at *
    go_wp2_with fail
    refine (HD2.out _).mono ?_
    rintro e w7 ⟨l7, b7, A7, n7, c7, E7, rfl, hg, ht⟩
    have hE := dec_err ht H2.out
    replace T := (T.grown hg).grown (only_alloc (World.grownBy.refl w7 none) (.cells #[.bool l7, .string b7, .slice A7 n7 c7] 24))
    clear hg ht HD2 H2
    by_cases h5 : 65536 < S.size + more.size
    · rw [if_pos h5] at hE
      subst hE
      have e5 : decide ((65536 : Int) < (S.size : Int) + (more.size : Int)) = true := decide_eq_true (by omega)
      have e5' : (65536 : Int) < (S.size : Int) + (more.size : Int) := by omega
      go_wp2_with fail
      go_ret
      exact ⟨rfl, T.below⟩
    · rw [if_neg h5] at hE
      subst hE
      have e5 : decide ((65536 : Int) < (S.size : Int) + (more.size : Int)) = false := decide_eq_false (by omega)
      go_wp2_with fail
      go_ret
      exact ⟨rfl, T.below⟩
  · rw [show encB x = [] from if_neg h1]
    have e1 : (checkI x != 0) = true := by simpa using h1
    generalize checkI x = E1 at *
    clear h1
    go_wp2_with fail
    go_ret
    exact ⟨rfl, T.below⟩
end Go.Proofs.YthbeigcbmalldaaDoor
