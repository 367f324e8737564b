/- FrameCut: what it answers. -/
import Derived.Test.YtfafjnjdikofcaaFrmP
namespace Go.Proofs.Ytfafjnjdikofcaa
open Go.RowKit Go.Shelf

theorem cutAt_succ (xs : List Frm) (k : Nat) (hk : k < xs.length) : cutAt (xs.take (k + 1)) = cutAt (xs.take k) + (bytesF xs[k]).length := by
  rw [← flat_len, ← flat_len, List.take_succ_eq_append_getElem hk, List.flatMap_append, List.length_append]
  simp
theorem flat_split (xs : List Frm) (k : Nat) (hk : k < xs.length) : xs.flatMap bytesF = (xs.take k).flatMap bytesF ++ (bytesF xs[k] ++ (xs.drop (k + 1)).flatMap bytesF) := by
  conv => lhs; rw [← List.take_append_drop k xs, List.drop_eq_getElem_cons hk, List.flatMap_append, List.flatMap_cons]
theorem cut_plain (xs : List Frm) (h : putE xs = 0) (k C : Nat) (hk : k < xs.length) (h1 : k = 0 ∨ 1 + cutAt (xs.take k) ≤ C) (h2 : C < 1 + cutAt (xs.take (k + 1))) :
    getS ((putL xs).take C) = if 0 < k ∧ 1 + cutAt (xs.take k) = C then (xs.take k, 0) else ([], 3) := by
  obtain ⟨p1, p2, p3, p4⟩ := put_ok xs h
  rw [cutAt_succ xs k hk] at h2
  have hck : ∀ g ∈ xs.take k, checkF g = 0 := fun g hg => p1 g (List.mem_of_mem_take hg)
  cases C with
  | zero =>
    rw [if_neg (by omega), List.take_zero]
    unfold getS; rw [if_pos rfl]
  | succ C =>
    have hC : cutAt (xs.take k) ≤ C := by
      rcases h1 with rfl | h1
      · simp [cutAt]
      · omega
    have ht : (putL xs).take (C + 1) = 0 :: ((xs.take k).flatMap bytesF ++ (bytesF xs[k]).take (C - cutAt (xs.take k))) := by
      rw [p4, List.take_succ_cons, flat_split xs k hk, List.take_append, List.take_of_length_le (by rw [flat_len]; exact hC), flat_len, List.take_append_of_le_length (by omega)]
    rw [ht]
    by_cases hz : C - cutAt (xs.take k) = 0
    · rw [hz, List.take_zero, List.append_nil]
      by_cases h0 : 0 < k
      · rw [if_pos ⟨h0, by omega⟩]
        exact getS_some _ hck (by rw [List.length_take]; omega) (by rw [List.length_take]; omega)
      · rw [if_neg (by omega)]
        obtain rfl : k = 0 := by omega
        rfl
    · rw [if_neg (by omega)]
      have hsplit : xs = xs.take k ++ xs[k] :: xs.drop (k + 1) := by
        conv => lhs; rw [← List.take_append_drop k xs, List.drop_eq_getElem_cons hk]
      refine getS_cut (xs.take k) (xs.drop (k + 1)) xs[k] _ ((bytesF xs[k]).drop (C - cutAt (xs.take k))) ?_ (by rw [List.length_take]; omega) (List.take_append_drop _ _) ?_ ?_
      · rw [← hsplit]; exact p1
      · intro e
        have := congrArg List.length e
        rw [List.length_drop] at this
        simp at this
        omega
      · intro e
        have := congrArg List.length e
        rw [List.length_take, List.length_nil] at this
        omega
theorem Reads.take {w : World} {B size n k : Nat} {A : Option Addr} {xs : List Value} (h : Reads w B size A n xs) (hk : k ≤ n) : Reads w B size A k (xs.take (k * size)) := by
  refine ⟨by rw [List.length_take, h.1]; exact Nat.min_eq_left (Nat.mul_le_mul_right _ hk), fun h0 => ?_⟩
  obtain ⟨ad, e, hb, hc⟩ := h.2 (by omega)
  refine ⟨ad, e, hb, fun j u hu => hc j u ?_⟩
  rw [List.getElem?_take] at hu
  split at hu
  · exact hu
  · cases hu
theorem framesV_take (xs : List Frm) (k : Nat) (hk : k ≤ xs.length) : (framesV xs).take (k * 4) = framesV (xs.take k) := by
  conv => lhs; rw [← List.take_append_drop k xs]
  have : framesV (xs.take k ++ xs.drop k) = framesV (xs.take k) ++ framesV (xs.drop k) := List.flatMap_append
  rw [this, List.take_left' (by rw [framesV_len, List.length_take]; congr 1; omega)]

set_option maxRecDepth 100000 in
set_option maxHeartbeats 2000000 in
theorem cut_law (A : Option Addr) (n c : Nat) (xs : List Frm) (cut : Int) (w : World) (h : Reads w w.heap.size 4 A n (framesV xs)) (hn : n ≤ maxLen) (hnc : n ≤ c) :
    Calls Try.prog 7 #[.slice A n c, .int .i64 cut] w fun e w' => e = .returned (.bool true) ∧ Below w.heap.size w w' := by
  unfold maxLen at hn
  have hl : xs.length = n := by have := h.1; rw [framesV_len] at this; omega
  obtain ⟨b, hb⟩ : ∃ b, fewF xs = b := ⟨_, rfl⟩
  obtain ⟨S, hS⟩ : ∃ S : ByteArray, (⟨(putL xs).toArray⟩ : ByteArray) = S := ⟨_, rfl⟩
  obtain ⟨E, hE⟩ : ∃ e, putE xs = e := ⟨_, rfl⟩
  have hSl : S.data.toList = putL xs := by rw [← hS]
  have hSz : S.size ≤ 131809 := by rw [← ba_len, hSl]; exact putL_len xs
  have hgood : E = 0 → xs.length ≤ 32 ∧ 1 ≤ xs.length ∧ S.size = 1 + cutAt xs ∧ (∀ f ∈ xs, checkF f = 0) ∧ cutAt xs ≤ 4119 * xs.length := by
    intro h0
    obtain ⟨p1, p2, p3, p4⟩ := put_ok xs (by rw [hE]; exact h0)
    refine ⟨p3, p2, ?_, p1, (cutAt_le xs p1).2⟩
    rw [← ba_len, hSl, p4, List.length_cons, flat_len]; omega
  have H1 := Lib.hid hl; have HB := Lib.hid hb; have HS := Lib.hid hS; have HE := Lib.hid hE; have HSL := Lib.hid hSl; have HGOOD := Lib.hid hgood
  clear hl hb hS hE hSl hgood
  go_enter Try.func7, Try.ntmps7
  go_wp2_with fail
  refine (works_any _).mono ?_
  rintro e w1 ⟨rfl, hb1⟩
  go_wp2_with fail
  refine (few_is w.heap.size A n c xs b HB.out w1 (h.below hb1)).mono ?_
  rintro e w' ⟨rfl, rfl⟩
  cases b
  · go_wp2_with fail
    go_ret
    exact ⟨rfl, hb1⟩
  go_wp2_with fail
  refine (put_is w.heap.size A n c xs S E HS.out HE.out w1 hb1.size (h.below hb1)).mono ?_
  rintro e w2 ⟨rfl, hg⟩
  have hb2 := Below.then_grown hb1 hg
  clear hg
  by_cases h0 : E = 0
  · subst h0
    obtain ⟨g1, g2, g3, g4, g5⟩ := HGOOD.out rfl
    have hn32 : n ≤ 32 := by have := H1.out; omega
    have hn1 : 1 ≤ n := by have := H1.out; omega
    have G3 := Lib.hid g3; have G4 := Lib.hid g4; have G5 := Lib.hid g5
    clear g1 g2 g3 g4 g5
    by_cases hc0 : cut < 0
    · go_wp2_with fail
      go_ret
      exact ⟨rfl, hb2⟩
    obtain ⟨C, rfl⟩ := Int.eq_ofNat_of_zero_le (show 0 ≤ cut by omega)
    have d0 : decide ((C : Int) < 0) = false := by simp
    clear hc0
    by_cases hc1 : S.size ≤ C
    · have d1 : (S.size : Int) ≤ (C : Int) := by omega
      go_wp2_with fail
      go_ret
      exact ⟨rfl, hb2⟩
    have hCS : C < S.size := by omega
    have d1 : decide ((S.size : Int) ≤ (C : Int)) = false := by simp; omega
    have d1' : decide (S.size ≤ C) = false := by simp; omega
    have h2 := h.below hb2
    clear hc1
    go_wp2_with fail
    go_loop [9, 10, 11] (fun a u i => ∃ k q : Nat, i = .int .i64 (k : Int) ∧ u = .int .i64 (k : Int) ∧ a = .int .i64 (q : Int) ∧ k ≤ n ∧ q ≤ 1 + 4119 * k ∧ Hid (q = 1 + cutAt (xs.take k)) ∧ (k = 0 ∨ q ≤ C)) (fun _ _ i => n - (intOf i).toNat)
    case atStart => exact ⟨0, 1, rfl, rfl, rfl, by omega, by omega, rfl, .inl rfl⟩
    case round =>
      obtain ⟨k, q, rfl, rfl, rfl, hk, hq, hqq, hkC⟩ := hrel
      have hkn : k < n := by
        rcases Nat.lt_or_ge k n with hlt | hge
        · exact hlt
        · exfalso
          have e : xs.take k = xs := List.take_of_length_le (by have := H1.out; omega)
          have := hqq.out
          rw [e] at this
          have := G3.out
          omega
      obtain ⟨b, off, rfl, hbb, hcc⟩ := h2.frames hkn
      obtain ⟨c0, c1, c2, c3⟩ := hcc k hkn
      have hxk : xs.getD k Frm.none_ = xs[k]'(by have := H1.out; omega) := by rw [List.getD_eq_getElem?_getD, List.getElem?_eq_getElem (by have := H1.out; omega)]; rfl
      have hck := G4.out _ (List.getElem_mem (l := xs) (n := k) (by have := H1.out; omega))
      have hbl := bytesF_len _ hck
      have hcs := cutAt_succ xs k (by have := H1.out; omega)
      have hd4 := (check_ok hck).2.2.2
      rw [hbl] at hcs
      rw [← hxk] at hcs hd4
      generalize xs.getD k Frm.none_ = f at *
      have HCS := Lib.hid hcs
      clear hcc hxk hck hbl hcs c0 c1 c3
      obtain ⟨id, num, data, last⟩ := f
      replace hd4 : data.size ≤ 4096 := hd4
      by_cases hle : q + 23 + data.size ≤ C
      · have d2 : (q : Int) + 23 + (data.size : Int) ≤ (C : Int) := by omega
        go_wp2_with fail
        refine ⟨⟨k + 1, q + 23 + data.size, by simp, by simp, by simp, by omega, by omega, ?_, .inr hle⟩, by simp [intOf]; omega⟩
        refine Lib.hid ?_
        have e1 := HCS.out
        have e2 := hqq.out
        simp only at e1
        omega
      · have d2 : decide ((q : Int) + 23 + (data.size : Int) ≤ (C : Int)) = false := by simp; omega
        have hcut := cut_plain xs HE.out k C (by have := H1.out; omega) (by have := hqq.out; omega) (by have := hqq.out; have h3 := HCS.out; simp only at h3; omega)
        have hex : (S.extract 0 C).data.toList = (putL xs).take C := by rw [Lib.extract_data, HSL.out]; simp
        have hexz : (S.extract 0 C).size ≤ 131809 := by rw [← ba_len, hex, List.length_take]; omega
        rw [← hqq.out] at hcut
        have q1 : (0 : Int) ≤ (C : Int) := by omega
        have q2 : (C : Int) ≤ (S.size : Int) := by omega
        by_cases hend : 0 < k ∧ q = C
        · obtain ⟨hk0, rfl⟩ := hend
          rw [if_pos ⟨hk0, rfl⟩] at hcut
          have hgt := fun W => get_is (S.extract 0 q) _ _ _ hex hcut (by omega) W
          have hlk : (xs.take k).length = k := by rw [List.length_take]; have := H1.out; omega
          rw [hlk] at hgt
          have d3 : (0 : Int) < (k : Int) := by omega
          clear hcut hex hqq hlk HCS
          generalize hX : S.extract 0 q = X at *
          go_wp2_with fail
          refine (hgt _).mono ?_
          rintro e w3 ⟨A3, c3, rfl, hr3, hbw⟩
          have hb3 := Below.then hb2 hbw
          have hr4 := (h2.below (hbw.mono hb2.size)).take (k := k) (by omega)
          rw [framesV_take xs k (by have := H1.out; omega)] at hr4
          clear hgt hbw
          have q3 : (k : Int) ≤ (c : Int) := by omega
          go_wp2_with fail
          refine (same_any _ _ _ _ k k _ _ (xs.take k) (xs.take k) w3 hr3 hr4 (by omega) (by omega)).mono ?_
          rintro e w4 ⟨rfl, hbw⟩
          have hb4 := Below.then hb3 hbw
          clear hbw
          simp only [decide_true]
          go_wp2_with fail
          go_ret
          exact ⟨by simp, hb4⟩
        · rw [if_neg hend] at hcut
          have hgt := fun W => get_is (S.extract 0 C) _ _ _ hex hcut (by omega) W
          have hne : decide ((0 : Int) < (k : Int)) = true → ((q : Int) == (C : Int)) = false := by
            intro hk0
            rw [beq_eq_false_iff_ne]
            simp at hk0
            omega
          clear hcut hex hqq HCS hend
          generalize hX : S.extract 0 C = X at *
          go_wp2_with fail
          refine (hgt _).mono ?_
          rintro e w3 ⟨A3, c3, rfl, hr3, hbw⟩
          have hb3 := Below.then hb2 hbw
          clear hgt hbw hr3
          by_cases hk0 : k = 0
          · subst hk0
            clear hne
            go_wp2_with fail
            go_ret
            exact ⟨by simp, hb3⟩
          · have d3 : (0 : Int) < (k : Int) := by omega
            have d4 := hne (by simpa using d3)
            clear hne
            go_wp2_with fail
            go_ret
            exact ⟨by simp, hb3⟩
  · have d1 : (E != 0) = true := by simpa using h0
    go_wp2_with fail
    go_ret
    exact ⟨rfl, hb2⟩
end Go.Proofs.Ytfafjnjdikofcaa
