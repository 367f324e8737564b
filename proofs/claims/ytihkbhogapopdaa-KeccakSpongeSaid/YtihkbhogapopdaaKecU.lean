/- KeccakPads, KeccakSums: what they answer. -/
import Derived.Test.YtihkbhogapopdaaKecT
namespace Go.Proofs.Ytihkbhogapopdaa
open Go.RowKit Go.Shelf

/-- what is put behind, as a text -/
def padB (n : Nat) : ByteArray := ⟨(padL (136 - n % 136)).toArray⟩
theorem padB_len (n : Nat) : (padB n).size = 136 - n % 136 := by
  show (padL (136 - n % 136)).toArray.size = _
  rw [List.size_toArray, padL_len _ (by omega)]
theorem padB_any (n : Nat) (hn : n ≤ 1099511627776) (w : World) :
    Calls Try.prog 12 #[.int .i64 (n : Int)] w fun e w' => e = .returned (.tuple #[.string (padB n), .int .i64 0]) ∧ w.grownBy w' none := pad_any n hn w
theorem padRB_any (n : Nat) (hn : n ≤ 1099511627776) (w : World) :
    Calls Try.prog 13 #[.int .i64 (n : Int)] w fun e w' => e = .returned (.tuple #[.string (padB n), .int .i64 0]) ∧ w.grownBy w' none := padR_any n hn w
/-- no two texts are the same with it -/
theorem pad_apart (s t : List UInt8) (h : s ++ padL (136 - s.length % 136) = t ++ padL (136 - t.length % 136)) : s = t := by
  have key : ∀ (s t : List UInt8), s.length ≤ t.length → s ++ padL (136 - s.length % 136) = t ++ padL (136 - t.length % 136) → s = t := by
    intro s t hst h
    have hl := congrArg List.length h
    rw [List.length_append, List.length_append, padL_len _ (by omega), padL_len _ (by omega)] at hl
    obtain ⟨u, rfl⟩ : ∃ u, t = s ++ u := by
      have := congrArg (List.take t.length) h
      rw [List.take_append_of_le_length (Nat.le_refl t.length), List.take_length] at this
      rw [List.take_append, List.take_of_length_le hst] at this
      exact ⟨_, this.symm⟩
    have hul : u.length = (136 - s.length % 136) - (136 - (s ++ u).length % 136) ∧ 136 - (s ++ u).length % 136 ≤ 136 - s.length % 136 := by
      rw [List.length_append] at hl ⊢; omega
    rw [List.append_assoc] at h
    have h := List.append_cancel_left h
    cases u with
    | nil => simp
    | cons x u =>
      exfalso
      -- behind the first byte of what is put there are noughts, and a last one: no 1 stands where another one begins
      generalize hm : 136 - s.length % 136 = m at *
      generalize hk : 136 - (s ++ x :: u).length % 136 = k at *
      have hk1 : 1 ≤ k := by omega
      simp only [List.length_cons] at hul
      have hmk : m = k + (u.length + 1) := by omega
      have h1 : (padL m).getD (u.length + 1) 0 = (padL k).getD 0 0 := by
        rw [h, List.getD_eq_getElem?_getD, List.getD_eq_getElem?_getD, List.getElem?_append_right (by simp)]
        simp
      have e1 : (padL k).getD 0 0 ≠ 0 ∧ (padL k).getD 0 0 ≠ 128 := by
        unfold padL; split <;> simp
      have e2 : (padL m).getD (u.length + 1) 0 = 0 ∨ (padL m).getD (u.length + 1) 0 = 128 := by
        unfold padL
        rw [if_neg (by omega)]
        rw [List.cons_append, List.getD_cons_succ, List.getD_eq_getElem?_getD]
        by_cases hc : u.length < m - 2
        · rw [List.getElem?_append_left (by simpa using hc), List.getElem?_replicate, if_pos hc]; exact .inl rfl
        · rw [List.getElem?_append_right (by simp; omega), List.length_replicate]
          rcases Nat.eq_zero_or_pos (u.length - (m - 2)) with h0 | h0
          · rw [h0]; exact .inr rfl
          · exact .inl (by rw [List.getElem?_eq_none (by simp; omega)]; rfl)
      rw [h1] at e2
      rcases e2 with e | e
      · exact e1.1 e
      · exact e1.2 e
  rcases Nat.le_total s.length t.length with hl | hl
  · exact key s t hl h
  · exact (key t s hl h.symm).symm

theorem padR_bad (n : Int) (hn : n < 0 ∨ 1099511627776 < n) (w : World) :
    Calls Try.prog 13 #[.int .i64 n] w fun e w' => e = .returned (.tuple #[.string ⟨#[]⟩, .int .i64 1]) ∧ w' = w := by
  have hb : (decide (n < 0) || decide (1099511627776 < n)) = true := by simpa using hn
  go_enter Try.func13, Try.ntmps13
  by_cases h : n < 0
  · go_wp2_with fail
    go_ret2
    exact ⟨rfl, rfl⟩
  · have h2 : 1099511627776 < n := by omega
    go_wp2_with fail
    go_ret2
    exact ⟨rfl, rfl⟩

set_option maxRecDepth 100000 in
set_option maxHeartbeats 1000000 in
theorem pads_law (s t : ByteArray) (hs : s.size ≤ 9223372036854775807) (ht : t.size ≤ 9223372036854775807) (w : World) :
    Calls Try.prog 7 #[.string s, .string t] w fun e w' => e = .returned (.bool true) ∧ Below w.heap.size w w' := by
  go_enter Try.func7, Try.ntmps7
  by_cases hs6 : s.size ≤ 600
  · by_cases ht6 : t.size ≤ 600
    · obtain ⟨p, hp⟩ : ∃ p, padB s.size = p := ⟨_, rfl⟩
      obtain ⟨q, hq⟩ : ∃ q, padB t.size = q := ⟨_, rfl⟩
      have hpz : p.size = 136 - s.size % 136 := by rw [← hp]; exact padB_len _
      have hqz : q.size = 136 - t.size % 136 := by rw [← hq]; exact padB_len _
      have c1 := fun w => padB_any s.size (by omega) w
      have c2 := fun w => padB_any t.size (by omega) w
      rw [hp] at c1
      rw [hq] at c2
      have a1 : ((s.size : Int) + (p.size : Int)) % 136 = 0 := by omega
      have a2 : ((t.size : Int) + (q.size : Int)) % 136 = 0 := by omega
      have b1 : p.size ≤ 136 := by omega
      have b2 : q.size ≤ 136 := by omega
      have he : ((s ++ p).data.toList == (t ++ q).data.toList) = (s.data.toList == t.data.toList) := by
        rw [Bool.eq_iff_iff, beq_iff_eq, beq_iff_eq, ba_toList, ba_toList, ← hp, ← hq]
        have ls : s.data.toList.length = s.size := Array.length_toList
        have lt : t.data.toList.length = t.size := Array.length_toList
        constructor
        · intro h
          refine pad_apart _ _ ?_
          rw [ls, lt]
          exact h
        · intro h
          have : s.size = t.size := by rw [← ls, ← lt, h]
          rw [h, this]
      have HE := Lib.hid he
      clear hp hq hpz hqz he
      go_wp2_with fail
      refine (works_any _).mono ?_
      rintro e w1 ⟨rfl, hg1⟩
      go_wp2_with fail
      refine (c1 _).mono ?_
      rintro e w2 ⟨rfl, hg2⟩
      go_wp2_with fail
      refine (c2 _).mono ?_
      rintro e w3 ⟨rfl, hg3⟩
      have hg := grown_self (grown_self hg1 hg2 (by simp)) hg3 (by simp)
      go_wp2_with fail
      go_ret
      exact ⟨by simp only [Lib.toList_data, HE.out, beq_self_eq_true]; rfl, below_of_grown hg⟩
    · have d1 : decide ((s.size : Int) > 600) = false := by simp; omega
      have d2 : decide (600 < (t.size : Int)) = true := by simp; omega
      go_wp2_with fail
      refine (works_any _).mono ?_
      rintro e w1 ⟨rfl, hg1⟩
      go_wp2_with fail
      go_ret
      exact ⟨rfl, below_of_grown hg1⟩
  · have d2 : decide (600 < (s.size : Int)) = true := by simp; omega
    go_wp2_with fail
    refine (works_any _).mono ?_
    rintro e w1 ⟨rfl, hg1⟩
    go_wp2_with fail
    go_ret
    exact ⟨rfl, below_of_grown hg1⟩

set_option maxRecDepth 100000 in
set_option maxHeartbeats 1000000 in
theorem sums_law (s : ByteArray) (n : Int) (hs : s.size ≤ 9223372036854775807) (w : World) :
    Calls Try.prog 4 #[.string s, .int .i64 n] w fun e w' => e = .returned (.bool true) ∧ Below w.heap.size w w' := by
  go_enter Try.func4, Try.ntmps4
  by_cases hs6 : s.size ≤ 600
  · have hsum := fun w => sum_any s (by omega) w
    have hsumR := fun w => refSum_any s (by omega) w
    generalize (⟨(sumL s.data.toList).toArray⟩ : ByteArray) = r at hsum hsumR
    have hpads : ∃ (p : ByteArray) (e : Int), (∀ w, Calls Try.prog 12 #[.int .i64 n] w fun e' w' => e' = .returned (.tuple #[.string p, .int .i64 e]) ∧ w.grownBy w' none) ∧
        (∀ w, Calls Try.prog 13 #[.int .i64 n] w fun e' w' => e' = .returned (.tuple #[.string p, .int .i64 e]) ∧ w.grownBy w' none) := by
      by_cases hn : n < 0 ∨ 1099511627776 < n
      · exact ⟨⟨#[]⟩, 1, fun w => (pad_bad n hn w).mono fun _ _ ⟨h, e⟩ => ⟨h, by rw [e]; exact World.grownBy.refl _ _⟩, fun w => (padR_bad n hn w).mono fun _ _ ⟨h, e⟩ => ⟨h, by rw [e]; exact World.grownBy.refl _ _⟩⟩
      · obtain ⟨k, rfl⟩ := Int.eq_ofNat_of_zero_le (show 0 ≤ n by omega)
        exact ⟨padB k, 0, fun w => padB_any k (by omega) w, fun w => padRB_any k (by omega) w⟩
    obtain ⟨p, e, c1, c2⟩ := hpads
    go_wp2_with fail
    refine (works_any _).mono ?_
    rintro e w1 ⟨rfl, hg1⟩
    go_wp2_with fail
    refine (hsumR _).mono ?_
    rintro e w2 ⟨rfl, hg2⟩
    go_wp2_with fail
    refine (c1 _).mono ?_
    rintro e w3 ⟨rfl, hg3⟩
    go_wp2_with fail
    refine (c2 _).mono ?_
    rintro e w4 ⟨rfl, hg4⟩
    go_wp2_with fail
    refine (hsum _).mono ?_
    rintro e w5 ⟨rfl, hg5⟩
    have hg := grown_self (grown_self (grown_self (grown_self hg1 hg2 (by simp)) hg3 (by simp)) hg4 (by simp)) hg5 (by simp)
    go_wp2_with fail
    go_ret
    exact ⟨by simp, below_of_grown hg⟩
  · have d2 : decide (600 < (s.size : Int)) = true := by simp; omega
    go_wp2_with fail
    refine (works_any _).mono ?_
    rintro e w1 ⟨rfl, hg1⟩
    go_wp2_with fail
    go_ret
    exact ⟨rfl, below_of_grown hg1⟩
end Go.Proofs.Ytihkbhogapopdaa
