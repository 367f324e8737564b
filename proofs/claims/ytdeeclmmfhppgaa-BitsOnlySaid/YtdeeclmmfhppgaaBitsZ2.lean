/- BitsCount, BitsOnly: what they answer. -/
import Derived.Test.YtdeeclmmfhppgaaBitsZ
namespace Go.Proofs.Ytdeeclmmfhppgaa
open Go.RowKit Go.Shelf

theorem cntB_append (a b : List Bool) : cntB (a ++ b) = cntB a + cntB b := by simp [cntB]
theorem own_empty (w : World) : (w.alloc (.cells #[] 4)).ownsRow w.heap.size 4 1 (.slice (some ⟨w.heap.size, 0, none⟩) 0 0) 0 [] :=
  ⟨rfl, .inr ⟨w.heap.size, 0, #[], rfl, Nat.le_refl _, heap_alloc_new w _, Nat.le_refl _, by simp only [maxLen]; omega, rfl, rfl⟩⟩
theorem bools_one (l : List Bool) : ∀ u ∈ l.map Value.bool, u.oneCell' = true := by
  intro u hu
  obtain ⟨b, _, rfl⟩ := List.mem_map.1 hu
  rfl

set_option maxRecDepth 100000 in
set_option maxHeartbeats 1000000 in
theorem count_law (A A' : Option Addr) (n m c d : Nat) (xs ys : List Bool) (w : World) (h : Reads w w.heap.size 1 A n (xs.map Value.bool)) (h' : Reads w w.heap.size 1 A' m (ys.map Value.bool)) (hn : n ≤ maxLen) (hm : m ≤ maxLen) :
    Calls Try.prog 6 #[.slice A n c, .slice A' m d] w fun e w' => e = .returned (.bool true) ∧ Below w.heap.size w w' := by
  have hn' := hn; have hm' := hm
  unfold maxLen at hn hm
  have hxl : xs.length = n := by simpa using h.1
  have hyl : ys.length = m := by simpa using h'.1
  obtain ⟨i0, hi, hz0, hz1, hz2⟩ := info_parts info_bool
  go_enter Try.func6, Try.ntmps6
  by_cases hn5 : n ≤ 500
  · have d1 : decide ((500 : Int) < (n : Int)) = false := by simp; omega
    by_cases hm5 : m ≤ 500
    · have d2 : decide ((500 : Int) < (m : Int)) = false := by simp; omega
      have HXL := Lib.hid hxl; have HYL := Lib.hid hyl
      clear hxl hyl hn' hm'
      go_wp2_with fail
      refine (works_any _).mono ?_
      rintro e w1 ⟨rfl, hb1⟩
      have o1 := own_empty w1
      have hb2 : Below w.heap.size w (w1.alloc (.cells #[] 4)) := hb1.alloc hb1.size _
      have hr2 := h.below hb2
      have hzz : (w1.alloc (.cells #[] 4)).heap.size = w1.heap.size + 1 := by simp
      have hs1 := hb1.size
      have HB1 := Lib.hid hb1
      go_wp2_with (at_builtin; refine wpList_append_any _ rfl _ _ 22 rfl w1.heap.size 4 i0 (.bool false) 1 1 Try.underlying22 hi hz0 hz1 hz2 rfl (by decide) _ _ _ rfl o1 w.heap.size A n c (xs.map Value.bool) rfl hr2 (bools_one xs) (by simp only [maxLen]; omega) (by omega) (by omega) ?_; intro v3 w3 hown3 hgrow3 _; refine veiled ?_)
      refine ⟨?_⟩
      have hg3 : w1.grownBy w3 none := grown_self (only_alloc (World.grownBy.refl w1 none) _) hgrow3 (fun k hk => .inr (own_ge o1 hk))
      have hb3 : Below w.heap.size w w3 := Below.then_grown hb1 hg3
      have hs3 := hb3.size
      have hr3 := h'.below hb3
      have hb13 := hg3.size
      obtain ⟨A3, c3, rfl, _⟩ := own_slice hown3
      clear o1 hb2 hr2 hgrow3
      go_wp2_with (at_builtin; refine wpList_append_any _ rfl _ _ 22 rfl w1.heap.size 4 i0 (.bool false) 1 1 Try.underlying22 hi hz0 hz1 hz2 rfl (by decide) _ _ _ rfl hown3 w.heap.size A' m d (ys.map Value.bool) rfl hr3 (bools_one ys) (by simp only [maxLen]; omega) (by omega) (by omega) ?_; intro v4 w4 hown4 hgrow4 _; refine veiled ?_)
      refine ⟨?_⟩
      have hb4 : Below w.heap.size w w4 := hb3.grown hgrow4 hs3 (fun k hk => by have := own_ge hown3 hk; omega)
      obtain ⟨A4, c4, rfl, hr4⟩ := own_slice hown4
      have R4 : CarR w4 w4.heap.size A4 (0 + n + m) ((xs ++ ys).map Value.bool) := ⟨Nat.le_refl _, by simpa using hr4⟩
      clear hown3 hown4 hgrow4 hr3 hb3 hg3 hr4
      simp only [Nat.zero_add] at R4 ⊢
      obtain ⟨N, hN⟩ : ∃ N, n + m = N := ⟨_, rfl⟩
      rw [hN] at R4 ⊢
      have hNN : N ≤ 1000 := by omega
      have hcs : cntB (xs ++ ys) = cntB xs + cntB ys := cntB_append xs ys
      have hle := cntB_le (xs ++ ys)
      rw [List.length_append, HXL.out, HYL.out, hN] at hle
      obtain ⟨a, ha⟩ : ∃ a, cntB xs = a := ⟨_, rfl⟩
      obtain ⟨b, hb⟩ : ∃ a, cntB ys = a := ⟨_, rfl⟩
      obtain ⟨t, ht⟩ : ∃ a, cntB (xs ++ ys) = a := ⟨_, rfl⟩
      rw [ht] at hle
      rw [ha, hb, ht] at hcs
      have c1 := countB_any w4.heap.size A4 N c4 (xs ++ ys) w4 R4.reads (by omega)
      rw [ht] at c1
      have c2 := countB_any w.heap.size A n c xs w4 (h.below hb4) (by omega)
      rw [ha] at c2
      have c3' := countB_any w.heap.size A' m d ys w4 (h'.below hb4) (by omega)
      rw [hb] at c3'
      have c4' := pack_any w4.heap.size A4 N c4 (xs ++ ys) w4 (Nat.le_refl _) R4.reads (by omega)
      obtain ⟨pk, hpk⟩ : ∃ p : ByteArray, (⟨(packL (xs ++ ys)).toArray⟩ : ByteArray) = p := ⟨_, rfl⟩
      have hpks : pk.size = (N + 7) / 8 := by
        rw [← ba_len, ← hpk]
        show (packL (xs ++ ys)).length = _
        rw [packL_len, List.length_append, HXL.out, HYL.out, hN]
      rw [hpk] at c4'
      have p1 : (a : Int) + (b : Int) = (t : Int) := by omega
      have p2 : ((N : Int) + 7).tdiv 8 = (pk.size : Int) := by rw [Int.tdiv_eq_ediv_of_nonneg (by omega)]; omega
      have p2' : ((N : Int) + 7) / 8 = (pk.size : Int) := by omega
      have HC := Lib.hid hcs
      clear ha hb ht hcs hpk hN hpks
      go_wp2_with fail
      refine c1.mono ?_
      rintro e w' ⟨rfl, rfl⟩
      clear c1
      go_wp2_with fail
      refine c2.mono ?_
      rintro e w' ⟨rfl, rfl⟩
      go_wp2_with fail
      refine c3'.mono ?_
      rintro e w' ⟨rfl, rfl⟩
      go_wp2_with fail
      refine c4'.mono ?_
      rintro e w5 ⟨rfl, hg5⟩
      have hb5 := Below.then_grown hb4 hg5
      go_wp2_with fail
      go_ret
      exact ⟨by simp, hb5⟩
    · have d2 : (500 : Int) < (m : Int) := by omega
      go_wp2_with fail
      refine (works_any _).mono ?_
      rintro e w1 ⟨rfl, hb1⟩
      go_wp2_with fail
      go_ret
      exact ⟨rfl, hb1⟩
  · have d1 : (500 : Int) < (n : Int) := by omega
    go_wp2_with fail
    refine (works_any _).mono ?_
    rintro e w1 ⟨rfl, hb1⟩
    go_wp2_with fail
    go_ret
    exact ⟨rfl, hb1⟩
end Go.Proofs.Ytdeeclmmfhppgaa
