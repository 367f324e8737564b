/- The laws of layer 17: what they answer. -/
import Derived.Test.YtdeeclmmfhppgaaBitsY
namespace Go.Proofs.Ytdeeclmmfhppgaa
open Go.RowKit Go.Shelf

theorem Below.then {w W W' : World} (h : Below w.heap.size w W) (k : Below W.heap.size W W') : Below w.heap.size w W' := h.trans (k.mono h.size)
theorem Below.then_grown {w W W' : World} (h : Below w.heap.size w W) (k : W.grownBy W' none) : Below w.heap.size w W' := Below.then h (below_of_grown k)

set_option maxRecDepth 100000 in
set_option maxHeartbeats 1000000 in
theorem packs_law (A A' : Option Addr) (n m c d : Nat) (xs : List Bool) (ys : List Int) (w : World) (h : Reads w w.heap.size 1 A n (xs.map Value.bool)) (h' : Reads w w.heap.size 1 A' m (ys.map (Value.int .u64))) (hn : n ≤ maxLen) (hm : m ≤ maxLen) (hwf : ∀ x ∈ ys, 0 ≤ x ∧ x ≤ 18446744073709551615) :
    Calls Try.prog 3 #[.slice A n c, .slice A' m d] w fun e w' => e = .returned (.bool true) ∧ Below w.heap.size w w' := by
  unfold maxLen at hn hm
  go_enter Try.func3, Try.ntmps3
  go_wp2_with fail
  refine (works_any _).mono ?_
  rintro e w1 ⟨rfl, hb1⟩
  by_cases hn5 : n ≤ 500
  · have d1 : decide ((500 : Int) < (n : Int)) = false := by simp; omega
    have d1' : decide (500 < n) = false := by simp; omega
    by_cases hm5 : m ≤ 500
    · have d2 : decide ((500 : Int) < (m : Int)) = false := by simp; omega
      have d2' : decide (500 < m) = false := by simp; omega
      have c1 := packR_any w.heap.size A n c xs w1 hb1.size (h.below hb1) (by omega)
      obtain ⟨pk, hpk⟩ : ∃ p : ByteArray, (⟨(packL xs).toArray⟩ : ByteArray) = p := ⟨_, rfl⟩
      obtain ⟨rk, hrk⟩ : ∃ p : ByteArray, (⟨(rowL ys).toArray⟩ : ByteArray) = p := ⟨_, rfl⟩
      rw [hpk] at c1
      go_wp2_with fail
      refine c1.mono ?_
      rintro e w2 ⟨rfl, hg⟩
      have hb2 := Below.then_grown hb1 hg
      clear c1 hg hb1
      go_wp2_with fail
      refine (countR_any w.heap.size A n c xs w2 (h.below hb2) (by omega)).mono ?_
      rintro e w' ⟨rfl, rfl⟩
      go_wp2_with fail
      refine (rowR_any w.heap.size A' m d ys w2 hb2.size (h'.below hb2) hwf (by omega)).mono ?_
      rintro e w3 ⟨rfl, hg⟩
      have hb3 := Below.then hb2 hg
      clear hg hb2
      rw [hrk]
      have c2 := pack_any w.heap.size A n c xs w3 hb3.size (h.below hb3) (by omega)
      rw [hpk] at c2
      go_wp2_with fail
      refine c2.mono ?_
      rintro e w4 ⟨rfl, hg⟩
      have hb4 := Below.then_grown hb3 hg
      clear c2 hg hb3
      go_wp2_with fail
      refine (countB_any w.heap.size A n c xs w4 (h.below hb4) (by omega)).mono ?_
      rintro e w' ⟨rfl, rfl⟩
      have c3 := row_any w.heap.size A' m d ys w4 hb4.size (h'.below hb4) hwf (by omega)
      rw [hrk] at c3
      go_wp2_with fail
      refine c3.mono ?_
      rintro e w5 ⟨rfl, hg⟩
      have hb5 := Below.then hb4 hg
      clear c3 hg hb4
      go_wp2_with fail
      go_ret
      exact ⟨by simp, hb5⟩
    · have d2 : (500 : Int) < (m : Int) := by omega
      go_wp2_with fail
      go_ret
      exact ⟨rfl, hb1⟩
  · have d1 : (500 : Int) < (n : Int) := by omega
    go_wp2_with fail
    go_ret
    exact ⟨rfl, hb1⟩

set_option maxRecDepth 100000 in
set_option maxHeartbeats 1000000 in
theorem back_law (A A' : Option Addr) (n m c d : Nat) (xs : List Bool) (ys : List Int) (p q : ByteArray) (w : World) (h : Reads w w.heap.size 1 A n (xs.map Value.bool)) (h' : Reads w w.heap.size 1 A' m (ys.map (Value.int .u64))) (hn : n ≤ maxLen) (hm : m ≤ maxLen) (hwf : ∀ x ∈ ys, 0 ≤ x ∧ x ≤ 18446744073709551615) (hp : p.size ≤ 9223372036854775807) (hq : q.size ≤ 9223372036854775807) :
    Calls Try.prog 4 #[.slice A n c, .slice A' m d, .string p, .string q] w fun e w' => e = .returned (.bool true) ∧ Below w.heap.size w w' := by
  unfold maxLen at hn hm
  have hxl : xs.length = n := by simpa using h.1
  have hyl : ys.length = m := by simpa using h'.1
  go_enter Try.func4, Try.ntmps4
  by_cases hsmall : n ≤ 500 ∧ m ≤ 500 ∧ p.size ≤ 500 ∧ q.size ≤ 500
  · obtain ⟨hn5, hm5, hp5, hq5⟩ := hsmall
    have d1 : decide ((500 : Int) < (n : Int)) = false := by simp; omega
    have d2 : decide ((500 : Int) < (m : Int)) = false := by simp; omega
    have d3 : decide ((500 : Int) < (p.size : Int)) = false := by simp; omega
    have d4 : decide ((500 : Int) < (q.size : Int)) = false := by simp; omega
    obtain ⟨u1, u2⟩ := unpack_pack xs (by omega)
    rw [hxl] at u1 u2
    obtain ⟨pk, hpk⟩ : ∃ p : ByteArray, (⟨(packL xs).toArray⟩ : ByteArray) = p := ⟨_, rfl⟩
    obtain ⟨rk, hrk⟩ : ∃ p : ByteArray, (⟨(rowL ys).toArray⟩ : ByteArray) = p := ⟨_, rfl⟩
    have hpkl : pk.data.toList = packL xs := by rw [← hpk]
    have hrkl : rk.data.toList = rowL ys := by rw [← hrk]
    have hpks : pk.size ≤ 1000000 := by rw [← ba_len, hpkl, packL_len]; omega
    have hrks : rk.size ≤ 5000 := by rw [← ba_len, hrkl]; have := rowL_len ys; omega
    obtain ⟨t1, ht1⟩ : ∃ t : ByteArray, p ++ rk = t := ⟨_, rfl⟩
    obtain ⟨t2, ht2⟩ : ∃ t : ByteArray, t1 ++ q = t := ⟨_, rfl⟩
    have ht1s : t1.size = p.size + rk.size := by rw [← ba_len, ← ht1, ba_toList, List.length_append, ba_len, ba_len]
    have ht2l : t2.data.toList = p.data.toList ++ rowL ys ++ q.data.toList := by rw [← ht2, ba_toList, ← ht1, ba_toList, hrkl]
    have ht2s : t2.size ≤ 1000000 := by rw [← ba_len, ← ht2, ba_toList, List.length_append, ba_len, ba_len]; omega
    have hur := unrowS_back p.data.toList q.data.toList ys hwf (by omega)
    rw [← ht2l, ba_len, hyl] at hur
    have hrkz : (rowL ys).length = rk.size := by rw [← hrkl, ba_len]
    rw [hrkz] at hur
    have ht1s' : t1.size ≤ 5500 := by omega
    have HPK := Lib.hid hpkl; have HXL := Lib.hid hxl; have HYL := Lib.hid hyl; have HUR := Lib.hid hur; have HU1 := Lib.hid u1; have HU2 := Lib.hid u2
    clear hpkl hxl hyl hur u1 u2 hrkl ht1s ht2l hrkz
    go_wp2_with fail
    refine (works_any _).mono ?_
    rintro e w1 ⟨rfl, hb1⟩
    have c1 := pack_any w.heap.size A n c xs w1 hb1.size (h.below hb1) (by omega)
    rw [hpk] at c1
    clear hpk
    go_wp2_with fail
    refine c1.mono ?_
    rintro e w2 ⟨rfl, hg⟩
    have hb2 := Below.then_grown hb1 hg
    clear c1 hg hb1
    have c2 := unpack_any pk (n : Int) hpks w2
    rw [HPK.out, HU1.out, HU2.out] at c2
    go_wp2_with fail
    refine c2.mono ?_
    rintro e w3 ⟨v3, rfl, hown, hg⟩
    obtain ⟨A3, c3, rfl, hr3⟩ := own_slice hown
    have hb3 := Below.then hb2 hg
    have R3 : CarR w3 w3.heap.size A3 xs.length (xs.map Value.bool) := ⟨Nat.le_refl _, hr3⟩
    clear c2 hg hb2 hown hr3
    have c4 := row_any w.heap.size A' m d ys w3 hb3.size (h'.below hb3) hwf (by omega)
    rw [hrk] at c4
    clear hrk
    go_wp2_with fail
    refine c4.mono ?_
    rintro e w4 ⟨rfl, hg⟩
    have hb4 := Below.then hb3 hg
    have R4 := R3.step hg
    clear c4 hg hb3 R3
    have c5 := unrow_any t2 (p.size : Int) (m : Int) (by omega) w4
    rw [HUR.out] at c5
    go_wp2_with fail
    refine c5.mono ?_
    rintro e w5 ⟨v5, rfl, hown, hg⟩
    obtain ⟨A5, c6, rfl, hr5⟩ := own_slice hown
    have hb5 := Below.then hb4 hg
    have R5 := R4.step hg
    have S5 : CarR w5 w5.heap.size A5 ys.length (ys.map (Value.int .u64)) := ⟨Nat.le_refl _, hr5⟩
    clear c5 hg hb4 R4 hown hr5
    go_wp2_with fail
    refine (bools_any _ _ A3 A xs.length n c3 c xs xs w5 R5.reads (h.below hb5) (by have := HXL.out; omega) (by omega)).mono ?_
    rintro e w6 ⟨rfl, hg⟩
    have hb6 := Below.then hb5 hg
    have S6 := S5.step hg
    clear hg hb5 R5 S5
    simp only [decide_true]
    go_wp2_with fail
    refine (numbers_any _ _ A5 A' ys.length m c6 d ys ys w6 S6.reads (h'.below hb6) (by have := HYL.out; omega) (by omega)).mono ?_
    rintro e w7 ⟨rfl, hg⟩
    have hb7 := Below.then hb6 hg
    clear hg hb6 S6
    simp only [decide_true]
    go_wp2_with fail
    go_ret
    exact ⟨by simp, hb7⟩
  · go_wp2_with fail
    refine (works_any _).mono ?_
    rintro e w1 ⟨rfl, hb1⟩
    by_cases hn5 : n ≤ 500
    · have d1 : decide ((500 : Int) < (n : Int)) = false := by simp; omega
      by_cases hm5 : m ≤ 500
      · have d2 : decide ((500 : Int) < (m : Int)) = false := by simp; omega
        by_cases hp5 : p.size ≤ 500
        · have d3 : decide ((500 : Int) < (p.size : Int)) = false := by simp; omega
          have d4 : (500 : Int) < (q.size : Int) := by omega
          clear hsmall
          go_wp2_with fail
          go_ret
          exact ⟨rfl, hb1⟩
        · have d3 : (500 : Int) < (p.size : Int) := by omega
          clear hsmall
          go_wp2_with fail
          go_ret
          exact ⟨rfl, hb1⟩
      · have d2 : (500 : Int) < (m : Int) := by omega
        clear hsmall
        go_wp2_with fail
        go_ret
        exact ⟨rfl, hb1⟩
    · have d1 : (500 : Int) < (n : Int) := by omega
      clear hsmall
      go_wp2_with fail
      go_ret
      exact ⟨rfl, hb1⟩
end Go.Proofs.Ytdeeclmmfhppgaa
