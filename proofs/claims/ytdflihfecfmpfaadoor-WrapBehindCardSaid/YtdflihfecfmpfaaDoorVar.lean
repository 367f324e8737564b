/- Digits by 128: both Vars, what they answer. -/
import Derived.Test.YtdflihfecfmpfaaDoorBytes
namespace Go.Proofs.YtdflihfecfmpfaaDoor
open Go.RowKit Go.Shelf

/-- digits by 128, the lowest ones first -/
def varF : Nat → Nat → List UInt8
  | 0, _ => []
  | f + 1, n => if n < 128 then [UInt8.ofNat n] else UInt8.ofNat (n % 128 + 128) :: varF f (n / 128)
def varL (n : Nat) : List UInt8 := varF 10 n
theorem varF_len : ∀ f n, (varF f n).length ≤ f
  | 0, _ => by simp [varF]
  | f + 1, n => by
    unfold varF
    split
    · simp
    · have := varF_len f (n / 128); simp; omega

theorem or128 : ∀ m : Fin 256, bits .or .u8 ((m.val : Nat) : Int) 128 = ((UInt8.ofNat (m.val % 128 + 128)).toNat : Int) := by decide +kernel

set_option maxRecDepth 100000 in
set_option maxHeartbeats 1000000 in
theorem var_any (n : Nat) (hn : n < 18446744073709551616) (w : World) :
    Calls Tryd.prog 20 #[.int .u64 (n : Int)] w fun e w' => e = .returned (.string ⟨(varL n).toArray⟩) ∧ w.grownBy w' none := by
  obtain ⟨i0, z0, hi, hz0, hz1, hz2, hz3⟩ := byte_info
  obtain ⟨L, hL⟩ : ∃ l, varL n = l := ⟨_, rfl⟩
  rw [hL]
  have HL := Lib.hid hL
  clear hL
  go_enter Tryd.func20, Tryd.ntmps20
  go_wp2_with fail
  go_loopw [0, 3] (fun x v wr => ∃ (m f : Nat) (pre : List UInt8), x = .int .u64 (m : Int) ∧ wr.ownsRow w.heap.size 5 1 v pre.length (u8s pre) ∧ w.grownBy wr none ∧ Hid (pre ++ varF (f + 1) m = L) ∧ Hid (m < 128 ^ (f + 1)) ∧ pre.length + f ≤ 9 ∧ m ≤ 18446744073709551615) (fun x _ _ => (intOf x).toNat)
  case atStart => exact ⟨n, 9, [], rfl, World.ownsRow_nil _ _ _ _, World.grownBy.refl _ _, HL.out, by show n < 128 ^ 10; omega, by simp, by omega⟩
  case round =>
    obtain ⟨m, f, pre, rfl, hown, hg, h1, h2, h3, h4⟩ := hrel
    have hsz := hg.size
    obtain ⟨A, cc, rfl, _⟩ := own_slice hown
    by_cases hlt : m < 128
    · obtain ⟨c, hc⟩ : ∃ c, UInt8.ofNat m = c := ⟨_, rfl⟩
      have p1 : (m : Int) = (c.toNat : Int) := by rw [← hc]; simp; omega
      have HP1 := Lib.hid p1
      have hfin : L = pre ++ [c] := by
        rw [← h1.out, varF, if_pos hlt, hc]
      have HF := Lib.hid hfin
      clear hc hfin h1 h2 p1
      go_wp2_with (at_builtin; refine wpList_append_own _ rfl _ _ 38 rfl w.heap.size 5 i0 z0 1 1 Tryd.underlying38 hi hz0 hz1 hz2 hz3 (by decide) _ _ _ rfl (hown.alloc _) ⟨wr.heap.size, 0, none⟩ 1 1 [.int .u8 (m : Int)] rfl rfl (cell_one_new _ _ _) (by simp [Value.oneCell']) (by simp only [maxLen]; omega) (by omega) (by simp; omega) ?_; intro v' w4 hown4 hgrow _)
      have hown5 : w4.ownsRow w.heap.size 5 1 v' (pre.length + 1) (u8s (pre ++ [c])) := by rw [HP1.out] at hown4; simpa [u8s] using hown4
      have hcv := conv_own hown5
      obtain ⟨g', cap', rfl⟩ := ownsRow_succ hown5
      clear hown4 hown5
      have hg4 : w.grownBy w4 none := grown_self (only_alloc hg _) hgrow (fun j hj => .inr (own_ge hown hj))
      clear hgrow
      go_wp2_with fail
      rw [hcv]
      simp only [Result.andThen]
      rw [Oper.upon_value]
      go_wp2_with fail
      go_ret
      exact ⟨by rw [HF.out]; rfl, hg4⟩
    · obtain ⟨c, hc⟩ : ∃ c, UInt8.ofNat (m % 128 + 128) = c := ⟨_, rfl⟩
      obtain ⟨q, hq⟩ : ∃ q, m % 256 = q := ⟨_, rfl⟩
      have p1 : (m : Int) % 256 = (q : Int) := by omega
      have p2 : bits .or .u8 (q : Int) 128 = (c.toNat : Int) := by
        have := or128 ⟨q, by omega⟩
        rw [← hc, show m % 128 = q % 128 by omega]
        exact this
      have HC := Lib.hid hc
      clear hc hq
      go_wp2_with (at_builtin; refine wpList_append_own _ rfl _ _ 38 rfl w.heap.size 5 i0 z0 1 1 Tryd.underlying38 hi hz0 hz1 hz2 hz3 (by decide) _ _ _ rfl (hown.alloc _) ⟨wr.heap.size, 0, none⟩ 1 1 [.int .u8 (c.toNat : Int)] rfl rfl (cell_one_new _ _ _) (by simp [Value.oneCell']) (by simp only [maxLen]; omega) (by omega) (by simp; omega) ?_; intro v' w4 hown4 hgrow _)
      obtain ⟨g', cap', rfl⟩ := ownsRow_succ hown4
      have hown5 : w4.ownsRow w.heap.size 5 1 (.slice (some ⟨g', 0, none⟩) (pre ++ [c]).length cap') (pre ++ [c]).length (u8s (pre ++ [c])) := by simpa [u8s] using hown4
      have hg4 : w.grownBy w4 none := grown_self (only_alloc hg _) hgrow (fun j hj => .inr (own_ge hown hj))
      have hf1 : 1 ≤ f := by
        rcases Nat.eq_zero_or_pos f with h0 | h0
        · have := h2.out; rw [h0] at this; omega
        · exact h0
      obtain ⟨f', rfl⟩ : ∃ f', f = f' + 1 := ⟨f - 1, by omega⟩
      have hst : (pre ++ [c]) ++ varF (f' + 1) (m / 128) = L := by
        rw [← h1.out]
        conv => rhs; rw [varF, if_neg hlt, HC.out]
        simp
      have hpw : m / 128 < 128 ^ (f' + 1) := by
        have := h2.out
        rw [Nat.pow_succ] at this
        exact Nat.div_lt_of_lt_mul (by rw [Nat.mul_comm]; exact this)
      have HS := Lib.hid hst; have HP := Lib.hid hpw
      clear hst hpw hown4 hgrow p1 p2 h1 h2 hown
      go_wp2_with fail
      refine ⟨⟨m / 128, f', pre ++ [c], by simp, by simpa using hown5, hg4, HS.out, HP.out, by simp; omega, by omega⟩, by simp [intOf]; omega⟩
set_option maxRecDepth 100000 in
set_option maxHeartbeats 1000000 in
theorem varR_any (n : Nat) (hn : n < 18446744073709551616) (w : World) :
    Calls Tryd.prog 23 #[.int .u64 (n : Int)] w fun e w' => e = .returned (.string ⟨(varL n).toArray⟩) ∧ w.grownBy w' none := by
  obtain ⟨i0, z0, hi, hz0, hz1, hz2, hz3⟩ := byte_info
  obtain ⟨L, hL⟩ : ∃ l, varL n = l := ⟨_, rfl⟩
  rw [hL]
  have HL := Lib.hid hL
  clear hL
  go_enter Tryd.func23, Tryd.ntmps23
  go_wp2_with fail
  go_loopw [0, 3] (fun x v wr => ∃ (m f : Nat) (pre : List UInt8), x = .int .u64 (m : Int) ∧ wr.ownsRow w.heap.size 5 1 v pre.length (u8s pre) ∧ w.grownBy wr none ∧ Hid (pre ++ varF (f + 1) m = L) ∧ Hid (m < 128 ^ (f + 1)) ∧ pre.length + f ≤ 9 ∧ m ≤ 18446744073709551615) (fun x _ _ => (intOf x).toNat)
  case atStart => exact ⟨n, 9, [], rfl, World.ownsRow_nil _ _ _ _, World.grownBy.refl _ _, HL.out, by show n < 128 ^ 10; omega, by simp, by omega⟩
  case round =>
    obtain ⟨m, f, pre, rfl, hown, hg, h1, h2, h3, h4⟩ := hrel
    have hsz := hg.size
    obtain ⟨A, cc, rfl, _⟩ := own_slice hown
    by_cases hlt : m < 128
    · obtain ⟨c, hc⟩ : ∃ c, UInt8.ofNat m = c := ⟨_, rfl⟩
      have p1 : (m : Int) = (c.toNat : Int) := by rw [← hc]; simp; omega
      have HP1 := Lib.hid p1
      have hfin : L = pre ++ [c] := by
        rw [← h1.out, varF, if_pos hlt, hc]
      have HF := Lib.hid hfin
      clear hc hfin h1 h2 p1
      go_wp2_with (at_builtin; refine wpList_append_own _ rfl _ _ 38 rfl w.heap.size 5 i0 z0 1 1 Tryd.underlying38 hi hz0 hz1 hz2 hz3 (by decide) _ _ _ rfl (hown.alloc _) ⟨wr.heap.size, 0, none⟩ 1 1 [.int .u8 (m : Int)] rfl rfl (cell_one_new _ _ _) (by simp [Value.oneCell']) (by simp only [maxLen]; omega) (by omega) (by simp; omega) ?_; intro v' w4 hown4 hgrow _)
      have hown5 : w4.ownsRow w.heap.size 5 1 v' (pre.length + 1) (u8s (pre ++ [c])) := by rw [HP1.out] at hown4; simpa [u8s] using hown4
      have hcv := conv_own hown5
      obtain ⟨g', cap', rfl⟩ := ownsRow_succ hown5
      clear hown4 hown5
      have hg4 : w.grownBy w4 none := grown_self (only_alloc hg _) hgrow (fun j hj => .inr (own_ge hown hj))
      clear hgrow
      go_wp2_with fail
      rw [hcv]
      simp only [Result.andThen]
      rw [Oper.upon_value]
      go_wp2_with fail
      go_ret
      exact ⟨by rw [HF.out]; rfl, hg4⟩
    · obtain ⟨c, hc⟩ : ∃ c, UInt8.ofNat (m % 128 + 128) = c := ⟨_, rfl⟩
      obtain ⟨q, hq⟩ : ∃ q, m % 128 = q := ⟨_, rfl⟩
      have p1 : (m : Int) % 128 = (q : Int) := by omega
      have p1' : (m : Int).tmod 128 = (q : Int) := by rw [Int.tmod_eq_emod_of_nonneg (by omega)]; omega
      have p2 : (q : Int) + 128 = (c.toNat : Int) := by
        rw [← hc, hq]; simp; omega
      have p3 : (c.toNat : Int) % 256 = (c.toNat : Int) := by have := c.toNat_lt; omega
      have HC := Lib.hid hc
      clear hc hq
      go_wp2_with (at_builtin; refine wpList_append_own _ rfl _ _ 38 rfl w.heap.size 5 i0 z0 1 1 Tryd.underlying38 hi hz0 hz1 hz2 hz3 (by decide) _ _ _ rfl (hown.alloc _) ⟨wr.heap.size, 0, none⟩ 1 1 [.int .u8 (c.toNat : Int)] rfl rfl (cell_one_new _ _ _) (by simp [Value.oneCell']) (by simp only [maxLen]; omega) (by omega) (by simp; omega) ?_; intro v' w4 hown4 hgrow _)
      obtain ⟨g', cap', rfl⟩ := ownsRow_succ hown4
      have hown5 : w4.ownsRow w.heap.size 5 1 (.slice (some ⟨g', 0, none⟩) (pre ++ [c]).length cap') (pre ++ [c]).length (u8s (pre ++ [c])) := by simpa [u8s] using hown4
      have hg4 : w.grownBy w4 none := grown_self (only_alloc hg _) hgrow (fun j hj => .inr (own_ge hown hj))
      have hf1 : 1 ≤ f := by
        rcases Nat.eq_zero_or_pos f with h0 | h0
        · have := h2.out; rw [h0] at this; omega
        · exact h0
      obtain ⟨f', rfl⟩ : ∃ f', f = f' + 1 := ⟨f - 1, by omega⟩
      have hst : (pre ++ [c]) ++ varF (f' + 1) (m / 128) = L := by
        rw [← h1.out]
        conv => rhs; rw [varF, if_neg hlt, HC.out]
        simp
      have hpw : m / 128 < 128 ^ (f' + 1) := by
        have := h2.out
        rw [Nat.pow_succ] at this
        exact Nat.div_lt_of_lt_mul (by rw [Nat.mul_comm]; exact this)
      have HS := Lib.hid hst; have HP := Lib.hid hpw
      clear hst hpw hown4 hgrow p1 p1' p2 p3 h1 h2 hown
      go_wp2_with fail
      refine ⟨⟨m / 128, f', pre ++ [c], by simp, by simpa using hown5, hg4, HS.out, HP.out, by simp; omega, by omega⟩, by simp [intOf]; omega⟩
end Go.Proofs.YtdflihfecfmpfaaDoor
