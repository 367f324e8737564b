/- Numbers as bytes: plain laws. -/
import Derived.Test.YtdflihfecfmpfaaDoorTxt
namespace Go.Proofs.YtdflihfecfmpfaaDoor
open Go.RowKit
set_option linter.unusedVariables false
set_option linter.unusedSimpArgs false

/-- a number's bytes, so many, the highest ones first -/
def beFix : Nat → Nat → List UInt8
  | 0, _ => []
  | k + 1, n => beFix k (n / 256) ++ [UInt8.ofNat (n % 256)]
def trimC (c : UInt8) (l : List UInt8) : List UInt8 := l.dropWhile (· == c)
abbrev trimL (l : List UInt8) : List UInt8 := trimC 0 l
/-- no more than it needs -/
def beN (n : Nat) : List UInt8 := trimL (beFix 32 n)
theorem beFix_len (k n : Nat) : (beFix k n).length = k := by
  induction k generalizing n with
  | zero => rfl
  | succ k ih => simp [beFix, ih]
theorem beFix_get (k n i : Nat) (h : i < k) : (beFix k n)[i]? = some (UInt8.ofNat (n / 256 ^ (k - 1 - i) % 256)) := by
  induction k generalizing n with
  | zero => omega
  | succ k ih =>
    unfold beFix
    by_cases hi : i < k
    · rw [List.getElem?_append_left (by rw [beFix_len]; exact hi), ih _ hi, Nat.div_div_eq_div_mul, show k + 1 - 1 - i = (k - 1 - i) + 1 by omega, Nat.pow_succ, Nat.mul_comm]
    · rw [List.getElem?_append_right (by rw [beFix_len]; omega), beFix_len, show i - k = 0 by omega, show k + 1 - 1 - i = 0 by omega]
      simp
theorem beFix_zero (k : Nat) : beFix k 0 = List.replicate k 0 := by
  induction k with
  | zero => rfl
  | succ k ih => rw [beFix, ih, List.replicate_succ']; rfl
theorem trimC_snoc (c : UInt8) (l : List UInt8) (x : UInt8) : trimC c (l ++ [x]) = if trimC c l = [] then (if x == c then [] else [x]) else trimC c l ++ [x] := by
  unfold trimC
  induction l with
  | nil => by_cases h : (x == c) = true <;> simp [List.dropWhile, h]
  | cons a l ih =>
    by_cases h : (a == c) = true
    · simp only [List.cons_append, List.dropWhile_cons, h, if_true]; exact ih
    · simp [List.dropWhile_cons, h]
/-- the numbers' bytes by how many there are -/
theorem trim_fix (k n : Nat) (h : n < 256 ^ k) : trimL (beFix (k + 1) n) = trimL (beFix k n) := by
  induction k generalizing n with
  | zero =>
    obtain rfl : n = 0 := by simpa using h
    decide
  | succ k ih =>
    rw [show trimL (beFix (k + 1 + 1) n) = trimC 0 (beFix (k + 1) (n / 256) ++ [UInt8.ofNat (n % 256)]) from rfl, show trimL (beFix (k + 1) n) = trimC 0 (beFix k (n / 256) ++ [UInt8.ofNat (n % 256)]) from rfl]
    rw [trimC_snoc, trimC_snoc]
    have := ih (n / 256) (by rw [Nat.pow_succ] at h; exact Nat.div_lt_of_lt_mul (by rw [Nat.mul_comm]; exact h))
    have e : trimC 0 (beFix (k + 1) (n / 256)) = trimC 0 (beFix k (n / 256)) := this
    rw [e]
theorem beN_fix (k n : Nat) (hk : k ≤ 32) (h : n < 256 ^ k) : beN n = trimL (beFix k n) := by
  obtain ⟨d, hd⟩ : ∃ d, 32 = k + d := ⟨32 - k, by omega⟩
  unfold beN
  rw [hd]
  clear hd hk
  induction d with
  | zero => rfl
  | succ d ih =>
    rw [← Nat.add_assoc, trim_fix (k + d) n (Nat.lt_of_lt_of_le h (Nat.pow_le_pow_right (by omega) (by omega)))]
    exact ih
theorem beN_zero : beN 0 = [] := by rw [beN_fix 0 0 (by omega) (by decide)]; rfl
theorem beN_small (n : Nat) (h0 : 0 < n) (h : n < 256) : beN n = [UInt8.ofNat n] := by
  rw [beN_fix 1 n (by omega) (by simpa using h)]
  show trimC 0 ([] ++ [UInt8.ofNat (n % 256)]) = _
  rw [trimC_snoc, if_pos (by rfl), Nat.mod_eq_of_lt h, if_neg]
  intro e
  have := congrArg UInt8.toNat (beq_iff_eq.1 e)
  simp [Nat.mod_eq_of_lt h] at this
  omega
theorem beN_step (n : Nat) (h0 : 256 ≤ n) (h : n < 256 ^ 32) : beN n = beN (n / 256) ++ [UInt8.ofNat (n % 256)] := by
  have h2 : n / 256 < 256 ^ 31 := Nat.div_lt_of_lt_mul (by rw [Nat.mul_comm, ← Nat.pow_succ]; exact h)
  rw [beN_fix 31 (n / 256) (by omega) h2]
  unfold beN
  rw [beFix]
  show trimC 0 _ = trimC 0 _ ++ _
  rw [trimC_snoc, if_neg]
  intro e
  have e' : beN (n / 256) = [] := by rw [beN_fix 31 (n / 256) (by omega) h2]; exact e
  clear e
  have key : ∀ k m : Nat, 0 < m → m < 256 ^ k → trimL (beFix k m) ≠ [] := by
    intro k
    induction k with
    | zero => intro m h1 h2; simp at h2; omega
    | succ k ih =>
      intro m h1 h2 e
      rw [beFix] at e
      have e : trimC 0 _ = [] := e
      rw [trimC_snoc] at e
      split at e
      · rename_i g
        split at e
        · rename_i g2
          have g3 : m % 256 = 0 := by
            have := congrArg UInt8.toNat (beq_iff_eq.1 g2)
            simpa using this
          exact ih (m / 256) (by omega) (by rw [Nat.pow_succ] at h2; exact Nat.div_lt_of_lt_mul (by rw [Nat.mul_comm]; exact h2)) g
        · cases e
      · simp at e
  rw [beN_fix 31 (n / 256) (by omega) h2] at e'
  exact key 31 (n / 256) (by omega) h2 e'
theorem beN_two (n : Nat) (h0 : 256 ≤ n) (h : n < 65536) : beN n = [UInt8.ofNat (n / 256), UInt8.ofNat (n % 256)] := by
  have : (65536 : Nat) ≤ 256 ^ 32 := by decide
  rw [beN_step n h0 (by omega), beN_small (n / 256) (by omega) (by omega)]
  rfl
theorem beN_three (n : Nat) (h0 : 65536 ≤ n) (h : n < 16777216) : beN n = [UInt8.ofNat (n / 65536), UInt8.ofNat (n / 256 % 256), UInt8.ofNat (n % 256)] := by
  have : (16777216 : Nat) ≤ 256 ^ 32 := by decide
  rw [beN_step n (by omega) (by omega), beN_two (n / 256) (by omega) (by omega), Nat.div_div_eq_div_mul]
  rfl

/-- a word's number -/
def wordN (a0 a1 a2 a3 : Nat) : Nat := a0 + a1 * 18446744073709551616 + a2 * 340282366920938463463374607431768211456 + a3 * 6277101735386680763835789423207666416102355444464034512896
def fixAt (a : List Nat) (j : Nat) : UInt8 := UInt8.ofNat (a.getD (j / 8) 0 / 2 ^ (j % 8 * 8) % 256)
def fixL (a : List Nat) : List UInt8 := (List.range 32).map fun i => fixAt a (31 - i)
theorem div_low (x R r : Nat) (hr : r < 8) : (x + 18446744073709551616 * R) / 256 ^ r % 256 = x / 2 ^ (r * 8) % 256 := by
  have h : r = 0 ∨ r = 1 ∨ r = 2 ∨ r = 3 ∨ r = 4 ∨ r = 5 ∨ r = 6 ∨ r = 7 := by omega
  rcases h with rfl | rfl | rfl | rfl | rfl | rfl | rfl | rfl <;> simp only [Nat.reducePow, Nat.reduceMul] <;> omega
theorem word_digit (a0 a1 a2 a3 j : Nat) (h0 : a0 < 18446744073709551616) (h1 : a1 < 18446744073709551616) (h2 : a2 < 18446744073709551616) (h3 : a3 < 18446744073709551616) (hj : j < 32) :
    wordN a0 a1 a2 a3 / 256 ^ j % 256 = [a0, a1, a2, a3].getD (j / 8) 0 / 2 ^ (j % 8 * 8) % 256 := by
  have e : (256 : Nat) ^ j = 256 ^ (8 * (j / 8)) * 256 ^ (j % 8) := by rw [← Nat.pow_add]; congr 1; omega
  rw [e, ← Nat.div_div_eq_div_mul]
  have hq : j / 8 = 0 ∨ j / 8 = 1 ∨ j / 8 = 2 ∨ j / 8 = 3 := by omega
  have hr : j % 8 < 8 := by omega
  generalize j % 8 = r at *
  unfold wordN
  rcases hq with hq | hq | hq | hq <;> rw [hq]
  · simp only [Nat.mul_zero, Nat.pow_zero, Nat.div_one]
    show _ = a0 / 2 ^ (r * 8) % 256
    rw [← div_low a0 (a1 + a2 * 18446744073709551616 + a3 * 340282366920938463463374607431768211456) r hr]
    congr 2
    omega
  · rw [show (a0 + a1 * 18446744073709551616 + a2 * 340282366920938463463374607431768211456 + a3 * 6277101735386680763835789423207666416102355444464034512896) / 256 ^ (8 * 1) = a1 + 18446744073709551616 * (a2 + a3 * 18446744073709551616) by simp only [Nat.reduceMul, Nat.reducePow]; omega, div_low _ _ r hr]
    rfl
  · rw [show (a0 + a1 * 18446744073709551616 + a2 * 340282366920938463463374607431768211456 + a3 * 6277101735386680763835789423207666416102355444464034512896) / 256 ^ (8 * 2) = a2 + 18446744073709551616 * a3 by simp only [Nat.reduceMul, Nat.reducePow]; omega, div_low _ _ r hr]
    rfl
  · rw [show (a0 + a1 * 18446744073709551616 + a2 * 340282366920938463463374607431768211456 + a3 * 6277101735386680763835789423207666416102355444464034512896) / 256 ^ (8 * 3) = a3 + 18446744073709551616 * 0 by simp only [Nat.reduceMul, Nat.reducePow]; omega, div_low _ _ r hr]
    rfl
theorem fixL_be (a0 a1 a2 a3 : Nat) (h0 : a0 < 18446744073709551616) (h1 : a1 < 18446744073709551616) (h2 : a2 < 18446744073709551616) (h3 : a3 < 18446744073709551616) : fixL [a0, a1, a2, a3] = beFix 32 (wordN a0 a1 a2 a3) := by
  apply List.ext_getElem?
  intro i
  by_cases hi : i < 32
  · rw [beFix_get _ _ _ hi, word_digit a0 a1 a2 a3 _ h0 h1 h2 h3 (by omega)]
    unfold fixL
    rw [List.getElem?_map, List.getElem?_range hi]
    rfl
  · rw [List.getElem?_eq_none (by simp [fixL]; omega), List.getElem?_eq_none (by rw [beFix_len]; omega)]

/-- what stands after so many rounds -/
def outF (a : List Nat) (m : Nat) : List UInt8 := (List.range 32).map fun i => if 31 - i < m then fixAt a (31 - i) else 0
theorem outF_len (a : List Nat) (m : Nat) : (outF a m).length = 32 := by simp [outF]
theorem outF_zero (a : List Nat) : outF a 0 = List.replicate 32 0 := by
  unfold outF
  simp
  rfl
theorem outF_all (a : List Nat) : outF a 32 = fixL a := by
  unfold outF fixL
  apply List.map_congr_left
  intro i hi
  rw [if_pos (by omega)]
theorem outF_succ (a : List Nat) (m : Nat) (hm : m < 32) : outF a (m + 1) = (outF a m).set (31 - m) (fixAt a m) := by
  unfold outF
  apply List.ext_getElem?
  intro i
  rw [List.getElem?_set]
  by_cases hi : i < 32
  · rw [List.getElem?_map, List.getElem?_range hi]
    by_cases h : 31 - m = i
    · rw [if_pos h, if_pos (by simp; omega)]
      simp only [Option.map_some]
      rw [if_pos (by omega), show 31 - i = m by omega]
    · rw [if_neg h, List.getElem?_map, List.getElem?_range hi]
      simp only [Option.map_some]
      congr 1
      by_cases h2 : 31 - i < m
      · rw [if_pos h2, if_pos (by omega)]
      · rw [if_neg h2, if_neg (by omega)]
  · rw [List.getElem?_eq_none (by simp; omega)]
    split
    · rw [if_neg (by simp; omega)]
    · rw [List.getElem?_eq_none (by simp; omega)]
theorem fixL_len (a : List Nat) : (fixL a).length = 32 := by simp [fixL]
theorem trim_len (c : UInt8) (l : List UInt8) : (trimC c l).length ≤ l.length := List.Sublist.length_le (List.dropWhile_sublist _)
theorem beN_len (n : Nat) : (beN n).length ≤ 32 := by have := trim_len 0 (beFix 32 n); rw [beFix_len] at this; exact this
theorem beN_len8 (n : Nat) (h : n < 18446744073709551616) : (beN n).length ≤ 8 := by
  rw [beN_fix 8 n (by omega) (by simpa using h)]
  have := trim_len 0 (beFix 8 n); rw [beFix_len] at this; exact this
end Go.Proofs.YtdflihfecfmpfaaDoor
