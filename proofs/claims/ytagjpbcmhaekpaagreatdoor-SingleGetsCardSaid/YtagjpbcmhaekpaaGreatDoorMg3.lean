/- Merged: NumP, BeV, FldP, Wrd, WrdR, RlpA, RlpA1. -/
import Derived.Test.YtagjpbcmhaekpaaGreatDoorMg2
import Derived.Deep.DeepCutAuto
/- Numbers as bytes: plain laws. -/
namespace Go.Proofs.YtagjpbcmhaekpaaGreatDoor
open Go.RowKit
set_option linter.unusedVariables false
set_option linter.unusedSimpArgs false

/-- a number's bytes, so many, the highest ones first -/
def beFix : Nat → Nat → List UInt8
  | 0, _ => []
  | k + 1, n => beFix k (n / 256) ++ [UInt8.ofNat (n % 256)]
def trimC (c : UInt8) (l : List UInt8) : List UInt8 := l.dropWhile (· == c)
abbrev trimL (l : List UInt8) : List UInt8 := trimC 0 l
/-- no more than it needs -/
def beN (n : Nat) : List UInt8 := trimL (beFix 32 n)
theorem beFix_len (k n : Nat) : (beFix k n).length = k := by
  induction k generalizing n with
  | zero => rfl
  | succ k ih => simp [beFix, ih]
theorem beFix_get (k n i : Nat) (h : i < k) : (beFix k n)[i]? = some (UInt8.ofNat (n / 256 ^ (k - 1 - i) % 256)) := by
  induction k generalizing n with
  | zero => omega
  | succ k ih =>
    unfold beFix
    by_cases hi : i < k
    · rw [List.getElem?_append_left (by rw [beFix_len]; exact hi), ih _ hi, Nat.div_div_eq_div_mul, show k + 1 - 1 - i = (k - 1 - i) + 1 by omega, Nat.pow_succ, Nat.mul_comm]
    · rw [List.getElem?_append_right (by rw [beFix_len]; omega), beFix_len, show i - k = 0 by omega, show k + 1 - 1 - i = 0 by omega]
      simp
theorem beFix_zero (k : Nat) : beFix k 0 = List.replicate k 0 := by
  induction k with
  | zero => rfl
  | succ k ih => rw [beFix, ih, List.replicate_succ']; rfl
theorem trimC_snoc (c : UInt8) (l : List UInt8) (x : UInt8) : trimC c (l ++ [x]) = if trimC c l = [] then (if x == c then [] else [x]) else trimC c l ++ [x] := by
  unfold trimC
  induction l with
  | nil => by_cases h : (x == c) = true <;> simp [List.dropWhile, h]
  | cons a l ih =>
    by_cases h : (a == c) = true
    · simp only [List.cons_append, List.dropWhile_cons, h, if_true]; exact ih
    · simp [List.dropWhile_cons, h]
/-- the numbers' bytes by how many there are -/
theorem trim_fix (k n : Nat) (h : n < 256 ^ k) : trimL (beFix (k + 1) n) = trimL (beFix k n) := by
  induction k generalizing n with
  | zero =>
    obtain rfl : n = 0 := by simpa using h
    decide
  | succ k ih =>
    rw [show trimL (beFix (k + 1 + 1) n) = trimC 0 (beFix (k + 1) (n / 256) ++ [UInt8.ofNat (n % 256)]) from rfl, show trimL (beFix (k + 1) n) = trimC 0 (beFix k (n / 256) ++ [UInt8.ofNat (n % 256)]) from rfl]
    rw [trimC_snoc, trimC_snoc]
    have := ih (n / 256) (by rw [Nat.pow_succ] at h; exact Nat.div_lt_of_lt_mul (by rw [Nat.mul_comm]; exact h))
    have e : trimC 0 (beFix (k + 1) (n / 256)) = trimC 0 (beFix k (n / 256)) := this
    rw [e]
theorem beN_fix (k n : Nat) (hk : k ≤ 32) (h : n < 256 ^ k) : beN n = trimL (beFix k n) := by
  obtain ⟨d, hd⟩ : ∃ d, 32 = k + d := ⟨32 - k, by omega⟩
  unfold beN
  rw [hd]
  clear hd hk
  induction d with
  | zero => rfl
  | succ d ih =>
    rw [← Nat.add_assoc, trim_fix (k + d) n (Nat.lt_of_lt_of_le h (Nat.pow_le_pow_right (by omega) (by omega)))]
    exact ih
theorem beN_zero : beN 0 = [] := by rw [beN_fix 0 0 (by omega) (by decide)]; rfl
theorem beN_small (n : Nat) (h0 : 0 < n) (h : n < 256) : beN n = [UInt8.ofNat n] := by
  rw [beN_fix 1 n (by omega) (by simpa using h)]
  show trimC 0 ([] ++ [UInt8.ofNat (n % 256)]) = _
  rw [trimC_snoc, if_pos (by rfl), Nat.mod_eq_of_lt h, if_neg]
  intro e
  have := congrArg UInt8.toNat (beq_iff_eq.1 e)
  simp [Nat.mod_eq_of_lt h] at this
  omega
theorem beN_step (n : Nat) (h0 : 256 ≤ n) (h : n < 256 ^ 32) : beN n = beN (n / 256) ++ [UInt8.ofNat (n % 256)] := by
  have h2 : n / 256 < 256 ^ 31 := Nat.div_lt_of_lt_mul (by rw [Nat.mul_comm, ← Nat.pow_succ]; exact h)
  rw [beN_fix 31 (n / 256) (by omega) h2]
  unfold beN
  rw [beFix]
  show trimC 0 _ = trimC 0 _ ++ _
  rw [trimC_snoc, if_neg]
  intro e
  have e' : beN (n / 256) = [] := by rw [beN_fix 31 (n / 256) (by omega) h2]; exact e
  clear e
  have key : ∀ k m : Nat, 0 < m → m < 256 ^ k → trimL (beFix k m) ≠ [] := by
    intro k
    induction k with
    | zero => intro m h1 h2; simp at h2; omega
    | succ k ih =>
      intro m h1 h2 e
      rw [beFix] at e
      have e : trimC 0 _ = [] := e
      rw [trimC_snoc] at e
      split at e
      · rename_i g
        split at e
        · rename_i g2
          have g3 : m % 256 = 0 := by
            have := congrArg UInt8.toNat (beq_iff_eq.1 g2)
            simpa using this
          exact ih (m / 256) (by omega) (by rw [Nat.pow_succ] at h2; exact Nat.div_lt_of_lt_mul (by rw [Nat.mul_comm]; exact h2)) g
        · cases e
      · simp at e
  rw [beN_fix 31 (n / 256) (by omega) h2] at e'
  exact key 31 (n / 256) (by omega) h2 e'
theorem beN_two (n : Nat) (h0 : 256 ≤ n) (h : n < 65536) : beN n = [UInt8.ofNat (n / 256), UInt8.ofNat (n % 256)] := by
  have : (65536 : Nat) ≤ 256 ^ 32 := by decide
  rw [beN_step n h0 (by omega), beN_small (n / 256) (by omega) (by omega)]
  rfl
theorem beN_three (n : Nat) (h0 : 65536 ≤ n) (h : n < 16777216) : beN n = [UInt8.ofNat (n / 65536), UInt8.ofNat (n / 256 % 256), UInt8.ofNat (n % 256)] := by
  have : (16777216 : Nat) ≤ 256 ^ 32 := by decide
  rw [beN_step n (by omega) (by omega), beN_two (n / 256) (by omega) (by omega), Nat.div_div_eq_div_mul]
  rfl

/-- a word's number -/
def wordN (a0 a1 a2 a3 : Nat) : Nat := a0 + a1 * 18446744073709551616 + a2 * 340282366920938463463374607431768211456 + a3 * 6277101735386680763835789423207666416102355444464034512896
def fixAt (a : List Nat) (j : Nat) : UInt8 := UInt8.ofNat (a.getD (j / 8) 0 / 2 ^ (j % 8 * 8) % 256)
def fixL (a : List Nat) : List UInt8 := (List.range 32).map fun i => fixAt a (31 - i)
theorem div_low (x R r : Nat) (hr : r < 8) : (x + 18446744073709551616 * R) / 256 ^ r % 256 = x / 2 ^ (r * 8) % 256 := by
  have h : r = 0 ∨ r = 1 ∨ r = 2 ∨ r = 3 ∨ r = 4 ∨ r = 5 ∨ r = 6 ∨ r = 7 := by omega
  rcases h with rfl | rfl | rfl | rfl | rfl | rfl | rfl | rfl <;> simp only [Nat.reducePow, Nat.reduceMul] <;> omega
theorem word_digit (a0 a1 a2 a3 j : Nat) (h0 : a0 < 18446744073709551616) (h1 : a1 < 18446744073709551616) (h2 : a2 < 18446744073709551616) (h3 : a3 < 18446744073709551616) (hj : j < 32) :
    wordN a0 a1 a2 a3 / 256 ^ j % 256 = [a0, a1, a2, a3].getD (j / 8) 0 / 2 ^ (j % 8 * 8) % 256 := by
  have e : (256 : Nat) ^ j = 256 ^ (8 * (j / 8)) * 256 ^ (j % 8) := by rw [← Nat.pow_add]; congr 1; omega
  rw [e, ← Nat.div_div_eq_div_mul]
  have hq : j / 8 = 0 ∨ j / 8 = 1 ∨ j / 8 = 2 ∨ j / 8 = 3 := by omega
  have hr : j % 8 < 8 := by omega
  generalize j % 8 = r at *
  unfold wordN
  rcases hq with hq | hq | hq | hq <;> rw [hq]
  · simp only [Nat.mul_zero, Nat.pow_zero, Nat.div_one]
    show _ = a0 / 2 ^ (r * 8) % 256
    rw [← div_low a0 (a1 + a2 * 18446744073709551616 + a3 * 340282366920938463463374607431768211456) r hr]
    congr 2
    omega
  · rw [show (a0 + a1 * 18446744073709551616 + a2 * 340282366920938463463374607431768211456 + a3 * 6277101735386680763835789423207666416102355444464034512896) / 256 ^ (8 * 1) = a1 + 18446744073709551616 * (a2 + a3 * 18446744073709551616) by simp only [Nat.reduceMul, Nat.reducePow]; omega, div_low _ _ r hr]
    rfl
  · rw [show (a0 + a1 * 18446744073709551616 + a2 * 340282366920938463463374607431768211456 + a3 * 6277101735386680763835789423207666416102355444464034512896) / 256 ^ (8 * 2) = a2 + 18446744073709551616 * a3 by simp only [Nat.reduceMul, Nat.reducePow]; omega, div_low _ _ r hr]
    rfl
  · rw [show (a0 + a1 * 18446744073709551616 + a2 * 340282366920938463463374607431768211456 + a3 * 6277101735386680763835789423207666416102355444464034512896) / 256 ^ (8 * 3) = a3 + 18446744073709551616 * 0 by simp only [Nat.reduceMul, Nat.reducePow]; omega, div_low _ _ r hr]
    rfl
theorem fixL_be (a0 a1 a2 a3 : Nat) (h0 : a0 < 18446744073709551616) (h1 : a1 < 18446744073709551616) (h2 : a2 < 18446744073709551616) (h3 : a3 < 18446744073709551616) : fixL [a0, a1, a2, a3] = beFix 32 (wordN a0 a1 a2 a3) := by
  apply List.ext_getElem?
  intro i
  by_cases hi : i < 32
  · rw [beFix_get _ _ _ hi, word_digit a0 a1 a2 a3 _ h0 h1 h2 h3 (by omega)]
    unfold fixL
    rw [List.getElem?_map, List.getElem?_range hi]
    rfl
  · rw [List.getElem?_eq_none (by simp [fixL]; omega), List.getElem?_eq_none (by rw [beFix_len]; omega)]

/-- what stands after so many rounds -/
def outF (a : List Nat) (m : Nat) : List UInt8 := (List.range 32).map fun i => if 31 - i < m then fixAt a (31 - i) else 0
theorem outF_len (a : List Nat) (m : Nat) : (outF a m).length = 32 := by simp [outF]
theorem outF_zero (a : List Nat) : outF a 0 = List.replicate 32 0 := by
  unfold outF
  simp
  rfl
theorem outF_all (a : List Nat) : outF a 32 = fixL a := by
  unfold outF fixL
  apply List.map_congr_left
  intro i hi
  rw [if_pos (by omega)]
theorem outF_succ (a : List Nat) (m : Nat) (hm : m < 32) : outF a (m + 1) = (outF a m).set (31 - m) (fixAt a m) := by
  unfold outF
  apply List.ext_getElem?
  intro i
  rw [List.getElem?_set]
  by_cases hi : i < 32
  · rw [List.getElem?_map, List.getElem?_range hi]
    by_cases h : 31 - m = i
    · rw [if_pos h, if_pos (by simp; omega)]
      simp only [Option.map_some]
      rw [if_pos (by omega), show 31 - i = m by omega]
    · rw [if_neg h, List.getElem?_map, List.getElem?_range hi]
      simp only [Option.map_some]
      congr 1
      by_cases h2 : 31 - i < m
      · rw [if_pos h2, if_pos (by omega)]
      · rw [if_neg h2, if_neg (by omega)]
  · rw [List.getElem?_eq_none (by simp; omega)]
    split
    · rw [if_neg (by simp; omega)]
    · rw [List.getElem?_eq_none (by simp; omega)]
theorem fixL_len (a : List Nat) : (fixL a).length = 32 := by simp [fixL]
theorem trim_len (c : UInt8) (l : List UInt8) : (trimC c l).length ≤ l.length := List.Sublist.length_le (List.dropWhile_sublist _)
theorem beN_len (n : Nat) : (beN n).length ≤ 32 := by have := trim_len 0 (beFix 32 n); rw [beFix_len] at this; exact this
theorem beN_len8 (n : Nat) (h : n < 18446744073709551616) : (beN n).length ≤ 8 := by
  rw [beN_fix 8 n (by omega) (by simpa using h)]
  have := trim_len 0 (beFix 8 n); rw [beFix_len] at this; exact this
end Go.Proofs.YtagjpbcmhaekpaaGreatDoor
/- Bytes as a number, and a number's bytes: plain laws. -/
namespace Go.Proofs.YtagjpbcmhaekpaaGreatDoor
open Go.RowKit
set_option linter.unusedVariables false
set_option linter.unusedSimpArgs false

/-- bytes as a number -/
def beV (l : List UInt8) : Nat := l.foldl (fun n b => n * 256 + b.toNat) 0
theorem beV_snoc (l : List UInt8) (b : UInt8) : beV (l ++ [b]) = beV l * 256 + b.toNat := by simp [beV]
theorem beV_fix (k n : Nat) (h : n < 256 ^ k) : beV (beFix k n) = n := by
  induction k generalizing n with
  | zero => simp at h; subst h; rfl
  | succ k ih =>
    rw [beFix, beV_snoc, ih (n / 256) (by rw [Nat.pow_succ] at h; exact Nat.div_lt_of_lt_mul (by rw [Nat.mul_comm]; exact h)), UInt8.toNat_ofNat']
    omega
theorem beV_zero (l : List UInt8) : beV (0 :: l) = beV l := rfl
theorem beV_trim (l : List UInt8) : beV (trimL l) = beV l := by
  induction l with
  | nil => rfl
  | cons a l ih =>
    show beV (List.dropWhile _ _) = _
    by_cases h : a = 0
    · subst h
      rw [List.dropWhile_cons_of_pos (by rfl), beV_zero]; exact ih
    · rw [List.dropWhile_cons_of_neg (by simpa using h)]
theorem beV_beN (n : Nat) (h : n < 256 ^ 32) : beV (beN n) = n := by
  unfold beN; rw [beV_trim, beV_fix 32 n h]
theorem beN_inj {n m : Nat} (hn : n ≤ 1000000000) (hm : m ≤ 1000000000) (h : beN n = beN m) : n = m := by
  have h1 : (1000000000 : Nat) < 256 ^ 32 := by decide
  rw [← beV_beN n (by omega), h, beV_beN m (by omega)]
theorem u8_inj {a b : Nat} (ha : a < 256) (hb : b < 256) (h : UInt8.ofNat a = UInt8.ofNat b) : a = b := by
  have := congrArg UInt8.toNat h
  rw [UInt8.toNat_ofNat', UInt8.toNat_ofNat'] at this
  omega
theorem beN_pos {n : Nat} (h : 0 < n) (hn : n ≤ 1000000000) : 1 ≤ (beN n).length := by
  rcases Nat.eq_zero_or_pos (beN n).length with h0 | h0
  · have e := List.eq_nil_of_length_eq_zero h0
    have h1 : (1000000000 : Nat) < 256 ^ 32 := by decide
    have := beV_beN n (by omega)
    rw [e] at this
    have : (0 : Nat) = n := this
    omega
  · exact h0
theorem beV_lt (l : List UInt8) : beV l < 256 ^ l.length := by
  have key : ∀ r : List UInt8, beV r.reverse < 256 ^ r.reverse.length := by
    intro r
    induction r with
    | nil => simp [beV]
    | cons b r ih =>
      rw [List.reverse_cons, beV_snoc, List.length_append, Nat.pow_add]
      have := b.toNat_lt
      simp at *; omega
  have := key l.reverse
  rwa [List.reverse_reverse] at this
theorem fix_beV (t : List UInt8) : beFix t.length (beV t) = t := by
  have key : ∀ r : List UInt8, beFix r.reverse.length (beV r.reverse) = r.reverse := by
    intro r
    induction r with
    | nil => rfl
    | cons b r ih =>
      have hb := b.toNat_lt
      rw [List.reverse_cons, beV_snoc, List.length_append, List.length_singleton, beFix, show (beV r.reverse * 256 + b.toNat) / 256 = beV r.reverse by omega, show (beV r.reverse * 256 + b.toNat) % 256 = b.toNat by omega, ih, UInt8.ofNat_toNat]
  have := key t.reverse
  rwa [List.reverse_reverse] at this
theorem beN_beV (t : List UInt8) (h : t.length ≤ 32) (h0 : t.getD 0 0 ≠ 0) : beN (beV t) = t := by
  rw [beN_fix t.length _ h (beV_lt t), fix_beV]
  cases t with
  | nil => rfl
  | cons a t => exact List.dropWhile_cons_of_neg (by simpa using h0)
theorem beN_first (n : Nat) : beN n = [] ∨ (beN n).getD 0 0 ≠ 0 := by
  have key : ∀ l : List UInt8, trimL l = [] ∨ (trimL l).getD 0 0 ≠ 0 := by
    intro l
    induction l with
    | nil => exact .inl rfl
    | cons a l ih =>
      by_cases h : a = 0
      · subst h
        rw [show trimL (0 :: l) = trimL l from List.dropWhile_cons_of_pos (by rfl)]; exact ih
      · rw [show trimL (a :: l) = a :: l from List.dropWhile_cons_of_neg (by simpa using h)]; exact .inr h
  exact key _
theorem beN_len3 (n : Nat) (h : n < 16777216) : (beN n).length ≤ 3 := by
  rw [beN_fix 3 n (by omega) (by simpa using h)]
  have := trim_len 0 (beFix 3 n); rw [beFix_len] at this; exact this
end Go.Proofs.YtagjpbcmhaekpaaGreatDoor
/- A word of bytes: plain laws. -/
namespace Go.Proofs.YtagjpbcmhaekpaaGreatDoor
open Go.RowKit
set_option linter.unusedVariables false
set_option linter.unusedSimpArgs false

/-- a word's part -/
def wp (N q : Nat) : Nat := N / 2 ^ (64 * q) % 2 ^ 64
theorem wp_lt (N q : Nat) : wp N q < 18446744073709551616 := Nat.mod_lt _ (by decide)
theorem wp_zero (q : Nat) : wp 0 q = 0 := by unfold wp; simp
theorem wp_add (N m c q : Nat) (hN : N < 2 ^ (8 * m)) (hc : c < 256) : wp (N + c * 2 ^ (8 * m)) q = if q = m / 8 then wp N q + c * 2 ^ (m % 8 * 8) else wp N q := by
  unfold wp
  have hp : ∀ k, 0 < 2 ^ k := fun k => Nat.pow_pos (by omega)
  by_cases h : q = m / 8
  · rw [if_pos h]
    have e : 2 ^ (8 * m) = 2 ^ (64 * q) * 2 ^ (m % 8 * 8) := by rw [← Nat.pow_add]; congr 1; omega
    rw [e] at hN ⊢
    have hx : N / 2 ^ (64 * q) < 2 ^ (m % 8 * 8) := Nat.div_lt_of_lt_mul hN
    have hle : 2 ^ (m % 8 * 8) * 256 ≤ 2 ^ 64 := by
      rw [show (256 : Nat) = 2 ^ 8 from rfl, ← Nat.pow_add]
      exact Nat.pow_le_pow_right (by omega) (by omega)
    rw [show N + c * (2 ^ (64 * q) * 2 ^ (m % 8 * 8)) = N + 2 ^ (64 * q) * (c * 2 ^ (m % 8 * 8)) by rw [Nat.mul_left_comm], Nat.add_mul_div_left _ _ (hp _)]
    generalize N / 2 ^ (64 * q) = x at *
    generalize hP : 2 ^ (m % 8 * 8) = P at *
    have hcP : c * P + P ≤ P * 256 := by
      have : (c + 1) * P ≤ 256 * P := Nat.mul_le_mul_right P (by omega)
      rw [Nat.add_mul] at this; omega
    rw [Nat.mod_eq_of_lt (by omega), Nat.mod_eq_of_lt (by omega)]
  · rw [if_neg h]
    by_cases h2 : q < m / 8
    · have e : 2 ^ (8 * m) = 2 ^ (64 * q) * (2 ^ 64 * 2 ^ (8 * m - 64 * q - 64)) := by rw [← Nat.pow_add, ← Nat.pow_add]; congr 1; omega
      rw [e, show N + c * (2 ^ (64 * q) * (2 ^ 64 * 2 ^ (8 * m - 64 * q - 64))) = N + 2 ^ (64 * q) * (2 ^ 64 * (c * 2 ^ (8 * m - 64 * q - 64))) by
        rw [Nat.mul_left_comm c, Nat.mul_left_comm c], Nat.add_mul_div_left _ _ (hp _), Nat.add_mul_mod_self_left]
    · have hle : 2 ^ (8 * m) * 256 ≤ 2 ^ (64 * q) := by
        rw [show (256 : Nat) = 2 ^ 8 from rfl, ← Nat.pow_add]
        exact Nat.pow_le_pow_right (by omega) (by omega)
      generalize 2 ^ (8 * m) = P at *
      have hcP : c * P + P ≤ P * 256 := by
        have : (c + 1) * P ≤ 256 * P := Nat.mul_le_mul_right P (by omega)
        rw [Nat.add_mul] at this; omega
      rw [Nat.div_eq_of_lt (by omega), Nat.div_eq_of_lt (by omega)]
theorem wp_or (x c s : Nat) (h : x < 2 ^ s) : x ||| c * 2 ^ s = x + c * 2 ^ s := by
  rw [Nat.or_comm, ← Nat.shiftLeft_eq, ← Nat.shiftLeft_add_eq_or_of_lt h, Nat.add_comm]
theorem wp_room (N m : Nat) (hN : N < 2 ^ (8 * m)) : wp N (m / 8) < 2 ^ (m % 8 * 8) := by
  unfold wp
  have e : 2 ^ (8 * m) = 2 ^ (64 * (m / 8)) * 2 ^ (m % 8 * 8) := by rw [← Nat.pow_add]; congr 1; omega
  rw [e] at hN
  exact Nat.lt_of_le_of_lt (Nat.mod_le _ _) (Nat.div_lt_of_lt_mul hN)
/-- the last bytes, as a number -/
def lowN (l : List UInt8) (m : Nat) : Nat := beV (l.drop (l.length - m))
theorem lowN_zero (l : List UInt8) : lowN l 0 = 0 := by unfold lowN; rw [Nat.sub_zero, List.drop_length]; rfl
theorem lowN_lt (l : List UInt8) (m : Nat) : lowN l m < 2 ^ (8 * m) := by
  unfold lowN
  have h := beV_lt (l.drop (l.length - m))
  rw [show (256 : Nat) = 2 ^ 8 from rfl, ← Nat.pow_mul] at h
  refine Nat.lt_of_lt_of_le h (Nat.pow_le_pow_right (by omega) ?_)
  rw [List.length_drop]; omega
theorem beV_cons (b : UInt8) (l : List UInt8) : beV (b :: l) = b.toNat * 256 ^ l.length + beV l := by
  have key : ∀ r : List UInt8, beV (b :: r.reverse) = b.toNat * 256 ^ r.reverse.length + beV r.reverse := by
    intro r
    induction r with
    | nil => simp [beV]
    | cons c r ih =>
      rw [List.reverse_cons, ← List.cons_append, beV_snoc, ih, beV_snoc, List.length_append, List.length_singleton, Nat.pow_succ, Nat.add_mul, ← Nat.mul_assoc, Nat.add_assoc]
  have := key l.reverse
  rwa [List.reverse_reverse] at this
theorem lowN_succ (l : List UInt8) (m : Nat) (h : m < l.length) : lowN l (m + 1) = lowN l m + (l.getD (l.length - 1 - m) 0).toNat * 2 ^ (8 * m) := by
  unfold lowN
  have hi : l.length - (m + 1) < l.length := by omega
  rw [List.drop_eq_getElem_cons hi, beV_cons, List.length_drop, show l.length - (m + 1) + 1 = l.length - m by omega, show l.length - (l.length - m) = m by omega,
    show l.length - 1 - m = l.length - (m + 1) by omega, List.getD_eq_getElem?_getD, List.getElem?_eq_getElem hi, show (256 : Nat) = 2 ^ 8 from rfl, ← Nat.pow_mul, Nat.add_comm]
  rfl
theorem lowN_all (l : List UInt8) : lowN l l.length = beV l := by unfold lowN; rw [Nat.sub_self, List.drop_zero]
theorem lowN_step (l : List UInt8) (m q : Nat) (h : m < l.length) : wp (lowN l (m + 1)) q = if q = m / 8 then wp (lowN l m) q ||| (l.getD (l.length - 1 - m) 0).toNat * 2 ^ (m % 8 * 8) else wp (lowN l m) q := by
  rw [lowN_succ l m h, wp_add _ _ _ _ (lowN_lt l m) (l.getD (l.length - 1 - m) 0).toNat_lt]
  split
  · rename_i e
    rw [wp_or _ _ _ (by rw [e]; exact wp_room _ _ (lowN_lt l m))]
  · rfl
/-- what is wrong with a word's bytes -/
def parseE (l : List UInt8) : Int := if 32 < l.length then 5 else if l.head? = some 0 then 8 else 0
/-- a word's part, of its bytes -/
def parseP (l : List UInt8) (q : Nat) : Nat := if parseE l = 0 then wp (beV l) q else 0
theorem beV_pad (k : Nat) (l : List UInt8) : beV (List.replicate k 0 ++ l) = beV l := by
  induction k with
  | zero => rfl
  | succ k ih => rw [List.replicate_succ, List.cons_append, beV_zero, ih]
theorem wp_word (a0 a1 a2 a3 : Nat) (h0 : a0 < 18446744073709551616) (h1 : a1 < 18446744073709551616) (h2 : a2 < 18446744073709551616) (h3 : a3 < 18446744073709551616) :
    wp (wordN a0 a1 a2 a3) 0 = a0 ∧ wp (wordN a0 a1 a2 a3) 1 = a1 ∧ wp (wordN a0 a1 a2 a3) 2 = a2 ∧ wp (wordN a0 a1 a2 a3) 3 = a3 := by
  unfold wp wordN
  simp only [Nat.reducePow, Nat.reduceMul]
  omega
theorem word_lt (a0 a1 a2 a3 : Nat) (h0 : a0 < 18446744073709551616) (h1 : a1 < 18446744073709551616) (h2 : a2 < 18446744073709551616) (h3 : a3 < 18446744073709551616) : wordN a0 a1 a2 a3 < 256 ^ 32 := by
  unfold wordN
  simp only [Nat.reducePow]
  omega
/-- what is written is read -/
theorem parse_beN (n : Nat) (h : n < 256 ^ 32) : parseE (beN n) = 0 ∧ ∀ q, parseP (beN n) q = wp n q := by
  have hE : parseE (beN n) = 0 := by
    unfold parseE
    rw [if_neg (by have := beN_len n; omega), if_neg]
    rcases beN_first n with e | e
    · rw [e]; simp
    · intro g
      cases hq : beN n with
      | nil => rw [hq] at g; cases g
      | cons a l => rw [hq] at g e; injection g with g; exact e g
  exact ⟨hE, fun q => by unfold parseP; rw [if_pos hE, beV_beN n h]⟩
theorem wp_join (N : Nat) (h : N < 256 ^ 32) : wordN (wp N 0) (wp N 1) (wp N 2) (wp N 3) = N := by
  unfold wp wordN
  simp only [Nat.reducePow, Nat.reduceMul] at *
  omega
/-- what is read is written just so -/
theorem parse_only {l : List UInt8} (h : parseE l = 0) : beN (wordN (parseP l 0) (parseP l 1) (parseP l 2) (parseP l 3)) = l := by
  unfold parseP
  rw [if_pos h, if_pos h, if_pos h, if_pos h]
  unfold parseE at h
  split at h
  · cases h
  rename_i h1
  split at h
  · cases h
  rename_i h2
  have hlt : beV l < 256 ^ 32 := Nat.lt_of_lt_of_le (beV_lt l) (Nat.pow_le_pow_right (by omega) (by omega))
  rw [wp_join _ hlt]
  cases l with
  | nil => exact beN_zero
  | cons a l => exact beN_beV _ (by omega) (fun e => h2 (by rw [show a = 0 from e]; rfl))
end Go.Proofs.YtagjpbcmhaekpaaGreatDoor
/- A word's and a number's bytes, as the program has them. -/
namespace Go.Proofs.YtagjpbcmhaekpaaGreatDoor
open Go.RowKit Go.Shelf
set_option linter.unusedVariables false
set_option linter.unusedSimpArgs false

theorem fixAt_wrap (v r : Nat) : IntKind.u8.wrap ((v : Int) / 2 ^ r) = ((UInt8.ofNat (v / 2 ^ r % 256)).toNat : Int) := by
  have e : (v : Int) / 2 ^ r = ((v / 2 ^ r : Nat) : Int) := by simp
  rw [e]
  generalize v / 2 ^ r = n
  simp [IntKind.wrap, IntKind.bits, IntKind.signed]
theorem word_cell {w : World} {g : Nat} {t : TypeId} {a0 a1 a2 a3 : Nat} (h : Blk w g t #[.int .u64 (a0 : Int), .int .u64 (a1 : Int), .int .u64 (a2 : Int), .int .u64 (a3 : Int)]) (q : Nat) (hq : q < 4) : w.cell? ⟨g, q, none⟩ = some (.int .u64 (([a0, a1, a2, a3].getD q 0 : Nat) : Int)) := by
  rw [h.cell]
  have : q = 0 ∨ q = 1 ∨ q = 2 ∨ q = 3 := by omega
  rcases this with rfl | rfl | rfl | rfl <;> rfl

set_option maxRecDepth 100000 in
set_option maxHeartbeats 1000000 in
theorem fixed_any (a0 a1 a2 a3 : Nat) (w : World) :
    Calls Tryz.prog 81 #[.agg #[.int .u64 (a0 : Int), .int .u64 (a1 : Int), .int .u64 (a2 : Int), .int .u64 (a3 : Int)]] w fun e w' => e = .returned (.string ⟨(fixL [a0, a1, a2, a3]).toArray⟩) ∧ w.grownBy w' none := by
  have hB := Blk.new w 103 #[.int .u64 (a0 : Int), .int .u64 (a1 : Int), .int .u64 (a2 : Int), .int .u64 (a3 : Int)]
  have hG := only_alloc (World.grownBy.refl w none) (.cells #[.int .u64 (a0 : Int), .int .u64 (a1 : Int), .int .u64 (a2 : Int), .int .u64 (a3 : Int)] 103)
  have hZ : (w.alloc (.cells #[.int .u64 (a0 : Int), .int .u64 (a1 : Int), .int .u64 (a2 : Int), .int .u64 (a3 : Int)] 103)).heap.size = w.heap.size + 1 := by simp
  go_enter Tryz.func81, Tryz.ntmps81
  go_upto_region 1 with (fail)
  generalize w.alloc (.cells #[.int .u64 (a0 : Int), .int .u64 (a1 : Int), .int .u64 (a2 : Int), .int .u64 (a3 : Int)] 103) = W at *
  have hmk : (Instr.makeSlice 36 (.int .i64 32) (.int .i64 32)).run Tryz.prog W = .ok (.slice (some ⟨W.heap.size, 0, none⟩) 32 32) (W.alloc (.cells (bytesC (List.replicate 32 0)) 5)) := make_u8 32 (by omega) W
  rw [hZ] at hmk
  have hB := hB.alloc (.cells (bytesC (List.replicate 32 0)) 5)
  have hO := Blk.new W 5 (bytesC (List.replicate 32 0))
  rw [hZ] at hO
  have hG := only_alloc hG (.cells (bytesC (List.replicate 32 0)) 5)
  obtain ⟨b, hb⟩ : ∃ b, w.heap.size = b := ⟨_, rfl⟩
  rw [hb] at hB hO hmk ⊢
  generalize W.alloc (.cells (bytesC (List.replicate 32 0)) 5) = W1 at *
  go_wp2_with fail
  go_loopw [6] (fun i wr => ∃ m : Nat, i = .int .i64 (m : Int) ∧ m ≤ 32 ∧ Blk wr (b + 1) 5 (bytesC (outF [a0, a1, a2, a3] m)) ∧ Blk wr b 103 #[.int .u64 (a0 : Int), .int .u64 (a1 : Int), .int .u64 (a2 : Int), .int .u64 (a3 : Int)] ∧ w.grownBy wr none) (fun i _ => 32 - (intOf i).toNat)
  case atStart => exact ⟨0, rfl, by omega, by rw [outF_zero]; exact hO, hB, hG⟩
  case round =>
    clear hO hB hG hmk hZ
    obtain ⟨m, rfl, hm, hO, hB, hG⟩ := hrel
    by_cases hlt : m < 32
    · obtain ⟨q, hq⟩ : ∃ q, m / 8 = q := ⟨_, rfl⟩
      obtain ⟨r8, hr8⟩ : ∃ r, m % 8 = r := ⟨_, rfl⟩
      obtain ⟨r, hr⟩ : ∃ r, r8 * 8 = r := ⟨_, rfl⟩
      obtain ⟨p, hp⟩ : ∃ p, 31 - m = p := ⟨_, rfl⟩
      have f2 := word_cell hB q (by omega)
      obtain ⟨v, hv⟩ : ∃ v, [a0, a1, a2, a3].getD q 0 = v := ⟨_, rfl⟩
      obtain ⟨z, hz⟩ : ∃ z, fixAt [a0, a1, a2, a3] m = z := ⟨_, rfl⟩
      have hzz : z = UInt8.ofNat (v / 2 ^ r % 256) := by
        rw [← hz]; unfold fixAt; rw [hq, hr8, hr, hv]
      have hst : outF [a0, a1, a2, a3] (m + 1) = (outF [a0, a1, a2, a3] m).set p z := by rw [← hz, ← hp]; exact outF_succ _ m hlt
      rw [hv] at f2
      have f3 := hO.frozen p
      have f4 : wr.cell? ⟨b + 1, p, none⟩ = some (.int .u8 (((outF [a0, a1, a2, a3] m).getD p 0).toNat : Int)) := bytesC_cell hO p (by rw [outF_len]; omega)
      have p1 : (m : Int).tdiv 8 = (q : Int) := by rw [Int.tdiv_eq_ediv_of_nonneg (by omega)]; omega
      have p2 : IntKind.i64.wrap (q : Int) = (q : Int) := IntWalk.i64_in _ (by omega)
      have p3 : (m : Int).tmod 8 = (r8 : Int) := by rw [Int.tmod_eq_emod_of_nonneg (by omega)]; omega
      have p4 : IntKind.i64.wrap ((r8 : Int) * 8) = (r : Int) := by rw [IntWalk.i64_in _ (by omega)]; omega
      have p5 : IntKind.u8.wrap ((v : Int) / 2 ^ r) = (z.toNat : Int) := by rw [hzz]; exact fixAt_wrap v r
      have p6 : IntKind.i64.wrap (31 - (m : Int)) = (p : Int) := by rw [IntWalk.i64_in _ (by omega)]; omega
      have p7 : 31 - (m : Int) = (p : Int) := by omega
      have q1 : (q : Int) < 4 := by omega
      have q2 : (m : Int) < 32 := by omega
      have q3 : r < 64 := by omega
      have q4 : (p : Int) < 32 := by omega
      have HS := Lib.hid hst
      generalize (outF [a0, a1, a2, a3] m).getD p 0 = z0 at f4
      generalize [a0, a1, a2, a3].getD q 0 = v' at hv
      clear hq hr8 hr hv hz hzz hst hp
      go_wp2_with fail
      refine ⟨⟨m + 1, by go_num, by omega, ?_, hB.far (p := ⟨b + 1, p, none⟩) (by show b ≠ b + 1; omega) _, only_set hG (p := ⟨b + 1, p, none⟩) (by show w.heap.size ≤ b + 1; omega) _⟩, by simp [intOf]; omega⟩
      rw [HS.out, ← bytesC_setI]
      exact hO.set_ p _
    · have e32 : outF [a0, a1, a2, a3] m = fixL [a0, a1, a2, a3] := by rw [show m = 32 by omega, outF_all]
      rw [e32] at hO
      have hfin : decide ((m : Int) < 32) = false := by simp; omega
      have hcv := run_convert_bytes_back (P := Tryz.prog) wr 36 9 5 ⟨b + 1, 0, none⟩ 32 (fixL [a0, a1, a2, a3]) (by kernel_rfl) (by kernel_rfl) (by kernel_rfl) (fun j hj => by
        have := bytesC_cell hO j hj
        rw [Addr.add_mid, Nat.zero_add, this, List.getD_eq_getElem?_getD, List.getElem?_eq_getElem hj]
        rfl)
      rw [fixL_len] at hcv
      obtain ⟨qq, hqq⟩ : ∃ x, fixL [a0, a1, a2, a3] = x := ⟨_, rfl⟩
      rw [hqq] at hcv
      have HQ := Lib.hid hqq
      clear e32 hqq
      go_wp2_with fail
      go_ret
      exact ⟨by rw [HQ.out]; rfl, hG⟩

theorem extract_tail {t : ByteArray} {c : UInt8} {r : List UInt8} (h : t.data.toList = c :: r) : (t.extract 1 t.size).data.toList = r := by
  rw [Lib.extract_data, h]
  simp
  rw [List.take_of_length_le]
  have := congrArg List.length h
  rw [Array.length_toList] at this
  simp at this
  show r.length ≤ t.size - 1
  have : t.size = r.length + 1 := this
  omega
theorem size_cons {t : ByteArray} {c : UInt8} {r : List UInt8} (h : t.data.toList = c :: r) : t.size = r.length + 1 := by
  have := congrArg List.length h
  rw [Array.length_toList] at this
  exact this
def strSize : Value → Nat
  | .string s => s.size
  | _ => 0
set_option maxRecDepth 100000 in
set_option maxHeartbeats 1000000 in
theorem trimByte_any (s : ByteArray) (c : UInt8) (w : World) (hs : s.size ≤ 9223372036854775807) :
    Calls Tryz.prog 94 #[.string s, .int .u8 (c.toNat : Int)] w fun e w' => e = .returned (.string ⟨(trimC c s.data.toList).toArray⟩) ∧ w' = w := by
  go_enter Tryz.func94, Tryz.ntmps94
  go_wp2_with fail
  go_loop [0] (fun v => ∃ t : ByteArray, v = .string t ∧ t.size ≤ s.size ∧ Hid (trimC c t.data.toList = trimC c s.data.toList)) (fun v => strSize v)
  case atStart => exact ⟨s, rfl, Nat.le_refl _, Lib.hid rfl⟩
  case round =>
    obtain ⟨t, rfl, ht, hT⟩ := hrel
    have HT := Lib.hid hT.out
    clear hT
    cases hl : t.data.toList with
    | nil =>
      have hz : t.size = 0 := by have := congrArg List.length hl; rw [Array.length_toList] at this; exact this
      have d1 : decide (0 < t.size) = false := decide_eq_false (by omega)
      have d2 : decide ((0 : Int) < (t.size : Int)) = false := decide_eq_false (by omega)
      have he : t = ⟨#[]⟩ := ba_ext hl
      have HE : Hid (trimC c s.data.toList = []) := Lib.hid (by rw [← HT.out, hl]; rfl)
      subst he
      clear hl hz HT
      go_wp2_with fail
      go_ret
      exact ⟨by rw [HE.out]; rfl, rfl⟩
    | cons x r =>
      have hz := size_cons hl
      have d1 : 0 < t.size := by omega
      have hx : t[0]'d1 = x := by
        have e : t.data.toList[0]? = some x := by rw [hl]; rfl
        have e2 : t.data[0]? = some x := by simpa using e
        obtain ⟨_, e3⟩ := Array.getElem?_eq_some_iff.1 e2
        exact e3
      have HZ := Lib.hid hz
      clear hz
      have d2 : (0 : Int) < (t.size : Int) := by omega
      have d3 : (1 : Int) ≤ (t.size : Int) := by omega
      have d4 : 1 ≤ t.size := by omega
      by_cases hxc : x = c
      · have e1 : ((x.toNat : Int) == (c.toNat : Int)) = true := by rw [hxc]; simp
        have HN : Hid (trimC c (t.extract 1 t.size).data.toList = trimC c s.data.toList) := Lib.hid (by
          rw [extract_tail hl, ← HT.out, hl]
          show _ = List.dropWhile _ _
          rw [List.dropWhile_cons_of_pos (by simp [hxc])]; rfl)
        have HSZ : Hid ((t.extract 1 t.size).size = t.size - 1) := Lib.hid (by simp)
        clear hl HT hxc
        go_wp2_with fail
        exact ⟨⟨_, rfl, by have := HSZ.out; omega, HN⟩, by show (t.extract 1 t.size).size < t.size; have := HSZ.out; omega⟩
      · have e1 : ((x.toNat : Int) == (c.toNat : Int)) = false := by
          rw [beq_eq_false_iff_ne]; intro e; exact hxc (UInt8.toNat_inj.1 (by omega))
        have HN : Hid (trimC c s.data.toList = t.data.toList) := Lib.hid (by
          rw [← HT.out, hl]
          show List.dropWhile _ _ = _
          rw [List.dropWhile_cons_of_neg (by simp [hxc])])
        clear hl HT hxc
        go_wp2_with fail
        go_ret
        exact ⟨by rw [HN.out]; rfl, rfl⟩

set_option maxRecDepth 100000 in
theorem trim_any (s : ByteArray) (w : World) (h0 : 0 < s.size) (hs : s.size ≤ 9223372036854775807) :
    Calls Tryz.prog 80 #[.string s, .string ⟨#[0]⟩] w fun e w' => e = .returned (.string ⟨(trimL s.data.toList).toArray⟩) ∧ w' = w := by
  have hb := fun W => trimByte_any s 0 W hs
  have e1 : (s.toList == []) = false := by
    have := str_ne (a := s) (b := ⟨#[]⟩) (by rintro rfl; cases h0)
    simpa using this
  have e2 : s.toList.isEmpty = false := by simpa using e1
  have HB := Lib.hid hb
  clear hb
  go_enter Tryz.func80, Tryz.ntmps80
  go_wp2_with fail
  refine (HB.out _).mono ?_
  rintro e w2 ⟨rfl, rfl⟩
  go_wp2_with fail
  go_ret
  exact ⟨rfl, rfl⟩

set_option maxRecDepth 100000 in
theorem wordBytes_any (a0 a1 a2 a3 : Nat) (h0 : a0 < 18446744073709551616) (h1 : a1 < 18446744073709551616) (h2 : a2 < 18446744073709551616) (h3 : a3 < 18446744073709551616) (w : World) :
    Calls Tryz.prog 68 #[.agg #[.int .u64 (a0 : Int), .int .u64 (a1 : Int), .int .u64 (a2 : Int), .int .u64 (a3 : Int)]] w fun e w' => e = .returned (.string ⟨(beN (wordN a0 a1 a2 a3)).toArray⟩) ∧ w.grownBy w' none := by
  have hB := Blk.new w 103 #[.int .u64 (a0 : Int), .int .u64 (a1 : Int), .int .u64 (a2 : Int), .int .u64 (a3 : Int)]
  have hG := only_alloc (World.grownBy.refl w none) (.cells #[.int .u64 (a0 : Int), .int .u64 (a1 : Int), .int .u64 (a2 : Int), .int .u64 (a3 : Int)] 103)
  have HF := Lib.hid (fun V => fixed_any a0 a1 a2 a3 V)
  have ht := fun V => trim_any ⟨(fixL [a0, a1, a2, a3]).toArray⟩ V (by show 0 < ((fixL [a0, a1, a2, a3]).toArray).size; simp [fixL_len]) (by show ((fixL [a0, a1, a2, a3]).toArray).size ≤ _; simp [fixL_len])
  have HT := Lib.hid ht
  have HE : Hid (trimL (fixL [a0, a1, a2, a3]) = beN (wordN a0 a1 a2 a3)) := Lib.hid (by rw [fixL_be _ _ _ _ h0 h1 h2 h3]; rfl)
  clear ht
  go_enter Tryz.func68, Tryz.ntmps68
  go_wp2_with fail
  refine (HF.out _).mono ?_
  rintro e w2 ⟨rfl, hg⟩
  have hG := Lib.hid (grown_self hG hg (by simp))
  clear hg hB
  go_wp2_with fail
  refine (HT.out _).mono ?_
  rintro e w3 ⟨rfl, rfl⟩
  go_wp2_with fail
  go_ret
  exact ⟨by rw [← HE.out]; rfl, hG.out⟩

theorem load_word {w : World} {g : Nat} {a b c d : Value} (hg : Blk w g 103 #[a, b, c, d]) : (loadVar 103 ⟨g, 0, none⟩).run Tryz.prog w = .ok (.agg #[a, b, c, d]) w :=
  run_loadVar_row w g 103 103 _ (0, 0) _ hg Tryz.underlying103 rfl (by kernel_rfl)
set_option maxRecDepth 100000 in
theorem of_any (n : Nat) (w : World) :
    Calls Tryz.prog 69 #[.int .u64 (n : Int)] w fun e w' => e = .returned (.agg #[.int .u64 (n : Int), .int .u64 ((0 : Nat) : Int), .int .u64 ((0 : Nat) : Int), .int .u64 ((0 : Nat) : Int)]) ∧ w.grownBy w' none := by
  have hB := Blk.new w 103 #[.int .u64 (n : Int), .int .u64 0, .int .u64 0, .int .u64 0]
  have hG := only_alloc (World.grownBy.refl w none) (.cells #[.int .u64 (n : Int), .int .u64 0, .int .u64 0, .int .u64 0] 103)
  go_enter Tryz.func69, Tryz.ntmps69
  go_wp2_with fail
  refine bodyPost_ret (results_cell1 (fn := Tryz.f69) rfl _ _ _ _ rfl (load_word hB)) rfl ?_
  exact ⟨rfl, hG⟩

/-- A NUMBER'S BYTES -/
theorem be_any (n : Nat) (hn : n < 18446744073709551616) (w : World) :
    Calls Tryz.prog 47 #[.int .u64 (n : Int)] w fun e w' => e = .returned (.string ⟨(beN n).toArray⟩) ∧ w.grownBy w' none := by
  have hb := fun V => wordBytes_any n 0 0 0 hn (by omega) (by omega) (by omega) V
  rw [show wordN n 0 0 0 = n by unfold wordN; omega] at hb
  have HB := Lib.hid hb
  have HO := Lib.hid (fun V => of_any n V)
  clear hb
  go_enter Tryz.func47, Tryz.ntmps47
  go_wp2_with fail
  refine (HO.out _).mono ?_
  rintro e w2 ⟨rfl, hg⟩
  have hG := Lib.hid hg
  clear hg
  go_wp2_with fail
  refine (HB.out _).mono ?_
  rintro e w3 ⟨rfl, hg⟩
  have hG := Lib.hid (grown_self hG.out hg (by simp))
  clear hg
  go_wp2_with fail
  go_ret
  exact ⟨rfl, hG.out⟩
end Go.Proofs.YtagjpbcmhaekpaaGreatDoor
/- A word's and a number's bytes, as the document has them. -/
namespace Go.Proofs.YtagjpbcmhaekpaaGreatDoor
open Go.RowKit Go.Shelf
set_option linter.unusedVariables false
set_option linter.unusedSimpArgs false

set_option maxRecDepth 100000 in
theorem digit_any (a0 a1 a2 a3 m : Nat) (hm : m < 32) (w : World) :
    Calls Tryz.prog 98 #[.agg #[.int .u64 (a0 : Int), .int .u64 (a1 : Int), .int .u64 (a2 : Int), .int .u64 (a3 : Int)], .int .i64 (m : Int)] w fun e w' => e = .returned (.int .i64 ((fixAt [a0, a1, a2, a3] m).toNat : Int)) ∧ w.grownBy w' none := by
  have hB := Blk.new w 103 #[.int .u64 (a0 : Int), .int .u64 (a1 : Int), .int .u64 (a2 : Int), .int .u64 (a3 : Int)]
  have hG := only_alloc (World.grownBy.refl w none) (.cells #[.int .u64 (a0 : Int), .int .u64 (a1 : Int), .int .u64 (a2 : Int), .int .u64 (a3 : Int)] 103)
  obtain ⟨q, hq⟩ : ∃ q, m / 8 = q := ⟨_, rfl⟩
  obtain ⟨r8, hr8⟩ : ∃ r, m % 8 = r := ⟨_, rfl⟩
  obtain ⟨r, hr⟩ : ∃ r, r8 * 8 = r := ⟨_, rfl⟩
  have f2 := word_cell hB q (by omega)
  obtain ⟨v, hv⟩ : ∃ v, [a0, a1, a2, a3].getD q 0 = v := ⟨_, rfl⟩
  obtain ⟨z, hz⟩ : ∃ z, fixAt [a0, a1, a2, a3] m = z := ⟨_, rfl⟩
  have hzz : z = UInt8.ofNat (v / 2 ^ r % 256) := by
    rw [← hz]; unfold fixAt; rw [hq, hr8, hr, hv]
  rw [hv] at f2
  have p1 : (m : Int).tdiv 8 = (q : Int) := by rw [Int.tdiv_eq_ediv_of_nonneg (by omega)]; omega
  have p2 : IntKind.i64.wrap (q : Int) = (q : Int) := IntWalk.i64_in _ (by omega)
  have p3 : (m : Int).tmod 8 = (r8 : Int) := by rw [Int.tmod_eq_emod_of_nonneg (by omega)]; omega
  have p4 : IntKind.i64.wrap ((r8 : Int) * 8) = (r : Int) := by rw [IntWalk.i64_in _ (by omega)]; omega
  have p5 : ((v : Int) / 2 ^ r).tmod 256 = (z.toNat : Int) := by
    rw [show (v : Int) / 2 ^ r = ((v / 2 ^ r : Nat) : Int) by simp, Int.tmod_eq_emod_of_nonneg (Int.natCast_nonneg _), hzz]
    simp
  have p7 : IntKind.u64.wrap (z.toNat : Int) = (z.toNat : Int) := by have := z.toNat_lt; simp [IntKind.wrap, IntKind.bits, IntKind.signed]; omega
  have p9 : IntKind.i64.wrap (z.toNat : Int) = (z.toNat : Int) := by have := z.toNat_lt; exact IntWalk.i64_in _ (by omega)
  have p8 := wrap_u r (by omega)
  have q1 : (q : Int) < 4 := by omega
  have q3 : r < 64 := by omega
  have HZ := Lib.hid hz
  clear hq hr8 hr hv hz hzz hB
  go_enter Tryz.func98, Tryz.ntmps98
  go_upto_region 1 with (fail)
  generalize w.alloc (.cells #[.int .u64 (a0 : Int), .int .u64 (a1 : Int), .int .u64 (a2 : Int), .int .u64 (a3 : Int)] 103) = W at *
  go_wp2_with fail
  go_ret
  exact ⟨by rw [HZ.out]; rfl, hG⟩
/-- the first of the fixed bytes -/
theorem fixL_take (a : List Nat) (m : Nat) (hm : m < 32) : u8s ((fixL a).take (m + 1)) = u8s ((fixL a).take m) ++ [.int .u8 ((fixAt a (31 - m)).toNat : Int)] := by
  have : (fixL a).take (m + 1) = (fixL a).take m ++ [fixAt a (31 - m)] := by
    rw [List.take_add_one, show (fixL a)[m]? = some (fixAt a (31 - m)) by unfold fixL; rw [List.getElem?_map, List.getElem?_range hm]; rfl]
    rfl
  rw [this]
  simp [u8s]
set_option maxRecDepth 100000 in
set_option maxHeartbeats 1000000 in
theorem fixedR_any (a0 a1 a2 a3 : Nat) (w : World) :
    Calls Tryz.prog 82 #[.agg #[.int .u64 (a0 : Int), .int .u64 (a1 : Int), .int .u64 (a2 : Int), .int .u64 (a3 : Int)]] w fun e w' => e = .returned (.string ⟨(fixL [a0, a1, a2, a3]).toArray⟩) ∧ w.grownBy w' none := by
  have hB := Blk.new w 103 #[.int .u64 (a0 : Int), .int .u64 (a1 : Int), .int .u64 (a2 : Int), .int .u64 (a3 : Int)]
  have hG := only_alloc (World.grownBy.refl w none) (.cells #[.int .u64 (a0 : Int), .int .u64 (a1 : Int), .int .u64 (a2 : Int), .int .u64 (a3 : Int)] 103)
  have hZ : (w.alloc (.cells #[.int .u64 (a0 : Int), .int .u64 (a1 : Int), .int .u64 (a2 : Int), .int .u64 (a3 : Int)] 103)).heap.size = w.heap.size + 1 := by simp
  have HD := Lib.hid (fun m hm V => digit_any a0 a1 a2 a3 m hm V)
  obtain ⟨i0, z0, hi, hz0, hz1, hz2, hz3⟩ := byte_info
  go_enter Tryz.func82, Tryz.ntmps82
  go_upto_region 1 with (fail)
  generalize w.alloc (.cells #[.int .u64 (a0 : Int), .int .u64 (a1 : Int), .int .u64 (a2 : Int), .int .u64 (a3 : Int)] 103) = W at *
  obtain ⟨b, hb⟩ : ∃ b, w.heap.size = b := ⟨_, rfl⟩
  rw [hb] at hB hZ ⊢
  go_wp2_with fail
  go_loopw [3, 4] (fun v i wr => ∃ m : Nat, i = .int .i64 (31 - (m : Int)) ∧ m ≤ 32 ∧ wr.ownsRow (b + 1) 5 1 v m (u8s ((fixL [a0, a1, a2, a3]).take m)) ∧ Blk wr b 103 #[.int .u64 (a0 : Int), .int .u64 (a1 : Int), .int .u64 (a2 : Int), .int .u64 (a3 : Int)] ∧ w.grownBy wr none ∧ b + 1 ≤ wr.heap.size) (fun _ i _ => (1 + intOf i).toNat)
  case atStart => exact ⟨0, rfl, by omega, World.ownsRow_nil _ _ _ _, hB, hG, by omega⟩
  case round =>
    clear hB hG hZ
    obtain ⟨m, rfl, hm, hO, hB, hG, hsz⟩ := hrel
    by_cases hlt : m < 32
    · obtain ⟨p, hp⟩ : ∃ p, 31 - m = p := ⟨_, rfl⟩
      have d0 : (0 : Int) ≤ 31 - (m : Int) := by omega
      have e0 : 31 - (m : Int) = (p : Int) := by omega
      rw [e0] at d0 ⊢
      have hst := fixL_take [a0, a1, a2, a3] m hlt
      rw [hp] at hst
      have hdg := fun V => HD.out p (by omega) V
      generalize fixAt [a0, a1, a2, a3] p = z at *
      have HDG := Lib.hid hdg; have HS := Lib.hid hst
      have c0 := hB.cell 0; have c1 := hB.cell 1; have c2 := hB.cell 2; have c3 := hB.cell 3
      simp only [List.getElem?_toArray, List.getElem?_cons_zero, List.getElem?_cons_succ] at c0 c1 c2 c3
      have p7 : IntKind.u8.wrap (z.toNat : Int) = (z.toNat : Int) := by have := z.toNat_lt; simp [IntKind.wrap, IntKind.bits, IntKind.signed]; omega
      have d9 : (p : Int) ≤ 31 := by omega
      have HP0 := Lib.hid e0
      clear hdg hst hp e0
      obtain ⟨A, cc, rfl, _⟩ := own_slice hO
      go_wp2_with fail
      refine (HDG.out _).mono ?_
      rintro e w2 ⟨rfl, hg2⟩
      have hB := hB.grown hg2 (by simp)
      have hO := hO.kept hg2 (by cases A; exact .inl rfl; exact .inr (by simp [Value.ownBlock]))
      have hsz2 := hg2.size
      have hG := grown_self hG hg2 (by simp)
      clear c0 c1 c2 c3
      go_wp2_with (at_builtin; refine wpList_append_own _ rfl _ _ 36 rfl (b + 1) 5 i0 z0 1 1 Tryz.underlying36 hi hz0 hz1 hz2 hz3 (by decide) _ _ _ rfl (hO.alloc _) ⟨w2.heap.size, 0, none⟩ 1 1 [.int .u8 (z.toNat : Int)] rfl rfl (cell_one_new _ _ _) (by simp [Value.oneCell']) (by simp only [maxLen]; omega) (by omega) (by simp; omega) ?_; intro v' w4 hown4 hgrow _)
      obtain ⟨g', cap', rfl⟩ := ownsRow_succ hown4
      have hne : ∀ k, Value.ownBlock (.slice A m cc) = some k → b + 1 ≤ k := fun k hk => own_ge hO hk
      go_wp2_with fail
      go_roundw
      case rel =>
        refine ⟨m + 1, by have := HP0.out; simp; omega, by omega, by rw [HS.out]; exact hown4, ?_, ?_, ?_⟩
        · exact (hB.alloc _).grown hgrow (fun e => by have := hne b e.symm; omega)
        · exact grown_self (only_alloc hG _) hgrow (fun j hj => .inr (by have := hne j hj; omega))
        · have := hgrow.size; simp at this; omega
      case measure => simp [intOf]; omega
    · have hm : m = 32 := by omega
      have e32 : (fixL [a0, a1, a2, a3]).take m = fixL [a0, a1, a2, a3] := by rw [hm, List.take_of_length_le (by rw [fixL_len]; omega)]
      rw [e32] at hO
      have hfin : decide ((0 : Int) ≤ 31 - (m : Int)) = false := by simp; omega
      have hcv := conv_own hO
      obtain ⟨qq, hqq⟩ : ∃ x, fixL [a0, a1, a2, a3] = x := ⟨_, rfl⟩
      rw [hqq] at hcv
      have HQ := Lib.hid hqq
      have d2 : (31 : Int) - (m : Int) < 0 := by omega
      clear e32 hqq hO hm
      go_wp2_with fail
      go_ret
      exact ⟨by rw [HQ.out]; rfl, hG⟩

set_option maxRecDepth 100000 in
set_option maxHeartbeats 1000000 in
theorem bytesR_any (a0 a1 a2 a3 : Nat) (h0 : a0 < 18446744073709551616) (h1 : a1 < 18446744073709551616) (h2 : a2 < 18446744073709551616) (h3 : a3 < 18446744073709551616) (w : World) :
    Calls Tryz.prog 70 #[.agg #[.int .u64 (a0 : Int), .int .u64 (a1 : Int), .int .u64 (a2 : Int), .int .u64 (a3 : Int)]] w fun e w' => e = .returned (.string ⟨(beN (wordN a0 a1 a2 a3)).toArray⟩) ∧ w.grownBy w' none := by
  have hB := Blk.new w 103 #[.int .u64 (a0 : Int), .int .u64 (a1 : Int), .int .u64 (a2 : Int), .int .u64 (a3 : Int)]
  have hG := only_alloc (World.grownBy.refl w none) (.cells #[.int .u64 (a0 : Int), .int .u64 (a1 : Int), .int .u64 (a2 : Int), .int .u64 (a3 : Int)] 103)
  have HF := Lib.hid (fun V => fixedR_any a0 a1 a2 a3 V)
  have HE : Hid (trimL (fixL [a0, a1, a2, a3]) = beN (wordN a0 a1 a2 a3)) := Lib.hid (by rw [fixL_be _ _ _ _ h0 h1 h2 h3]; rfl)
  have HL : Hid ((fixL [a0, a1, a2, a3]).length = 32) := Lib.hid (fixL_len _)
  go_enter Tryz.func70, Tryz.ntmps70
  go_wp2_with fail
  refine (HF.out _).mono ?_
  rintro e w2 ⟨rfl, hg⟩
  have hG := Lib.hid (grown_self hG hg (by simp))
  obtain ⟨q, hq⟩ : ∃ q, fixL [a0, a1, a2, a3] = q := ⟨_, rfl⟩
  rw [hq] at HE HL ⊢
  clear hg hB hq
  go_wp2_with fail
  go_loop [3] (fun v => ∃ t : ByteArray, v = .string t ∧ t.size ≤ 32 ∧ Hid (trimL t.data.toList = trimL q)) (fun v => strSize v)
  case atStart => exact ⟨⟨q.toArray⟩, rfl, by show q.toArray.size ≤ 32; rw [List.size_toArray, HL.out]; omega, Lib.hid rfl⟩
  case round =>
    obtain ⟨t, rfl, ht, hT⟩ := hrel
    have HT := Lib.hid hT.out
    clear hT
    cases hl : t.data.toList with
    | nil =>
      have hz : t.size = 0 := by have := congrArg List.length hl; rw [Array.length_toList] at this; exact this
      have he : t = ⟨#[]⟩ := ba_ext hl
      have HN : Hid (trimL q = []) := Lib.hid (by rw [← HT.out, hl]; rfl)
      subst he
      clear hl hz HT
      go_wp2_with fail
      go_ret
      exact ⟨by rw [← HE.out, HN.out]; rfl, hG.out⟩
    | cons x r =>
      have hz := size_cons hl
      have d1 : 0 < t.size := by omega
      have hx : t[0]'d1 = x := by
        have e : t.data.toList[0]? = some x := by rw [hl]; rfl
        have e2 : t.data[0]? = some x := by simpa using e
        obtain ⟨_, e3⟩ := Array.getElem?_eq_some_iff.1 e2
        exact e3
      have HZ := Lib.hid hz
      clear hz
      have d2 : (0 : Int) < (t.size : Int) := by omega
      have d3 : (1 : Int) ≤ (t.size : Int) := by omega
      have d4 : 1 ≤ t.size := by omega
      by_cases hxc : x = 0
      · have e1 : ((x.toNat : Int) == 0) = true := by rw [hxc]; rfl
        have HN : Hid (trimL (t.extract 1 t.size).data.toList = trimL q) := Lib.hid (by
          rw [extract_tail hl, ← HT.out, hl]
          show _ = List.dropWhile _ _
          rw [List.dropWhile_cons_of_pos (by simp [hxc])]; rfl)
        have HSZ : Hid ((t.extract 1 t.size).size = t.size - 1) := Lib.hid (by simp)
        clear hl HT hxc
        go_wp2_with fail
        exact ⟨⟨_, rfl, by have := HSZ.out; omega, HN⟩, by show (t.extract 1 t.size).size < t.size; have := HSZ.out; omega⟩
      · have e1 : ((x.toNat : Int) == 0) = false := by
          rw [beq_eq_false_iff_ne]; intro e; exact hxc (UInt8.toNat_inj.1 (by simp; omega))
        have HN : Hid (trimL q = t.data.toList) := Lib.hid (by
          rw [← HT.out, hl]
          show List.dropWhile _ _ = _
          rw [List.dropWhile_cons_of_neg (by simp [hxc])])
        clear hl HT hxc
        go_wp2_with fail
        go_ret
        exact ⟨by rw [← HE.out, HN.out]; rfl, hG.out⟩

set_option maxRecDepth 100000 in
theorem beR_any (n : Nat) (hn : n < 18446744073709551616) (w : World) :
    Calls Tryz.prog 48 #[.int .u64 (n : Int)] w fun e w' => e = .returned (.string ⟨(beN n).toArray⟩) ∧ w.grownBy w' none := by
  have hb := fun V => bytesR_any n 0 0 0 hn (by omega) (by omega) (by omega) V
  rw [show wordN n 0 0 0 = n by unfold wordN; omega] at hb
  have HB := Lib.hid hb
  clear hb
  go_enter Tryz.func48, Tryz.ntmps48
  go_wp2_with fail
  refine (HB.out _).mono ?_
  rintro e w3 ⟨rfl, hg⟩
  go_wp2_with fail
  go_ret
  exact ⟨rfl, hg⟩
end Go.Proofs.YtagjpbcmhaekpaaGreatDoor
/- Heads: what stands ahead of an item's own bytes. -/
namespace Go.Proofs.YtagjpbcmhaekpaaGreatDoor
open Go.RowKit Go.Shelf
set_option linter.unusedVariables false
set_option linter.unusedSimpArgs false

/-- a head -/
def headL (n base : Nat) : List UInt8 := if n < 56 then [UInt8.ofNat (base + n)] else UInt8.ofNat (base + 55 + (beN n).length) :: beN n

set_option maxRecDepth 100000 in
theorem joinP_any (B : Nat) (A : Option Addr) (n c : Nat) (xs : List ByteArray) (w : World) (hB : B ≤ w.heap.size) (h : Reads w B 1 A n (xs.map Value.string)) (hnm : n ≤ 1000000) (hnc : n ≤ c) (hlen : (catB xs).length ≤ 140737488355328) :
    Calls Tryz.prog 78 #[.slice A n c] w fun e w' => e = .returned (.string ⟨(catB xs).toArray⟩) ∧ Below w.heap.size w w' := by
  have hj := join_any B A n c xs w hB h hnm hnc hlen
  have HJ := Lib.hid hj
  clear hj h
  go_enter Tryz.func78, Tryz.ntmps78
  go_wp2_with fail
  refine HJ.out.mono ?_
  rintro e w2 ⟨rfl, hb⟩
  go_wp2_with fail
  go_ret
  exact ⟨rfl, hb⟩

/-- two texts joined: the row that holds them is the call's own -/
theorem join_two (s t : ByteArray) (w : World) (hlen : s.size + t.size ≤ 140737488355328) :
    Calls Tryz.prog 78 #[.slice (some ⟨w.heap.size, 0, none⟩) 2 2] (w.alloc (.cells #[.string s, .string t] 9)) fun e w' => e = .returned (.string (s ++ t)) ∧ w.grownBy w' none := by
  have hr : Reads (w.alloc (.cells #[.string s, .string t] 9)) (w.heap.size + 1) 1 (some ⟨w.heap.size, 0, none⟩) 2 ([s, t].map Value.string) := reads_blk (heap_alloc_new w _) (by omega) 2 rfl
  have hc : catB [s, t] = (s ++ t).data.toList := by simp [catB]
  refine (joinP_any (w.heap.size + 1) _ 2 2 [s, t] _ (by simp) hr (by omega) (by omega) (by rw [hc]; rw [ba_toList, List.length_append, ba_len, ba_len]; exact hlen)).mono ?_
  rintro e w' ⟨rfl, hb⟩
  refine ⟨by rw [hc], ?_⟩
  exact grown_self (only_alloc (World.grownBy.refl w none) (.cells #[.string s, .string t] 9)) (grown_of_below hb) (by simp)

theorem u8_small (n : Nat) (h : n < 256) : ((UInt8.ofNat n).toNat : Int) = (n : Int) := by
  rw [UInt8.toNat_ofNat']; omega
theorem one_u8 (n : Nat) (h : n < 256) : IntKind.u8.wrap (n : Int) = ((UInt8.ofNat n).toNat : Int) := by
  rw [u8_small n h]
  simp [IntKind.wrap, IntKind.bits, IntKind.signed]; omega
/-- a row of one byte as text -/
theorem conv_one (w : World) (z : UInt8) : (convert 36 9 (.slice (some ⟨w.heap.size, 0, none⟩) 1 1)).run Tryz.prog (w.alloc (.cells #[.int .u8 (z.toNat : Int)] 5)) = .ok (.string ⟨#[z]⟩) (w.alloc (.cells #[.int .u8 (z.toNat : Int)] 5)) :=
  conv_own (own_new1 w z)

set_option maxRecDepth 100000 in
set_option maxHeartbeats 1000000 in
theorem headP_any (n base : Nat) (hn : n ≤ 1000000000) (hb : base ≤ 192) (w : World) :
    Calls Tryz.prog 79 #[.int .i64 (n : Int), .int .i64 (base : Int)] w fun e w' => e = .returned (.string ⟨(headL n base).toArray⟩) ∧ w.grownBy w' none := by
  by_cases h : n < 56
  · have hh : headL n base = [UInt8.ofNat (base + n)] := if_pos h
    have v1 : IntKind.i64.wrap ((base : Int) + (n : Int)) = (base : Int) + (n : Int) := IntWalk.i64_in _ (by omega)
    have v2 : IntKind.u8.wrap ((base : Int) + (n : Int)) = ((UInt8.ofNat (base + n)).toNat : Int) := by rw [show (base : Int) + (n : Int) = ((base + n : Nat) : Int) by omega]; exact one_u8 _ (by omega)
    have d1 : (n : Int) < 56 := by omega
    have hcv := conv_one w (UInt8.ofNat (base + n))
    have HH := Lib.hid hh
    generalize UInt8.ofNat (base + n) = z at *
    clear hh
    go_enter Tryz.func79, Tryz.ntmps79
    go_wp2_with fail
    go_ret
    exact ⟨by rw [HH.out]; rfl, only_alloc (World.grownBy.refl w none) _⟩
  · have hh : headL n base = UInt8.ofNat (base + 55 + (beN n).length) :: beN n := if_neg h
    have d1 : decide ((n : Int) < 56) = false := decide_eq_false (by omega)
    have hl := beN_len8 n (by omega)
    have HB := Lib.hid (fun V => be_any n (by omega) V)
    have v0 : IntKind.u64.wrap (n : Int) = (n : Int) := by simp [IntKind.wrap, IntKind.bits, IntKind.signed]; omega
    have v1 : IntKind.i64.wrap ((base : Int) + 56) = (base : Int) + 56 := IntWalk.i64_in _ (by omega)
    have v2 : IntKind.i64.wrap ((base : Int) + 56 - 1) = (base : Int) + 55 := by rw [IntWalk.i64_in _ (by omega)]; omega
    obtain ⟨q, hq⟩ : ∃ q, beN n = q := ⟨_, rfl⟩
    rw [hq] at hh hl HB
    have v3 : IntKind.i64.wrap ((base : Int) + 55 + (q.length : Int)) = (base : Int) + 55 + (q.length : Int) := IntWalk.i64_in _ (by omega)
    have v4 : IntKind.u8.wrap ((base : Int) + 55 + (q.length : Int)) = ((UInt8.ofNat (base + 55 + q.length)).toNat : Int) := by rw [show (base : Int) + 55 + (q.length : Int) = ((base + 55 + q.length : Nat) : Int) by omega]; exact one_u8 _ (by omega)
    have HH := Lib.hid hh
    obtain ⟨z, hz⟩ : ∃ z, UInt8.ofNat (base + 55 + q.length) = z := ⟨_, rfl⟩
    rw [hz] at v4 HH
    have e1 : (base : Int) + 56 - 1 = (base : Int) + 55 := by omega
    clear hh hq hz
    go_enter Tryz.func79, Tryz.ntmps79
    go_wp2_with fail
    refine (HB.out _).mono ?_
    rintro e w2 ⟨rfl, hg⟩
    have hcv := conv_one w2 z
    have hz0 : q.toArray.size = q.length := by simp
    go_wp2_with fail
    have hj := join_two ⟨#[z]⟩ ⟨q.toArray⟩ (w2.alloc (.cells #[.int .u8 (z.toNat : Int)] 5)) (by show 1 + q.toArray.size ≤ _; omega)
    rw [World.size_alloc] at hj
    have hG := only_alloc hg (.cells #[.int .u8 (z.toNat : Int)] 5)
    refine hj.mono ?_
    rintro e w3 ⟨rfl, hg3⟩
    have hG := Lib.hid (grown_self hG hg3 (by simp))
    clear hg hg3 hj hcv
    go_wp2_with fail
    go_ret
    refine ⟨?_, hG.out⟩
    rw [HH.out]
    show Ending.returned (.string (⟨#[z]⟩ ++ ⟨q.toArray⟩)) = _
    congr 2

set_option maxRecDepth 100000 in
set_option maxHeartbeats 1000000 in
theorem headed_any (s : ByteArray) (base : Nat) (hs : s.size ≤ 1000000000) (hb : base ≤ 192) (w : World) :
    Calls Tryz.prog 66 #[.string s, .int .i64 (base : Int)] w fun e w' => e = .returned (.string ⟨(headL s.size base ++ s.data.toList).toArray⟩) ∧ w.grownBy w' none := by
  have HH := Lib.hid (fun V => headP_any s.size base hs hb V)
  have hl : (headL s.size base).length ≤ 9 := by
    unfold headL
    have := beN_len8 s.size (by omega)
    split <;> simp; omega
  obtain ⟨q, hq⟩ : ∃ q, headL s.size base = q := ⟨_, rfl⟩
  rw [hq] at HH hl
  have HQ := Lib.hid hq
  clear hq
  go_enter Tryz.func66, Tryz.ntmps66
  go_wp2_with fail
  refine (HH.out _).mono ?_
  rintro e w2 ⟨rfl, hg⟩
  go_wp2_with fail
  have hj := join_two ⟨q.toArray⟩ s w2 (by show q.toArray.size + s.size ≤ _; rw [List.size_toArray]; omega)
  refine hj.mono ?_
  rintro e w3 ⟨rfl, hg3⟩
  have hG := Lib.hid (grown_self hg hg3 (by simp))
  clear hg hg3 hj
  go_wp2_with fail
  go_ret
  refine ⟨?_, hG.out⟩
  rw [HQ.out]
  show Ending.returned (.string (⟨q.toArray⟩ ++ s)) = _
  congr 2

end Go.Proofs.YtagjpbcmhaekpaaGreatDoor
/- A head: the document's. -/
namespace Go.Proofs.YtagjpbcmhaekpaaGreatDoor
open Go.RowKit Go.Shelf
set_option linter.unusedVariables false
set_option linter.unusedSimpArgs false

set_option maxRecDepth 100000 in
set_option maxHeartbeats 1000000 in
theorem headR_any (n base : Nat) (hn : n ≤ 1000000000) (hb : base ≤ 192) (w : World) :
    Calls Tryz.prog 49 #[.int .i64 (n : Int), .int .i64 (base : Int)] w fun e w' => e = .returned (.string ⟨(headL n base).toArray⟩) ∧ w.grownBy w' none := by
  by_cases h : n < 56
  · have hh : headL n base = [UInt8.ofNat (base + n)] := if_pos h
    have v1 : IntKind.i64.wrap ((base : Int) + (n : Int)) = (base : Int) + (n : Int) := IntWalk.i64_in _ (by omega)
    have v2 : IntKind.u8.wrap ((base : Int) + (n : Int)) = ((UInt8.ofNat (base + n)).toNat : Int) := by rw [show (base : Int) + (n : Int) = ((base + n : Nat) : Int) by omega]; exact one_u8 _ (by omega)
    have d1 : (n : Int) < 56 := by omega
    have hcv := conv_one w (UInt8.ofNat (base + n))
    have HH := Lib.hid hh
    generalize UInt8.ofNat (base + n) = z at *
    clear hh
    go_enter Tryz.func49, Tryz.ntmps49
    go_wp2_with fail
    go_ret
    exact ⟨by rw [HH.out]; rfl, only_alloc (World.grownBy.refl w none) _⟩
  · have hh : headL n base = UInt8.ofNat (base + 55 + (beN n).length) :: beN n := if_neg h
    have d1 : decide ((n : Int) < 56) = false := decide_eq_false (by omega)
    have hl := beN_len8 n (by omega)
    have HB := Lib.hid (fun V => beR_any n (by omega) V)
    have v0 : IntKind.u64.wrap (n : Int) = (n : Int) := by simp [IntKind.wrap, IntKind.bits, IntKind.signed]; omega
    have v1 : IntKind.i64.wrap ((base : Int) + 55) = (base : Int) + 55 := IntWalk.i64_in _ (by omega)
    obtain ⟨q, hq⟩ : ∃ q, beN n = q := ⟨_, rfl⟩
    rw [hq] at hh hl HB
    have v3 : IntKind.i64.wrap ((base : Int) + 55 + (q.length : Int)) = (base : Int) + 55 + (q.length : Int) := IntWalk.i64_in _ (by omega)
    have v4 : IntKind.u8.wrap ((base : Int) + 55 + (q.length : Int)) = ((UInt8.ofNat (base + 55 + q.length)).toNat : Int) := by rw [show (base : Int) + 55 + (q.length : Int) = ((base + 55 + q.length : Nat) : Int) by omega]; exact one_u8 _ (by omega)
    have HH := Lib.hid hh
    obtain ⟨z, hz⟩ : ∃ z, UInt8.ofNat (base + 55 + q.length) = z := ⟨_, rfl⟩
    rw [hz] at v4 HH
    have hqs : (⟨q.toArray⟩ : ByteArray).size = q.length := by show q.toArray.size = _; simp
    have hsum : (1 : Nat) + (⟨q.toArray⟩ : ByteArray).size ≤ 9223372036854775807 := by rw [hqs]; omega
    have hcat : ∀ V, (binOp .add 9 (.string ⟨#[z]⟩) (.string ⟨q.toArray⟩)).run Tryz.prog V = .ok (.string (⟨#[z]⟩ ++ ⟨q.toArray⟩)) V := fun V => run_string_add_sum (P := Tryz.prog) V ⟨#[z]⟩ ⟨q.toArray⟩ hsum
    clear hh hq hz
    go_enter Tryz.func49, Tryz.ntmps49
    go_wp2_with fail
    refine (HB.out _).mono ?_
    rintro e w2 ⟨rfl, hg⟩
    have hcv := conv_one w2 z
    have hz0 : q.toArray.size = q.length := by simp
    have hG := Lib.hid (only_alloc hg (.cells #[.int .u8 (z.toNat : Int)] 5))
    go_wp2_with fail
    go_ret
    refine ⟨?_, hG.out⟩
    rw [HH.out]
    show Ending.returned (.string (⟨#[z]⟩ ++ ⟨q.toArray⟩)) = _
    congr 2
end Go.Proofs.YtagjpbcmhaekpaaGreatDoor
