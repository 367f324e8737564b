/- Merged: NumP, BeV, FldP, UnrA, Wrd, Builder, BldF. -/
import Derived.Test.YthalohloneojlaaGreatDoorMi1
import Derived.Laws.IdiomStrings
import Derived.Deep.MidRow
import Derived.Deep.DeepCutAuto
import Derived.Shelf.Strings.Builder1
import Derived.Lib.Builder
import Derived.Lib.AppendStr
import Derived.Shelf.Strings.BuilderF
/- Numbers as bytes: plain laws. -/
namespace Go.Proofs.YthalohloneojlaaGreatDoor
open Go.RowKit
set_option linter.unusedVariables false
set_option linter.unusedSimpArgs false

/-- a number's bytes, so many, the highest ones first -/
def beFix : Nat → Nat → List UInt8
  | 0, _ => []
  | k + 1, n => beFix k (n / 256) ++ [UInt8.ofNat (n % 256)]
def trimC (c : UInt8) (l : List UInt8) : List UInt8 := l.dropWhile (· == c)
abbrev trimL (l : List UInt8) : List UInt8 := trimC 0 l
/-- no more than it needs -/
def beN (n : Nat) : List UInt8 := trimL (beFix 32 n)
theorem beFix_len (k n : Nat) : (beFix k n).length = k := by
  induction k generalizing n with
  | zero => rfl
  | succ k ih => simp [beFix, ih]
theorem beFix_get (k n i : Nat) (h : i < k) : (beFix k n)[i]? = some (UInt8.ofNat (n / 256 ^ (k - 1 - i) % 256)) := by
  induction k generalizing n with
  | zero => omega
  | succ k ih =>
    unfold beFix
    by_cases hi : i < k
    · rw [List.getElem?_append_left (by rw [beFix_len]; exact hi), ih _ hi, Nat.div_div_eq_div_mul, show k + 1 - 1 - i = (k - 1 - i) + 1 by omega, Nat.pow_succ, Nat.mul_comm]
    · rw [List.getElem?_append_right (by rw [beFix_len]; omega), beFix_len, show i - k = 0 by omega, show k + 1 - 1 - i = 0 by omega]
      simp
theorem beFix_zero (k : Nat) : beFix k 0 = List.replicate k 0 := by
  induction k with
  | zero => rfl
  | succ k ih => rw [beFix, ih, List.replicate_succ']; rfl
theorem trimC_snoc (c : UInt8) (l : List UInt8) (x : UInt8) : trimC c (l ++ [x]) = if trimC c l = [] then (if x == c then [] else [x]) else trimC c l ++ [x] := by
  unfold trimC
  induction l with
  | nil => by_cases h : (x == c) = true <;> simp [List.dropWhile, h]
  | cons a l ih =>
    by_cases h : (a == c) = true
    · simp only [List.cons_append, List.dropWhile_cons, h, if_true]; exact ih
    · simp [List.dropWhile_cons, h]
/-- the numbers' bytes by how many there are -/
theorem trim_fix (k n : Nat) (h : n < 256 ^ k) : trimL (beFix (k + 1) n) = trimL (beFix k n) := by
  induction k generalizing n with
  | zero =>
    obtain rfl : n = 0 := by simpa using h
    decide
  | succ k ih =>
    rw [show trimL (beFix (k + 1 + 1) n) = trimC 0 (beFix (k + 1) (n / 256) ++ [UInt8.ofNat (n % 256)]) from rfl, show trimL (beFix (k + 1) n) = trimC 0 (beFix k (n / 256) ++ [UInt8.ofNat (n % 256)]) from rfl]
    rw [trimC_snoc, trimC_snoc]
    have := ih (n / 256) (by rw [Nat.pow_succ] at h; exact Nat.div_lt_of_lt_mul (by rw [Nat.mul_comm]; exact h))
    have e : trimC 0 (beFix (k + 1) (n / 256)) = trimC 0 (beFix k (n / 256)) := this
    rw [e]
theorem beN_fix (k n : Nat) (hk : k ≤ 32) (h : n < 256 ^ k) : beN n = trimL (beFix k n) := by
  obtain ⟨d, hd⟩ : ∃ d, 32 = k + d := ⟨32 - k, by omega⟩
  unfold beN
  rw [hd]
  clear hd hk
  induction d with
  | zero => rfl
  | succ d ih =>
    rw [← Nat.add_assoc, trim_fix (k + d) n (Nat.lt_of_lt_of_le h (Nat.pow_le_pow_right (by omega) (by omega)))]
    exact ih
theorem beN_zero : beN 0 = [] := by rw [beN_fix 0 0 (by omega) (by decide)]; rfl
theorem beN_small (n : Nat) (h0 : 0 < n) (h : n < 256) : beN n = [UInt8.ofNat n] := by
  rw [beN_fix 1 n (by omega) (by simpa using h)]
  show trimC 0 ([] ++ [UInt8.ofNat (n % 256)]) = _
  rw [trimC_snoc, if_pos (by rfl), Nat.mod_eq_of_lt h, if_neg]
  intro e
  have := congrArg UInt8.toNat (beq_iff_eq.1 e)
  simp [Nat.mod_eq_of_lt h] at this
  omega
theorem beN_step (n : Nat) (h0 : 256 ≤ n) (h : n < 256 ^ 32) : beN n = beN (n / 256) ++ [UInt8.ofNat (n % 256)] := by
  have h2 : n / 256 < 256 ^ 31 := Nat.div_lt_of_lt_mul (by rw [Nat.mul_comm, ← Nat.pow_succ]; exact h)
  rw [beN_fix 31 (n / 256) (by omega) h2]
  unfold beN
  rw [beFix]
  show trimC 0 _ = trimC 0 _ ++ _
  rw [trimC_snoc, if_neg]
  intro e
  have e' : beN (n / 256) = [] := by rw [beN_fix 31 (n / 256) (by omega) h2]; exact e
  clear e
  have key : ∀ k m : Nat, 0 < m → m < 256 ^ k → trimL (beFix k m) ≠ [] := by
    intro k
    induction k with
    | zero => intro m h1 h2; simp at h2; omega
    | succ k ih =>
      intro m h1 h2 e
      rw [beFix] at e
      have e : trimC 0 _ = [] := e
      rw [trimC_snoc] at e
      split at e
      · rename_i g
        split at e
        · rename_i g2
          have g3 : m % 256 = 0 := by
            have := congrArg UInt8.toNat (beq_iff_eq.1 g2)
            simpa using this
          exact ih (m / 256) (by omega) (by rw [Nat.pow_succ] at h2; exact Nat.div_lt_of_lt_mul (by rw [Nat.mul_comm]; exact h2)) g
        · cases e
      · simp at e
  rw [beN_fix 31 (n / 256) (by omega) h2] at e'
  exact key 31 (n / 256) (by omega) h2 e'
theorem beN_two (n : Nat) (h0 : 256 ≤ n) (h : n < 65536) : beN n = [UInt8.ofNat (n / 256), UInt8.ofNat (n % 256)] := by
  have : (65536 : Nat) ≤ 256 ^ 32 := by decide
  rw [beN_step n h0 (by omega), beN_small (n / 256) (by omega) (by omega)]
  rfl
theorem beN_three (n : Nat) (h0 : 65536 ≤ n) (h : n < 16777216) : beN n = [UInt8.ofNat (n / 65536), UInt8.ofNat (n / 256 % 256), UInt8.ofNat (n % 256)] := by
  have : (16777216 : Nat) ≤ 256 ^ 32 := by decide
  rw [beN_step n (by omega) (by omega), beN_two (n / 256) (by omega) (by omega), Nat.div_div_eq_div_mul]
  rfl

/-- a word's number -/
def wordN (a0 a1 a2 a3 : Nat) : Nat := a0 + a1 * 18446744073709551616 + a2 * 340282366920938463463374607431768211456 + a3 * 6277101735386680763835789423207666416102355444464034512896
def fixAt (a : List Nat) (j : Nat) : UInt8 := UInt8.ofNat (a.getD (j / 8) 0 / 2 ^ (j % 8 * 8) % 256)
def fixL (a : List Nat) : List UInt8 := (List.range 32).map fun i => fixAt a (31 - i)
theorem div_low (x R r : Nat) (hr : r < 8) : (x + 18446744073709551616 * R) / 256 ^ r % 256 = x / 2 ^ (r * 8) % 256 := by
  have h : r = 0 ∨ r = 1 ∨ r = 2 ∨ r = 3 ∨ r = 4 ∨ r = 5 ∨ r = 6 ∨ r = 7 := by omega
  rcases h with rfl | rfl | rfl | rfl | rfl | rfl | rfl | rfl <;> simp only [Nat.reducePow, Nat.reduceMul] <;> omega
theorem word_digit (a0 a1 a2 a3 j : Nat) (h0 : a0 < 18446744073709551616) (h1 : a1 < 18446744073709551616) (h2 : a2 < 18446744073709551616) (h3 : a3 < 18446744073709551616) (hj : j < 32) :
    wordN a0 a1 a2 a3 / 256 ^ j % 256 = [a0, a1, a2, a3].getD (j / 8) 0 / 2 ^ (j % 8 * 8) % 256 := by
  have e : (256 : Nat) ^ j = 256 ^ (8 * (j / 8)) * 256 ^ (j % 8) := by rw [← Nat.pow_add]; congr 1; omega
  rw [e, ← Nat.div_div_eq_div_mul]
  have hq : j / 8 = 0 ∨ j / 8 = 1 ∨ j / 8 = 2 ∨ j / 8 = 3 := by omega
  have hr : j % 8 < 8 := by omega
  generalize j % 8 = r at *
  unfold wordN
  rcases hq with hq | hq | hq | hq <;> rw [hq]
  · simp only [Nat.mul_zero, Nat.pow_zero, Nat.div_one]
    show _ = a0 / 2 ^ (r * 8) % 256
    rw [← div_low a0 (a1 + a2 * 18446744073709551616 + a3 * 340282366920938463463374607431768211456) r hr]
    congr 2
    omega
  · rw [show (a0 + a1 * 18446744073709551616 + a2 * 340282366920938463463374607431768211456 + a3 * 6277101735386680763835789423207666416102355444464034512896) / 256 ^ (8 * 1) = a1 + 18446744073709551616 * (a2 + a3 * 18446744073709551616) by simp only [Nat.reduceMul, Nat.reducePow]; omega, div_low _ _ r hr]
    rfl
  · rw [show (a0 + a1 * 18446744073709551616 + a2 * 340282366920938463463374607431768211456 + a3 * 6277101735386680763835789423207666416102355444464034512896) / 256 ^ (8 * 2) = a2 + 18446744073709551616 * a3 by simp only [Nat.reduceMul, Nat.reducePow]; omega, div_low _ _ r hr]
    rfl
  · rw [show (a0 + a1 * 18446744073709551616 + a2 * 340282366920938463463374607431768211456 + a3 * 6277101735386680763835789423207666416102355444464034512896) / 256 ^ (8 * 3) = a3 + 18446744073709551616 * 0 by simp only [Nat.reduceMul, Nat.reducePow]; omega, div_low _ _ r hr]
    rfl
theorem fixL_be (a0 a1 a2 a3 : Nat) (h0 : a0 < 18446744073709551616) (h1 : a1 < 18446744073709551616) (h2 : a2 < 18446744073709551616) (h3 : a3 < 18446744073709551616) : fixL [a0, a1, a2, a3] = beFix 32 (wordN a0 a1 a2 a3) := by
  apply List.ext_getElem?
  intro i
  by_cases hi : i < 32
  · rw [beFix_get _ _ _ hi, word_digit a0 a1 a2 a3 _ h0 h1 h2 h3 (by omega)]
    unfold fixL
    rw [List.getElem?_map, List.getElem?_range hi]
    rfl
  · rw [List.getElem?_eq_none (by simp [fixL]; omega), List.getElem?_eq_none (by rw [beFix_len]; omega)]

/-- what stands after so many rounds -/
def outF (a : List Nat) (m : Nat) : List UInt8 := (List.range 32).map fun i => if 31 - i < m then fixAt a (31 - i) else 0
theorem outF_len (a : List Nat) (m : Nat) : (outF a m).length = 32 := by simp [outF]
theorem outF_zero (a : List Nat) : outF a 0 = List.replicate 32 0 := by
  unfold outF
  simp
  rfl
theorem outF_all (a : List Nat) : outF a 32 = fixL a := by
  unfold outF fixL
  apply List.map_congr_left
  intro i hi
  rw [if_pos (by omega)]
theorem outF_succ (a : List Nat) (m : Nat) (hm : m < 32) : outF a (m + 1) = (outF a m).set (31 - m) (fixAt a m) := by
  unfold outF
  apply List.ext_getElem?
  intro i
  rw [List.getElem?_set]
  by_cases hi : i < 32
  · rw [List.getElem?_map, List.getElem?_range hi]
    by_cases h : 31 - m = i
    · rw [if_pos h, if_pos (by simp; omega)]
      simp only [Option.map_some]
      rw [if_pos (by omega), show 31 - i = m by omega]
    · rw [if_neg h, List.getElem?_map, List.getElem?_range hi]
      simp only [Option.map_some]
      congr 1
      by_cases h2 : 31 - i < m
      · rw [if_pos h2, if_pos (by omega)]
      · rw [if_neg h2, if_neg (by omega)]
  · rw [List.getElem?_eq_none (by simp; omega)]
    split
    · rw [if_neg (by simp; omega)]
    · rw [List.getElem?_eq_none (by simp; omega)]
theorem fixL_len (a : List Nat) : (fixL a).length = 32 := by simp [fixL]
theorem trim_len (c : UInt8) (l : List UInt8) : (trimC c l).length ≤ l.length := List.Sublist.length_le (List.dropWhile_sublist _)
theorem beN_len (n : Nat) : (beN n).length ≤ 32 := by have := trim_len 0 (beFix 32 n); rw [beFix_len] at this; exact this
theorem beN_len8 (n : Nat) (h : n < 18446744073709551616) : (beN n).length ≤ 8 := by
  rw [beN_fix 8 n (by omega) (by simpa using h)]
  have := trim_len 0 (beFix 8 n); rw [beFix_len] at this; exact this
end Go.Proofs.YthalohloneojlaaGreatDoor
/- Bytes as a number, and a number's bytes: plain laws. -/
namespace Go.Proofs.YthalohloneojlaaGreatDoor
open Go.RowKit
set_option linter.unusedVariables false
set_option linter.unusedSimpArgs false

/-- bytes as a number -/
def beV (l : List UInt8) : Nat := l.foldl (fun n b => n * 256 + b.toNat) 0
theorem beV_snoc (l : List UInt8) (b : UInt8) : beV (l ++ [b]) = beV l * 256 + b.toNat := by simp [beV]
theorem beV_fix (k n : Nat) (h : n < 256 ^ k) : beV (beFix k n) = n := by
  induction k generalizing n with
  | zero => simp at h; subst h; rfl
  | succ k ih =>
    rw [beFix, beV_snoc, ih (n / 256) (by rw [Nat.pow_succ] at h; exact Nat.div_lt_of_lt_mul (by rw [Nat.mul_comm]; exact h)), UInt8.toNat_ofNat']
    omega
theorem beV_zero (l : List UInt8) : beV (0 :: l) = beV l := rfl
theorem beV_trim (l : List UInt8) : beV (trimL l) = beV l := by
  induction l with
  | nil => rfl
  | cons a l ih =>
    show beV (List.dropWhile _ _) = _
    by_cases h : a = 0
    · subst h
      rw [List.dropWhile_cons_of_pos (by rfl), beV_zero]; exact ih
    · rw [List.dropWhile_cons_of_neg (by simpa using h)]
theorem beV_beN (n : Nat) (h : n < 256 ^ 32) : beV (beN n) = n := by
  unfold beN; rw [beV_trim, beV_fix 32 n h]
theorem beN_inj {n m : Nat} (hn : n ≤ 1000000000) (hm : m ≤ 1000000000) (h : beN n = beN m) : n = m := by
  have h1 : (1000000000 : Nat) < 256 ^ 32 := by decide
  rw [← beV_beN n (by omega), h, beV_beN m (by omega)]
theorem u8_inj {a b : Nat} (ha : a < 256) (hb : b < 256) (h : UInt8.ofNat a = UInt8.ofNat b) : a = b := by
  have := congrArg UInt8.toNat h
  rw [UInt8.toNat_ofNat', UInt8.toNat_ofNat'] at this
  omega
theorem beN_pos {n : Nat} (h : 0 < n) (hn : n ≤ 1000000000) : 1 ≤ (beN n).length := by
  rcases Nat.eq_zero_or_pos (beN n).length with h0 | h0
  · have e := List.eq_nil_of_length_eq_zero h0
    have h1 : (1000000000 : Nat) < 256 ^ 32 := by decide
    have := beV_beN n (by omega)
    rw [e] at this
    have : (0 : Nat) = n := this
    omega
  · exact h0
theorem beV_lt (l : List UInt8) : beV l < 256 ^ l.length := by
  have key : ∀ r : List UInt8, beV r.reverse < 256 ^ r.reverse.length := by
    intro r
    induction r with
    | nil => simp [beV]
    | cons b r ih =>
      rw [List.reverse_cons, beV_snoc, List.length_append, Nat.pow_add]
      have := b.toNat_lt
      simp at *; omega
  have := key l.reverse
  rwa [List.reverse_reverse] at this
theorem fix_beV (t : List UInt8) : beFix t.length (beV t) = t := by
  have key : ∀ r : List UInt8, beFix r.reverse.length (beV r.reverse) = r.reverse := by
    intro r
    induction r with
    | nil => rfl
    | cons b r ih =>
      have hb := b.toNat_lt
      rw [List.reverse_cons, beV_snoc, List.length_append, List.length_singleton, beFix, show (beV r.reverse * 256 + b.toNat) / 256 = beV r.reverse by omega, show (beV r.reverse * 256 + b.toNat) % 256 = b.toNat by omega, ih, UInt8.ofNat_toNat]
  have := key t.reverse
  rwa [List.reverse_reverse] at this
theorem beN_beV (t : List UInt8) (h : t.length ≤ 32) (h0 : t.getD 0 0 ≠ 0) : beN (beV t) = t := by
  rw [beN_fix t.length _ h (beV_lt t), fix_beV]
  cases t with
  | nil => rfl
  | cons a t => exact List.dropWhile_cons_of_neg (by simpa using h0)
theorem beN_first (n : Nat) : beN n = [] ∨ (beN n).getD 0 0 ≠ 0 := by
  have key : ∀ l : List UInt8, trimL l = [] ∨ (trimL l).getD 0 0 ≠ 0 := by
    intro l
    induction l with
    | nil => exact .inl rfl
    | cons a l ih =>
      by_cases h : a = 0
      · subst h
        rw [show trimL (0 :: l) = trimL l from List.dropWhile_cons_of_pos (by rfl)]; exact ih
      · rw [show trimL (a :: l) = a :: l from List.dropWhile_cons_of_neg (by simpa using h)]; exact .inr h
  exact key _
theorem beN_len3 (n : Nat) (h : n < 16777216) : (beN n).length ≤ 3 := by
  rw [beN_fix 3 n (by omega) (by simpa using h)]
  have := trim_len 0 (beFix 3 n); rw [beFix_len] at this; exact this
end Go.Proofs.YthalohloneojlaaGreatDoor
/- A word of bytes: plain laws. -/
namespace Go.Proofs.YthalohloneojlaaGreatDoor
open Go.RowKit
set_option linter.unusedVariables false
set_option linter.unusedSimpArgs false

/-- a word's part -/
def wp (N q : Nat) : Nat := N / 2 ^ (64 * q) % 2 ^ 64
theorem wp_lt (N q : Nat) : wp N q < 18446744073709551616 := Nat.mod_lt _ (by decide)
theorem wp_zero (q : Nat) : wp 0 q = 0 := by unfold wp; simp
theorem wp_add (N m c q : Nat) (hN : N < 2 ^ (8 * m)) (hc : c < 256) : wp (N + c * 2 ^ (8 * m)) q = if q = m / 8 then wp N q + c * 2 ^ (m % 8 * 8) else wp N q := by
  unfold wp
  have hp : ∀ k, 0 < 2 ^ k := fun k => Nat.pow_pos (by omega)
  by_cases h : q = m / 8
  · rw [if_pos h]
    have e : 2 ^ (8 * m) = 2 ^ (64 * q) * 2 ^ (m % 8 * 8) := by rw [← Nat.pow_add]; congr 1; omega
    rw [e] at hN ⊢
    have hx : N / 2 ^ (64 * q) < 2 ^ (m % 8 * 8) := Nat.div_lt_of_lt_mul hN
    have hle : 2 ^ (m % 8 * 8) * 256 ≤ 2 ^ 64 := by
      rw [show (256 : Nat) = 2 ^ 8 from rfl, ← Nat.pow_add]
      exact Nat.pow_le_pow_right (by omega) (by omega)
    rw [show N + c * (2 ^ (64 * q) * 2 ^ (m % 8 * 8)) = N + 2 ^ (64 * q) * (c * 2 ^ (m % 8 * 8)) by rw [Nat.mul_left_comm], Nat.add_mul_div_left _ _ (hp _)]
    generalize N / 2 ^ (64 * q) = x at *
    generalize hP : 2 ^ (m % 8 * 8) = P at *
    have hcP : c * P + P ≤ P * 256 := by
      have : (c + 1) * P ≤ 256 * P := Nat.mul_le_mul_right P (by omega)
      rw [Nat.add_mul] at this; omega
    rw [Nat.mod_eq_of_lt (by omega), Nat.mod_eq_of_lt (by omega)]
  · rw [if_neg h]
    by_cases h2 : q < m / 8
    · have e : 2 ^ (8 * m) = 2 ^ (64 * q) * (2 ^ 64 * 2 ^ (8 * m - 64 * q - 64)) := by rw [← Nat.pow_add, ← Nat.pow_add]; congr 1; omega
      rw [e, show N + c * (2 ^ (64 * q) * (2 ^ 64 * 2 ^ (8 * m - 64 * q - 64))) = N + 2 ^ (64 * q) * (2 ^ 64 * (c * 2 ^ (8 * m - 64 * q - 64))) by
        rw [Nat.mul_left_comm c, Nat.mul_left_comm c], Nat.add_mul_div_left _ _ (hp _), Nat.add_mul_mod_self_left]
    · have hle : 2 ^ (8 * m) * 256 ≤ 2 ^ (64 * q) := by
        rw [show (256 : Nat) = 2 ^ 8 from rfl, ← Nat.pow_add]
        exact Nat.pow_le_pow_right (by omega) (by omega)
      generalize 2 ^ (8 * m) = P at *
      have hcP : c * P + P ≤ P * 256 := by
        have : (c + 1) * P ≤ 256 * P := Nat.mul_le_mul_right P (by omega)
        rw [Nat.add_mul] at this; omega
      rw [Nat.div_eq_of_lt (by omega), Nat.div_eq_of_lt (by omega)]
theorem wp_or (x c s : Nat) (h : x < 2 ^ s) : x ||| c * 2 ^ s = x + c * 2 ^ s := by
  rw [Nat.or_comm, ← Nat.shiftLeft_eq, ← Nat.shiftLeft_add_eq_or_of_lt h, Nat.add_comm]
theorem wp_room (N m : Nat) (hN : N < 2 ^ (8 * m)) : wp N (m / 8) < 2 ^ (m % 8 * 8) := by
  unfold wp
  have e : 2 ^ (8 * m) = 2 ^ (64 * (m / 8)) * 2 ^ (m % 8 * 8) := by rw [← Nat.pow_add]; congr 1; omega
  rw [e] at hN
  exact Nat.lt_of_le_of_lt (Nat.mod_le _ _) (Nat.div_lt_of_lt_mul hN)
/-- the last bytes, as a number -/
def lowN (l : List UInt8) (m : Nat) : Nat := beV (l.drop (l.length - m))
theorem lowN_zero (l : List UInt8) : lowN l 0 = 0 := by unfold lowN; rw [Nat.sub_zero, List.drop_length]; rfl
theorem lowN_lt (l : List UInt8) (m : Nat) : lowN l m < 2 ^ (8 * m) := by
  unfold lowN
  have h := beV_lt (l.drop (l.length - m))
  rw [show (256 : Nat) = 2 ^ 8 from rfl, ← Nat.pow_mul] at h
  refine Nat.lt_of_lt_of_le h (Nat.pow_le_pow_right (by omega) ?_)
  rw [List.length_drop]; omega
theorem beV_cons (b : UInt8) (l : List UInt8) : beV (b :: l) = b.toNat * 256 ^ l.length + beV l := by
  have key : ∀ r : List UInt8, beV (b :: r.reverse) = b.toNat * 256 ^ r.reverse.length + beV r.reverse := by
    intro r
    induction r with
    | nil => simp [beV]
    | cons c r ih =>
      rw [List.reverse_cons, ← List.cons_append, beV_snoc, ih, beV_snoc, List.length_append, List.length_singleton, Nat.pow_succ, Nat.add_mul, ← Nat.mul_assoc, Nat.add_assoc]
  have := key l.reverse
  rwa [List.reverse_reverse] at this
theorem lowN_succ (l : List UInt8) (m : Nat) (h : m < l.length) : lowN l (m + 1) = lowN l m + (l.getD (l.length - 1 - m) 0).toNat * 2 ^ (8 * m) := by
  unfold lowN
  have hi : l.length - (m + 1) < l.length := by omega
  rw [List.drop_eq_getElem_cons hi, beV_cons, List.length_drop, show l.length - (m + 1) + 1 = l.length - m by omega, show l.length - (l.length - m) = m by omega,
    show l.length - 1 - m = l.length - (m + 1) by omega, List.getD_eq_getElem?_getD, List.getElem?_eq_getElem hi, show (256 : Nat) = 2 ^ 8 from rfl, ← Nat.pow_mul, Nat.add_comm]
  rfl
theorem lowN_all (l : List UInt8) : lowN l l.length = beV l := by unfold lowN; rw [Nat.sub_self, List.drop_zero]
theorem lowN_step (l : List UInt8) (m q : Nat) (h : m < l.length) : wp (lowN l (m + 1)) q = if q = m / 8 then wp (lowN l m) q ||| (l.getD (l.length - 1 - m) 0).toNat * 2 ^ (m % 8 * 8) else wp (lowN l m) q := by
  rw [lowN_succ l m h, wp_add _ _ _ _ (lowN_lt l m) (l.getD (l.length - 1 - m) 0).toNat_lt]
  split
  · rename_i e
    rw [wp_or _ _ _ (by rw [e]; exact wp_room _ _ (lowN_lt l m))]
  · rfl
/-- what is wrong with a word's bytes -/
def parseE (l : List UInt8) : Int := if 32 < l.length then 5 else if l.head? = some 0 then 8 else 0
/-- a word's part, of its bytes -/
def parseP (l : List UInt8) (q : Nat) : Nat := if parseE l = 0 then wp (beV l) q else 0
theorem beV_pad (k : Nat) (l : List UInt8) : beV (List.replicate k 0 ++ l) = beV l := by
  induction k with
  | zero => rfl
  | succ k ih => rw [List.replicate_succ, List.cons_append, beV_zero, ih]
theorem wp_word (a0 a1 a2 a3 : Nat) (h0 : a0 < 18446744073709551616) (h1 : a1 < 18446744073709551616) (h2 : a2 < 18446744073709551616) (h3 : a3 < 18446744073709551616) :
    wp (wordN a0 a1 a2 a3) 0 = a0 ∧ wp (wordN a0 a1 a2 a3) 1 = a1 ∧ wp (wordN a0 a1 a2 a3) 2 = a2 ∧ wp (wordN a0 a1 a2 a3) 3 = a3 := by
  unfold wp wordN
  simp only [Nat.reducePow, Nat.reduceMul]
  omega
theorem word_lt (a0 a1 a2 a3 : Nat) (h0 : a0 < 18446744073709551616) (h1 : a1 < 18446744073709551616) (h2 : a2 < 18446744073709551616) (h3 : a3 < 18446744073709551616) : wordN a0 a1 a2 a3 < 256 ^ 32 := by
  unfold wordN
  simp only [Nat.reducePow]
  omega
/-- what is written is read -/
theorem parse_beN (n : Nat) (h : n < 256 ^ 32) : parseE (beN n) = 0 ∧ ∀ q, parseP (beN n) q = wp n q := by
  have hE : parseE (beN n) = 0 := by
    unfold parseE
    rw [if_neg (by have := beN_len n; omega), if_neg]
    rcases beN_first n with e | e
    · rw [e]; simp
    · intro g
      cases hq : beN n with
      | nil => rw [hq] at g; cases g
      | cons a l => rw [hq] at g e; injection g with g; exact e g
  exact ⟨hE, fun q => by unfold parseP; rw [if_pos hE, beV_beN n h]⟩
theorem wp_join (N : Nat) (h : N < 256 ^ 32) : wordN (wp N 0) (wp N 1) (wp N 2) (wp N 3) = N := by
  unfold wp wordN
  simp only [Nat.reducePow, Nat.reduceMul] at *
  omega
/-- what is read is written just so -/
theorem parse_only {l : List UInt8} (h : parseE l = 0) : beN (wordN (parseP l 0) (parseP l 1) (parseP l 2) (parseP l 3)) = l := by
  unfold parseP
  rw [if_pos h, if_pos h, if_pos h, if_pos h]
  unfold parseE at h
  split at h
  · cases h
  rename_i h1
  split at h
  · cases h
  rename_i h2
  have hlt : beV l < 256 ^ 32 := Nat.lt_of_lt_of_le (beV_lt l) (Nat.pow_le_pow_right (by omega) (by omega))
  rw [wp_join _ hlt]
  cases l with
  | nil => exact beN_zero
  | cons a l => exact beN_beV _ (by omega) (fun e => h2 (by rw [show a = 0 from e]; rfl))
end Go.Proofs.YthalohloneojlaaGreatDoor
/- Texts of bytes (for a program without rows of bytes), and the length of a head. -/
namespace Go.Proofs.YthalohloneojlaaGreatDoor
open Go.RowKit Go.Shelf

theorem take_snoc {α : Type} (xs : List α) (k : Nat) (d : α) (hk : k < xs.length) : xs.take (k + 1) = xs.take k ++ [xs.getD k d] := by
  rw [List.take_succ_eq_append_getElem hk, List.getD_eq_getElem?_getD, List.getElem?_eq_getElem hk]; rfl
theorem at_getD {α : Type} {xs : List α} {k : Nat} (d : α) (hk : k < xs.length) : xs[k]? = some (xs.getD k d) := by
  rw [List.getD_eq_getElem?_getD, List.getElem?_eq_getElem hk]; rfl

/-- the number of bytes, the highest one first -/
def valL (l : List UInt8) : Nat := l.foldl (fun n b => n * 256 + b.toNat) 0
theorem valL_snoc (l : List UInt8) (b : UInt8) : valL (l ++ [b]) = valL l * 256 + b.toNat := by simp [valL]
theorem valL_lt (l : List UInt8) : valL l < 256 ^ l.length := by
  have key : ∀ r : List UInt8, valL r.reverse < 256 ^ r.reverse.length := by
    intro r
    induction r with
    | nil => simp [valL]
    | cons b r ih =>
      rw [List.reverse_cons, valL_snoc, List.length_append, Nat.pow_add]
      have := b.toNat_lt
      simp at *; omega
  have := key l.reverse
  rwa [List.reverse_reverse] at this
theorem or_low (n : Nat) (b : UInt8) : n * 256 ||| b.toNat = n * 256 + b.toNat := by
  have := b.toNat_lt
  rw [show n * 256 = n <<< 8 by rw [Nat.shiftLeft_eq], Nat.shiftLeft_add_eq_or_of_lt (by omega)]

/-- the length in the bytes behind a head -/
def lenB (l : List UInt8) (a m : Nat) : Nat := valL ((l.drop (a + 1)).take m)
def lengthE (l : List UInt8) (a m : Nat) : Int := if 3 < m then 5 else if l.length < a + 1 + m then 3 else if (l.getD (a + 1) 0).toNat = 0 ∨ lenB l a m < 56 then 8 else 0
theorem lenB_lt (l : List UInt8) (a m : Nat) (hm : m ≤ 3) : lenB l a m ≤ 16777215 := by
  unfold lenB
  have h1 := valL_lt ((l.drop (a + 1)).take m)
  have h2 : ((l.drop (a + 1)).take m).length ≤ 3 := by rw [List.length_take]; omega
  have h3 : 256 ^ ((l.drop (a + 1)).take m).length ≤ 256 ^ 3 := Nat.pow_le_pow_right (by omega) h2
  have h4 : (256 : Nat) ^ 3 = 16777216 := rfl
  omega
theorem lenB_succ (l : List UInt8) (a k : Nat) (h : a + 1 + k < l.length) : lenB l a (k + 1) = lenB l a k * 256 + (l.getD (a + 1 + k) 0).toNat := by
  unfold lenB
  rw [take_snoc _ k 0 (by rw [List.length_drop]; omega), valL_snoc]
  congr 2
  rw [List.getD_eq_getElem?_getD, List.getElem?_drop, List.getD_eq_getElem?_getD]

theorem results_ct {P : Program} {fn : Func} {p q : Tmp} {t : TypeId} (h : fn.results = #[.cell p t, .tmp q]) (tmps : Array Value) (w : World) (a : Addr) (x : Value) (hp : tmps.getD p undef = .pointer (some a))
    (hx : (loadVar t a).run P w = .ok x w) : (results fn tmps).run P w = .ok (.tuple #[x, tmps.getD q undef]) w := by
  have hp' : tmps[p]?.getD undef = .pointer (some a) := by simpa using hp
  simp [results, h, hp', asAddr, hx]
theorem load_own {w : World} {g : Nat} {a b c : Value} (hg : Blk w g 153 #[a, b, c]) : (loadVar 153 ⟨g, 0, none⟩).run Tryz.prog w = .ok (.agg #[a, b, c]) w :=
  run_loadVar_row w g 153 153 _ (0, 0) _ hg Tryz.underlying153 rfl (by kernel_rfl)

set_option maxRecDepth 100000 in
set_option maxHeartbeats 2000000 in
theorem length_any (s : ByteArray) (a m : Nat) (ha : a < s.size) (hs : s.size ≤ 9223372036854775807) (hm : 1 ≤ m) (hm8 : m ≤ 8) (w : World) :
    Calls Tryz.prog 123 #[.string s, .int .i64 (a : Int), .int .i64 (m : Int)] w fun e w' => e = .returned (.tuple #[.agg #[.int .i64 (if lengthE s.data.toList a m = 0 then ((a + 1 + m : Nat) : Int) else 0), .int .i64 (if lengthE s.data.toList a m = 0 then ((lenB s.data.toList a m : Nat) : Int) else 0), .bool false], .int .i64 (lengthE s.data.toList a m)]) ∧ w.grownBy w' none := by
  obtain ⟨l, hl⟩ : ∃ l, s.data.toList = l := ⟨_, rfl⟩
  have hlz : l.length = s.size := by rw [← hl, ba_len]
  rw [hl]
  have HS := Lib.hid hl; have HZ := Lib.hid hlz
  clear hl hlz
  have hw0 := Blk.new w 153 #[.int .i64 0, .int .i64 0, .bool false]
  have hG0 : w.grownBy (w.alloc (.cells #[.int .i64 0, .int .i64 0, .bool false] 153)) none := only_alloc (World.grownBy.refl _ _) _
  by_cases h1 : 3 < m
  · have hE : lengthE l a m = 5 := by unfold lengthE; rw [if_pos h1]
    rw [hE]
    have d1 : decide ((3 : Int) < (m : Int)) = true := decide_eq_true (by omega)
    have d1' : decide (3 < m) = true := decide_eq_true h1
    clear hE
    go_enter Tryz.func123, Tryz.ntmps123
    go_wp2_with fail
    refine bodyPost_ret (results_ct (fn := Tryz.f123) rfl _ _ _ _ rfl (load_own hw0)) rfl ?_
    exact ⟨by simp, hG0⟩
  have d1 : decide ((3 : Int) < (m : Int)) = false := decide_eq_false (by omega)
  have d1' : decide (3 < m) = false := decide_eq_false h1
  have v1 : IntKind.i64.wrap ((s.size : Int) - (a : Int)) = (s.size : Int) - (a : Int) := IntWalk.i64_in _ (by omega)
  have v2 : IntKind.i64.wrap ((s.size : Int) - (a : Int) - 1) = (s.size : Int) - (a : Int) - 1 := IntWalk.i64_in _ (by omega)
  by_cases h2 : s.size < a + 1 + m
  · have hE : lengthE l a m = 3 := by unfold lengthE; rw [if_neg h1, if_pos (by have := HZ.out; omega)]
    rw [hE]
    have d2 : decide ((s.size : Int) - (a : Int) - 1 < (m : Int)) = true := decide_eq_true (by omega)
    have d2' : (s.size : Int) - (a : Int) - 1 < (m : Int) := by omega
    clear hE
    go_enter Tryz.func123, Tryz.ntmps123
    go_wp2_with fail
    refine bodyPost_ret (results_ct (fn := Tryz.f123) rfl _ _ _ _ rfl (load_own hw0)) rfl ?_
    exact ⟨by simp, hG0⟩
  have d2 : decide ((s.size : Int) - (a : Int) - 1 < (m : Int)) = false := decide_eq_false (by omega)
  have d2' : ¬ ((s.size : Int) - (a : Int) - 1 < (m : Int)) := by omega
  have hE0 : lengthE l a m = if (l.getD (a + 1) 0).toNat = 0 ∨ lenB l a m < 56 then 8 else 0 := by unfold lengthE; rw [if_neg h1, if_neg (by have := HZ.out; omega)]
  have hl1 : a + 1 < l.length := by have := HZ.out; omega
  have hid1 : ∀ W, (Instr.index 9 (.string s) (.int .i64 ((a : Int) + 1))).run Tryz.prog W = .ok (.int .u8 ((l.getD (a + 1) 0).toNat : Int)) W := fun W => by
    have := idx_str s (a + 1) (l.getD (a + 1) 0) (by rw [HS.out]; exact at_getD 0 hl1) W
    simpa using this
  have hv := lenB_lt l a m (by omega)
  have hcl := (l.getD (a + 1) 0).toNat_lt
  obtain ⟨c, hc⟩ : ∃ c, (l.getD (a + 1) 0).toNat = c := ⟨_, rfl⟩
  obtain ⟨V, hV⟩ : ∃ v, lenB l a m = v := ⟨_, rfl⟩
  rw [hc] at hE0 hcl hid1
  rw [hV] at hE0 hv ⊢
  obtain ⟨E, hE⟩ : ∃ e, lengthE l a m = e := ⟨_, rfl⟩
  rw [hE] at hE0 ⊢
  have HE0 := Lib.hid hE0; have HV := Lib.hid hV
  clear hE0 hE hV hc
  have e1 : IntKind.i64.wrap ((a : Int) + 1) = (a : Int) + 1 := IntWalk.i64_in _ (by omega)
  have e3 : IntKind.i64.wrap ((a : Int) + 1 + (m : Int)) = (a : Int) + 1 + (m : Int) := IntWalk.i64_in _ (by omega)
  go_enter Tryz.func123, Tryz.ntmps123
  go_wp2_with fail
  go_loopw [8, 22] (fun n i wr => ∃ k : Nat, i = .int .i64 (k : Int) ∧ k ≤ m ∧ n = .int .i64 (lenB l a k : Nat) ∧ wr = w.alloc (.cells #[.int .i64 0, .int .i64 0, .bool false] 153)) (fun _ i _ => m - (intOf i).toNat)
  case atStart => exact ⟨0, rfl, by omega, by simp [lenB, valL], by first | rfl | trivial⟩
  case round =>
    obtain ⟨k, rfl, hk, rfl, rfl⟩ := hrel
    by_cases hlt : k < m
    · have hl1 : a + 1 + k < l.length := by have := HZ.out; omega
      have hsn := lenB_succ l a k hl1
      have hid : ∀ W, (Instr.index 9 (.string s) (.int .i64 ((a : Int) + 1 + (k : Int)))).run Tryz.prog W = .ok (.int .u8 ((l.getD (a + 1 + k) 0).toNat : Int)) W := fun W => by
        have := idx_str s (a + 1 + k) (l.getD (a + 1 + k) 0) (by rw [HS.out]; exact at_getD 0 hl1) W
        simpa using this
      have hv := lenB_lt l a k (by omega)
      have hv2 := lenB_lt l a (k + 1) (by omega)
      have hor := or_low (lenB l a k) (l.getD (a + 1 + k) 0)
      generalize l.getD (a + 1 + k) 0 = c at *
      have hcl := c.toNat_lt
      obtain ⟨V1, hV1⟩ : ∃ v, lenB l a (k + 1) = v := ⟨_, rfl⟩
      rw [hV1] at hsn hv2
      have HV := Lib.hid hV1
      clear hV1 hl1
      generalize lenB l a k = V at *
      have hb : bits .or .i64 ((V : Int) * 256) (c.toNat : Int) = (V1 : Int) := by
        have := i64_or_nat (V * 256) c.toNat (by omega) (by omega)
        rw [hor, ← hsn] at this
        rw [← this]; simp
      have HBT := Lib.hid hb
      have e2 : IntKind.i64.wrap ((a : Int) + 1 + (k : Int)) = (a : Int) + 1 + (k : Int) := IntWalk.i64_in _ (by omega)
      clear hb hor hid1
      go_wp2_with fail
      exact ⟨⟨k + 1, by simp, by omega, by rw [HBT.out, HV.out], by first | rfl | trivial⟩, by simp [intOf]; omega⟩
    · obtain rfl : k = m := by omega
      have q1 : decide ((k : Int) < (k : Int)) = false := by simp
      rw [HV.out]
      have hE1 := HE0.out
      clear HE0
      by_cases h3 : c = 0
      · rw [if_pos (.inl h3)] at hE1
        subst hE1
        subst h3
        go_wp2_with fail
        refine bodyPost_ret (results_ct (fn := Tryz.f123) rfl _ _ _ _ rfl (load_own hw0)) rfl ?_
        exact ⟨by simp, hG0⟩
      · have d3 : ((c : Int) == 0) = false := by simp; omega
        by_cases h4 : V < 56
        · rw [if_pos (.inr h4)] at hE1
          subst hE1
          have d4 : decide ((V : Int) < 56) = true := decide_eq_true (by omega)
          have d4' : decide (V < 56) = true := decide_eq_true h4
          clear h3
          go_wp2_with fail
          refine bodyPost_ret (results_ct (fn := Tryz.f123) rfl _ _ _ _ rfl (load_own hw0)) rfl ?_
          exact ⟨by simp, hG0⟩
        · rw [if_neg (by omega)] at hE1
          subst hE1
          have d4 : decide ((V : Int) < 56) = false := decide_eq_false (by omega)
          have d4' : decide (V < 56) = false := decide_eq_false h4
          clear h3
          go_wp2_with fail
          refine bodyPost_ret (results_ct (fn := Tryz.f123) rfl _ _ _ _ rfl (load_own (Blk.new w _ _))) rfl ?_
          exact ⟨by simp, only_alloc (World.grownBy.refl _ _) _⟩
end Go.Proofs.YthalohloneojlaaGreatDoor
/- A word's and a number's bytes, as the program has them. -/
namespace Go.Proofs.YthalohloneojlaaGreatDoor
open Go.RowKit Go.Shelf
set_option linter.unusedVariables false
set_option linter.unusedSimpArgs false

theorem fixAt_wrap (v r : Nat) : IntKind.u8.wrap ((v : Int) / 2 ^ r) = ((UInt8.ofNat (v / 2 ^ r % 256)).toNat : Int) := by
  have e : (v : Int) / 2 ^ r = ((v / 2 ^ r : Nat) : Int) := by simp
  rw [e]
  generalize v / 2 ^ r = n
  simp [IntKind.wrap, IntKind.bits, IntKind.signed]
theorem word_cell {w : World} {g : Nat} {t : TypeId} {a0 a1 a2 a3 : Nat} (h : Blk w g t #[.int .u64 (a0 : Int), .int .u64 (a1 : Int), .int .u64 (a2 : Int), .int .u64 (a3 : Int)]) (q : Nat) (hq : q < 4) : w.cell? ⟨g, q, none⟩ = some (.int .u64 (([a0, a1, a2, a3].getD q 0 : Nat) : Int)) := by
  rw [h.cell]
  have : q = 0 ∨ q = 1 ∨ q = 2 ∨ q = 3 := by omega
  rcases this with rfl | rfl | rfl | rfl <;> rfl

set_option maxRecDepth 100000 in
set_option maxHeartbeats 1000000 in
theorem fixed_any (a0 a1 a2 a3 : Nat) (w : World) :
    Calls Tryz.prog 109 #[.agg #[.int .u64 (a0 : Int), .int .u64 (a1 : Int), .int .u64 (a2 : Int), .int .u64 (a3 : Int)]] w fun e w' => e = .returned (.string ⟨(fixL [a0, a1, a2, a3]).toArray⟩) ∧ w.grownBy w' none := by
  have hB := Blk.new w 87 #[.int .u64 (a0 : Int), .int .u64 (a1 : Int), .int .u64 (a2 : Int), .int .u64 (a3 : Int)]
  have hG := only_alloc (World.grownBy.refl w none) (.cells #[.int .u64 (a0 : Int), .int .u64 (a1 : Int), .int .u64 (a2 : Int), .int .u64 (a3 : Int)] 87)
  have hZ : (w.alloc (.cells #[.int .u64 (a0 : Int), .int .u64 (a1 : Int), .int .u64 (a2 : Int), .int .u64 (a3 : Int)] 87)).heap.size = w.heap.size + 1 := by simp
  go_enter Tryz.func109, Tryz.ntmps109
  go_upto_region 1 with (fail)
  generalize w.alloc (.cells #[.int .u64 (a0 : Int), .int .u64 (a1 : Int), .int .u64 (a2 : Int), .int .u64 (a3 : Int)] 87) = W at *
  have hmk : (Instr.makeSlice 52 (.int .i64 32) (.int .i64 32)).run Tryz.prog W = .ok (.slice (some ⟨W.heap.size, 0, none⟩) 32 32) (W.alloc (.cells (bytesC (List.replicate 32 0)) 5)) := make_u8 32 (by omega) W
  rw [hZ] at hmk
  have hB := hB.alloc (.cells (bytesC (List.replicate 32 0)) 5)
  have hO := Blk.new W 5 (bytesC (List.replicate 32 0))
  rw [hZ] at hO
  have hG := only_alloc hG (.cells (bytesC (List.replicate 32 0)) 5)
  obtain ⟨b, hb⟩ : ∃ b, w.heap.size = b := ⟨_, rfl⟩
  rw [hb] at hB hO hmk ⊢
  generalize W.alloc (.cells (bytesC (List.replicate 32 0)) 5) = W1 at *
  go_wp2_with fail
  go_loopw [6] (fun i wr => ∃ m : Nat, i = .int .i64 (m : Int) ∧ m ≤ 32 ∧ Blk wr (b + 1) 5 (bytesC (outF [a0, a1, a2, a3] m)) ∧ Blk wr b 87 #[.int .u64 (a0 : Int), .int .u64 (a1 : Int), .int .u64 (a2 : Int), .int .u64 (a3 : Int)] ∧ w.grownBy wr none) (fun i _ => 32 - (intOf i).toNat)
  case atStart => exact ⟨0, rfl, by omega, by rw [outF_zero]; exact hO, hB, hG⟩
  case round =>
    clear hO hB hG hmk hZ
    obtain ⟨m, rfl, hm, hO, hB, hG⟩ := hrel
    by_cases hlt : m < 32
    · obtain ⟨q, hq⟩ : ∃ q, m / 8 = q := ⟨_, rfl⟩
      obtain ⟨r8, hr8⟩ : ∃ r, m % 8 = r := ⟨_, rfl⟩
      obtain ⟨r, hr⟩ : ∃ r, r8 * 8 = r := ⟨_, rfl⟩
      obtain ⟨p, hp⟩ : ∃ p, 31 - m = p := ⟨_, rfl⟩
      have f2 := word_cell hB q (by omega)
      obtain ⟨v, hv⟩ : ∃ v, [a0, a1, a2, a3].getD q 0 = v := ⟨_, rfl⟩
      obtain ⟨z, hz⟩ : ∃ z, fixAt [a0, a1, a2, a3] m = z := ⟨_, rfl⟩
      have hzz : z = UInt8.ofNat (v / 2 ^ r % 256) := by
        rw [← hz]; unfold fixAt; rw [hq, hr8, hr, hv]
      have hst : outF [a0, a1, a2, a3] (m + 1) = (outF [a0, a1, a2, a3] m).set p z := by rw [← hz, ← hp]; exact outF_succ _ m hlt
      rw [hv] at f2
      have f3 := hO.frozen p
      have f4 : wr.cell? ⟨b + 1, p, none⟩ = some (.int .u8 (((outF [a0, a1, a2, a3] m).getD p 0).toNat : Int)) := bytesC_cell hO p (by rw [outF_len]; omega)
      have p1 : (m : Int).tdiv 8 = (q : Int) := by rw [Int.tdiv_eq_ediv_of_nonneg (by omega)]; omega
      have p2 : IntKind.i64.wrap (q : Int) = (q : Int) := IntWalk.i64_in _ (by omega)
      have p3 : (m : Int).tmod 8 = (r8 : Int) := by rw [Int.tmod_eq_emod_of_nonneg (by omega)]; omega
      have p4 : IntKind.i64.wrap ((r8 : Int) * 8) = (r : Int) := by rw [IntWalk.i64_in _ (by omega)]; omega
      have p5 : IntKind.u8.wrap ((v : Int) / 2 ^ r) = (z.toNat : Int) := by rw [hzz]; exact fixAt_wrap v r
      have p6 : IntKind.i64.wrap (31 - (m : Int)) = (p : Int) := by rw [IntWalk.i64_in _ (by omega)]; omega
      have p7 : 31 - (m : Int) = (p : Int) := by omega
      have q1 : (q : Int) < 4 := by omega
      have q2 : (m : Int) < 32 := by omega
      have q3 : r < 64 := by omega
      have q4 : (p : Int) < 32 := by omega
      have HS := Lib.hid hst
      generalize (outF [a0, a1, a2, a3] m).getD p 0 = z0 at f4
      generalize [a0, a1, a2, a3].getD q 0 = v' at hv
      clear hq hr8 hr hv hz hzz hst hp
      go_wp2_with fail
      refine ⟨⟨m + 1, by go_num, by omega, ?_, hB.far (p := ⟨b + 1, p, none⟩) (by show b ≠ b + 1; omega) _, only_set hG (p := ⟨b + 1, p, none⟩) (by show w.heap.size ≤ b + 1; omega) _⟩, by simp [intOf]; omega⟩
      rw [HS.out, ← bytesC_setI]
      exact hO.set_ p _
    · have e32 : outF [a0, a1, a2, a3] m = fixL [a0, a1, a2, a3] := by rw [show m = 32 by omega, outF_all]
      rw [e32] at hO
      have hfin : decide ((m : Int) < 32) = false := by simp; omega
      have hcv := run_convert_bytes_back (P := Tryz.prog) wr 52 9 5 ⟨b + 1, 0, none⟩ 32 (fixL [a0, a1, a2, a3]) (by kernel_rfl) (by kernel_rfl) (by kernel_rfl) (fun j hj => by
        have := bytesC_cell hO j hj
        rw [Addr.add_mid, Nat.zero_add, this, List.getD_eq_getElem?_getD, List.getElem?_eq_getElem hj]
        rfl)
      rw [fixL_len] at hcv
      obtain ⟨qq, hqq⟩ : ∃ x, fixL [a0, a1, a2, a3] = x := ⟨_, rfl⟩
      rw [hqq] at hcv
      have HQ := Lib.hid hqq
      clear e32 hqq
      go_wp2_with fail
      go_ret
      exact ⟨by rw [HQ.out]; rfl, hG⟩

theorem extract_tail {t : ByteArray} {c : UInt8} {r : List UInt8} (h : t.data.toList = c :: r) : (t.extract 1 t.size).data.toList = r := by
  rw [Lib.extract_data, h]
  simp
  rw [List.take_of_length_le]
  have := congrArg List.length h
  rw [Array.length_toList] at this
  simp at this
  show r.length ≤ t.size - 1
  have : t.size = r.length + 1 := this
  omega
theorem size_cons {t : ByteArray} {c : UInt8} {r : List UInt8} (h : t.data.toList = c :: r) : t.size = r.length + 1 := by
  have := congrArg List.length h
  rw [Array.length_toList] at this
  exact this
def strSize : Value → Nat
  | .string s => s.size
  | _ => 0
set_option maxRecDepth 100000 in
set_option maxHeartbeats 1000000 in
theorem trimByte_any (s : ByteArray) (c : UInt8) (w : World) (hs : s.size ≤ 9223372036854775807) :
    Calls Tryz.prog 137 #[.string s, .int .u8 (c.toNat : Int)] w fun e w' => e = .returned (.string ⟨(trimC c s.data.toList).toArray⟩) ∧ w' = w := by
  go_enter Tryz.func137, Tryz.ntmps137
  go_wp2_with fail
  go_loop [0] (fun v => ∃ t : ByteArray, v = .string t ∧ t.size ≤ s.size ∧ Hid (trimC c t.data.toList = trimC c s.data.toList)) (fun v => strSize v)
  case atStart => exact ⟨s, rfl, Nat.le_refl _, Lib.hid rfl⟩
  case round =>
    obtain ⟨t, rfl, ht, hT⟩ := hrel
    have HT := Lib.hid hT.out
    clear hT
    cases hl : t.data.toList with
    | nil =>
      have hz : t.size = 0 := by have := congrArg List.length hl; rw [Array.length_toList] at this; exact this
      have d1 : decide (0 < t.size) = false := decide_eq_false (by omega)
      have d2 : decide ((0 : Int) < (t.size : Int)) = false := decide_eq_false (by omega)
      have he : t = ⟨#[]⟩ := ba_ext hl
      have HE : Hid (trimC c s.data.toList = []) := Lib.hid (by rw [← HT.out, hl]; rfl)
      subst he
      clear hl hz HT
      go_wp2_with fail
      go_ret
      exact ⟨by rw [HE.out]; rfl, rfl⟩
    | cons x r =>
      have hz := size_cons hl
      have d1 : 0 < t.size := by omega
      have hx : t[0]'d1 = x := by
        have e : t.data.toList[0]? = some x := by rw [hl]; rfl
        have e2 : t.data[0]? = some x := by simpa using e
        obtain ⟨_, e3⟩ := Array.getElem?_eq_some_iff.1 e2
        exact e3
      have HZ := Lib.hid hz
      clear hz
      have d2 : (0 : Int) < (t.size : Int) := by omega
      have d3 : (1 : Int) ≤ (t.size : Int) := by omega
      have d4 : 1 ≤ t.size := by omega
      by_cases hxc : x = c
      · have e1 : ((x.toNat : Int) == (c.toNat : Int)) = true := by rw [hxc]; simp
        have HN : Hid (trimC c (t.extract 1 t.size).data.toList = trimC c s.data.toList) := Lib.hid (by
          rw [extract_tail hl, ← HT.out, hl]
          show _ = List.dropWhile _ _
          rw [List.dropWhile_cons_of_pos (by simp [hxc])]; rfl)
        have HSZ : Hid ((t.extract 1 t.size).size = t.size - 1) := Lib.hid (by simp)
        clear hl HT hxc
        go_wp2_with fail
        exact ⟨⟨_, rfl, by have := HSZ.out; omega, HN⟩, by show (t.extract 1 t.size).size < t.size; have := HSZ.out; omega⟩
      · have e1 : ((x.toNat : Int) == (c.toNat : Int)) = false := by
          rw [beq_eq_false_iff_ne]; intro e; exact hxc (UInt8.toNat_inj.1 (by omega))
        have HN : Hid (trimC c s.data.toList = t.data.toList) := Lib.hid (by
          rw [← HT.out, hl]
          show List.dropWhile _ _ = _
          rw [List.dropWhile_cons_of_neg (by simp [hxc])])
        clear hl HT hxc
        go_wp2_with fail
        go_ret
        exact ⟨by rw [HN.out]; rfl, rfl⟩

set_option maxRecDepth 100000 in
theorem trim_any (s : ByteArray) (w : World) (h0 : 0 < s.size) (hs : s.size ≤ 9223372036854775807) :
    Calls Tryz.prog 108 #[.string s, .string ⟨#[0]⟩] w fun e w' => e = .returned (.string ⟨(trimL s.data.toList).toArray⟩) ∧ w' = w := by
  have hb := fun W => trimByte_any s 0 W hs
  have e1 : (s.toList == []) = false := by
    have := str_ne (a := s) (b := ⟨#[]⟩) (by rintro rfl; cases h0)
    simpa using this
  have e2 : s.toList.isEmpty = false := by simpa using e1
  have HB := Lib.hid hb
  clear hb
  go_enter Tryz.func108, Tryz.ntmps108
  go_wp2_with fail
  refine (HB.out _).mono ?_
  rintro e w2 ⟨rfl, rfl⟩
  go_wp2_with fail
  go_ret
  exact ⟨rfl, rfl⟩

set_option maxRecDepth 100000 in
theorem wordBytes_any (a0 a1 a2 a3 : Nat) (h0 : a0 < 18446744073709551616) (h1 : a1 < 18446744073709551616) (h2 : a2 < 18446744073709551616) (h3 : a3 < 18446744073709551616) (w : World) :
    Calls Tryz.prog 75 #[.agg #[.int .u64 (a0 : Int), .int .u64 (a1 : Int), .int .u64 (a2 : Int), .int .u64 (a3 : Int)]] w fun e w' => e = .returned (.string ⟨(beN (wordN a0 a1 a2 a3)).toArray⟩) ∧ w.grownBy w' none := by
  have hB := Blk.new w 87 #[.int .u64 (a0 : Int), .int .u64 (a1 : Int), .int .u64 (a2 : Int), .int .u64 (a3 : Int)]
  have hG := only_alloc (World.grownBy.refl w none) (.cells #[.int .u64 (a0 : Int), .int .u64 (a1 : Int), .int .u64 (a2 : Int), .int .u64 (a3 : Int)] 87)
  have HF := Lib.hid (fun V => fixed_any a0 a1 a2 a3 V)
  have ht := fun V => trim_any ⟨(fixL [a0, a1, a2, a3]).toArray⟩ V (by show 0 < ((fixL [a0, a1, a2, a3]).toArray).size; simp [fixL_len]) (by show ((fixL [a0, a1, a2, a3]).toArray).size ≤ _; simp [fixL_len])
  have HT := Lib.hid ht
  have HE : Hid (trimL (fixL [a0, a1, a2, a3]) = beN (wordN a0 a1 a2 a3)) := Lib.hid (by rw [fixL_be _ _ _ _ h0 h1 h2 h3]; rfl)
  clear ht
  go_enter Tryz.func75, Tryz.ntmps75
  go_wp2_with fail
  refine (HF.out _).mono ?_
  rintro e w2 ⟨rfl, hg⟩
  have hG := Lib.hid (grown_self hG hg (by simp))
  clear hg hB
  go_wp2_with fail
  refine (HT.out _).mono ?_
  rintro e w3 ⟨rfl, rfl⟩
  go_wp2_with fail
  go_ret
  exact ⟨by rw [← HE.out]; rfl, hG.out⟩

theorem load_word {w : World} {g : Nat} {a b c d : Value} (hg : Blk w g 87 #[a, b, c, d]) : (loadVar 87 ⟨g, 0, none⟩).run Tryz.prog w = .ok (.agg #[a, b, c, d]) w :=
  run_loadVar_row w g 87 87 _ (0, 0) _ hg Tryz.underlying87 rfl (by kernel_rfl)
set_option maxRecDepth 100000 in
theorem of_any (n : Nat) (w : World) :
    Calls Tryz.prog 76 #[.int .u64 (n : Int)] w fun e w' => e = .returned (.agg #[.int .u64 (n : Int), .int .u64 ((0 : Nat) : Int), .int .u64 ((0 : Nat) : Int), .int .u64 ((0 : Nat) : Int)]) ∧ w.grownBy w' none := by
  have hB := Blk.new w 87 #[.int .u64 (n : Int), .int .u64 0, .int .u64 0, .int .u64 0]
  have hG := only_alloc (World.grownBy.refl w none) (.cells #[.int .u64 (n : Int), .int .u64 0, .int .u64 0, .int .u64 0] 87)
  go_enter Tryz.func76, Tryz.ntmps76
  go_wp2_with fail
  refine bodyPost_ret (results_cell1 (fn := Tryz.f76) rfl _ _ _ _ rfl (load_word hB)) rfl ?_
  exact ⟨rfl, hG⟩

/-- A NUMBER'S BYTES -/
theorem be_any (n : Nat) (hn : n < 18446744073709551616) (w : World) :
    Calls Tryz.prog 47 #[.int .u64 (n : Int)] w fun e w' => e = .returned (.string ⟨(beN n).toArray⟩) ∧ w.grownBy w' none := by
  have hb := fun V => wordBytes_any n 0 0 0 hn (by omega) (by omega) (by omega) V
  rw [show wordN n 0 0 0 = n by unfold wordN; omega] at hb
  have HB := Lib.hid hb
  have HO := Lib.hid (fun V => of_any n V)
  clear hb
  go_enter Tryz.func47, Tryz.ntmps47
  go_wp2_with fail
  refine (HO.out _).mono ?_
  rintro e w2 ⟨rfl, hg⟩
  have hG := Lib.hid hg
  clear hg
  go_wp2_with fail
  refine (HB.out _).mono ?_
  rintro e w3 ⟨rfl, hg⟩
  have hG := Lib.hid (grown_self hG.out hg (by simp))
  clear hg
  go_wp2_with fail
  go_ret
  exact ⟨rfl, hG.out⟩
end Go.Proofs.YthalohloneojlaaGreatDoor
/- strings.Builder: WriteString, String, of a builder that a call has made itself. -/
namespace Go.Proofs.YthalohloneojlaaGreatDoor
open Go.RowKit Go.Shelf

theorem infoB8 : (Tryz.prog.info? 5).map (fun i => (i.zero, i.size, i.bytes)) = some (some (.int .u8 0), 1, 1) := by kernel_rfl
set_option maxRecDepth 100000 in
theorem copyUsed_any (b : Nat) (w : World) (h0 : w.cell? ⟨b, 0, none⟩ = some (.pointer (some ⟨b, 0, none⟩))) :
    Calls Tryz.prog 110 #[.pointer (some ⟨b, 0, none⟩)] w fun e w' => e = .returned (.tuple #[]) ∧ w' = w := by
  have hs : (Tryz.prog.info? 136).isSome = true := by kernel_rfl
  obtain ⟨j, hj⟩ := Option.isSome_iff_exists.1 hs
  go_enter Tryz.func110, Tryz.ntmps110
  go_wp2
  rw [Lib.run_neq_ptr_same w _ Tryz.underlying134 hj]
  go_wp2
  go_end0
  exact ⟨rfl, rfl⟩
set_option maxRecDepth 100000 in
theorem copyFresh_any (b : Nat) (w : World) (h0 : w.cell? ⟨b, 0, none⟩ = some (.pointer none)) (hsh : w.shape? b = some (136, 2)) (hfz : w.frozen? ⟨b, 0, none⟩ = false) :
    Calls Tryz.prog 110 #[.pointer (some ⟨b, 0, none⟩)] w fun e w' => e = .returned (.tuple #[]) ∧ w' = w.setCell ⟨b, 0, none⟩ (.pointer (some ⟨b, 0, none⟩)) := by
  have hs : (Tryz.prog.info? 136).isSome = true := by kernel_rfl
  obtain ⟨j, hj⟩ := Option.isSome_iff_exists.1 hs
  have hz : (Tryz.prog.info? 136).map (·.size) = some 2 := by kernel_rfl
  have hjs : j.size = 2 := by simpa [hj] using hz
  go_enter Tryz.func110, Tryz.ntmps110
  go_wp2
  rw [Lib.run_to_unsafe w ⟨b, 0, none⟩ Tryz.underlying134 Tryz.underlying102 hj (by rw [hjs]; decide) hsh (Nat.zero_lt_succ 1)]
  simp only [Result.andThen]
  rw [Oper.upon_value]
  go_wp2
  rw [run_callFunc_extern Tryz.func141 (by kernel_rfl) (by kernel_rfl) (by kernel_rfl) (e := Extern.AbiNoEscape.same) (by kernel_rfl)]
  rw [Lib.run_noEscape]
  simp only [Result.andThen]
  rw [Oper.upon_value]
  go_wp2
  rw [Lib.run_from_unsafe w ⟨b, 0, none⟩ Tryz.underlying102 Tryz.underlying134 hj hsh (by kernel_rfl)]
  simp only [Result.andThen]
  rw [Oper.upon_value]
  go_wp2
  go_end0
  exact ⟨rfl, rfl⟩
theorem copyCheck_any (B b : Nat) (bs : List Value) (w : World) (h : Lib.IsBuilder 136 5 B b bs w) :
    Calls Tryz.prog 110 #[.pointer (some ⟨b, 0, none⟩)] w fun e w' => e = .returned (.tuple #[]) ∧ (Lib.BuilderAt 136 5 B b (.pointer (some ⟨b, 0, none⟩)) bs w' ∧ Below B w w') := by
  rcases h with h | h
  · refine (copyFresh_any b w h.cell0 h.shape h.frozen0).mono ?_
    rintro e w' ⟨rfl, rfl⟩
    exact ⟨rfl, h.used _, (Below.refl B w).setCell (p := ⟨b, 0, none⟩) h.1 _⟩
  · refine (copyUsed_any b w h.cell0).mono ?_
    rintro e w' ⟨rfl, rfl⟩
    exact ⟨rfl, h, Below.refl B _⟩

set_option maxRecDepth 100000 in
set_option maxHeartbeats 1000000 in
theorem writeString_any (B b : Nat) (bs : List Value) (s : ByteArray) (w : World) (h : Lib.IsBuilder 136 5 B b bs w) (hlen : bs.length + s.size ≤ 140737488355328) (hBw : B ≤ w.heap.size) :
    Calls Tryz.prog 82 #[.pointer (some ⟨b, 0, none⟩), .string s] w fun e w' => e = .returned (.tuple #[.int .i64 s.size, .nilIface]) ∧ (Lib.IsBuilder 136 5 B b (bs ++ Lib.strCells s) w' ∧ Below B w w') := by
  obtain ⟨i0, hi, hz0, hz1, hz2⟩ := info_parts infoB8
  go_enter Tryz.func82, Tryz.ntmps82
  go_wp2_with fail
  refine (copyCheck_any B b bs _ h).mono ?_
  rintro e w1 ⟨rfl, h1, hb1⟩
  obtain ⟨hB, v, hbk, hown, hne⟩ := h1
  have c0 : w1.cell? ⟨b, 0, none⟩ = some (.pointer (some ⟨b, 0, none⟩)) := by rw [Lib.cell_of_heap hbk]; rfl
  have c1 : w1.cell? ⟨b, 1, none⟩ = some v := by rw [Lib.cell_of_heap hbk]; rfl
  go_wp2_with (at_builtin; refine Lib.wpList_append_own_string _ rfl _ _ 52 9 rfl B 5 i0 Tryz.underlying52 Tryz.underlying9 hi hz0 hz1 hz2 _ _ _ rfl hown s rfl ?c3 ?c4 ?c5 ?_)
  case c3 => unfold maxLen; omega
  case c4 => omega
  case c5 => have := hb1.size; omega
  intro v' w2 hown' hgrow _
  have hlt : b < w1.heap.size := by
    rcases Nat.lt_or_ge b w1.heap.size with h' | h'
    · exact h'
    · simp [Array.getElem?_eq_none h'] at hbk
  have hb2 : w2.heap[b]? = some (.cells #[.pointer (some ⟨b, 0, none⟩), v] 136 (0, 0)) := by
    rw [hgrow.block b hlt (fun e => hne e.symm)]
    exact hbk
  have d0 : w2.cell? ⟨b, 0, none⟩ = some (.pointer (some ⟨b, 0, none⟩)) := by rw [Lib.cell_of_heap hb2]; rfl
  have d1 : w2.cell? ⟨b, 1, none⟩ = some v := by rw [Lib.cell_of_heap hb2]; rfl
  have f1 : w2.frozen? ⟨b, 1, none⟩ = false := Lib.frozen_of_heap hb2 1
  obtain ⟨ao, n', cap, rfl⟩ : ∃ ao n' cap, v' = .slice ao n' cap := by
    rcases hown'.2 with ⟨hv, _⟩ | ⟨g, cap, cur, hv, _⟩
    · exact ⟨_, _, _, hv⟩
    · exact ⟨_, _, _, hv⟩
  go_wp2
  go_ret2
  refine ⟨rfl, .inr ?_, ?_⟩
  · exact Lib.BuilderAt.put hB hb2 (bs' := bs ++ Lib.strCells s) (by simpa [Lib.strCells_length] using hown') (by decide)
  · exact (hb1.grown hgrow (by have := hb1.size; omega) (fun k hk => (hown.lt k hk).1)).setCell (p := ⟨b, 1, none⟩) hB _

def stringRen : Go.Shelf.Ren := ⟨fun | 169 => 84 | n => n, fun | 70 => 134 | 9 => 9 | 0 => 0 | 72 => 136 | 37 => 52 | 127 => 183 | 3 => 3 | 5 => 5 | n => n, fun | n => n⟩
theorem stringLays : Go.Proofs.Lays.n169 Tryz.prog stringRen := {
  mixed := by kernel_rfl
  f169 := Tryz.func84.trans (congrArg some (by kernel_rfl))
  t0 := Tryz.underlying0
  a0 := Tryz.isAgg0
  z0 := Tryz.sizeOf0
  v0 := Tryz.zeroValue0
  t3 := Tryz.underlying3
  a3 := Tryz.isAgg3
  z3 := Tryz.sizeOf3
  v3 := Tryz.zeroValue3
  t9 := Tryz.underlying9
  a9 := Tryz.isAgg9
  z9 := Tryz.sizeOf9
  v9 := Tryz.zeroValue9
  t37 := Tryz.underlying52
  a37 := Tryz.isAgg52
  z37 := Tryz.sizeOf52
  v37 := Tryz.zeroValue52
  t70 := Tryz.underlying134
  a70 := Tryz.isAgg134
  z70 := Tryz.sizeOf134
  v70 := Tryz.zeroValue134
  t72 := Tryz.underlying136
  a72 := Tryz.isAgg136
  z72 := Tryz.sizeOf136
  v72 := Tryz.zeroValue136
  t127 := Tryz.underlying183
  a127 := Tryz.isAgg183
  z127 := Tryz.sizeOf183
  v127 := Tryz.zeroValue183 }
theorem stringExtra : Builder.Extra Tryz.prog stringRen := {
  sizeBuilder := by kernel_rfl
  liesBuilder := by kernel_rfl
  t5 := Tryz.underlying5
  a5 := Tryz.isAgg5
  z5 := Tryz.sizeOf5
  v5 := Tryz.zeroValue5
  infoByte := by kernel_rfl
  cellsByte := by kernel_rfl
  sizeByte := by kernel_rfl
  neB5 := by decide }
theorem builderString_any (B b : Nat) (l : List UInt8) (w : World) (h : Lib.IsBuilder 136 5 B b (Lib.byteCells l) w) (hBw : B ≤ w.heap.size) :
    Calls Tryz.prog 84 #[.pointer (some ⟨b, 0, none⟩)] w fun e w' => e = .returned (.string ⟨l.toArray⟩) ∧ Below B w w' := Any.Builder_String_any stringLays stringExtra B b l w h hBw
theorem strCells_eq (s : ByteArray) : Lib.strCells s = Lib.byteCells s.data.toList := by
  simp [Lib.strCells, Lib.byteCells]
theorem byteCells_append (a b : List UInt8) : Lib.byteCells (a ++ b) = Lib.byteCells a ++ Lib.byteCells b := by simp [Lib.byteCells]
theorem builder_new (w : World) : Lib.IsBuilder 136 5 w.heap.size w.heap.size [] (w.alloc (.cells #[.pointer none, .slice none 0 0] 136)) :=
  .inl ⟨Nat.le_refl _, .slice none 0 0, heap_alloc_new w _, World.ownsRow_nil _ _ _ _, by simp [Value.ownBlock]⟩
end Go.Proofs.YthalohloneojlaaGreatDoor
/- strings.Builder, of a builder that String has read: Len, WriteString, String. -/
namespace Go.Proofs.YthalohloneojlaaGreatDoor
open Go.RowKit Go.Shelf
set_option linter.unusedVariables false
set_option linter.unusedSimpArgs false

abbrev IsB (B b : Nat) (bs : List Value) (w : World) : Prop := Lib.IsBuilderF 136 5 B b bs w

theorem copyCheckF_any (B b : Nat) (bs : List Value) (w : World) (h : IsB B b bs w) :
    Calls Tryz.prog 110 #[.pointer (some ⟨b, 0, none⟩)] w fun e w' => e = .returned (.tuple #[]) ∧ (Lib.BuilderAtF 136 5 B b (.pointer (some ⟨b, 0, none⟩)) bs w' ∧ Below B w w') := by
  rcases h with h | h
  · refine (copyFresh_any b w h.cell0 h.shape h.frozen0).mono ?_
    rintro e w' ⟨rfl, rfl⟩
    exact ⟨rfl, h.used _, (Below.refl B w).setCell (p := ⟨b, 0, none⟩) h.1 _⟩
  · refine (copyUsed_any b w h.cell0).mono ?_
    rintro e w' ⟨rfl, rfl⟩
    exact ⟨rfl, h, Below.refl B _⟩

set_option maxRecDepth 100000 in
set_option maxHeartbeats 1000000 in
theorem lenF_any (B b : Nat) (bs : List Value) (w : World) (h : IsB B b bs w) :
    Calls Tryz.prog 166 #[.pointer (some ⟨b, 0, none⟩)] w fun e w' => e = .returned (.int .i64 bs.length) ∧ w' = w := by
  obtain ⟨p, hB, v, hbk, hown, hne⟩ : ∃ p, Lib.BuilderAtF 136 5 B b p bs w := by
    rcases h with h | h
    · exact ⟨_, h⟩
    · exact ⟨_, h⟩
  obtain ⟨ao, cap, rfl⟩ : ∃ ao cap, v = .slice ao bs.length cap := by
    rcases hown.2 with ⟨hv, h0⟩ | ⟨g, cap, cur, fz, hv, _⟩
    · exact ⟨none, 0, by rw [hv, h0]⟩
    · exact ⟨_, _, hv⟩
  have c1 : w.cell? ⟨b, 1, none⟩ = some (.slice ao bs.length cap) := by rw [Lib.cell_of_heap hbk]; rfl
  go_enter Tryz.func166, Tryz.ntmps166
  go_wp2
  go_ret
  exact ⟨rfl, rfl⟩

set_option maxRecDepth 100000 in
set_option maxHeartbeats 1000000 in
theorem writeStringF_any (B b : Nat) (bs : List Value) (s : ByteArray) (w : World) (h : IsB B b bs w) (hlen : bs.length + s.size ≤ 140737488355328) (hBw : B ≤ w.heap.size) :
    Calls Tryz.prog 82 #[.pointer (some ⟨b, 0, none⟩), .string s] w fun e w' => e = .returned (.tuple #[.int .i64 s.size, .nilIface]) ∧ (IsB B b (bs ++ Lib.strCells s) w' ∧ Below B w w') := by
  obtain ⟨i0, hi, hz0, hz1, hz2⟩ := info_parts infoB8
  go_enter Tryz.func82, Tryz.ntmps82
  go_wp2_with fail
  refine (copyCheckF_any B b bs _ h).mono ?_
  rintro e w1 ⟨rfl, h1, hb1⟩
  obtain ⟨hB, v, hbk, hown, hne⟩ := h1
  have c0 : w1.cell? ⟨b, 0, none⟩ = some (.pointer (some ⟨b, 0, none⟩)) := by rw [Lib.cell_of_heap hbk]; rfl
  have c1 : w1.cell? ⟨b, 1, none⟩ = some v := by rw [Lib.cell_of_heap hbk]; rfl
  go_wp2_with (at_builtin; refine Lib.wpList_append_own_stringF _ rfl _ _ 52 9 rfl B 5 i0 Tryz.underlying52 Tryz.underlying9 hi hz0 hz1 hz2 _ _ _ rfl hown s rfl ?c3 ?c4 ?c5 ?_)
  case c3 => unfold maxLen; omega
  case c4 => omega
  case c5 => have := hb1.size; omega
  intro v' w2 hown' hgrow _
  have hlt : b < w1.heap.size := by
    rcases Nat.lt_or_ge b w1.heap.size with h' | h'
    · exact h'
    · simp [Array.getElem?_eq_none h'] at hbk
  have hb2 : w2.heap[b]? = some (.cells #[.pointer (some ⟨b, 0, none⟩), v] 136 (0, 0)) := by
    rw [hgrow.block b hlt (fun e => hne e.symm)]
    exact hbk
  have d0 : w2.cell? ⟨b, 0, none⟩ = some (.pointer (some ⟨b, 0, none⟩)) := by rw [Lib.cell_of_heap hb2]; rfl
  have d1 : w2.cell? ⟨b, 1, none⟩ = some v := by rw [Lib.cell_of_heap hb2]; rfl
  have f1 : w2.frozen? ⟨b, 1, none⟩ = false := Lib.frozen_of_heap hb2 1
  obtain ⟨ao, n', cap, rfl⟩ : ∃ ao n' cap, v' = .slice ao n' cap := by
    rcases hown'.2 with ⟨hv, _⟩ | ⟨g, cap, cur, fz, hv, _⟩
    · exact ⟨_, _, _, hv⟩
    · exact ⟨_, _, _, hv⟩
  go_wp2
  go_ret2
  refine ⟨rfl, .inr ?_, ?_⟩
  · exact Lib.BuilderAtF.put (T := 136) (e := 5) hB hb2 (bs' := bs ++ Lib.strCells s) (by simpa [Lib.strCells_length] using hown') (by decide)
  · exact (hb1.grown hgrow (by have := hb1.size; omega) (fun k hk => (hown.lt k hk).1)).setCell (p := ⟨b, 1, none⟩) hB _
theorem stringF_any (B b : Nat) (l : List UInt8) (w : World) (h : IsB B b (Lib.byteCells l) w) (hBw : B ≤ w.heap.size) :
    Calls Tryz.prog 84 #[.pointer (some ⟨b, 0, none⟩)] w fun e w' => e = .returned (.string ⟨l.toArray⟩) ∧ (IsB B b (Lib.byteCells l) w' ∧ Below B w w') := Any.Builder_String_any_f stringLays stringExtra B b l w h hBw
end Go.Proofs.YthalohloneojlaaGreatDoor
