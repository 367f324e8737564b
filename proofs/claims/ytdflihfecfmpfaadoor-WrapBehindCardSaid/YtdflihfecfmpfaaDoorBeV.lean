/- Bytes as a number, and a number's bytes: plain laws. -/
import Derived.Test.YtdflihfecfmpfaaDoorNumP
namespace Go.Proofs.YtdflihfecfmpfaaDoor
open Go.RowKit
set_option linter.unusedVariables false
set_option linter.unusedSimpArgs false

/-- bytes as a number -/
def beV (l : List UInt8) : Nat := l.foldl (fun n b => n * 256 + b.toNat) 0
theorem beV_snoc (l : List UInt8) (b : UInt8) : beV (l ++ [b]) = beV l * 256 + b.toNat := by simp [beV]
theorem beV_fix (k n : Nat) (h : n < 256 ^ k) : beV (beFix k n) = n := by
  induction k generalizing n with
  | zero => simp at h; subst h; rfl
  | succ k ih =>
    rw [beFix, beV_snoc, ih (n / 256) (by rw [Nat.pow_succ] at h; exact Nat.div_lt_of_lt_mul (by rw [Nat.mul_comm]; exact h)), UInt8.toNat_ofNat']
    omega
theorem beV_zero (l : List UInt8) : beV (0 :: l) = beV l := rfl
theorem beV_trim (l : List UInt8) : beV (trimL l) = beV l := by
  induction l with
  | nil => rfl
  | cons a l ih =>
    show beV (List.dropWhile _ _) = _
    by_cases h : a = 0
    · subst h
      rw [List.dropWhile_cons_of_pos (by rfl), beV_zero]; exact ih
    · rw [List.dropWhile_cons_of_neg (by simpa using h)]
theorem beV_beN (n : Nat) (h : n < 256 ^ 32) : beV (beN n) = n := by
  unfold beN; rw [beV_trim, beV_fix 32 n h]
theorem beN_inj {n m : Nat} (hn : n ≤ 1000000000) (hm : m ≤ 1000000000) (h : beN n = beN m) : n = m := by
  have h1 : (1000000000 : Nat) < 256 ^ 32 := by decide
  rw [← beV_beN n (by omega), h, beV_beN m (by omega)]
theorem u8_inj {a b : Nat} (ha : a < 256) (hb : b < 256) (h : UInt8.ofNat a = UInt8.ofNat b) : a = b := by
  have := congrArg UInt8.toNat h
  rw [UInt8.toNat_ofNat', UInt8.toNat_ofNat'] at this
  omega
theorem beN_pos {n : Nat} (h : 0 < n) (hn : n ≤ 1000000000) : 1 ≤ (beN n).length := by
  rcases Nat.eq_zero_or_pos (beN n).length with h0 | h0
  · have e := List.eq_nil_of_length_eq_zero h0
    have h1 : (1000000000 : Nat) < 256 ^ 32 := by decide
    have := beV_beN n (by omega)
    rw [e] at this
    have : (0 : Nat) = n := this
    omega
  · exact h0
theorem beV_lt (l : List UInt8) : beV l < 256 ^ l.length := by
  have key : ∀ r : List UInt8, beV r.reverse < 256 ^ r.reverse.length := by
    intro r
    induction r with
    | nil => simp [beV]
    | cons b r ih =>
      rw [List.reverse_cons, beV_snoc, List.length_append, Nat.pow_add]
      have := b.toNat_lt
      simp at *; omega
  have := key l.reverse
  rwa [List.reverse_reverse] at this
theorem fix_beV (t : List UInt8) : beFix t.length (beV t) = t := by
  have key : ∀ r : List UInt8, beFix r.reverse.length (beV r.reverse) = r.reverse := by
    intro r
    induction r with
    | nil => rfl
    | cons b r ih =>
      have hb := b.toNat_lt
      rw [List.reverse_cons, beV_snoc, List.length_append, List.length_singleton, beFix, show (beV r.reverse * 256 + b.toNat) / 256 = beV r.reverse by omega, show (beV r.reverse * 256 + b.toNat) % 256 = b.toNat by omega, ih, UInt8.ofNat_toNat]
  have := key t.reverse
  rwa [List.reverse_reverse] at this
theorem beN_beV (t : List UInt8) (h : t.length ≤ 32) (h0 : t.getD 0 0 ≠ 0) : beN (beV t) = t := by
  rw [beN_fix t.length _ h (beV_lt t), fix_beV]
  cases t with
  | nil => rfl
  | cons a t => exact List.dropWhile_cons_of_neg (by simpa using h0)
theorem beN_first (n : Nat) : beN n = [] ∨ (beN n).getD 0 0 ≠ 0 := by
  have key : ∀ l : List UInt8, trimL l = [] ∨ (trimL l).getD 0 0 ≠ 0 := by
    intro l
    induction l with
    | nil => exact .inl rfl
    | cons a l ih =>
      by_cases h : a = 0
      · subst h
        rw [show trimL (0 :: l) = trimL l from List.dropWhile_cons_of_pos (by rfl)]; exact ih
      · rw [show trimL (a :: l) = a :: l from List.dropWhile_cons_of_neg (by simpa using h)]; exact .inr h
  exact key _
theorem beN_len3 (n : Nat) (h : n < 16777216) : (beN n).length ≤ 3 := by
  rw [beN_fix 3 n (by omega) (by simpa using h)]
  have := trim_len 0 (beFix 3 n); rw [beFix_len] at this; exact this
end Go.Proofs.YtdflihfecfmpfaaDoor
