/- A word of bytes: plain laws. -/
import Derived.Test.YtmlkjackopiekaaDoorBeV
namespace Go.Proofs.YtmlkjackopiekaaDoor
open Go.RowKit
set_option linter.unusedVariables false
set_option linter.unusedSimpArgs false

/-- a word's part -/
def wp (N q : Nat) : Nat := N / 2 ^ (64 * q) % 2 ^ 64
theorem wp_lt (N q : Nat) : wp N q < 18446744073709551616 := Nat.mod_lt _ (by decide)
theorem wp_zero (q : Nat) : wp 0 q = 0 := by unfold wp; simp
theorem wp_add (N m c q : Nat) (hN : N < 2 ^ (8 * m)) (hc : c < 256) : wp (N + c * 2 ^ (8 * m)) q = if q = m / 8 then wp N q + c * 2 ^ (m % 8 * 8) else wp N q := by
  unfold wp
  have hp : ∀ k, 0 < 2 ^ k := fun k => Nat.pow_pos (by omega)
  by_cases h : q = m / 8
  · rw [if_pos h]
    have e : 2 ^ (8 * m) = 2 ^ (64 * q) * 2 ^ (m % 8 * 8) := by rw [← Nat.pow_add]; congr 1; omega
    rw [e] at hN ⊢
    have hx : N / 2 ^ (64 * q) < 2 ^ (m % 8 * 8) := Nat.div_lt_of_lt_mul hN
    have hle : 2 ^ (m % 8 * 8) * 256 ≤ 2 ^ 64 := by
      rw [show (256 : Nat) = 2 ^ 8 from rfl, ← Nat.pow_add]
      exact Nat.pow_le_pow_right (by omega) (by omega)
    rw [show N + c * (2 ^ (64 * q) * 2 ^ (m % 8 * 8)) = N + 2 ^ (64 * q) * (c * 2 ^ (m % 8 * 8)) by rw [Nat.mul_left_comm], Nat.add_mul_div_left _ _ (hp _)]
    generalize N / 2 ^ (64 * q) = x at *
    generalize hP : 2 ^ (m % 8 * 8) = P at *
    have hcP : c * P + P ≤ P * 256 := by
      have : (c + 1) * P ≤ 256 * P := Nat.mul_le_mul_right P (by omega)
      rw [Nat.add_mul] at this; omega
    rw [Nat.mod_eq_of_lt (by omega), Nat.mod_eq_of_lt (by omega)]
  · rw [if_neg h]
    by_cases h2 : q < m / 8
    · have e : 2 ^ (8 * m) = 2 ^ (64 * q) * (2 ^ 64 * 2 ^ (8 * m - 64 * q - 64)) := by rw [← Nat.pow_add, ← Nat.pow_add]; congr 1; omega
      rw [e, show N + c * (2 ^ (64 * q) * (2 ^ 64 * 2 ^ (8 * m - 64 * q - 64))) = N + 2 ^ (64 * q) * (2 ^ 64 * (c * 2 ^ (8 * m - 64 * q - 64))) by
        rw [Nat.mul_left_comm c, Nat.mul_left_comm c], Nat.add_mul_div_left _ _ (hp _), Nat.add_mul_mod_self_left]
    · have hle : 2 ^ (8 * m) * 256 ≤ 2 ^ (64 * q) := by
        rw [show (256 : Nat) = 2 ^ 8 from rfl, ← Nat.pow_add]
        exact Nat.pow_le_pow_right (by omega) (by omega)
      generalize 2 ^ (8 * m) = P at *
      have hcP : c * P + P ≤ P * 256 := by
        have : (c + 1) * P ≤ 256 * P := Nat.mul_le_mul_right P (by omega)
        rw [Nat.add_mul] at this; omega
      rw [Nat.div_eq_of_lt (by omega), Nat.div_eq_of_lt (by omega)]
theorem wp_or (x c s : Nat) (h : x < 2 ^ s) : x ||| c * 2 ^ s = x + c * 2 ^ s := by
  rw [Nat.or_comm, ← Nat.shiftLeft_eq, ← Nat.shiftLeft_add_eq_or_of_lt h, Nat.add_comm]
theorem wp_room (N m : Nat) (hN : N < 2 ^ (8 * m)) : wp N (m / 8) < 2 ^ (m % 8 * 8) := by
  unfold wp
  have e : 2 ^ (8 * m) = 2 ^ (64 * (m / 8)) * 2 ^ (m % 8 * 8) := by rw [← Nat.pow_add]; congr 1; omega
  rw [e] at hN
  exact Nat.lt_of_le_of_lt (Nat.mod_le _ _) (Nat.div_lt_of_lt_mul hN)
/-- the last bytes, as a number -/
def lowN (l : List UInt8) (m : Nat) : Nat := beV (l.drop (l.length - m))
theorem lowN_zero (l : List UInt8) : lowN l 0 = 0 := by unfold lowN; rw [Nat.sub_zero, List.drop_length]; rfl
theorem lowN_lt (l : List UInt8) (m : Nat) : lowN l m < 2 ^ (8 * m) := by
  unfold lowN
  have h := beV_lt (l.drop (l.length - m))
  rw [show (256 : Nat) = 2 ^ 8 from rfl, ← Nat.pow_mul] at h
  refine Nat.lt_of_lt_of_le h (Nat.pow_le_pow_right (by omega) ?_)
  rw [List.length_drop]; omega
theorem beV_cons (b : UInt8) (l : List UInt8) : beV (b :: l) = b.toNat * 256 ^ l.length + beV l := by
  have key : ∀ r : List UInt8, beV (b :: r.reverse) = b.toNat * 256 ^ r.reverse.length + beV r.reverse := by
    intro r
    induction r with
    | nil => simp [beV]
    | cons c r ih =>
      rw [List.reverse_cons, ← List.cons_append, beV_snoc, ih, beV_snoc, List.length_append, List.length_singleton, Nat.pow_succ, Nat.add_mul, ← Nat.mul_assoc, Nat.add_assoc]
  have := key l.reverse
  rwa [List.reverse_reverse] at this
theorem lowN_succ (l : List UInt8) (m : Nat) (h : m < l.length) : lowN l (m + 1) = lowN l m + (l.getD (l.length - 1 - m) 0).toNat * 2 ^ (8 * m) := by
  unfold lowN
  have hi : l.length - (m + 1) < l.length := by omega
  rw [List.drop_eq_getElem_cons hi, beV_cons, List.length_drop, show l.length - (m + 1) + 1 = l.length - m by omega, show l.length - (l.length - m) = m by omega,
    show l.length - 1 - m = l.length - (m + 1) by omega, List.getD_eq_getElem?_getD, List.getElem?_eq_getElem hi, show (256 : Nat) = 2 ^ 8 from rfl, ← Nat.pow_mul, Nat.add_comm]
  rfl
theorem lowN_all (l : List UInt8) : lowN l l.length = beV l := by unfold lowN; rw [Nat.sub_self, List.drop_zero]
theorem lowN_step (l : List UInt8) (m q : Nat) (h : m < l.length) : wp (lowN l (m + 1)) q = if q = m / 8 then wp (lowN l m) q ||| (l.getD (l.length - 1 - m) 0).toNat * 2 ^ (m % 8 * 8) else wp (lowN l m) q := by
  rw [lowN_succ l m h, wp_add _ _ _ _ (lowN_lt l m) (l.getD (l.length - 1 - m) 0).toNat_lt]
  split
  · rename_i e
    rw [wp_or _ _ _ (by rw [e]; exact wp_room _ _ (lowN_lt l m))]
  · rfl
/-- what is wrong with a word's bytes -/
def parseE (l : List UInt8) : Int := if 32 < l.length then 5 else if l.head? = some 0 then 8 else 0
/-- a word's part, of its bytes -/
def parseP (l : List UInt8) (q : Nat) : Nat := if parseE l = 0 then wp (beV l) q else 0
theorem beV_pad (k : Nat) (l : List UInt8) : beV (List.replicate k 0 ++ l) = beV l := by
  induction k with
  | zero => rfl
  | succ k ih => rw [List.replicate_succ, List.cons_append, beV_zero, ih]
theorem wp_word (a0 a1 a2 a3 : Nat) (h0 : a0 < 18446744073709551616) (h1 : a1 < 18446744073709551616) (h2 : a2 < 18446744073709551616) (h3 : a3 < 18446744073709551616) :
    wp (wordN a0 a1 a2 a3) 0 = a0 ∧ wp (wordN a0 a1 a2 a3) 1 = a1 ∧ wp (wordN a0 a1 a2 a3) 2 = a2 ∧ wp (wordN a0 a1 a2 a3) 3 = a3 := by
  unfold wp wordN
  simp only [Nat.reducePow, Nat.reduceMul]
  omega
theorem word_lt (a0 a1 a2 a3 : Nat) (h0 : a0 < 18446744073709551616) (h1 : a1 < 18446744073709551616) (h2 : a2 < 18446744073709551616) (h3 : a3 < 18446744073709551616) : wordN a0 a1 a2 a3 < 256 ^ 32 := by
  unfold wordN
  simp only [Nat.reducePow]
  omega
/-- what is written is read -/
theorem parse_beN (n : Nat) (h : n < 256 ^ 32) : parseE (beN n) = 0 ∧ ∀ q, parseP (beN n) q = wp n q := by
  have hE : parseE (beN n) = 0 := by
    unfold parseE
    rw [if_neg (by have := beN_len n; omega), if_neg]
    rcases beN_first n with e | e
    · rw [e]; simp
    · intro g
      cases hq : beN n with
      | nil => rw [hq] at g; cases g
      | cons a l => rw [hq] at g e; injection g with g; exact e g
  exact ⟨hE, fun q => by unfold parseP; rw [if_pos hE, beV_beN n h]⟩
theorem wp_join (N : Nat) (h : N < 256 ^ 32) : wordN (wp N 0) (wp N 1) (wp N 2) (wp N 3) = N := by
  unfold wp wordN
  simp only [Nat.reducePow, Nat.reduceMul] at *
  omega
/-- what is read is written just so -/
theorem parse_only {l : List UInt8} (h : parseE l = 0) : beN (wordN (parseP l 0) (parseP l 1) (parseP l 2) (parseP l 3)) = l := by
  unfold parseP
  rw [if_pos h, if_pos h, if_pos h, if_pos h]
  unfold parseE at h
  split at h
  · cases h
  rename_i h1
  split at h
  · cases h
  rename_i h2
  have hlt : beV l < 256 ^ 32 := Nat.lt_of_lt_of_le (beV_lt l) (Nat.pow_le_pow_right (by omega) (by omega))
  rw [wp_join _ hlt]
  cases l with
  | nil => exact beN_zero
  | cons a l => exact beN_beV _ (by omega) (fun e => h2 (by rw [show a = 0 from e]; rfl))
end Go.Proofs.YtmlkjackopiekaaDoor
