/- Digits by 128, read: plain law. -/
import Derived.Test.YtdflihfecfmpfaaDoorVar
namespace Go.Proofs.YtdflihfecfmpfaaDoor

/-- a digit at its place -/
def digB (c : UInt8) (i : Nat) : BitVec 64 := BitVec.ofNat 64 (c.toNat % 128) <<< (7 * i)
/-- reading on from a digit: the number, the place behind, what is wrong -/
def unvarGo (l : List UInt8) (a : Nat) : Nat → Nat → BitVec 64 → BitVec 64 × Nat × Int
  | 0, _, _ => (0, 0, 3)
  | f + 1, i, n => match l[a + i]? with
    | none => (0, 0, 3)
    | some c => if i = 9 ∧ 1 < c.toNat then (0, 0, 5) else if 128 ≤ c.toNat then unvarGo l a f (i + 1) (n ||| digB c i) else if 0 < i ∧ c.toNat = 0 then (0, 0, 8) else (n ||| digB c i, a + i + 1, 0)
def unvarS (l : List UInt8) (at_ : Int) : BitVec 64 × Nat × Int := if at_ < 0 ∨ (l.length : Int) < at_ then (0, 0, 1) else unvarGo l at_.toNat 10 0 0

theorem ofNat_split (m : Nat) (h : m < 2 ^ 64) : BitVec.ofNat 64 m = BitVec.ofNat 64 (m % 128) ||| (BitVec.ofNat 64 (m / 128) <<< 7) := by
  apply BitVec.eq_of_toNat_eq
  rw [BitVec.toNat_or, BitVec.toNat_shiftLeft, BitVec.toNat_ofNat, BitVec.toNat_ofNat, BitVec.toNat_ofNat, Nat.shiftLeft_eq, Nat.mod_eq_of_lt h, Nat.mod_eq_of_lt (show m % 128 < 2 ^ 64 by omega), Nat.mod_eq_of_lt (show m / 128 < 2 ^ 64 by omega),
    Nat.mod_eq_of_lt (show m / 128 * 2 ^ 7 < 2 ^ 64 by omega)]
  have := Nat.two_pow_add_eq_or_of_lt (i := 7) (b := m % 128) (by omega) (m / 128)
  rw [Nat.or_comm, Nat.mul_comm, ← this]
  omega
theorem ofNat_split_at (m i : Nat) (h : m < 2 ^ 64) : BitVec.ofNat 64 m <<< (7 * i) = (BitVec.ofNat 64 (m % 128) <<< (7 * i)) ||| (BitVec.ofNat 64 (m / 128) <<< (7 * (i + 1))) := by
  conv => lhs; rw [ofNat_split m h]
  rw [BitVec.shiftLeft_or_distrib, ← BitVec.shiftLeft_add]
  congr 2
  omega
theorem pow_step (i : Nat) (h : i ≤ 8) : 2 ^ (64 - 7 * i) = 128 * 2 ^ (64 - 7 * (i + 1)) := by
  rw [show 64 - 7 * i = (64 - 7 * (i + 1)) + 7 by omega, Nat.pow_add]
  omega
theorem pow_le64 (i : Nat) : 2 ^ (64 - 7 * i) ≤ 2 ^ 64 := Nat.pow_le_pow_right (by omega) (by omega)

/-- what Var writes is read -/
theorem unvar_back (pre post : List UInt8) : ∀ (f i m : Nat) (n : BitVec 64) (done : List UInt8), done.length = i → i + f = 10 → m < 2 ^ (64 - 7 * i) → (0 < i → 0 < m) →
    unvarGo (pre ++ (done ++ varF f m) ++ post) pre.length f i n = (n ||| BitVec.ofNat 64 m <<< (7 * i), pre.length + i + (varF f m).length, 0)
  | 0, i, m, n, done, hd, hf, hm, h0 => by
    exfalso
    have : i = 10 := by omega
    subst this
    have := h0 (by omega)
    simp at hm
    omega
  | f + 1, i, m, n, done, hd, hf, hm, h0 => by
    have hm64 : m < 2 ^ 64 := Nat.lt_of_lt_of_le hm (pow_le64 i)
    by_cases hlt : m < 128
    · have hv : varF (f + 1) m = [UInt8.ofNat m] := by rw [varF, if_pos hlt]
      have hget : (pre ++ (done ++ varF (f + 1) m) ++ post)[pre.length + i]? = some (UInt8.ofNat m) := by
        rw [hv, List.append_assoc, List.getElem?_append_right (by omega), show pre.length + i - pre.length = i by omega, List.append_assoc, List.getElem?_append_right (by omega), hd, Nat.sub_self]
        rfl
      have hc : (UInt8.ofNat m).toNat = m := by simp; omega
      rw [unvarGo, hget]
      simp only [hc, hv, List.length_singleton]
      rw [if_neg (by
        rintro ⟨rfl, h1⟩
        have : m < 2 := hm
        omega), if_neg (by omega), if_neg (by rintro ⟨h1, h2⟩; have := h0 h1; omega)]
      unfold digB
      rw [hc, Nat.mod_eq_of_lt hlt]
    · have hv : varF (f + 1) m = UInt8.ofNat (m % 128 + 128) :: varF f (m / 128) := by rw [varF, if_neg hlt]
      have hget : (pre ++ (done ++ varF (f + 1) m) ++ post)[pre.length + i]? = some (UInt8.ofNat (m % 128 + 128)) := by
        rw [hv, List.append_assoc, List.getElem?_append_right (by omega), show pre.length + i - pre.length = i by omega, List.append_assoc, List.getElem?_append_right (by omega), hd, Nat.sub_self]
        rfl
      have hc : (UInt8.ofNat (m % 128 + 128)).toNat = m % 128 + 128 := by simp; omega
      have hi : i ≤ 8 := by
        rcases Nat.lt_or_ge i 9 with h | h
        · omega
        · exfalso
          have : 2 ^ (64 - 7 * i) ≤ 2 ^ 1 := Nat.pow_le_pow_right (by omega) (by omega)
          omega
      rw [unvarGo, hget]
      simp only [hc]
      rw [if_neg (by omega), if_pos (by omega)]
      have hstep := pow_step i hi
      have ih := unvar_back pre post f (i + 1) (m / 128) (n ||| digB (UInt8.ofNat (m % 128 + 128)) i) (done ++ [UInt8.ofNat (m % 128 + 128)]) (by simp [hd]) (by omega) (by rw [hstep] at hm; exact Nat.div_lt_of_lt_mul hm) (by omega)
      rw [show done ++ [UInt8.ofNat (m % 128 + 128)] ++ varF f (m / 128) = done ++ varF (f + 1) m by rw [hv]; simp] at ih
      rw [ih, hv]
      congr 1
      · rw [BitVec.or_assoc, ofNat_split_at m i hm64]
        unfold digB
        rw [hc, show (m % 128 + 128) % 128 = m % 128 by omega]
      · congr 1
        simp
        omega
/-- what is read was written so -/
theorem unvar_only (l : List UInt8) (a : Nat) : ∀ (f i : Nat) (n r : BitVec 64) (to : Nat), i + f = 10 → unvarGo l a f i n = (r, to, 0) →
    ∃ m, m < 2 ^ (64 - 7 * i) ∧ (0 < i → 0 < m) ∧ r = n ||| BitVec.ofNat 64 m <<< (7 * i) ∧ to = a + i + (varF f m).length ∧ to ≤ l.length ∧ (l.drop (a + i)).take (varF f m).length = varF f m
  | 0, i, n, r, to, hf, h => by simp [unvarGo] at h
  | f + 1, i, n, r, to, hf, h => by
    rw [unvarGo] at h
    cases hg : l[a + i]? with
    | none => rw [hg] at h; simp at h
    | some c =>
      rw [hg] at h
      simp only at h
      obtain ⟨hlt, hge⟩ := List.getElem?_eq_some_iff.1 hg
      have hdrop : l.drop (a + i) = c :: l.drop (a + i + 1) := by rw [List.drop_eq_getElem_cons hlt, hge]
      split at h
      · simp at h
      · rename_i h9
        split at h
        · rename_i hc
          obtain ⟨m, h1, h2, h3, h4, h5, h6⟩ := unvar_only l a f (i + 1) _ r to (by omega) h
          have hi : i ≤ 8 := by
            rcases Nat.lt_or_ge i 9 with h | h
            · omega
            · exfalso; exact h9 ⟨by omega, by omega⟩
          have hcl := c.toNat_lt
          have hstep := pow_step i hi
          have hm : 0 < m := h2 (by omega)
          have hv : varF (f + 1) (m * 128 + c.toNat % 128) = c :: varF f m := by
            rw [varF, if_neg (by omega), show (m * 128 + c.toNat % 128) % 128 + 128 = c.toNat by omega, show (m * 128 + c.toNat % 128) / 128 = m by omega]
            simp
          have hlt64 : m * 128 + c.toNat % 128 < 2 ^ (64 - 7 * i) := by rw [hstep]; omega
          refine ⟨m * 128 + c.toNat % 128, hlt64, by omega, ?_, ?_, h5, ?_⟩
          · rw [h3, ofNat_split_at _ i (Nat.lt_of_lt_of_le hlt64 (pow_le64 i)), show (m * 128 + c.toNat % 128) % 128 = c.toNat % 128 by omega, show (m * 128 + c.toNat % 128) / 128 = m by omega, BitVec.or_assoc]
            rfl
          · rw [h4, hv]; simp; omega
          · rw [hv, hdrop, List.length_cons, List.take_succ_cons, show a + i + 1 = a + (i + 1) by omega, h6]
        · rename_i hc
          split at h
          · simp at h
          · rename_i h0
            simp only [Prod.mk.injEq] at h
            obtain ⟨rfl, rfl, _⟩ := h
            have hv : varF (f + 1) c.toNat = [c] := by rw [varF, if_pos (by omega)]; simp
            refine ⟨c.toNat, ?_, ?_, ?_, by rw [hv]; simp, by omega, by rw [hv, hdrop]; simp⟩
            · rcases Nat.lt_or_ge i 9 with h | h
              · have : 2 ^ 7 ≤ 2 ^ (64 - 7 * i) := Nat.pow_le_pow_right (by omega) (by omega)
                omega
              · have : i = 9 := by omega
                subst this
                have : ¬ 1 < c.toNat := fun h => h9 ⟨rfl, h⟩
                show c.toNat < 2
                omega
            · intro hi
              rcases Nat.eq_zero_or_pos c.toNat with h | h
              · exact absurd ⟨hi, h⟩ h0
              · exact h
            · unfold digB
              rw [Nat.mod_eq_of_lt (by omega)]
theorem unvarS_back (pre post : List UInt8) (m : Nat) (h : m < 2 ^ 64) : unvarS (pre ++ varL m ++ post) pre.length = (BitVec.ofNat 64 m, pre.length + (varL m).length, 0) := by
  unfold unvarS
  rw [if_neg (by simp; omega), Int.toNat_natCast]
  have := unvar_back pre post 10 0 m 0 [] rfl rfl (by simpa using h) (by omega)
  simpa [varL] using this
theorem unvarS_only (l : List UInt8) (a : Nat) (r : BitVec 64) (to : Nat) (h : unvarS l a = (r, to, 0)) : to = a + (varL r.toNat).length ∧ to ≤ l.length ∧ (l.drop a).take (to - a) = varL r.toNat := by
  unfold unvarS at h
  split at h
  · simp at h
  · rw [Int.toNat_natCast] at h
    obtain ⟨m, h1, _, h3, h4, h5, h6⟩ := unvar_only l a 10 0 0 r to rfl h
    have hr : r.toNat = m := by
      rw [h3]
      simp
      omega
    rw [hr]
    refine ⟨h4, h5, ?_⟩
    rw [h4]
    simpa [varL] using h6
theorem unvarS_bad (l : List UInt8) (at_ : Int) (h : (unvarS l at_).2.2 ≠ 0) : (unvarS l at_).1 = 0 ∧ (unvarS l at_).2.1 = 0 := by
  have key : ∀ a f i n, (unvarGo l a f i n).2.2 ≠ 0 → (unvarGo l a f i n).1 = 0 ∧ (unvarGo l a f i n).2.1 = 0 := by
    intro a f
    induction f with
    | zero => intro i n _; exact ⟨rfl, rfl⟩
    | succ f ih =>
      intro i n h
      rw [unvarGo] at h ⊢
      split at h
      · exact ⟨rfl, rfl⟩
      · split at h
        · rename_i h9; rw [if_pos h9]; exact ⟨rfl, rfl⟩
        · rename_i h9
          rw [if_neg h9]
          split at h
          · rename_i hc; rw [if_pos hc]; exact ih _ _ h
          · rename_i hc
            rw [if_neg hc]
            split at h
            · rename_i h0; rw [if_pos h0]; exact ⟨rfl, rfl⟩
            · exact absurd rfl h
  unfold unvarS at h ⊢
  split
  · exact ⟨rfl, rfl⟩
  · rename_i hn; rw [if_neg hn] at h; exact key _ _ _ _ h
end Go.Proofs.YtdflihfecfmpfaaDoor
