/- Package bits: what is packed is unpacked, and the other way round; so are rows: plain law. -/
import Derived.Test.YtdeeclmmfhppgaaBitsX
namespace Go.Proofs.Ytdeeclmmfhppgaa

theorem packL_len (l : List Bool) : (packL l).length = (l.length + 7) / 8 := packW_len _ _
theorem bitAt_pack (l : List Bool) (i : Nat) (h : i < 8 * ((l.length + 7) / 8)) : bitAt (packL l) i = l.getD i false := by
  unfold bitAt
  rw [packL_len]
  unfold packL
  rw [packW_get _ _ _ (by omega), bit_byte8 _ _ (by omega)]
  congr 1
  omega
theorem unpack_pack (l : List Bool) (h : l.length ≤ 4096) : unpackE (packL l) (l.length : Int) = 0 ∧ unpackL (packL l) (l.length : Int) = l := by
  have hs : spareB (packL l) l.length = false := by
    unfold spareB
    rw [← Bool.not_eq_true, List.any_eq_true]
    rintro ⟨i, hi, hh⟩
    have hi' := List.mem_range.1 hi
    rw [packL_len] at hi'
    simp only [Bool.and_eq_true, decide_eq_true_eq] at hh
    rw [bitAt_pack _ _ hi', List.getD_eq_getElem?_getD, List.getElem?_eq_none hh.1] at hh
    exact absurd hh.2 (by simp)
  have he : unpackE (packL l) (l.length : Int) = 0 := by
    unfold unpackE
    rw [if_neg (by omega), if_neg (by rw [packL_len, Int.toNat_natCast]; simp), Int.toNat_natCast, hs]
    rfl
  refine ⟨he, ?_⟩
  unfold unpackL
  rw [if_pos he, Int.toNat_natCast]
  apply List.ext_getElem (by simp)
  intro i h1 h2
  simp only [List.getElem_map, List.getElem_range]
  rw [bitAt_pack _ _ (by omega), List.getD_eq_getElem?_getD, List.getElem?_eq_getElem h2]
  rfl
theorem unpackL_len (s : List UInt8) (n : Int) (h : unpackE s n = 0) : ((unpackL s n).length : Int) = n := by
  unfold unpackL
  rw [if_pos h]
  unfold unpackE at h
  split at h
  · cases h
  · simp; omega
theorem pack_unpack (s : List UInt8) (n : Int) (h : unpackE s n = 0) : packL (unpackL s n) = s := by
  have hn := unpackL_len s n h
  have hL : unpackL s n = (List.range n.toNat).map (bitAt s) := by unfold unpackL; rw [if_pos h]
  unfold unpackE at h
  split at h
  · cases h
  · split at h
    · cases h
    · rename_i hlen
      split at h
      · cases h
      · rename_i hsp
        have hlen : s.length = (n.toNat + 7) / 8 := Classical.not_not.1 hlen
        have hget : ∀ i, i < 8 * s.length → (unpackL s n).getD i false = bitAt s i := by
          intro i hi
          rw [hL, List.getD_eq_getElem?_getD, List.getElem?_map]
          by_cases hin : i < n.toNat
          · rw [List.getElem?_range hin]; rfl
          · rw [List.getElem?_eq_none (by simpa using hin)]
            by_cases hb : bitAt s i = true
            · exfalso
              apply hsp
              unfold spareB
              rw [List.any_eq_true]
              exact ⟨i, List.mem_range.2 hi, by simp only [Bool.and_eq_true, decide_eq_true_eq]; exact ⟨by omega, hb⟩⟩
            · rw [Bool.not_eq_true] at hb; rw [hb]; rfl
        have hm : ((unpackL s n).length + 7) / 8 = s.length := by omega
        unfold packL
        rw [hm]
        apply List.ext_getElem (packW_len _ _)
        intro j h1 h2
        have e1 : (packW s.length (unpackL s n))[j] = byte8 fun r => (unpackL s n).getD (8 * (s.length - 1 - j) + r) false := by simp [packW]
        rw [e1, ← byte8_bits (s[j])]
        refine byte8_congr fun r hr => ?_
        rw [hget _ (by omega)]
        unfold bitAt
        rw [show (8 * (s.length - 1 - j) + r) / 8 = s.length - 1 - j by omega, show (8 * (s.length - 1 - j) + r) % 8 = r by omega, show s.length - 1 - (s.length - 1 - j) = j by omega, List.getD_eq_getElem?_getD, List.getElem?_eq_getElem h2]
        rfl
theorem unpack_bad (s : List UInt8) (n : Int) (h : unpackE s n ≠ 0) : unpackL s n = [] := by unfold unpackL; rw [if_neg h]

theorem unrow_back (post : List UInt8) : ∀ (xs : List Int) (pre : List UInt8), (∀ x ∈ xs, 0 ≤ x ∧ x ≤ 18446744073709551615) → unrowGo (pre ++ rowL xs ++ post) xs.length pre.length = (xs, pre.length + (rowL xs).length, 0)
  | [], pre, _ => by simp [unrowGo, rowL]
  | x :: xs, pre, h => by
    have hx := h x (by simp)
    obtain ⟨z, rfl⟩ := Int.eq_ofNat_of_zero_le hx.1
    have hr : rowL ((z : Int) :: xs) = varL z ++ rowL xs := by simp [rowL]
    have e1 : pre ++ rowL ((z : Int) :: xs) ++ post = pre ++ varL z ++ (rowL xs ++ post) := by rw [hr]; simp
    have e2 : pre ++ rowL ((z : Int) :: xs) ++ post = (pre ++ varL z) ++ rowL xs ++ post := by rw [hr]; simp
    have hu : unvarS (pre ++ rowL ((z : Int) :: xs) ++ post) (pre.length : Int) = (BitVec.ofNat 64 z, pre.length + (varL z).length, 0) := by
      rw [e1]; exact unvarS_back pre (rowL xs ++ post) z (by omega)
    have ih := unrow_back post xs (pre ++ varL z) (fun y hy => h y (List.mem_cons_of_mem _ hy))
    rw [← e2, List.length_append] at ih
    rw [List.length_cons, unrowGo]
    simp only [hu, ih]
    rw [if_neg (by simp), if_neg (by simp)]
    have hz : ((BitVec.ofNat 64 z).toNat : Int) = (z : Int) := by
      rw [BitVec.toNat_ofNat, Nat.mod_eq_of_lt (by omega)]
    rw [hz, hr, List.length_append]
    simp [Nat.add_assoc]
theorem unrow_only (l : List UInt8) : ∀ (k a : Nat) (xs : List Int) (t : Nat), a ≤ l.length → unrowGo l k a = (xs, t, 0) → xs.length = k ∧ a ≤ t ∧ t ≤ l.length ∧ (l.drop a).take (t - a) = rowL xs ∧ ∀ x ∈ xs, 0 ≤ x ∧ x ≤ 18446744073709551615
  | 0, a, xs, t, ha, h => by
    simp only [unrowGo, Prod.mk.injEq] at h
    obtain ⟨rfl, rfl, _⟩ := h
    exact ⟨rfl, Nat.le_refl _, ha, by simp [rowL], by simp⟩
  | k + 1, a, xs, t, ha, h => by
    obtain ⟨r, to, e, hr⟩ : ∃ r to e, unvarS l (a : Int) = (r, to, e) := ⟨_, _, _, rfl⟩
    obtain ⟨ys, t', e', hg⟩ : ∃ ys t' e', unrowGo l k to = (ys, t', e') := ⟨_, _, _, rfl⟩
    rw [unrowGo] at h
    simp only [hr, hg] at h
    split at h
    · rename_i h1
      simp only [Prod.mk.injEq] at h
      exact absurd h.2.2 h1
    · rename_i h1
      have he : e = 0 := Classical.not_not.1 h1
      subst he
      split at h
      · rename_i h2
        simp only [Prod.mk.injEq] at h
        exact absurd h.2.2 h2
      · rename_i h2
        have he' : e' = 0 := Classical.not_not.1 h2
        subst he'
        simp only [Prod.mk.injEq] at h
        obtain ⟨rfl, rfl, _⟩ := h
        obtain ⟨u1, u2, u3⟩ := unvarS_only l a r to hr
        obtain ⟨i1, i2, i3, i4, i5⟩ := unrow_only l k to ys t' u2 hg
        refine ⟨by simp [i1], by omega, i3, ?_, ?_⟩
        · have hrow : rowL ((r.toNat : Int) :: ys) = varL r.toNat ++ rowL ys := by simp [rowL]
          rw [hrow, ← u3, ← i4, show t' - a = (to - a) + (t' - to) by omega, List.take_add, List.drop_drop, show a + (to - a) = to by omega]
        · intro x hx
          rcases List.mem_cons.1 hx with rfl | hx
          · have := r.isLt; omega
          · exact i5 x hx
theorem unrowS_back (pre post : List UInt8) (xs : List Int) (h : ∀ x ∈ xs, 0 ≤ x ∧ x ≤ 18446744073709551615) (hn : xs.length ≤ 4096) : unrowS (pre ++ rowL xs ++ post) (pre.length : Int) (xs.length : Int) = (xs, pre.length + (rowL xs).length, 0) := by
  unfold unrowS
  rw [if_neg (by simp; omega), Int.toNat_natCast, Int.toNat_natCast]
  exact unrow_back post xs pre h
theorem unrowS_only (l : List UInt8) (at_ n : Int) (xs : List Int) (t : Nat) (h : unrowS l at_ n = (xs, t, 0)) : ∃ a : Nat, at_ = (a : Int) ∧ (xs.length : Int) = n ∧ a ≤ t ∧ t ≤ l.length ∧ (l.drop a).take (t - a) = rowL xs ∧ xs.length ≤ 4096 ∧ ∀ x ∈ xs, 0 ≤ x ∧ x ≤ 18446744073709551615 := by
  unfold unrowS at h
  split at h
  · simp at h
  · rename_i hb
    obtain ⟨a, rfl⟩ := Int.eq_ofNat_of_zero_le (show 0 ≤ at_ by omega)
    obtain ⟨k, rfl⟩ := Int.eq_ofNat_of_zero_le (show 0 ≤ n by omega)
    rw [Int.toNat_natCast, Int.toNat_natCast] at h
    obtain ⟨i1, i2, i3, i4, i5⟩ := unrow_only l k a xs t (by omega) h
    exact ⟨a, rfl, by omega, i2, i3, i4, by omega, i5⟩
theorem unrowS_bad (l : List UInt8) (at_ n : Int) (h : (unrowS l at_ n).2.2 ≠ 0) : (unrowS l at_ n).1 = [] ∧ (unrowS l at_ n).2.1 = 0 := by
  unfold unrowS at h ⊢
  split
  · exact ⟨rfl, rfl⟩
  · rename_i hb; rw [if_neg hb] at h; exact unrow_bad _ _ _ h
end Go.Proofs.Ytdeeclmmfhppgaa
