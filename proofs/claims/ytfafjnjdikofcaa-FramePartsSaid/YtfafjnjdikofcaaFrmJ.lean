/- Plain laws of the frame at a place. -/
import Derived.Test.YtfafjnjdikofcaaFrmI
namespace Go.Proofs.Ytfafjnjdikofcaa
open Go.RowKit Go.Shelf

theorem valL_cons (b : UInt8) (l : List UInt8) : valL (b :: l) = b.toNat * 256 ^ l.length + valL l := by
  have gen : ∀ (r : List UInt8) (x : Nat), r.foldl (fun n b => n * 256 + b.toNat) x = x * 256 ^ r.length + r.foldl (fun n b => n * 256 + b.toNat) 0 := by
    intro r
    induction r with
    | nil => intro x; simp
    | cons c r ih =>
      intro x
      rw [List.foldl_cons, ih, List.foldl_cons, ih (0 * 256 + c.toNat), List.length_cons, Nat.pow_succ]
      rw [Nat.add_mul, Nat.add_mul]
      have : x * 256 * 256 ^ r.length = x * (256 ^ r.length * 256) := by rw [Nat.mul_assoc, Nat.mul_comm 256]
      omega
  unfold valL
  rw [List.foldl_cons, gen]
  simp
theorem valL_high (n : Nat) : ∀ k : Nat, valL (highL n k) = n % 256 ^ k
  | 0 => by simp [highL, valL, Nat.mod_one]
  | k + 1 => by
    rw [highL, valL_cons, highL_len, valL_high n k]
    have hb : (UInt8.ofNat (n / 256 ^ k)).toNat = n / 256 ^ k % 256 := by simp
    rw [hb, Nat.pow_succ, Nat.mod_mul, Nat.mul_comm]
    omega
theorem highL_more : ∀ (k n : Nat) (c : Nat), highL (c * 256 ^ k + n) k = highL n k := by
  intro k
  induction k with
  | zero => intro n c; rfl
  | succ k ih =>
    intro n c
    rw [highL, highL]
    have e1 : (c * 256 ^ (k + 1) + n) / 256 ^ k = c * 256 + n / 256 ^ k := by
      rw [Nat.pow_succ, ← Nat.mul_assoc, Nat.mul_right_comm, Nat.mul_comm _ (256 ^ k), Nat.mul_add_div (Nat.pow_pos (by omega))]
    have e2 : UInt8.ofNat (c * 256 + n / 256 ^ k) = UInt8.ofNat (n / 256 ^ k) := by
      apply UInt8.toNat.inj
      simp
    rw [e1, e2, Nat.pow_succ, ← Nat.mul_assoc, Nat.mul_right_comm, ih]
theorem high_valL (l : List UInt8) : highL (valL l) l.length = l := by
  induction l with
  | nil => rfl
  | cons b l ih =>
    rw [List.length_cons, highL, valL_cons, highL_more, ih]
    have hv := valL_lt l
    have e : (b.toNat * 256 ^ l.length + valL l) / 256 ^ l.length = b.toNat := by
      rw [Nat.mul_comm, Nat.mul_add_div (Nat.pow_pos (by omega)), Nat.div_eq_of_lt hv]; rfl
    rw [e]; simp

/-- the frame that bytes begin with, and how long it is -/
def nextT (t : List UInt8) : Frm × Nat × Int :=
  if t.length < 22 then (Frm.none_, 0, 3) else
  if 4096 < valL ((t.drop 18).take 4) then (Frm.none_, 0, 5) else
  if t.length ≤ 22 + valL ((t.drop 18).take 4) then (Frm.none_, 0, 3) else
  if 1 < (t.getD (22 + valL ((t.drop 18).take 4)) 0).toNat then (Frm.none_, 0, 2) else
  (⟨mkB (t.take 16), (valL ((t.drop 16).take 2) : Nat), mkB ((t.drop 22).take (valL ((t.drop 18).take 4))), (t.getD (22 + valL ((t.drop 18).take 4)) 0).toNat == 1⟩, 23 + valL ((t.drop 18).take 4), 0)
theorem nextF_T (l : List UInt8) (a : Nat) (ha : a ≤ l.length) : nextF l a = ((nextT (l.drop a)).1, (if (nextT (l.drop a)).2.2 = 0 then (a : Int) + (nextT (l.drop a)).2.1 else 0), (nextT (l.drop a)).2.2) := by
  unfold nextF nextT
  rw [if_neg (by omega), show (a : Int).toNat = a by omega]
  simp only
  split
  · rfl
  · split
    · rfl
    · split
      · rfl
      · split
        · rfl
        · simp; omega
theorem mkB_list (l : List UInt8) : (mkB l).data.toList = l := rfl
theorem mkB_size (l : List UInt8) : (mkB l).size = l.length := by rw [← ba_len]; rfl
theorem mkB_of (b : ByteArray) : mkB b.data.toList = b := ba_ext rfl

/-- what is got is put just so -/
theorem nextT_only (t : List UInt8) (f : Frm) (n : Nat) (h : nextT t = (f, n, 0)) : checkF f = 0 ∧ n = (bytesF f).length ∧ n ≤ t.length ∧ t.take n = bytesF f := by
  unfold nextT at h
  split at h
  · simp at h
  rename_i h1
  split at h
  · simp at h
  rename_i h2
  split at h
  · simp at h
  rename_i h3
  split at h
  · simp at h
  rename_i h4
  simp only [Prod.mk.injEq, and_true] at h
  obtain ⟨rfl, rfl⟩ := h
  obtain ⟨z, hz⟩ : ∃ z, valL ((t.drop 18).take 4) = z := ⟨_, rfl⟩
  rw [hz] at h2 h3 h4 ⊢
  have l4 : ((t.drop 18).take 4).length = 4 := by rw [List.length_take, List.length_drop]; omega
  have l2 : ((t.drop 16).take 2).length = 2 := by rw [List.length_take, List.length_drop]; omega
  have v2 := valL_lt ((t.drop 16).take 2)
  rw [l2] at v2
  have hd : ((t.drop 22).take z).length = z := by rw [List.length_take, List.length_drop]; omega
  have hi : (t.take 16).length = 16 := by rw [List.length_take]; omega
  have hck : checkF ⟨mkB (t.take 16), (valL ((t.drop 16).take 2) : Nat), mkB ((t.drop 22).take z), (t.getD (22 + z) 0).toNat == 1⟩ = 0 := by
    simp only [checkF, mkB_size, hi, hd]
    rw [if_neg (by omega), if_neg (by omega)]
  have hb : bytesF ⟨mkB (t.take 16), (valL ((t.drop 16).take 2) : Nat), mkB ((t.drop 22).take z), (t.getD (22 + z) 0).toNat == 1⟩ = t.take (23 + z) := by
    simp only [bytesF, mkB_list, mkB_size, hd, Int.toNat_natCast]
    have e2 := high_valL ((t.drop 16).take 2)
    rw [l2] at e2
    have e4 := high_valL ((t.drop 18).take 4)
    rw [l4, hz] at e4
    rw [e2, e4]
    have el : lastB ((t.getD (22 + z) 0).toNat == 1) = t.getD (22 + z) 0 := by
      unfold lastB
      split
      · rename_i h; apply UInt8.toNat.inj; simp at h; rw [List.getD_eq_getElem?_getD, h]; rfl
      · rename_i h; apply UInt8.toNat.inj; simp at h; rw [List.getD_eq_getElem?_getD] at h4 ⊢; show 0 = _; omega
    rw [el]
    have s1 : t.take (23 + z) = t.take (22 + z) ++ [t.getD (22 + z) 0] := by rw [show 23 + z = 22 + z + 1 by omega]; exact take_snoc t (22 + z) 0 (by omega)
    have s2 : t.take (22 + z) = t.take 22 ++ (t.drop 22).take z := by rw [List.take_add]
    have s3 : t.take 22 = t.take 18 ++ (t.drop 18).take 4 := by rw [show 22 = 18 + 4 by rfl, List.take_add]
    have s4 : t.take 18 = t.take 16 ++ (t.drop 16).take 2 := by rw [show 18 = 16 + 2 by rfl, List.take_add]
    rw [s1, s2, s3, s4]
  refine ⟨hck, ?_, by omega, hb.symm⟩
  rw [hb, List.length_take]; omega
/-- what is put is got again -/
theorem nextT_back (f : Frm) (r : List UInt8) (h : checkF f = 0) : nextT (bytesF f ++ r) = (f, (bytesF f).length, 0) := by
  obtain ⟨k1, k2, k3, k4⟩ := check_ok h
  obtain ⟨id, num, data, last⟩ := f
  replace k1 : id.size = 16 := k1
  replace k2 : 0 ≤ num := k2
  replace k3 : num ≤ 65535 := k3
  replace k4 : data.size ≤ 4096 := k4
  obtain ⟨m, rfl⟩ := Int.eq_ofNat_of_zero_le k2
  have hlen := bytesF_len _ h
  replace hlen : (bytesF ⟨id, m, data, last⟩).length = 23 + data.size := hlen
  have hb : bytesF ⟨id, m, data, last⟩ ++ r = id.data.toList ++ (highL m 2 ++ (highL data.size 4 ++ (data.data.toList ++ (lastB last :: r)))) := by simp [bytesF]
  have il : id.data.toList.length = 16 := by rw [ba_len]; exact k1
  have dl : data.data.toList.length = data.size := ba_len data
  have z4 := highL_len data.size 4
  have z2 := highL_len m 2
  have d16 : (bytesF ⟨id, m, data, last⟩ ++ r).drop 16 = highL m 2 ++ (highL data.size 4 ++ (data.data.toList ++ (lastB last :: r))) := by rw [hb, List.drop_left' il]
  have d18 : (bytesF ⟨id, m, data, last⟩ ++ r).drop 18 = highL data.size 4 ++ (data.data.toList ++ (lastB last :: r)) := by rw [show 18 = 16 + 2 by rfl, ← List.drop_drop, d16, List.drop_left' z2]
  have d22 : (bytesF ⟨id, m, data, last⟩ ++ r).drop 22 = data.data.toList ++ (lastB last :: r) := by rw [show 22 = 18 + 4 by rfl, ← List.drop_drop, d18, List.drop_left' z4]
  have t16 : (bytesF ⟨id, m, data, last⟩ ++ r).take 16 = id.data.toList := by rw [hb, List.take_left' il]
  have hz : valL (((bytesF ⟨id, m, data, last⟩ ++ r).drop 18).take 4) = data.size := by
    rw [d18, List.take_left' z4, valL_high, Nat.mod_eq_of_lt (by omega)]
  have hn : valL (((bytesF ⟨id, m, data, last⟩ ++ r).drop 16).take 2) = m := by
    rw [d16, List.take_left' z2, valL_high, Nat.mod_eq_of_lt (by omega)]
  have hl : (bytesF ⟨id, m, data, last⟩ ++ r).getD (22 + data.size) 0 = lastB last := by
    have : (bytesF ⟨id, m, data, last⟩ ++ r)[22 + data.size]? = some (lastB last) := by
      rw [← List.getElem?_drop, d22, List.getElem?_append_right (by omega), dl, Nat.sub_self]; rfl
    rw [List.getD_eq_getElem?_getD, this]; rfl
  have hd : ((bytesF ⟨id, m, data, last⟩ ++ r).drop 22).take data.size = data.data.toList := by rw [d22, List.take_left' dl]
  unfold nextT
  rw [hz, hn, hl, hd, t16, mkB_of, mkB_of]
  have hL : (bytesF ⟨id, m, data, last⟩ ++ r).length = 23 + data.size + r.length := by rw [List.length_append, hlen]
  rw [if_neg (by omega), if_neg (by omega), if_neg (by omega), if_neg (by cases last <;> decide), hlen]
  cases last <;> rfl
end Go.Proofs.Ytfafjnjdikofcaa
