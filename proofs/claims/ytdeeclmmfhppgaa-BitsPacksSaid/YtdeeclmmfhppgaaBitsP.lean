/- Bits in bytes: plain law. -/
import Derived.Test.YtdeeclmmfhppgaaRowB
namespace Go.Proofs.Ytdeeclmmfhppgaa

/-- a byte of eight bits; a bit of a byte -/
def byte8 (f : Nat → Bool) : UInt8 := UInt8.ofNat ((f 0).toNat + 2 * (f 1).toNat + 4 * (f 2).toNat + 8 * (f 3).toNat + 16 * (f 4).toNat + 32 * (f 5).toNat + 64 * (f 6).toNat + 128 * (f 7).toNat)
def bitOf (x : UInt8) (r : Nat) : Bool := x.toNat / 2 ^ r % 2 == 1
theorem byte8_congr {f g : Nat → Bool} (h : ∀ r, r < 8 → f r = g r) : byte8 f = byte8 g := by
  unfold byte8
  rw [h 0 (by omega), h 1 (by omega), h 2 (by omega), h 3 (by omega), h 4 (by omega), h 5 (by omega), h 6 (by omega), h 7 (by omega)]
theorem byte8_false : byte8 (fun _ => false) = 0 := by decide
theorem bit_byte8_aux : ∀ b0 b1 b2 b3 b4 b5 b6 b7 : Bool,
    (fun x : UInt8 => bitOf x 0 = b0 ∧ bitOf x 1 = b1 ∧ bitOf x 2 = b2 ∧ bitOf x 3 = b3 ∧ bitOf x 4 = b4 ∧ bitOf x 5 = b5 ∧ bitOf x 6 = b6 ∧ bitOf x 7 = b7)
      (UInt8.ofNat (b0.toNat + 2 * b1.toNat + 4 * b2.toNat + 8 * b3.toNat + 16 * b4.toNat + 32 * b5.toNat + 64 * b6.toNat + 128 * b7.toNat)) := by decide +kernel
theorem bit_byte8 (f : Nat → Bool) (r : Nat) (h : r < 8) : bitOf (byte8 f) r = f r := by
  obtain ⟨h0, h1, h2, h3, h4, h5, h6, h7⟩ := bit_byte8_aux (f 0) (f 1) (f 2) (f 3) (f 4) (f 5) (f 6) (f 7)
  unfold byte8
  rcases r with _ | _ | _ | _ | _ | _ | _ | _ | r <;> first | assumption | omega
theorem byte8_bits_aux : ∀ x : Fin 256, byte8 (bitOf (UInt8.ofNat x.val)) = UInt8.ofNat x.val := by decide +kernel
theorem byte8_bits (x : UInt8) : byte8 (bitOf x) = x := by
  have := byte8_bits_aux ⟨x.toNat, x.toNat_lt⟩
  simpa using this
theorem byte8_set_aux : ∀ b0 b1 b2 b3 b4 b5 b6 b7 : Bool, ∀ r : Fin 8,
    (fun (f : Nat → Bool) => f r.val = false → byte8 (fun i => if i = r.val then true else f i) = byte8 f ||| UInt8.ofNat (2 ^ r.val) ∧ (byte8 f).toNat + 2 ^ r.val < 256 ∧ (byte8 f ||| UInt8.ofNat (2 ^ r.val)).toNat = (byte8 f).toNat + 2 ^ r.val)
      (fun i => match i with | 0 => b0 | 1 => b1 | 2 => b2 | 3 => b3 | 4 => b4 | 5 => b5 | 6 => b6 | _ => b7) := by decide +kernel
theorem byte8_set (f : Nat → Bool) (r : Nat) (h : r < 8) (hf : f r = false) :
    byte8 (fun i => if i = r then true else f i) = byte8 f ||| UInt8.ofNat (2 ^ r) ∧ (byte8 f).toNat + 2 ^ r < 256 ∧ (byte8 f ||| UInt8.ofNat (2 ^ r)).toNat = (byte8 f).toNat + 2 ^ r := by
  have k := byte8_set_aux (f 0) (f 1) (f 2) (f 3) (f 4) (f 5) (f 6) (f 7) ⟨r, h⟩
  obtain ⟨g, hg⟩ : ∃ g : Nat → Bool, (fun i => match i with | 0 => f 0 | 1 => f 1 | 2 => f 2 | 3 => f 3 | 4 => f 4 | 5 => f 5 | 6 => f 6 | _ => f 7 : Nat → Bool) = g := ⟨_, rfl⟩
  rw [hg] at k
  have hfg : ∀ i, i < 8 → f i = g i := by
    intro i hi
    rw [← hg]
    rcases i with _ | _ | _ | _ | _ | _ | _ | _ | i <;> first | rfl | omega
  have e1 : byte8 f = byte8 g := byte8_congr hfg
  have e2 : byte8 (fun i => if i = r then true else f i) = byte8 (fun i => if i = r then true else g i) := byte8_congr fun i hi => by
    by_cases e : i = r
    · simp [e]
    · simp [e, hfg i hi]
  rw [e1, e2]
  exact k (by show g r = false; rw [← hfg r h]; exact hf)

/-- the bytes of bits, the lowest ones last -/
def packW (m : Nat) (l : List Bool) : List UInt8 := (List.range m).map fun j => byte8 fun r => l.getD (8 * (m - 1 - j) + r) false
def packL (l : List Bool) : List UInt8 := packW ((l.length + 7) / 8) l
theorem packW_len (m : Nat) (l : List Bool) : (packW m l).length = m := by simp [packW]
theorem packW_nil (m : Nat) : packW m [] = List.replicate m 0 := by
  apply List.ext_getElem (by simp [packW])
  intro i h1 h2
  simp [packW, byte8_false]
theorem packW_get (m : Nat) (l : List Bool) (j : Nat) (h : j < m) : (packW m l).getD j 0 = byte8 fun r => l.getD (8 * (m - 1 - j) + r) false := by
  rw [List.getD_eq_getElem?_getD, packW, List.getElem?_map, List.getElem?_range h]
  rfl
theorem getD_snoc (l : List Bool) (x : Bool) (i : Nat) : (l ++ [x]).getD i false = if i = l.length then x else l.getD i false := by
  rw [List.getD_eq_getElem?_getD, List.getD_eq_getElem?_getD]
  by_cases h : i < l.length
  · rw [List.getElem?_append_left h, if_neg (by omega)]
  · rw [List.getElem?_append_right (by omega)]
    by_cases e : i = l.length
    · simp [e]
    · rw [if_neg e, List.getElem?_eq_none (by simp; omega), List.getElem?_eq_none (by omega)]
theorem packW_false (m : Nat) (l : List Bool) : packW m (l ++ [false]) = packW m l := by
  unfold packW
  congr 1
  funext j
  congr 1
  funext r
  rw [getD_snoc]
  split
  · rename_i h; rw [h, List.getD_eq_getElem?_getD, List.getElem?_eq_none (by omega)]; rfl
  · rfl
/-- one bit more, that is 1 -/
theorem packW_true (m : Nat) (l : List Bool) (h : l.length / 8 < m) (v : UInt8) (hv : (packW m l).getD (m - 1 - l.length / 8) 0 = v) :
    packW m (l ++ [true]) = (packW m l).set (m - 1 - l.length / 8) (v ||| UInt8.ofNat (2 ^ (l.length % 8))) ∧ v.toNat + 2 ^ (l.length % 8) < 256 ∧ (v ||| UInt8.ofNat (2 ^ (l.length % 8))).toNat = v.toNat + 2 ^ (l.length % 8) := by
  obtain ⟨q, hq⟩ : ∃ q, l.length / 8 = q := ⟨_, rfl⟩
  obtain ⟨r0, hr0⟩ : ∃ r, l.length % 8 = r := ⟨_, rfl⟩
  rw [hq] at h hv ⊢
  rw [hr0]
  have hl : l.length = 8 * q + r0 := by omega
  rw [packW_get m l _ (by omega), show m - 1 - (m - 1 - q) = q by omega] at hv
  have key := byte8_set (fun r => l.getD (8 * q + r) false) r0 (by omega) (by show l.getD (8 * q + r0) false = false; rw [List.getD_eq_getElem?_getD, List.getElem?_eq_none (by omega)]; rfl)
  rw [hv] at key
  refine ⟨?_, key.2⟩
  rw [← key.1]
  apply List.ext_getElem (by simp [packW])
  intro j h1 h2
  have hj : j < m := by simpa [packW] using h1
  rw [List.getElem_set]
  have e1 : (packW m (l ++ [true]))[j] = byte8 fun r => (l ++ [true]).getD (8 * (m - 1 - j) + r) false := by simp [packW]
  have e2 : (packW m l)[j]'(by simpa [packW] using hj) = byte8 fun r => l.getD (8 * (m - 1 - j) + r) false := by simp [packW]
  rw [e1, e2]
  by_cases e : m - 1 - q = j
  · rw [if_pos e]
    have : m - 1 - j = q := by omega
    rw [this]
    refine byte8_congr fun r hr => ?_
    rw [getD_snoc, hl]
    by_cases er : r = r0
    · simp [er]
    · rw [if_neg (by omega), if_neg er]
  · rw [if_neg e]
    refine byte8_congr fun r hr => ?_
    rw [getD_snoc, if_neg (by omega)]
end Go.Proofs.Ytdeeclmmfhppgaa
