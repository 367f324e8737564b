/- The number of bytes; the frame at a place. -/
import Derived.Test.YtfafjnjdikofcaaFrmG
namespace Go.Proofs.Ytfafjnjdikofcaa
open Go.RowKit Go.Shelf

/-- the number of bytes, the highest one first -/
def valL (l : List UInt8) : Nat := l.foldl (fun n b => n * 256 + b.toNat) 0
theorem valL_snoc (l : List UInt8) (b : UInt8) : valL (l ++ [b]) = valL l * 256 + b.toNat := by simp [valL]
theorem valL_lt (l : List UInt8) : valL l < 256 ^ l.length := by
  have key : ∀ r : List UInt8, valL r.reverse < 256 ^ r.reverse.length := by
    intro r
    induction r with
    | nil => simp [valL]
    | cons b r ih =>
      rw [List.reverse_cons, valL_snoc, List.length_append, Nat.pow_add]
      have := b.toNat_lt
      simp at *; omega
  have := key l.reverse
  rwa [List.reverse_reverse] at this
theorem or_low (n : Nat) (b : UInt8) : n * 256 ||| b.toNat = n * 256 + b.toNat := by
  have := b.toNat_lt
  rw [show n * 256 = n <<< 8 by rw [Nat.shiftLeft_eq], Nat.shiftLeft_add_eq_or_of_lt (by omega)]

set_option maxRecDepth 100000 in
set_option maxHeartbeats 1000000 in
theorem value_any (s : ByteArray) (hs : s.size ≤ 4) (w : World) :
    Calls Try.prog 23 #[.string s] w fun e w' => e = .returned (.int .i64 (valL s.data.toList : Nat)) ∧ w' = w := by
  obtain ⟨l, hl⟩ : ∃ l, s.data.toList = l := ⟨_, rfl⟩
  have hlz : l.length = s.size := by rw [← hl, ba_len]
  rw [hl]
  have HS := Lib.hid hl; have HZ := Lib.hid hlz
  clear hl hlz
  go_enter Try.func23, Try.ntmps23
  go_wp2_with fail
  go_loop [3, 7] (fun n i => ∃ k : Nat, i = .int .i64 (k : Int) ∧ k ≤ s.size ∧ n = .int .i64 (valL (l.take k) : Nat)) (fun _ i => s.size - (intOf i).toNat)
  case atStart => exact ⟨0, rfl, by omega, rfl⟩
  case round =>
    obtain ⟨k, rfl, hk, rfl⟩ := hrel
    by_cases hlt : k < s.size
    · have hst := take_snoc l k 0 (by have := HZ.out; omega)
      have hid := fun W => idx_str s k (l.getD k 0) (by rw [HS.out, List.getD_eq_getElem?_getD, List.getElem?_eq_getElem (by have := HZ.out; omega)]; rfl) W
      have hv := valL_lt (l.take k)
      have hp : 256 ^ (l.take k).length ≤ 16777216 := by
        have : (l.take k).length ≤ 3 := by rw [List.length_take]; omega
        calc 256 ^ (l.take k).length ≤ 256 ^ 3 := Nat.pow_le_pow_right (by omega) this
          _ = 16777216 := rfl
      have hsn := valL_snoc (l.take k) (l.getD k 0)
      rw [← hst] at hsn
      have hor := or_low (valL (l.take k)) (l.getD k 0)
      generalize l.getD k 0 = c at *
      have hcl := c.toNat_lt
      obtain ⟨V1, hV1⟩ : ∃ v, valL (l.take (k + 1)) = v := ⟨_, rfl⟩
      rw [hV1] at hsn
      have HV := Lib.hid hV1
      clear hst hV1
      generalize valL (l.take k) = V at *
      have hb : bits .or .i64 ((V : Int) * 256) (c.toNat : Int) = (V1 : Int) := by
        have := i64_or_nat (V * 256) c.toNat (by omega) (by omega)
        rw [hor, ← hsn] at this
        rw [← this]; simp
      have HBT := Lib.hid hb
      clear hb hor
      go_wp2_with fail
      exact ⟨⟨k + 1, by simp, by omega, by rw [HBT.out, HV.out]⟩, by simp [intOf]; omega⟩
    · have ht : l.take k = l := List.take_of_length_le (by have := HZ.out; omega)
      rw [ht]
      have hfin : decide ((k : Int) < (s.size : Int)) = false := by simp; omega
      have hfin2 : decide (k < s.size) = false := by simp; omega
      clear ht
      go_wp2_with fail
      go_ret
      exact ⟨rfl, rfl⟩

end Go.Proofs.Ytfafjnjdikofcaa
