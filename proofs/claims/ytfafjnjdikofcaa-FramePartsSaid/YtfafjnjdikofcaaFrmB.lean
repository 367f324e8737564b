/- A number in bytes, the highest one first: both. -/
import Derived.Test.YtfafjnjdikofcaaFrmA
namespace Go.Proofs.Ytfafjnjdikofcaa
open Go.RowKit Go.Shelf

/-- the lowest w bytes of a number, the highest one first -/
def highL (n : Nat) : Nat → List UInt8
  | 0 => []
  | k + 1 => UInt8.ofNat (n / 256 ^ k) :: highL n k
theorem highL_len (n k : Nat) : (highL n k).length = k := by induction k <;> simp_all [highL]
/-- behind k rounds -/
def partL (n m k : Nat) : List UInt8 := List.replicate (m - k) 0 ++ highL n k
theorem partL_len (n m k : Nat) (hk : k ≤ m) : (partL n m k).length = m := by unfold partL; rw [List.length_append, List.length_replicate, highL_len]; omega
theorem partL_set (n m k : Nat) (hk : k < m) : (partL n m k).set (m - 1 - k) (UInt8.ofNat (n / 256 ^ k)) = partL n m (k + 1) := by
  obtain ⟨r, rfl⟩ : ∃ r, m = r + 1 + k := ⟨m - 1 - k, by omega⟩
  unfold partL
  rw [show r + 1 + k - k = r + 1 by omega, show r + 1 + k - 1 - k = r by omega, show r + 1 + k - (k + 1) = r by omega, List.replicate_succ', List.append_assoc, List.set_append_right _ _ (by simp)]
  simp [highL]
theorem partL_full (n m : Nat) : partL n m m = highL n m := by simp [partL]

theorem byte_shift (n k : Nat) : (n : Int) / 2 ^ (8 * k) % 256 = ((UInt8.ofNat (n / 256 ^ k)).toNat : Int) := by
  have e : (2 : Int) ^ (8 * k) = ((256 ^ k : Nat) : Int) := by rw [Int.pow_mul]; simp
  rw [e]
  simp

set_option maxRecDepth 100000 in
set_option maxHeartbeats 1000000 in
theorem number_any (n m : Nat) (hm : 1 ≤ m ∧ m ≤ 4) (w : World) :
    Calls Try.prog 20 #[.int .i64 (n : Int), .int .i64 (m : Int)] w fun e w' => e = .returned (.string ⟨(highL n m).toArray⟩) ∧ w.grownBy w' none := by
  have hmk := make_u8 m (by omega) w
  have hO := Blk.new w 5 (bytesC (List.replicate m 0))
  have hG : w.grownBy (w.alloc (.cells (bytesC (List.replicate m 0)) 5)) none := only_alloc (World.grownBy.refl _ _) _
  rw [show List.replicate m (0 : UInt8) = partL n m 0 by simp [partL, highL]] at hO hG hmk
  go_enter Try.func20, Try.ntmps20
  go_wp2_with fail
  generalize hw1 : w.alloc (.cells (bytesC (partL n m 0)) 5) = w1 at *
  have hgz : w.heap.size < w1.heap.size := hO.lt
  clear hw1
  go_wp2_with fail
  go_loopw [11] (fun i wr => ∃ k : Nat, i = .int .i64 (k : Int) ∧ k ≤ m ∧ Blk wr w.heap.size 5 (bytesC (partL n m k)) ∧ w.grownBy wr none) (fun i _ => m - (intOf i).toNat)
  case atStart => exact ⟨0, rfl, by omega, hO, hG⟩
  case round =>
    clear hO hG hmk
    obtain ⟨k, rfl, hk, hO, hG⟩ := hrel
    by_cases hlt : k < m
    · obtain ⟨j, hj⟩ : ∃ j, m - 1 - k = j := ⟨_, rfl⟩
      obtain ⟨m1, hm1⟩ : ∃ j, m - 1 = j := ⟨_, rfl⟩
      have p4 : IntKind.i64.wrap ((m : Int) - 1) = (m1 : Int) := by rw [IntWalk.i64_in _ (by omega)]; omega
      have p5 : IntKind.i64.wrap ((m1 : Int) - (k : Int)) = (j : Int) := by rw [IntWalk.i64_in _ (by omega)]; omega
      have f2 := hO.frozen j
      have f1 : wr.cell? ⟨w.heap.size, j, none⟩ = some (.int .u8 (((partL n m k).getD j 0).toNat : Int)) := bytesC_cell hO j (by rw [partL_len n m k hk]; omega)
      obtain ⟨c, hc⟩ : ∃ c, UInt8.ofNat (n / 256 ^ k) = c := ⟨_, rfl⟩
      have hst := partL_set n m k hlt
      rw [hc, hj] at hst
      have HS := Lib.hid hst
      have p6 : (n : Int) / 2 ^ (8 * k) % 256 = (c.toNat : Int) := by rw [← hc]; exact byte_shift n k
      have hO2 := hO.set_ j (.int .u8 (c.toNat : Int))
      rw [bytesC_setI, HS.out] at hO2
      clear hc hst
      generalize ((partL n m k).getD j 0).toNat = z at f1
      go_wp2_with fail
      go_roundw
      case rel => exact ⟨k + 1, by simp, by omega, hO2, only_set hG (p := ⟨w.heap.size, j, none⟩) (Nat.le_refl _) _⟩
      case measure => simp [intOf]; omega
    · have hkm : k = m := by omega
      subst hkm
      rw [partL_full] at hO
      have hfin : decide ((k : Int) < (k : Int)) = false := by simp
      obtain ⟨L, hL⟩ : ∃ l, highL n k = l := ⟨_, rfl⟩
      have hpl : L.length = k := by rw [← hL, highL_len]
      rw [hL] at hO
      have hcv := run_convert_bytes_back (P := Try.prog) wr 43 9 5 ⟨w.heap.size, 0, none⟩ k L (by kernel_rfl) (by kernel_rfl) (by kernel_rfl) (fun j hj => by
        have := bytesC_cell hO j hj
        rw [Addr.add_mid, Nat.zero_add, this, List.getD_eq_getElem?_getD, List.getElem?_eq_getElem hj]
        rfl)
      rw [hpl] at hcv
      have HL2 := Lib.hid hL
      clear hL hpl
      go_wp2_with fail
      go_ret
      exact ⟨by rw [HL2.out]; rfl, hG⟩

set_option maxRecDepth 100000 in
set_option maxHeartbeats 1000000 in
theorem high_any (n m : Nat) (hm : 1 ≤ m ∧ m ≤ 4) (w : World) :
    Calls Try.prog 25 #[.int .i64 (n : Int), .int .i64 (m : Int)] w fun e w' => e = .returned (.string ⟨(highL n m).toArray⟩) ∧ w.grownBy w' none := by
  obtain ⟨i0, z0, hi, hz0, hz1, hz2, hz3⟩ := byte_info
  obtain ⟨L, hL⟩ : ∃ l, highL n m = l := ⟨_, rfl⟩
  rw [hL]
  have HL := Lib.hid hL
  clear hL
  go_enter Try.func25, Try.ntmps25
  go_wp2_with fail
  go_loopw [5, 6] (fun v i wr => ∃ (k : Nat) (pre : List UInt8), i = .int .i64 ((k : Int) - 1) ∧ k ≤ m ∧ wr.ownsRow w.heap.size 5 1 v pre.length (u8s pre) ∧ w.grownBy wr none ∧ Hid (pre ++ highL n k = L) ∧ pre.length + k ≤ 4) (fun _ i _ => (intOf i + 1).toNat)
  case atStart => exact ⟨m, [], rfl, by omega, World.ownsRow_nil _ _ _ _, World.grownBy.refl _ _, HL.out, by simpa using hm.2⟩
  case round =>
    obtain ⟨k, pre, rfl, hk, hown, hg, h1, h4⟩ := hrel
    have hsz := hg.size
    obtain ⟨A, cc, rfl, _⟩ := own_slice hown
    cases k with
    | zero =>
      have hfin : pre = L := by rw [← h1.out]; simp [highL]
      subst hfin
      have hcv := conv_own hown
      clear h1
      go_wp2_with fail
      go_ret
      exact ⟨rfl, hg⟩
    | succ k =>
      obtain ⟨c, hc⟩ : ∃ c, UInt8.ofNat (n / 256 ^ k) = c := ⟨_, rfl⟩
      have q0 : ((k + 1 : Nat) : Int) - 1 = (k : Int) := by omega
      rw [q0]
      have q1 : IntKind.u64.wrap (8 * (k : Int)) = 8 * (k : Int) := by simp [IntKind.wrap, IntKind.bits, IntKind.signed]; omega
      have p6 : (n : Int) / 2 ^ (8 * k) % 256 = (c.toNat : Int) := by rw [← hc]; exact byte_shift n k
      have p7 : ((n : Int) / 2 ^ (8 * k)).tmod 256 = (c.toNat : Int) := by rw [Int.tmod_eq_emod_of_nonneg (Int.ediv_nonneg (by omega) (Int.pow_nonneg (by omega)))]; exact p6
      have p8 : (c.toNat : Int) % 256 = (c.toNat : Int) := by have := c.toNat_lt; omega
      have hst : (pre ++ [c]) ++ highL n k = L := by rw [← h1.out, highL, hc]; simp
      have HS := Lib.hid hst
      clear hc hst h1
      go_wp2_with (at_builtin; refine wpList_append_own _ rfl _ _ 43 rfl w.heap.size 5 i0 z0 1 1 Try.underlying43 hi hz0 hz1 hz2 hz3 (by decide) _ _ _ rfl (hown.alloc _) ⟨wr.heap.size, 0, none⟩ 1 1 [.int .u8 (c.toNat : Int)] rfl rfl (cell_one_new _ _ _) (by simp [Value.oneCell']) (by simp only [maxLen]; omega) (by omega) (by simp; omega) ?_; intro v' w4 hown4 hgrow _)
      have hown5 : w4.ownsRow w.heap.size 5 1 v' (pre ++ [c]).length (u8s (pre ++ [c])) := by simpa [u8s] using hown4
      have hg4 : w.grownBy w4 none := grown_self (only_alloc hg _) hgrow (fun j hj => .inr (own_ge hown hj))
      clear hown4 hgrow
      go_wp2_with fail
      go_roundw
      case rel => exact ⟨k, pre ++ [c], by simp, by omega, hown5, hg4, HS.out, by simp; omega⟩
      case measure => simp [intOf]
end Go.Proofs.Ytfafjnjdikofcaa
