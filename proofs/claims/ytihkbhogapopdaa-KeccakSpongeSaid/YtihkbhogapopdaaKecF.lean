/- The document's rot, bit and number: what they answer. -/
import Derived.Test.YtihkbhogapopdaaKecE
namespace Go.Proofs.Ytihkbhogapopdaa
open Go.RowKit Go.Shelf

theorem bxi (a b : Nat) (ha : a < 2 ^ 62) (hb : b < 2 ^ 62) : bits .xor .i64 (a : Int) (b : Int) = ((a ^^^ b : Nat) : Int) := by
  have hab : a ^^^ b < 2 ^ 62 := Nat.xor_lt_two_pow ha hb
  show IntKind.i64.wrap ((BitVec.ofInt 64 (a : Int) ^^^ BitVec.ofInt 64 (b : Int)).toNat : Int) = _
  rw [BitVec.ofInt_natCast, BitVec.ofInt_natCast, BitVec.toNat_xor, BitVec.toNat_ofNat, BitVec.toNat_ofNat, Nat.mod_eq_of_lt (by omega), Nat.mod_eq_of_lt (by omega)]
  exact IntWalk.i64_in _ (by omega)

theorem Lanes.new (w : World) (t : TypeId) (l : List (BitVec 64)) : Lanes (w.alloc (.cells (l.map u64v).toArray t)) w.heap.size t l := Blk.new w t _

def rotR (x : BitVec 64) (by_ : Nat) : BitVec 64 := x.rotateLeft (by_ % 64)
theorem rot_any (x : BitVec 64) (by_ : Nat) (hb : by_ < 2 ^ 62) (w : World) :
    Calls Try.prog 23 #[.int .u64 (x.toNat : Int), .int .i64 (by_ : Int)] w fun e w' => e = .returned (.int .u64 ((rotR x by_).toNat : Int)) ∧ w' = w := by
  have h0 : (0 : Int) ≤ (x.toNat : Int) := by omega
  have h1 : (x.toNat : Int) ≤ 18446744073709551615 := by have := x.isLt; omega
  obtain ⟨k, hk⟩ : ∃ k, by_ % 64 = k := ⟨_, rfl⟩
  have hk64 : k < 64 := by omega
  have hm : (by_ : Int).tmod 64 = (k : Int) := by rw [Int.tmod_eq_emod_of_nonneg (by omega)]; omega
  have hw : IntKind.i64.wrap (64 - (k : Int)) = ((64 - k : Nat) : Int) := by rw [IntWalk.i64_in _ (by omega)]; omega
  unfold rotR
  rw [hk]
  go_enter Try.func23, Try.ntmps23
  by_cases hk0 : k = 0
  · subst hk0
    go_wp2_with fail
    go_ret
    refine ⟨?_, rfl⟩
    have e4 : x >>> 64 = 0 := by
      apply BitVec.eq_of_toNat_eq
      simp [Nat.shiftRight_eq_div_pow, Nat.div_eq_of_lt x.isLt]
    have e3 : x.rotateLeft 0 = x := by
      rw [BitVec.rotateLeft_def]
      show x <<< 0 ||| x >>> 64 = x
      rw [e4]; simp
    rw [e3]
    rfl
  · have hk1 : decide ((k : Int) = 0) = false := by simp; omega
    go_wp2_with fail
    go_ret
    refine ⟨?_, rfl⟩
    have e1 : IntKind.u64.wrap ((x.toNat : Int) * 2 ^ k) = ((x <<< k).toNat : Int) := by
      rw [BitVec.toNat_shiftLeft, Nat.shiftLeft_eq]
      simp [IntKind.wrap, IntKind.bits, IntKind.signed]
    have e2 : (x.toNat : Int) / 2 ^ (64 - k) = ((x >>> (64 - k)).toNat : Int) := by
      rw [BitVec.toNat_ushiftRight, Nat.shiftRight_eq_div_pow]
      simp
    have e3 : x.rotateLeft k = x <<< k ||| x >>> (64 - k) := by
      rw [BitVec.rotateLeft_def, Nat.mod_eq_of_lt hk64]
    show Ending.returned (.int .u64 (bits .or .u64 (IntKind.u64.wrap ((x.toNat : Int) * 2 ^ k)) ((x.toNat : Int) / 2 ^ (64 - k)))) = _
    rw [e1, e2, bo, e3]

def lfStep (r : Nat) : Nat := if 256 ≤ 2 * r then (2 * r) ^^^ 0x171 else 2 * r
def lf : Nat → Nat
  | 0 => 1
  | n + 1 => lfStep (lf n)
theorem lfStep_lt : ∀ r : Fin 256, lfStep r.val < 256 := by decide +kernel
theorem lf_lt : ∀ n, lf n < 256
  | 0 => by decide
  | n + 1 => lfStep_lt ⟨lf n, lf_lt n⟩
set_option maxRecDepth 100000 in
set_option maxHeartbeats 1000000 in
theorem bit_any (t : Nat) (ht : t < 255) (w : World) :
    Calls Try.prog 24 #[.int .i64 (t : Int)] w fun e w' => e = .returned (.int .u64 ((lf t % 2 : Nat) : Int)) ∧ w' = w := by
  have hm : (t : Int).tmod 255 = (t : Int) := by rw [Int.tmod_eq_emod_of_nonneg (by omega)]; omega
  go_enter Try.func24, Try.ntmps24
  go_wp2_with fail
  go_loopw [3, 4] (fun r i wr => ∃ k : Nat, i = .int .i64 k ∧ k ≤ t ∧ r = .int .i64 (lf k) ∧ wr = w) (fun _ i _ => t - (intOf i).toNat)
  case atStart => exact ⟨0, rfl, by omega, rfl, rfl⟩
  case round =>
    obtain ⟨k, rfl, hk, rfl, rfl⟩ := hrel
    by_cases hlt : k < t
    · obtain ⟨r, hr⟩ : ∃ r, lf k = r := ⟨_, rfl⟩
      have hr256 : r < 256 := hr ▸ lf_lt k
      have hst : lf (k + 1) = lfStep r := by rw [← hr]; rfl
      obtain ⟨q, hq⟩ : ∃ q, 2 * r = q := ⟨_, rfl⟩
      have hp : IntKind.i64.wrap ((r : Int) * 2) = (q : Int) := by rw [IntWalk.i64_in _ (by omega)]; omega
      have hx := bxi q 369 (by omega) (by omega)
      rw [show ((369 : Nat) : Int) = 369 from rfl] at hx
      rw [hr]
      have HQ := Lib.hid hq
      have HS := Lib.hid hst
      clear hq hr hst
      go_wp2_with fail
      all_goals
        refine ⟨⟨k + 1, by simp, by omega, ?_, trivial⟩, by simp [intOf]; omega⟩
        rw [HS.out]
        unfold lfStep
        rw [HQ.out]
      · rw [if_pos (by omega)]
      · rw [if_neg (by omega)]
    · obtain rfl : k = t := by omega
      go_wp2_with fail
      go_ret
      exact ⟨by simp, rfl⟩

def numberN (i : Nat) : Nat → BitVec 64
  | 0 => 0
  | j + 1 => numberN i j ||| BitVec.ofNat 64 (lf (7 * i + j) % 2) <<< (2 ^ j - 1)
theorem number_is : ∀ i : Fin 24, numberN i.val 7 = numsL.getD i.val 0 := by decide +kernel
set_option maxRecDepth 100000 in
set_option maxHeartbeats 1000000 in
theorem number_any (i : Nat) (hi : i < 24) (n : BitVec 64) (hn : numsL[i]? = some n) (w : World) :
    Calls Try.prog 18 #[.int .i64 (i : Int)] w fun e w' => e = .returned (.int .u64 (n.toNat : Int)) ∧ w' = w := by
  have hn7 : numberN i 7 = n := by
    rw [number_is ⟨i, hi⟩]
    show numsL.getD i 0 = n
    rw [List.getD_eq_getElem?_getD, hn]; rfl
  go_enter Try.func18, Try.ntmps18
  go_wp2_with fail
  go_loopw [3, 4, 5] (fun n at_ j wr => ∃ k : Nat, j = .int .i64 k ∧ k ≤ 7 ∧ n = .int .u64 ((numberN i k).toNat : Int) ∧ at_ = .int .i64 ((2 ^ k : Nat) : Int) ∧ wr = w) (fun _ _ j _ => 7 - (intOf j).toNat)
  case atStart => exact ⟨0, rfl, by omega, rfl, rfl, rfl⟩
  case round =>
    obtain ⟨k, rfl, hk, rfl, rfl, rfl⟩ := hrel
    by_cases hlt : k < 7
    · obtain ⟨m, hm⟩ : ∃ m, 2 ^ k = m := ⟨_, rfl⟩
      have hm1 : 1 ≤ m := hm ▸ Nat.one_le_two_pow
      have hm64 : m ≤ 64 := by rw [← hm]; exact Nat.pow_le_pow_right (n := 2) (by omega) (show k ≤ 6 by omega)
      obtain ⟨x, hx⟩ : ∃ x, numberN i k = x := ⟨_, rfl⟩
      rw [hm, hx]
      have HM := Lib.hid hm
      have HX := Lib.hid hx
      clear hm hx hn7
      have p1 : IntKind.i64.wrap (7 * (i : Int)) = 7 * (i : Int) := IntWalk.i64_in _ (by omega)
      have p2 : IntKind.i64.wrap (7 * (i : Int) + (k : Int)) = ((7 * i + k : Nat) : Int) := by rw [IntWalk.i64_in _ (by omega)]; omega
      have p3 : IntKind.i64.wrap ((m : Int) - 1) = ((m - 1 : Nat) : Int) := by rw [IntWalk.i64_in _ (by omega)]; omega
      have p4 : IntKind.i64.wrap ((m : Int) * 2) = ((m * 2 : Nat) : Int) := by rw [IntWalk.i64_in _ (by omega)]; omega
      generalize hs : m - 1 = s at *
      generalize hd : m * 2 = d at *
      obtain ⟨t, ht⟩ : ∃ t, 7 * i + k = t := ⟨_, rfl⟩
      have ht255 : t < 255 := by omega
      obtain ⟨b, hb⟩ : ∃ b, lf t % 2 = b := ⟨_, rfl⟩
      have hb2 : b < 2 := by omega
      rw [ht] at p2
      have HT := Lib.hid ht
      have HB := Lib.hid hb
      have hcall := bit_any t ht255 wr
      rw [hb] at hcall
      clear ht hb
      go_wp2_with fail
      refine hcall.mono ?_
      rintro e W ⟨rfl, rfl⟩
      clear hcall
      go_wp2_with fail
      have e1 : IntKind.u64.wrap ((b : Int) * 2 ^ s) = ((BitVec.ofNat 64 b <<< s).toNat : Int) := by
        rw [BitVec.toNat_shiftLeft, Nat.shiftLeft_eq, BitVec.toNat_ofNat, Nat.mod_eq_of_lt (show b < 2 ^ 64 by omega)]
        simp [IntKind.wrap, IntKind.bits, IntKind.signed]
      refine ⟨⟨k + 1, by simp, by omega, ?_, ?_, trivial⟩, by simp [intOf]; omega⟩
      · show _ = Value.int .u64 ((numberN i k ||| BitVec.ofNat 64 (lf (7 * i + k) % 2) <<< (2 ^ k - 1)).toNat : Int)
        rw [HX.out, HT.out, HB.out, HM.out, hs, e1, bo]
      · rw [Nat.pow_succ, HM.out, hd]
    · obtain rfl : k = 7 := by omega
      rw [hn7]
      go_wp2_with fail
      go_ret
      exact ⟨rfl, rfl⟩
end Go.Proofs.Ytihkbhogapopdaa
