/- Package fork's Check, the closure that Active hands to sort.Search, and sort.Search with it. -/
import Derived.Test.YtdejpiffmogenaaForkA
namespace Go.Proofs.Ytdejpiffmogenaa
open Go.RowKit

def ck (xs : List Int) : Int := if xs.length < 1 ∨ 6 < xs.length then 2 else if srt xs then 0 else 11

set_option maxHeartbeats 400000 in
theorem check_any (B : Nat) (A : Option Addr) (n c : Nat) (xs : List Int) (w : World) (hB : B ≤ w.heap.size) (h : Reads w B 1 A n (xs.map (Value.int .u64))) :
    Calls Try.prog 17 #[.agg #[.slice A n c]] w fun e w' => e = .returned (.int .i64 (ck xs)) ∧ Below w.heap.size w w' := by
  have hl : xs.length = n := by simpa using h.1
  by_cases h0 : n < 1
  · have hk : ck xs = 2 := by unfold ck; rw [if_pos (by omega)]
    have HK := Lib.hid hk; clear hk hl
    go_enter Try.func17, Try.ntmps17
    go_wp2_with fail
    go_ret
    exact ⟨by rw [HK.out]; rfl, (Below.refl _ _).alloc (Nat.le_refl _) _⟩
  · by_cases h6 : 6 < n
    · have hk : ck xs = 2 := by unfold ck; rw [if_pos (by omega)]
      have HK := Lib.hid hk; clear hk hl
      go_enter Try.func17, Try.ntmps17
      go_wp2_with fail
      go_ret
      exact ⟨by rw [HK.out]; rfl, (Below.refl _ _).alloc (Nat.le_refl _) _⟩
    · have hk : ck xs = if srt xs then 0 else 11 := by unfold ck; rw [if_neg (by omega)]
      have HK := Lib.hid hk; clear hk hl
      go_enter Try.func17, Try.ntmps17
      go_wp2_with fail
      refine (isSorted_any _ _ _ _ xs _ (h.alloc hB _) (by omega)).mono ?_
      rintro e w1 ⟨rfl, m, rfl⟩
      cases hs : srt xs
      all_goals
        rw [hs] at HK
        go_wp2_with fail
        go_ret
        exact ⟨by rw [HK.out]; rfl, below_drewN ((Below.refl _ _).alloc (Nat.le_refl _) _) _⟩

set_option maxHeartbeats 400000 in
theorem active1_any (b off n c bs bt : Nat) (x t : Int) (i : Nat) (w : World) (hi : i < n) (hs : w.cell? ⟨bs, 0, none⟩ = some (.slice (some ⟨b, off, none⟩) n c)) (ht : w.cell? ⟨bt, 0, none⟩ = some (.int .u64 t))
    (hx : w.cell? ⟨b, off + i, none⟩ = some (.int .u64 x)) :
    Calls Try.prog 19 #[.int .i64 i, .pointer (some ⟨bs, 0, none⟩), .pointer (some ⟨bt, 0, none⟩)] w fun e w' => e = .returned (.bool (decide (t < x))) ∧ ∃ m, w' = w.drewN m := by
  have hi' : (i : Int) < (n : Int) := by omega
  go_enter Try.func19, Try.ntmps19
  go_wp2
  go_quiet (fail)
  go_wp2
  go_ret
  exact ⟨rfl, _, rfl⟩

set_option maxHeartbeats 400000 in
theorem search_any (f : Nat → Bool) (n : Nat) (p q : Value) (w : World) (hn : n ≤ 281474976710656)
    (hf : ∀ (i m : Nat), i < n → Calls Try.prog 19 #[.int .i64 i, p, q] (w.drewN m) fun e w' => e = .returned (.bool (f i)) ∧ ∃ k, w' = (w.drewN m).drewN k) :
    Calls Try.prog 18 #[.int .i64 n, .func (.func 19) #[] #[p, q]] w fun e w' =>
      ∃ r : Nat, e = .returned (.int .i64 r) ∧ r ≤ n ∧ (0 < r → f (r - 1) = false) ∧ (r < n → f r = true) ∧ ∃ m, w' = w.drewN m := by
  have HF := hide hf
  clear hf
  go_enter Try.func18, Try.ntmps18
  go_wp2_with fail
  go_loopw [5, 6] (fun i j wr => ∃ a b : Nat, i = .int .i64 a ∧ j = .int .i64 b ∧ a ≤ b ∧ b ≤ n ∧ Hid (0 < a → f (a - 1) = false) ∧ Hid (b < n → f b = true) ∧ ∃ m, wr = w.drewN m) (fun i j _ => (intOf j).toNat - (intOf i).toNat)
  case atStart => exact ⟨0, n, rfl, rfl, by omega, by omega, fun h => absurd h (by omega), fun h => absurd h (by omega), 0, rfl⟩
  case round =>
    obtain ⟨a, b, rfl, rfl, hab, hbn, Ha, Hb, m, rfl⟩ := hrel
    by_cases hlt : a < b
    · go_wp2_with fail
      obtain ⟨h, hh⟩ : ∃ h : Nat, ((a : Int) + (b : Int)) / 2 = (h : Int) := ⟨(((a : Int) + (b : Int)) / 2).toNat, by omega⟩
      rw [hh]
      have h1 : a ≤ h := by omega
      have h2 : h < b := by omega
      clear hh
      refine ((unhide HF) h m (by omega)).mono ?_
      rintro e w1 ⟨rfl, k, rfl⟩
      cases hfh : f h
      all_goals
        have HFH := Lib.hid hfh; clear hfh
        go_wp2_with fail
      · refine ⟨⟨h + 1, b, by go_num, rfl, by omega, by omega, fun _ => by simpa using HFH.out, Hb, m + k, by simp⟩, by simp [intOf]; omega⟩
      · refine ⟨⟨a, h, rfl, rfl, by omega, by omega, Ha, fun _ => HFH.out, m + k, by simp⟩, by simp [intOf]; omega⟩
    · obtain rfl : b = a := by omega
      go_wp2_with fail
      go_ret
      exact ⟨b, rfl, hbn, Ha.out, Hb.out, m, rfl⟩
end Go.Proofs.Ytdejpiffmogenaa
