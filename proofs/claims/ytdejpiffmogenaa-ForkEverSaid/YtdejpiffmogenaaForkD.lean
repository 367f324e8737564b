/- Package fork's Active and From: what they answer. -/
import Derived.Test.YtdejpiffmogenaaForkC
namespace Go.Proofs.Ytdejpiffmogenaa
open Go.RowKit

def cnt (xs : List Int) (t : Int) : Nat := (xs.takeWhile (fun x => decide (x ≤ t))).length
def act (xs : List Int) (t : Int) : Int × Int := if ck xs = 0 then (if cnt xs t = 0 then (0, 10) else ((cnt xs t : Int) - 1, 0)) else (0, ck xs)
def frm (xs : List Int) (f : Int) : Int × Int := if ck xs = 0 then (if f < 0 ∨ (xs.length : Int) ≤ f then (0, 10) else (xs.getD f.toNat 0, 0)) else (0, ck xs)

theorem takeWhile_at (p : Int → Bool) (xs : List Int) : ∀ i, i < (xs.takeWhile p).length → p (xs.getD i 0) = true := by
  induction xs with
  | nil => intro i hi; simp at hi
  | cons x l ih =>
    intro i hi
    by_cases hx : p x = true
    · rw [List.takeWhile_cons_of_pos hx] at hi
      cases i with
      | zero => simpa using hx
      | succ i => simpa using ih i (by simpa using hi)
    · rw [List.takeWhile_cons_of_neg hx] at hi
      simp at hi
theorem takeWhile_stop (p : Int → Bool) (xs : List Int) : (xs.takeWhile p).length < xs.length → p (xs.getD (xs.takeWhile p).length 0) = false := by
  induction xs with
  | nil => intro h; simp at h
  | cons x l ih =>
    intro h
    by_cases hx : p x = true
    · rw [List.takeWhile_cons_of_pos hx] at h ⊢
      simpa using ih (by simpa using h)
    · rw [List.takeWhile_cons_of_neg hx]
      simpa using hx
theorem cnt_le (xs : List Int) (t : Int) : cnt xs t ≤ xs.length := by
  unfold cnt
  exact (List.takeWhile_sublist _).length_le
theorem cnt_at {xs : List Int} {t : Int} {i : Nat} (h : i < cnt xs t) : xs.getD i 0 ≤ t := by
  have := takeWhile_at (fun x => decide (x ≤ t)) xs i h
  simpa using this
theorem cnt_stop {xs : List Int} {t : Int} (h : cnt xs t < xs.length) : t < xs.getD (cnt xs t) 0 := by
  have := takeWhile_stop (fun x => decide (x ≤ t)) xs h
  simpa [cnt] using this
theorem srt_le {xs : List Int} (h : srt xs = true) : ∀ d i, i + d < xs.length → xs.getD i 0 ≤ xs.getD (i + d) 0 := by
  intro d
  induction d with
  | zero => intro i _; simp
  | succ d ih =>
    intro i hi
    exact Int.le_trans (ih i (by omega)) ((srt_iff xs).1 h (i + d) (by omega))
theorem cnt_unique {xs : List Int} {t : Int} {r : Nat} (hs : srt xs = true) (h : r ≤ xs.length) (h1 : 0 < r → xs.getD (r - 1) 0 ≤ t) (h2 : r < xs.length → t < xs.getD r 0) : r = cnt xs t := by
  have hc := cnt_le xs t
  rcases Nat.lt_trichotomy r (cnt xs t) with hr | hr | hr
  · have a := cnt_at hr
    have b := h2 (by omega)
    omega
  · exact hr
  · have a := cnt_stop (xs := xs) (t := t) (by omega)
    have b := h1 (by omega)
    have c := srt_le hs (r - 1 - cnt xs t) (cnt xs t) (by omega)
    rw [show cnt xs t + (r - 1 - cnt xs t) = r - 1 by omega] at c
    omega
theorem ck_zero {xs : List Int} (h : ck xs = 0) : 1 ≤ xs.length ∧ xs.length ≤ 6 ∧ srt xs = true := by
  unfold ck at h
  split at h
  · omega
  · split at h
    · rename_i h1 h2; exact ⟨by omega, by omega, h2⟩
    · omega

set_option maxHeartbeats 1000000 in
theorem active_any (B : Nat) (A : Option Addr) (n c : Nat) (xs : List Int) (t : Int) (w : World) (hB : B ≤ w.heap.size) (h : Reads w B 1 A n (xs.map (Value.int .u64))) :
    Calls Try.prog 10 #[.agg #[.slice A n c], .int .u64 t] w fun e w' => e = .returned (.tuple #[.int .i64 (act xs t).1, .int .i64 (act xs t).2]) ∧ Below w.heap.size w w' := by
  have hl : xs.length = n := by simpa using h.1
  have HL := Lib.hid hl; clear hl
  have bS := (Boxed.new w 24 (.slice A n c)).alloc (.cells #[.int .u64 t] 25)
  have bT := Boxed.new (w.alloc (.cells #[.slice A n c] 24)) 25 (.int .u64 t)
  have hr2 := (h.alloc hB (.cells #[.slice A n c] 24)).alloc (by simp; omega) (.cells #[.int .u64 t] 25)
  have hb2 : Below w.heap.size w ((w.alloc (.cells #[.slice A n c] 24)).alloc (.cells #[.int .u64 t] 25)) := ((Below.refl _ w).alloc (Nat.le_refl _) _).alloc (by simp) _
  rw [World.size_alloc] at bT
  have hz : w.heap.size + 2 ≤ ((w.alloc (.cells #[.slice A n c] 24)).alloc (.cells #[.int .u64 t] 25)).heap.size := by simp
  go_enter Try.func10, Try.ntmps10
  go_wp2_with fail
  refine (check_any _ _ _ _ xs _ (by simp; omega) hr2).mono ?_
  generalize (w.alloc (.cells #[.slice A n c] 24)).alloc (.cells #[.int .u64 t] 25) = w2 at *
  rintro e w3 ⟨rfl, hb3⟩
  have bS3 := (Boxed.below bS hb3).cell
  have bT3 := (Boxed.below bT hb3).cell
  have hr3 := hr2.below (hb3.mono (by omega))
  have hb4 := hb2.trans (hb3.mono (by omega))
  clear bS bT hr2 hb2 hb3 h hz
  by_cases hck : ck xs = 0
  · have hck' := ck_zero hck
    have hn6 : n ≤ 6 := by have := HL.out; omega
    have HC := Lib.hid hck'
    have ha : act xs t = if cnt xs t = 0 then (0, 10) else ((cnt xs t : Int) - 1, 0) := by unfold act; rw [if_pos hck]
    have HA := Lib.hid ha
    rw [hck]
    clear hck hck' ha
    go_wp2_with fail
    refine (search_any (fun i => decide (t < xs.getD i 0)) n (.pointer (some ⟨w.heap.size, 0, none⟩)) (.pointer (some ⟨w.heap.size + 1, 0, none⟩)) _ (by have := HC.out; have := HL.out; omega) (fun i m hi => ?_)).mono ?_
    · obtain ⟨b, off, rfl, hb, hc⟩ := hr3.ints hi
      exact active1_any b off n c _ _ _ t i _ hi bS3 bT3 (hc i hi)
    · rintro e w4 ⟨r, rfl, hrn, h1, h2, m, rfl⟩
      have hr : r = cnt xs t := cnt_unique HC.out.2.2 (by rw [HL.out]; exact hrn) (fun hr => by simpa using h1 hr) (fun hr => by simpa using h2 (by rw [← HL.out]; exact hr))
      have HR := Lib.hid hr
      clear h1 h2 hr
      by_cases hr0 : r = 0
      · subst hr0
        go_wp2_with fail
        go_ret2
        refine ⟨?_, below_drewN hb4 _⟩
        rw [HA.out, if_pos HR.out.symm]
        rfl
      · have hrz : ((r : Int) == 0) = false := by simpa using hr0
        go_wp2_with fail
        go_ret2
        refine ⟨?_, below_drewN hb4 _⟩
        rw [HA.out, if_neg (by rw [← HR.out]; exact hr0), ← HR.out]
        rfl
  · have ha : act xs t = (0, ck xs) := by unfold act; rw [if_neg hck]
    have hck2 : (ck xs != 0) = true := by simpa using hck
    have HA := Lib.hid ha
    clear ha
    go_wp2_with fail
    go_ret2
    exact ⟨by rw [HA.out]; rfl, hb4⟩

set_option maxHeartbeats 1000000 in
theorem from_any (B : Nat) (A : Option Addr) (n c : Nat) (xs : List Int) (f : Int) (w : World) (hB : B ≤ w.heap.size) (h : Reads w B 1 A n (xs.map (Value.int .u64))) :
    Calls Try.prog 12 #[.agg #[.slice A n c], .int .i64 f] w fun e w' => e = .returned (.tuple #[.int .u64 (frm xs f).1, .int .i64 (frm xs f).2]) ∧ Below w.heap.size w w' := by
  have hl : xs.length = n := by simpa using h.1
  have HL := Lib.hid hl; clear hl
  have bS := Boxed.new w 24 (.slice A n c)
  have hr2 := h.alloc hB (.cells #[.slice A n c] 24)
  have hb2 : Below w.heap.size w (w.alloc (.cells #[.slice A n c] 24)) := (Below.refl _ w).alloc (Nat.le_refl _) _
  have hz : w.heap.size + 1 ≤ (w.alloc (.cells #[.slice A n c] 24)).heap.size := by simp
  go_enter Try.func12, Try.ntmps12
  go_wp2_with fail
  refine (check_any _ _ _ _ xs _ (by simp; omega) hr2).mono ?_
  generalize w.alloc (.cells #[.slice A n c] 24) = w2 at *
  rintro e w3 ⟨rfl, hb3⟩
  have bS3 := (Boxed.below bS hb3).cell
  have hr3 := hr2.below (hb3.mono (by omega))
  have hb4 := hb2.trans (hb3.mono (by omega))
  clear bS hr2 hb2 hb3 h hz
  by_cases hck : ck xs = 0
  · have ha : frm xs f = if f < 0 ∨ (xs.length : Int) ≤ f then (0, 10) else (xs.getD f.toNat 0, 0) := by unfold frm; rw [if_pos hck]
    have HA := Lib.hid ha
    rw [hck]
    clear hck ha
    by_cases hf0 : f < 0
    · go_wp2_with fail
      go_ret2
      exact ⟨by rw [HA.out, if_pos (.inl hf0)]; rfl, hb4⟩
    · by_cases hf1 : (n : Int) ≤ f
      · go_wp2_with fail
        go_ret2
        exact ⟨by rw [HA.out, if_pos (.inr (by rw [HL.out]; exact hf1))]; rfl, hb4⟩
      · obtain ⟨k, rfl⟩ := Int.eq_ofNat_of_zero_le (Int.not_lt.1 hf0)
        obtain ⟨b, off, rfl, hb, hc⟩ := hr3.ints (k := k) (by omega)
        have hck := hc k (by omega)
        have hkn : (k : Int) < (n : Int) := by omega
        generalize hx : xs.getD k 0 = x at *
        have HX := Lib.hid hx
        clear hc hx
        go_wp2_with fail
        go_ret2
        refine ⟨?_, hb4⟩
        rw [HA.out, if_neg (by rw [HL.out]; omega), Int.toNat_natCast, HX.out]
        rfl
  · have ha : frm xs f = (0, ck xs) := by unfold frm; rw [if_neg hck]
    have hck2 : (ck xs != 0) = true := by simpa using hck
    have HA := Lib.hid ha
    clear ha
    go_wp2_with fail
    go_ret2
    exact ⟨by rw [HA.out]; rfl, hb4⟩
end Go.Proofs.Ytdejpiffmogenaa
