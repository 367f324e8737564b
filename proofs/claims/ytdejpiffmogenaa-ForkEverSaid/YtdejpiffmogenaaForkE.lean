/- The document's answer for layer 12: what its functions answer. -/
import Derived.Test.YtdejpiffmogenaaForkD
import Derived.Deep.RegionHeld3
namespace Go.Proofs.Ytdejpiffmogenaa
open Go.RowKit

set_option maxHeartbeats 1000000 in
theorem refCheck_any (B : Nat) (A : Option Addr) (n c : Nat) (xs : List Int) (w : World) (hB : B ≤ w.heap.size) (h : Reads w B 1 A n (xs.map (Value.int .u64))) :
    Calls Try.prog 9 #[.agg #[.slice A n c]] w fun e w' => e = .returned (.int .i64 (ck xs)) ∧ Below w.heap.size w w' := by
  have hl : xs.length = n := by simpa using h.1
  have HL := Lib.hid hl
  have bS := (Boxed.new w 24 (.slice A n c)).cell
  have hr2 := h.alloc hB (.cells #[.slice A n c] 24)
  have hb2 : Below w.heap.size w (w.alloc (.cells #[.slice A n c] 24)) := (Below.refl _ w).alloc (Nat.le_refl _) _
  by_cases h0 : n < 1
  · have hk : ck xs = 2 := by unfold ck; rw [if_pos (by omega)]
    have HK := Lib.hid hk; clear hk hl
    go_enter Try.func9, Try.ntmps9
    go_wp2_with fail
    go_ret
    exact ⟨by rw [HK.out]; rfl, hb2⟩
  · by_cases h6 : 6 < n
    · have hk : ck xs = 2 := by unfold ck; rw [if_pos (by omega)]
      have HK := Lib.hid hk; clear hk hl
      go_enter Try.func9, Try.ntmps9
      go_wp2_with fail
      go_ret
      exact ⟨by rw [HK.out]; rfl, hb2⟩
    · have hk : ck xs = if srt xs then 0 else 11 := by unfold ck; rw [if_neg (by omega)]
      have HK := Lib.hid hk; clear hk hl
      go_enter Try.func9, Try.ntmps9
      go_wp2_with fail
      generalize w.alloc (.cells #[.slice A n c] 24) = w2 at *
      have hn : n ≤ 281474976710656 := by omega
      go_loopw [3] (fun i wr => ∃ k : Nat, i = .int .i64 ((k : Int) + 1) ∧ k + 1 ≤ n ∧ (∃ m, wr = w2.drewN m) ∧ Hid (∀ i : Nat, i < k → xs.getD i 0 ≤ xs.getD (i + 1) 0)) (fun i _ => n - (intOf i).toNat)
      case atStart => exact ⟨0, rfl, by omega, ⟨0, rfl⟩, by intro i h1; omega⟩
      case round =>
        obtain ⟨k, rfl, h1, ⟨m, rfl⟩, h2⟩ := hrel
        by_cases hlt : k + 1 < n
        · obtain ⟨b, off, rfl, _, hc⟩ := hr2.ints (k := k) (by omega)
          have hc1 := hc k (by omega)
          have hc2 := hc (k + 1) (by omega)
          have q0 : (0 : Int) ≤ (k : Int) + 1 := by omega
          have q1 : (k : Int) + 1 - 1 = (k : Int) := by omega
          have q2 : (k : Int) < (n : Int) := by omega
          have q4 : (k : Int) + 1 < (n : Int) := by omega
          have q3 : ((k : Int) + 1).toNat = k + 1 := by omega
          have h2' := Lib.hid h2.out
          clear h hr2 h2 hc
          go_wp2
          go_quiet (fail)
          go_wp2
          · have ht : xs[k + 1]?.getD 0 < xs[k]?.getD 0 := by assumption
            go_ret
            refine ⟨?_, below_drewN (below_drewN hb2 _) _⟩
            have hs : srt xs = false := by
              rw [← Bool.not_eq_true, srt_iff]
              intro hs
              have := hs k (by have := HL.out; omega)
              simp only [List.getD_eq_getElem?_getD] at this
              omega
            rw [HK.out, hs]
            rfl
          · have ht : xs[k]?.getD 0 ≤ xs[k + 1]?.getD 0 := by assumption
            refine ⟨⟨k + 1, by go_num, by omega, ⟨_, rfl⟩, fun i hi => ?_⟩, by simp [intOf]; omega⟩
            by_cases hik : i = k
            · subst hik; simpa using ht
            · exact h2'.out i (by omega)
        · have hs : srt xs = true := by
            rw [srt_iff]
            intro i hi
            exact h2.out i (by have := HL.out; omega)
          rw [hs] at HK
          have q4 : (n : Int) ≤ (k : Int) + 1 := by omega
          clear h2 hs
          go_wp2
          go_ret
          exact ⟨by rw [HK.out]; rfl, below_drewN hb2 m⟩

/-- where a schedule is sorted: the fork at a time that one of them begins at -/
theorem act_ref {xs : List Int} {t : Int} (h : ck xs = 0) : act xs t = if t < xs.getD 0 0 then (0, 10) else ((cnt xs t : Int) - 1, 0) := by
  have hc := ck_zero h
  unfold act
  rw [if_pos h]
  by_cases h0 : cnt xs t = 0
  · rw [if_pos h0, if_pos]
    have := cnt_stop (xs := xs) (t := t) (by omega)
    rwa [h0] at this
  · rw [if_neg h0, if_neg]
    have := cnt_at (xs := xs) (t := t) (i := 0) (by omega)
    omega

set_option maxHeartbeats 1000000 in
theorem refActive_any (B : Nat) (A : Option Addr) (n c : Nat) (xs : List Int) (t : Int) (w : World) (hB : B ≤ w.heap.size) (h : Reads w B 1 A n (xs.map (Value.int .u64))) :
    Calls Try.prog 11 #[.agg #[.slice A n c], .int .u64 t] w fun e w' => e = .returned (.tuple #[.int .i64 (act xs t).1, .int .i64 (act xs t).2]) ∧ Below w.heap.size w w' := by
  have hl : xs.length = n := by simpa using h.1
  have HL := Lib.hid hl; clear hl
  have bS := Boxed.new w 24 (.slice A n c)
  have hr2 := h.alloc hB (.cells #[.slice A n c] 24)
  have hb2 : Below w.heap.size w (w.alloc (.cells #[.slice A n c] 24)) := (Below.refl _ w).alloc (Nat.le_refl _) _
  have hz : w.heap.size + 1 ≤ (w.alloc (.cells #[.slice A n c] 24)).heap.size := by simp
  go_enter Try.func11, Try.ntmps11
  go_wp2_with fail
  refine (refCheck_any _ _ _ _ xs _ (by simp; omega) hr2).mono ?_
  generalize w.alloc (.cells #[.slice A n c] 24) = w2 at *
  rintro e w3 ⟨rfl, hb3⟩
  have bS3 := (Boxed.below bS hb3).cell
  have hr3 := hr2.below (hb3.mono (by omega))
  have hb4 := hb2.trans (hb3.mono (by omega))
  clear bS hr2 hb2 hb3 h hz
  by_cases hck : ck xs = 0
  · have hck' := ck_zero hck
    have HC := Lib.hid hck'
    have ha := act_ref (t := t) hck
    have HA := Lib.hid ha
    rw [hck]
    have hn1 : 1 ≤ n := by have := HL.out; omega
    have hnp : (0 : Int) < (n : Int) := by omega
    have hn : n ≤ 281474976710656 := by have := HL.out; omega
    clear hck hck' ha
    obtain ⟨b, off, rfl, hb, hc⟩ := hr3.ints (k := 0) (by omega)
    have hc0 := hc 0 (by omega)
    simp only [Nat.add_zero] at hc0
    by_cases h0 : t < xs.getD 0 0
    · rw [if_pos h0] at HA
      generalize xs.getD 0 0 = x0 at *
      go_wp2_with fail
      go_ret2
      exact ⟨by rw [HA.out]; rfl, hb4⟩
    · rw [if_neg h0] at HA
      have h0' := Lib.hid h0
      generalize hx0 : xs.getD 0 0 = x0 at *
      have HX := Lib.hid hx0
      have HCC := Lib.hid hc
      clear hx0 hc
      go_wp2_with fail
      go_loopw [7, 8] (fun f i wr => ∃ k r : Nat, i = .int .i64 k ∧ f = .int .i64 r ∧ k ≤ n ∧ r < n ∧ wr = w3 ∧ Hid (r ≤ k ∧ (xs.getD r 0 ≤ t) ∧ ∀ i : Nat, r < i → i < k → t < xs.getD i 0)) (fun _ i _ => n - (intOf i).toNat)
      case atStart => exact ⟨0, 0, rfl, rfl, by omega, by omega, rfl, by omega, by rw [HX.out]; have := h0'.out; omega, by intro i h1 h2; omega⟩
      case round =>
        obtain ⟨k, r, rfl, rfl, h1, h1', rfl, h2⟩ := hrel
        by_cases hlt : k < n
        · have hck := HCC.out k hlt
          have hkn : (k : Int) < (n : Int) := by omega
          generalize hx : xs.getD k 0 = x at *
          have HX1 := Lib.hid hx
          clear hx
          by_cases hxt : x ≤ t
          · go_wp2_with fail
            refine ⟨⟨k + 1, k, by go_num, rfl, by omega, by omega, trivial, by omega, by rw [HX1.out]; exact hxt, by intro i a b; omega⟩, by simp [intOf]; omega⟩
          · go_wp2_with fail
            refine ⟨⟨k + 1, r, by go_num, rfl, by omega, by omega, trivial, by have := h2.out.1; omega, h2.out.2.1, fun i a b => ?_⟩, by simp [intOf]; omega⟩
            by_cases hik : i = k
            · rw [hik, HX1.out]; omega
            · exact h2.out.2.2 i a (by omega)
        · obtain rfl : k = n := by omega
          have hr : r + 1 = cnt xs t := by
            have hh := h2.out
            have hrn : r < xs.length := by have := HL.out; omega
            refine cnt_unique HC.out.2.2 (by omega) (fun _ => by simpa using hh.2.1) (fun hr => ?_)
            exact hh.2.2 (r + 1) (by omega) (by have := HL.out; omega)
          have HR := Lib.hid hr
          clear hr h2
          go_wp2_with fail
          go_ret2
          refine ⟨?_, hb4⟩
          rw [HA.out, ← HR.out]
          simp
  · have ha : act xs t = (0, ck xs) := by unfold act; rw [if_neg hck]
    have hck2 : (ck xs != 0) = true := by simpa using hck
    have HA := Lib.hid ha
    clear ha
    go_wp2_with fail
    go_ret2
    exact ⟨by rw [HA.out]; rfl, hb4⟩

set_option maxHeartbeats 1000000 in
theorem refFrom_any (B : Nat) (A : Option Addr) (n c : Nat) (xs : List Int) (f : Int) (w : World) (hB : B ≤ w.heap.size) (h : Reads w B 1 A n (xs.map (Value.int .u64))) :
    Calls Try.prog 13 #[.agg #[.slice A n c], .int .i64 f] w fun e w' => e = .returned (.tuple #[.int .u64 (frm xs f).1, .int .i64 (frm xs f).2]) ∧ Below w.heap.size w w' := by
  have hl : xs.length = n := by simpa using h.1
  have HL := Lib.hid hl; clear hl
  have bS := Boxed.new w 24 (.slice A n c)
  have hr2 := h.alloc hB (.cells #[.slice A n c] 24)
  have hb2 : Below w.heap.size w (w.alloc (.cells #[.slice A n c] 24)) := (Below.refl _ w).alloc (Nat.le_refl _) _
  have hz : w.heap.size + 1 ≤ (w.alloc (.cells #[.slice A n c] 24)).heap.size := by simp
  go_enter Try.func13, Try.ntmps13
  go_wp2_with fail
  refine (refCheck_any _ _ _ _ xs _ (by simp; omega) hr2).mono ?_
  generalize w.alloc (.cells #[.slice A n c] 24) = w2 at *
  rintro e w3 ⟨rfl, hb3⟩
  have bS3 := (Boxed.below bS hb3).cell
  have hr3 := hr2.below (hb3.mono (by omega))
  have hb4 := hb2.trans (hb3.mono (by omega))
  clear bS hr2 hb2 hb3 h hz
  by_cases hck : ck xs = 0
  · have ha : frm xs f = if f < 0 ∨ (xs.length : Int) ≤ f then (0, 10) else (xs.getD f.toNat 0, 0) := by unfold frm; rw [if_pos hck]
    have HA := Lib.hid ha
    rw [hck]
    clear hck ha
    by_cases hf0 : f < 0
    · go_wp2_with fail
      go_ret2
      exact ⟨by rw [HA.out, if_pos (.inl hf0)]; rfl, hb4⟩
    · by_cases hf1 : (n : Int) ≤ f
      · go_wp2_with fail
        go_ret2
        exact ⟨by rw [HA.out, if_pos (.inr (by rw [HL.out]; exact hf1))]; rfl, hb4⟩
      · obtain ⟨k, rfl⟩ := Int.eq_ofNat_of_zero_le (Int.not_lt.1 hf0)
        obtain ⟨b, off, rfl, hb, hc⟩ := hr3.ints (k := k) (by omega)
        have hck := hc k (by omega)
        have hkn : (k : Int) < (n : Int) := by omega
        generalize hx : xs.getD k 0 = x at *
        have HX := Lib.hid hx
        clear hc hx
        go_wp2_with fail
        go_ret2
        refine ⟨?_, hb4⟩
        rw [HA.out, if_neg (by rw [HL.out]; omega), Int.toNat_natCast, HX.out]
        rfl
  · have ha : frm xs f = (0, ck xs) := by unfold frm; rw [if_neg hck]
    have hck2 : (ck xs != 0) = true := by simpa using hck
    have HA := Lib.hid ha
    clear ha
    go_wp2_with fail
    go_ret2
    exact ⟨by rw [HA.out]; rfl, hb4⟩

set_option maxHeartbeats 1000000 in
theorem ints_any (B B' : Nat) (A A' : Option Addr) (n m c d : Nat) (xs ys : List Int) (w : World) (h : Reads w B 1 A n (xs.map (Value.int .i64))) (h' : Reads w B' 1 A' m (ys.map (Value.int .i64))) (hn : n ≤ 281474976710656) (hm : m ≤ 281474976710656) :
    Calls Try.prog 14 #[.slice A n c, .slice A' m d] w fun e w' => e = .returned (.bool (decide (xs = ys))) ∧ Below w.heap.size w w' := by
  have hl : xs.length = n := by simpa using h.1
  have hl' : ys.length = m := by simpa using h'.1
  by_cases hnm : n = m
  · subst hnm
    have HL := Lib.hid hl; have HL' := Lib.hid hl'
    clear hl hl'
    go_enter Try.func14, Try.ntmps14
    go_wp2_with fail
    go_loopw [5] (fun i wr => ∃ k : Nat, i = .int .i64 k ∧ k ≤ n ∧ (∃ q, wr = w.drewN q) ∧ Hid (∀ i : Nat, i < k → xs.getD i 0 = ys.getD i 0)) (fun i _ => n - (intOf i).toNat)
    case atStart => exact ⟨0, rfl, by omega, ⟨0, rfl⟩, by intro i h1; omega⟩
    case round =>
      obtain ⟨k, rfl, h1, ⟨q, rfl⟩, h2⟩ := hrel
      by_cases hlt : k < n
      · obtain ⟨b, off, rfl, _, hc⟩ := h.ints hlt
        obtain ⟨b', off', rfl, _, hc'⟩ := h'.ints hlt
        have hc1 := hc k hlt
        have hc2 := hc' k hlt
        have q0 : (k : Int) < (n : Int) := by omega
        have h2' := Lib.hid h2.out
        have hx : ∃ x, xs.getD k 0 = x := ⟨_, rfl⟩
        have hy : ∃ y, ys.getD k 0 = y := ⟨_, rfl⟩
        obtain ⟨x, hx⟩ := hx
        obtain ⟨y, hy⟩ := hy
        rw [hx] at hc1
        rw [hy] at hc2
        have HX := Lib.hid hx; have HY := Lib.hid hy
        clear h h' h2 hc hc' hx hy
        by_cases hxy : x = y
        · have hb : (x != y) = false := by simpa using hxy
          have HE := Lib.hid hxy
          clear hxy
          go_wp2
          go_quiet (fail)
          go_wp2
          refine ⟨⟨k + 1, by go_num, by omega, ⟨_, rfl⟩, fun i hi => ?_⟩, by simp [intOf]; omega⟩
          by_cases hik : i = k
          · rw [hik, HX.out, HY.out, HE.out]
          · exact h2'.out i (by omega)
        · have hb : (x != y) = true := by simpa using hxy
          have HE := Lib.hid hxy
          clear hxy
          go_wp2
          go_quiet (fail)
          go_wp2
          go_ret
          refine ⟨?_, below_drewN (below_drewN (Below.refl _ _) _) _⟩
          have hne : ¬ xs = ys := by
            intro e
            exact HE.out (by rw [← HX.out, ← HY.out, e])
          simp [hne]
      · have he : xs = ys := by
          apply List.ext_getElem (by rw [HL.out, HL'.out])
          intro i hi hi'
          have := h2.out i (by have := HL.out; omega)
          rw [List.getD_eq_getElem?_getD, List.getD_eq_getElem?_getD, List.getElem?_eq_getElem hi, List.getElem?_eq_getElem hi'] at this
          exact this
        have HE := Lib.hid he
        have q0 : (n : Int) ≤ (k : Int) := by omega
        clear he h2
        go_wp2
        go_ret
        refine ⟨?_, below_drewN (Below.refl _ _) _⟩
        have := HE.out
        simp [this]
  · have hne : ¬ xs = ys := by rintro rfl; omega
    have HE := Lib.hid hne
    have hb : ((n : Int) != (m : Int)) = true := by simp; omega
    clear hne hl hl'
    go_enter Try.func14, Try.ntmps14
    go_wp2_with fail
    go_ret
    exact ⟨by rw [decide_eq_false HE.out]; rfl, Below.refl _ _⟩
end Go.Proofs.Ytdejpiffmogenaa
