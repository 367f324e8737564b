/- The leaves of package fork's walk: cmp.Less, slices.IsSorted. -/
import Derived.Test.YtdejpiffmogenaaBase
namespace Go.Proofs.Ytdejpiffmogenaa
open Go.RowKit

theorem isNaN_any (x : Int) (w : World) :
    Calls Try.prog 24 #[.int .u64 x] w fun e w' => e = .returned (.bool false) ∧ w = w' := by
  go_enter Try.func24, Try.ntmps24
  go_wp2
  go_ret
  exact ⟨by simp, rfl⟩

theorem less_any (x y : Int) (w : World) :
    Calls Try.prog 23 #[.int .u64 x, .int .u64 y] w fun e w' => e = .returned (.bool (decide (x < y))) ∧ w = w' := by
  go_enter Try.func23, Try.ntmps23
  go_wp2_with (go_at_call 24; refine (isNaN_any _ _).mono ?_; rintro e w' ⟨rfl, rfl⟩)
  go_ret
  exact ⟨by simp, rfl⟩

theorem lit_of_cell {w : World} {a : Addr} {u : Value} (h : w.cell? a = some u) : a = ⟨a.block, a.off, none⟩ := by
  obtain ⟨b, o, s⟩ := a
  cases s with
  | none => rfl
  | some x => exfalso; unfold World.cell? at h; split at h <;> simp at h

theorem Reads.ints {w : World} {B n k : Nat} {A : Option Addr} {kd : IntKind} {xs : List Int} (h : Reads w B 1 A n (xs.map (Value.int kd))) (hk : k < n) :
    ∃ b off, A = some ⟨b, off, none⟩ ∧ b < B ∧ ∀ j, j < n → w.cell? ⟨b, off + j, none⟩ = some (.int kd (xs.getD j 0)) := by
  have hl := h.1
  simp at hl
  have key : ∀ j, j < n → (xs.map (Value.int kd))[j]? = some (.int kd (xs.getD j 0)) := by
    intro j hj
    rw [List.getElem?_map, List.getElem?_eq_getElem (by omega), List.getD_eq_getElem?_getD, List.getElem?_eq_getElem (by omega)]
    rfl
  obtain ⟨ad, rfl, hb, hc⟩ := h.2 (by omega)
  have h0 := hc 0 _ (key 0 (by omega))
  have e : ad = ⟨ad.block, ad.off, none⟩ := lit_of_cell (a := ad) (by simpa [Addr.add] using h0)
  refine ⟨ad.block, ad.off, by rw [← e], hb, fun j hj => ?_⟩
  have := hc j _ (key j hj)
  rw [e] at this
  unfold Addr.add at this
  by_cases hj0 : j = 0
  · subst hj0; simpa using this
  · simpa [hj0] using this

/-- sorted: no one is below the one ahead of it -/
def srt : List Int → Bool
  | [] => true
  | [_] => true
  | a :: b :: l => decide (a ≤ b) && srt (b :: l)
theorem srt_iff (xs : List Int) : srt xs = true ↔ ∀ i, i + 1 < xs.length → xs.getD i 0 ≤ xs.getD (i + 1) 0 := by
  induction xs with
  | nil => simp [srt]
  | cons a l ih =>
    cases l with
    | nil => simp [srt]
    | cons b l =>
      simp only [srt, Bool.and_eq_true, decide_eq_true_eq]
      constructor
      · rintro ⟨h1, h2⟩ i hi
        cases i with
        | zero => simpa using h1
        | succ i => exact ih.1 h2 i (by simpa using hi)
      · intro h
        refine ⟨by simpa using h 0 (by simp), ih.2 fun i hi => ?_⟩
        have := h (i + 1) (by simpa using hi)
        exact this

set_option maxHeartbeats 400000 in
theorem isSorted_any (B : Nat) (A : Option Addr) (n c : Nat) (xs : List Int) (w : World) (h : Reads w B 1 A n (xs.map (Value.int .u64))) (hn : n ≤ 281474976710656) :
    Calls Try.prog 21 #[.slice A n c] w fun e w' => e = .returned (.bool (srt xs)) ∧ ∃ m, w' = w.drewN m := by
  have hl : xs.length = n := by simpa using h.1
  have HL := Lib.hid hl; clear hl
  go_enter Try.func21, Try.ntmps21
  go_wp2
  go_loopw [3] (fun i wr => ∃ j : Int, i = .int .i64 j ∧ -1 ≤ j ∧ j < n ∧ (∃ m, wr = w.drewN m) ∧ Hid (∀ i : Nat, j ≤ i → i + 1 < n → xs.getD i 0 ≤ xs.getD (i + 1) 0)) (fun i _ => (intOf i).toNat)
  case atStart => exact ⟨(n : Int) - 1, rfl, by omega, by omega, ⟨0, rfl⟩, by intro i h1 h2; omega⟩
  case round =>
    obtain ⟨j, rfl, h1, h2, ⟨m, rfl⟩, h3⟩ := hrel
    by_cases hj : 0 < j
    · obtain ⟨k, hk⟩ : ∃ k : Nat, j = (k : Int) + 1 := ⟨(j - 1).toNat, by omega⟩
      subst hk
      obtain ⟨b, off, rfl, _, hc⟩ := h.ints (k := k) (by omega)
      have hc1 := hc k (by omega)
      have hc2 := hc (k + 1) (by omega)
      have q0 : (0 : Int) ≤ (k : Int) + 1 := by omega
      have q1 : (k : Int) + 1 - 1 = (k : Int) := by omega
      have q2 : (k : Int) < (n : Int) := by omega
      have q3 : ((k : Int) + 1).toNat = k + 1 := by omega
      have h3' := Lib.hid h3.out
      clear h h3 hc
      go_wp2
      go_quiet ((go_at_call 23; exact quiet_add_left (less_any _ _ _)))
      go_wp2
      · have ht : xs[k + 1]?.getD 0 < xs[k]?.getD 0 := by assumption
        go_ret
        refine ⟨?_, m + nq, by simp⟩
        have hs : srt xs = false := by
          rw [← Bool.not_eq_true, srt_iff]
          intro hs
          have := hs k (by have := HL.out; omega)
          simp only [List.getD_eq_getElem?_getD] at this
          omega
        simp [hs]
      · have ht : xs[k]?.getD 0 ≤ xs[k + 1]?.getD 0 := by assumption
        refine ⟨⟨k, rfl, by omega, by omega, ⟨_, rfl⟩, fun i hi1 hi2 => ?_⟩, by simp [intOf]⟩
        by_cases hik : i = k
        · subst hik; simpa using ht
        · exact h3'.out i (by omega) hi2
    · have hs : srt xs = true := by
        rw [srt_iff]
        intro i hi
        exact h3.out i (by omega) (by have := HL.out; omega)
      have HS := Lib.hid hs
      clear hs h3
      go_wp2
      go_ret
      exact ⟨by rw [HS.out]; rfl, m, rfl⟩
end Go.Proofs.Ytdejpiffmogenaa
