/- The call of ForkFewer. -/
import Derived.Test.YtdejpiffmogenaaForkI
namespace Go.Proofs.Ytdejpiffmogenaa
open Go.RowKit

theorem Reads.take {w : World} {B n k : Nat} {A : Option Addr} {xs : List Int} {kd : IntKind} (h : Reads w B 1 A n (xs.map (Value.int kd))) (hk : k ≤ n) : Reads w B 1 A k ((xs.take k).map (Value.int kd)) := by
  have hl := h.1
  simp only [List.length_map, Nat.mul_one] at hl
  refine ⟨by simp only [List.length_map, List.length_take]; omega, fun h0 => ?_⟩
  obtain ⟨ad, e, hb, hc⟩ := h.2 (by omega)
  refine ⟨ad, e, hb, fun j u hu => hc j u ?_⟩
  rw [List.getElem?_map, List.getElem?_take] at hu
  rw [List.getElem?_map]
  split at hu
  · exact hu
  · simp at hu

theorem ret_bool {b : Bool} (h : b = true) : Ending.returned (.bool b) = .returned (.bool true) := by rw [h]

set_option maxRecDepth 100000 in
set_option maxHeartbeats 2000000 in
theorem fewer_any (A : Option Addr) (n c : Nat) (xs : List Int) (t m : Int) (w : World) (hm : 0 ≤ m) (hm2 : m ≤ 255) (hnc : n ≤ c) (h : Reads w w.heap.size 1 A n (xs.map (Value.int .u64))) :
    Calls Try.prog 7 #[.agg #[.slice A n c], .int .u64 t, .int .u8 m] w fun e w' => e = .returned (.bool true) ∧ Below w.heap.size w w' := by
  have hl : xs.length = n := by simpa using h.1
  have HL := Lib.hid hl
  have s0 := LS.start (c := c) h
  clear h hl
  go_enter Try.func7, Try.ntmps7
  go_wp2_with fail
  generalize w.alloc (.cells #[.slice A n c] 24) = W at *
  refine (works_any _).mono ?_
  rintro e w1 ⟨rfl, hb1⟩
  have s1 := s0.step hb1
  clear s0 hb1
  have c1 := s1.box.cell
  go_wp2_with fail
  refine (check_any _ _ _ _ xs _ s1.le s1.reads).mono ?_
  rintro e w2 ⟨rfl, hb2⟩
  have s2 := s1.step hb2
  clear s1 hb2 c1
  have c2 := s2.box.cell
  by_cases hck : ck xs = 0
  · have hz := ck_zero hck
    have hn1 : 1 ≤ n := by have := HL.out; omega
    have hn6 : n ≤ 6 := by have := HL.out; omega
    obtain ⟨b, off, rfl, _, _⟩ := s2.reads.ints (k := 0) (by omega)
    have HCK := Lib.hid hck
    rw [hck]
    clear hck hz
    obtain ⟨m, rfl⟩ := Int.eq_ofNat_of_zero_le hm
    have hr : (m : Int) % (n : Int) < (n : Int) := Int.emod_lt_of_pos _ (by omega)
    have hr0 : 0 ≤ (m : Int) % (n : Int) := Int.emod_nonneg _ (by omega)
    have hne : ((n : Int) == 0) = false := by simp; omega
    go_wp2_with fail
    obtain ⟨k, hk⟩ : ∃ k : Nat, (m : Int) % (n : Int) + 1 = (k : Int) := ⟨((m : Int) % (n : Int) + 1).toNat, by omega⟩
    rw [hk]
    have hk1 : 1 ≤ k := by omega
    have hkn : k ≤ n := by omega
    have hkc : k ≤ c := by omega
    clear hk hr hr0
    refine (active_any _ _ _ _ xs _ _ s2.le s2.reads).mono ?_
    rintro e w3 ⟨rfl, hb3⟩
    have s3 := s2.step hb3
    clear s2 hb3 c2
    have c3 := s3.box.cell
    have hkc' : (k : Int) ≤ (c : Int) := by omega
    have hfl := fewer_law (t := t) HCK.out hk1 (by rw [HL.out]; exact hkn)
    have HF := Lib.hid hfl
    clear hfl
    go_wp2_with fail
    refine (active_any _ _ _ _ (xs.take k) _ _ s3.le (s3.reads.take hkn)).mono ?_
    rintro e w4 ⟨rfl, hb4⟩
    have s4 := s3.step hb4
    have h1 := HF.out.1
    have h2 := HF.out.2
    have h3 : act (xs.take k) t = (min (act xs t).1 ((k : Int) - 1), (act xs t).2) := Prod.ext h2 h1
    rw [h3]
    clear s3 hb4 c3 HF h1 h2 h3
    generalize act xs t = a1 at *
    obtain ⟨a, e⟩ := a1
    dsimp only
    go_wp2_with fail
    · go_ret
      exact ⟨ret_bool (b := (min a ((k : Int) - 1) == (k : Int) - 1)) (by rw [beq_iff_eq]; omega), s4.below⟩
    · go_ret
      exact ⟨ret_bool (b := (min a ((k : Int) - 1) == a)) (by rw [beq_iff_eq]; omega), s4.below⟩
  · have hne : (ck xs != 0) = true := by simpa using hck
    clear hck
    go_wp2_with fail
    go_ret
    exact ⟨rfl, s2.below⟩
end Go.Proofs.Ytdejpiffmogenaa
