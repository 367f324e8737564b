/- Rows of frames. -/
import Derived.Test.YtdkijdedfpfbnaaFrmA
namespace Go.Proofs.Ytdkijdedfpfbnaa
open Go.RowKit Go.Shelf

def framesV (xs : List Frm) : List Value := xs.flatMap Frm.cells
theorem framesV_len (xs : List Frm) : (framesV xs).length = xs.length * 4 := by
  unfold framesV
  induction xs with
  | nil => rfl
  | cons x xs ih => simp only [List.flatMap_cons, List.length_append, ih, List.length_cons]; simp [Frm.cells]; omega
theorem framesV_get (xs : List Frm) (k : Nat) (hk : k < xs.length) (j : Nat) (hj : j < 4) : (framesV xs)[k * 4 + j]? = (xs[k]).cells[j]? := by
  unfold framesV
  induction xs generalizing k with
  | nil => simp at hk
  | cons x xs ih =>
    rw [List.flatMap_cons]
    have hx : x.cells.length = 4 := rfl
    cases k with
    | zero => rw [Nat.zero_mul, Nat.zero_add, List.getElem?_append_left (by omega)]; rfl
    | succ k =>
      rw [List.getElem?_append_right (by omega), show (k + 1) * 4 + j - x.cells.length = k * 4 + j by omega, ih k (by simpa using hk)]
      simp
theorem framesV_snoc (xs : List Frm) (f : Frm) : framesV (xs ++ [f]) = framesV xs ++ f.cells := by simp [framesV]

/-- the cells of a row of frames, at literal addresses -/
theorem Reads.frames {w : World} {B n k : Nat} {A : Option Addr} {xs : List Frm} (h : Reads w B 4 A n (framesV xs)) (hk : k < n) :
    ∃ b off, A = some ⟨b, off, none⟩ ∧ b < B ∧ ∀ j, j < n → w.cell? ⟨b, off + j * 4, none⟩ = some (.string (xs.getD j Frm.none_).id) ∧ w.cell? ⟨b, off + j * 4 + 1, none⟩ = some (.int .i64 (xs.getD j Frm.none_).num) ∧ w.cell? ⟨b, off + j * 4 + 2, none⟩ = some (.string (xs.getD j Frm.none_).data) ∧ w.cell? ⟨b, off + j * 4 + 3, none⟩ = some (.bool (xs.getD j Frm.none_).last) := by
  have hl := h.1
  rw [framesV_len] at hl
  have hl' : xs.length = n := by omega
  have key : ∀ j, j < n → ∀ q, q < 4 → (framesV xs)[j * 4 + q]? = (xs.getD j Frm.none_).cells[q]? := by
    intro j hj q hq
    rw [framesV_get xs j (by omega) q hq, List.getD_eq_getElem?_getD, List.getElem?_eq_getElem (l := xs) (i := j) (by omega)]
    rfl
  obtain ⟨ad, rfl, hb, hc⟩ := h.2 (by omega)
  have k0 : (framesV xs)[0]? = some (.string (xs.getD 0 Frm.none_).id) := key 0 (by omega) 0 (by omega)
  have h0 := hc 0 _ k0
  have e : ad = ⟨ad.block, ad.off, none⟩ := lit_of_cell (a := ad) (by simpa [Addr.add] using h0)
  have hcc : ∀ q u, (framesV xs)[q]? = some u → w.cell? ⟨ad.block, ad.off + q, none⟩ = some u := by
    intro q u hu
    have := hc q u hu
    rw [e] at this
    unfold Addr.add at this
    by_cases hj0 : q = 0
    · subst hj0; simpa using this
    · simpa [hj0] using this
  refine ⟨ad.block, ad.off, by rw [← e], hb, fun j hj => ?_⟩
  have a0 := hcc (j * 4 + 0) _ (key j hj 0 (by omega))
  have a1 := hcc (j * 4 + 1) _ (key j hj 1 (by omega))
  have a2 := hcc (j * 4 + 2) _ (key j hj 2 (by omega))
  have a3 := hcc (j * 4 + 3) _ (key j hj 3 (by omega))
  exact ⟨a0, a1, a2, a3⟩

/-- too large to be looked at -/
def badF (f : Frm) : Bool := (decide (300 < f.data.size) && decide (f.data.size ≤ 4096)) || decide (100 < f.id.size)
/-- small enough to be looked at -/
def fewF (xs : List Frm) : Bool := !(xs.take 41).any badF && decide (xs.length ≤ 40)
theorem take_snoc {α : Type} (xs : List α) (k : Nat) (d : α) (hk : k < xs.length) : xs.take (k + 1) = xs.take k ++ [xs.getD k d] := by
  rw [List.take_succ_eq_append_getElem hk, List.getD_eq_getElem?_getD, List.getElem?_eq_getElem hk]; rfl

set_option maxRecDepth 100000 in
set_option maxHeartbeats 1000000 in
theorem few_any (B : Nat) (A : Option Addr) (n c : Nat) (xs : List Frm) (w : World) (h : Reads w B 4 A n (framesV xs)) :
    Calls Try.prog 13 #[.slice A n c] w fun e w' => e = .returned (.bool (fewF xs)) ∧ w' = w := by
  have hl : xs.length = n := by have := h.1; rw [framesV_len] at this; omega
  have HL := Lib.hid hl; clear hl
  obtain ⟨R, hR⟩ : ∃ b, fewF xs = b := ⟨_, rfl⟩
  rw [hR]
  have HR := Lib.hid hR; clear hR
  go_enter Try.func13, Try.ntmps13
  go_wp2_with fail
  go_loop [3] (fun i => ∃ k : Nat, i = .int .i64 (k : Int) ∧ k ≤ n ∧ k ≤ 41 ∧ Hid ((xs.take k).any badF = false)) (fun i => n - (intOf i).toNat)
  case atStart => exact ⟨0, rfl, by omega, by omega, rfl⟩
  case round =>
    obtain ⟨k, rfl, hk, hk2, ha⟩ := hrel
    by_cases hlt : k < n ∧ k ≤ 40
    · obtain ⟨hlt, hk4⟩ := hlt
      obtain ⟨b, off, rfl, hbb, hc⟩ := h.frames hlt
      obtain ⟨c0, c1, c2, c3⟩ := hc k hlt
      have hst := take_snoc xs k Frm.none_ (by have := HL.out; omega)
      have hle : (xs.take (k + 1)).any badF = true → R = false := by
        intro hb
        rw [← HR.out]
        have : (xs.take 41).any badF = true := by
          rw [List.any_eq_true] at hb ⊢
          obtain ⟨x, hx, hb⟩ := hb
          exact ⟨x, List.mem_of_mem_take (i := k + 1) (by rw [List.take_take, show min (k + 1) 41 = k + 1 by omega]; exact hx), hb⟩
        unfold fewF; rw [this]; rfl
      generalize xs.getD k Frm.none_ = f at *
      obtain ⟨id, num, data, last⟩ := f
      have hbe : (xs.take (k + 1)).any badF = badF ⟨id, num, data, last⟩ := by rw [hst, List.any_append, ha.out]; simp
      rw [hbe] at hle
      have HBE := Lib.hid hbe; have HLE := Lib.hid hle
      clear hc hst hbe hle
      go_wp2_with fail
      all_goals first
        | (refine ⟨⟨k + 1, by simp, by omega, by omega, ?_⟩, by simp [intOf]; omega⟩
           refine Lib.hid ?_
           rw [HBE.out]
           simp only [badF, Bool.or_eq_false_iff, Bool.and_eq_false_iff, decide_eq_false_iff_not]
           omega)
        | (go_ret
           obtain rfl : R = false := HLE.out (by simp only [badF, Bool.or_eq_true, Bool.and_eq_true, decide_eq_true_eq]; omega)
           exact ⟨rfl, rfl⟩)
    · have hr : R = decide (n ≤ 40) := by
        rw [← HR.out]
        unfold fewF
        rw [HL.out]
        by_cases h40 : n ≤ 40
        · have hkn : k = n := by omega
          have e : xs.take 41 = xs.take k := by rw [List.take_of_length_le (by have := HL.out; omega), List.take_of_length_le (by have := HL.out; omega)]
          rw [e, ha.out]; rfl
        · simp [h40]
      have hr2 : R = decide ((n : Int) ≤ 40) := by rw [hr]; exact decide_eq_decide.2 (by omega)
      have HRR := Lib.hid hr2
      clear ha hr hr2
      have hfin : (decide ((k : Int) < (n : Int)) && decide ((k : Int) ≤ 40)) = false := by
        simp only [Bool.and_eq_false_iff, decide_eq_false_iff_not]; omega
      by_cases hkn : k < n
      · have d1 : decide ((k : Int) ≤ 40) = false := by simp; omega
        go_wp2_with fail
        all_goals
          go_ret
          rw [HRR.out]
          exact ⟨rfl, rfl⟩
      · have d1 : decide ((k : Int) < (n : Int)) = false := by simp; omega
        go_wp2_with fail
        all_goals
          go_ret
          rw [HRR.out]
          exact ⟨rfl, rfl⟩
end Go.Proofs.Ytdkijdedfpfbnaa
