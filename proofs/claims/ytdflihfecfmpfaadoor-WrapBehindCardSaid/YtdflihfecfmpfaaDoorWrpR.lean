/- Wrappers, the document's: Few, together, Check. -/
import Derived.Test.YtdflihfecfmpfaaDoorWrpB
namespace Go.Proofs.YtdflihfecfmpfaaDoor
open Go.RowKit Go.Shelf
set_option linter.unusedVariables false
set_option linter.unusedSimpArgs false

/-- how many bytes are counted -/
def fewN (xs : List ByteArray) : Nat := (xs.map fun x => if x.size ≤ 32768 then x.size else 0).sum
def fewW (xs : List ByteArray) : Bool := decide (xs.length ≤ 70) && decide (fewN (xs.take 71) ≤ 2000)
theorem fewN_snoc (xs : List ByteArray) (x : ByteArray) : fewN (xs ++ [x]) = fewN xs + (if x.size ≤ 32768 then x.size else 0) := by simp [fewN]
theorem fewN_le : ∀ (xs : List ByteArray), fewN xs ≤ xs.length * 32768
  | [] => by simp [fewN]
  | x :: xs => by
    have h := fewN_le xs
    have e : fewN (x :: xs) = (if x.size ≤ 32768 then x.size else 0) + fewN xs := by simp [fewN]
    rw [e, List.length_cons, Nat.succ_mul]
    split <;> omega
theorem fewN_cat : ∀ (xs : List ByteArray), (∀ x ∈ xs, x.size ≤ 32768) → (catB xs).length = fewN xs
  | [], _ => rfl
  | x :: xs, h => by
    have h1 := fewN_cat xs fun y hy => h y (by simp [hy])
    have h2 := size_list' x
    have e : fewN (x :: xs) = (if x.size ≤ 32768 then x.size else 0) + fewN xs := by simp [fewN]
    have e2 : catB (x :: xs) = x.data.toList ++ catB xs := by simp [catB]
    rw [e, e2, if_pos (h x (by simp)), List.length_append, h1, h2]
theorem take_snocW (xs : List ByteArray) (k : Nat) (hk : k < xs.length) : xs.take (k + 1) = xs.take k ++ [xs.getD k .empty] := by
  rw [List.take_succ_eq_append_getElem hk, List.getD_eq_getElem?_getD, List.getElem?_eq_getElem hk]; rfl

set_option maxRecDepth 100000 in
set_option maxHeartbeats 2000000 in
theorem fewR_any (B : Nat) (A : Option Addr) (n c : Nat) (xs : List ByteArray) (w : World) (h : Reads w B 1 A n (xs.map Value.string)) (hn : n ≤ 9223372036854775807) (hs : ∀ x ∈ xs, x.size ≤ 9223372036854775807) :
    Calls Tryd.prog 9 #[.slice A n c] w fun e w' => e = .returned (.bool (fewW xs)) ∧ w' = w := by
  have hl : xs.length = n := by have := h.1; simpa using this
  have HL := Lib.hid hl; have HR := Lib.hid h; have HS := Lib.hid hs
  have HW : Hid (fewW xs = (decide (n ≤ 70) && decide (fewN (xs.take 71) ≤ 2000))) := Lib.hid (by rw [← hl]; rfl)
  clear hl h hs
  go_enter Tryd.func9, Tryd.ntmps9
  go_wp2_with fail
  go_loopw [3, 4] (fun v i wr => ∃ (k m : Nat), v = .int .i64 (m : Int) ∧ i = .int .i64 k ∧ k ≤ n ∧ k ≤ 71 ∧ m ≤ 71 * 32768 ∧ Hid (m = fewN (xs.take k)) ∧ wr = w) (fun _ i _ => n - (intOf i).toNat)
  case atStart => exact ⟨0, 0, rfl, rfl, by omega, by omega, by omega, by rfl, rfl⟩
  case round =>
    obtain ⟨k, m, rfl, rfl, hk, hk7, hm, hmf, rfl⟩ := hrel
    by_cases hlt : k < n
    · have q1 : decide ((k : Int) < (n : Int)) = true := by simp; omega
      have q1' : decide (k < n) = true := by simp; omega
      by_cases h70 : k ≤ 70
      · have q2 : decide ((k : Int) ≤ 70) = true := by simp; omega
        obtain ⟨q, off, rfl, hq, hc⟩ := Reads.vals Value.string .empty HR.out hlt
        have c0 := hc k hlt
        obtain ⟨x, hx⟩ : ∃ x, xs.getD k .empty = x := ⟨_, rfl⟩
        rw [hx] at c0
        have hsn : fewN (xs.take (k + 1)) = fewN (xs.take k) + (if x.size ≤ 32768 then x.size else 0) := by rw [take_snocW xs k (by have := HL.out; omega), fewN_snoc, hx]
        have hle := fewN_le (xs.take (k + 1))
        have hln : (xs.take (k + 1)).length ≤ 71 := by rw [List.length_take]; omega
        have hle2 : (xs.take (k + 1)).length * 32768 ≤ 71 * 32768 := Nat.mul_le_mul_right _ hln
        have hmm := hmf.out
        have w2 : IntKind.i64.wrap ((k : Int) + 1) = (k : Int) + 1 := IntWalk.i64_in _ (by omega)
        by_cases hx3 : x.size ≤ 32768
        · rw [if_pos hx3] at hsn
          have q3 : decide ((x.size : Int) ≤ 32768) = true := by simp; omega
          have w1 : IntKind.i64.wrap ((m : Int) + (x.size : Int)) = ((m + x.size : Nat) : Int) := by rw [← Int.natCast_add]; exact IntWalk.i64_in _ (by omega)
          have HSN := Lib.hid (show m + x.size = fewN (xs.take (k + 1)) by omega)
          have HB := Lib.hid (show m + x.size ≤ 71 * 32768 by omega)
          clear hc hx hsn hle hln hle2 hmm hmf hx3
          go_wp2_with fail
          exact ⟨⟨k + 1, m + x.size, by simp, by simp, by omega, by omega, HB.out, HSN, trivial⟩, by simp [intOf]; omega⟩
        · rw [if_neg hx3] at hsn
          have q3 : decide ((x.size : Int) ≤ 32768) = false := by simp; omega
          have HSN := Lib.hid (show m = fewN (xs.take (k + 1)) by omega)
          clear hc hx hsn hle hln hle2 hmm hmf hx3
          go_wp2_with fail
          exact ⟨⟨k + 1, m, rfl, by simp, by omega, by omega, hm, HSN, trivial⟩, by simp [intOf]; omega⟩
      · have q2 : decide ((k : Int) ≤ 70) = false := by simp; omega
        have q3 : decide ((n : Int) ≤ 70) = false := by simp; omega
        have HF : Hid (fewW xs = false) := Lib.hid (by rw [HW.out, decide_eq_false (by omega)]; rfl)
        clear hmf
        go_wp2_with fail
        go_ret
        exact ⟨by rw [HF.out]; rfl, rfl⟩
    · have hkn : k = n := by omega
      have q1 : decide ((k : Int) < (n : Int)) = false := by simp; omega
      have q1' : decide (k < n) = false := by simp; omega
      have HF : Hid (fewW xs = (decide ((n : Int) ≤ 70) && decide ((m : Int) ≤ 2000))) := Lib.hid (by
        rw [HW.out, hmf.out, List.take_of_length_le (by have := HL.out; omega), List.take_of_length_le (by have := HL.out; omega)]
        congr 1
        · exact decide_eq_decide.2 (by omega)
        · exact decide_eq_decide.2 (by omega))
      clear hmf
      by_cases h70 : n ≤ 70
      · have q3 : decide ((n : Int) ≤ 70) = true := by simp; omega
        go_wp2_with fail
        go_ret
        exact ⟨by rw [HF.out, q3]; rfl, rfl⟩
      · have q3 : decide ((n : Int) ≤ 70) = false := by simp; omega
        go_wp2_with fail
        go_ret
        exact ⟨by rw [HF.out, q3]; rfl, rfl⟩
set_option maxRecDepth 100000 in
set_option maxHeartbeats 2000000 in
theorem together_any (B : Nat) (A : Option Addr) (n c : Nat) (xs : List ByteArray) (w : World) (h : Reads w B 1 A n (xs.map Value.string)) (hn : n ≤ 1000000) (hs : (catB xs).length ≤ 1000000000000) :
    Calls Tryd.prog 17 #[.slice A n c] w fun e w' => e = .returned (.int .i64 ((catB xs).length : Int)) ∧ w' = w := by
  have hl : xs.length = n := by have := h.1; simpa using this
  have HL := Lib.hid hl; have HR := Lib.hid h
  have HLE := Lib.hid (fun k => catB_le xs k)
  obtain ⟨S, hS⟩ : ∃ S, (catB xs).length = S := ⟨_, rfl⟩
  rw [hS] at hs HLE ⊢
  have HS := Lib.hid hS
  clear hl h hS
  go_enter Tryd.func17, Tryd.ntmps17
  go_wp2_with fail
  go_loopw [3, 4] (fun v i wr => ∃ (k m : Nat), v = .int .i64 (m : Int) ∧ i = .int .i64 k ∧ k ≤ n ∧ Hid (m = (catB (xs.take k)).length) ∧ wr = w) (fun _ i _ => n - (intOf i).toNat)
  case atStart => exact ⟨0, 0, rfl, rfl, by omega, by rfl, rfl⟩
  case round =>
    obtain ⟨k, m, rfl, rfl, hk, hmf, rfl⟩ := hrel
    by_cases hlt : k < n
    · have q1 : decide ((k : Int) < (n : Int)) = true := by simp; omega
      obtain ⟨q, off, rfl, hq, hc⟩ := Reads.vals Value.string .empty HR.out hlt
      have c0 := hc k hlt
      obtain ⟨x, hx⟩ : ∃ x, xs.getD k .empty = x := ⟨_, rfl⟩
      rw [hx] at c0
      have hsn : (catB (xs.take (k + 1))).length = (catB (xs.take k)).length + x.size := by rw [catB_take xs k (by have := HL.out; omega), hx, List.length_append, size_list']
      have hle := HLE.out (k + 1)
      have hmm := hmf.out
      have w1 : IntKind.i64.wrap ((m : Int) + (x.size : Int)) = ((m + x.size : Nat) : Int) := by rw [← Int.natCast_add]; exact IntWalk.i64_in _ (by omega)
      have HSN := Lib.hid (show m + x.size = (catB (xs.take (k + 1))).length by omega)
      clear hc hx hsn hle hmm hmf
      go_wp2_with fail
      exact ⟨⟨k + 1, m + x.size, by simp, by go_num, by omega, HSN, trivial⟩, by simp [intOf]; omega⟩
    · have hkn : k = n := by omega
      have q1 : decide ((k : Int) < (n : Int)) = false := by simp; omega
      have HF : Hid (m = S) := Lib.hid (by rw [hmf.out, List.take_of_length_le (by have := HL.out; omega)]; exact HS.out)
      clear hmf
      go_wp2_with fail
      go_ret
      exact ⟨by rw [HF.out]; rfl, rfl⟩
end Go.Proofs.YtdflihfecfmpfaaDoor
