/- Wrappers, the document's: Check. -/
import Derived.Test.YtdflihfecfmpfaaDoorWrpR
namespace Go.Proofs.YtdflihfecfmpfaaDoor
open Go.RowKit Go.Shelf
set_option linter.unusedVariables false
set_option linter.unusedSimpArgs false

theorem hasE_no {E : Int} {xs : List ByteArray} (h : ∀ j, j < xs.length → longE (xs.getD j .empty).size ≠ E) : ¬ hasE E xs = true := fun e => by
  obtain ⟨x, hx, e⟩ := (hasE_iff _ _).1 e
  obtain ⟨i, hi, rfl⟩ := mem_getD hx
  exact h i hi e
set_option maxRecDepth 100000 in
set_option maxHeartbeats 4000000 in
theorem wcheckR_ok (v : Int) (hv : v = 0 ∨ v = 2) (B : Nat) (A : Option Addr) (n c : Nat) (xs : List ByteArray) (w : World) (h : Reads w B 1 A n (xs.map Value.string)) (hn : n ≤ 9223372036854775807) (hs : ∀ x ∈ xs, x.size ≤ 9223372036854775807) :
    Calls Tryd.prog 10 #[.int .i64 v, .slice A n c] w fun e w' => e = .returned (.int .i64 (checkW v xs)) ∧ w' = w := by
  have hl : xs.length = n := by have := h.1; simpa using this
  have hv' : ¬ (v ≠ 0 ∧ v ≠ 2) := by omega
  have HL := Lib.hid hl; have HR := Lib.hid h; have HS := Lib.hid hs; have HV := Lib.hid hv'
  clear hs h hl hv'
  rcases hv with rfl | rfl <;>
  · go_enter Tryd.func10, Tryd.ntmps10
    go_wp2_with fail
    go_loopw [5] (fun i wr => ∃ k : Nat, i = .int .i64 k ∧ k ≤ n ∧ Hid (∀ j, j < k → 2 ≤ (xs.getD j .empty).size) ∧ wr = w) (fun i _ => n - (intOf i).toNat)
    case atStart => exact ⟨0, rfl, by omega, Lib.hid (by intro j h; omega), rfl⟩
    case round =>
      obtain ⟨k, rfl, hk, h2, rfl⟩ := hrel
      have h2' := Lib.hid h2.out
      by_cases hlt : k < n
      · have q1 : decide ((k : Int) < (n : Int)) = true := by simp; omega
        obtain ⟨q, off, rfl, hq, hc⟩ := Reads.vals Value.string .empty HR.out hlt
        have c0 := hc k hlt
        have hmem := getD_mem (xs := xs) (k := k) (by have := HL.out; omega)
        obtain ⟨x, hx⟩ : ∃ x, xs.getD k .empty = x := ⟨_, rfl⟩
        rw [hx] at c0 hmem
        have HX := Lib.hid hx; have HM := Lib.hid hmem
        clear hc hx hmem h2
        by_cases hx2 : x.size < 2
        · have q2 : decide ((x.size : Int) < 2) = true := by simp; omega
          have HX2 := Lib.hid hx2
          clear hx2
          go_wp2_with fail
          go_ret
          refine ⟨?_, rfl⟩
          unfold checkW
          rw [if_neg HV.out, if_pos (.inr ((hasE_iff _ _).2 ⟨x, HM.out, if_pos HX2.out⟩))]; rfl
        · have q2 : decide ((x.size : Int) < 2) = false := by simp; omega
          have HX2 := Lib.hid (show 2 ≤ x.size by omega)
          clear hx2
          go_wp2_with fail
          refine ⟨⟨k + 1, by go_num, by omega, Lib.hid fun j hj => ?_, trivial⟩, by simp [intOf]; omega⟩
          by_cases hjk : j = k
          · rw [hjk, HX.out]; exact HX2.out
          · exact h2'.out j (by omega)
      · have q1 : decide ((k : Int) < (n : Int)) = false := by simp; omega
        have H2 : Hid (∀ j, j < n → 2 ≤ (xs.getD j .empty).size) := Lib.hid fun j hj => h2'.out j (by omega)
        have HE2 : Hid (¬ hasE 2 xs = true) := Lib.hid (hasE_no fun j hj e => by
          have := H2.out j (by have := HL.out; omega)
          unfold longE at e
          rw [if_neg (by omega)] at e
          split at e <;> cases e)
        clear h2 h2'
        by_cases h0 : n = 0
        · have q3 : ((n : Int) == 0) = true := by rw [beq_iff_eq]; omega
          have H0 := Lib.hid h0
          clear h0
          go_wp2_with fail
          go_ret
          refine ⟨?_, rfl⟩
          unfold checkW
          rw [if_neg HV.out, if_pos (.inl (by rw [HL.out]; exact H0.out))]; rfl
        have q3 : ((n : Int) == 0) = false := by rw [beq_eq_false_iff_ne]; omega
        have H0 := Lib.hid (show ¬ (xs.length = 0 ∨ hasE 2 xs = true) from fun e => by
          rcases e with e | e
          · exact h0 (HL.out ▸ e)
          · exact HE2.out e)
        clear h0
        go_wp2_with fail
        go_loopw [6] (fun i w2 => ∃ k : Nat, i = .int .i64 k ∧ k ≤ n ∧ Hid (∀ j, j < k → (xs.getD j .empty).size ≤ 32768) ∧ w2 = wr) (fun i _ => n - (intOf i).toNat)
        case atStart => exact ⟨0, rfl, by omega, Lib.hid (by intro j h; omega), rfl⟩
        case round =>
          obtain ⟨m, rfl, hm, h5, rfl⟩ := hrel
          have h5' := Lib.hid h5.out
          by_cases hlt : m < n
          · have q1 : decide ((m : Int) < (n : Int)) = true := by simp; omega
            obtain ⟨q, off, rfl, hq, hc⟩ := Reads.vals Value.string .empty HR.out hlt
            have c0 := hc m hlt
            have hmem := getD_mem (xs := xs) (k := m) (by have := HL.out; omega)
            obtain ⟨x, hx⟩ : ∃ x, xs.getD m .empty = x := ⟨_, rfl⟩
            rw [hx] at c0 hmem
            have HX := Lib.hid hx; have HM := Lib.hid hmem
            clear hc hx hmem h5
            by_cases hx2 : 32768 < x.size
            · have q2 : decide ((32768 : Int) < (x.size : Int)) = true := by simp; omega
              have HX2 := Lib.hid hx2
              clear hx2
              go_wp2_with fail
              go_ret
              refine ⟨?_, rfl⟩
              unfold checkW
              rw [if_neg HV.out, if_neg H0.out, if_pos (.inr (.inl ((hasE_iff _ _).2 ⟨x, HM.out, by unfold longE; rw [if_neg (by have := HX2.out; omega), if_pos HX2.out]⟩)))]; rfl
            · have q2 : decide ((32768 : Int) < (x.size : Int)) = false := by simp; omega
              have HX2 := Lib.hid (show x.size ≤ 32768 by omega)
              clear hx2
              go_wp2_with fail
              refine ⟨⟨m + 1, by go_num, by omega, Lib.hid fun j hj => ?_, trivial⟩, by simp [intOf]; omega⟩
              by_cases hjk : j = m
              · rw [hjk, HX.out]; exact HX2.out
              · exact h5'.out j (by omega)
          · have q1 : decide ((m : Int) < (n : Int)) = false := by simp; omega
            have H5 : Hid (∀ x ∈ xs, x.size ≤ 32768) := Lib.hid fun x hx => by
              obtain ⟨i, hi, rfl⟩ := mem_getD hx
              exact h5'.out i (by have := HL.out; omega)
            have HE5 : Hid (¬ hasE 5 xs = true) := Lib.hid fun e => by
              obtain ⟨x, hx, e⟩ := (hasE_iff _ _).1 e
              have := H5.out x hx
              unfold longE at e
              split at e
              · cases e
              · rw [if_neg (by omega)] at e; cases e
            clear h5 h5'
            by_cases h64 : 64 < n
            · have q4 : decide ((64 : Int) < (n : Int)) = true := by simp; omega
              have H64 := Lib.hid h64
              clear h64
              go_wp2_with fail
              go_ret
              refine ⟨?_, rfl⟩
              unfold checkW
              rw [if_neg HV.out, if_neg H0.out, if_pos (.inl (by rw [HL.out]; exact H64.out))]; rfl
            · have q4 : decide ((64 : Int) < (n : Int)) = false := by simp; omega
              have hcb := catB_bound xs H5.out
              have hcb2 : xs.length * 32768 ≤ 64 * 32768 := Nat.mul_le_mul_right _ (by have := HL.out; omega)
              have HT := Lib.hid (together_any B A n c xs _ HR.out (by omega) (by omega))
              have H64 := Lib.hid (show n ≤ 64 by omega)
              obtain ⟨S, hS⟩ : ∃ S, (catB xs).length = S := ⟨_, rfl⟩
              have HSS := Lib.hid hS
              rw [hS] at HT
              clear h64 hcb hcb2 hS
              go_wp2_with fail
              refine HT.out.mono ?_
              rintro e w3 ⟨rfl, hw3⟩
              rw [hw3]
              clear hw3 HT
              by_cases hA : 131072 < S
              · have q5 : decide ((131072 : Int) < (S : Int)) = true := by simp; omega
                have HA := Lib.hid hA
                clear hA
                go_wp2_with fail
                go_ret
                refine ⟨?_, rfl⟩
                unfold checkW
                rw [if_neg HV.out, if_neg H0.out, if_pos (.inr (.inr (by rw [HSS.out]; exact HA.out)))]; rfl
              · have q5 : decide ((131072 : Int) < (S : Int)) = false := by simp; omega
                have HA := Lib.hid hA
                clear hA
                go_wp2_with fail
                go_ret
                refine ⟨?_, rfl⟩
                unfold checkW
                rw [if_neg HV.out, if_neg H0.out, if_neg (fun e => by
                  rcases e with e | e | e
                  · have := HL.out; have := H64.out; omega
                  · exact HE5.out e
                  · have := HSS.out; have := HA.out; omega)]; rfl
theorem wcheckR_any (v : Int) (B : Nat) (A : Option Addr) (n c : Nat) (xs : List ByteArray) (w : World) (h : Reads w B 1 A n (xs.map Value.string)) (hn : n ≤ 9223372036854775807) (hs : ∀ x ∈ xs, x.size ≤ 9223372036854775807) :
    Calls Tryd.prog 10 #[.int .i64 v, .slice A n c] w fun e w' => e = .returned (.int .i64 (checkW v xs)) ∧ w' = w := by
  by_cases hv : v = 0 ∨ v = 2
  · exact wcheckR_ok v hv B A n c xs w h hn hs
  · have hC : checkW v xs = 9 := if_pos (by omega)
    have d1 : (v != 0) = true := by rw [bne_iff_ne]; omega
    have d2 : (v != 2) = true := by rw [bne_iff_ne]; omega
    rw [hC]
    clear hC hv h hs
    go_enter Tryd.func10, Tryd.ntmps10
    go_wp2_with fail
    go_ret
    exact ⟨rfl, rfl⟩
end Go.Proofs.YtdflihfecfmpfaaDoor
