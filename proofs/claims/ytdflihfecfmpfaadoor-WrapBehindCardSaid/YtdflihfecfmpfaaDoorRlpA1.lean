/- A head: the document's. -/
import Derived.Test.YtdflihfecfmpfaaDoorRlpA
import Derived.Test.YtdflihfecfmpfaaDoorWrdR
namespace Go.Proofs.YtdflihfecfmpfaaDoor
open Go.RowKit Go.Shelf
set_option linter.unusedVariables false
set_option linter.unusedSimpArgs false

set_option maxRecDepth 100000 in
set_option maxHeartbeats 1000000 in
theorem headR_any (n base : Nat) (hn : n ≤ 1000000000) (hb : base ≤ 192) (w : World) :
    Calls Tryd.prog 33 #[.int .i64 (n : Int), .int .i64 (base : Int)] w fun e w' => e = .returned (.string ⟨(headL n base).toArray⟩) ∧ w.grownBy w' none := by
  by_cases h : n < 56
  · have hh : headL n base = [UInt8.ofNat (base + n)] := if_pos h
    have v1 : IntKind.i64.wrap ((base : Int) + (n : Int)) = (base : Int) + (n : Int) := IntWalk.i64_in _ (by omega)
    have v2 : IntKind.u8.wrap ((base : Int) + (n : Int)) = ((UInt8.ofNat (base + n)).toNat : Int) := by rw [show (base : Int) + (n : Int) = ((base + n : Nat) : Int) by omega]; exact one_u8 _ (by omega)
    have d1 : (n : Int) < 56 := by omega
    have hcv := conv_one w (UInt8.ofNat (base + n))
    have HH := Lib.hid hh
    generalize UInt8.ofNat (base + n) = z at *
    clear hh
    go_enter Tryd.func33, Tryd.ntmps33
    go_wp2_with fail
    go_ret
    exact ⟨by rw [HH.out]; rfl, only_alloc (World.grownBy.refl w none) _⟩
  · have hh : headL n base = UInt8.ofNat (base + 55 + (beN n).length) :: beN n := if_neg h
    have d1 : decide ((n : Int) < 56) = false := decide_eq_false (by omega)
    have hl := beN_len8 n (by omega)
    have HB := Lib.hid (fun V => beR_any n (by omega) V)
    have v0 : IntKind.u64.wrap (n : Int) = (n : Int) := by simp [IntKind.wrap, IntKind.bits, IntKind.signed]; omega
    have v1 : IntKind.i64.wrap ((base : Int) + 55) = (base : Int) + 55 := IntWalk.i64_in _ (by omega)
    obtain ⟨q, hq⟩ : ∃ q, beN n = q := ⟨_, rfl⟩
    rw [hq] at hh hl HB
    have v3 : IntKind.i64.wrap ((base : Int) + 55 + (q.length : Int)) = (base : Int) + 55 + (q.length : Int) := IntWalk.i64_in _ (by omega)
    have v4 : IntKind.u8.wrap ((base : Int) + 55 + (q.length : Int)) = ((UInt8.ofNat (base + 55 + q.length)).toNat : Int) := by rw [show (base : Int) + 55 + (q.length : Int) = ((base + 55 + q.length : Nat) : Int) by omega]; exact one_u8 _ (by omega)
    have HH := Lib.hid hh
    obtain ⟨z, hz⟩ : ∃ z, UInt8.ofNat (base + 55 + q.length) = z := ⟨_, rfl⟩
    rw [hz] at v4 HH
    have hqs : (⟨q.toArray⟩ : ByteArray).size = q.length := by show q.toArray.size = _; simp
    have hsum : (1 : Nat) + (⟨q.toArray⟩ : ByteArray).size ≤ 9223372036854775807 := by rw [hqs]; omega
    have hcat : ∀ V, (binOp .add 9 (.string ⟨#[z]⟩) (.string ⟨q.toArray⟩)).run Tryd.prog V = .ok (.string (⟨#[z]⟩ ++ ⟨q.toArray⟩)) V := fun V => run_string_add_sum (P := Tryd.prog) V ⟨#[z]⟩ ⟨q.toArray⟩ hsum
    clear hh hq hz
    go_enter Tryd.func33, Tryd.ntmps33
    go_wp2_with fail
    refine (HB.out _).mono ?_
    rintro e w2 ⟨rfl, hg⟩
    have hcv := conv_one w2 z
    have hz0 : q.toArray.size = q.length := by simp
    have hG := Lib.hid (only_alloc hg (.cells #[.int .u8 (z.toNat : Int)] 5))
    go_wp2_with fail
    go_ret
    refine ⟨?_, hG.out⟩
    rw [HH.out]
    show Ending.returned (.string (⟨#[z]⟩ ++ ⟨q.toArray⟩)) = _
    congr 2
end Go.Proofs.YtdflihfecfmpfaaDoor
