/- strings.HasPrefix, bits.Mul, and strings.Repeat of one byte 0. -/
import Derived.Test.YtmlkjackopiekaaDoorBldF
import Derived.Test.YtmlkjackopiekaaDoorJoin
import Derived.Shelf.Bits.Mul64
import Derived.Shelf.Strings.Prefix
import Derived.Lib.RepeatB
import Derived.Deep.LoopGhost
import Derived.Deep.DeepCutAuto
namespace Go.Proofs.YtmlkjackopiekaaDoor
open Go.RowKit Go.Shelf
set_option linter.unusedVariables false
set_option linter.unusedSimpArgs false

def prefixRen : Go.Shelf.Ren := ⟨fun | 99 => 56 | 206 => 65 | n => n, fun | 3 => 3 | 4 => 4 | 9 => 9 | n => n, fun | n => n⟩
theorem prefixLays : Go.Proofs.Lays.n99 Tryd.prog prefixRen := {
  mixed := by kernel_rfl
  f99 := Tryd.func56.trans (congrArg some (by kernel_rfl))
  f206 := Tryd.func65.trans (congrArg some (by kernel_rfl))
  t3 := Tryd.underlying3
  a3 := Tryd.isAgg3
  z3 := Tryd.sizeOf3
  v3 := Tryd.zeroValue3
  t4 := Tryd.underlying4
  a4 := Tryd.isAgg4
  z4 := Tryd.sizeOf4
  v4 := Tryd.zeroValue4
  t9 := Tryd.underlying9
  a9 := Tryd.isAgg9
  z9 := Tryd.sizeOf9
  v9 := Tryd.zeroValue9 }
theorem hasPrefix_any (s p : ByteArray) (w : World) :
    Calls Tryd.prog 56 #[.string s, .string p] w fun e w' => e = .returned (.bool (Lib.hasPrefix s.data.toList p.data.toList)) ∧ w' = w := Any.strings_HasPrefix prefixLays s p w
def mulRen : Go.Shelf.Ren := ⟨fun | 212 => 66 | 263 => 76 | 264 => 77 | n => n, fun | 46 => 91 | 51 => 109 | 53 => 22 | 146 => 110 | 148 => 112 | n => n, fun | n => n⟩
theorem mulLays : Go.Proofs.Lays.n212 Tryd.prog mulRen := {
  mixed := by kernel_rfl
  f212 := Tryd.func66.trans (congrArg some (by kernel_rfl))
  f263 := Tryd.func76.trans (congrArg some (by kernel_rfl))
  f264 := Tryd.func77.trans (congrArg some (by kernel_rfl))
  t46 := Tryd.underlying91
  a46 := Tryd.isAgg91
  z46 := Tryd.sizeOf91
  v46 := Tryd.zeroValue91
  t51 := Tryd.underlying109
  a51 := Tryd.isAgg109
  z51 := Tryd.sizeOf109
  v51 := Tryd.zeroValue109
  t53 := Tryd.underlying22
  a53 := Tryd.isAgg22
  z53 := Tryd.sizeOf22
  v53 := Tryd.zeroValue22
  t146 := Tryd.underlying110
  a146 := Tryd.isAgg110
  z146 := Tryd.sizeOf110
  v146 := Tryd.zeroValue110
  t148 := Tryd.underlying112
  a148 := Tryd.isAgg112
  z148 := Tryd.sizeOf112
  v148 := Tryd.zeroValue112 }
theorem mul_any (x y : Nat) (hxy : x * y < 18446744073709551616) (hx : x < 18446744073709551616) (hy : y < 18446744073709551616) (w : World) :
    Calls Tryd.prog 66 #[.int .u64 (x : Int), .int .u64 (y : Int)] w fun e w' => e = .returned (.tuple #[.int .u64 0, .int .u64 ((x * y : Nat) : Int)]) ∧ w' = w := by
  refine (Any.bits_Mul mulLays x y hx hy w).mono ?_
  rintro e w' ⟨he, hw⟩
  rw [Nat.div_eq_of_lt hxy, Nat.mod_eq_of_lt hxy] at he
  exact ⟨he, hw⟩
theorem min3_any {P : Program} {w : World} (ts : Array TypeId) (t : TypeId) (x y z : Int) :
    (Builtin.min_ ts t #[.int .i64 x, .int .i64 y, .int .i64 z]).run P w = .ok (.int .i64 (if z < (if y < x then y else x) then z else (if y < x then y else x))) w := by
  simp [Builtin.min_, Builtin.min2]

abbrev zs (c : Nat) : List UInt8 := List.replicate c 0
set_option maxRecDepth 100000 in
set_option maxHeartbeats 2000000 in
theorem repeatMany_any (S : ByteArray) (hS : S.data.toList = [0]) (c : Nat) (w : World) (hc2 : 2 ≤ c) (hc : c ≤ 32) :
    Calls Tryd.prog 58 #[.string S, .int .i64 (c : Int)] w fun e w' => e = .returned (.string ⟨(zs c).toArray⟩) ∧ Below w.heap.size w w' := by
  have hz : S.size = 1 := by have := congrArg List.length hS; rw [Array.length_toList] at this; exact this
  have g0 : 0 < S.size := by omega
  have g2 : ((S[0]'g0).toNat : Int) = 0 := by
    have e2 : S.data[0]? = some 0 := by
      have : S.data.toList[0]? = some 0 := by rw [hS]; rfl
      simpa using this
    obtain ⟨_, e3⟩ := Array.getElem?_eq_some_iff.1 e2
    have : S[0]'g0 = 0 := e3
    rw [this]; rfl
  have hMul := mul_any 1 c (by omega) (by omega) (by omega) w
  rw [Nat.one_mul] at hMul
  have HM : Hid (Calls Tryd.prog 66 #[.int .u64 1, .int .u64 (c : Int)] w fun e w' => e = .returned (.tuple #[.int .u64 0, .int .u64 (c : Int)]) ∧ w' = w) := Lib.hid hMul
  have hzi : (S.size : Int) = 1 := by omega
  have e0 : ((c : Int) == 0) = false := by rw [beq_eq_false_iff_ne]; omega
  have e1 : ((c : Int) == 1) = false := by rw [beq_eq_false_iff_ne]; omega
  have d0 : decide ((c : Int) < 0) = false := decide_eq_false (by omega)
  have d1 : decide ((9223372036854775807 : Int) < (c : Int)) = false := decide_eq_false (by omega)
  have d1' : decide (9223372036854775807 < c) = false := decide_eq_false (by omega)
  have d2 : decide ((8192 : Int) < (c : Int)) = false := decide_eq_false (by omega)
  have d2' : decide (8192 < c) = false := decide_eq_false (by omega)
  have v1 : IntKind.u64.wrap (c : Int) = (c : Int) := by rw [show (c : Int) = ((c : Nat) : Int) from rfl]; simp [IntKind.wrap, IntKind.bits, IntKind.signed]; omega
  have v1' : IntKind.u64.wrap (1 : Int) = 1 := by decide
  have v2 : IntKind.i64.wrap (c : Int) = (c : Int) := IntWalk.i64_in _ (by omega)
  have b0 : Below w.heap.size w (w.alloc (.cells #[.pointer none, .slice none 0 0] 96)) := (Below.refl _ w).alloc (Nat.le_refl _) _
  have HG := Lib.hid (grow_any w.heap.size c (w.alloc (.cells #[.pointer none, .slice none 0 0] 96)) (heap_alloc_new w _) (by omega))
  have HB0 := Lib.hid b0
  have HSS := Lib.hid hS
  clear hS hMul b0
  go_enter Tryd.func58, Tryd.ntmps58
  go_wp2_with fail
  refine HM.out.mono ?_
  rintro e w' ⟨rfl, hw⟩
  rw [hw]
  clear hw HM
  go_wp2_with fail
  refine HG.out.mono ?_
  rintro e W1 ⟨rfl, h1, b1⟩
  have b01 := Lib.hid (HB0.out.trans b1)
  have H1 := Lib.hid h1
  clear h1 b1 HG HB0
  go_wp2_with fail
  refine (writeStringF_any w.heap.size w.heap.size [] S W1 (Lib.IsBuilderF.of (Or.inr H1.out)) (by simp; omega) b01.out.size).mono ?_
  rintro e W2 ⟨rfl, h2, b2⟩
  have H2 : IsB w.heap.size w.heap.size (Lib.byteCells (zs 1)) W2 := by
    rw [List.nil_append, strCells_eq, HSS.out] at h2
    exact h2
  have b02 := b01.out.trans b2
  clear h2 b2 b01 H1
  go_wp2_with fail
  go_loopg [] (c - 1) (fun g wx => ∃ q : Nat, 1 ≤ q ∧ q + g = c ∧ IsB w.heap.size w.heap.size (Lib.byteCells (zs q)) wx ∧ Below w.heap.size w wx)
  case atStart => exact ⟨1, Nat.le_refl _, by omega, H2, b02⟩
  case round =>
    obtain ⟨q, hq1, hqg, hB, hbx⟩ := hrel
    have hlq : (Lib.byteCells (zs q)).length = q := by rw [Lib.byteCells_length, List.length_replicate]
    have cLen := lenF_any w.heap.size w.heap.size _ wr hB
    rw [hlq] at cLen
    have HL := Lib.hid cLen
    have cStr := stringF_any w.heap.size w.heap.size (zs q) wr hB hbx.size
    obtain ⟨R, hR⟩ : ∃ R : ByteArray, (⟨(zs q).toArray⟩ : ByteArray) = R := ⟨_, rfl⟩
    have hRd : R.data.toList = zs q := by rw [← hR]
    have hRz : R.size = q := by have := congrArg List.length hRd; rw [Array.length_toList, List.length_replicate] at this; exact this
    rw [hR] at cStr
    have HT := Lib.hid cStr
    have HRd := Lib.hid hRd; have HR := Lib.hid hR; have HBX := Lib.hid hbx; have HLQ := Lib.hid hlq
    clear cLen cStr hRd hB hbx hlq H2 b02 hR
    cases gk with
    | zero =>
      obtain rfl : q = c := by omega
      have hQn : decide ((q : Int) < (q : Int)) = false := by simp
      go_wp2_with fail
      refine HL.out.mono ?_
      rintro e w' ⟨rfl, hw⟩
      rw [hw]
      clear hw
      go_wp2_with fail
      refine HT.out.mono ?_
      rintro e W3 ⟨rfl, h3, b3⟩
      have HB3 := Lib.hid (HBX.out.trans b3)
      clear h3 b3
      go_wp2_with fail
      go_ret
      exact ⟨by rw [HR.out]; rfl, HB3.out⟩
    | succ g =>
      have hQn : (q : Int) < (c : Int) := by omega
      obtain ⟨k, hk⟩ : ∃ k, min (c - q) q = k := ⟨_, rfl⟩
      have hmin3 : ∀ (ts : Array TypeId) (t : TypeId) (W : World), (Builtin.min_ ts t #[.int .i64 ((c : Int) - (q : Int)), .int .i64 (q : Int), .int .i64 (c : Int)]).run Tryd.prog W = .ok (.int .i64 (k : Int)) W := fun ts t W => by
        rw [min3_any]
        congr 2
        omega
      have v3 : IntKind.i64.wrap ((c : Int) - (q : Int)) = (c : Int) - (q : Int) := IntWalk.i64_in _ (by omega)
      have f1 : (k : Int) ≤ (R.size : Int) := by omega
      have f2 : k ≤ R.size := by omega
      have HK : Hid (min (c - q) q = k) := Lib.hid hk
      clear hk
      go_wp2_with fail
      refine HL.out.mono ?_
      rintro e w' ⟨rfl, hw⟩
      rw [hw]
      clear hw
      go_wp2_with fail
      refine HL.out.mono ?_
      rintro e w' ⟨rfl, hw⟩
      rw [hw]
      clear hw
      go_wp2_with fail
      refine HL.out.mono ?_
      rintro e w' ⟨rfl, hw⟩
      rw [hw]
      clear hw
      go_wp2_with fail
      refine HT.out.mono ?_
      rintro e W3 ⟨rfl, h3, b3⟩
      have hb3 := HBX.out.trans b3
      have HX : Hid ((R.extract 0 k).data.toList = zs k) := Lib.hid (by
        rw [Lib.extract_data, HRd.out]
        simp only [List.drop_zero, Nat.sub_zero, List.take_replicate]
        rw [Nat.min_eq_left (by have := HK.out; omega)])
      have hxz : (R.extract 0 k).size = k := by have := congrArg List.length HX.out; rw [Array.length_toList, List.length_replicate] at this; exact this
      have HW := Lib.hid (writeStringF_any w.heap.size w.heap.size _ (R.extract 0 k) W3 h3 (by rw [HLQ.out]; omega) hb3.size)
      have HB3 := Lib.hid hb3
      clear h3 b3 hb3 hxz
      go_wp2_with fail
      refine HW.out.mono ?_
      rintro e W4 ⟨rfl, h4, b4⟩
      have hb4 := HB3.out.trans b4
      have h5 : IsB w.heap.size w.heap.size (Lib.byteCells (zs (q + k))) W4 := by
        rw [strCells_eq, ← byteCells_append, HX.out, List.replicate_append_replicate] at h4
        exact h4
      clear h4 b4
      go_wp2_with fail
      go_roundg (c - (q + k))
      case measure => have := HK.out; omega
      case rel => exact ⟨q + k, by omega, by have := HK.out; omega, h5, hb4⟩
set_option maxRecDepth 100000 in
theorem repeatNone_any (S : ByteArray) (w : World) :
    Calls Tryd.prog 58 #[.string S, .int .i64 0] w fun e w' => e = .returned (.string ⟨#[]⟩) ∧ w' = w := by
  go_enter Tryd.func58, Tryd.ntmps58
  go_wp2_with fail
  go_ret
  exact ⟨rfl, rfl⟩
set_option maxRecDepth 100000 in
theorem repeatOne_any (S : ByteArray) (w : World) :
    Calls Tryd.prog 58 #[.string S, .int .i64 1] w fun e w' => e = .returned (.string S) ∧ w' = w := by
  go_enter Tryd.func58, Tryd.ntmps58
  go_wp2_with fail
  go_ret
  exact ⟨rfl, rfl⟩
/-- so many bytes 0 -/
theorem repeat_any (S : ByteArray) (hS : S.data.toList = [0]) (c : Nat) (w : World) (hc : c ≤ 32) :
    Calls Tryd.prog 58 #[.string S, .int .i64 (c : Int)] w fun e w' => e = .returned (.string ⟨(zs c).toArray⟩) ∧ Below w.heap.size w w' := by
  match c, hc with
  | 0, _ => exact (repeatNone_any S w).mono fun e w' ⟨he, hw⟩ => ⟨he, hw ▸ Below.refl _ _⟩
  | 1, _ => exact (repeatOne_any S w).mono fun e w' ⟨he, hw⟩ => ⟨by rw [he]; congr 2; exact ba_ext hS, hw ▸ Below.refl _ _⟩
  | c + 2, hc => exact repeatMany_any S hS (c + 2) w (by omega) hc
end Go.Proofs.YtmlkjackopiekaaDoor
