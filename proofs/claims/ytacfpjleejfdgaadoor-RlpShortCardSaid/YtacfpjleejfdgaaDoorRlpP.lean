/- RlpShort: the walk. -/
import Derived.Test.YtacfpjleejfdgaaDoorRlpO
namespace Go.Proofs.YtacfpjleejfdgaaDoor
open Go.RowKit Go.Shelf
set_option linter.unusedVariables false
set_option linter.unusedSimpArgs false

theorem str_at {S : ByteArray} {i : Nat} {z : UInt8} (h : S.data.toList[i]? = some z) (hi : i < S.size) : S[i]'hi = z := by
  have e2 : S.data[i]? = some z := by simpa using h
  obtain ⟨_, e3⟩ := Array.getElem?_eq_some_iff.1 e2
  exact e3
theorem str_tail {S b : ByteArray} {l : List UInt8} (h : S.data.toList = l ++ b.data.toList) (n : Nat) (hn : l.length = n) (m : Nat) (hm : S.size = m) : ((S.extract n m).toList == b.toList) = true := by
  have : S.extract n m = b := by
    apply ba_ext
    have hz : S.size = l.length + b.data.toList.length := by
      have := congrArg List.length h
      rw [Array.length_toList, List.length_append] at this
      exact this
    rw [Lib.extract_data, h, ← hn, List.drop_left, List.take_of_length_le (by omega)]
  rw [this]; simp

set_option maxRecDepth 100000 in
set_option maxHeartbeats 4000000 in
theorem short_law (b : ByteArray) (W : World) (hb : b.size ≤ 9223372036854775807) :
    Calls Tryd.prog 7 #[.string b] W fun e W' => e = .returned (.bool true) ∧ Below W.heap.size W W' := by
  have HW := Lib.hid (worksP_any W)
  rcases Nat.lt_or_ge 3000 b.size with hlong | hlong
  · have d1 : (3000 : Int) < (b.size : Int) := by omega
    go_enter Tryd.func7, Tryd.ntmps7
    go_wp2_with fail
    refine HW.out.mono ?_
    rintro e w1 ⟨rfl, hg1⟩
    go_wp2_with fail
    go_ret
    exact ⟨rfl, below_of_grown hg1⟩
  have d1 : decide ((3000 : Int) < (b.size : Int)) = false := decide_eq_false (by omega)
  have hck : checkI (.mk false b []) = 0 := by
    unfold checkI
    have hf : formF (.mk false b []) 0 = 0 := by rw [formF, if_neg (by simp), if_pos rfl]
    have hl := bytesT_len b (by omega)
    rw [hf, if_neg (by simp), if_neg]
    rw [bytesF_eq]
    show ¬ 65536 < (bytesT b).length
    omega
  have henc := fun V => encodeP_any (.mk false b []) V (.slice none 0 0) (leafW V 0) (by rw [wtF, wtL]; omega)
  rw [hck, show encB (.mk false b []) = bytesT b from (if_pos hck).trans (by rw [bytesF_eq]; rfl)] at henc
  have HE : Hid (∀ V, Calls Tryd.prog 13 #[.agg #[.bool false, .string b, .slice none 0 0]] V fun e W' => e = .returned (.tuple #[.string ⟨(bytesT b).toArray⟩, .int .i64 0]) ∧ V.grownBy W' none) := Lib.hid henc
  obtain ⟨S, hS⟩ : ∃ S : ByteArray, S = ⟨(bytesT b).toArray⟩ := ⟨_, rfl⟩
  rw [← hS] at HE
  have lb : b.data.toList.length = b.size := Array.length_toList
  clear henc hck
  by_cases h1 : b.size = 1 ∧ (b.data.toList.getD 0 0).toNat < 128
  · have hT : S = b := by rw [hS]; unfold bytesT; rw [if_pos h1]
    obtain ⟨h1, h2⟩ := h1
    have z1 : 0 < b.size := by omega
    have hc : ((b[0]'z1).toNat : Int) < 128 := by
      have e2 : b.data[0]? = some (b[0]'z1) := Array.getElem?_eq_getElem z1
      have : b.data.toList.getD 0 0 = b[0]'z1 := by rw [List.getD_eq_getElem?_getD, Array.getElem?_toList, e2]; rfl
      rw [← this]; omega
    have e1 : ((b.size : Int) == 1) = true := by rw [beq_iff_eq]; omega
    rw [hT] at HE
    clear hT hS h1 h2 lb
    go_enter Tryd.func7, Tryd.ntmps7
    go_wp2_with fail
    refine HW.out.mono ?_
    rintro e w1 ⟨rfl, hg1⟩
    go_wp2_with fail
    refine (HE.out _).mono ?_
    rintro e w2 ⟨rfl, hg2⟩
    have HB := Lib.hid (below_of_grown (grown_self hg1 hg2 (by simp)))
    clear hg1 hg2
    go_wp2_with fail
    go_ret
    exact ⟨rfl, HB.out⟩
  · have hguard : ((b.size : Int) == 1) = false ∨ (((b.size : Int) == 1) = true ∧ ∃ d1 : 0 < b.size, decide (((b[0]'d1).toNat : Int) < 128) = false) := by
      by_cases hz : b.size = 1
      · refine .inr ⟨by rw [beq_iff_eq]; omega, by omega, ?_⟩
        have d1 : 0 < b.size := by omega
        have e2 : b.data[0]? = some (b[0]'d1) := Array.getElem?_eq_getElem d1
        have : b.data.toList.getD 0 0 = b[0]'d1 := by rw [List.getD_eq_getElem?_getD, Array.getElem?_toList, e2]; rfl
        have h2 : ¬ (b.data.toList.getD 0 0).toNat < 128 := fun h => h1 ⟨hz, h⟩
        rw [this] at h2
        exact decide_eq_false (by omega)
      · exact .inl (by rw [beq_eq_false_iff_ne]; omega)
    have hT : S.data.toList = headL b.size 128 ++ b.data.toList := by rw [hS]; unfold bytesT; rw [if_neg h1]
    have hSz : S.size = (headL b.size 128).length + b.size := by
      have := congrArg List.length hT
      rw [Array.length_toList, List.length_append, lb] at this
      exact this
    clear h1 hS
    by_cases c1 : b.size < 56
    · have hh : headL b.size 128 = [UInt8.ofNat (128 + b.size)] := if_pos c1
      rw [hh] at hT hSz
      have hSz : S.size = b.size + 1 := by rw [hSz]; simp; omega
      have g0 : 0 < S.size := by omega
      have g1 : (S[0]'g0) = UInt8.ofNat (128 + b.size) := str_at (by rw [hT]; rfl) g0
      have g2 : ((S[0]'g0).toNat : Int) = 128 + (b.size : Int) := by rw [g1, u8_small _ (by omega)]; omega
      have g3 : IntKind.i64.wrap (((S[0]'g0).toNat : Nat) : Int) = 128 + (b.size : Int) := by rw [g2, IntWalk.i64_in _ (by omega)]
      have g4 := str_tail hT 1 rfl S.size rfl
      have g4a := str_tail hT 1 rfl (1 + b.size) (by omega)
      have g4b := str_tail hT 1 rfl (b.size + 1) (by omega)
      have g5 : ((S.size : Int) == (b.size : Int) + 1) = true := by rw [beq_iff_eq]; omega
      have g6 : (1 : Int) ≤ (S.size : Int) := by omega
      have g6' : 1 ≤ S.size := by omega
      have g7 : (b.size : Int) < 56 := by omega
      have v1 : IntKind.i64.wrap ((b.size : Int) + 1) = (b.size : Int) + 1 := IntWalk.i64_in _ (by omega)
      have v2 : IntKind.i64.wrap (128 + (b.size : Int)) = 128 + (b.size : Int) := IntWalk.i64_in _ (by omega)
      have HSZ := Lib.hid hSz
      clear hT hSz hh lb g1
      rcases hguard with e1 | ⟨e1, z1, e2⟩
      all_goals
        go_enter Tryd.func7, Tryd.ntmps7
        go_wp2_with fail
        refine HW.out.mono ?_
        rintro e w1 ⟨rfl, hg1⟩
        go_wp2_with fail
        refine (HE.out _).mono ?_
        rintro e w2 ⟨rfl, hg2⟩
        have HB := Lib.hid (below_of_grown (grown_self hg1 hg2 (by simp)))
        clear hg1 hg2
        go_wp2_with fail
        go_ret
        exact ⟨rfl, HB.out⟩
    · have e1 : ((b.size : Int) == 1) = false := by rw [beq_eq_false_iff_ne]; omega
      have c1' : decide ((b.size : Int) < 56) = false := decide_eq_false (by omega)
      clear hguard
      by_cases c2 : b.size < 256
      · have hh : headL b.size 128 = [UInt8.ofNat 184, UInt8.ofNat b.size] := by
          unfold headL
          rw [if_neg c1, beN_small b.size (by omega) c2]; rfl
        rw [hh] at hT hSz
        have hSz : S.size = b.size + 2 := by rw [hSz]; simp; omega
        have g0 : 0 < S.size := by omega
        have g0' : 1 < S.size := by omega
        have g1 : (S[0]'g0) = UInt8.ofNat 184 := str_at (by rw [hT]; rfl) g0
        have g1' : (S[1]'g0') = UInt8.ofNat b.size := str_at (by rw [hT]; rfl) g0'
        have g2 : ((S[0]'g0).toNat : Int) = 184 := by rw [g1, u8_small _ (by omega)]; rfl
        have g2' : ((S[1]'g0').toNat : Int) = (b.size : Int) := by rw [g1', u8_small _ c2]
        have g3 : IntKind.i64.wrap (((S[1]'g0').toNat : Nat) : Int) = (b.size : Int) := by rw [g2', IntWalk.i64_in _ (by omega)]
        have g4 := str_tail hT 2 rfl S.size rfl
        have g4a := str_tail hT 2 rfl (2 + b.size) (by omega)
        have g4b := str_tail hT 2 rfl (b.size + 2) (by omega)
        have g5 : ((S.size : Int) == (b.size : Int) + 2) = true := by rw [beq_iff_eq]; omega
        have g6 : (2 : Int) ≤ (S.size : Int) := by omega
        have g6' : 2 ≤ S.size := by omega
        have g7 : (b.size : Int) < 256 := by omega
        have g8 : (1 : Int) < (S.size : Int) := by omega
        have v1 : IntKind.i64.wrap ((b.size : Int) + 2) = (b.size : Int) + 2 := IntWalk.i64_in _ (by omega)
        have HSZ := Lib.hid hSz
        clear hT hSz hh lb g1 g1' c1
        go_enter Tryd.func7, Tryd.ntmps7
        go_wp2_with fail
        refine HW.out.mono ?_
        rintro e w1 ⟨rfl, hg1⟩
        go_wp2_with fail
        refine (HE.out _).mono ?_
        rintro e w2 ⟨rfl, hg2⟩
        have HB := Lib.hid (below_of_grown (grown_self hg1 hg2 (by simp)))
        clear hg1 hg2
        go_wp2_with fail
        go_ret
        exact ⟨rfl, HB.out⟩
      · have hh : headL b.size 128 = [UInt8.ofNat 185, UInt8.ofNat (b.size / 256), UInt8.ofNat (b.size % 256)] := by
          unfold headL
          rw [if_neg c1, beN_two b.size (by omega) (by omega)]; rfl
        rw [hh] at hT hSz
        have hSz : S.size = b.size + 3 := by rw [hSz]; simp; omega
        have g0 : 0 < S.size := by omega
        have g0' : 1 < S.size := by omega
        have g0'' : 2 < S.size := by omega
        have g1 : (S[0]'g0) = UInt8.ofNat 185 := str_at (by rw [hT]; rfl) g0
        have g1' : (S[1]'g0') = UInt8.ofNat (b.size / 256) := str_at (by rw [hT]; rfl) g0'
        have g1'' : (S[2]'g0'') = UInt8.ofNat (b.size % 256) := str_at (by rw [hT]; rfl) g0''
        have g2 : ((S[0]'g0).toNat : Int) = 185 := by rw [g1, u8_small _ (by omega)]; rfl
        have g2' : ((S[1]'g0').toNat : Int) = ((b.size / 256 : Nat) : Int) := by rw [g1', u8_small _ (by omega)]
        have g2'' : ((S[2]'g0'').toNat : Int) = ((b.size % 256 : Nat) : Int) := by rw [g1'', u8_small _ (by omega)]
        obtain ⟨q, hq⟩ : ∃ q, b.size / 256 = q := ⟨_, rfl⟩
        obtain ⟨r, hr⟩ : ∃ r, b.size % 256 = r := ⟨_, rfl⟩
        rw [hq] at g2'
        rw [hr] at g2''
        have hqr : q * 256 + r = b.size := by omega
        have x0 : ∀ V, (Instr.index 9 (.string S) (.int .i64 0)).run Tryd.prog V = .ok (.int .u8 185) V := fun V => by
          have := idx_str S 0 (UInt8.ofNat 185) (by rw [hT]; rfl) V
          rw [u8_small _ (by omega)] at this
          exact this
        have x1 : ∀ V, (Instr.index 9 (.string S) (.int .i64 1)).run Tryd.prog V = .ok (.int .u8 (q : Int)) V := fun V => by
          have := idx_str S 1 (UInt8.ofNat (b.size / 256)) (by rw [hT]; rfl) V
          rw [u8_small _ (by omega), hq] at this
          exact this
        have x2 : ∀ V, (Instr.index 9 (.string S) (.int .i64 2)).run Tryd.prog V = .ok (.int .u8 (r : Int)) V := fun V => by
          have := idx_str S 2 (UInt8.ofNat (b.size % 256)) (by rw [hT]; rfl) V
          rw [u8_small _ (by omega), hr] at this
          exact this
        have v5 : IntKind.i64.wrap (q : Int) = (q : Int) := IntWalk.i64_in _ (by omega)
        have v6 : IntKind.i64.wrap (r : Int) = (r : Int) := IntWalk.i64_in _ (by omega)
        have g3 : IntKind.i64.wrap (((S[1]'g0').toNat : Nat) : Int) = (q : Int) := by rw [g2', IntWalk.i64_in _ (by omega)]
        have g3' : IntKind.i64.wrap (((S[2]'g0'').toNat : Nat) : Int) = (r : Int) := by rw [g2'', IntWalk.i64_in _ (by omega)]
        have g4 := str_tail hT 3 rfl S.size rfl
        have g4a := str_tail hT 3 rfl (3 + b.size) (by omega)
        have g4b := str_tail hT 3 rfl (b.size + 3) (by omega)
        have g5 : ((S.size : Int) == (b.size : Int) + 3) = true := by rw [beq_iff_eq]; omega
        have g5' : ((3 : Int) + (b.size : Int) == (b.size : Int) + 3) = true := by rw [beq_iff_eq]; omega
        have g6 : (3 : Int) ≤ (S.size : Int) := by omega
        have g6' : 3 ≤ S.size := by omega
        have g7 : decide ((b.size : Int) < 256) = false := decide_eq_false (by omega)
        have g8 : (1 : Int) < (S.size : Int) := by omega
        have g9 : (2 : Int) < (S.size : Int) := by omega
        have v1 : IntKind.i64.wrap ((b.size : Int) + 3) = (b.size : Int) + 3 := IntWalk.i64_in _ (by omega)
        have v2 : IntKind.i64.wrap ((q : Int) * 256) = (q : Int) * 256 := IntWalk.i64_in _ (by omega)
        have v3 : IntKind.i64.wrap ((q : Int) * 256 + (r : Int)) = (q : Int) * 256 + (r : Int) := IntWalk.i64_in _ (by omega)
        have v4 : ((q : Int) * 256 + (r : Int) == (b.size : Int)) = true := by rw [beq_iff_eq]; omega
        have HSZ := Lib.hid hSz
        clear hT hSz hh lb g1 g1' g1'' c1 hq hr hqr
        go_enter Tryd.func7, Tryd.ntmps7
        go_wp2_with fail
        refine HW.out.mono ?_
        rintro e w1 ⟨rfl, hg1⟩
        go_wp2_with fail
        refine (HE.out _).mono ?_
        rintro e w2 ⟨rfl, hg2⟩
        have hB := below_of_grown (grown_self hg1 hg2 (by simp))
        have HB := Lib.hid hB
        clear hg1 hg2 hB
        go_wp2_with fail
        go_quiet (fail)
        go_wp2_with fail
        go_ret
        exact ⟨rfl, below_drewN HB.out _⟩
end Go.Proofs.YtacfpjleejfdgaaDoor
