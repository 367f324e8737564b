/- A word's and a number's bytes, as the program has them. -/
import Derived.Test.YtdflihfecfmpfaaDoorNumP
import Derived.Test.YtdflihfecfmpfaaDoorUnrA
import Derived.Deep.DeepCutAuto
namespace Go.Proofs.YtdflihfecfmpfaaDoor
open Go.RowKit Go.Shelf
set_option linter.unusedVariables false
set_option linter.unusedSimpArgs false

theorem fixAt_wrap (v r : Nat) : IntKind.u8.wrap ((v : Int) / 2 ^ r) = ((UInt8.ofNat (v / 2 ^ r % 256)).toNat : Int) := by
  have e : (v : Int) / 2 ^ r = ((v / 2 ^ r : Nat) : Int) := by simp
  rw [e]
  generalize v / 2 ^ r = n
  simp [IntKind.wrap, IntKind.bits, IntKind.signed]
theorem word_cell {w : World} {g : Nat} {t : TypeId} {a0 a1 a2 a3 : Nat} (h : Blk w g t #[.int .u64 (a0 : Int), .int .u64 (a1 : Int), .int .u64 (a2 : Int), .int .u64 (a3 : Int)]) (q : Nat) (hq : q < 4) : w.cell? ⟨g, q, none⟩ = some (.int .u64 (([a0, a1, a2, a3].getD q 0 : Nat) : Int)) := by
  rw [h.cell]
  have : q = 0 ∨ q = 1 ∨ q = 2 ∨ q = 3 := by omega
  rcases this with rfl | rfl | rfl | rfl <;> rfl

set_option maxRecDepth 100000 in
set_option maxHeartbeats 1000000 in
theorem fixed_any (a0 a1 a2 a3 : Nat) (w : World) :
    Calls Tryd.prog 67 #[.agg #[.int .u64 (a0 : Int), .int .u64 (a1 : Int), .int .u64 (a2 : Int), .int .u64 (a3 : Int)]] w fun e w' => e = .returned (.string ⟨(fixL [a0, a1, a2, a3]).toArray⟩) ∧ w.grownBy w' none := by
  have hB := Blk.new w 93 #[.int .u64 (a0 : Int), .int .u64 (a1 : Int), .int .u64 (a2 : Int), .int .u64 (a3 : Int)]
  have hG := only_alloc (World.grownBy.refl w none) (.cells #[.int .u64 (a0 : Int), .int .u64 (a1 : Int), .int .u64 (a2 : Int), .int .u64 (a3 : Int)] 93)
  have hZ : (w.alloc (.cells #[.int .u64 (a0 : Int), .int .u64 (a1 : Int), .int .u64 (a2 : Int), .int .u64 (a3 : Int)] 93)).heap.size = w.heap.size + 1 := by simp
  go_enter Tryd.func67, Tryd.ntmps67
  go_upto_region 1 with (fail)
  generalize w.alloc (.cells #[.int .u64 (a0 : Int), .int .u64 (a1 : Int), .int .u64 (a2 : Int), .int .u64 (a3 : Int)] 93) = W at *
  have hmk : (Instr.makeSlice 38 (.int .i64 32) (.int .i64 32)).run Tryd.prog W = .ok (.slice (some ⟨W.heap.size, 0, none⟩) 32 32) (W.alloc (.cells (bytesC (List.replicate 32 0)) 5)) := make_u8 32 (by omega) W
  rw [hZ] at hmk
  have hB := hB.alloc (.cells (bytesC (List.replicate 32 0)) 5)
  have hO := Blk.new W 5 (bytesC (List.replicate 32 0))
  rw [hZ] at hO
  have hG := only_alloc hG (.cells (bytesC (List.replicate 32 0)) 5)
  obtain ⟨b, hb⟩ : ∃ b, w.heap.size = b := ⟨_, rfl⟩
  rw [hb] at hB hO hmk ⊢
  generalize W.alloc (.cells (bytesC (List.replicate 32 0)) 5) = W1 at *
  go_wp2_with fail
  go_loopw [6] (fun i wr => ∃ m : Nat, i = .int .i64 (m : Int) ∧ m ≤ 32 ∧ Blk wr (b + 1) 5 (bytesC (outF [a0, a1, a2, a3] m)) ∧ Blk wr b 93 #[.int .u64 (a0 : Int), .int .u64 (a1 : Int), .int .u64 (a2 : Int), .int .u64 (a3 : Int)] ∧ w.grownBy wr none) (fun i _ => 32 - (intOf i).toNat)
  case atStart => exact ⟨0, rfl, by omega, by rw [outF_zero]; exact hO, hB, hG⟩
  case round =>
    clear hO hB hG hmk hZ
    obtain ⟨m, rfl, hm, hO, hB, hG⟩ := hrel
    by_cases hlt : m < 32
    · obtain ⟨q, hq⟩ : ∃ q, m / 8 = q := ⟨_, rfl⟩
      obtain ⟨r8, hr8⟩ : ∃ r, m % 8 = r := ⟨_, rfl⟩
      obtain ⟨r, hr⟩ : ∃ r, r8 * 8 = r := ⟨_, rfl⟩
      obtain ⟨p, hp⟩ : ∃ p, 31 - m = p := ⟨_, rfl⟩
      have f2 := word_cell hB q (by omega)
      obtain ⟨v, hv⟩ : ∃ v, [a0, a1, a2, a3].getD q 0 = v := ⟨_, rfl⟩
      obtain ⟨z, hz⟩ : ∃ z, fixAt [a0, a1, a2, a3] m = z := ⟨_, rfl⟩
      have hzz : z = UInt8.ofNat (v / 2 ^ r % 256) := by
        rw [← hz]; unfold fixAt; rw [hq, hr8, hr, hv]
      have hst : outF [a0, a1, a2, a3] (m + 1) = (outF [a0, a1, a2, a3] m).set p z := by rw [← hz, ← hp]; exact outF_succ _ m hlt
      rw [hv] at f2
      have f3 := hO.frozen p
      have f4 : wr.cell? ⟨b + 1, p, none⟩ = some (.int .u8 (((outF [a0, a1, a2, a3] m).getD p 0).toNat : Int)) := bytesC_cell hO p (by rw [outF_len]; omega)
      have p1 : (m : Int).tdiv 8 = (q : Int) := by rw [Int.tdiv_eq_ediv_of_nonneg (by omega)]; omega
      have p2 : IntKind.i64.wrap (q : Int) = (q : Int) := IntWalk.i64_in _ (by omega)
      have p3 : (m : Int).tmod 8 = (r8 : Int) := by rw [Int.tmod_eq_emod_of_nonneg (by omega)]; omega
      have p4 : IntKind.i64.wrap ((r8 : Int) * 8) = (r : Int) := by rw [IntWalk.i64_in _ (by omega)]; omega
      have p5 : IntKind.u8.wrap ((v : Int) / 2 ^ r) = (z.toNat : Int) := by rw [hzz]; exact fixAt_wrap v r
      have p6 : IntKind.i64.wrap (31 - (m : Int)) = (p : Int) := by rw [IntWalk.i64_in _ (by omega)]; omega
      have p7 : 31 - (m : Int) = (p : Int) := by omega
      have q1 : (q : Int) < 4 := by omega
      have q2 : (m : Int) < 32 := by omega
      have q3 : r < 64 := by omega
      have q4 : (p : Int) < 32 := by omega
      have HS := Lib.hid hst
      generalize (outF [a0, a1, a2, a3] m).getD p 0 = z0 at f4
      generalize [a0, a1, a2, a3].getD q 0 = v' at hv
      clear hq hr8 hr hv hz hzz hst hp
      go_wp2_with fail
      refine ⟨⟨m + 1, by go_num, by omega, ?_, hB.far (p := ⟨b + 1, p, none⟩) (by show b ≠ b + 1; omega) _, only_set hG (p := ⟨b + 1, p, none⟩) (by show w.heap.size ≤ b + 1; omega) _⟩, by simp [intOf]; omega⟩
      rw [HS.out, ← bytesC_setI]
      exact hO.set_ p _
    · have e32 : outF [a0, a1, a2, a3] m = fixL [a0, a1, a2, a3] := by rw [show m = 32 by omega, outF_all]
      rw [e32] at hO
      have hfin : decide ((m : Int) < 32) = false := by simp; omega
      have hcv := run_convert_bytes_back (P := Tryd.prog) wr 38 9 5 ⟨b + 1, 0, none⟩ 32 (fixL [a0, a1, a2, a3]) (by kernel_rfl) (by kernel_rfl) (by kernel_rfl) (fun j hj => by
        have := bytesC_cell hO j hj
        rw [Addr.add_mid, Nat.zero_add, this, List.getD_eq_getElem?_getD, List.getElem?_eq_getElem hj]
        rfl)
      rw [fixL_len] at hcv
      obtain ⟨qq, hqq⟩ : ∃ x, fixL [a0, a1, a2, a3] = x := ⟨_, rfl⟩
      rw [hqq] at hcv
      have HQ := Lib.hid hqq
      clear e32 hqq
      go_wp2_with fail
      go_ret
      exact ⟨by rw [HQ.out]; rfl, hG⟩

theorem extract_tail {t : ByteArray} {c : UInt8} {r : List UInt8} (h : t.data.toList = c :: r) : (t.extract 1 t.size).data.toList = r := by
  rw [Lib.extract_data, h]
  simp
  rw [List.take_of_length_le]
  have := congrArg List.length h
  rw [Array.length_toList] at this
  simp at this
  show r.length ≤ t.size - 1
  have : t.size = r.length + 1 := this
  omega
theorem size_cons {t : ByteArray} {c : UInt8} {r : List UInt8} (h : t.data.toList = c :: r) : t.size = r.length + 1 := by
  have := congrArg List.length h
  rw [Array.length_toList] at this
  exact this
def strSize : Value → Nat
  | .string s => s.size
  | _ => 0
set_option maxRecDepth 100000 in
set_option maxHeartbeats 1000000 in
theorem trimByte_any (s : ByteArray) (c : UInt8) (w : World) (hs : s.size ≤ 9223372036854775807) :
    Calls Tryd.prog 68 #[.string s, .int .u8 (c.toNat : Int)] w fun e w' => e = .returned (.string ⟨(trimC c s.data.toList).toArray⟩) ∧ w' = w := by
  go_enter Tryd.func68, Tryd.ntmps68
  go_wp2_with fail
  go_loop [0] (fun v => ∃ t : ByteArray, v = .string t ∧ t.size ≤ s.size ∧ Hid (trimC c t.data.toList = trimC c s.data.toList)) (fun v => strSize v)
  case atStart => exact ⟨s, rfl, Nat.le_refl _, Lib.hid rfl⟩
  case round =>
    obtain ⟨t, rfl, ht, hT⟩ := hrel
    have HT := Lib.hid hT.out
    clear hT
    cases hl : t.data.toList with
    | nil =>
      have hz : t.size = 0 := by have := congrArg List.length hl; rw [Array.length_toList] at this; exact this
      have d1 : decide (0 < t.size) = false := decide_eq_false (by omega)
      have d2 : decide ((0 : Int) < (t.size : Int)) = false := decide_eq_false (by omega)
      have he : t = ⟨#[]⟩ := ba_ext hl
      have HE : Hid (trimC c s.data.toList = []) := Lib.hid (by rw [← HT.out, hl]; rfl)
      subst he
      clear hl hz HT
      go_wp2_with fail
      go_ret
      exact ⟨by rw [HE.out]; rfl, rfl⟩
    | cons x r =>
      have hz := size_cons hl
      have d1 : 0 < t.size := by omega
      have hx : t[0]'d1 = x := by
        have e : t.data.toList[0]? = some x := by rw [hl]; rfl
        have e2 : t.data[0]? = some x := by simpa using e
        obtain ⟨_, e3⟩ := Array.getElem?_eq_some_iff.1 e2
        exact e3
      have HZ := Lib.hid hz
      clear hz
      have d2 : (0 : Int) < (t.size : Int) := by omega
      have d3 : (1 : Int) ≤ (t.size : Int) := by omega
      have d4 : 1 ≤ t.size := by omega
      by_cases hxc : x = c
      · have e1 : ((x.toNat : Int) == (c.toNat : Int)) = true := by rw [hxc]; simp
        have HN : Hid (trimC c (t.extract 1 t.size).data.toList = trimC c s.data.toList) := Lib.hid (by
          rw [extract_tail hl, ← HT.out, hl]
          show _ = List.dropWhile _ _
          rw [List.dropWhile_cons_of_pos (by simp [hxc])]; rfl)
        have HSZ : Hid ((t.extract 1 t.size).size = t.size - 1) := Lib.hid (by simp)
        clear hl HT hxc
        go_wp2_with fail
        exact ⟨⟨_, rfl, by have := HSZ.out; omega, HN⟩, by show (t.extract 1 t.size).size < t.size; have := HSZ.out; omega⟩
      · have e1 : ((x.toNat : Int) == (c.toNat : Int)) = false := by
          rw [beq_eq_false_iff_ne]; intro e; exact hxc (UInt8.toNat_inj.1 (by omega))
        have HN : Hid (trimC c s.data.toList = t.data.toList) := Lib.hid (by
          rw [← HT.out, hl]
          show List.dropWhile _ _ = _
          rw [List.dropWhile_cons_of_neg (by simp [hxc])])
        clear hl HT hxc
        go_wp2_with fail
        go_ret
        exact ⟨by rw [HN.out]; rfl, rfl⟩

set_option maxRecDepth 100000 in
theorem trim_any (s : ByteArray) (w : World) (h0 : 0 < s.size) (hs : s.size ≤ 9223372036854775807) :
    Calls Tryd.prog 66 #[.string s, .string ⟨#[0]⟩] w fun e w' => e = .returned (.string ⟨(trimL s.data.toList).toArray⟩) ∧ w' = w := by
  have hb := fun W => trimByte_any s 0 W hs
  have e1 : (s.toList == []) = false := by
    have := str_ne (a := s) (b := ⟨#[]⟩) (by rintro rfl; cases h0)
    simpa using this
  have e2 : s.toList.isEmpty = false := by simpa using e1
  have HB := Lib.hid hb
  clear hb
  go_enter Tryd.func66, Tryd.ntmps66
  go_wp2_with fail
  refine (HB.out _).mono ?_
  rintro e w2 ⟨rfl, rfl⟩
  go_wp2_with fail
  go_ret
  exact ⟨rfl, rfl⟩

set_option maxRecDepth 100000 in
theorem wordBytes_any (a0 a1 a2 a3 : Nat) (h0 : a0 < 18446744073709551616) (h1 : a1 < 18446744073709551616) (h2 : a2 < 18446744073709551616) (h3 : a3 < 18446744073709551616) (w : World) :
    Calls Tryd.prog 63 #[.agg #[.int .u64 (a0 : Int), .int .u64 (a1 : Int), .int .u64 (a2 : Int), .int .u64 (a3 : Int)]] w fun e w' => e = .returned (.string ⟨(beN (wordN a0 a1 a2 a3)).toArray⟩) ∧ w.grownBy w' none := by
  have hB := Blk.new w 93 #[.int .u64 (a0 : Int), .int .u64 (a1 : Int), .int .u64 (a2 : Int), .int .u64 (a3 : Int)]
  have hG := only_alloc (World.grownBy.refl w none) (.cells #[.int .u64 (a0 : Int), .int .u64 (a1 : Int), .int .u64 (a2 : Int), .int .u64 (a3 : Int)] 93)
  have HF := Lib.hid (fun V => fixed_any a0 a1 a2 a3 V)
  have ht := fun V => trim_any ⟨(fixL [a0, a1, a2, a3]).toArray⟩ V (by show 0 < ((fixL [a0, a1, a2, a3]).toArray).size; simp [fixL_len]) (by show ((fixL [a0, a1, a2, a3]).toArray).size ≤ _; simp [fixL_len])
  have HT := Lib.hid ht
  have HE : Hid (trimL (fixL [a0, a1, a2, a3]) = beN (wordN a0 a1 a2 a3)) := Lib.hid (by rw [fixL_be _ _ _ _ h0 h1 h2 h3]; rfl)
  clear ht
  go_enter Tryd.func63, Tryd.ntmps63
  go_wp2_with fail
  refine (HF.out _).mono ?_
  rintro e w2 ⟨rfl, hg⟩
  have hG := Lib.hid (grown_self hG hg (by simp))
  clear hg hB
  go_wp2_with fail
  refine (HT.out _).mono ?_
  rintro e w3 ⟨rfl, rfl⟩
  go_wp2_with fail
  go_ret
  exact ⟨by rw [← HE.out]; rfl, hG.out⟩

theorem load_word {w : World} {g : Nat} {a b c d : Value} (hg : Blk w g 93 #[a, b, c, d]) : (loadVar 93 ⟨g, 0, none⟩).run Tryd.prog w = .ok (.agg #[a, b, c, d]) w :=
  run_loadVar_row w g 93 93 _ (0, 0) _ hg Tryd.underlying93 rfl (by kernel_rfl)
set_option maxRecDepth 100000 in
theorem of_any (n : Nat) (w : World) :
    Calls Tryd.prog 64 #[.int .u64 (n : Int)] w fun e w' => e = .returned (.agg #[.int .u64 (n : Int), .int .u64 ((0 : Nat) : Int), .int .u64 ((0 : Nat) : Int), .int .u64 ((0 : Nat) : Int)]) ∧ w.grownBy w' none := by
  have hB := Blk.new w 93 #[.int .u64 (n : Int), .int .u64 0, .int .u64 0, .int .u64 0]
  have hG := only_alloc (World.grownBy.refl w none) (.cells #[.int .u64 (n : Int), .int .u64 0, .int .u64 0, .int .u64 0] 93)
  go_enter Tryd.func64, Tryd.ntmps64
  go_wp2_with fail
  refine bodyPost_ret (results_cell1 (fn := Tryd.f64) rfl _ _ _ _ rfl (load_word hB)) rfl ?_
  exact ⟨rfl, hG⟩

/-- A NUMBER'S BYTES -/
theorem be_any (n : Nat) (hn : n < 18446744073709551616) (w : World) :
    Calls Tryd.prog 60 #[.int .u64 (n : Int)] w fun e w' => e = .returned (.string ⟨(beN n).toArray⟩) ∧ w.grownBy w' none := by
  have hb := fun V => wordBytes_any n 0 0 0 hn (by omega) (by omega) (by omega) V
  rw [show wordN n 0 0 0 = n by unfold wordN; omega] at hb
  have HB := Lib.hid hb
  have HO := Lib.hid (fun V => of_any n V)
  clear hb
  go_enter Tryd.func60, Tryd.ntmps60
  go_wp2_with fail
  refine (HO.out _).mono ?_
  rintro e w2 ⟨rfl, hg⟩
  have hG := Lib.hid hg
  clear hg
  go_wp2_with fail
  refine (HB.out _).mono ?_
  rintro e w3 ⟨rfl, hg⟩
  have hG := Lib.hid (grown_self hG.out hg (by simp))
  clear hg
  go_wp2_with fail
  go_ret
  exact ⟨rfl, hG.out⟩
end Go.Proofs.YtdflihfecfmpfaaDoor
