/- A word's and a number's bytes, as the document has them. -/
import Derived.Test.YtdflihfecfmpfaaDoorWrd
namespace Go.Proofs.YtdflihfecfmpfaaDoor
open Go.RowKit Go.Shelf
set_option linter.unusedVariables false
set_option linter.unusedSimpArgs false

set_option maxRecDepth 100000 in
theorem digit_any (a0 a1 a2 a3 m : Nat) (hm : m < 32) (w : World) :
    Calls Tryd.prog 65 #[.agg #[.int .u64 (a0 : Int), .int .u64 (a1 : Int), .int .u64 (a2 : Int), .int .u64 (a3 : Int)], .int .i64 (m : Int)] w fun e w' => e = .returned (.int .i64 ((fixAt [a0, a1, a2, a3] m).toNat : Int)) ∧ w.grownBy w' none := by
  have hB := Blk.new w 93 #[.int .u64 (a0 : Int), .int .u64 (a1 : Int), .int .u64 (a2 : Int), .int .u64 (a3 : Int)]
  have hG := only_alloc (World.grownBy.refl w none) (.cells #[.int .u64 (a0 : Int), .int .u64 (a1 : Int), .int .u64 (a2 : Int), .int .u64 (a3 : Int)] 93)
  obtain ⟨q, hq⟩ : ∃ q, m / 8 = q := ⟨_, rfl⟩
  obtain ⟨r8, hr8⟩ : ∃ r, m % 8 = r := ⟨_, rfl⟩
  obtain ⟨r, hr⟩ : ∃ r, r8 * 8 = r := ⟨_, rfl⟩
  have f2 := word_cell hB q (by omega)
  obtain ⟨v, hv⟩ : ∃ v, [a0, a1, a2, a3].getD q 0 = v := ⟨_, rfl⟩
  obtain ⟨z, hz⟩ : ∃ z, fixAt [a0, a1, a2, a3] m = z := ⟨_, rfl⟩
  have hzz : z = UInt8.ofNat (v / 2 ^ r % 256) := by
    rw [← hz]; unfold fixAt; rw [hq, hr8, hr, hv]
  rw [hv] at f2
  have p1 : (m : Int).tdiv 8 = (q : Int) := by rw [Int.tdiv_eq_ediv_of_nonneg (by omega)]; omega
  have p2 : IntKind.i64.wrap (q : Int) = (q : Int) := IntWalk.i64_in _ (by omega)
  have p3 : (m : Int).tmod 8 = (r8 : Int) := by rw [Int.tmod_eq_emod_of_nonneg (by omega)]; omega
  have p4 : IntKind.i64.wrap ((r8 : Int) * 8) = (r : Int) := by rw [IntWalk.i64_in _ (by omega)]; omega
  have p5 : ((v : Int) / 2 ^ r).tmod 256 = (z.toNat : Int) := by
    rw [show (v : Int) / 2 ^ r = ((v / 2 ^ r : Nat) : Int) by simp, Int.tmod_eq_emod_of_nonneg (Int.natCast_nonneg _), hzz]
    simp
  have p7 : IntKind.u64.wrap (z.toNat : Int) = (z.toNat : Int) := by have := z.toNat_lt; simp [IntKind.wrap, IntKind.bits, IntKind.signed]; omega
  have p9 : IntKind.i64.wrap (z.toNat : Int) = (z.toNat : Int) := by have := z.toNat_lt; exact IntWalk.i64_in _ (by omega)
  have p8 := wrap_u r (by omega)
  have q1 : (q : Int) < 4 := by omega
  have q3 : r < 64 := by omega
  have HZ := Lib.hid hz
  clear hq hr8 hr hv hz hzz hB
  go_enter Tryd.func65, Tryd.ntmps65
  go_upto_region 1 with (fail)
  generalize w.alloc (.cells #[.int .u64 (a0 : Int), .int .u64 (a1 : Int), .int .u64 (a2 : Int), .int .u64 (a3 : Int)] 93) = W at *
  go_wp2_with fail
  go_ret
  exact ⟨by rw [HZ.out]; rfl, hG⟩
/-- the first of the fixed bytes -/
theorem fixL_take (a : List Nat) (m : Nat) (hm : m < 32) : u8s ((fixL a).take (m + 1)) = u8s ((fixL a).take m) ++ [.int .u8 ((fixAt a (31 - m)).toNat : Int)] := by
  have : (fixL a).take (m + 1) = (fixL a).take m ++ [fixAt a (31 - m)] := by
    rw [List.take_add_one, show (fixL a)[m]? = some (fixAt a (31 - m)) by unfold fixL; rw [List.getElem?_map, List.getElem?_range hm]; rfl]
    rfl
  rw [this]
  simp [u8s]
set_option maxRecDepth 100000 in
set_option maxHeartbeats 1000000 in
theorem fixedR_any (a0 a1 a2 a3 : Nat) (w : World) :
    Calls Tryd.prog 61 #[.agg #[.int .u64 (a0 : Int), .int .u64 (a1 : Int), .int .u64 (a2 : Int), .int .u64 (a3 : Int)]] w fun e w' => e = .returned (.string ⟨(fixL [a0, a1, a2, a3]).toArray⟩) ∧ w.grownBy w' none := by
  have hB := Blk.new w 93 #[.int .u64 (a0 : Int), .int .u64 (a1 : Int), .int .u64 (a2 : Int), .int .u64 (a3 : Int)]
  have hG := only_alloc (World.grownBy.refl w none) (.cells #[.int .u64 (a0 : Int), .int .u64 (a1 : Int), .int .u64 (a2 : Int), .int .u64 (a3 : Int)] 93)
  have hZ : (w.alloc (.cells #[.int .u64 (a0 : Int), .int .u64 (a1 : Int), .int .u64 (a2 : Int), .int .u64 (a3 : Int)] 93)).heap.size = w.heap.size + 1 := by simp
  have HD := Lib.hid (fun m hm V => digit_any a0 a1 a2 a3 m hm V)
  obtain ⟨i0, z0, hi, hz0, hz1, hz2, hz3⟩ := byte_info
  go_enter Tryd.func61, Tryd.ntmps61
  go_upto_region 1 with (fail)
  generalize w.alloc (.cells #[.int .u64 (a0 : Int), .int .u64 (a1 : Int), .int .u64 (a2 : Int), .int .u64 (a3 : Int)] 93) = W at *
  obtain ⟨b, hb⟩ : ∃ b, w.heap.size = b := ⟨_, rfl⟩
  rw [hb] at hB hZ ⊢
  go_wp2_with fail
  go_loopw [3, 4] (fun v i wr => ∃ m : Nat, i = .int .i64 (31 - (m : Int)) ∧ m ≤ 32 ∧ wr.ownsRow (b + 1) 5 1 v m (u8s ((fixL [a0, a1, a2, a3]).take m)) ∧ Blk wr b 93 #[.int .u64 (a0 : Int), .int .u64 (a1 : Int), .int .u64 (a2 : Int), .int .u64 (a3 : Int)] ∧ w.grownBy wr none ∧ b + 1 ≤ wr.heap.size) (fun _ i _ => (1 + intOf i).toNat)
  case atStart => exact ⟨0, rfl, by omega, World.ownsRow_nil _ _ _ _, hB, hG, by omega⟩
  case round =>
    clear hB hG hZ
    obtain ⟨m, rfl, hm, hO, hB, hG, hsz⟩ := hrel
    by_cases hlt : m < 32
    · obtain ⟨p, hp⟩ : ∃ p, 31 - m = p := ⟨_, rfl⟩
      have d0 : (0 : Int) ≤ 31 - (m : Int) := by omega
      have e0 : 31 - (m : Int) = (p : Int) := by omega
      rw [e0] at d0 ⊢
      have hst := fixL_take [a0, a1, a2, a3] m hlt
      rw [hp] at hst
      have hdg := fun V => HD.out p (by omega) V
      generalize fixAt [a0, a1, a2, a3] p = z at *
      have HDG := Lib.hid hdg; have HS := Lib.hid hst
      have c0 := hB.cell 0; have c1 := hB.cell 1; have c2 := hB.cell 2; have c3 := hB.cell 3
      simp only [List.getElem?_toArray, List.getElem?_cons_zero, List.getElem?_cons_succ] at c0 c1 c2 c3
      have p7 : IntKind.u8.wrap (z.toNat : Int) = (z.toNat : Int) := by have := z.toNat_lt; simp [IntKind.wrap, IntKind.bits, IntKind.signed]; omega
      have d9 : (p : Int) ≤ 31 := by omega
      have HP0 := Lib.hid e0
      clear hdg hst hp e0
      obtain ⟨A, cc, rfl, _⟩ := own_slice hO
      go_wp2_with fail
      refine (HDG.out _).mono ?_
      rintro e w2 ⟨rfl, hg2⟩
      have hB := hB.grown hg2 (by simp)
      have hO := hO.kept hg2 (by cases A; exact .inl rfl; exact .inr (by simp [Value.ownBlock]))
      have hsz2 := hg2.size
      have hG := grown_self hG hg2 (by simp)
      clear c0 c1 c2 c3
      go_wp2_with (at_builtin; refine wpList_append_own _ rfl _ _ 38 rfl (b + 1) 5 i0 z0 1 1 Tryd.underlying38 hi hz0 hz1 hz2 hz3 (by decide) _ _ _ rfl (hO.alloc _) ⟨w2.heap.size, 0, none⟩ 1 1 [.int .u8 (z.toNat : Int)] rfl rfl (cell_one_new _ _ _) (by simp [Value.oneCell']) (by simp only [maxLen]; omega) (by omega) (by simp; omega) ?_; intro v' w4 hown4 hgrow _)
      obtain ⟨g', cap', rfl⟩ := ownsRow_succ hown4
      have hne : ∀ k, Value.ownBlock (.slice A m cc) = some k → b + 1 ≤ k := fun k hk => own_ge hO hk
      go_wp2_with fail
      go_roundw
      case rel =>
        refine ⟨m + 1, by have := HP0.out; simp; omega, by omega, by rw [HS.out]; exact hown4, ?_, ?_, ?_⟩
        · exact (hB.alloc _).grown hgrow (fun e => by have := hne b e.symm; omega)
        · exact grown_self (only_alloc hG _) hgrow (fun j hj => .inr (by have := hne j hj; omega))
        · have := hgrow.size; simp at this; omega
      case measure => simp [intOf]; omega
    · have hm : m = 32 := by omega
      have e32 : (fixL [a0, a1, a2, a3]).take m = fixL [a0, a1, a2, a3] := by rw [hm, List.take_of_length_le (by rw [fixL_len]; omega)]
      rw [e32] at hO
      have hfin : decide ((0 : Int) ≤ 31 - (m : Int)) = false := by simp; omega
      have hcv := conv_own hO
      obtain ⟨qq, hqq⟩ : ∃ x, fixL [a0, a1, a2, a3] = x := ⟨_, rfl⟩
      rw [hqq] at hcv
      have HQ := Lib.hid hqq
      have d2 : (31 : Int) - (m : Int) < 0 := by omega
      clear e32 hqq hO hm
      go_wp2_with fail
      go_ret
      exact ⟨by rw [HQ.out]; rfl, hG⟩

set_option maxRecDepth 100000 in
set_option maxHeartbeats 1000000 in
theorem bytesR_any (a0 a1 a2 a3 : Nat) (h0 : a0 < 18446744073709551616) (h1 : a1 < 18446744073709551616) (h2 : a2 < 18446744073709551616) (h3 : a3 < 18446744073709551616) (w : World) :
    Calls Tryd.prog 56 #[.agg #[.int .u64 (a0 : Int), .int .u64 (a1 : Int), .int .u64 (a2 : Int), .int .u64 (a3 : Int)]] w fun e w' => e = .returned (.string ⟨(beN (wordN a0 a1 a2 a3)).toArray⟩) ∧ w.grownBy w' none := by
  have hB := Blk.new w 93 #[.int .u64 (a0 : Int), .int .u64 (a1 : Int), .int .u64 (a2 : Int), .int .u64 (a3 : Int)]
  have hG := only_alloc (World.grownBy.refl w none) (.cells #[.int .u64 (a0 : Int), .int .u64 (a1 : Int), .int .u64 (a2 : Int), .int .u64 (a3 : Int)] 93)
  have HF := Lib.hid (fun V => fixedR_any a0 a1 a2 a3 V)
  have HE : Hid (trimL (fixL [a0, a1, a2, a3]) = beN (wordN a0 a1 a2 a3)) := Lib.hid (by rw [fixL_be _ _ _ _ h0 h1 h2 h3]; rfl)
  have HL : Hid ((fixL [a0, a1, a2, a3]).length = 32) := Lib.hid (fixL_len _)
  go_enter Tryd.func56, Tryd.ntmps56
  go_wp2_with fail
  refine (HF.out _).mono ?_
  rintro e w2 ⟨rfl, hg⟩
  have hG := Lib.hid (grown_self hG hg (by simp))
  obtain ⟨q, hq⟩ : ∃ q, fixL [a0, a1, a2, a3] = q := ⟨_, rfl⟩
  rw [hq] at HE HL ⊢
  clear hg hB hq
  go_wp2_with fail
  go_loop [3] (fun v => ∃ t : ByteArray, v = .string t ∧ t.size ≤ 32 ∧ Hid (trimL t.data.toList = trimL q)) (fun v => strSize v)
  case atStart => exact ⟨⟨q.toArray⟩, rfl, by show q.toArray.size ≤ 32; rw [List.size_toArray, HL.out]; omega, Lib.hid rfl⟩
  case round =>
    obtain ⟨t, rfl, ht, hT⟩ := hrel
    have HT := Lib.hid hT.out
    clear hT
    cases hl : t.data.toList with
    | nil =>
      have hz : t.size = 0 := by have := congrArg List.length hl; rw [Array.length_toList] at this; exact this
      have he : t = ⟨#[]⟩ := ba_ext hl
      have HN : Hid (trimL q = []) := Lib.hid (by rw [← HT.out, hl]; rfl)
      subst he
      clear hl hz HT
      go_wp2_with fail
      go_ret
      exact ⟨by rw [← HE.out, HN.out]; rfl, hG.out⟩
    | cons x r =>
      have hz := size_cons hl
      have d1 : 0 < t.size := by omega
      have hx : t[0]'d1 = x := by
        have e : t.data.toList[0]? = some x := by rw [hl]; rfl
        have e2 : t.data[0]? = some x := by simpa using e
        obtain ⟨_, e3⟩ := Array.getElem?_eq_some_iff.1 e2
        exact e3
      have HZ := Lib.hid hz
      clear hz
      have d2 : (0 : Int) < (t.size : Int) := by omega
      have d3 : (1 : Int) ≤ (t.size : Int) := by omega
      have d4 : 1 ≤ t.size := by omega
      by_cases hxc : x = 0
      · have e1 : ((x.toNat : Int) == 0) = true := by rw [hxc]; rfl
        have HN : Hid (trimL (t.extract 1 t.size).data.toList = trimL q) := Lib.hid (by
          rw [extract_tail hl, ← HT.out, hl]
          show _ = List.dropWhile _ _
          rw [List.dropWhile_cons_of_pos (by simp [hxc])]; rfl)
        have HSZ : Hid ((t.extract 1 t.size).size = t.size - 1) := Lib.hid (by simp)
        clear hl HT hxc
        go_wp2_with fail
        exact ⟨⟨_, rfl, by have := HSZ.out; omega, HN⟩, by show (t.extract 1 t.size).size < t.size; have := HSZ.out; omega⟩
      · have e1 : ((x.toNat : Int) == 0) = false := by
          rw [beq_eq_false_iff_ne]; intro e; exact hxc (UInt8.toNat_inj.1 (by simp; omega))
        have HN : Hid (trimL q = t.data.toList) := Lib.hid (by
          rw [← HT.out, hl]
          show List.dropWhile _ _ = _
          rw [List.dropWhile_cons_of_neg (by simp [hxc])])
        clear hl HT hxc
        go_wp2_with fail
        go_ret
        exact ⟨by rw [← HE.out, HN.out]; rfl, hG.out⟩

set_option maxRecDepth 100000 in
theorem beR_any (n : Nat) (hn : n < 18446744073709551616) (w : World) :
    Calls Tryd.prog 49 #[.int .u64 (n : Int)] w fun e w' => e = .returned (.string ⟨(beN n).toArray⟩) ∧ w.grownBy w' none := by
  have hb := fun V => bytesR_any n 0 0 0 hn (by omega) (by omega) (by omega) V
  rw [show wordN n 0 0 0 = n by unfold wordN; omega] at hb
  have HB := Lib.hid hb
  clear hb
  go_enter Tryd.func49, Tryd.ntmps49
  go_wp2_with fail
  refine (HB.out _).mono ?_
  rintro e w3 ⟨rfl, hg⟩
  go_wp2_with fail
  go_ret
  exact ⟨rfl, hg⟩
end Go.Proofs.YtdflihfecfmpfaaDoor
