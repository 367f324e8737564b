/- Merged: WrdR, UwA, TxD, TxE, TxF. -/
import Derived.Test.YthalohloneojlaaGreatDoorMi2
import Derived.Test.YthalohloneojlaaGreatDoorMi3
import Derived.Test.YthalohloneojlaaGreatDoorMi4
import Derived.Test.YthalohloneojlaaGreatDoorMi5
import Derived.Test.YthalohloneojlaaGreatDoorMi8
/- A word's and a number's bytes, as the document has them. -/
namespace Go.Proofs.YthalohloneojlaaGreatDoor
open Go.RowKit Go.Shelf
set_option linter.unusedVariables false
set_option linter.unusedSimpArgs false

set_option maxRecDepth 100000 in
theorem digit_any (a0 a1 a2 a3 m : Nat) (hm : m < 32) (w : World) :
    Calls Tryz.prog 156 #[.agg #[.int .u64 (a0 : Int), .int .u64 (a1 : Int), .int .u64 (a2 : Int), .int .u64 (a3 : Int)], .int .i64 (m : Int)] w fun e w' => e = .returned (.int .i64 ((fixAt [a0, a1, a2, a3] m).toNat : Int)) ∧ w.grownBy w' none := by
  have hB := Blk.new w 87 #[.int .u64 (a0 : Int), .int .u64 (a1 : Int), .int .u64 (a2 : Int), .int .u64 (a3 : Int)]
  have hG := only_alloc (World.grownBy.refl w none) (.cells #[.int .u64 (a0 : Int), .int .u64 (a1 : Int), .int .u64 (a2 : Int), .int .u64 (a3 : Int)] 87)
  obtain ⟨q, hq⟩ : ∃ q, m / 8 = q := ⟨_, rfl⟩
  obtain ⟨r8, hr8⟩ : ∃ r, m % 8 = r := ⟨_, rfl⟩
  obtain ⟨r, hr⟩ : ∃ r, r8 * 8 = r := ⟨_, rfl⟩
  have f2 := word_cell hB q (by omega)
  obtain ⟨v, hv⟩ : ∃ v, [a0, a1, a2, a3].getD q 0 = v := ⟨_, rfl⟩
  obtain ⟨z, hz⟩ : ∃ z, fixAt [a0, a1, a2, a3] m = z := ⟨_, rfl⟩
  have hzz : z = UInt8.ofNat (v / 2 ^ r % 256) := by
    rw [← hz]; unfold fixAt; rw [hq, hr8, hr, hv]
  rw [hv] at f2
  have p1 : (m : Int).tdiv 8 = (q : Int) := by rw [Int.tdiv_eq_ediv_of_nonneg (by omega)]; omega
  have p2 : IntKind.i64.wrap (q : Int) = (q : Int) := IntWalk.i64_in _ (by omega)
  have p3 : (m : Int).tmod 8 = (r8 : Int) := by rw [Int.tmod_eq_emod_of_nonneg (by omega)]; omega
  have p4 : IntKind.i64.wrap ((r8 : Int) * 8) = (r : Int) := by rw [IntWalk.i64_in _ (by omega)]; omega
  have p5 : ((v : Int) / 2 ^ r).tmod 256 = (z.toNat : Int) := by
    rw [show (v : Int) / 2 ^ r = ((v / 2 ^ r : Nat) : Int) by simp, Int.tmod_eq_emod_of_nonneg (Int.natCast_nonneg _), hzz]
    simp
  have p7 : IntKind.u64.wrap (z.toNat : Int) = (z.toNat : Int) := by have := z.toNat_lt; simp [IntKind.wrap, IntKind.bits, IntKind.signed]; omega
  have p9 : IntKind.i64.wrap (z.toNat : Int) = (z.toNat : Int) := by have := z.toNat_lt; exact IntWalk.i64_in _ (by omega)
  have p8 := wrap_u r (by omega)
  have q1 : (q : Int) < 4 := by omega
  have q3 : r < 64 := by omega
  have HZ := Lib.hid hz
  clear hq hr8 hr hv hz hzz hB
  go_enter Tryz.func156, Tryz.ntmps156
  go_upto_region 1 with (fail)
  generalize w.alloc (.cells #[.int .u64 (a0 : Int), .int .u64 (a1 : Int), .int .u64 (a2 : Int), .int .u64 (a3 : Int)] 87) = W at *
  go_wp2_with fail
  go_ret
  exact ⟨by rw [HZ.out]; rfl, hG⟩
/-- the first of the fixed bytes -/
theorem fixL_take (a : List Nat) (m : Nat) (hm : m < 32) : u8s ((fixL a).take (m + 1)) = u8s ((fixL a).take m) ++ [.int .u8 ((fixAt a (31 - m)).toNat : Int)] := by
  have : (fixL a).take (m + 1) = (fixL a).take m ++ [fixAt a (31 - m)] := by
    rw [List.take_add_one, show (fixL a)[m]? = some (fixAt a (31 - m)) by unfold fixL; rw [List.getElem?_map, List.getElem?_range hm]; rfl]
    rfl
  rw [this]
  simp [u8s]
set_option maxRecDepth 100000 in
set_option maxHeartbeats 1000000 in
theorem fixedR_any (a0 a1 a2 a3 : Nat) (w : World) :
    Calls Tryz.prog 143 #[.agg #[.int .u64 (a0 : Int), .int .u64 (a1 : Int), .int .u64 (a2 : Int), .int .u64 (a3 : Int)]] w fun e w' => e = .returned (.string ⟨(fixL [a0, a1, a2, a3]).toArray⟩) ∧ w.grownBy w' none := by
  have hB := Blk.new w 87 #[.int .u64 (a0 : Int), .int .u64 (a1 : Int), .int .u64 (a2 : Int), .int .u64 (a3 : Int)]
  have hG := only_alloc (World.grownBy.refl w none) (.cells #[.int .u64 (a0 : Int), .int .u64 (a1 : Int), .int .u64 (a2 : Int), .int .u64 (a3 : Int)] 87)
  have hZ : (w.alloc (.cells #[.int .u64 (a0 : Int), .int .u64 (a1 : Int), .int .u64 (a2 : Int), .int .u64 (a3 : Int)] 87)).heap.size = w.heap.size + 1 := by simp
  have HD := Lib.hid (fun m hm V => digit_any a0 a1 a2 a3 m hm V)
  obtain ⟨i0, z0, hi, hz0, hz1, hz2, hz3⟩ := byte_info
  go_enter Tryz.func143, Tryz.ntmps143
  go_upto_region 1 with (fail)
  generalize w.alloc (.cells #[.int .u64 (a0 : Int), .int .u64 (a1 : Int), .int .u64 (a2 : Int), .int .u64 (a3 : Int)] 87) = W at *
  obtain ⟨b, hb⟩ : ∃ b, w.heap.size = b := ⟨_, rfl⟩
  rw [hb] at hB hZ ⊢
  go_wp2_with fail
  go_loopw [3, 4] (fun v i wr => ∃ m : Nat, i = .int .i64 (31 - (m : Int)) ∧ m ≤ 32 ∧ wr.ownsRow (b + 1) 5 1 v m (u8s ((fixL [a0, a1, a2, a3]).take m)) ∧ Blk wr b 87 #[.int .u64 (a0 : Int), .int .u64 (a1 : Int), .int .u64 (a2 : Int), .int .u64 (a3 : Int)] ∧ w.grownBy wr none ∧ b + 1 ≤ wr.heap.size) (fun _ i _ => (1 + intOf i).toNat)
  case atStart => exact ⟨0, rfl, by omega, World.ownsRow_nil _ _ _ _, hB, hG, by omega⟩
  case round =>
    clear hB hG hZ
    obtain ⟨m, rfl, hm, hO, hB, hG, hsz⟩ := hrel
    by_cases hlt : m < 32
    · obtain ⟨p, hp⟩ : ∃ p, 31 - m = p := ⟨_, rfl⟩
      have d0 : (0 : Int) ≤ 31 - (m : Int) := by omega
      have e0 : 31 - (m : Int) = (p : Int) := by omega
      rw [e0] at d0 ⊢
      have hst := fixL_take [a0, a1, a2, a3] m hlt
      rw [hp] at hst
      have hdg := fun V => HD.out p (by omega) V
      generalize fixAt [a0, a1, a2, a3] p = z at *
      have HDG := Lib.hid hdg; have HS := Lib.hid hst
      have c0 := hB.cell 0; have c1 := hB.cell 1; have c2 := hB.cell 2; have c3 := hB.cell 3
      simp only [List.getElem?_toArray, List.getElem?_cons_zero, List.getElem?_cons_succ] at c0 c1 c2 c3
      have p7 : IntKind.u8.wrap (z.toNat : Int) = (z.toNat : Int) := by have := z.toNat_lt; simp [IntKind.wrap, IntKind.bits, IntKind.signed]; omega
      have d9 : (p : Int) ≤ 31 := by omega
      have HP0 := Lib.hid e0
      clear hdg hst hp e0
      obtain ⟨A, cc, rfl, _⟩ := own_slice hO
      go_wp2_with fail
      refine (HDG.out _).mono ?_
      rintro e w2 ⟨rfl, hg2⟩
      have hB := hB.grown hg2 (by simp)
      have hO := hO.kept hg2 (by cases A; exact .inl rfl; exact .inr (by simp [Value.ownBlock]))
      have hsz2 := hg2.size
      have hG := grown_self hG hg2 (by simp)
      clear c0 c1 c2 c3
      go_wp2_with (at_builtin; refine wpList_append_own _ rfl _ _ 52 rfl (b + 1) 5 i0 z0 1 1 Tryz.underlying52 hi hz0 hz1 hz2 hz3 (by decide) _ _ _ rfl (hO.alloc _) ⟨w2.heap.size, 0, none⟩ 1 1 [.int .u8 (z.toNat : Int)] rfl rfl (cell_one_new _ _ _) (by simp [Value.oneCell']) (by simp only [maxLen]; omega) (by omega) (by simp; omega) ?_; intro v' w4 hown4 hgrow _)
      obtain ⟨g', cap', rfl⟩ := ownsRow_succ hown4
      have hne : ∀ k, Value.ownBlock (.slice A m cc) = some k → b + 1 ≤ k := fun k hk => own_ge hO hk
      go_wp2_with fail
      go_roundw
      case rel =>
        refine ⟨m + 1, by have := HP0.out; simp; omega, by omega, by rw [HS.out]; exact hown4, ?_, ?_, ?_⟩
        · exact (hB.alloc _).grown hgrow (fun e => by have := hne b e.symm; omega)
        · exact grown_self (only_alloc hG _) hgrow (fun j hj => .inr (by have := hne j hj; omega))
        · have := hgrow.size; simp at this; omega
      case measure => simp [intOf]; omega
    · have hm : m = 32 := by omega
      have e32 : (fixL [a0, a1, a2, a3]).take m = fixL [a0, a1, a2, a3] := by rw [hm, List.take_of_length_le (by rw [fixL_len]; omega)]
      rw [e32] at hO
      have hfin : decide ((0 : Int) ≤ 31 - (m : Int)) = false := by simp; omega
      have hcv := conv_own hO
      obtain ⟨qq, hqq⟩ : ∃ x, fixL [a0, a1, a2, a3] = x := ⟨_, rfl⟩
      rw [hqq] at hcv
      have HQ := Lib.hid hqq
      have d2 : (31 : Int) - (m : Int) < 0 := by omega
      clear e32 hqq hO hm
      go_wp2_with fail
      go_ret
      exact ⟨by rw [HQ.out]; rfl, hG⟩

set_option maxRecDepth 100000 in
set_option maxHeartbeats 1000000 in
theorem bytesR_any (a0 a1 a2 a3 : Nat) (h0 : a0 < 18446744073709551616) (h1 : a1 < 18446744073709551616) (h2 : a2 < 18446744073709551616) (h3 : a3 < 18446744073709551616) (w : World) :
    Calls Tryz.prog 113 #[.agg #[.int .u64 (a0 : Int), .int .u64 (a1 : Int), .int .u64 (a2 : Int), .int .u64 (a3 : Int)]] w fun e w' => e = .returned (.string ⟨(beN (wordN a0 a1 a2 a3)).toArray⟩) ∧ w.grownBy w' none := by
  have hB := Blk.new w 87 #[.int .u64 (a0 : Int), .int .u64 (a1 : Int), .int .u64 (a2 : Int), .int .u64 (a3 : Int)]
  have hG := only_alloc (World.grownBy.refl w none) (.cells #[.int .u64 (a0 : Int), .int .u64 (a1 : Int), .int .u64 (a2 : Int), .int .u64 (a3 : Int)] 87)
  have HF := Lib.hid (fun V => fixedR_any a0 a1 a2 a3 V)
  have HE : Hid (trimL (fixL [a0, a1, a2, a3]) = beN (wordN a0 a1 a2 a3)) := Lib.hid (by rw [fixL_be _ _ _ _ h0 h1 h2 h3]; rfl)
  have HL : Hid ((fixL [a0, a1, a2, a3]).length = 32) := Lib.hid (fixL_len _)
  go_enter Tryz.func113, Tryz.ntmps113
  go_wp2_with fail
  refine (HF.out _).mono ?_
  rintro e w2 ⟨rfl, hg⟩
  have hG := Lib.hid (grown_self hG hg (by simp))
  obtain ⟨q, hq⟩ : ∃ q, fixL [a0, a1, a2, a3] = q := ⟨_, rfl⟩
  rw [hq] at HE HL ⊢
  clear hg hB hq
  go_wp2_with fail
  go_loop [3] (fun v => ∃ t : ByteArray, v = .string t ∧ t.size ≤ 32 ∧ Hid (trimL t.data.toList = trimL q)) (fun v => strSize v)
  case atStart => exact ⟨⟨q.toArray⟩, rfl, by show q.toArray.size ≤ 32; rw [List.size_toArray, HL.out]; omega, Lib.hid rfl⟩
  case round =>
    obtain ⟨t, rfl, ht, hT⟩ := hrel
    have HT := Lib.hid hT.out
    clear hT
    cases hl : t.data.toList with
    | nil =>
      have hz : t.size = 0 := by have := congrArg List.length hl; rw [Array.length_toList] at this; exact this
      have he : t = ⟨#[]⟩ := ba_ext hl
      have HN : Hid (trimL q = []) := Lib.hid (by rw [← HT.out, hl]; rfl)
      subst he
      clear hl hz HT
      go_wp2_with fail
      go_ret
      exact ⟨by rw [← HE.out, HN.out]; rfl, hG.out⟩
    | cons x r =>
      have hz := size_cons hl
      have d1 : 0 < t.size := by omega
      have hx : t[0]'d1 = x := by
        have e : t.data.toList[0]? = some x := by rw [hl]; rfl
        have e2 : t.data[0]? = some x := by simpa using e
        obtain ⟨_, e3⟩ := Array.getElem?_eq_some_iff.1 e2
        exact e3
      have HZ := Lib.hid hz
      clear hz
      have d2 : (0 : Int) < (t.size : Int) := by omega
      have d3 : (1 : Int) ≤ (t.size : Int) := by omega
      have d4 : 1 ≤ t.size := by omega
      by_cases hxc : x = 0
      · have e1 : ((x.toNat : Int) == 0) = true := by rw [hxc]; rfl
        have HN : Hid (trimL (t.extract 1 t.size).data.toList = trimL q) := Lib.hid (by
          rw [extract_tail hl, ← HT.out, hl]
          show _ = List.dropWhile _ _
          rw [List.dropWhile_cons_of_pos (by simp [hxc])]; rfl)
        have HSZ : Hid ((t.extract 1 t.size).size = t.size - 1) := Lib.hid (by simp)
        clear hl HT hxc
        go_wp2_with fail
        exact ⟨⟨_, rfl, by have := HSZ.out; omega, HN⟩, by show (t.extract 1 t.size).size < t.size; have := HSZ.out; omega⟩
      · have e1 : ((x.toNat : Int) == 0) = false := by
          rw [beq_eq_false_iff_ne]; intro e; exact hxc (UInt8.toNat_inj.1 (by simp; omega))
        have HN : Hid (trimL q = t.data.toList) := Lib.hid (by
          rw [← HT.out, hl]
          show List.dropWhile _ _ = _
          rw [List.dropWhile_cons_of_neg (by simp [hxc])])
        clear hl HT hxc
        go_wp2_with fail
        go_ret
        exact ⟨by rw [← HE.out, HN.out]; rfl, hG.out⟩

set_option maxRecDepth 100000 in
theorem beR_any (n : Nat) (hn : n < 18446744073709551616) (w : World) :
    Calls Tryz.prog 85 #[.int .u64 (n : Int)] w fun e w' => e = .returned (.string ⟨(beN n).toArray⟩) ∧ w.grownBy w' none := by
  have hb := fun V => bytesR_any n 0 0 0 hn (by omega) (by omega) (by omega) V
  rw [show wordN n 0 0 0 = n by unfold wordN; omega] at hb
  have HB := Lib.hid hb
  clear hb
  go_enter Tryz.func85, Tryz.ntmps85
  go_wp2_with fail
  refine (HB.out _).mono ?_
  rintro e w3 ⟨rfl, hg⟩
  go_wp2_with fail
  go_ret
  exact ⟨rfl, hg⟩
end Go.Proofs.YthalohloneojlaaGreatDoor
/- The document's words: of 32 digits, of 32 bytes (rescriptref01.of, Unfixed). -/
namespace Go.Proofs.YthalohloneojlaaGreatDoor
open Go.RowKit Go.Shelf
set_option linter.unusedVariables false
set_option linter.unusedSimpArgs false

/-- the digits of 32 bytes, the lowest one first -/
def digL (l : List UInt8) (m : Nat) : List Int := (List.range m).map fun i => ((l.getD (31 - i) 0).toNat : Int)
theorem digL_len (l : List UInt8) (m : Nat) : (digL l m).length = m := by simp [digL]
theorem digL_get (l : List UInt8) (m i : Nat) (h : i < m) : (digL l m).getD i 0 = ((l.getD (31 - i) 0).toNat : Int) := by
  unfold digL
  rw [List.getD_eq_getElem?_getD, List.getElem?_map, List.getElem?_range h]; rfl
theorem digL_succ (l : List UInt8) (m : Nat) : digL l (m + 1) = digL l m ++ [((l.getD (31 - m) 0).toNat : Int)] := by simp [digL, List.range_succ]
set_option maxRecDepth 100000 in
set_option maxHeartbeats 2000000 in
theorem of01_any (l : List UInt8) (hlz : l.length = 32) (B : Nat) (A : Option Addr) (c : Nat) (w : World) (h : Reads w B 1 A 32 ((digL l 32).map (Value.int .i64))) (hB0 : B ≤ w.heap.size) :
    Calls Tryz.prog 160 #[.slice A 32 c] w fun e w' => e = .returned (.agg (wordC (beV l))) ∧ w.grownBy w' none := by
  have hall : lowN l 32 = beV l := by rw [← hlz]; exact lowN_all l
  rw [← hall]
  clear hall
  have HRD := Lib.hid h; have HB0 := Lib.hid hB0
  have hZ4 : Hid ((#[.int .u64 0, .int .u64 0, .int .u64 0, .int .u64 0] : Array Value) = wordC 0) := Lib.hid (by unfold wordC; rw [wp_zero, wp_zero, wp_zero, wp_zero]; rfl)
  have hB := Blk.new w 87 #[.int .u64 0, .int .u64 0, .int .u64 0, .int .u64 0]
  have hO := Blk.new (w.alloc (.cells #[.int .u64 0, .int .u64 0, .int .u64 0, .int .u64 0] 87)) 87 #[.int .u64 0, .int .u64 0, .int .u64 0, .int .u64 0]
  rw [World.size_alloc] at hO
  have hB := hB.alloc (.cells #[.int .u64 0, .int .u64 0, .int .u64 0, .int .u64 0] 87)
  have hG := only_alloc (only_alloc (World.grownBy.refl w none) (.cells #[.int .u64 0, .int .u64 0, .int .u64 0, .int .u64 0] 87)) (.cells #[.int .u64 0, .int .u64 0, .int .u64 0, .int .u64 0] 87)
  clear h hB0
  go_enter Tryz.func160, Tryz.ntmps160
  go_upto_region 2 with (fail)
  obtain ⟨b, hb⟩ : ∃ b, w.heap.size = b := ⟨_, rfl⟩
  have HW := Lib.hid hb
  rw [hb] at hB hO ⊢
  generalize (w.alloc (.cells #[.int .u64 0, .int .u64 0, .int .u64 0, .int .u64 0] 87)).alloc (.cells #[.int .u64 0, .int .u64 0, .int .u64 0, .int .u64 0] 87) = W1 at *
  rw [hZ4.out, ← lowN_zero l] at hO
  clear hZ4 hb
  go_wp2_with fail
  go_loopw [4] (fun i wr => ∃ m : Nat, i = .int .i64 (m : Int) ∧ m ≤ 32 ∧ Blk wr (b + 1) 87 (wordC (lowN l m)) ∧ Blk wr b 87 #[.int .u64 0, .int .u64 0, .int .u64 0, .int .u64 0] ∧ w.grownBy wr none) (fun i _ => 32 - (intOf i).toNat)
  case atStart => exact ⟨0, rfl, by omega, hO, hB, hG⟩
  case round =>
    clear hO hB hG
    obtain ⟨m, rfl, hm, hO, hB, hG⟩ := hrel
    by_cases hlt : m < 32
    · obtain ⟨q, hq⟩ : ∃ q, m / 8 = q := ⟨_, rfl⟩
      obtain ⟨r8, hr8⟩ : ∃ r, m % 8 = r := ⟨_, rfl⟩
      obtain ⟨r, hr⟩ : ∃ r, r8 * 8 = r := ⟨_, rfl⟩
      obtain ⟨p, hp⟩ : ∃ p, 31 - m = p := ⟨_, rfl⟩
      have hst := wordC_step l m (by omega) hlt
      have hwz := lowN_step l m (m / 8) (by omega)
      rw [if_pos rfl, hr8, hr, hlz, show 32 - 1 - m = p by omega, hq] at hwz
      rw [hq] at hst
      have f2 := wordC_cell hO q (by omega)
      have f3 := hO.frozen q
      obtain ⟨gl, off, rfl, hgl, hcl⟩ := (HRD.out.grown hG HB0.out (by simp)).ints hlt
      have f4 := hcl m hlt
      rw [digL_get l 32 m hlt, hp] at f4
      have hzl := wp_lt (lowN l (m + 1)) q
      have hvl := wp_lt (lowN l m) q
      have hrm := wp_room (lowN l m) m (lowN_lt l m)
      rw [hq, hr8, hr] at hrm
      obtain ⟨z, hz⟩ : ∃ z, wp (lowN l (m + 1)) q = z := ⟨_, rfl⟩
      obtain ⟨v, hv⟩ : ∃ v, wp (lowN l m) q = v := ⟨_, rfl⟩
      rw [hv] at hwz f2 hvl hrm
      rw [hz] at hwz hzl hst
      have hch := (l.getD p 0).toNat_lt
      obtain ⟨ch, hch2⟩ : ∃ ch, (l.getD p 0).toNat = ch := ⟨_, rfl⟩
      rw [hch2] at hwz hch f4
      have hadd := wp_or v ch r hrm
      obtain ⟨x, hx⟩ : ∃ x, ch * 2 ^ r = x := ⟨_, rfl⟩
      rw [hx] at hwz hadd
      have p8 : IntKind.u64.wrap ((v : Int) + (x : Int)) = (z : Int) := by
        rw [show (v : Int) + (x : Int) = ((v + x : Nat) : Int) by simp, ← hadd, ← hwz, u64_wrap_of z hzl]
      have p5 : IntKind.u64.wrap ((ch : Int) * 2 ^ r) = (x : Int) := by
        have : (ch : Int) * 2 ^ r = (x : Int) := by rw [← hx]; simp
        rw [this, u64_wrap_of x (by omega)]
      have p9 : IntKind.u64.wrap (ch : Int) = (ch : Int) := u64_wrap_of ch (by omega)
      have p1 : (m : Int).tdiv 8 = (q : Int) := by rw [Int.tdiv_eq_ediv_of_nonneg (by omega)]; omega
      have p2 : IntKind.i64.wrap (q : Int) = (q : Int) := IntWalk.i64_in _ (by omega)
      have p3 : (m : Int).tmod 8 = (r8 : Int) := by rw [Int.tmod_eq_emod_of_nonneg (by omega)]; omega
      have p4 : IntKind.i64.wrap ((r8 : Int) * 8) = (r : Int) := by rw [IntWalk.i64_in _ (by omega)]; omega
      have p11 := wrap_u r (by omega)
      have q1 : (q : Int) < 4 := by omega
      have q1' : q < 4 := by omega
      have q2 : (m : Int) < 32 := by omega
      have q3 : r < 64 := by omega
      have HST := Lib.hid hst
      clear hq hr8 hr hst hwz hzl hvl hrm hz hv hch2 hadd hx hp hcl
      have hO2 := hO.set_ q (.int .u64 (z : Int))
      rw [HST.out] at hO2
      go_wp2_with fail
      go_still_tail 18, (by kernel_rfl)
      clear p1 p2 p3 p4 p5 p8 p9 p11
      repeat go_step
      go_roundw
      case rel => exact ⟨m + 1, by go_num, by omega, hO2, hB.far (p := ⟨b + 1, q, none⟩) (by show b ≠ b + 1; omega) _, only_drew (only_set hG (p := ⟨b + 1, q, none⟩) (by have := HW.out; show w.heap.size ≤ b + 1; omega) _)⟩
      case measure => simp [intOf]; omega
    · obtain rfl : m = 32 := by omega
      have hO' := hO
      unfold wordC at hO'
      have c0 := hO'.cell 0; have c1 := hO'.cell 1; have c2 := hO'.cell 2; have c3 := hO'.cell 3
      have d0 := hB.frozen 0; have d1 := hB.frozen 1; have d2 := hB.frozen 2; have d3 := hB.frozen 3
      have x0 := hB.cell 0; have x1 := hB.cell 1; have x2 := hB.cell 2; have x3 := hB.cell 3
      simp only [List.getElem?_toArray, List.getElem?_cons_zero, List.getElem?_cons_succ] at c0 c1 c2 c3 x0 x1 x2 x3
      have HG2 := Lib.hid (only_set4 hG (Nat.le_of_eq HW.out) (.int .u64 (wp (lowN l 32) 0 : Nat)) (.int .u64 (wp (lowN l 32) 1 : Nat)) (.int .u64 (wp (lowN l 32) 2 : Nat)) (.int .u64 (wp (lowN l 32) 3 : Nat)))
      have HB2 := Lib.hid (blk_set4 hB (.int .u64 (wp (lowN l 32) 0 : Nat)) (.int .u64 (wp (lowN l 32) 1 : Nat)) (.int .u64 (wp (lowN l 32) 2 : Nat)) (.int .u64 (wp (lowN l 32) 3 : Nat)))
      go_wp2_with fail
      refine bodyPost_ret (results_cell1 (fn := Tryz.f160) rfl _ _ _ _ rfl (load_word HB2.out)) rfl ?_
      exact ⟨rfl, HG2.out⟩
theorem int_info : ∃ i, Tryz.prog.info? 3 = some i ∧ i.zero = some (.int .i64 0) ∧ i.size = 1 ∧ i.bytes = 8 := by
  have h : (Tryz.prog.info? 3).map (fun i => (i.zero, i.size, i.bytes)) = some (some (.int .i64 0), 1, 8) := by kernel_rfl
  cases hi : Tryz.prog.info? 3 with
  | none => rw [hi] at h; cases h
  | some i =>
    rw [hi] at h
    simp only [Option.map_some, Option.some.injEq, Prod.mk.injEq] at h
    exact ⟨i, rfl, h.1, h.2.1, h.2.2⟩
set_option maxRecDepth 100000 in
set_option maxHeartbeats 2000000 in
theorem unfixedR_any (S : ByteArray) (hS : S.size = 32) (w : World) :
    Calls Tryz.prog 151 #[.string S] w fun e w' => e = .returned (.tuple #[.agg (wordC (beV S.data.toList)), .int .i64 0]) ∧ w.grownBy w' none := by
  obtain ⟨l, hl⟩ : ∃ l, S.data.toList = l := ⟨_, rfl⟩
  have hlz : l.length = 32 := by rw [← hl, Array.length_toList]; exact hS
  rw [hl]
  have HS := Lib.hid hl; have HZ := Lib.hid hlz
  have e0 : ((S.size : Int) != 32) = false := by simp; omega
  have hB := Blk.new w 87 #[.int .u64 0, .int .u64 0, .int .u64 0, .int .u64 0]
  have hG := only_alloc (World.grownBy.refl w none) (.cells #[.int .u64 0, .int .u64 0, .int .u64 0, .int .u64 0] 87)
  have hZ : (w.alloc (.cells #[.int .u64 0, .int .u64 0, .int .u64 0, .int .u64 0] 87)).heap.size = w.heap.size + 1 := by simp
  obtain ⟨i0, hi, hz0, hz1, hz2⟩ := int_info
  clear hl hlz
  go_enter Tryz.func151, Tryz.ntmps151
  go_upto_region 1 with (fail)
  obtain ⟨b, hb⟩ : ∃ b, w.heap.size = b := ⟨_, rfl⟩
  have HW := Lib.hid hb
  rw [hb] at hB hZ ⊢
  generalize w.alloc (.cells #[.int .u64 0, .int .u64 0, .int .u64 0, .int .u64 0] 87) = W at *
  clear hb
  go_wp2_with fail
  go_loopw [4, 5] (fun v i wr => ∃ m : Nat, i = .int .i64 (31 - (m : Int)) ∧ m ≤ 32 ∧ wr.ownsRow (b + 1) 3 1 v m ((digL l m).map (Value.int .i64)) ∧ Blk wr b 87 #[.int .u64 0, .int .u64 0, .int .u64 0, .int .u64 0] ∧ w.grownBy wr none ∧ b + 1 ≤ wr.heap.size) (fun _ i _ => (1 + intOf i).toNat)
  case atStart => exact ⟨0, rfl, by omega, World.ownsRow_nil _ _ _ _, hB, hG, by omega⟩
  case round =>
    clear hB hG hZ
    obtain ⟨m, rfl, hm, hO, hB, hG, hsz⟩ := hrel
    by_cases hlt : m < 32
    · obtain ⟨p, hp⟩ : ∃ p, 31 - m = p := ⟨_, rfl⟩
      have d0 : (0 : Int) ≤ 31 - (m : Int) := by omega
      have e1 : 31 - (m : Int) = (p : Int) := by omega
      rw [e1] at d0 ⊢
      have hst := digL_succ l m
      rw [hp] at hst
      have hid := fun W => idx_str S p (l.getD p 0) (by rw [HS.out, List.getD_eq_getElem?_getD, List.getElem?_eq_getElem (by have := HZ.out; omega)]; rfl) W
      have hch := (l.getD p 0).toNat_lt
      obtain ⟨ch, hch2⟩ : ∃ ch, (l.getD p 0).toNat = ch := ⟨_, rfl⟩
      rw [hch2] at hid hch hst
      have p9 : IntKind.i64.wrap (ch : Int) = (ch : Int) := IntWalk.i64_in _ (by omega)
      have d9 : (p : Int) ≤ 31 := by omega
      have HST := Lib.hid hst
      have HP0 := Lib.hid e1
      clear hst hp e1 hch2
      obtain ⟨A, cc, rfl⟩ := own_slice3 hO
      go_wp2_with (at_builtin; refine wpList_append_own _ rfl _ _ 231 rfl (b + 1) 3 i0 (.int .i64 0) 1 8 Tryz.underlying231 hi hz0 hz1 hz2 rfl (by decide) _ _ _ rfl (hO.alloc _) ⟨wr.heap.size, 0, none⟩ 1 1 [.int .i64 (ch : Int)] rfl rfl (cell_one_new _ _ _) (by simp [Value.oneCell']) (by simp only [maxLen]; omega) (by omega) (by simp; omega) ?_; intro v' w4 hown4 hgrow _)
      obtain ⟨g', cap', rfl⟩ := ownsRow_succ hown4
      have hne : ∀ k, Value.ownBlock (.slice A m cc) = some k → b + 1 ≤ k := fun k hk => own_ge hO hk
      go_wp2_with fail
      go_roundw
      case rel =>
        refine ⟨m + 1, by have := HP0.out; simp; omega, by omega, by rw [HST.out, List.map_append]; exact hown4, ?_, ?_, ?_⟩
        · exact (hB.alloc _).grown hgrow (fun e => by have := hne b e.symm; omega)
        · exact grown_self (only_alloc hG _) hgrow (fun j hj => .inr (by have := hne j hj; have := HW.out; omega))
        · have := hgrow.size; simp at this; omega
      case measure => simp [intOf]; omega
    · have hm : m = 32 := by omega
      have hfin : decide ((0 : Int) ≤ 31 - (m : Int)) = false := by simp; omega
      have d2 : (31 : Int) - (m : Int) < 0 := by omega
      subst hm
      obtain ⟨A, cc, rfl⟩ := own_slice3 hO
      have hC := of01_any l HZ.out _ A cc wr (Reads.of_own hO) (Nat.le_refl _)
      clear hO hlt
      go_wp2_with fail
      refine hC.mono ?_
      rintro e w2 ⟨rfl, hg2⟩
      have hB2 := hB.grown hg2 (by simp)
      have d0 := hB2.frozen 0; have d1 := hB2.frozen 1; have d2' := hB2.frozen 2; have d3 := hB2.frozen 3
      have x0 := hB2.cell 0; have x1 := hB2.cell 1; have x2 := hB2.cell 2; have x3 := hB2.cell 3
      simp only [List.getElem?_toArray, List.getElem?_cons_zero, List.getElem?_cons_succ] at x0 x1 x2 x3
      have HG2 := Lib.hid (only_set4 (grown_self hG hg2 (by simp)) (Nat.le_of_eq HW.out) (.int .u64 (wp (beV l) 0 : Nat)) (.int .u64 (wp (beV l) 1 : Nat)) (.int .u64 (wp (beV l) 2 : Nat)) (.int .u64 (wp (beV l) 3 : Nat)))
      have HB2 := Lib.hid (blk_set4 hB2 (.int .u64 (wp (beV l) 0 : Nat)) (.int .u64 (wp (beV l) 1 : Nat)) (.int .u64 (wp (beV l) 2 : Nat)) (.int .u64 (wp (beV l) 3 : Nat)))
      clear hC hG hg2 hB hB2
      simp only [wordC]
      go_wp2_with fail
      refine bodyPost_ret (results_cv (fn := Tryz.f151) rfl _ _ _ _ rfl (load_word HB2.out)) rfl ?_
      exact ⟨rfl, HG2.out⟩
end Go.Proofs.YthalohloneojlaaGreatDoor
/- How many fields each kind of transactions has: a map of five that the call makes. -/
namespace Go.Proofs.YthalohloneojlaaGreatDoor
open Go.RowKit Go.Shelf
set_option linter.unusedVariables false
set_option linter.unusedSimpArgs false

def manyE : Array MapEntry := #[{ key := .int .i64 0, val := .int .i64 9, born := 0 }, { key := .int .i64 1, val := .int .i64 11, born := 1 }, { key := .int .i64 2, val := .int .i64 12, born := 2 }, { key := .int .i64 4, val := .int .i64 13, born := 3 }, { key := .int .i64 126, val := .int .i64 8, born := 4 }]
/-- is there such a kind -/
def isKind (n : Int) : Bool := decide (n = 0 ∨ n = 1 ∨ n = 2 ∨ n = 4 ∨ n = 126)
def manyF (n : Int) : Int := if n = 0 then 9 else if n = 1 then 11 else if n = 2 then 12 else if n = 4 then 13 else if n = 126 then 8 else 0
theorem manyF_0 (n : Int) : manyF n = 0 ↔ isKind n = false := by
  unfold manyF isKind
  by_cases h0 : n = 0 <;> by_cases h1 : n = 1 <;> by_cases h2 : n = 2 <;> by_cases h4 : n = 4 <;> by_cases h6 : n = 126 <;> simp [h0, h1, h2, h4, h6]
section
variable {P : Program}
theorem run_mapGet0 {mty kt et : TypeId} {d : TypeDesc} {r clock : Nat} {es : Array MapEntry} {key z : Value} {i : TypeInfo} {w : World} (hm : P.underlying mty = some (.map kt et)) (hk : P.underlying kt = some d) (hkey : MapKept.IsKey d key) (hb : w.heap[r]? = some (.map es clock)) (hf : Instr.findNow d key es.toList 0 = some none) (hi : P.info? et = some i) (hz : i.zero = some z) :
    (Instr.lookup mty (.map (some r)) key false).run P w = .ok z w := by
  have hc : (Instr.checkKey es.isEmpty 10000 kt key).run P w = .ok () w := MapKept.run_checkKey hk hkey _ 9999
  simp [Instr.lookup, run_underlying hm, MapKept.run_getObj_map hb, hc, MapKept.run_findKey hk hf, Result.andThen, zeroValue, typeInfo, hi, hz]
end
theorem putMany {w : World} {r clock : Nat} {es : Array MapEntry} (k v : Int) (hb : w.heap[r]? = some (.map es clock)) (hf : Instr.findNow (.int .i64) (.int .i64 k) es.toList 0 = some none) : ∃ w', (Instr.mapUpdate 146 (.map (some r)) (.int .i64 k) (.int .i64 v)).run Tryz.prog w = .ok () w' ∧ w'.heap[r]? = some (.map (es.push { key := .int .i64 k, val := .int .i64 v, born := clock }) (clock + 1)) ∧ Below r w w' ∧ w'.heap.size = w.heap.size := by
  have hr : r < w.heap.size := (Array.getElem?_eq_some_iff.1 hb).1
  refine ⟨_, run_mapPut (val := .int .i64 v) Tryz.underlying146 Tryz.underlying3 (key := .int .i64 k) (by simp [MapKept.IsKey]) hb hf, World.putObj_heap_same hr, ⟨rfl, rfl, rfl, by simp [World.putObj], fun j hj => World.putObj_heap_other (by omega)⟩, by simp [World.putObj]⟩
set_option maxRecDepth 100000 in
theorem txMany_any (w : World) : Calls Tryz.prog 90 #[] w fun e w' => e = .returned (.map (some w.heap.size)) ∧ w'.heap[w.heap.size]? = some (.map manyE 5) ∧ w.grownBy w' none := by
  have hb0 : Below w.heap.size w (w.alloc (.map #[] 0)) := (Below.refl _ w).alloc (Nat.le_refl _) _
  have h0 : (w.alloc (.map #[] 0)).heap[w.heap.size]? = some (.map #[] 0) := World.alloc_heap_new w _
  have hmm := @run_makeMap Tryz.prog
  obtain ⟨w1, e1, k1, b1, z1⟩ := putMany 0 9 h0 rfl
  obtain ⟨w2, e2, k2, b2, z2⟩ := putMany 1 11 k1 rfl
  obtain ⟨w3, e3, k3, b3, z3⟩ := putMany 2 12 k2 rfl
  obtain ⟨w4, e4, k4, b4, z4⟩ := putMany 4 13 k3 rfl
  obtain ⟨w5, e5, k5, b5, z5⟩ := putMany 126 8 k4 rfl
  have HG := Lib.hid (grown_of_below (((((hb0.trans b1).trans b2).trans b3).trans b4).trans b5))
  have HK := Lib.hid (show w5.heap[w.heap.size]? = some (.map manyE 5) from k5)
  clear h0 hb0 k1 k2 k3 k4 k5 b1 b2 b3 b4 b5 z1 z2 z3 z4 z5
  go_enter Tryz.func90, Tryz.ntmps90
  go_wp2_with fail
  go_ret
  exact ⟨rfl, HK.out, HG.out⟩
set_option maxRecDepth 100000 in
theorem lookMany (n : Int) (r : Nat) (V : World) (h : V.heap[r]? = some (.map manyE 5)) : (Instr.lookup 146 (.map (some r)) (.int .i64 n) false).run Tryz.prog V = .ok (.int .i64 (manyF n)) V := by
  have hk : MapKept.IsKey (.int .i64) (.int .i64 n) := by simp [MapKept.IsKey]
  have g := fun i v hf => run_mapGet (P := Tryz.prog) (i := i) (val := v) (key := .int .i64 n) Tryz.underlying146 Tryz.underlying3 hk h hf
  by_cases h0 : n = 0
  · subst h0; exact g 0 _ rfl
  by_cases h1 : n = 1
  · subst h1; exact g 1 _ rfl
  by_cases h2 : n = 2
  · subst h2; exact g 2 _ rfl
  by_cases h4 : n = 4
  · subst h4; exact g 3 _ rfl
  by_cases h6 : n = 126
  · subst h6; exact g 4 _ rfl
  have hm : manyF n = 0 := by unfold manyF; rw [if_neg h0, if_neg h1, if_neg h2, if_neg h4, if_neg h6]
  rw [hm]
  obtain ⟨i, hi, hz, _⟩ : ∃ i, Tryz.prog.info? 3 = some i ∧ i.zero = some (.int .i64 0) ∧ True := by
    obtain ⟨i, a, b, _⟩ := int_info
    exact ⟨i, a, b, trivial⟩
  refine run_mapGet0 Tryz.underlying146 Tryz.underlying3 hk h ?_ hi hz
  have b0 : (n == 0) = false := by simpa using h0
  have b1 : (n == 1) = false := by simpa using h1
  have b2 : (n == 2) = false := by simpa using h2
  have b4 : (n == 4) = false := by simpa using h4
  have b6 : (n == 126) = false := by simpa using h6
  simp [manyE, Instr.findNow, Instr.sameNow, b0, b1, b2, b4, b6]
end Go.Proofs.YthalohloneojlaaGreatDoor
/- A transaction that has a kind alone: is it sound (tx.sound).  Printed by wip/genTxE.py -/
namespace Go.Proofs.YthalohloneojlaaGreatDoor
open Go.RowKit Go.Shelf
set_option linter.unusedVariables false
set_option linter.unusedSimpArgs false

set_option maxRecDepth 100000 in
set_option maxHeartbeats 4000000 in
theorem txSound_0 (w : World) : Calls Tryz.prog 93 #[.agg (txK 0)] w fun e w' => e = .returned (.bool true) ∧ w.grownBy w' none := by
  have hG := only_alloc (only_alloc (World.grownBy.refl w none) (.cells (txK 0) 91)) (.cells #[.func (.func 118) #[] #[]] 36)
  have hb1 := (Blk.new w 91 (txK 0)).alloc (.cells #[.func (.func 118) #[] #[]] 36)
  go_enter Tryz.func93, Tryz.ntmps93
  go_upto_region 4 with (fail)
  obtain ⟨g, hg⟩ : ∃ g, w.heap.size = g := ⟨_, rfl⟩
  rw [hg] at hb1 ⊢
  clear hg
  generalize (w.alloc (.cells (txK 0) 91)).alloc (.cells #[.func (.func 118) #[] #[]] 36) = w1 at *
  have c0 : w1.cell? ⟨g, 0, none⟩ = some (.int .i64 0) := hb1.cell 0
  have c1 : w1.cell? ⟨g, 1, none⟩ = some (.int .u64 0) := hb1.cell 1
  have c12 : w1.cell? ⟨g, 12, none⟩ = some (.string ⟨#[]⟩) := hb1.cell 12
  have c18 : w1.cell? ⟨g, 18, none⟩ = some (.slice none 0 0) := hb1.cell 18
  have c19 : w1.cell? ⟨g, 19, none⟩ = some (.slice none 0 0) := hb1.cell 19
  have c20 : w1.cell? ⟨g, 20, none⟩ = some (.int .u64 0) := hb1.cell 20
  have c29 : w1.cell? ⟨g, 29, none⟩ = some (.string ⟨#[]⟩) := hb1.cell 29
  have c30 : w1.cell? ⟨g, 30, none⟩ = some (.string ⟨#[]⟩) := hb1.cell 30
  have HG := Lib.hid hG
  clear hb1 hG
  go_wp2_with fail
  refine (accessContains_nil _ _).mono ?_
  rintro e w2 ⟨rfl, rfl⟩
  go_wp2_with fail
  refine (authContains_nil _ _).mono ?_
  rintro e w2 ⟨rfl, rfl⟩
  go_wp2_with fail
  go_ret
  exact ⟨rfl, HG.out⟩
set_option maxRecDepth 100000 in
set_option maxHeartbeats 4000000 in
theorem txSound_1 (w : World) : Calls Tryz.prog 93 #[.agg (txK 1)] w fun e w' => e = .returned (.bool true) ∧ w.grownBy w' none := by
  have hG := only_alloc (only_alloc (World.grownBy.refl w none) (.cells (txK 1) 91)) (.cells #[.func (.func 118) #[] #[]] 36)
  have hb1 := (Blk.new w 91 (txK 1)).alloc (.cells #[.func (.func 118) #[] #[]] 36)
  go_enter Tryz.func93, Tryz.ntmps93
  go_upto_region 4 with (fail)
  obtain ⟨g, hg⟩ : ∃ g, w.heap.size = g := ⟨_, rfl⟩
  rw [hg] at hb1 ⊢
  clear hg
  generalize (w.alloc (.cells (txK 1) 91)).alloc (.cells #[.func (.func 118) #[] #[]] 36) = w1 at *
  have c0 : w1.cell? ⟨g, 0, none⟩ = some (.int .i64 1) := hb1.cell 0
  have c1 : w1.cell? ⟨g, 1, none⟩ = some (.int .u64 0) := hb1.cell 1
  have c12 : w1.cell? ⟨g, 12, none⟩ = some (.string ⟨#[]⟩) := hb1.cell 12
  have c18 : w1.cell? ⟨g, 18, none⟩ = some (.slice none 0 0) := hb1.cell 18
  have c19 : w1.cell? ⟨g, 19, none⟩ = some (.slice none 0 0) := hb1.cell 19
  have c20 : w1.cell? ⟨g, 20, none⟩ = some (.int .u64 0) := hb1.cell 20
  have c29 : w1.cell? ⟨g, 29, none⟩ = some (.string ⟨#[]⟩) := hb1.cell 29
  have c30 : w1.cell? ⟨g, 30, none⟩ = some (.string ⟨#[]⟩) := hb1.cell 30
  have HG := Lib.hid hG
  clear hb1 hG
  go_wp2_with fail
  refine (accessContains_nil _ _).mono ?_
  rintro e w2 ⟨rfl, rfl⟩
  go_wp2_with fail
  refine (authContains_nil _ _).mono ?_
  rintro e w2 ⟨rfl, rfl⟩
  go_wp2_with fail
  go_ret
  exact ⟨rfl, HG.out⟩
set_option maxRecDepth 100000 in
set_option maxHeartbeats 4000000 in
theorem txSound_2 (w : World) : Calls Tryz.prog 93 #[.agg (txK 2)] w fun e w' => e = .returned (.bool true) ∧ w.grownBy w' none := by
  have hG := only_alloc (only_alloc (World.grownBy.refl w none) (.cells (txK 2) 91)) (.cells #[.func (.func 118) #[] #[]] 36)
  have hb1 := (Blk.new w 91 (txK 2)).alloc (.cells #[.func (.func 118) #[] #[]] 36)
  go_enter Tryz.func93, Tryz.ntmps93
  go_upto_region 4 with (fail)
  obtain ⟨g, hg⟩ : ∃ g, w.heap.size = g := ⟨_, rfl⟩
  rw [hg] at hb1 ⊢
  clear hg
  generalize (w.alloc (.cells (txK 2) 91)).alloc (.cells #[.func (.func 118) #[] #[]] 36) = w1 at *
  have c0 : w1.cell? ⟨g, 0, none⟩ = some (.int .i64 2) := hb1.cell 0
  have c1 : w1.cell? ⟨g, 1, none⟩ = some (.int .u64 0) := hb1.cell 1
  have c12 : w1.cell? ⟨g, 12, none⟩ = some (.string ⟨#[]⟩) := hb1.cell 12
  have c18 : w1.cell? ⟨g, 18, none⟩ = some (.slice none 0 0) := hb1.cell 18
  have c19 : w1.cell? ⟨g, 19, none⟩ = some (.slice none 0 0) := hb1.cell 19
  have c20 : w1.cell? ⟨g, 20, none⟩ = some (.int .u64 0) := hb1.cell 20
  have c29 : w1.cell? ⟨g, 29, none⟩ = some (.string ⟨#[]⟩) := hb1.cell 29
  have c30 : w1.cell? ⟨g, 30, none⟩ = some (.string ⟨#[]⟩) := hb1.cell 30
  have HG := Lib.hid hG
  clear hb1 hG
  go_wp2_with fail
  refine (accessContains_nil _ _).mono ?_
  rintro e w2 ⟨rfl, rfl⟩
  go_wp2_with fail
  refine (authContains_nil _ _).mono ?_
  rintro e w2 ⟨rfl, rfl⟩
  go_wp2_with fail
  go_ret
  exact ⟨rfl, HG.out⟩
set_option maxRecDepth 100000 in
set_option maxHeartbeats 4000000 in
theorem txSound_4 (w : World) : Calls Tryz.prog 93 #[.agg (txK 4)] w fun e w' => e = .returned (.bool false) ∧ w.grownBy w' none := by
  have hG := only_alloc (only_alloc (World.grownBy.refl w none) (.cells (txK 4) 91)) (.cells #[.func (.func 118) #[] #[]] 36)
  have hb1 := (Blk.new w 91 (txK 4)).alloc (.cells #[.func (.func 118) #[] #[]] 36)
  go_enter Tryz.func93, Tryz.ntmps93
  go_upto_region 4 with (fail)
  obtain ⟨g, hg⟩ : ∃ g, w.heap.size = g := ⟨_, rfl⟩
  rw [hg] at hb1 ⊢
  clear hg
  generalize (w.alloc (.cells (txK 4) 91)).alloc (.cells #[.func (.func 118) #[] #[]] 36) = w1 at *
  have c0 : w1.cell? ⟨g, 0, none⟩ = some (.int .i64 4) := hb1.cell 0
  have c1 : w1.cell? ⟨g, 1, none⟩ = some (.int .u64 0) := hb1.cell 1
  have c12 : w1.cell? ⟨g, 12, none⟩ = some (.string ⟨#[]⟩) := hb1.cell 12
  have c18 : w1.cell? ⟨g, 18, none⟩ = some (.slice none 0 0) := hb1.cell 18
  have c19 : w1.cell? ⟨g, 19, none⟩ = some (.slice none 0 0) := hb1.cell 19
  have c20 : w1.cell? ⟨g, 20, none⟩ = some (.int .u64 0) := hb1.cell 20
  have c29 : w1.cell? ⟨g, 29, none⟩ = some (.string ⟨#[]⟩) := hb1.cell 29
  have c30 : w1.cell? ⟨g, 30, none⟩ = some (.string ⟨#[]⟩) := hb1.cell 30
  have HG := Lib.hid hG
  clear hb1 hG
  go_wp2_with fail
  refine (accessContains_nil _ _).mono ?_
  rintro e w2 ⟨rfl, rfl⟩
  go_wp2_with fail
  refine (authContains_nil _ _).mono ?_
  rintro e w2 ⟨rfl, rfl⟩
  go_wp2_with fail
  go_ret
  exact ⟨rfl, HG.out⟩
set_option maxRecDepth 100000 in
set_option maxHeartbeats 4000000 in
theorem txSound_126 (w : World) : Calls Tryz.prog 93 #[.agg (txK 126)] w fun e w' => e = .returned (.bool false) ∧ w.grownBy w' none := by
  have hG := only_alloc (only_alloc (World.grownBy.refl w none) (.cells (txK 126) 91)) (.cells #[.func (.func 118) #[] #[]] 36)
  have hb1 := (Blk.new w 91 (txK 126)).alloc (.cells #[.func (.func 118) #[] #[]] 36)
  go_enter Tryz.func93, Tryz.ntmps93
  go_upto_region 4 with (fail)
  obtain ⟨g, hg⟩ : ∃ g, w.heap.size = g := ⟨_, rfl⟩
  rw [hg] at hb1 ⊢
  clear hg
  generalize (w.alloc (.cells (txK 126) 91)).alloc (.cells #[.func (.func 118) #[] #[]] 36) = w1 at *
  have c0 : w1.cell? ⟨g, 0, none⟩ = some (.int .i64 126) := hb1.cell 0
  have c1 : w1.cell? ⟨g, 1, none⟩ = some (.int .u64 0) := hb1.cell 1
  have c12 : w1.cell? ⟨g, 12, none⟩ = some (.string ⟨#[]⟩) := hb1.cell 12
  have c18 : w1.cell? ⟨g, 18, none⟩ = some (.slice none 0 0) := hb1.cell 18
  have c19 : w1.cell? ⟨g, 19, none⟩ = some (.slice none 0 0) := hb1.cell 19
  have c20 : w1.cell? ⟨g, 20, none⟩ = some (.int .u64 0) := hb1.cell 20
  have c29 : w1.cell? ⟨g, 29, none⟩ = some (.string ⟨#[]⟩) := hb1.cell 29
  have c30 : w1.cell? ⟨g, 30, none⟩ = some (.string ⟨#[]⟩) := hb1.cell 30
  have HG := Lib.hid hG
  clear hb1 hG
  go_wp2_with fail
  refine (accessContains_nil _ _).mono ?_
  rintro e w2 ⟨rfl, rfl⟩
  go_wp2_with fail
  refine (authContains_nil _ _).mono ?_
  rintro e w2 ⟨rfl, rfl⟩
  go_wp2_with fail
  go_ret
  exact ⟨rfl, HG.out⟩
theorem txSound_any (n : Int) (h : isKind n = true) (w : World) : Calls Tryz.prog 93 #[.agg (txK n)] w fun e w' => e = .returned (.bool (decide (n = 0 ∨ n = 1 ∨ n = 2))) ∧ w.grownBy w' none := by
  rcases of_decide_eq_true h with rfl | rfl | rfl | rfl | rfl
  · exact txSound_0 w
  · exact txSound_1 w
  · exact txSound_2 w
  · exact txSound_4 w
  · exact txSound_126 w
theorem txNamed_any (n : Int) (h : isKind n = true) (w : World) : Calls Tryz.prog 92 #[.agg (txK n)] w fun e w' => e = .returned (.agg (txK n)) ∧ w.grownBy w' none := by
  rcases of_decide_eq_true h with rfl | rfl | rfl | rfl | rfl
  · exact txNamed_0 w
  · exact txNamed_1 w
  · exact txNamed_2 w
  · exact txNamed_4 w
  · exact txNamed_126 w
end Go.Proofs.YthalohloneojlaaGreatDoor
/- Is there such a kind of transactions (receipt.kind): tx.Check of one that has a kind alone. -/
namespace Go.Proofs.YthalohloneojlaaGreatDoor
open Go.RowKit Go.Shelf
set_option linter.unusedVariables false
set_option linter.unusedSimpArgs false

theorem exec_call0 {P : Program} {a : Act} {o : Oper} {W : World} (f : FuncId) (ho : o.op = .call { callee := .value (.func f), args := #[], argTypes := #[] }) (hf : (callFunc f #[]).run P W = .ok (.enter f #[]) W) : (execOp a.eval o).run P W = .ok (.enter f #[]) W := by
  have he : a.eval (.func f) = .func (.func f) #[] #[] := rfl
  unfold execOp
  generalize a.eval = ev at *
  simp only [ho]
  simp [resolve, invoke, go_sem, he, hf]
theorem exec_lookup {P : Program} {a : Act} {o : Oper} {W : World} {v : Value} (t : TypeId) (x y : Operand) (ho : o.op = .lookup t x y false) (m k : Value) (hx : a.eval x = m) (hy : a.eval y = k) (h : (Instr.lookup t m k false).run P W = .ok v W) : (execOp a.eval o).run P W = .ok (.value v) W := by
  unfold execOp
  generalize a.eval = ev at *
  simp only [ho]
  simp [go_sem, hx, hy, h]
set_option maxRecDepth 100000 in
set_option maxHeartbeats 4000000 in
theorem txCheck_any (n : Int) (w : World) : Calls Tryz.prog 57 #[.agg (txK n)] w fun e w' => (∃ E : Int, e = .returned (.int .i64 E) ∧ (E = 9 ↔ isKind n = false)) ∧ w.grownBy w' none := by
  have hG := only_alloc (World.grownBy.refl w none) (.cells (txK n) 91)
  have hb1 := Blk.new w 91 (txK n)
  have HM := Lib.hid (manyF_0 n)
  have HNA := Lib.hid (fun h V => txNamed_any n h V); have HSO := Lib.hid (fun h V => txSound_any n h V); have HSA := Lib.hid (fun V => txSame_any n V)
  go_enter Tryz.func57, Tryz.ntmps57
  go_upto_region 1 with (fail)
  obtain ⟨g, hg⟩ : ∃ g, w.heap.size = g := ⟨_, rfl⟩
  rw [hg] at hb1 ⊢
  clear hg
  generalize w.alloc (.cells (txK n) 91) = w1 at *
  have HB1 := Lib.hid hb1; have HG := Lib.hid hG
  clear hb1 hG
  go_upto_region 2 with (fail)
  have hl := HB1.out.lt
  have hr0 : ∀ V, Below w1.heap.size w1 V → V.cell? ⟨g, 0, none⟩ = some (.int .i64 n) := fun V hV => (hV.cell (p := ⟨g, 0, none⟩) hl).trans (HB1.out.cell 0)
  refine wp_region_held (S := fun W => Below w1.heap.size w1 W) (by kernel_rfl) ?_
  change wpAnyH _ _ _ _ _ _ _ _ w1.drew
  have hS : Below w1.heap.size w1 w1.drew := ⟨rfl, rfl, rfl, Nat.le_refl _, fun _ _ => rfl⟩
  generalize w1.drew = u0 at *
  refine held_take (i := 1) (v := .pointer (some ⟨g, 0, none⟩)) (some 6) rfl (by kernel_rfl) (by kernel_rfl) (by kernel_rfl) (fun _ _ _ h => h) rfl (Or.inl ⟨by rfl, fun W hW => by go_simp⟩) hS ?_
  simp only [Act.put, List.setIfInBounds_toArray, List.set_cons_zero, List.set_cons_succ]
  refine held_take (i := 2) (v := .int .i64 n) (some 7) rfl (by kernel_rfl) (by kernel_rfl) (by kernel_rfl) (fun _ _ _ h => h) rfl (Or.inl ⟨by rfl, fun W hW => by have q := hr0 W hW; go_simp⟩) hS ?_
  simp only [Act.put, List.setIfInBounds_toArray, List.set_cons_zero, List.set_cons_succ]
  refine held_one (i := 0) (by kernel_rfl) ?_
  refine held_enter (some 5) rfl rfl 90 #[] (exec_call0 _ rfl (enters_of Tryz.func90 (by kernel_rfl) rfl _ _)) rfl ((txMany_any u0).mono ?_)
  rintro e u1 ⟨rfl, hmap, hg⟩
  replace hS : Below w1.heap.size w1 u1 := hS.trans ((below_of_grown hg).mono hS.size)
  refine ⟨_, rfl, hS, ?_⟩
  simp only [Act.put, List.setIfInBounds_toArray, List.set_cons_zero, List.set_cons_succ]
  refine held_one (i := 3) (by kernel_rfl) ?_
  refine held_value (some 8) rfl rfl (.int .i64 (manyF n)) (exec_lookup _ (.tmp 5) (.tmp 7) rfl _ _ rfl rfl (lookMany n _ u1 hmap)) rfl hS ?_
  simp only [Act.put, List.setIfInBounds_toArray, List.set_cons_zero, List.set_cons_succ]
  obtain ⟨m, hm⟩ : ∃ m, manyF n = m := ⟨_, rfl⟩
  rw [hm] at HM ⊢
  refine held_one (i := 4) (by kernel_rfl) ?_
  refine held_value (some 9) rfl rfl (.bool (m == 0)) (by go_simp <;> rfl) rfl hS ?_
  simp only [Act.put, List.setIfInBounds_toArray, List.set_cons_zero, List.set_cons_succ]
  refine held_one (i := 5) (by kernel_rfl) ?_
  refine held_value (some 4) rfl rfl (.bool (m == 0)) (by go_simp <;> rfl) rfl hS ?_
  simp only [Act.put, List.setIfInBounds_toArray, List.set_cons_zero, List.set_cons_succ]
  refine wpAnyH_done (by kernel_rfl) ?_ _
  have HG := Lib.hid (grown_self HG.out (grown_of_below hS) (by simp))
  have HB := Lib.hid (HB1.out.below hS hl)
  clear hS hg hmap hr0 hl HB1 hm
  cases hk : isKind n with
  | false =>
    have h0 := HM.out.2 hk
    subst h0
    have HK := Lib.hid hk
    clear hk
    go_wp2_with fail
    go_ret
    exact ⟨⟨9, rfl, ⟨fun _ => HK.out, fun _ => rfl⟩⟩, HG.out⟩
  | true =>
    have h0 : ¬ m = 0 := fun e => by have := HM.out.1 e; rw [hk] at this; cases this
    have e1 : (m == 0) = false := by simpa using h0
    have HNA := Lib.hid (HNA.out hk); have HSO := Lib.hid (HSO.out hk)
    have HK := Lib.hid hk
    clear hk h0
    go_upto_region 4 with (fail)
    have l1 := HB.out.lt
    have hC0 : (fun V => Below u1.heap.size u1 V) u1.drew := ⟨rfl, rfl, rfl, Nat.le_refl _, fun _ _ => rfl⟩
    refine wp_region_class (fun V => Below u1.heap.size u1 V) (by kernel_rfl) (by kernel_rfl) hC0 ?_
    have hcc := class_const hC0
    (try simp only [Act.put])
    (repeat go_big_quiet_step (fail))
    refine wpQuiet_value rfl (.agg (txK n)) (fun V hV => exec_load_rowT rfl rfl 91 (txK n) _ (HB.out.below hV l1) Tryz.underlying91 rfl (by kernel_rfl)) ?_
    simp only [Act.put, List.setIfInBounds_toArray, List.set_cons_zero, List.set_cons_succ]
    (repeat go_big_quiet_step (fail))
    refine wpQuiet_value rfl (.agg (txK n)) (fun V hV => exec_load_rowT rfl rfl 91 (txK n) _ (HB.out.below hV l1) Tryz.underlying91 rfl (by kernel_rfl)) ?_
    simp only [Act.put, List.setIfInBounds_toArray, List.set_cons_zero, List.set_cons_succ]
    (repeat go_big_quiet_step (fail))
    refine quiet_callW (.agg (txK n)) 92 #[.agg (txK n)] rfl (fun V => exec_call1 _ (.tmp 12) _ rfl _ rfl (enters_of Tryz.func92 (by kernel_rfl) rfl _ _)) (fun V hV => HNA.out V) ?_
    simp only [Act.put, List.setIfInBounds_toArray, List.set_cons_zero, List.set_cons_succ]
    (repeat go_big_quiet_step (fail))
    refine quiet_callW (.bool true) 91 #[.agg (txK n), .agg (txK n)] rfl (fun V => exec_call2 _ (.tmp 11) (.tmp 13) _ rfl _ _ rfl rfl (enters_of Tryz.func91 (by kernel_rfl) rfl _ _)) (fun V hV => HSA.out V) ?_
    simp only [Act.put, List.setIfInBounds_toArray, List.set_cons_zero, List.set_cons_succ]
    (repeat go_big_quiet_step (fail))
    refine wpQuiet_value rfl (.agg (txK n)) (fun V hV => exec_load_rowT rfl rfl 91 (txK n) _ (HB.out.below hV l1) Tryz.underlying91 rfl (by kernel_rfl)) ?_
    simp only [Act.put, List.setIfInBounds_toArray, List.set_cons_zero, List.set_cons_succ]
    (repeat go_big_quiet_step (fail))
    obtain ⟨sd, hsd⟩ : ∃ sd, decide (n = 0 ∨ n = 1 ∨ n = 2) = sd := ⟨_, rfl⟩
    rw [hsd] at HSO
    refine quiet_callW (.bool sd) 93 #[.agg (txK n)] rfl (fun V => exec_call1 _ (.tmp 17) _ rfl _ rfl (enters_of Tryz.func93 (by kernel_rfl) rfl _ _)) (fun V hV => HSO.out V) ?_
    simp only [Act.put, List.setIfInBounds_toArray, List.set_cons_zero, List.set_cons_succ]
    (repeat go_big_quiet_step (fail))
    refine wpQuiet_nil ?_
    intro w3 hw3
    have HG := Lib.hid (grown_self HG.out (grown_of_below hw3) (by simp))
    have hb := HB.out.below hw3 l1
    have c17 : w3.cell? ⟨g, 17, none⟩ = some (.string ⟨#[]⟩) := hb.cell 17
    have c18 : w3.cell? ⟨g, 18, none⟩ = some (.slice none 0 0) := hb.cell 18
    have c19 : w3.cell? ⟨g, 19, none⟩ = some (.slice none 0 0) := hb.cell 19
    clear hcc hC0 hw3 l1 hsd hb
    cases sd with
    | false =>
      go_wp2_with fail
      go_ret
      exact ⟨⟨2, rfl, ⟨fun h => absurd h (by decide), fun h => by rw [HK.out] at h; cases h⟩⟩, HG.out⟩
    | true =>
      go_wp2_with fail
      refine (accessContains_nil _ _).mono ?_
      rintro e w4 ⟨rfl, rfl⟩
      go_wp2_with fail
      go_ret
      exact ⟨⟨0, rfl, ⟨fun h => absurd h (by decide), fun h => by rw [HK.out] at h; cases h⟩⟩, HG.out⟩
theorem kind_any (n : Int) (w : World) : Calls Tryz.prog 34 #[.int .i64 n] w fun e w' => e = .returned (.bool (isKind n)) ∧ w.grownBy w' none := by
  have HC := Lib.hid (fun V => txCheck_any n V)
  go_enter Tryz.func34, Tryz.ntmps34
  go_wp2_with fail
  refine (HC.out _).mono ?_
  rintro e w2 ⟨⟨E, rfl, hE⟩, hg⟩
  have HE := Lib.hid hE; have HG := Lib.hid hg
  clear hE hg
  by_cases h : E = 9
  · subst h
    go_wp2_with fail
    go_ret
    exact ⟨by rw [show isKind n = false from (by first | exact HE.out.1 rfl | exact HE.out.1 trivial)]; rfl, HG.out⟩
  · have e1 : (E != 9) = true := by simpa using h
    have hk : isKind n = true := by cases hh : isKind n with | true => rfl | false => exact absurd (HE.out.2 hh) h
    have HK := Lib.hid hk
    clear h hk
    go_wp2_with fail
    go_ret
    exact ⟨by rw [HK.out]; rfl, HG.out⟩
end Go.Proofs.YthalohloneojlaaGreatDoor
