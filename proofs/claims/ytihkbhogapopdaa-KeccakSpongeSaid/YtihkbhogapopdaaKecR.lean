/- The document's Sum: what it answers. -/
import Derived.Test.YtihkbhogapopdaaKecQ
namespace Go.Proofs.Ytihkbhogapopdaa
open Go.RowKit Go.Shelf

theorem lanes_zero' (W : World) : Lanes (W.alloc (.cells #[.int .u64 0, .int .u64 0, .int .u64 0, .int .u64 0, .int .u64 0, .int .u64 0, .int .u64 0, .int .u64 0, .int .u64 0, .int .u64 0, .int .u64 0, .int .u64 0, .int .u64 0, .int .u64 0, .int .u64 0, .int .u64 0, .int .u64 0, .int .u64 0, .int .u64 0, .int .u64 0, .int .u64 0, .int .u64 0, .int .u64 0, .int .u64 0, .int .u64 0] 23)) W.heap.size 23 (List.replicate 25 0) := Blk.new W _ _
theorem refPermute_any (a : List (BitVec 64)) (ha : a.length = 25) (w : World) :
    Calls Try.prog 9 #[.agg (a.map u64v).toArray] w fun e w' => e = .returned (.agg ((permuteK a).map u64v).toArray) ∧ w.grownBy w' none := by
  rw [← permute_one a ha]
  exact permuteR_any a ha w
theorem wrap_u (k : Nat) (h : k < 64) : IntKind.u64.wrap (k : Int) = (k : Int) := by
  simp [IntKind.wrap, IntKind.bits, IntKind.signed]
  omega
theorem idx_str (s : ByteArray) (i : Nat) (c : UInt8) (h : s.data.toList[i]? = some c) (w : World) : (Instr.index 9 (.string s) (.int .i64 (i : Int))).run Try.prog w = .ok (.int .u8 (c.toNat : Int)) w := by
  have hi : i < s.data.size := by
    obtain ⟨hi, _⟩ := List.getElem?_eq_some_iff.1 h
    simpa using hi
  have hc : s.data[i] = c := by
    rw [List.getElem?_eq_getElem (by simpa using hi)] at h
    injection h with h
  have hs : i < s.size := hi
  have := run_index_string (P := Try.prog) (w := w) 9 s .i64 (i : Int) (by kernel_rfl)
  rw [this, dif_pos ⟨by omega, by omega⟩]
  simp only [Int.toNat_natCast]
  rw [← hc]
  rfl

set_option maxRecDepth 100000 in
set_option maxHeartbeats 2000000 in
theorem refSum_any (s : ByteArray) (hs : s.size ≤ 1000000) (w : World) :
    Calls Try.prog 11 #[.string s] w fun e w' => e = .returned (.string ⟨(sumL s.data.toList).toArray⟩) ∧ w.grownBy w' none := by
  have hsl : s.data.toList.length = s.size := Array.length_toList
  obtain ⟨K, hK, hK1, hK2⟩ := padded_len s.data.toList
  obtain ⟨pb, hpb⟩ : ∃ p : ByteArray, (⟨(padL (136 - s.size % 136)).toArray⟩ : ByteArray) = p := ⟨_, rfl⟩
  obtain ⟨tb, htb⟩ : ∃ t : ByteArray, s ++ pb = t := ⟨_, rfl⟩
  have htl : tb.data.toList = padded s.data.toList := by
    rw [← htb, ba_toList, ← hpb]
    unfold padded
    rw [hsl]
  have hts : tb.size = 136 * K := by
    have : tb.size = tb.data.toList.length := Array.length_toList.symm
    rw [this, htl, hK]
  have hK3 : K ≤ 10000 := by omega
  have hT5 : tb.size ≤ 1360000 := by omega
  have hpad := padR_any s.size (by omega) w
  rw [hpb] at hpad
  have HTL := Lib.hid htl; have HTS := Lib.hid hts; have HK := Lib.hid hK; have HPB := Lib.hid hpb; have HSL := Lib.hid hsl
  have hsz : pb.size ≤ 136 := by
    rw [← hpb]
    show (padL (136 - s.size % 136)).toArray.size ≤ 136
    rw [List.size_toArray, padL_len _ (by omega)]
    omega
  clear htl hts hK hpb hsl
  go_enter Try.func11, Try.ntmps11
  go_wp2_with fail
  refine hpad.mono ?_
  rintro e w1 ⟨rfl, hg1⟩
  have hS0 := lanes_zero' w1
  have hG2 : w.grownBy (w1.alloc (.cells #[.int .u64 0, .int .u64 0, .int .u64 0, .int .u64 0, .int .u64 0, .int .u64 0, .int .u64 0, .int .u64 0, .int .u64 0, .int .u64 0, .int .u64 0, .int .u64 0, .int .u64 0, .int .u64 0, .int .u64 0, .int .u64 0, .int .u64 0, .int .u64 0, .int .u64 0, .int .u64 0, .int .u64 0, .int .u64 0, .int .u64 0, .int .u64 0, .int .u64 0] 23)) none := only_alloc (grown_self (World.grownBy.refl _ _) hg1 (by simp)) _
  have hZ2 : (w1.alloc (.cells #[.int .u64 0, .int .u64 0, .int .u64 0, .int .u64 0, .int .u64 0, .int .u64 0, .int .u64 0, .int .u64 0, .int .u64 0, .int .u64 0, .int .u64 0, .int .u64 0, .int .u64 0, .int .u64 0, .int .u64 0, .int .u64 0, .int .u64 0, .int .u64 0, .int .u64 0, .int .u64 0, .int .u64 0, .int .u64 0, .int .u64 0, .int .u64 0, .int .u64 0] 23)).heap.size = w1.heap.size + 1 := by simp
  have hw1 := hg1.size
  go_wp2_with fail
  generalize w1.alloc (.cells #[.int .u64 0, .int .u64 0, .int .u64 0, .int .u64 0, .int .u64 0, .int .u64 0, .int .u64 0, .int .u64 0, .int .u64 0, .int .u64 0, .int .u64 0, .int .u64 0, .int .u64 0, .int .u64 0, .int .u64 0, .int .u64 0, .int .u64 0, .int .u64 0, .int .u64 0, .int .u64 0, .int .u64 0, .int .u64 0, .int .u64 0, .int .u64 0, .int .u64 0] 23) = w2 at *
  generalize hb : w1.heap.size = b at *
  have hbz : b < w2.heap.size := by omega
  clear hg1 hb hZ2
  go_loopw [7] (fun i W => ∃ k o : Nat, i = .int .i64 (o : Int) ∧ Hid (o = 136 * k) ∧ k ≤ K ∧ Lanes W b 23 (sponge tb.data.toList k) ∧ w.grownBy W none) (fun i _ => tb.size + 136 - (intOf i).toNat)
  case atStart => exact ⟨0, 0, rfl, rfl, by omega, hS0, hG2⟩
  case round =>
    clear hS0 hG2
    obtain ⟨k, o, rfl, ho, hk, hL, hG⟩ := hrel
    obtain ⟨W0, rfl⟩ : ∃ W0 : World, W0 = wr := ⟨_, rfl⟩
    by_cases hlt : k < K
    · have hoT : o + 136 ≤ tb.size := by have := HTS.out; have := ho.out; omega
      obtain ⟨a0, ha0⟩ : ∃ a, sponge tb.data.toList k = a := ⟨_, rfl⟩
      have ha0l : a0.length = 25 := by rw [← ha0]; exact sponge_len _ _
      rw [ha0] at hL
      have HA0 := Lib.hid ha0
      clear ha0
      have d0 : decide ((o : Int) < (tb.size : Int)) = true := by simp; omega
      have d0' : decide (o < tb.size) = true := by simp; omega
      have hbW : b < W0.heap.size := hL.lt
      go_wp2_with fail
      go_loopw [8] (fun i wr => ∃ m : Nat, i = .int .i64 (m : Int) ∧ m ≤ 136 ∧ Lanes wr b 23 (absorb tb.data.toList o m a0) ∧ W0.grownBy wr (some b)) (fun i _ => 136 - (intOf i).toNat)
      case atStart => exact ⟨0, rfl, by omega, hL, World.grownBy.refl _ _⟩
      case round =>
        obtain ⟨m, rfl, hm, hLm, hg⟩ := hrel
        by_cases hltm : m < 136
        · obtain ⟨a1, ha1⟩ : ∃ a, absorb tb.data.toList o m a0 = a := ⟨_, rfl⟩
          have ha1l : a1.length = 25 := by rw [← ha1, absorb_len]; exact ha0l
          rw [ha1] at hLm
          have hlen : tb.data.toList.length = tb.size := Array.length_toList
          obtain ⟨c, hc⟩ : ∃ c, tb.data.toList[o + m]? = some c := ⟨_, List.getElem?_eq_getElem (by omega)⟩
          have hcl : tb.data.toList.getD (o + m) 0 = c := by
            rw [List.getD_eq_getElem?_getD, hc]; rfl
          obtain ⟨om, hom⟩ : ∃ om, o + m = om := ⟨_, rfl⟩
          rw [hom] at hc
          have hidx := idx_str tb om c hc
          obtain ⟨q, hq⟩ : ∃ q, m / 8 = q := ⟨_, rfl⟩
          obtain ⟨r8, hr8⟩ : ∃ r, m % 8 = r := ⟨_, rfl⟩
          obtain ⟨r, hr⟩ : ∃ r, r8 * 8 = r := ⟨_, rfl⟩
          obtain ⟨v, hv⟩ : ∃ v, a1.getD q 0 = v := ⟨_, rfl⟩
          obtain ⟨y, hy⟩ : ∃ y, BitVec.ofNat 64 c.toNat <<< r = y := ⟨_, rfl⟩
          obtain ⟨z, hz⟩ : ∃ z, v ^^^ y = z := ⟨_, rfl⟩
          have hst : absorb tb.data.toList o (m + 1) a0 = a1.set q z := by
            rw [absorb_succ, ha1]
            unfold absStep
            rw [hcl, hq, hr8, hr, hv, hy, hz]
          have f2 := hLm.cell (i := q) (by omega)
          have f3 := hLm.frozen q
          rw [hv] at f2
          have p1 : (m : Int).tdiv 8 = (q : Int) := by rw [Int.tdiv_eq_ediv_of_nonneg (by omega)]; omega
          have p2 : IntKind.i64.wrap (q : Int) = (q : Int) := IntWalk.i64_in _ (by omega)
          have p3 : (m : Int).tmod 8 = (r8 : Int) := by rw [Int.tmod_eq_emod_of_nonneg (by omega)]; omega
          have p4 : IntKind.i64.wrap ((r8 : Int) * 8) = (r : Int) := by rw [IntWalk.i64_in _ (by omega)]; omega
          have p5 := wrap_byte c
          have p6 := bshl c r y hy
          have p7 := bx_is v y z hz
          have p8 := wrap_u r (by omega)
          have p9 : IntKind.i64.wrap ((o : Int) + (m : Int)) = (om : Int) := by rw [IntWalk.i64_in _ (by omega)]; omega
          have q1 : (q : Int) < 25 := by omega
          have q2 : (m : Int) < 136 := by omega
          have q3 : r < 64 := by omega
          have d1 : decide ((m : Int) < 136) = true := by simp; omega
          have d2 : decide (m < 136) = true := by simp; omega
          have HS := Lib.hid hst
          clear ha1 hcl hq hr8 hr hv hy hz hst hlen hc hom
          go_wp2_with fail
          go_still_tail 19, (by kernel_rfl)
          clear p1 p2 p3 p4 p5 p6 p7 p8 p9
          repeat go_step
          go_roundw
          case rel => exact ⟨m + 1, by simp, by omega, by rw [HS.out]; exact (hLm.set q z).drew, only_drew (only_setCell hg (.inl rfl) _)⟩
          case measure => simp [intOf]; omega
        · have e136 : absorb tb.data.toList o m a0 = absorb tb.data.toList o 136 a0 := by rw [show m = 136 by omega]
          have hfin : decide ((m : Int) < 136) = false := by simp; omega
          obtain ⟨a1, ha1⟩ : ∃ a, absorb tb.data.toList o 136 a0 = a := ⟨_, rfl⟩
          have ha1l : a1.length = 25 := by rw [← ha1, absorb_len]; exact ha0l
          rw [e136, ha1] at hLm
          have HA1 := Lib.hid ha1
          obtain ⟨cs, hcs⟩ : ∃ cs, (a1.map u64v).toArray = cs := ⟨_, rfl⟩
          have hcp := refPermute_any a1 ha1l wr
          have hB1 : Blk wr b 23 cs := by rw [← hcs]; exact hLm
          have hcsz : cs.size = 25 := by rw [← hcs]; simpa using ha1l
          rw [hcs] at hcp
          obtain ⟨a2, ha2⟩ : ∃ a, permuteK a1 = a := ⟨_, rfl⟩
          have ha2l : a2.length = 25 := by rw [← ha2, permute_len]; exact ha1l
          rw [ha2] at hcp
          have HA2 := Lib.hid ha2
          obtain ⟨cs2, hcs2⟩ : ∃ cs, (a2.map u64v).toArray = cs := ⟨_, rfl⟩
          have hcs2z : cs2.size = 25 := by rw [← hcs2]; simpa using ha2l
          have hone : cs2.all (·.oneCell') = true := by rw [← hcs2]; simp [u64v, Value.oneCell']
          rw [hcs2] at hcp
          have HC2 := Lib.hid hcs2
          clear ha1 hcs e136 ha2 hcs2
          repeat (first | refine wpList_load_row rfl 23 (.tmp 6) rfl b rfl 23 cs _ (.array 25 22) hB1 (by kernel_rfl) (by kernel_rfl) (by rw [hcsz]; kernel_rfl) (veiled ?_) | go_step)
          refine ⟨?_⟩
          refine wpList_step fun K hK => ?_
          go_simp
          refine hcp.mono ?_
          rintro e w5 ⟨rfl, hg5⟩
          go_simp
          refine hK _ _ ?_
          clear hK K
          have hB5 : Blk w5 b 23 cs := hB1.grown hg5 (by simp)
          refine wpList_store_mid rfl 23 _ _ rfl b 0 cs2 rfl rfl (there_blk' hB5 (hcs2z.trans hcsz.symm)) (by rw [hcs2z]; kernel_rfl) hone ?_
          refine wpList_nil ?_
          have hB6 := hB5.setAll (cs' := cs2) (hcs2z.trans hcsz.symm)
          have hg6 : W0.grownBy (w5.setCells b 0 cs2.toList) (some b) := only_setCells (.inl rfl) _ _ _ (grown_self hg hg5 (by simp))
          have hS6 : Lanes (w5.setCells b 0 cs2.toList) b 23 (sponge tb.data.toList (k + 1)) := by
            rw [sponge, HA0.out, ← ho.out, HA1.out, HA2.out]
            unfold Lanes
            rw [HC2.out]
            exact hB6
          have hG6 := grown_self hG hg6 (fun k e => .inr (by cases e; omega))
          generalize w5.setCells b 0 cs2.toList = w6 at *
          have p1 : IntKind.i64.wrap ((o : Int) + 136) = ((o + 136 : Nat) : Int) := by rw [IntWalk.i64_in _ (by omega)]; omega
          clear hcp
          go_wp2_with fail
          go_roundw
          case rel => exact ⟨k + 1, o + 136, by simp, by show o + 136 = 136 * (k + 1); have := ho.out; omega, by omega, hS6, hG6⟩
          case measure => simp [intOf]; omega
    · have hk2 : k = K := by omega
      rw [hk2] at hL ho
      have d0 : decide ((o : Int) < (tb.size : Int)) = false := by have := HTS.out; have := ho.out; simp; omega
      have d0' : decide (o < tb.size) = false := by have := HTS.out; have := ho.out; simp; omega
      obtain ⟨a, ha⟩ : ∃ a, sponge tb.data.toList K = a := ⟨_, rfl⟩
      have hal : a.length = 25 := by rw [← ha]; exact sponge_len _ _
      have hsum : sumL s.data.toList = squeeze a := by
        unfold sumL
        have h1 := HTL.out
        rw [← h1, ← ha]
        congr 2
        rw [h1, HK.out]
        omega
      rw [ha] at hL
      have HSUM := Lib.hid hsum
      clear ha hsum
      have hbW : b < W0.heap.size := hL.lt
      obtain ⟨i0, z0, hi, hz0, hz1, hz2, hz3⟩ := byte_info
      go_wp2_with fail
      go_loopw [9, 10] (fun v i wr => ∃ m : Nat, i = .int .i64 (m : Int) ∧ m ≤ 32 ∧ wr.ownsRow W0.heap.size 5 1 v m (u8s ((List.range m).map (squeezeAt a))) ∧ Lanes wr b 23 a ∧ w.grownBy wr none ∧ W0.heap.size ≤ wr.heap.size) (fun _ i _ => 32 - (intOf i).toNat)
      case atStart => exact ⟨0, rfl, by omega, World.ownsRow_nil _ _ _ _, hL, hG, Nat.le_refl _⟩
      case round =>
        have hG' := hG
        clear hL hG
        obtain ⟨m, rfl, hm, hO, hL, hG, hsz2⟩ := hrel
        by_cases hltm : m < 32
        · obtain ⟨q, hq⟩ : ∃ q, m / 8 = q := ⟨_, rfl⟩
          obtain ⟨r8, hr8⟩ : ∃ r, m % 8 = r := ⟨_, rfl⟩
          obtain ⟨r, hr⟩ : ∃ r, r8 * 8 = r := ⟨_, rfl⟩
          obtain ⟨v, hv⟩ : ∃ v, a.getD q 0 = v := ⟨_, rfl⟩
          obtain ⟨z, hz⟩ : ∃ z, squeezeAt a m = z := ⟨_, rfl⟩
          have hzz : z = UInt8.ofNat ((v >>> r).toNat % 256) := by
            rw [← hz]
            unfold squeezeAt
            rw [hq, hr8, hr, hv]
          have hst : u8s ((List.range (m + 1)).map (squeezeAt a)) = u8s ((List.range m).map (squeezeAt a)) ++ [.int .u8 (z.toNat : Int)] := by
            rw [← hz, List.range_succ, List.map_append]; simp [u8s]
          have f2 := hL.cell (i := q) (by omega)
          rw [hv] at f2
          have p1 : (m : Int).tdiv 8 = (q : Int) := by rw [Int.tdiv_eq_ediv_of_nonneg (by omega)]; omega
          have p2 : IntKind.i64.wrap (q : Int) = (q : Int) := IntWalk.i64_in _ (by omega)
          have p3 : (m : Int).tmod 8 = (r8 : Int) := by rw [Int.tmod_eq_emod_of_nonneg (by omega)]; omega
          have p4 : IntKind.i64.wrap ((r8 : Int) * 8) = (r : Int) := by rw [IntWalk.i64_in _ (by omega)]; omega
          have p5 : ((v.toNat : Int) / 2 ^ r).tmod 256 = (z.toNat : Int) := by
            rw [show (v.toNat : Int) / 2 ^ r = ((v >>> r).toNat : Int) by rw [BitVec.toNat_ushiftRight, Nat.shiftRight_eq_div_pow]; simp, Int.tmod_eq_emod_of_nonneg (by omega), hzz]
            simp
          have p6 : (z.toNat : Int) % 256 = (z.toNat : Int) := by have := z.toNat_lt; omega
          have p7 : IntKind.u8.wrap (z.toNat : Int) = (z.toNat : Int) := by have := z.toNat_lt; simp [IntKind.wrap, IntKind.bits, IntKind.signed]; omega
          have p8 := wrap_u r (by omega)
          have q1 : (q : Int) < 25 := by omega
          have q2 : (m : Int) < 32 := by omega
          have q3 : r < 64 := by omega
          have d1 : decide ((m : Int) < 32) = true := by simp; omega
          have HS := Lib.hid hst
          have HZ := Lib.hid hzz
          clear hq hr8 hr hv hz hzz hst
          obtain ⟨A, cc, rfl, _⟩ := own_slice hO
          go_wp2_with (at_builtin; refine wpList_append_own _ rfl _ _ 43 rfl W0.heap.size 5 i0 z0 1 1 Try.underlying43 hi hz0 hz1 hz2 hz3 (by decide) _ _ _ rfl (hO.alloc _) ⟨wr.heap.size, 0, none⟩ 1 1 [.int .u8 (z.toNat : Int)] rfl rfl (cell_one_new _ _ _) (by simp [Value.oneCell']) (by simp only [maxLen]; omega) (by omega) (by simp; omega) ?_; intro v' w4 hown4 hgrow _)
          obtain ⟨g', cap', rfl⟩ := ownsRow_succ hown4
          have hne : ∀ k, Value.ownBlock (.slice A m cc) = some k → W0.heap.size ≤ k := fun k hk => own_ge hO hk
          go_wp2_with fail
          go_roundw
          case rel =>
            refine ⟨m + 1, by simp, by omega, by rw [HS.out]; exact hown4, ?_, ?_, ?_⟩
            · exact (hL.alloc _).kept hgrow (fun e => by have := hne b e.symm; omega)
            · exact grown_self (only_alloc hG _) hgrow (fun j hj => .inr (by have := hne j hj; have := hG'.size; omega))
            · have := hgrow.size; simp at this; omega
          case measure => simp [intOf]; omega
        · have e32 : (List.range m).map (squeezeAt a) = squeeze a := by rw [show m = 32 by omega]; rfl
          have hql : (squeeze a).length = 32 := by simp [squeeze]
          rw [e32] at hO
          have hfin : decide ((m : Int) < 32) = false := by simp; omega
          obtain ⟨qq, hqq⟩ : ∃ x, squeeze a = x := ⟨_, rfl⟩
          have hs2 := HSUM.out
          rw [hqq] at hO hql hs2
          obtain rfl : m = 31 + 1 := by omega
          obtain ⟨g', cap', rfl⟩ := ownsRow_succ hO
          have hcell := own_cell hO
          have hcv := run_convert_bytes_back (P := Try.prog) wr 43 9 5 ⟨g', 0, none⟩ cap' qq (by kernel_rfl) (by kernel_rfl) (by kernel_rfl) (fun j hj => by
            have := hcell j (by omega)
            rw [Addr.add_mid, Nat.zero_add, this, List.getD_eq_getElem?_getD, List.getElem?_eq_getElem hj]
            rfl)
          rw [hql] at hcv
          have HS2 := Lib.hid hs2
          clear hs2 e32 hql hqq hcell hO
          go_wp2_with fail
          go_ret
          exact ⟨by rw [HS2.out]; rfl, hG⟩
end Go.Proofs.Ytihkbhogapopdaa
