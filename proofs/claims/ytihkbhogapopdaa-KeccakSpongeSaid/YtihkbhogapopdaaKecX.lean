/- KeccakSponge: what it answers. -/
import Derived.Test.YtihkbhogapopdaaKecW
namespace Go.Proofs.Ytihkbhogapopdaa
open Go.RowKit Go.Shelf

set_option maxRecDepth 100000 in
set_option maxHeartbeats 2000000 in
theorem sponge_law (s : ByteArray) (hs0 : s.size ≤ 9223372036854775807) (w : World) :
    Calls Try.prog 6 #[.string s] w fun e w' => e = .returned (.bool true) ∧ Below w.heap.size w w' := by
  by_cases hs6 : s.size ≤ 600
  · have hs : s.size ≤ 600 := hs6
    have hsl : s.data.toList.length = s.size := Array.length_toList
    obtain ⟨K, hK, hK1, hK2⟩ := padded_len s.data.toList
    obtain ⟨pb, hpb⟩ : ∃ p : ByteArray, padB s.size = p := ⟨_, rfl⟩
    obtain ⟨tb, htb⟩ : ∃ t : ByteArray, s ++ pb = t := ⟨_, rfl⟩
    have hpbz : pb.size = 136 - s.size % 136 := by rw [← hpb]; exact padB_len _
    have htl : tb.data.toList = padded s.data.toList := by
      rw [← htb, ba_toList, ← hpb]
      unfold padded padB
      rw [hsl]
    have hts : tb.size = 136 * K := by
      have : tb.size = tb.data.toList.length := Array.length_toList.symm
      rw [this, htl, hK]
    have hK3 : K ≤ 10000 := by omega
    have hT5 : tb.size ≤ 1360000 := by omega
    have hpad := padB_any s.size (by omega)
    rw [hpb] at hpad
    have hsumc := sum_any s (by omega)
    obtain ⟨rb, hrb⟩ : ∃ r : ByteArray, (⟨(sumL s.data.toList).toArray⟩ : ByteArray) = r := ⟨_, rfl⟩
    rw [hrb] at hsumc
    have hrl : rb.data.toList = sumL s.data.toList := by rw [← hrb]
    have hrz : rb.size = 32 := by
      have : rb.size = rb.data.toList.length := Array.length_toList.symm
      rw [this, hrl]
      simp [sumL, squeeze]
    have hmod : ((tb.size : Int)) % 136 = 0 := by omega
    have hmod2 : ((tb.size : Int)).tmod 136 = 0 := by rw [Int.tmod_eq_emod_of_nonneg (by omega)]; exact hmod
    have hp1 : 1 ≤ pb.size := by omega
    have hsz : pb.size ≤ 136 := by omega
    have HTL := Lib.hid htl; have HTS := Lib.hid hts; have HK := Lib.hid hK; have HPB := Lib.hid hpb; have HSL := Lib.hid hsl; have HRL := Lib.hid hrl; have HRZ := Lib.hid hrz
    clear htl hts hK hpb hsl hpbz hrl hrz hrb
    go_enter Try.func6, Try.ntmps6
    go_wp2_with fail
    refine (works_any _).mono ?_
    rintro e w0 ⟨rfl, hg0⟩
    go_wp2_with fail
    refine (hpad _).mono ?_
    rintro e w1 ⟨rfl, hg1'⟩
    have hg1 := grown_self hg0 hg1' (by simp)
    clear hg0 hg1'
    have hS0 := lanes_zero' w1
    have hG2 : w.grownBy (w1.alloc (.cells #[.int .u64 0, .int .u64 0, .int .u64 0, .int .u64 0, .int .u64 0, .int .u64 0, .int .u64 0, .int .u64 0, .int .u64 0, .int .u64 0, .int .u64 0, .int .u64 0, .int .u64 0, .int .u64 0, .int .u64 0, .int .u64 0, .int .u64 0, .int .u64 0, .int .u64 0, .int .u64 0, .int .u64 0, .int .u64 0, .int .u64 0, .int .u64 0, .int .u64 0] 23)) none := only_alloc (grown_self (World.grownBy.refl _ _) hg1 (by simp)) _
    have hZ2 : (w1.alloc (.cells #[.int .u64 0, .int .u64 0, .int .u64 0, .int .u64 0, .int .u64 0, .int .u64 0, .int .u64 0, .int .u64 0, .int .u64 0, .int .u64 0, .int .u64 0, .int .u64 0, .int .u64 0, .int .u64 0, .int .u64 0, .int .u64 0, .int .u64 0, .int .u64 0, .int .u64 0, .int .u64 0, .int .u64 0, .int .u64 0, .int .u64 0, .int .u64 0, .int .u64 0] 23)).heap.size = w1.heap.size + 1 := by simp
    have hw1 := hg1.size
    go_wp2_with fail
    generalize w1.alloc (.cells #[.int .u64 0, .int .u64 0, .int .u64 0, .int .u64 0, .int .u64 0, .int .u64 0, .int .u64 0, .int .u64 0, .int .u64 0, .int .u64 0, .int .u64 0, .int .u64 0, .int .u64 0, .int .u64 0, .int .u64 0, .int .u64 0, .int .u64 0, .int .u64 0, .int .u64 0, .int .u64 0, .int .u64 0, .int .u64 0, .int .u64 0, .int .u64 0, .int .u64 0] 23) = w2 at *
    generalize hb : w1.heap.size = b at *
    have hbz : b < w2.heap.size := by omega
    clear hg1 hb hZ2 hmod hmod2
    go_loopw [8] (fun i W => ∃ k o : Nat, i = .int .i64 (o : Int) ∧ Hid (o = 136 * k) ∧ k ≤ K ∧ Lanes W b 23 (sponge tb.data.toList k) ∧ w.grownBy W none) (fun i _ => tb.size + 136 - (intOf i).toNat)
    case atStart => exact ⟨0, 0, rfl, rfl, by omega, hS0, hG2⟩
    case round =>
      clear hS0 hG2
      obtain ⟨k, o, rfl, ho, hk, hL, hG⟩ := hrel
      obtain ⟨W0, rfl⟩ : ∃ W0 : World, W0 = wr := ⟨_, rfl⟩
      by_cases hlt : k < K
      · have hoT : o + 136 ≤ tb.size := by have := HTS.out; have := ho.out; omega
        obtain ⟨a0, ha0⟩ : ∃ a, sponge tb.data.toList k = a := ⟨_, rfl⟩
        have ha0l : a0.length = 25 := by rw [← ha0]; exact sponge_len _ _
        rw [ha0] at hL
        have HA0 := Lib.hid ha0
        clear ha0
        have d0 : decide ((o : Int) < (tb.size : Int)) = true := by simp; omega
        have d0' : decide (o < tb.size) = true := by simp; omega
        have hbW : b < W0.heap.size := hL.lt
        go_wp2_with fail
        go_loopw [9] (fun i wr => ∃ m : Nat, i = .int .i64 (m : Int) ∧ m ≤ 136 ∧ Lanes wr b 23 (absorb tb.data.toList o m a0) ∧ W0.grownBy wr (some b)) (fun i _ => 136 - (intOf i).toNat)
        case atStart => exact ⟨0, rfl, by omega, hL, World.grownBy.refl _ _⟩
        case round =>
          obtain ⟨m, rfl, hm, hLm, hg⟩ := hrel
          by_cases hltm : m < 136
          · obtain ⟨a1, ha1⟩ : ∃ a, absorb tb.data.toList o m a0 = a := ⟨_, rfl⟩
            have ha1l : a1.length = 25 := by rw [← ha1, absorb_len]; exact ha0l
            rw [ha1] at hLm
            have hlen : tb.data.toList.length = tb.size := Array.length_toList
            obtain ⟨c, hc⟩ : ∃ c, tb.data.toList[o + m]? = some c := ⟨_, List.getElem?_eq_getElem (by omega)⟩
            have hcl : tb.data.toList.getD (o + m) 0 = c := by
              rw [List.getD_eq_getElem?_getD, hc]; rfl
            obtain ⟨om, hom⟩ : ∃ om, o + m = om := ⟨_, rfl⟩
            rw [hom] at hc
            have hidx := idx_str tb om c hc
            obtain ⟨q, hq⟩ : ∃ q, m / 8 = q := ⟨_, rfl⟩
            obtain ⟨r8, hr8⟩ : ∃ r, m % 8 = r := ⟨_, rfl⟩
            obtain ⟨r, hr⟩ : ∃ r, r8 * 8 = r := ⟨_, rfl⟩
            obtain ⟨v, hv⟩ : ∃ v, a1.getD q 0 = v := ⟨_, rfl⟩
            obtain ⟨y, hy⟩ : ∃ y, BitVec.ofNat 64 c.toNat <<< r = y := ⟨_, rfl⟩
            obtain ⟨z, hz⟩ : ∃ z, v ^^^ y = z := ⟨_, rfl⟩
            have hst : absorb tb.data.toList o (m + 1) a0 = a1.set q z := by
              rw [absorb_succ, ha1]
              unfold absStep
              rw [hcl, hq, hr8, hr, hv, hy, hz]
            have f2 := hLm.cell (i := q) (by omega)
            have f3 := hLm.frozen q
            rw [hv] at f2
            have p1 : (m : Int).tdiv 8 = (q : Int) := by rw [Int.tdiv_eq_ediv_of_nonneg (by omega)]; omega
            have p2 : IntKind.i64.wrap (q : Int) = (q : Int) := IntWalk.i64_in _ (by omega)
            have p3 : (m : Int).tmod 8 = (r8 : Int) := by rw [Int.tmod_eq_emod_of_nonneg (by omega)]; omega
            have p4 : IntKind.i64.wrap ((r8 : Int) * 8) = (r : Int) := by rw [IntWalk.i64_in _ (by omega)]; omega
            have p5 := wrap_byte c
            have p6 := bshl c r y hy
            have p7 := bx_is v y z hz
            have p8 := wrap_u r (by omega)
            have p9 : IntKind.i64.wrap ((o : Int) + (m : Int)) = (om : Int) := by rw [IntWalk.i64_in _ (by omega)]; omega
            have q1 : (q : Int) < 25 := by omega
            have q2 : (m : Int) < 136 := by omega
            have q3 : r < 64 := by omega
            have d1 : decide ((m : Int) < 136) = true := by simp; omega
            have d2 : decide (m < 136) = true := by simp; omega
            have HS := Lib.hid hst
            clear ha1 hcl hq hr8 hr hv hy hz hst hlen hc hom
            go_wp2_with fail
            go_still_tail 19, (by kernel_rfl)
            clear p1 p2 p3 p4 p5 p6 p7 p8 p9
            repeat go_step
            go_roundw
            case rel => exact ⟨m + 1, by simp, by omega, by rw [HS.out]; exact (hLm.set q z).drew, only_drew (only_setCell hg (.inl rfl) _)⟩
            case measure => simp [intOf]; omega
          · have e136 : absorb tb.data.toList o m a0 = absorb tb.data.toList o 136 a0 := by rw [show m = 136 by omega]
            have hfin : decide ((m : Int) < 136) = false := by simp; omega
            obtain ⟨a1, ha1⟩ : ∃ a, absorb tb.data.toList o 136 a0 = a := ⟨_, rfl⟩
            have ha1l : a1.length = 25 := by rw [← ha1, absorb_len]; exact ha0l
            rw [e136, ha1] at hLm
            have HA1 := Lib.hid ha1
            obtain ⟨cs, hcs⟩ : ∃ cs, (a1.map u64v).toArray = cs := ⟨_, rfl⟩
            have hcp := permute_any a1 ha1l wr
            have hB1 : Blk wr b 23 cs := by rw [← hcs]; exact hLm
            have hcsz : cs.size = 25 := by rw [← hcs]; simpa using ha1l
            rw [hcs] at hcp
            obtain ⟨a2, ha2⟩ : ∃ a, permuteK a1 = a := ⟨_, rfl⟩
            have ha2l : a2.length = 25 := by rw [← ha2, permute_len]; exact ha1l
            rw [ha2] at hcp
            have HA2 := Lib.hid ha2
            obtain ⟨cs2, hcs2⟩ : ∃ cs, (a2.map u64v).toArray = cs := ⟨_, rfl⟩
            have hcs2z : cs2.size = 25 := by rw [← hcs2]; simpa using ha2l
            have hone : cs2.all (·.oneCell') = true := by rw [← hcs2]; simp [u64v, Value.oneCell']
            rw [hcs2] at hcp
            have HC2 := Lib.hid hcs2
            clear ha1 hcs e136 ha2 hcs2
            repeat (first | refine wpList_load_row rfl 23 (.tmp 7) rfl b rfl 23 cs _ (.array 25 22) hB1 (by kernel_rfl) (by kernel_rfl) (by rw [hcsz]; kernel_rfl) (veiled ?_) | go_step)
            refine ⟨?_⟩
            refine wpList_step fun K hK => ?_
            go_simp
            refine hcp.mono ?_
            rintro e w5 ⟨rfl, hg5⟩
            go_simp
            refine hK _ _ ?_
            clear hK K
            have hB5 : Blk w5 b 23 cs := hB1.grown hg5 (by simp)
            refine wpList_store_mid rfl 23 _ _ rfl b 0 cs2 rfl rfl (there_blk' hB5 (hcs2z.trans hcsz.symm)) (by rw [hcs2z]; kernel_rfl) hone ?_
            refine wpList_nil ?_
            have hB6 := hB5.setAll (cs' := cs2) (hcs2z.trans hcsz.symm)
            have hg6 : W0.grownBy (w5.setCells b 0 cs2.toList) (some b) := only_setCells (.inl rfl) _ _ _ (grown_self hg hg5 (by simp))
            have hS6 : Lanes (w5.setCells b 0 cs2.toList) b 23 (sponge tb.data.toList (k + 1)) := by
              rw [sponge, HA0.out, ← ho.out, HA1.out, HA2.out]
              unfold Lanes
              rw [HC2.out]
              exact hB6
            have hG6 := grown_self hG hg6 (fun k e => .inr (by cases e; omega))
            generalize w5.setCells b 0 cs2.toList = w6 at *
            have p1 : IntKind.i64.wrap ((o : Int) + 136) = ((o + 136 : Nat) : Int) := by rw [IntWalk.i64_in _ (by omega)]; omega
            clear hcp
            go_wp2_with fail
            go_roundw
            case rel => exact ⟨k + 1, o + 136, by simp, by show o + 136 = 136 * (k + 1); have := ho.out; omega, by omega, hS6, hG6⟩
            case measure => simp [intOf]; omega
      · have hk2 : k = K := by omega
        rw [hk2] at hL ho
        have d0 : decide ((o : Int) < (tb.size : Int)) = false := by have := HTS.out; have := ho.out; simp; omega
        have d0' : decide (o < tb.size) = false := by have := HTS.out; have := ho.out; simp; omega
        obtain ⟨a, ha⟩ : ∃ a, sponge tb.data.toList K = a := ⟨_, rfl⟩
        have hal : a.length = 25 := by rw [← ha]; exact sponge_len _ _
        have hsum : rb.data.toList = squeeze a := by
          rw [HRL.out]
          unfold sumL
          have h1 := HTL.out
          rw [← h1, ← ha]
          congr 2
          rw [h1, HK.out]
          omega
        rw [ha] at hL
        have HSUM := Lib.hid hsum
        clear ha hsum
        have d3 : ((rb.size : Int) != 32) = false := by have := HRZ.out; simp; omega
        have d4 : (rb.size != 32) = false := by have := HRZ.out; simp; omega
        go_wp2_with fail
        refine (hsumc _).mono ?_
        rintro e w5 ⟨rfl, hg5⟩
        have hL5 := hL.kept hg5 (by simp)
        have hG5 := grown_self hG hg5 (by simp)
        clear hL hG hg5 hsumc hpad
        go_wp2_with fail
        go_loopw [11] (fun i wr => ∃ m : Nat, i = .int .i64 (m : Int) ∧ m ≤ 32 ∧ Lanes wr b 23 a ∧ w.grownBy wr none) (fun i _ => 32 - (intOf i).toNat)
        case atStart => exact ⟨0, rfl, by omega, hL5, hG5⟩
        case round =>
          clear hL5 hG5
          obtain ⟨m, rfl, hm, hL, hG⟩ := hrel
          by_cases hltm : m < 32
          · obtain ⟨q, hq⟩ : ∃ q, m / 8 = q := ⟨_, rfl⟩
            obtain ⟨r8, hr8⟩ : ∃ r, m % 8 = r := ⟨_, rfl⟩
            obtain ⟨r, hr⟩ : ∃ r, r8 * 8 = r := ⟨_, rfl⟩
            obtain ⟨v, hv⟩ : ∃ v, a.getD q 0 = v := ⟨_, rfl⟩
            obtain ⟨z, hz⟩ : ∃ z, squeezeAt a m = z := ⟨_, rfl⟩
            have hzz : z = UInt8.ofNat ((v >>> r).toNat % 256) := by
              rw [← hz]
              unfold squeezeAt
              rw [hq, hr8, hr, hv]
            have hidx := idx_str rb m z (by rw [HSUM.out, ← hz]; simp [squeeze, hltm])
            have f2 := hL.cell (i := q) (by omega)
            rw [hv] at f2
            have p1 : (m : Int).tdiv 8 = (q : Int) := by rw [Int.tdiv_eq_ediv_of_nonneg (by omega)]; omega
            have p2 : IntKind.i64.wrap (q : Int) = (q : Int) := IntWalk.i64_in _ (by omega)
            have p3 : (m : Int).tmod 8 = (r8 : Int) := by rw [Int.tmod_eq_emod_of_nonneg (by omega)]; omega
            have p4 : IntKind.i64.wrap ((r8 : Int) * 8) = (r : Int) := by rw [IntWalk.i64_in _ (by omega)]; omega
            have p5 : ((v.toNat : Int) / 2 ^ r).tmod 256 = (z.toNat : Int) := by
              rw [show (v.toNat : Int) / 2 ^ r = ((v >>> r).toNat : Int) by rw [BitVec.toNat_ushiftRight, Nat.shiftRight_eq_div_pow]; simp, Int.tmod_eq_emod_of_nonneg (by omega), hzz]
              simp
            have p6 : (z.toNat : Int) % 256 = (z.toNat : Int) := by have := z.toNat_lt; omega
            have p7 : IntKind.u8.wrap (z.toNat : Int) = (z.toNat : Int) := by have := z.toNat_lt; simp [IntKind.wrap, IntKind.bits, IntKind.signed]; omega
            have p8 := wrap_u r (by omega)
            have q1 : (q : Int) < 25 := by omega
            have q2 : (m : Int) < 32 := by omega
            have q3 : r < 64 := by omega
            have d1 : decide ((m : Int) < 32) = true := by simp; omega
            clear hq hr8 hr hv hz hzz
            go_wp2_with fail
            go_quiet (fail)
            clear p1 p2 p3 p4 p5 p6 p7 p8
            go_wp2_with fail
            go_roundw
            case rel => exact ⟨m + 1, by simp, by omega, hL.drewN nq, ⟨hG.os, hG.tape, hG.output, hG.size, hG.block⟩⟩
            case measure => simp [intOf]; omega
          · have hfin : decide ((m : Int) < 32) = false := by simp; omega
            go_wp2_with fail
            go_ret
            exact ⟨rfl, below_of_grown hG⟩
  · have d2 : decide (600 < (s.size : Int)) = true := by simp; omega
    go_enter Try.func6, Try.ntmps6
    go_wp2_with fail
    refine (works_any _).mono ?_
    rintro e w1 ⟨rfl, hg1⟩
    go_wp2_with fail
    go_ret
    exact ⟨rfl, below_of_grown hg1⟩
end Go.Proofs.Ytihkbhogapopdaa
