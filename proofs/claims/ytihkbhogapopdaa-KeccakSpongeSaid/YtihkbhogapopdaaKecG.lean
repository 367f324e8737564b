/- The document's mix: what it answers. -/
import Derived.Test.YtihkbhogapopdaaKecF
namespace Go.Proofs.Ytihkbhogapopdaa
open Go.RowKit Go.Shelf

theorem take_snoc (k : Nat) (hk : k < 25) : (List.finRange 25).take (k + 1) = (List.finRange 25).take k ++ [⟨k, hk⟩] := by
  rw [List.take_succ_eq_append_getElem (by simp; exact hk)]
  simp

theorem only_set {a w : World} {row : Option Nat} (h : a.grownBy w row) {p : Addr} (hp : a.heap.size ≤ p.block) (u : Value) : a.grownBy (w.setCell p u) row :=
  ⟨h.os, h.tape, h.output, by simpa [World.setCell] using h.size, fun i hi hne => (Below.heap_setCell w p u i (by omega)).trans (h.block i hi hne)⟩

set_option maxRecDepth 100000 in
set_option maxHeartbeats 2000000 in
theorem mix_any (a : List (BitVec 64)) (ha : a.length = 25) (w : World) :
    Calls Try.prog 17 #[.agg (a.map u64v).toArray] w fun e w' => e = .returned (.agg ((thetaK a).map u64v).toArray) ∧ w.grownBy w' none := by
  go_enter Try.func17, Try.ntmps17
  have h0 := Lanes.new w 23 a
  generalize hcs : (a.map u64v).toArray = cs at *
  refine wp_seq (wp_region_lit ?_)
  refine Go.Great.wpList_boxTo rfl 23 _ rfl _ rfl w.heap.size rfl cs rfl ?_
  have hb := Blk.new (w.alloc (.cells cs 23)) 23 #[.int .u64 0, .int .u64 0, .int .u64 0, .int .u64 0, .int .u64 0, .int .u64 0, .int .u64 0, .int .u64 0, .int .u64 0, .int .u64 0, .int .u64 0, .int .u64 0, .int .u64 0, .int .u64 0, .int .u64 0, .int .u64 0, .int .u64 0, .int .u64 0, .int .u64 0, .int .u64 0, .int .u64 0, .int .u64 0, .int .u64 0, .int .u64 0, .int .u64 0]
  have hc := Lanes.new ((w.alloc (.cells cs 23)).alloc (.cells #[.int .u64 0, .int .u64 0, .int .u64 0, .int .u64 0, .int .u64 0, .int .u64 0, .int .u64 0, .int .u64 0, .int .u64 0, .int .u64 0, .int .u64 0, .int .u64 0, .int .u64 0, .int .u64 0, .int .u64 0, .int .u64 0, .int .u64 0, .int .u64 0, .int .u64 0, .int .u64 0, .int .u64 0, .int .u64 0, .int .u64 0, .int .u64 0, .int .u64 0] 23)) 48 (colsOf a [])
  have h0' := (h0.alloc (.cells #[.int .u64 0, .int .u64 0, .int .u64 0, .int .u64 0, .int .u64 0, .int .u64 0, .int .u64 0, .int .u64 0, .int .u64 0, .int .u64 0, .int .u64 0, .int .u64 0, .int .u64 0, .int .u64 0, .int .u64 0, .int .u64 0, .int .u64 0, .int .u64 0, .int .u64 0, .int .u64 0, .int .u64 0, .int .u64 0, .int .u64 0, .int .u64 0, .int .u64 0] 23)).alloc (.cells #[.int .u64 0, .int .u64 0, .int .u64 0, .int .u64 0, .int .u64 0] 48)
  have hb' := hb.alloc (.cells #[.int .u64 0, .int .u64 0, .int .u64 0, .int .u64 0, .int .u64 0] 48)
  have hG : w.grownBy (((w.alloc (.cells cs 23)).alloc (.cells #[.int .u64 0, .int .u64 0, .int .u64 0, .int .u64 0, .int .u64 0, .int .u64 0, .int .u64 0, .int .u64 0, .int .u64 0, .int .u64 0, .int .u64 0, .int .u64 0, .int .u64 0, .int .u64 0, .int .u64 0, .int .u64 0, .int .u64 0, .int .u64 0, .int .u64 0, .int .u64 0, .int .u64 0, .int .u64 0, .int .u64 0, .int .u64 0, .int .u64 0] 23)).alloc (.cells #[.int .u64 0, .int .u64 0, .int .u64 0, .int .u64 0, .int .u64 0] 48)) none := only_alloc (only_alloc (only_alloc (World.grownBy.refl _ _) _) _) _
  rw [World.size_alloc] at hb' hc
  rw [World.size_alloc] at hc
  change Lanes (((w.alloc (.cells cs 23)).alloc (.cells #[.int .u64 0, .int .u64 0, .int .u64 0, .int .u64 0, .int .u64 0, .int .u64 0, .int .u64 0, .int .u64 0, .int .u64 0, .int .u64 0, .int .u64 0, .int .u64 0, .int .u64 0, .int .u64 0, .int .u64 0, .int .u64 0, .int .u64 0, .int .u64 0, .int .u64 0, .int .u64 0, .int .u64 0, .int .u64 0, .int .u64 0, .int .u64 0, .int .u64 0] 23)).alloc (.cells #[.int .u64 0, .int .u64 0, .int .u64 0, .int .u64 0, .int .u64 0] 48)) (w.heap.size + 2) 48 (colsOf a []) at hc
  repeat go_step
  generalize ((w.alloc (.cells cs 23)).alloc (.cells #[.int .u64 0, .int .u64 0, .int .u64 0, .int .u64 0, .int .u64 0, .int .u64 0, .int .u64 0, .int .u64 0, .int .u64 0, .int .u64 0, .int .u64 0, .int .u64 0, .int .u64 0, .int .u64 0, .int .u64 0, .int .u64 0, .int .u64 0, .int .u64 0, .int .u64 0, .int .u64 0, .int .u64 0, .int .u64 0, .int .u64 0, .int .u64 0, .int .u64 0] 23)).alloc (.cells #[.int .u64 0, .int .u64 0, .int .u64 0, .int .u64 0, .int .u64 0] 48) = w1 at *
  clear hb h0
  go_loopw [4] (fun i wr => ∃ k : Nat, i = .int .i64 k ∧ k ≤ 25 ∧ Lanes wr w.heap.size 23 a ∧ Blk wr (w.heap.size + 1) 23 #[.int .u64 0, .int .u64 0, .int .u64 0, .int .u64 0, .int .u64 0, .int .u64 0, .int .u64 0, .int .u64 0, .int .u64 0, .int .u64 0, .int .u64 0, .int .u64 0, .int .u64 0, .int .u64 0, .int .u64 0, .int .u64 0, .int .u64 0, .int .u64 0, .int .u64 0, .int .u64 0, .int .u64 0, .int .u64 0, .int .u64 0, .int .u64 0, .int .u64 0] ∧ Lanes wr (w.heap.size + 2) 48 (colsOf a ((List.finRange 25).take k)) ∧ w.grownBy wr none) (fun i _ => 25 - (intOf i).toNat)
  case atStart => exact ⟨0, rfl, by omega, h0', hb', hc, hG⟩
  case round =>
    clear h0' hb' hc hG
    obtain ⟨k, rfl, hk, hA, hR, hC, hG⟩ := hrel
    by_cases hlt : k < 25
    · have hst := colsOf_snoc a ((List.finRange 25).take k) ⟨k, hlt⟩
      rw [← take_snoc k hlt] at hst
      unfold colStep at hst
      have x5 : k % 5 < 5 := Nat.mod_lt _ (by omega)
      have hcl : (colsOf a ((List.finRange 25).take k)).length = 5 := colsOf_len _ _
      have f3 := hC.cell (i := k % 5) (by omega)
      have f4 := hA.cell (i := k) (by omega)
      have f5 := hC.frozen (k % 5)
      obtain ⟨m, hm⟩ : ∃ m, k % 5 = m := ⟨_, rfl⟩
      have p1 : (k : Int).tmod 5 = (m : Int) := by rw [Int.tmod_eq_emod_of_nonneg (by omega)]; omega
      have q1 : (m : Int) < 5 := by omega
      have q4 : (k : Int) < 25 := by omega
      obtain ⟨cv, hcv⟩ : ∃ v, (colsOf a ((List.finRange 25).take k)).getD (k % 5) 0 = v := ⟨_, rfl⟩
      obtain ⟨av, hav⟩ : ∃ v, a.getD k 0 = v := ⟨_, rfl⟩
      rw [hcv] at f3
      rw [hav] at f4
      change colsOf a ((List.finRange 25).take (k + 1)) = (colsOf a ((List.finRange 25).take k)).set (k % 5) ((colsOf a ((List.finRange 25).take k)).getD (k % 5) 0 ^^^ a.getD k 0) at hst
      rw [hcv, hav, hm] at hst
      rw [hm] at f3 f5
      obtain ⟨r, hr⟩ : ∃ r, cv ^^^ av = r := ⟨_, rfl⟩
      have hxx := bx_is cv av r hr
      rw [hr] at hst
      have HS := Lib.hid hst
      clear hst hcv hav hr hm
      go_wp2_with fail
      go_still_tail 11, (by kernel_rfl)
      clear hxx p1
      repeat go_step
      go_roundw
      case rel =>
        refine ⟨k + 1, by simp, by omega, ?_, ?_, ?_, ?_⟩
        · exact (hA.far (p := ⟨w.heap.size + 2, m, none⟩) (by show w.heap.size ≠ w.heap.size + 2; omega) _).drew
        · exact Blk.far hR (p := ⟨w.heap.size + 2, m, none⟩) (by show w.heap.size + 1 ≠ w.heap.size + 2; omega) _
        · rw [HS.out]
          exact (hC.set m r).drew
        · exact only_drew (only_set hG (p := ⟨w.heap.size + 2, m, none⟩) (by show w.heap.size ≤ w.heap.size + 2; omega) _)
      case measure => simp [intOf]; omega
    · have hk25 : k = 25 := by omega
      have e25 : (List.finRange 25).take k = List.finRange 25 := List.take_of_length_le (by simp; omega)
      rw [e25] at hC
      have hfin : decide ((k : Int) < 25) = false := by simp; omega
      clear hk25 hlt hk e25
      obtain ⟨cc, hcc⟩ : ∃ c, colsOf a (List.finRange 25) = c := ⟨_, rfl⟩
      have hcl : cc.length = 5 := by rw [← hcc]; exact colsOf_len _ _
      have hth : thetaK a = (List.finRange 25).foldl (mixStep cc) a := by unfold thetaK; rw [hcc]
      rw [hcc] at hC
      have HT := Lib.hid hth
      clear hcc hth
      go_wp2_with fail
      clear hfin
      go_loopw [5] (fun i W => ∃ k : Nat, i = .int .i64 k ∧ k ≤ 25 ∧ Lanes W w.heap.size 23 (((List.finRange 25).take k).foldl (mixStep cc) a) ∧ Blk W (w.heap.size + 1) 23 #[.int .u64 0, .int .u64 0, .int .u64 0, .int .u64 0, .int .u64 0, .int .u64 0, .int .u64 0, .int .u64 0, .int .u64 0, .int .u64 0, .int .u64 0, .int .u64 0, .int .u64 0, .int .u64 0, .int .u64 0, .int .u64 0, .int .u64 0, .int .u64 0, .int .u64 0, .int .u64 0, .int .u64 0, .int .u64 0, .int .u64 0, .int .u64 0, .int .u64 0] ∧ Lanes W (w.heap.size + 2) 48 cc ∧ w.grownBy W none) (fun i _ => 25 - (intOf i).toNat)
      case atStart => exact ⟨0, rfl, by omega, hA, hR, hC, hG⟩
      case round =>
        clear hA hR hC hG
        obtain ⟨k2, rfl, hk, hA, hR, hC, hG⟩ := hrel
        have hal : (((List.finRange 25).take k2).foldl (mixStep cc) a).length = 25 := by rw [mix_len]; exact ha
        by_cases hlt : k2 < 25
        · have hst : ((List.finRange 25).take (k2 + 1)).foldl (mixStep cc) a = mixStep cc (((List.finRange 25).take k2).foldl (mixStep cc) a) ⟨k2, hlt⟩ := by
            rw [take_snoc k2 hlt, List.foldl_append, List.foldl_cons, List.foldl_nil]
          generalize ((List.finRange 25).take k2).foldl (mixStep cc) a = a1 at *
          have hst2 : mixStep cc a1 ⟨k2, hlt⟩ = a1.set k2 (a1.getD k2 0 ^^^ (cc.getD ((k2 % 5 + 5 - 1) % 5) 0 ^^^ (cc.getD ((k2 % 5 + 1) % 5) 0).rotateLeft 1)) := rfl
          rw [hst2] at hst
          clear hst2
          obtain ⟨m, hm⟩ : ∃ m, k2 % 5 = m := ⟨_, rfl⟩
          have hm5 : m < 5 := by omega
          obtain ⟨m1, hm1⟩ : ∃ q, (m + 5 - 1) % 5 = q := ⟨_, rfl⟩
          obtain ⟨m2, hm2⟩ : ∃ q, (m + 1) % 5 = q := ⟨_, rfl⟩
          have hm15 : m1 < 5 := by omega
          have hm25 : m2 < 5 := by omega
          rw [hm, hm1, hm2] at hst
          have f3 := hC.cell (i := m1) (by omega)
          have f4 := hC.cell (i := m2) (by omega)
          have f5 := hA.cell (i := k2) (by omega)
          have f6 := hA.frozen k2
          generalize cc.getD m1 0 = v1 at *
          generalize cc.getD m2 0 = v2 at *
          generalize a1.getD k2 0 = v3 at *
          obtain ⟨r1, hr1⟩ : ∃ r, v3 ^^^ v1 = r := ⟨_, rfl⟩
          obtain ⟨r2, hr2⟩ : ∃ r, v2.rotateLeft 1 = r := ⟨_, rfl⟩
          obtain ⟨r3, hr3⟩ : ∃ r, r1 ^^^ r2 = r := ⟨_, rfl⟩
          have hx1 := bx_is v3 v1 r1 hr1
          have hx2 := bx_is r1 r2 r3 hr3
          have hrot := rot_any v2 1 (by omega) wr.drew
          have hrr : rotR v2 1 = r2 := hr2
          rw [hrr] at hrot
          rw [hr2, ← BitVec.xor_assoc, hr1, hr3] at hst
          have HS := Lib.hid hst
          have p0 : (k2 : Int).tmod 5 = (m : Int) := by rw [Int.tmod_eq_emod_of_nonneg (by omega)]; omega
          have p1 : IntKind.i64.wrap ((m : Int) + 4) = (m : Int) + 4 := IntWalk.i64_in _ (by omega)
          have p2 : ((m : Int) + 4).tmod 5 = (m1 : Int) := by rw [Int.tmod_eq_emod_of_nonneg (by omega)]; omega
          have p3 : IntKind.i64.wrap ((m : Int) + 1) = (m : Int) + 1 := IntWalk.i64_in _ (by omega)
          have p4 : ((m : Int) + 1).tmod 5 = (m2 : Int) := by rw [Int.tmod_eq_emod_of_nonneg (by omega)]; omega
          have q1 : (m1 : Int) < 5 := by omega
          have q2 : (m2 : Int) < 5 := by omega
          have q4 : (k2 : Int) < 25 := by omega
          clear hst hr1 hr2 hr3 hrr hm hm1 hm2
          go_wp2_with fail
          go_still_tail 18, (by kernel_rfl)
          still_call hrot
          repeat still_step
          refine wpStill_nil ?_
          clear hrot hx1 hx2 p0 p1 p2 p3 p4
          repeat go_step
          go_roundw
          case rel =>
            refine ⟨k2 + 1, by simp, by omega, ?_, ?_, ?_, ?_⟩
            · rw [HS.out]
              exact (hA.set k2 r3).drew
            · exact Blk.far hR (p := ⟨w.heap.size, k2, none⟩) (by show w.heap.size + 1 ≠ w.heap.size; omega) _
            · exact (hC.far (p := ⟨w.heap.size, k2, none⟩) (by show w.heap.size + 2 ≠ w.heap.size; omega) _).drew
            · exact only_drew (only_set hG (p := ⟨w.heap.size, k2, none⟩) (Nat.le_refl _) _)
          case measure => simp [intOf]; omega
        · obtain rfl : k2 = 25 := by omega
          have e25 : (List.finRange 25).take 25 = List.finRange 25 := List.take_of_length_le (by simp)
          rw [e25] at hA hal
          obtain ⟨a2, ha2⟩ : ∃ x, (List.finRange 25).foldl (mixStep cc) a = x := ⟨_, rfl⟩
          have HT2 : thetaK a = a2 := HT.out.trans ha2
          rw [ha2] at hA hal
          unfold Lanes at hA
          have hsz : (a2.map u64v).toArray.size = 25 := by simpa using hal
          have hone : (a2.map u64v).toArray.all (·.oneCell') = true := by simp [u64v, Value.oneCell']
          obtain ⟨cs2, hcs2⟩ : ∃ x, (a2.map u64v).toArray = x := ⟨_, rfl⟩
          rw [hcs2] at hA hsz hone
          have HC2 := Lib.hid hcs2
          have HT3 := Lib.hid HT2
          clear hcs2 HT2 ha2
          repeat (first | refine wpList_load_row rfl 23 (.tmp 1) rfl w.heap.size rfl 23 cs2 _ (.array 25 22) hA (by kernel_rfl) (by kernel_rfl) (by rw [hsz]; kernel_rfl) ?_ | refine wpList_store_mid rfl 23 (.tmp 2) (.tmp 46) rfl (w.heap.size + 1) 0 cs2 rfl rfl (there_blk' hR hsz) (by rw [hsz]; kernel_rfl) hone ?_ | go_step)
          have hR2 := hR.setAll (cs' := cs2) hsz
          exact bodyPost_ret (results_cell_row (g := w.heap.size + 1) rfl _ _ _ cs2 _ (.array 25 22) (by simp [Act.put]) hR2 (by kernel_rfl) (by kernel_rfl) (by rw [hsz]; kernel_rfl)) rfl ⟨by rw [HT3.out, HC2.out], only_setCells (.inr (by omega)) _ _ _ hG⟩
end Go.Proofs.Ytihkbhogapopdaa
