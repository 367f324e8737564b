/- The document's Permute: what it answers. -/
import Derived.Test.YtihkbhogapopdaaKecI
namespace Go.Proofs.Ytihkbhogapopdaa
open Go.RowKit Go.Shelf

def roundR (a : List (BitVec 64)) (n : BitVec 64) : List (BitVec 64) :=
  let c := chiK (moveR (turnR (thetaK a))) a
  c.set 0 (c.getD 0 0 ^^^ n)
theorem roundR_len (a : List (BitVec 64)) (n : BitVec 64) : (roundR a n).length = a.length := by
  unfold roundR chiK
  simp only [List.length_set, chi_len]
theorem foldR_len : ∀ (l : List (BitVec 64)) (a : List (BitVec 64)), (l.foldl roundR a).length = a.length
  | [], _ => rfl
  | n :: l, a => by rw [List.foldl_cons, foldR_len l]; exact roundR_len _ _
def permuteR (a : List (BitVec 64)) : List (BitVec 64) := numsL.foldl roundR a
theorem bnot (x z : BitVec 64) (h : ~~~ x = z) : bits .xor .u64 (x.toNat : Int) 18446744073709551615 = (z.toNat : Int) := by
  have e : (18446744073709551615 : Int) = ((BitVec.allOnes 64).toNat : Int) := by decide
  rw [e, bx, BitVec.xor_allOnes, h]

structure Veil (p : Prop) : Prop where
  out : p
theorem veiled {p : Prop} (h : Veil p) : p := h.out

set_option maxRecDepth 100000 in
set_option maxHeartbeats 2000000 in
theorem permuteR_any (a : List (BitVec 64)) (ha : a.length = 25) (w : World) :
    Calls Try.prog 9 #[.agg (a.map u64v).toArray] w fun e w' => e = .returned (.agg ((permuteR a).map u64v).toArray) ∧ w.grownBy w' none := by
  go_enter Try.func9, Try.ntmps9
  have h0 := Lanes.new w 23 a
  generalize hcs : (a.map u64v).toArray = cs at *
  refine wp_seq (wp_region_lit ?_)
  refine Go.Great.wpList_boxTo rfl 23 _ rfl _ rfl w.heap.size rfl cs rfl ?_
  have hb := Blk.new (w.alloc (.cells cs 23)) 23 #[.int .u64 0, .int .u64 0, .int .u64 0, .int .u64 0, .int .u64 0, .int .u64 0, .int .u64 0, .int .u64 0, .int .u64 0, .int .u64 0, .int .u64 0, .int .u64 0, .int .u64 0, .int .u64 0, .int .u64 0, .int .u64 0, .int .u64 0, .int .u64 0, .int .u64 0, .int .u64 0, .int .u64 0, .int .u64 0, .int .u64 0, .int .u64 0, .int .u64 0]
  have h0' := h0.alloc (.cells #[.int .u64 0, .int .u64 0, .int .u64 0, .int .u64 0, .int .u64 0, .int .u64 0, .int .u64 0, .int .u64 0, .int .u64 0, .int .u64 0, .int .u64 0, .int .u64 0, .int .u64 0, .int .u64 0, .int .u64 0, .int .u64 0, .int .u64 0, .int .u64 0, .int .u64 0, .int .u64 0, .int .u64 0, .int .u64 0, .int .u64 0, .int .u64 0, .int .u64 0] 23)
  have hG : w.grownBy ((w.alloc (.cells cs 23)).alloc (.cells #[.int .u64 0, .int .u64 0, .int .u64 0, .int .u64 0, .int .u64 0, .int .u64 0, .int .u64 0, .int .u64 0, .int .u64 0, .int .u64 0, .int .u64 0, .int .u64 0, .int .u64 0, .int .u64 0, .int .u64 0, .int .u64 0, .int .u64 0, .int .u64 0, .int .u64 0, .int .u64 0, .int .u64 0, .int .u64 0, .int .u64 0, .int .u64 0, .int .u64 0] 23)) none := only_alloc (only_alloc (World.grownBy.refl _ _) _) _
  have hZ : ((w.alloc (.cells cs 23)).alloc (.cells #[.int .u64 0, .int .u64 0, .int .u64 0, .int .u64 0, .int .u64 0, .int .u64 0, .int .u64 0, .int .u64 0, .int .u64 0, .int .u64 0, .int .u64 0, .int .u64 0, .int .u64 0, .int .u64 0, .int .u64 0, .int .u64 0, .int .u64 0, .int .u64 0, .int .u64 0, .int .u64 0, .int .u64 0, .int .u64 0, .int .u64 0, .int .u64 0, .int .u64 0] 23)).heap.size = w.heap.size + 2 := by simp
  rw [World.size_alloc] at hb
  repeat go_step
  generalize (w.alloc (.cells cs 23)).alloc (.cells #[.int .u64 0, .int .u64 0, .int .u64 0, .int .u64 0, .int .u64 0, .int .u64 0, .int .u64 0, .int .u64 0, .int .u64 0, .int .u64 0, .int .u64 0, .int .u64 0, .int .u64 0, .int .u64 0, .int .u64 0, .int .u64 0, .int .u64 0, .int .u64 0, .int .u64 0, .int .u64 0, .int .u64 0, .int .u64 0, .int .u64 0, .int .u64 0, .int .u64 0] 23) = w1 at *
  clear h0
  go_loopw [3] (fun i wr => ∃ k : Nat, i = .int .i64 k ∧ k ≤ 24 ∧ Lanes wr w.heap.size 23 ((numsL.take k).foldl roundR a) ∧ Blk wr (w.heap.size + 1) 23 #[.int .u64 0, .int .u64 0, .int .u64 0, .int .u64 0, .int .u64 0, .int .u64 0, .int .u64 0, .int .u64 0, .int .u64 0, .int .u64 0, .int .u64 0, .int .u64 0, .int .u64 0, .int .u64 0, .int .u64 0, .int .u64 0, .int .u64 0, .int .u64 0, .int .u64 0, .int .u64 0, .int .u64 0, .int .u64 0, .int .u64 0, .int .u64 0, .int .u64 0] ∧ w.grownBy wr none ∧ w.heap.size + 2 ≤ wr.heap.size) (fun i _ => 24 - (intOf i).toNat)
  case atStart => exact ⟨0, rfl, by omega, h0', hb, hG, by omega⟩
  case round =>
    clear h0' hb hG hZ
    obtain ⟨k, rfl, hk, hA, hR, hG, hZ⟩ := hrel
    have hal : ((numsL.take k).foldl roundR a).length = 25 := by rw [foldR_len]; exact ha
    by_cases hlt : k < 24
    · obtain ⟨nk, hnk⟩ : ∃ n, numsL[k]? = some n := ⟨_, List.getElem?_eq_getElem (by exact hlt)⟩
      have hst : (numsL.take (k + 1)).foldl roundR a = roundR ((numsL.take k).foldl roundR a) nk := by
        rw [List.take_add_one, hnk, Option.toList_some, List.foldl_append, List.foldl_cons, List.foldl_nil]
      generalize (numsL.take k).foldl roundR a = a1 at *
      have hA' : Blk wr w.heap.size 23 (a1.map u64v).toArray := hA
      have hsz : (a1.map u64v).toArray.size = 25 := by simpa using hal
      have hcm := mix_any a1 hal wr
      obtain ⟨cs1, hcs1⟩ : ∃ x, (a1.map u64v).toArray = x := ⟨_, rfl⟩
      rw [hcs1] at hA' hsz hcm
      clear hcs1
      obtain ⟨t1, ht1⟩ : ∃ x, thetaK a1 = x := ⟨_, rfl⟩
      have ht1l : t1.length = 25 := by rw [← ht1, thetaK_len]; exact hal
      obtain ⟨t2, ht2⟩ : ∃ x, turnR t1 = x := ⟨_, rfl⟩
      have ht2l : t2.length = 25 := by rw [← ht2]; unfold turnR; rw [turn_len]; exact ht1l
      obtain ⟨t3, ht3⟩ : ∃ x, moveR t2 = x := ⟨_, rfl⟩
      have ht3l : t3.length = 25 := by rw [← ht3]; unfold moveR; rw [move_len]; simp
      have hst2 : roundR a1 nk = (chiK t3 a1).set 0 ((chiK t3 a1).getD 0 0 ^^^ nk) := by unfold roundR; rw [ht1, ht2, ht3]
      rw [hst2] at hst
      have HS := Lib.hid hst
      rw [ht1] at hcm
      have hct := turn_any t1 ht1l
      rw [ht2] at hct
      have hcv := move_any t2 ht2l
      rw [ht3] at hcv
      have HNK := Lib.hid hnk
      clear hst hst2 ht1 ht2 ht3 hnk
      repeat (first | refine wpList_load_row rfl 23 (.tmp 1) rfl w.heap.size rfl 23 cs1 _ (.array 25 22) hA' (by kernel_rfl) (by kernel_rfl) (by rw [hsz]; kernel_rfl) (veiled ?_) | go_step)
      refine ⟨?_⟩
      refine wpList_step fun K hK => ?_
      go_simp
      refine hcm.mono ?_
      rintro e w2 ⟨rfl, hg2⟩
      go_simp
      refine hK _ _ ?_
      clear hK K hcm
      refine wpList_step fun K hK => ?_
      go_simp
      refine (hct w2).mono ?_
      rintro e w3 ⟨rfl, hg3⟩
      go_simp
      refine hK _ _ ?_
      clear hK K hct
      refine wpList_step fun K hK => ?_
      go_simp
      refine (hcv w3).mono ?_
      rintro e w4 ⟨rfl, hg4⟩
      go_simp
      refine hK _ _ ?_
      clear hK K hcv
      have hgg : wr.grownBy w4 none := grown_self (grown_self hg2 hg3 (by simp)) hg4 (by simp)
      have hA4 := hA.kept hgg (by simp)
      have hR4 := hR.grown hgg (by simp)
      have hG4 : w.grownBy w4 none := grown_self hG hgg (by simp)
      have hZ4 : w.heap.size + 2 ≤ w4.heap.size := by have := hgg.size; omega
      clear hg2 hg3 hg4 hgg hA hR hG hA' hsz
      refine wpList_step fun K hK => ?_
      go_simp
      refine hK _ _ ?_
      clear hK K
      have hB := Blk.new w4 23 #[.int .u64 0, .int .u64 0, .int .u64 0, .int .u64 0, .int .u64 0, .int .u64 0, .int .u64 0, .int .u64 0, .int .u64 0, .int .u64 0, .int .u64 0, .int .u64 0, .int .u64 0, .int .u64 0, .int .u64 0, .int .u64 0, .int .u64 0, .int .u64 0, .int .u64 0, .int .u64 0, .int .u64 0, .int .u64 0, .int .u64 0, .int .u64 0, .int .u64 0]
      have hsz3 : (t3.map u64v).toArray.size = 25 := by simpa using ht3l
      have hone3 : (t3.map u64v).toArray.all (·.oneCell') = true := by simp [u64v, Value.oneCell']
      have hT5 : Lanes ((w4.alloc (.cells #[.int .u64 0, .int .u64 0, .int .u64 0, .int .u64 0, .int .u64 0, .int .u64 0, .int .u64 0, .int .u64 0, .int .u64 0, .int .u64 0, .int .u64 0, .int .u64 0, .int .u64 0, .int .u64 0, .int .u64 0, .int .u64 0, .int .u64 0, .int .u64 0, .int .u64 0, .int .u64 0, .int .u64 0, .int .u64 0, .int .u64 0, .int .u64 0, .int .u64 0] 23)).setCells w4.heap.size 0 (t3.map u64v).toArray.toList) w4.heap.size 23 t3 := hB.setAll hsz3
      have hA5 : Lanes ((w4.alloc (.cells #[.int .u64 0, .int .u64 0, .int .u64 0, .int .u64 0, .int .u64 0, .int .u64 0, .int .u64 0, .int .u64 0, .int .u64 0, .int .u64 0, .int .u64 0, .int .u64 0, .int .u64 0, .int .u64 0, .int .u64 0, .int .u64 0, .int .u64 0, .int .u64 0, .int .u64 0, .int .u64 0, .int .u64 0, .int .u64 0, .int .u64 0, .int .u64 0, .int .u64 0] 23)).setCells w4.heap.size 0 (t3.map u64v).toArray.toList) w.heap.size 23 a1 := Blk.setAll_far (by omega) _ _ _ (hA4.alloc _)
      have hR5 : Blk ((w4.alloc (.cells #[.int .u64 0, .int .u64 0, .int .u64 0, .int .u64 0, .int .u64 0, .int .u64 0, .int .u64 0, .int .u64 0, .int .u64 0, .int .u64 0, .int .u64 0, .int .u64 0, .int .u64 0, .int .u64 0, .int .u64 0, .int .u64 0, .int .u64 0, .int .u64 0, .int .u64 0, .int .u64 0, .int .u64 0, .int .u64 0, .int .u64 0, .int .u64 0, .int .u64 0] 23)).setCells w4.heap.size 0 (t3.map u64v).toArray.toList) (w.heap.size + 1) 23 _ := Blk.setAll_far (by omega) _ _ _ (hR4.alloc _)
      have hG5 : w.grownBy ((w4.alloc (.cells #[.int .u64 0, .int .u64 0, .int .u64 0, .int .u64 0, .int .u64 0, .int .u64 0, .int .u64 0, .int .u64 0, .int .u64 0, .int .u64 0, .int .u64 0, .int .u64 0, .int .u64 0, .int .u64 0, .int .u64 0, .int .u64 0, .int .u64 0, .int .u64 0, .int .u64 0, .int .u64 0, .int .u64 0, .int .u64 0, .int .u64 0, .int .u64 0, .int .u64 0] 23)).setCells w4.heap.size 0 (t3.map u64v).toArray.toList) none := only_setCells (.inr (by omega)) _ _ _ (only_alloc hG4 _)
      have hZ5 : ((w4.alloc (.cells #[.int .u64 0, .int .u64 0, .int .u64 0, .int .u64 0, .int .u64 0, .int .u64 0, .int .u64 0, .int .u64 0, .int .u64 0, .int .u64 0, .int .u64 0, .int .u64 0, .int .u64 0, .int .u64 0, .int .u64 0, .int .u64 0, .int .u64 0, .int .u64 0, .int .u64 0, .int .u64 0, .int .u64 0, .int .u64 0, .int .u64 0, .int .u64 0, .int .u64 0] 23)).setCells w4.heap.size 0 (t3.map u64v).toArray.toList).heap.size = w4.heap.size + 1 := by rw [size_setCells_]; simp
      generalize (t3.map u64v).toArray = cs3 at *
      refine wpList_store_mid rfl 23 _ _ rfl w4.heap.size 0 cs3 rfl rfl (there_blk' hB hsz3) (by rw [hsz3]; kernel_rfl) hone3 ?_
      generalize (w4.alloc (.cells #[.int .u64 0, .int .u64 0, .int .u64 0, .int .u64 0, .int .u64 0, .int .u64 0, .int .u64 0, .int .u64 0, .int .u64 0, .int .u64 0, .int .u64 0, .int .u64 0, .int .u64 0, .int .u64 0, .int .u64 0, .int .u64 0, .int .u64 0, .int .u64 0, .int .u64 0, .int .u64 0, .int .u64 0, .int .u64 0, .int .u64 0, .int .u64 0, .int .u64 0] 23)).setCells w4.heap.size 0 cs3.toList = w5 at *
      clear hB hA4 hR4 hG4
      obtain ⟨B, hBB⟩ : ∃ b, w4.heap.size = b := ⟨_, rfl⟩
      rw [hBB] at hT5 hZ4 hZ5 ⊢
      clear hBB
      refine wpList_nil ?_
      go_wp2_with fail
      go_loopw [5] (fun i W => ∃ q : Nat, i = .int .i64 q ∧ q ≤ 25 ∧ Lanes W w.heap.size 23 (((List.finRange 25).take q).foldl (chiStep t3) a1) ∧ Lanes W B 23 t3 ∧ Blk W (w.heap.size + 1) 23 #[.int .u64 0, .int .u64 0, .int .u64 0, .int .u64 0, .int .u64 0, .int .u64 0, .int .u64 0, .int .u64 0, .int .u64 0, .int .u64 0, .int .u64 0, .int .u64 0, .int .u64 0, .int .u64 0, .int .u64 0, .int .u64 0, .int .u64 0, .int .u64 0, .int .u64 0, .int .u64 0, .int .u64 0, .int .u64 0, .int .u64 0, .int .u64 0, .int .u64 0] ∧ w.grownBy W none ∧ w.heap.size + 2 ≤ W.heap.size) (fun i _ => 25 - (intOf i).toNat)
      case atStart => exact ⟨0, rfl, by omega, hA5, hT5, hR5, hG5, by omega⟩
      case round =>
        clear hA5 hT5 hR5 hG5 hZ5
        obtain ⟨q, rfl, hq, hA, hT, hR, hG, hZ6⟩ := hrel
        have hal2 : (((List.finRange 25).take q).foldl (chiStep t3) a1).length = 25 := by rw [chi_len]; exact hal
        by_cases hlt2 : q < 25
        · have hst : ((List.finRange 25).take (q + 1)).foldl (chiStep t3) a1 = chiStep t3 (((List.finRange 25).take q).foldl (chiStep t3) a1) ⟨q, hlt2⟩ := by
            rw [take_snoc q hlt2, List.foldl_append, List.foldl_cons, List.foldl_nil]
          generalize ((List.finRange 25).take q).foldl (chiStep t3) a1 = a2 at *
          have hst2 : chiStep t3 a2 ⟨q, hlt2⟩ = a2.set q (t3.getD q 0 ^^^ (~~~ t3.getD (q - q % 5 + (q % 5 + 1) % 5) 0 &&& t3.getD (q - q % 5 + (q % 5 + 2) % 5) 0)) := rfl
          rw [hst2] at hst
          clear hst2
          obtain ⟨x, hx⟩ : ∃ x, q % 5 = x := ⟨_, rfl⟩
          obtain ⟨r, hr⟩ : ∃ r, q - x = r := ⟨_, rfl⟩
          obtain ⟨x1, hx1⟩ : ∃ z, (x + 1) % 5 = z := ⟨_, rfl⟩
          obtain ⟨x2, hx2⟩ : ∃ z, (x + 2) % 5 = z := ⟨_, rfl⟩
          obtain ⟨m1, hm1⟩ : ∃ z, r + x1 = z := ⟨_, rfl⟩
          obtain ⟨m2, hm2⟩ : ∃ z, r + x2 = z := ⟨_, rfl⟩
          rw [hx, hr, hx1, hx2, hm1, hm2] at hst
          have g1 := hT.cell (i := q) (by omega)
          have g2 := hT.cell (i := m1) (by omega)
          have g3 := hT.cell (i := m2) (by omega)
          have g4 := hA.cell (i := q) (by omega)
          have g5 := hA.frozen q
          generalize t3.getD q 0 = v1 at *
          generalize t3.getD m1 0 = v2 at *
          generalize t3.getD m2 0 = v3 at *
          generalize a2.getD q 0 = v4 at *
          obtain ⟨r1, hr1⟩ : ∃ r, ~~~ v2 = r := ⟨_, rfl⟩
          obtain ⟨r2, hr2⟩ : ∃ r, r1 &&& v3 = r := ⟨_, rfl⟩
          obtain ⟨r3, hr3⟩ : ∃ r, v1 ^^^ r2 = r := ⟨_, rfl⟩
          have b1 := bnot v2 r1 hr1
          have b2 := ba_is r1 v3 r2 hr2
          have b3 := bx_is v1 r2 r3 hr3
          rw [hr1, hr2, hr3] at hst
          have HS2 := Lib.hid hst
          have p0 : (q : Int).tmod 5 = (x : Int) := by rw [Int.tmod_eq_emod_of_nonneg (by omega)]; omega
          have p1 : IntKind.i64.wrap ((q : Int) - (x : Int)) = (r : Int) := by rw [IntWalk.i64_in _ (by omega)]; omega
          have p2 : IntKind.i64.wrap ((x : Int) + 1) = (x : Int) + 1 := IntWalk.i64_in _ (by omega)
          have p3 : ((x : Int) + 1).tmod 5 = (x1 : Int) := by rw [Int.tmod_eq_emod_of_nonneg (by omega)]; omega
          have p4 : IntKind.i64.wrap ((r : Int) + (x1 : Int)) = (m1 : Int) := by rw [IntWalk.i64_in _ (by omega)]; omega
          have p5 : IntKind.i64.wrap ((x : Int) + 2) = (x : Int) + 2 := IntWalk.i64_in _ (by omega)
          have p6 : ((x : Int) + 2).tmod 5 = (x2 : Int) := by rw [Int.tmod_eq_emod_of_nonneg (by omega)]; omega
          have p7 : IntKind.i64.wrap ((r : Int) + (x2 : Int)) = (m2 : Int) := by rw [IntWalk.i64_in _ (by omega)]; omega
          have q1 : (q : Int) < 25 := by omega
          have q2 : (m1 : Int) < 25 := by omega
          have q3 : (m2 : Int) < 25 := by omega
          clear hst hr1 hr2 hr3 hx hr hx1 hx2 hm1 hm2
          go_wp2_with fail
          go_still_tail 22, (by kernel_rfl)
          clear b1 b2 b3 p0 p1 p2 p3 p4 p5 p6 p7
          repeat go_step
          go_roundw
          case rel =>
            refine ⟨q + 1, by simp, by omega, ?_, ?_, ?_, ?_, ?_⟩
            · rw [HS2.out]
              exact (hA.set q r3).drew
            · exact (hT.far (p := ⟨w.heap.size, q, none⟩) (by show B ≠ w.heap.size; omega) _).drew
            · exact Blk.far hR (p := ⟨w.heap.size, q, none⟩) (by show w.heap.size + 1 ≠ w.heap.size; omega) _
            · exact only_drew (only_set hG (p := ⟨w.heap.size, q, none⟩) (Nat.le_refl _) _)
            · simpa [World.setCell] using hZ6
          case measure => simp [intOf]; omega
        · have e25 : (List.finRange 25).take q = List.finRange 25 := List.take_of_length_le (by simp; omega)
          have hfin : decide ((q : Int) < 25) = false := by simp; omega
          rw [e25] at hA hal2
          clear e25 hlt2 hq
          obtain ⟨c, hc⟩ : ∃ x, chiK t3 a1 = x := ⟨_, rfl⟩
          have hc2 : (List.finRange 25).foldl (chiStep t3) a1 = c := by rw [← hc]; unfold chiK; exact Eq.refl _
          rw [hc2] at hA hal2
          have hs2 := HS.out
          rw [hc] at hs2
          obtain ⟨v, hv⟩ : ∃ x, c.getD 0 0 = x := ⟨_, rfl⟩
          obtain ⟨r, hr⟩ : ∃ x, v ^^^ nk = x := ⟨_, rfl⟩
          rw [hv, hr] at hs2
          have g1 := hA.cell (i := 0) (by omega)
          have g2 := hA.frozen 0
          rw [hv] at g1
          have b1 := bx_is v nk r hr
          have HS2 := Lib.hid hs2
          have hnum := number_any k hlt nk HNK.out wr.drew
          clear hs2 hc hc2 hv hr
          go_wp2_with fail
          go_still_tail 6, (by kernel_rfl)
          still_call hnum
          repeat still_step
          refine wpStill_nil ?_
          clear hnum b1
          repeat go_step
          go_roundw
          case rel =>
            refine ⟨k + 1, by simp, by omega, ?_, ?_, ?_, ?_⟩
            · rw [HS2.out]
              exact (hA.set 0 r).drew
            · exact Blk.far hR (p := ⟨w.heap.size, 0, none⟩) (by show w.heap.size + 1 ≠ w.heap.size; omega) _
            · exact only_drew (only_set hG (p := ⟨w.heap.size, 0, none⟩) (Nat.le_refl _) _)
            · simpa [World.setCell] using hZ6
          case measure => simp [intOf]; omega
    · have e24 : numsL.take k = numsL := List.take_of_length_le (by rw [numsL_len]; omega)
      have hp : numsL.foldl roundR a = permuteR a := Eq.refl _
      rw [e24, hp] at hA hal
      have hfin : decide ((k : Int) < 24) = false := by simp; omega
      obtain ⟨a2, ha2⟩ : ∃ x, permuteR a = x := ⟨_, rfl⟩
      rw [ha2] at hA hal
      have HT2 := Lib.hid ha2
      clear hlt hk e24 ha2 hp
      unfold Lanes at hA
      have hsz : (a2.map u64v).toArray.size = 25 := by simpa using hal
      have hone : (a2.map u64v).toArray.all (·.oneCell') = true := by simp [u64v, Value.oneCell']
      obtain ⟨cs2, hcs2⟩ : ∃ x, (a2.map u64v).toArray = x := ⟨_, rfl⟩
      rw [hcs2] at hA hsz hone
      have HC2 := Lib.hid hcs2
      clear hcs2
      repeat (first | refine wpList_load_row rfl 23 (.tmp 1) rfl w.heap.size rfl 23 cs2 _ (.array 25 22) hA (by kernel_rfl) (by kernel_rfl) (by rw [hsz]; kernel_rfl) ?_ | refine wpList_store_mid rfl 23 (.tmp 2) (.tmp 53) rfl (w.heap.size + 1) 0 cs2 rfl rfl (there_blk' hR hsz) (by rw [hsz]; kernel_rfl) hone ?_ | go_step)
      have hR2 := hR.setAll (cs' := cs2) hsz
      exact bodyPost_ret (results_cell_row (g := w.heap.size + 1) rfl _ _ _ cs2 _ (.array 25 22) (by simp [Act.put]) hR2 (by kernel_rfl) (by kernel_rfl) (by rw [hsz]; kernel_rfl)) rfl ⟨by rw [HT2.out, HC2.out], only_setCells (.inr (by omega)) _ _ _ hG⟩
end Go.Proofs.Ytihkbhogapopdaa
