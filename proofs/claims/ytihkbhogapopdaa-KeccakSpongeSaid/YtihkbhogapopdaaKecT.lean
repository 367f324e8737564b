/- works of layer 3: it answers true. -/
import Derived.Test.YtihkbhogapopdaaKecS
namespace Go.Proofs.Ytihkbhogapopdaa
open Go.RowKit Go.Shelf

theorem sum_lit (l r : List UInt8) (h : sumL l = r) (hl : l.length ≤ 1000) (w : World) :
    Calls Try.prog 14 #[.string ⟨l.toArray⟩] w fun e w' => e = .returned (.string ⟨r.toArray⟩) ∧ w.grownBy w' none := by
  rw [← h]
  exact sum_any ⟨l.toArray⟩ (by show l.toArray.size ≤ _; simp; omega) w

set_option maxRecDepth 100000 in
set_option maxHeartbeats 1000000 in
theorem works_any (w : World) :
    Calls Try.prog 8 #[] w fun e w' => e = .returned (.bool true) ∧ w.grownBy w' none := by
  go_enter Try.func8, Try.ntmps8
  have h0 := permute_any (List.replicate 25 0) (by simp) w
  obtain ⟨p, hp⟩ : ∃ p, permuteK (List.replicate 25 0) = p := ⟨_, rfl⟩
  have hpl : p.length = 25 := by rw [← hp, permute_len]; simp
  have hp0 : p.getD 0 0 = 0xF1258F7940E1DDE7#64 := by rw [← hp]; exact perm_zero
  rw [hp] at h0
  obtain ⟨cs, hcs⟩ : ∃ cs, ((List.replicate 25 (0 : BitVec 64)).map u64v).toArray = cs := ⟨_, rfl⟩
  rw [hcs] at h0
  obtain ⟨cs2, hcs2⟩ : ∃ cs, (p.map u64v).toArray = cs := ⟨_, rfl⟩
  have hcs2z : cs2.size = 25 := by rw [← hcs2]; simpa using hpl
  have hone : cs2.all (·.oneCell') = true := by rw [← hcs2]; simp [u64v, Value.oneCell']
  have hc0 : cs2[0]? = some (.int .u64 17376452488221285863) := by
    rw [← hcs2, List.getElem?_toArray, List.getElem?_map, List.getElem?_eq_getElem (by omega)]
    rw [List.getD_eq_getElem?_getD, List.getElem?_eq_getElem (by omega)] at hp0
    simp only [Option.getD_some] at hp0
    rw [hp0]
    rfl
  rw [hcs2] at h0
  refine wp_seq ?_
  repeat (first | refine wpList_build rfl 23 #[] cs rfl (by rw [← hcs]; kernel_rfl) (veiled ?_) | go_step)
  refine ⟨?_⟩
  refine wpList_step fun K hK => ?_
  go_simp
  refine h0.mono ?_
  rintro e w1 ⟨rfl, hg1⟩
  go_simp
  refine hK _ _ ?_
  clear hK K h0
  refine wpList_step fun K hK => ?_
  go_simp
  refine hK _ _ ?_
  clear hK K
  have hB := Blk.new w1 23 (Array.replicate 25 (.int .u64 0))
  simp only [Array.replicate_succ, Array.replicate_zero, List.push_toArray, List.nil_append, List.cons_append] at hB
  refine wpList_store_mid rfl 23 _ _ rfl w1.heap.size 0 cs2 rfl rfl (there_blk' hB hcs2z) (by rw [hcs2z]; kernel_rfl) hone ?_
  refine wpList_nil ?_
  have hP := hB.setAll (cs' := cs2) hcs2z
  have hG : w.grownBy ((w1.alloc (.cells #[.int .u64 0, .int .u64 0, .int .u64 0, .int .u64 0, .int .u64 0, .int .u64 0, .int .u64 0, .int .u64 0, .int .u64 0, .int .u64 0, .int .u64 0, .int .u64 0, .int .u64 0, .int .u64 0, .int .u64 0, .int .u64 0, .int .u64 0, .int .u64 0, .int .u64 0, .int .u64 0, .int .u64 0, .int .u64 0, .int .u64 0, .int .u64 0, .int .u64 0] 23)).setCells w1.heap.size 0 cs2.toList) none := only_setCells (.inr hg1.size) _ _ _ (only_alloc (grown_self (World.grownBy.refl _ _) hg1 (by simp)) _)
  generalize (w1.alloc (.cells #[.int .u64 0, .int .u64 0, .int .u64 0, .int .u64 0, .int .u64 0, .int .u64 0, .int .u64 0, .int .u64 0, .int .u64 0, .int .u64 0, .int .u64 0, .int .u64 0, .int .u64 0, .int .u64 0, .int .u64 0, .int .u64 0, .int .u64 0, .int .u64 0, .int .u64 0, .int .u64 0, .int .u64 0, .int .u64 0, .int .u64 0, .int .u64 0, .int .u64 0] 23)).setCells w1.heap.size 0 cs2.toList = w2 at *
  generalize hb : w1.heap.size = b at *
  have hbw : w.heap.size ≤ b := by rw [← hb]; exact hg1.size
  clear hB hg1 hb hcs hcs2 hp hpl hp0
  go_wp2_with fail
  refine (sum_lit [] _ sum_none (by decide) _).mono ?_
  rintro e w3 ⟨rfl, hg3⟩
  go_wp2_with fail
  refine (sum_lit [97, 98, 99] _ sum_abc (by decide) _).mono ?_
  rintro e w4 ⟨rfl, hg4⟩
  go_wp2_with fail
  refine (pad_any 135 (by omega) _).mono ?_
  rintro e w5 ⟨rfl, hg5⟩
  rw [show padL (136 - 135 % 136) = [129] by decide]
  go_wp2_with fail
  refine (pad_bad (-1) (by omega) _).mono ?_
  rintro e w6 ⟨rfl, rfl⟩
  have hP5 := ((hP.grown hg3 (by simp)).grown hg4 (by simp)).grown hg5 (by simp)
  have hG5 := grown_self (grown_self (grown_self hG hg3 (by simp)) hg4 (by simp)) hg5 (by simp)
  have hc := hP5.cell 0
  rw [hc0] at hc
  go_wp2_with fail
  go_ret
  exact ⟨by simp, hG5⟩
end Go.Proofs.Ytihkbhogapopdaa
