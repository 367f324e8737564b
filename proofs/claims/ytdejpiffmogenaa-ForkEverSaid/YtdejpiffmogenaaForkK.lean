/- The call of ForkEver. -/
import Derived.Test.YtdejpiffmogenaaForkJ
namespace Go.Proofs.Ytdejpiffmogenaa
open Go.RowKit

theorem ever_eq {xs : List Int} (h : ck xs = 0) : everOf xs = (List.range xs.length).filter fun i => decide ((act xs (xs.getD i 0)).1 = (i : Int)) := (refEv_eq h).symm
theorem ever_mem {xs : List Int} (h : ck xs = 0) {i : Nat} : i ∈ everOf xs ↔ i < xs.length ∧ lastAt xs i = true := by
  rw [ever_eq h]
  simp only [List.mem_filter, List.mem_range, decide_eq_true_eq]
  constructor
  · rintro ⟨a, b⟩; exact ⟨a, (act_at h a).1 b⟩
  · rintro ⟨a, b⟩; exact ⟨a, (act_at h a).2 b⟩
theorem ever_nil {xs : List Int} (h : ck xs ≠ 0) : everOf xs = [] := by unfold everOf; rw [if_neg h]
theorem ever_last {xs : List Int} (h : ck xs = 0) : ∃ l, everOf xs = l ++ [xs.length - 1] := by
  have hz := ck_zero h
  rw [← refEv_eq h]
  obtain ⟨m, hm⟩ : ∃ m, xs.length = m + 1 := ⟨xs.length - 1, by omega⟩
  rw [hm]
  refine ⟨refEv xs m, ?_⟩
  rw [refEv_hit]
  · simp
  · rw [act_at h (by omega)]
    unfold lastAt
    simp; omega
theorem ever_pair {xs : List Int} (h : ck xs = 0) : (everOf xs).Pairwise (· < ·) := by
  rw [ever_eq h]
  exact List.Pairwise.filter _ List.pairwise_lt_range
theorem ever_item {xs : List Int} (h : ck xs = 0) {i : Nat} (hi : i < (everOf xs).length) :
    (everOf xs).getD i 0 < xs.length ∧ act xs (xs.getD ((everOf xs).getD i 0) 0) = ((((everOf xs).getD i 0 : Nat) : Int), (0 : Int)) ∧ frm xs (((everOf xs).getD i 0 : Nat) : Int) = (xs.getD ((everOf xs).getD i 0) 0, 0) := by
  have hm : (everOf xs).getD i 0 ∈ everOf xs := by
    rw [List.getD_eq_getElem?_getD, List.getElem?_eq_getElem hi]
    exact List.getElem_mem _
  obtain ⟨a, b⟩ := (ever_mem h).1 hm
  refine ⟨a, ?_, ?_⟩
  · have e := (act_at h a).2 b
    have e0 : (act xs (xs.getD ((everOf xs).getD i 0) 0)).2 = 0 := by
      unfold act at e ⊢
      rw [if_pos h] at e ⊢
      split
      · rename_i h0
        exfalso
        have := cnt_stop (xs := xs) (t := xs.getD ((everOf xs).getD i 0) 0) (by have := (ck_zero h).1; omega)
        rw [h0] at this
        have := srt_le (ck_zero h).2.2 ((everOf xs).getD i 0) 0 (by omega)
        rw [Nat.zero_add] at this
        omega
      · rfl
    exact Prod.ext e e0
  · unfold frm
    rw [if_pos h, if_neg (by omega), Int.toNat_natCast]
theorem ever_step {xs : List Int} (h : ck xs = 0) {i : Nat} (hi : i + 1 < (everOf xs).length) : (everOf xs).getD i 0 < (everOf xs).getD (i + 1) 0 := by
  have hp := List.pairwise_iff_getElem.1 (ever_pair h) i (i + 1) (by omega) hi (by omega)
  rw [List.getD_eq_getElem?_getD, List.getD_eq_getElem?_getD, List.getElem?_eq_getElem hi, List.getElem?_eq_getElem (by omega : i < (everOf xs).length)]
  exact hp
theorem ever_met {xs : List Int} {t : Int} (h : (act xs t).2 = 0) : ∃ i : Nat, (act xs t).1 = (i : Int) ∧ i ∈ everOf xs := by
  obtain ⟨hc, h1, h2⟩ := act_ok h
  refine ⟨cnt xs t - 1, by omega, (ever_mem hc).2 ⟨by have := cnt_le xs t; omega, ?_⟩⟩
  unfold lastAt
  simp only [Bool.or_eq_true, decide_eq_true_eq]
  have hl := cnt_le xs t
  by_cases hn : cnt xs t = xs.length
  · left; omega
  · right
    have a := cnt_at (xs := xs) (t := t) (i := cnt xs t - 1) (by omega)
    have b := cnt_stop (xs := xs) (t := t) (by omega)
    rw [show cnt xs t - 1 + 1 = cnt xs t by omega]
    omega
def metB (xs : List Int) (t : Int) (k : Nat) : Bool := decide ((act xs t).2 ≠ 0) || ((everOf xs).take k).any fun i => decide ((act xs t).1 = (i : Int))
theorem metB_zero (xs : List Int) (t : Int) : metB xs t 0 = ((act xs t).2 != 0) := by
  unfold metB
  simp only [List.take_zero, List.any_nil, Bool.or_false]
  rw [Bool.eq_iff_iff]; simp
theorem metB_all {xs : List Int} {t : Int} : metB xs t (everOf xs).length = true := by
  unfold metB
  by_cases h : (act xs t).2 = 0
  · obtain ⟨i, h1, h2⟩ := ever_met h
    simp only [List.take_length, Bool.or_eq_true, List.any_eq_true, decide_eq_true_eq]
    right
    exact ⟨i, h2, h1⟩
  · simp [h]
theorem metB_succ {xs : List Int} {t : Int} {k : Nat} (hk : k < (everOf xs).length) : metB xs t (k + 1) = (metB xs t k || decide ((act xs t).1 = (((everOf xs).getD k 0 : Nat) : Int))) := by
  unfold metB
  rw [List.take_succ_eq_append_getElem hk, List.any_append, Bool.or_assoc]
  congr 1
  congr 1
  rw [List.getD_eq_getElem?_getD, List.getElem?_eq_getElem hk]
  simp

theorem Reads.nats {w : World} {B n k : Nat} {A : Option Addr} {l : List Nat} (h : Reads w B 1 A n (l.map iv)) (hk : k < n) :
    ∃ b off, A = some ⟨b, off, none⟩ ∧ b < B ∧ ∀ j, j < n → w.cell? ⟨b, off + j, none⟩ = some (.int .i64 ((l.getD j 0 : Nat) : Int)) := by
  have hl : l.length = n := by simpa using h.1
  have e : l.map iv = (l.map (fun k : Nat => (k : Int))).map (Value.int .i64) := by rw [List.map_map]; rfl
  rw [e] at h
  obtain ⟨b, off, hA, hb, hc⟩ := h.ints hk
  refine ⟨b, off, hA, hb, fun j hj => ?_⟩
  rw [hc j hj]
  simp only [List.getD_eq_getElem?_getD, List.getElem?_map]
  rw [List.getElem?_eq_getElem (by omega)]
  rfl

set_option maxRecDepth 100000 in
set_option maxHeartbeats 4000000 in
theorem everlaw_any (A : Option Addr) (n c : Nat) (xs : List Int) (t : Int) (w : World) (h : Reads w w.heap.size 1 A n (xs.map (Value.int .u64))) :
    Calls Try.prog 6 #[.agg #[.slice A n c], .int .u64 t] w fun e w' => e = .returned (.bool true) ∧ Below w.heap.size w w' := by
  have hl : xs.length = n := by simpa using h.1
  have HL := Lib.hid hl
  have s0 := LS.start (c := c) h
  clear h hl
  go_enter Try.func6, Try.ntmps6
  go_wp2_with fail
  generalize w.alloc (.cells #[.slice A n c] 24) = W at *
  refine (works_any _).mono ?_
  rintro e w1 ⟨rfl, hb1⟩
  have s1 := s0.step hb1
  clear s0 hb1
  have c1 := s1.box.cell
  go_wp2_with fail
  refine (ever_any _ _ _ _ xs _ s1.le s1.reads).mono ?_
  rintro e w2 ⟨v, rfl, hown, hb2⟩
  have s2 := s1.step hb2
  obtain ⟨A2, cap2, rfl, hr2⟩ := own_slice hown
  clear s1 hb2 c1 hown
  have c2 := s2.box.cell
  go_wp2_with fail
  refine (check_any _ _ _ _ xs _ s2.le s2.reads).mono ?_
  rintro e w3 ⟨rfl, hb3⟩
  have s3 := s2.step hb3
  have hr3 := (hr2.below hb3).more hb3.size
  clear s2 hb3 c2 hr2
  have c3 := s3.box.cell
  by_cases hck : ck xs = 0
  · have HCK := Lib.hid hck
    rw [hck]
    obtain ⟨L0, hL0⟩ := ever_last hck
    have hle := ever_len xs
    have hlx : xs.length = n := HL.out
    have hz := ck_zero hck
    obtain ⟨q, hq⟩ : ∃ q, (everOf xs).length = q + 1 := ⟨L0.length, by rw [hL0]; simp⟩
    have hlast : (everOf xs).getD q 0 = n - 1 := by
      have : L0.length = q := by rw [hL0] at hq; simpa using hq
      rw [hL0, ← this]
      simp [hlx]
    have hqn : q + 1 ≤ n := by omega
    have hn6 : n ≤ 6 := by omega
    have hqi : ((q : Int) + 1) ≤ (n : Int) := by omega
    rw [hq] at hr3 ⊢
    have HQ := Lib.hid hq
    obtain ⟨b2, o2, rfl, hb2, hcs⟩ := hr3.nats (k := q) (by omega)
    have HCS := Lib.hid hcs
    have cl : w3.cell? ⟨b2, o2 + q, none⟩ = some (.int .i64 ((n : Int) - 1)) := by
      rw [hcs q (by omega), hlast]
      congr 2
      omega
    clear hck hL0 hle hlx hz hq hlast hcs
    have hq0 : decide ((q : Int) + 1 < 1) = false := by simp; omega
    have hq1 : decide ((n : Int) < (q : Int) + 1) = false := by simp; omega
    have hq2 : (q : Int) + 1 - 1 = (q : Int) := by omega
    have hq3 : (q : Int) < (q : Int) + 1 := by omega
    go_wp2_with fail
    go_quiet (fail)
    go_wp2_with fail
    clear hq0 hq1 hq2 cl
    have s4 : LS A n c xs w (w3.drewN nq) := s3.step (below_drewN (Below.refl _ _) _)
    have hr4 := hr3.drewN nq
    have HM0 := Lib.hid (metB_zero xs t)
    have hz4 : w3.heap.size ≤ (w3.drewN nq).heap.size := Nat.le_refl _
    refine (active_any _ _ _ _ xs _ _ s4.le s4.reads).mono ?_
    clear s3 hr3 c3 HCS
    generalize w3.drewN nq = w4 at *
    rintro e w5 ⟨rfl, hb5⟩
    have s5 := s4.step hb5
    have hr5 := (hr4.below (hb5.mono (by omega))).more (B' := w5.heap.size) (by have := hb5.size; omega)
    clear s4 hr4 hb5
    obtain ⟨a, ha⟩ : ∃ a, (act xs t).1 = a := ⟨_, rfl⟩
    obtain ⟨e, he⟩ : ∃ e, (act xs t).2 = e := ⟨_, rfl⟩
    rw [ha, he]
    rw [he] at HM0
    have HA := Lib.hid ha
    clear ha he
    go_wp2_with fail
    go_loopw [9, 10] (fun m i wr => ∃ k : Nat, i = .int .i64 k ∧ k ≤ q + 1 ∧ m = .bool (metB xs t k) ∧ LS A n c xs w wr ∧ Below w5.heap.size w5 wr) (fun _ i _ => q + 1 - (intOf i).toNat)
    case atStart => exact ⟨0, rfl, by omega, by rw [HM0.out], s5, Below.refl _ _⟩
    case round =>
      obtain ⟨k, rfl, hk, rfl, sr, hbr⟩ := hrel
      have cr := sr.box.cell
      by_cases hlt : k < q + 1
      · obtain ⟨b3, o3, hA3, hb3, hcs⟩ := (hr5.below hbr).nats (k := k) hlt
        obtain ⟨rfl, rfl⟩ : b2 = b3 ∧ o2 = o3 := by simpa using hA3
        clear hA3
        have hkl := hcs k hlt
        have hit := ever_item HCK.out (i := k) (by rw [HQ.out]; exact hlt)
        have hms := metB_succ (t := t) (xs := xs) (k := k) (by rw [HQ.out]; exact hlt)
        have hst : 0 < k → (everOf xs).getD (k - 1) 0 < (everOf xs).getD k 0 := fun h0 => by
          have := ever_step HCK.out (i := k - 1) (by rw [HQ.out]; omega)
          rwa [show k - 1 + 1 = k by omega] at this
        rw [HA.out] at hms
        have HCS := Lib.hid hcs
        generalize (everOf xs).getD k 0 = lk at *
        obtain ⟨_, hact, hfrm⟩ := hit
        generalize xs.getD lk 0 = xk at *
        have HACT := Lib.hid hact; have HFRM := Lib.hid hfrm; have HMS := Lib.hid hms; have HST := Lib.hid hst
        have SR := hide sr
        have hki : (k : Int) < (q : Int) + 1 := by omega
        have hb3w : b2 < wr.heap.size := by have := hbr.size; omega
        have hw0 : w.heap.size < wr.heap.size := sr.size
        clear hact hfrm hms hst hcs sr
        go_wp2_with fail
        go_region_held3 (fun w' => w'.cell? ⟨w.heap.size, 0, none⟩ = some (.slice A n c) ∧ w'.cell? ⟨b2, o2 + k, none⟩ = some (.int .i64 (lk : Int)))
          (first | go_keep | exact ⟨((unhide SR).drew.step hb6).box.cell, (hb6.cell (p := ⟨b2, o2 + k, none⟩) (by simp; omega)).trans hkl⟩)
          (first | (go_at_call 12; refine (from_any w.heap.size _ _ _ xs _ _ ?_ ?_).mono ?_; (exact (unhide SR).drew.le); (exact (unhide SR).drew.reads); rintro e w6 ⟨rfl, hb6⟩))
        have s6 := (unhide SR).drew.step hb6
        have hbr6 : Below w5.heap.size w5 w6 := hbr.trans ((Below.drew (Below.refl _ _)).trans (hb6.mono (by simp; exact hbr.size)))
        have hbw6 : Below wr.heap.size wr w6 := (Below.drew (Below.refl _ _)).trans hb6
        rw [HFRM.out]
        clear SR hb6 hbr
        have c6 := s6.box.cell
        go_wp2_with fail
        refine (active_any _ _ _ _ xs _ _ s6.le s6.reads).mono ?_
        rintro e7 w7 ⟨rfl, hb7⟩
        have s7 := s6.step hb7
        have hbr7 := hbr6.trans (hb7.mono (by have := hbr6.size; omega))
        have hbw7 : Below wr.heap.size wr w7 := hbw6.trans (hb7.mono (by have := hbw6.size; omega))
        have hck7 : w7.cell? ⟨b2, o2 + k, none⟩ = some (.int .i64 (lk : Int)) := (hbw7.cell (p := ⟨b2, o2 + k, none⟩) hb3w).trans hkl
        have HBW := hide hbw7
        have SR7 := hide s7
        have HB7 := hide hbr7
        rw [HACT.out]
        clear s6 hb7 hbr6 c6 s7 hbw6 hbw7 hbr7 hkl cr
        rcases Nat.eq_zero_or_pos k with hk0 | hk0
        · have hk1 : decide (0 < k) = false := by simp; omega
          have hk0' := Lib.hid hk0
          have hk2 : (0 : Int) ≤ (k : Int) := by omega
          clear hk0
          go_wp2_with fail
          go_quiet (fail)
          cases hmb : metB xs t k
          all_goals
            rw [hmb] at HMS
            go_wp2_with fail
            refine ⟨⟨k + 1, by go_num, by omega, ?_, (unhide SR7).step (below_drewN (Below.refl _ _) _), below_drewN (unhide HB7) _⟩, by simp [intOf]; omega⟩
            rw [HMS.out]
            rfl
        · obtain ⟨j, rfl⟩ : ∃ j, k = j + 1 := ⟨k - 1, by omega⟩
          have hj := HCS.out j (by omega)
          have hj7 := ((unhide HBW).cell (p := ⟨b2, o2 + j, none⟩) hb3w).trans hj
          have hlt2 := HST.out hk0
          rw [show j + 1 - 1 = j by omega] at hlt2
          clear hj
          generalize (everOf xs).getD j 0 = lj at *
          have hle : decide (lk ≤ lj) = false := by simp; omega
          have hk1 : (0 : Int) < (j : Int) + 1 := by omega
          have hk2 : (0 : Int) ≤ (j : Int) + 1 := by omega
          have hk3 : ((j : Int) + 1).toNat = j + 1 := by omega
          have hk4 : (j : Int) + 1 - 1 = (j : Int) := by omega
          have hk5 : (j : Int) < (q : Int) + 1 := by omega
          have hk6 : (j : Int) + 1 < (q : Int) + 1 := by omega
          clear hk0 hlt2
          go_wp2_with fail
          go_quiet (fail)
          cases hmb : metB xs t (j + 1)
          all_goals
            rw [hmb] at HMS
            go_wp2_with fail
            refine ⟨⟨j + 1 + 1, by go_num, by omega, ?_, (unhide SR7).step (below_drewN (Below.refl _ _) _), below_drewN (unhide HB7) _⟩, by simp [intOf]; omega⟩
            rw [HMS.out]
            rfl
      · obtain rfl : k = q + 1 := by omega
        have hmt := metB_all (xs := xs) (t := t)
        rw [HQ.out] at hmt
        rw [hmt]
        have SB := hide sr.below
        clear hmt
        go_wp2_with fail
        go_ret
        exact ⟨rfl, SB⟩
  · have hne : (ck xs != 0) = true := by simpa using hck
    have he : (everOf xs).length = 0 := by rw [ever_nil hck]; rfl
    rw [he]
    clear hck he
    go_wp2_with fail
    go_ret
    exact ⟨rfl, s3.below⟩
end Go.Proofs.Ytdejpiffmogenaa
