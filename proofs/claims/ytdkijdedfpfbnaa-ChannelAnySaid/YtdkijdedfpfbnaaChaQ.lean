/- ChannelBack: what it answers. -/
import Derived.Test.YtdkijdedfpfbnaaChaP
namespace Go.Proofs.Ytdkijdedfpfbnaa
open Go.RowKit Go.Shelf

set_option maxRecDepth 100000 in
set_option maxHeartbeats 2000000 in
theorem back_law (id d : ByteArray) (n : Int) (hid : id.size ≤ 9223372036854775807) (hd : d.size ≤ 9223372036854775807) (hn : -9223372036854775808 ≤ n ∧ n ≤ 9223372036854775807) (w : World) :
    Calls Try.prog 5 #[.string id, .string d, .int .i64 n] w fun e w' => e = .returned (.bool true) ∧ Below w.heap.size w w' := by
  obtain ⟨E, hE⟩ : ∃ E, splitE id d n = E := ⟨_, rfl⟩
  obtain ⟨L, hL⟩ : ∃ L, splitL id d n = L := ⟨_, rfl⟩
  obtain ⟨N, hk⟩ : ∃ k, L.length = k := ⟨_, rfl⟩
  have s1 := fun W => split_is id d n E L N hE hL hk hn W
  have HE := Lib.hid hE; have HL := Lib.hid hL; have HK := Lib.hid hk
  clear hE hL hk
  go_enter Try.func5, Try.ntmps5
  go_wp2_with fail
  refine (works_any _).mono ?_
  rintro e w1 ⟨rfl, hb1⟩
  by_cases h1 : id.size ≤ 100
  · have d1 : decide ((100 : Int) < (id.size : Int)) = false := decide_eq_false (by omega)
    have d1' : decide (100 < id.size) = false := decide_eq_false (by omega)
    by_cases h2 : d.size ≤ 600
    · have d2 : decide ((600 : Int) < (d.size : Int)) = false := decide_eq_false (by omega)
      have d2' : decide (600 < d.size) = false := decide_eq_false (by omega)
      go_wp2_with fail
      refine (s1 w1).mono ?_
      rintro e w2 ⟨A2, c2, rfl, ho2, hb⟩
      have hb2 := Below.then hb1 hb
      have R2 : CarR w2 w2.heap.size 4 A2 N (framesV L) := ⟨Nat.le_refl _, Reads.of_own ho2⟩
      clear hb1 hb s1 ho2
      by_cases hE0 : E = 0
      · obtain ⟨m, rfl, hm1, hm2, hi16, hLL, hN32⟩ := splitE_ok (HE.out.trans hE0)
        rw [HL.out] at hLL
        have hNN : N = splitN d.data.toList.length m := by rw [← HK.out, hLL, splitL0_len]
        rw [← hNN] at hN32
        have hN1 : 1 ≤ N := by rw [hNN]; unfold splitN; omega
        have hj := splitL0_join id d.data.toList m hm1 hi16 hm2 (by omega)
        have hr := splitL0_ready id d.data.toList m hi16 hm2 (by omega)
        rw [← hLL] at hj hr
        have hJ : (⟨(joinL L).toArray⟩ : ByteArray) = d := ba_ext (by rw [hj.2])
        have hat : ∀ k, k < N → ∃ P : ByteArray, L.getD k Frm.none_ = ⟨id, (k : Int), P, decide (k + 1 = N)⟩ ∧ P.size ≤ m ∧ (k + 1 < N → P.size = m) ∧ checkF ⟨id, (k : Int), P, decide (k + 1 = N)⟩ = 0 := by
          intro k hk
          have a := splitL0_at id d.data.toList m k (by omega)
          have b := splitL0_check id d.data.toList m k hi16 hm2 (by omega) (by omega)
          rw [a] at b
          rw [← hLL, ← hNN] at a
          rw [← hNN] at b
          exact ⟨_, a, partB_size _ _ _, fun h => part_full _ _ _ hm1 (by omega), b⟩
        have j1 := fun W hB hR hn => join_is w2.heap.size A2 N c2 L 0 d hj.1 hJ W hB hR hn
        have r1 := fun W hB hR hn => ready_is w2.heap.size A2 N c2 L true hr W hB hR hn
        have HAT := Lib.hid hat
        subst hE0
        clear HE HL HK hLL hNN hj hr hJ hat hi16 hd hn
        go_wp2_with fail
        refine (j1 w2 (Nat.le_refl _) R2.reads (by omega)).mono ?_
        rintro e w3 ⟨rfl, hb⟩
        have hb3 := Below.then hb2 hb
        have R3 := R2.step hb
        clear hb2 hb j1 R2
        generalize w2.heap.size = B at *
        go_wp2_with fail
        go_loopw [12] (fun i wr => ∃ k : Nat, i = .int .i64 (k : Int) ∧ k ≤ N ∧ Below w3.heap.size w3 wr) (fun i _ => N - (intOf i).toNat)
        case atStart => exact ⟨0, rfl, by omega, Below.refl _ _⟩
        case round =>
          obtain ⟨k, rfl, hk, hG⟩ := hrel
          have R4 := R3.step hG
          have hb4 := Below.then hb3 hG
          by_cases hlt : k < N
          · obtain ⟨b, off, rfl, hbb, hc⟩ := R4.reads.frames hlt
            obtain ⟨c0, c1, c2, c3⟩ := hc k hlt
            obtain ⟨P, hP, hP1, hP2, hP3⟩ := HAT.out k hlt
            rw [hP] at c0 c1 c2 c3
            simp only at c0 c1 c2 c3
            have hck := fun W => check_any ⟨id, (k : Int), P, decide (k + 1 = N)⟩ W
            rw [hP3] at hck
            simp only at hck
            have HP2 := Lib.hid hP2
            have hzb : b < wr.heap.size := by have := R4.le; omega
            have q0 : (k : Int) < (N : Int) := by omega
            have q1 : decide ((m : Int) < (P.size : Int)) = false := decide_eq_false (by omega)
            have q2 : decide (m < P.size) = false := decide_eq_false (by omega)
            obtain ⟨lst, hlst⟩ : ∃ x, decide (k + 1 = N) = x := ⟨_, rfl⟩
            rw [hlst] at c3 hck
            clear hP3 hP hP2 hc R4 hb4 hlst
            go_wp2_with fail
            refine (hck wr).mono ?_
            rintro e w4 ⟨rfl, hg⟩
            have hG4 := Below.then_grown hG hg
            have hw4 := below_of_grown hg
            replace c0 := (hw4.cell (p := ⟨b, off + k * 4, none⟩) hzb).trans c0
            replace c1 := (hw4.cell (p := ⟨b, off + k * 4 + 1, none⟩) hzb).trans c1
            replace c2 := (hw4.cell (p := ⟨b, off + k * 4 + 2, none⟩) hzb).trans c2
            clear c3 hg hw4 hck hG
            by_cases hk1 : k + 1 < N
            · have hPm := HP2.out hk1
              have p1 : decide ((k : Int) + 1 < (N : Int)) = true := decide_eq_true (by omega)
              have p1' : decide (k + 1 < N) = true := decide_eq_true hk1
              have p2 : ((P.size : Int) != (m : Int)) = false := by simp [hPm]
              have p3 : (P.size != m) = false := by simp [hPm]
              clear hPm
              go_wp2_with fail
              exact ⟨⟨k + 1, by simp, by omega, hG4⟩, by simp [intOf]; omega⟩
            · have p1 : decide ((k : Int) + 1 < (N : Int)) = false := decide_eq_false (by omega)
              have p1' : decide (k + 1 < N) = false := decide_eq_false hk1
              go_wp2_with fail
              exact ⟨⟨k + 1, by simp, by omega, hG4⟩, by simp [intOf]; omega⟩
          · have q1 : decide ((k : Int) < (N : Int)) = false := decide_eq_false (by omega)
            have q2 : decide (k < N) = false := decide_eq_false hlt
            have t1 : decide ((1 : Int) ≤ (N : Int)) = true := decide_eq_true (by omega)
            have t1' : decide (1 ≤ N) = true := decide_eq_true (by omega)
            have t2 : decide ((N : Int) ≤ 32) = true := decide_eq_true (by omega)
            have t2' : decide (N ≤ 32) = true := decide_eq_true (by omega)
            go_wp2_with fail
            refine (r1 wr R4.le R4.reads (by omega)).mono ?_
            rintro e w5 ⟨rfl, hb⟩
            have hb5 := Below.then hb4 hb
            clear hb4 hb r1 R4
            go_wp2_with fail
            go_ret
            exact ⟨by simp, hb5⟩
      · have hL0 := HL.out
        rw [splitL_bad (by rw [HE.out]; exact hE0)] at hL0
        have hN0 : N = 0 := by rw [← HK.out, ← hL0]; rfl
        subst hN0
        have e1 : (E != 0) = true := by simpa using hE0
        clear hE0 hL0
        go_wp2_with fail
        go_ret
        exact ⟨by simp, hb2⟩
    · have d2 : (600 : Int) < (d.size : Int) := by omega
      go_wp2_with fail
      go_ret
      exact ⟨rfl, hb1⟩
  · have d1 : (100 : Int) < (id.size : Int) := by omega
    go_wp2_with fail
    go_ret
    exact ⟨rfl, hb1⟩
end Go.Proofs.Ytdkijdedfpfbnaa
