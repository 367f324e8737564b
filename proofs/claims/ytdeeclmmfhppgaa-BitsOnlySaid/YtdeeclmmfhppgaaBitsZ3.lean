/- BitsOnly: what it answers. -/
import Derived.Test.YtdeeclmmfhppgaaBitsZ2
namespace Go.Proofs.Ytdeeclmmfhppgaa
open Go.RowKit Go.Shelf

set_option maxRecDepth 100000 in
set_option maxHeartbeats 1000000 in
theorem only_law (s : ByteArray) (at_ n : Int) (hs : s.size ≤ 9223372036854775807) (hn1 : -9223372036854775808 ≤ n ∧ n ≤ 9223372036854775807) (ha1 : -9223372036854775808 ≤ at_ ∧ at_ ≤ 9223372036854775807) (w : World) :
    Calls Try.prog 5 #[.string s, .int .i64 at_, .int .i64 n] w fun e w' => e = .returned (.bool true) ∧ Below w.heap.size w w' := by
  go_enter Try.func5, Try.ntmps5
  by_cases hs5 : s.size ≤ 500
  · have d1 : decide ((500 : Int) < (s.size : Int)) = false := by simp; omega
    go_wp2_with fail
    refine (works_any _).mono ?_
    rintro e w1 ⟨rfl, hb1⟩
    have c1 := unpack_any s n (by omega) w1
    obtain ⟨e0, he0⟩ : ∃ e, unpackE s.data.toList n = e := ⟨_, rfl⟩
    obtain ⟨L, hL⟩ : ∃ e, unpackL s.data.toList n = e := ⟨_, rfl⟩
    rw [he0, hL] at c1
    obtain ⟨M, t, f, hU⟩ : ∃ M t f, unrowS s.data.toList at_ n = (M, t, f) := ⟨_, _, _, rfl⟩
    have hE0 : e0 ≠ 0 → L = [] := by intro h; rw [← hL]; exact unpack_bad _ _ (by rw [he0]; exact h)
    have hE1 : e0 = 0 → (L.length : Int) = n ∧ packL L = s.data.toList := by
      intro h; rw [h] at he0; rw [← hL]; exact ⟨unpackL_len _ _ he0, pack_unpack _ _ he0⟩
    have hF0 : f ≠ 0 → M = [] ∧ t = 0 := by
      intro h
      have := unrowS_bad s.data.toList at_ n (by rw [hU]; exact h)
      rw [hU] at this
      exact this
    have hF1 : f = 0 → ∃ a : Nat, at_ = (a : Int) ∧ (M.length : Int) = n ∧ a ≤ t ∧ t ≤ s.size ∧ (s.data.toList.drop a).take (t - a) = rowL M ∧ M.length ≤ 4096 ∧ ∀ x ∈ M, 0 ≤ x ∧ x ≤ 18446744073709551615 := by
      intro h
      rw [h] at hU
      have := unrowS_only _ _ _ _ _ hU
      rwa [ba_len] at this
    have HE0 := Lib.hid hE0; have HE1 := Lib.hid hE1; have HF0 := Lib.hid hF0; have HF1 := Lib.hid hF1
    have HUU := Lib.hid hU
    clear hE0 hE1 hF0 hF1 he0 hL hU
    go_wp2_with fail
    refine c1.mono ?_
    rintro e w2 ⟨v2, rfl, hown, hg⟩
    obtain ⟨A2, cc2, rfl, hr2⟩ := own_slice hown
    have hb2 := Below.then hb1 hg
    have R2 : CarR w2 w2.heap.size A2 L.length (L.map Value.bool) := ⟨Nat.le_refl _, hr2⟩
    clear c1 hg hb1 hown hr2
    have c2 := unrow_any s at_ n (by omega) w2
    rw [HUU.out] at c2
    go_wp2_with fail
    refine c2.mono ?_
    rintro e w3 ⟨v3, rfl, hown, hg⟩
    obtain ⟨A3, cc3, rfl, hr3⟩ := own_slice hown
    have hb3 := Below.then hb2 hg
    have R3 := R2.step hg
    have S3 : CarR w3 w3.heap.size A3 M.length (M.map (Value.int .u64)) := ⟨Nat.le_refl _, hr3⟩
    clear c2 hg hb2 R2 hown hr3 HUU
    by_cases hf : f = 0
    · obtain ⟨a, rfl, hM, hat, hts, hrow, hM4, hwf⟩ := HF1.out hf
      subst hf
      obtain ⟨k, rfl⟩ := Int.eq_ofNat_of_zero_le (show 0 ≤ n by omega)
      have hMk : M.length = k := by omega
      subst hMk
      have q1 : decide ((t : Int) < (a : Int)) = false := by simp; omega
      have q2 : decide ((s.size : Int) < (t : Int)) = false := by simp; omega
      have q4 : decide (t < a) = false := by simp; omega
      have q5 : decide (s.size < t) = false := by simp; omega
      have q3 : ((M.length : Int) != (M.length : Int)) = false := by simp
      have hrw := fun W hW hr => row_any w3.heap.size A3 M.length cc3 M W hW hr hwf (by omega)
      obtain ⟨rk, hrk⟩ : ∃ p : ByteArray, (⟨(rowL M).toArray⟩ : ByteArray) = p := ⟨_, rfl⟩
      have q6 : (rk.toList == (s.extract a t).toList) = true := by
        have hx : rk = s.extract a t := by
          rw [← hrk]
          have hy : (s.extract a t).data.toList = rowL M := by rw [Lib.extract_data, hrow]
          rw [← hy]
        rw [hx]; exact beq_self_eq_true _
      rw [hrk] at hrw
      clear hrk hrow
      by_cases he : e0 = 0
      · subst he
        obtain ⟨hLn, hpk⟩ := HE1.out rfl
        have hLk : L.length = M.length := by omega
        have hls : s.size = (M.length + 7) / 8 := by rw [← ba_len, ← hpk, packL_len, hLk]
        have h1 : ((L.length : Int) == (M.length : Int)) = true := by simp; omega
        have hLb : L.length ≤ 8000 := by omega
        have HPK := Lib.hid hpk
        clear hpk hLn hLk hls hM
        go_wp2_with fail
        have hC0 : (fun W => Below w3.heap.size w3 W) w3.drew := ⟨rfl, rfl, rfl, Nat.le_refl _, fun _ _ => rfl⟩
        refine wp_region_class (fun W => Below w3.heap.size w3 W) (by kernel_rfl) (by kernel_rfl) hC0 ?_
        have hcc := class_const hC0
        (try simp only [Act.put])
        (repeat go_big_quiet_step (fail))
        refine wpQuiet_enter rfl (.string rk) 13 #[.slice A3 M.length cc3] (fun W hW => exec_call1 _ (.tmp 73) _ rfl _ rfl (enters_of Try.func13 (by kernel_rfl) rfl _ W)) (fun W hW => (hrw W hW.size (S3.reads.below hW)).mono fun e w' ⟨he, hg⟩ => ⟨he, Below.then hW hg⟩) ?_
        simp only [Act.put, List.setIfInBounds_toArray, List.set_cons_zero, List.set_cons_succ]
        (repeat go_big_quiet_step (fail))
        refine wpQuiet_nil ?_
        intro w4 hw4
        have hb4 := Below.then hb3 hw4
        have R4 := R3.step hw4
        clear hcc hC0 hw4
        have c3 := pack_any w2.heap.size A2 L.length cc2 L w4 R4.le R4.reads (by omega)
        rw [HPK.out] at c3
        go_wp2_with fail
        refine c3.mono ?_
        rintro e w5 ⟨rfl, hg⟩
        have hb5 := Below.then_grown hb4 hg
        go_wp2_with fail
        go_ret
        exact ⟨by simp, hb5⟩
      · have hLe := HE0.out he
        subst hLe
        have hne3 : (e0 != 0) = true := by simpa using he
        have hne4 : (e0 == 0) = false := by simpa using he
        clear he
        go_wp2_with fail
        have hC0 : (fun W => Below w3.heap.size w3 W) w3.drew := ⟨rfl, rfl, rfl, Nat.le_refl _, fun _ _ => rfl⟩
        refine wp_region_class (fun W => Below w3.heap.size w3 W) (by kernel_rfl) (by kernel_rfl) hC0 ?_
        have hcc := class_const hC0
        (try simp only [Act.put])
        (repeat go_big_quiet_step (fail))
        refine wpQuiet_enter rfl (.string rk) 13 #[.slice A3 M.length cc3] (fun W hW => exec_call1 _ (.tmp 73) _ rfl _ rfl (enters_of Try.func13 (by kernel_rfl) rfl _ W)) (fun W hW => (hrw W hW.size (S3.reads.below hW)).mono fun e w' ⟨he, hg⟩ => ⟨he, Below.then hW hg⟩) ?_
        simp only [Act.put, List.setIfInBounds_toArray, List.set_cons_zero, List.set_cons_succ]
        (repeat go_big_quiet_step (fail))
        refine wpQuiet_nil ?_
        intro w4 hw4
        have hb4 := Below.then hb3 hw4
        clear hcc hC0 hw4
        go_wp2_with fail
        go_ret
        exact ⟨rfl, hb4⟩
    · have hne : (f != 0) = true := by simpa using hf
      have hne2 : (f == 0) = false := by simpa using hf
      obtain ⟨rfl, rfl⟩ := HF0.out hf
      clear hf
      by_cases he : e0 = 0
      · obtain ⟨hLn, hpk⟩ := HE1.out he
        subst he
        obtain ⟨k, rfl⟩ := Int.eq_ofNat_of_zero_le (show 0 ≤ n by omega)
        have hLk : L.length = k := by omega
        have hls : s.size = (k + 7) / 8 := by rw [← ba_len, ← hpk, packL_len, hLk]
        have c3 := fun q => pack_any w2.heap.size A2 L.length cc2 L (w3.drewN q) R3.le (R3.reads.drewN q) (by omega)
        rw [hpk] at c3
        have h1 : ((L.length : Int) == (k : Int)) = true := by simp; omega
        clear hpk hLn hLk hls
        go_wp2_with fail
        go_quiet (fail)
        have c4 := c3 nq
        clear c3
        go_wp2_with fail
        refine c4.mono ?_
        rintro e w4 ⟨rfl, hg⟩
        have hb4 := Below.then_grown (below_drewN hb3 nq) hg
        go_wp2_with fail
        go_ret
        exact ⟨by simp, hb4⟩
      · have hLe := HE0.out he
        subst hLe
        have hne3 : (e0 != 0) = true := by simpa using he
        have hne4 : (e0 == 0) = false := by simpa using he
        clear he
        go_wp2_with fail
        go_quiet (fail)
        go_wp2_with fail
        go_ret
        exact ⟨rfl, below_drewN hb3 nq⟩
  · have d1 : (500 : Int) < (s.size : Int) := by omega
    go_wp2_with fail
    refine (works_any _).mono ?_
    rintro e w1 ⟨rfl, hb1⟩
    go_wp2_with fail
    go_ret
    exact ⟨rfl, hb1⟩
end Go.Proofs.Ytdeeclmmfhppgaa
