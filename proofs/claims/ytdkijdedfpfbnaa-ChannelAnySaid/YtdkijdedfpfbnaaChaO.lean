/- ChannelSplits, ChannelHears, ChannelCount: what they answer. -/
import Derived.Test.YtdkijdedfpfbnaaChaN
namespace Go.Proofs.Ytdkijdedfpfbnaa
open Go.RowKit Go.Shelf

theorem few_is (B : Nat) (A : Option Addr) (n c : Nat) (xs : List Frm) (b : Bool) (hb : fewF xs = b) (w : World) (h : Reads w B 4 A n (framesV xs)) :
    Calls Try.prog 13 #[.slice A n c] w fun e w' => e = .returned (.bool b) ∧ w = w' :=
  (few_any B A n c xs w h).mono fun _ _ ⟨h1, h2⟩ => ⟨by rw [h1, hb], h2.symm⟩
theorem few_le {xs : List Frm} (h : fewF xs = true) : xs.length ≤ 40 := by
  unfold fewF at h
  simp only [Bool.and_eq_true, decide_eq_true_eq] at h
  omega
theorem splitL_le (id d : ByteArray) (n : Int) : (splitL id d n).length ≤ 32 := by
  unfold splitL
  split
  · rename_i h
    unfold splitE at h
    split at h
    · cases h
    · rename_i h1
      split at h
      · cases h
      · split at h
        · cases h
        · have := splitN_le (len := d.data.toList.length) (n := n.toNat) (by omega) (by rw [ba_len]; omega)
          unfold splitL0
          rw [List.length_append, frames0_len, List.length_singleton]
          omega
  · simp
theorem splitR_is (id d : ByteArray) (n : Int) (E : Int) (L : List Frm) (k : Nat) (hE : splitE id d n = E) (hL : splitL id d n = L) (hk : L.length = k) (hn : -9223372036854775808 ≤ n ∧ n ≤ 9223372036854775807) (w : World) :
    Calls Try.prog 11 #[.string id, .string d, .int .i64 n] w fun e w' => ∃ A c, e = .returned (.tuple #[.slice A k c, .int .i64 E]) ∧ w'.ownsRow w.heap.size 30 4 (.slice A k c) k (framesV L) ∧ Below w.heap.size w w' := by
  refine (splitR_any id d n hn w).mono ?_
  rintro e w' ⟨v, rfl, hown, hb⟩
  rw [hL, hk] at hown
  obtain ⟨A, c, rfl⟩ := own_slice4 hown
  exact ⟨A, c, by rw [hE], hown, hb⟩

set_option maxRecDepth 100000 in
set_option maxHeartbeats 1000000 in
theorem splits_law (id d : ByteArray) (n : Int) (hid : id.size ≤ 9223372036854775807) (hd : d.size ≤ 9223372036854775807) (hn : -9223372036854775808 ≤ n ∧ n ≤ 9223372036854775807) (w : World) :
    Calls Try.prog 3 #[.string id, .string d, .int .i64 n] w fun e w' => e = .returned (.bool true) ∧ Below w.heap.size w w' := by
  obtain ⟨E, hE⟩ : ∃ E, splitE id d n = E := ⟨_, rfl⟩
  obtain ⟨L, hL⟩ : ∃ L, splitL id d n = L := ⟨_, rfl⟩
  obtain ⟨k, hk⟩ : ∃ k, L.length = k := ⟨_, rfl⟩
  have hk32 : k ≤ 32 := by rw [← hk, ← hL]; exact splitL_le id d n
  have s1 := fun W => split_is id d n E L k hE hL hk hn W
  have s2 := fun W => splitR_is id d n E L k hE hL hk hn W
  clear hE hL hk hn
  go_enter Try.func3, Try.ntmps3
  go_wp2_with fail
  refine (works_any _).mono ?_
  rintro e w1 ⟨rfl, hb1⟩
  by_cases h1 : id.size ≤ 100
  · have d1 : decide ((100 : Int) < (id.size : Int)) = false := decide_eq_false (by omega)
    have d1' : decide (100 < id.size) = false := decide_eq_false (by omega)
    by_cases h2 : d.size ≤ 600
    · have d2 : decide ((600 : Int) < (d.size : Int)) = false := decide_eq_false (by omega)
      have d2' : decide (600 < d.size) = false := decide_eq_false (by omega)
      go_wp2_with fail
      refine (s1 w1).mono ?_
      rintro e w2 ⟨A2, c2, rfl, ho2, hb⟩
      have hb2 := Below.then hb1 hb
      have R2 : CarR w2 w2.heap.size 4 A2 k (framesV L) := ⟨Nat.le_refl _, Reads.of_own ho2⟩
      clear hb1 hb s1 ho2
      go_wp2_with fail
      refine (s2 w2).mono ?_
      rintro e w3 ⟨A3, c3, rfl, ho3, hb⟩
      have hb3 := Below.then hb2 hb
      have R3 := R2.step hb
      have hr3 := Reads.of_own ho3
      clear hb2 hb s2 ho3 R2
      go_wp2_with fail
      refine (same_any _ _ _ _ k k _ _ L L w3 R3.reads hr3 (by omega) (by omega)).mono ?_
      rintro e w4 ⟨rfl, hb⟩
      have hb4 := Below.then hb3 hb
      clear hb3 hb R3 hr3
      simp only [decide_true]
      go_wp2_with fail
      go_ret
      exact ⟨by simp, hb4⟩
    · have d2 : (600 : Int) < (d.size : Int) := by omega
      go_wp2_with fail
      go_ret
      exact ⟨rfl, hb1⟩
  · have d1 : (100 : Int) < (id.size : Int) := by omega
    go_wp2_with fail
    go_ret
    exact ⟨rfl, hb1⟩

theorem addL_le (xs : List Frm) (f : Frm) : (addL xs f).length ≤ xs.length + 1 := by
  unfold addL
  split
  · simp; omega
  · omega

set_option maxRecDepth 100000 in
set_option maxHeartbeats 2000000 in
theorem hears_law (A : Option Addr) (n c : Nat) (xs : List Frm) (f : Frm) (w : World) (h : Reads w w.heap.size 4 A n (framesV xs)) :
    Calls Try.prog 4 #[.slice A n c, .agg #[.string f.id, .int .i64 f.num, .string f.data, .bool f.last]] w fun e w' => e = .returned (.bool true) ∧ Below w.heap.size w w' := by
  have hl : xs.length = n := by have := h.1; rw [framesV_len] at this; omega
  obtain ⟨b, hb⟩ : ∃ b, fewF xs = b := ⟨_, rfl⟩
  obtain ⟨b2, hbb⟩ : ∃ b, fewF [f] = b := ⟨_, rfl⟩
  have hnf : b = true → n ≤ 40 := by rintro rfl; have := few_le hb; omega
  obtain ⟨E, hE⟩ : ∃ e, addE xs f = e := ⟨_, rfl⟩
  obtain ⟨L, hL⟩ : ∃ e, addL xs f = e := ⟨_, rfl⟩
  obtain ⟨k, hk⟩ : ∃ k, L.length = k := ⟨_, rfl⟩
  have hkn : k ≤ n + 1 := by rw [← hk, ← hL, ← hl]; exact addL_le xs f
  have k1 := fun W hB hR hn => add_is w.heap.size A n c xs f E L k hE hL hk W hB hR hn
  have k2 : ∀ W, w.heap.size ≤ W.heap.size → Reads W w.heap.size 4 A n (framesV xs) → n ≤ 1000000 → Calls Try.prog 15 #[.slice A n c, .agg #[.string f.id, .int .i64 f.num, .string f.data, .bool f.last]] W fun e w' => ∃ A' c', e = .returned (.tuple #[.slice A' k c', .int .i64 E]) ∧ CarR w' w'.heap.size 4 A' k (framesV L) ∧ Below W.heap.size W w' := fun W hB hR hn => by
    refine (addR_any w.heap.size A n c xs f W hB hR hn).mono ?_
    rintro e w' ⟨A', n', c', rfl, _, hn', _, hr, hb⟩
    rw [hL] at hr hn'
    rw [hk] at hn'
    subst hn'
    exact ⟨A', c', by rw [hE], ⟨Nat.le_refl _, hr⟩, hb⟩
  obtain ⟨JL, hJL⟩ : ∃ S : ByteArray, (⟨(joinL xs).toArray⟩ : ByteArray) = S := ⟨_, rfl⟩
  obtain ⟨JE, hJE⟩ : ∃ e, joinE xs = e := ⟨_, rfl⟩
  obtain ⟨RB, hRB⟩ : ∃ e, readyF xs = e := ⟨_, rfl⟩
  have j1 := fun W hB hR hn => join_is w.heap.size A n c xs JE JL hJE hJL W hB hR hn
  have j2 := fun W hB hR hn => joinR_any w.heap.size A n c xs W hB hR hn
  have r1 := fun W hB hR hn => ready_is w.heap.size A n c xs RB hRB W hB hR hn
  have r2 := fun W hB hR hn => readyR_any w.heap.size A n c xs W hB hR hn
  rw [hJL, hJE] at j2
  rw [hRB] at r2
  have hfl : framesV [f] = [.string f.id, .int .i64 f.num, .string f.data, .bool f.last] := rfl
  have HB := Lib.hid hb; have HBB := Lib.hid hbb; have HF := Lib.hid hfl; have HNF := Lib.hid hnf
  obtain ⟨id, num, data, last⟩ := f
  simp only at k1 k2
  clear hl hb hbb hE hL hk hJL hJE hRB hfl hnf
  go_enter Try.func4, Try.ntmps4
  go_wp2_with fail
  have C0 : Car w (w.alloc (.cells #[.string id, .int .i64 num, .string data, .bool last] 30)) w.heap.size 30 #[.string id, .int .i64 num, .string data, .bool last] := ⟨(Below.refl _ _).alloc (Nat.le_refl _) _, Blk.new w 30 #[.string id, .int .i64 num, .string data, .bool last]⟩
  generalize w.alloc (.cells #[.string id, .int .i64 num, .string data, .bool last] 30) = w0 at *
  refine (works_any _).mono ?_
  rintro e w1 ⟨rfl, hb1⟩
  have C1 := C0.step hb1
  clear hb1 C0
  go_wp2_with fail
  refine (few_is w.heap.size A n c xs b HB.out w1 (h.below C1.below)).mono ?_
  rintro e w' ⟨rfl, rfl⟩
  cases b
  · go_wp2_with fail
    go_ret
    exact ⟨rfl, C1.below⟩
  have hn40 : n ≤ 40 := by first | exact HNF.out rfl | exact HNF.out trivial
  have hn6 : n ≤ 1000000 := by omega
  clear HNF
  have bk := C1.blk
  have e0 := bk.cell 0; have e1 := bk.cell 1; have e2 := bk.cell 2; have e3 := bk.cell 3
  simp only [List.getElem?_toArray, List.getElem?_cons_zero, List.getElem?_cons_succ] at e0 e1 e2 e3
  go_wp2_with fail
  have bn := Blk.new w1 30 #[.string id, .int .i64 num, .string data, .bool last]
  have C2 := C1.step ((Below.refl _ w1).alloc (Nat.le_refl _) (.cells #[.string id, .int .i64 num, .string data, .bool last] 30))
  have hz : (w1.alloc (.cells #[.string id, .int .i64 num, .string data, .bool last] 30)).heap.size = w1.heap.size + 1 := by simp
  generalize w1.alloc (.cells #[.string id, .int .i64 num, .string data, .bool last] 30) = w2 at *
  clear e0 e1 e2 e3 bk C1
  refine (few_is (w1.heap.size + 1) _ 1 1 [⟨id, num, data, last⟩] b2 HBB.out w2 (by rw [HF.out]; exact reads_blkN bn (by omega) 1 4 rfl)).mono ?_
  rintro e w' ⟨rfl, rfl⟩
  clear bn hz
  cases b2
  · go_wp2_with fail
    go_ret
    exact ⟨rfl, C2.below⟩
  have bk := C2.blk
  have e0 := bk.cell 0; have e1 := bk.cell 1; have e2 := bk.cell 2; have e3 := bk.cell 3
  simp only [List.getElem?_toArray, List.getElem?_cons_zero, List.getElem?_cons_succ] at e0 e1 e2 e3
  go_wp2_with fail
  refine (k1 w2 C2.below.size (h.below C2.below) hn6).mono ?_
  rintro e w3 ⟨A3, c3, rfl, R3, hb⟩
  have C3 := C2.step hb
  clear e0 e1 e2 e3 bk C2 k1 hb
  have bk := C3.blk
  have e0 := bk.cell 0; have e1 := bk.cell 1; have e2 := bk.cell 2; have e3 := bk.cell 3
  simp only [List.getElem?_toArray, List.getElem?_cons_zero, List.getElem?_cons_succ] at e0 e1 e2 e3
  go_wp2_with fail
  refine (k2 w3 C3.below.size (h.below C3.below) hn6).mono ?_
  rintro e w4 ⟨A4, c4, rfl, R4, hb⟩
  have C4 := C3.step hb
  replace R3 := R3.step hb
  clear e0 e1 e2 e3 bk C3 k2 hb
  go_wp2_with fail
  refine (same_any _ _ _ _ k k _ _ L L w4 R3.reads R4.reads (by omega) (by omega)).mono ?_
  rintro e w5 ⟨rfl, hb⟩
  have C5 := C4.step hb
  clear C4 hb R3 R4
  simp only [decide_true]
  go_wp2_with fail
  refine (r2 w5 C5.below.size (h.below C5.below) (by omega)).mono ?_
  rintro e w6 ⟨rfl, hg⟩
  have C6 := C5.step (below_of_grown hg)
  clear C5 hg r2
  go_wp2_with fail
  refine (j1 w6 C6.below.size (h.below C6.below) hn6).mono ?_
  rintro e w7 ⟨rfl, hb⟩
  have C7 := C6.step hb
  clear C6 hb j1
  go_wp2_with fail
  refine (j2 w7 C7.below.size (h.below C7.below) hn6).mono ?_
  rintro e w8 ⟨rfl, hg⟩
  have C8 := C7.step (below_of_grown hg)
  clear C7 hg j2
  go_wp2_with fail
  refine (r1 w8 C8.below.size (h.below C8.below) hn6).mono ?_
  rintro e w9 ⟨rfl, hb⟩
  have C9 := C8.step hb
  clear C8 hb r1
  go_wp2_with fail
  go_ret
  exact ⟨by simp, C9.below⟩

set_option maxRecDepth 100000 in
set_option maxHeartbeats 1000000 in
theorem count_law (id d : ByteArray) (n : Int) (hid : id.size ≤ 9223372036854775807) (hd : d.size ≤ 9223372036854775807) (hn : -9223372036854775808 ≤ n ∧ n ≤ 9223372036854775807) (w : World) :
    Calls Try.prog 8 #[.string id, .string d, .int .i64 n] w fun e w' => e = .returned (.bool true) ∧ Below w.heap.size w w' := by
  obtain ⟨E, hE⟩ : ∃ E, splitE id d n = E := ⟨_, rfl⟩
  obtain ⟨L, hL⟩ : ∃ L, splitL id d n = L := ⟨_, rfl⟩
  obtain ⟨k, hk⟩ : ∃ k, L.length = k := ⟨_, rfl⟩
  have s1 := fun W => split_is id d n E L k hE hL hk hn W
  have HE := Lib.hid hE; have HL := Lib.hid hL; have HK := Lib.hid hk
  clear hE hL hk
  go_enter Try.func8, Try.ntmps8
  go_wp2_with fail
  refine (works_any _).mono ?_
  rintro e w1 ⟨rfl, hb1⟩
  by_cases h1 : id.size ≤ 100
  · have d1 : decide ((100 : Int) < (id.size : Int)) = false := decide_eq_false (by omega)
    have d1' : decide (100 < id.size) = false := decide_eq_false (by omega)
    by_cases h2 : d.size ≤ 600
    · have d2 : decide ((600 : Int) < (d.size : Int)) = false := decide_eq_false (by omega)
      have d2' : decide (600 < d.size) = false := decide_eq_false (by omega)
      go_wp2_with fail
      refine (s1 w1).mono ?_
      rintro e w2 ⟨A2, c2, rfl, ho2, hb⟩
      have hb2 := Below.then hb1 hb
      clear hb1 hb s1 ho2
      by_cases h3 : n < 1 ∨ 4096 < n
      · have hE1 : E = 1 := by rw [← HE.out]; unfold splitE; rw [if_pos h3]
        subst hE1
        by_cases h4 : n < 1
        · have d4 : decide (n < 1) = true := decide_eq_true h4
          clear h3
          go_wp2_with fail
          go_ret
          exact ⟨by simp, hb2⟩
        · have d4 : decide (n < 1) = false := decide_eq_false h4
          have h5 : 4096 < n := by omega
          clear h3 h4
          go_wp2_with fail
          go_ret
          exact ⟨by simp, hb2⟩
      · obtain ⟨m, rfl⟩ := Int.eq_ofNat_of_zero_le (show 0 ≤ n by omega)
        have hm1 : 1 ≤ m := by omega
        have hm2 : m ≤ 4096 := by omega
        have d3 : decide ((m : Int) < 1) = false := decide_eq_false (by omega)
        have d3' : decide (m < 1) = false := decide_eq_false (by omega)
        have d4 : decide ((4096 : Int) < (m : Int)) = false := decide_eq_false (by omega)
        have d4' : decide (4096 < m) = false := decide_eq_false (by omega)
        by_cases h6 : id.size = 16
        · have d6 : ((id.size : Int) != 16) = false := by simp; omega
          obtain ⟨P, hP⟩ : ∃ P, partsN d.size m = P := ⟨_, rfl⟩
          have hPd : (d.size + m - 1) / m = P := hP
          have hPle : P ≤ 600 := by
            rcases Nat.lt_or_ge 600 P with h9 | h9
            · rw [← hP] at h9
              have := (parts_lt hm1).1 h9
              have h8 : 600 * 1 ≤ 600 * m := Nat.mul_le_mul_left _ hm1
              omega
            · exact h9
          have q1 : ((d.size : Int) + (m : Int) - 1) / (m : Int) = (P : Int) := by
            rw [← hPd, Int.natCast_ediv]
            congr 1
            omega
          have q2 : ((d.size : Int) + (m : Int) - 1).tdiv (m : Int) = (P : Int) := by rw [Int.tdiv_eq_ediv_of_nonneg (by omega)]; exact q1
          have q3 : IntKind.i64.wrap (P : Int) = (P : Int) := IntWalk.i64_in _ (by omega)
          have q4 : max (P : Int) 1 = ((max 1 P : Nat) : Int) := by omega
          have hSN : splitN d.data.toList.length m = max 1 P := by rw [ba_len]; unfold splitN; rw [hP]
          obtain ⟨N, hN⟩ : ∃ N, max 1 P = N := ⟨_, rfl⟩
          rw [hN] at q4 hSN
          have h32 : 32 < N ↔ 32 * m < d.size := by
            have := parts_lt (len := d.size) (n := m) (k := 32) hm1
            rw [hP] at this
            omega
          have q5 : ¬ (m : Int) = 0 := by omega
          have hN6 : N ≤ 600 := by omega
          have HSN := Lib.hid hSN; have H3 := Lib.hid h3; have H6 := Lib.hid h6; have H32 := Lib.hid h32
          clear hP hPd hN hSN h3 h6 h32
          by_cases h7 : 32 < N
          · have d7 : decide ((32 : Int) < (N : Int)) = true := decide_eq_true (by omega)
            have d7' : decide (32 < N) = true := decide_eq_true h7
            have hE5 : E = 5 := by
              rw [← HE.out]; unfold splitE
              rw [if_neg H3.out, if_neg (by rw [H6.out]; simp), if_pos (by have := H32.out.1 h7; omega)]
            have hk0 : k = 0 := by
              rw [← HK.out, ← HL.out]; unfold splitL; rw [if_neg (by rw [HE.out, hE5]; decide)]; rfl
            subst hE5; subst hk0
            clear h7
            go_wp2_with fail
            go_ret
            exact ⟨by simp, hb2⟩
          · have d7 : decide ((32 : Int) < (N : Int)) = false := decide_eq_false (by omega)
            have d7' : decide (32 < N) = false := decide_eq_false h7
            have hE0 : E = 0 := by
              rw [← HE.out]; unfold splitE
              rw [if_neg H3.out, if_neg (by rw [H6.out]; simp), if_neg (by have := H32.out; omega)]
            have hkN : k = N := by
              rw [← HK.out, ← HL.out]; unfold splitL
              rw [if_pos (by rw [HE.out, hE0])]
              show (splitL0 id d.data.toList m).length = N
              unfold splitL0
              rw [HSN.out, List.length_append, frames0_len, List.length_singleton]
              omega
            subst hE0; subst hkN
            clear h7
            go_wp2_with fail
            go_ret
            exact ⟨by simp, hb2⟩
        · have d6 : ((id.size : Int) != 16) = true := by simp; omega
          have hE2 : E = 2 := by rw [← HE.out]; unfold splitE; rw [if_neg h3, if_pos h6]
          subst hE2
          clear h3 h6
          go_wp2_with fail
          go_ret
          exact ⟨by simp, hb2⟩
    · have d2 : (600 : Int) < (d.size : Int) := by omega
      go_wp2_with fail
      go_ret
      exact ⟨rfl, hb1⟩
  · have d1 : (100 : Int) < (id.size : Int) := by omega
    go_wp2_with fail
    go_ret
    exact ⟨rfl, hb1⟩
end Go.Proofs.Ytdkijdedfpfbnaa
