/- ChannelKeeps: what it answers. -/
import Derived.Test.YtdkijdedfpfbnaaChaR
namespace Go.Proofs.Ytdkijdedfpfbnaa
open Go.RowKit Go.Shelf

set_option maxRecDepth 100000 in
set_option maxHeartbeats 4000000 in
theorem keeps_law (A : Option Addr) (n c : Nat) (xs : List Frm) (f : Frm) (w : World) (h : Reads w w.heap.size 4 A n (framesV xs)) :
    Calls Try.prog 7 #[.slice A n c, .agg #[.string f.id, .int .i64 f.num, .string f.data, .bool f.last]] w fun e w' => e = .returned (.bool true) ∧ Below w.heap.size w w' := by
  have hl : xs.length = n := by have := h.1; rw [framesV_len] at this; omega
  obtain ⟨b, hb⟩ : ∃ b, fewF xs = b := ⟨_, rfl⟩
  obtain ⟨b2, hbb⟩ : ∃ b, fewF [f] = b := ⟨_, rfl⟩
  have hnf : b = true → n ≤ 40 := by rintro rfl; have := few_le hb; omega
  obtain ⟨E, hE⟩ : ∃ e, addE xs f = e := ⟨_, rfl⟩
  obtain ⟨L, hL⟩ : ∃ e, addL xs f = e := ⟨_, rfl⟩
  obtain ⟨k, hk⟩ : ∃ k, L.length = k := ⟨_, rfl⟩
  have hkn : k ≤ n + 1 := by rw [← hk, ← hL, ← hl]; exact addL_le xs f
  have hbad : E ≠ 0 → L = xs := fun h0 => by rw [← hL]; unfold addL; rw [if_neg (by rw [hE]; exact h0)]
  have hok : E = 0 → addE L f = 13 ∧ k = n + 1 ∧ ∃ p, p ≤ n ∧ L.getD p Frm.none_ = f ∧ (∀ i, i < p → L.getD i Frm.none_ = xs.getD i Frm.none_ ∧ xs.getD i Frm.none_ ≠ f) ∧ (∀ i, p < i → i ≤ n → L.getD i Frm.none_ = xs.getD (i - 1) Frm.none_ ∧ xs.getD (i - 1) Frm.none_ ≠ f) := by
    rintro rfl
    obtain ⟨p, p1, p2, p3, p4, p5⟩ := keeps_at hE
    rw [hL] at p2 p3 p4 p5
    refine ⟨?_, by omega, p, by omega, p3, p4, by rw [← hl]; exact p5⟩
    rw [← hL]
    exact addE_twice (addL_heard hE) (addL_mem hE)
  have k1 := fun W hB hR hn => add_is w.heap.size A n c xs f E L k hE hL hk W hB hR hn
  have k2 := fun B A' n' c' W hE2 hB hR hn => addE_is B A' n' c' L f 13 hE2 W hB hR hn
  have hfl : framesV [f] = [.string f.id, .int .i64 f.num, .string f.data, .bool f.last] := rfl
  have HB := Lib.hid hb; have HBB := Lib.hid hbb; have HF := Lib.hid hfl; have HNF := Lib.hid hnf
  have HBAD := Lib.hid hbad; have HOK := Lib.hid hok; have HL := Lib.hid hl; have HKK := Lib.hid hk
  obtain ⟨id, num, data, last⟩ := f
  simp only at k1 k2
  clear hl hb hbb hE hL hk hfl hnf hbad hok
  go_enter Try.func7, Try.ntmps7
  go_wp2_with fail
  have C0 : Car w (w.alloc (.cells #[.string id, .int .i64 num, .string data, .bool last] 30)) w.heap.size 30 #[.string id, .int .i64 num, .string data, .bool last] := ⟨(Below.refl _ _).alloc (Nat.le_refl _) _, Blk.new w 30 #[.string id, .int .i64 num, .string data, .bool last]⟩
  generalize w.alloc (.cells #[.string id, .int .i64 num, .string data, .bool last] 30) = w0 at *
  refine (works_any _).mono ?_
  rintro e w1 ⟨rfl, hb1⟩
  have C1 := C0.step hb1
  clear hb1 C0
  go_wp2_with fail
  refine (few_is w.heap.size A n c xs b HB.out w1 (h.below C1.below)).mono ?_
  rintro e w' ⟨rfl, rfl⟩
  cases b
  · go_wp2_with fail
    go_ret
    exact ⟨rfl, C1.below⟩
  have hn40 : n ≤ 40 := by first | exact HNF.out rfl | exact HNF.out trivial
  have hn6 : n ≤ 1000000 := by omega
  clear HNF
  have bk := C1.blk
  have e0 := bk.cell 0; have e1 := bk.cell 1; have e2 := bk.cell 2; have e3 := bk.cell 3
  simp only [List.getElem?_toArray, List.getElem?_cons_zero, List.getElem?_cons_succ] at e0 e1 e2 e3
  go_wp2_with fail
  have bn := Blk.new w1 30 #[.string id, .int .i64 num, .string data, .bool last]
  have C2 := C1.step ((Below.refl _ w1).alloc (Nat.le_refl _) (.cells #[.string id, .int .i64 num, .string data, .bool last] 30))
  have hz : (w1.alloc (.cells #[.string id, .int .i64 num, .string data, .bool last] 30)).heap.size = w1.heap.size + 1 := by simp
  generalize w1.alloc (.cells #[.string id, .int .i64 num, .string data, .bool last] 30) = w2 at *
  clear e0 e1 e2 e3 bk C1
  refine (few_is (w1.heap.size + 1) _ 1 1 [⟨id, num, data, last⟩] b2 HBB.out w2 (by rw [HF.out]; exact reads_blkN bn (by omega) 1 4 rfl)).mono ?_
  rintro e w' ⟨rfl, rfl⟩
  clear bn hz
  cases b2
  · go_wp2_with fail
    go_ret
    exact ⟨rfl, C2.below⟩
  have bk := C2.blk
  have e0 := bk.cell 0; have e1 := bk.cell 1; have e2 := bk.cell 2; have e3 := bk.cell 3
  simp only [List.getElem?_toArray, List.getElem?_cons_zero, List.getElem?_cons_succ] at e0 e1 e2 e3
  go_wp2_with fail
  refine (k1 w2 C2.below.size (h.below C2.below) hn6).mono ?_
  rintro e w3 ⟨A3, c3, rfl, R3, hb⟩
  have C3 := C2.step hb
  clear e0 e1 e2 e3 bk C2 k1 hb
  by_cases hE0 : E = 0
  · obtain ⟨hE2, rfl, p, hp, hLp, hL1, hL2⟩ := HOK.out hE0
    subst hE0
    have H1 := Lib.hid hLp; have H2 := Lib.hid hL1; have H3 := Lib.hid hL2
    have bk := C3.blk
    have e0 := bk.cell 0; have e1 := bk.cell 1; have e2 := bk.cell 2; have e3 := bk.cell 3
    simp only [List.getElem?_toArray, List.getElem?_cons_zero, List.getElem?_cons_succ] at e0 e1 e2 e3
    have k3 := fun W hB hR => k2 w3.heap.size A3 (n + 1) c3 W hE2 hB hR (by omega)
    clear hLp hL1 hL2 k2 hE2 HBAD HOK
    go_wp2_with fail
    refine (k3 w3 (Nat.le_refl _) R3.reads).mono ?_
    rintro e w4 ⟨A4, n4, c4, rfl, hb⟩
    have C4 := C3.step hb
    replace R3 := R3.step hb
    clear e0 e1 e2 e3 bk C3 hb k3
    generalize w3.heap.size = B at *
    have hX := h.below C4.below
    have bk := C4.blk
    have g0 := bk.cell 0; have g1 := bk.cell 1; have g2 := bk.cell 2; have g3 := bk.cell 3
    simp only [List.getElem?_toArray, List.getElem?_cons_zero, List.getElem?_cons_succ] at g0 g1 g2 g3
    have hB4 := C4.below
    clear bk C4 h
    have HB4 := Lib.hid hB4
    clear hB4
    go_wp2_with fail
    go_loopw [12, 13, 14] (fun m k i wr => ∃ (j q : Nat), m = .bool (decide (p < j)) ∧ k = .int .i64 ((if j ≤ p then j else j - 1 : Nat) : Int) ∧ i = .int .i64 (j : Int) ∧ j ≤ n + 1 ∧ wr = w4.drewN q) (fun _ _ i _ => n + 1 - (intOf i).toNat)
    case atStart => exact ⟨0, 0, by simp, by simp, rfl, by omega, rfl⟩
    case round =>
      obtain ⟨j, q, rfl, rfl, rfl, hj, rfl⟩ := hrel
      by_cases hlt : j < n + 1
      · obtain ⟨b', off', rfl, _, hc'⟩ := R3.reads.frames hlt
        obtain ⟨d0, d1, d2, d3⟩ := hc' j hlt
        have q0 : (j : Int) < ((n + 1 : Nat) : Int) := by omega
        have q0' : (j : Int) < (n : Int) + 1 := by omega
        by_cases hjp : j = p
        · subst hjp
          rw [H1.out] at d0 d1 d2 d3
          have heq := fun W => eq_frame ⟨id, num, data, last⟩ ⟨id, num, data, last⟩ W
          rw [decide_eq_true rfl] at heq
          simp only at heq
          clear hc' hX R3
          go_wp2_with fail
          go_quiet (fail)
          go_wp2_with fail
          exact ⟨⟨j + 1, _, by simp, by rw [if_neg (by omega)]; simp, by simp, by omega, rfl⟩, by simp [intOf]; omega⟩
        · obtain ⟨k, hk1, hk2, hk3, hk4, hk5, hk6⟩ : ∃ k, (if j ≤ p then j else j - 1) = k ∧ k < n ∧ L.getD j Frm.none_ = xs.getD k Frm.none_ ∧ xs.getD k Frm.none_ ≠ ⟨id, num, data, last⟩ ∧ k + 1 = (if j + 1 ≤ p then j + 1 else j + 1 - 1) ∧ decide (p < j) = decide (p < j + 1) := by
            by_cases h1 : j < p
            · have := H2.out j h1
              exact ⟨j, if_pos (by omega), by omega, this.1, this.2, (if_pos (by omega)).symm, by rw [decide_eq_false (by omega), decide_eq_false (by omega)]⟩
            · have := H3.out j (by omega) (by omega)
              exact ⟨j - 1, if_neg (by omega), by omega, this.1, this.2, by rw [if_neg (by omega)]; omega, by rw [decide_eq_true (by omega), decide_eq_true (by omega)]⟩
          rw [hk1]
          obtain ⟨b, off, rfl, _, hc⟩ := hX.frames hk2
          obtain ⟨c0, c1, c2, c3⟩ := hc k hk2
          rw [hk3] at d0 d1 d2 d3
          have HK4 := Lib.hid hk4; have HK5 := Lib.hid hk5; have HK6 := Lib.hid hk6
          generalize xs.getD k Frm.none_ = x at *
          have heq := fun W => eq_frame x ⟨id, num, data, last⟩ W
          have heq2 := fun W => eq_frame x x W
          rw [decide_eq_false HK4.out] at heq
          rw [decide_eq_true rfl] at heq2
          obtain ⟨xi, xn, xd, xl⟩ := x
          simp only at heq heq2 c0 c1 c2 c3 d0 d1 d2 d3
          have z1 : decide ((n : Int) ≤ (k : Int)) = false := decide_eq_false (by omega)
          have z2 : decide (n ≤ k) = false := decide_eq_false (by omega)
          have z3 : (k : Int) < (n : Int) := by omega
          generalize decide (p < j) = mt at *
          clear hc' hX R3 hk1 hk3 hk4 hk5 hk6 hc hjp
          go_wp2_with fail
          go_quiet (fail)
          go_wp2_with fail
          go_quiet (fail)
          go_wp2_with fail
          exact ⟨⟨j + 1, _, by rw [HK6.out], by rw [← HK5.out]; simp, by simp, by omega, rfl⟩, by simp [intOf]; omega⟩
      · obtain rfl : j = n + 1 := by omega
        have z1 : decide (p < n + 1) = true := decide_eq_true (by omega)
        have z2 : (if n + 1 ≤ p then n + 1 else n + 1 - 1) = n := by rw [if_neg (by omega)]; omega
        rw [z1, z2]
        clear R3 hX hlt H1 H2 H3
        go_wp2_with fail
        go_ret
        exact ⟨by simp, below_drewN HB4.out _⟩
  · obtain rfl := HBAD.out hE0
    have e1 : (E != 0) = true := by simpa using hE0
    obtain rfl : n = k := by rw [← HL.out, HKK.out]
    clear HBAD HOK k2
    go_wp2_with fail
    refine (same_any _ _ _ _ n n _ _ L L w3 (h.below C3.below) R3.reads (by omega) (by omega)).mono ?_
    rintro e w5 ⟨rfl, hb⟩
    have C5 := C3.step hb
    simp only [decide_true]
    go_wp2_with fail
    go_ret
    exact ⟨by simp, C5.below⟩
end Go.Proofs.Ytdkijdedfpfbnaa
