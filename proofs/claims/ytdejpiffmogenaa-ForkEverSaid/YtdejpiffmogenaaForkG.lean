/- The fixed facts of layer 12's statements: they stand. -/
import Derived.Test.YtdejpiffmogenaaForkF
namespace Go.Proofs.Ytdejpiffmogenaa
open Go.RowKit

theorem reads_blk {w : World} {b B : Nat} {t : TypeId} {cs : Array Value} {fr : Nat × Nat} (h : w.heap[b]? = some (.cells cs t fr)) (hB : b < B) (n : Nat) (hn : n = cs.size) : Reads w B 1 (some ⟨b, 0, none⟩) n cs.toList := by
  refine ⟨by simp [hn], fun _ => ⟨⟨b, 0, none⟩, rfl, hB, fun j u hu => ?_⟩⟩
  have e : (⟨b, 0, none⟩ : Addr).add j = ⟨b, j, none⟩ := by
    unfold Addr.add
    by_cases hj : j = 0
    · subst hj; simp
    · simp [hj]
  rw [e]
  simpa [World.cell?, h] using hu
theorem own_slice {w : World} {base : Nat} {e : TypeId} {v : Value} {n : Nat} {xs : List Value} (h : w.ownsRow base e 1 v n xs) : ∃ A c, v = .slice A n c ∧ Reads w w.heap.size 1 A n xs := by
  rcases h.2 with ⟨rfl, h0⟩ | ⟨g, cap, cur, rfl, _⟩
  · obtain rfl : xs = [] := List.eq_nil_of_length_eq_zero (by rw [h.1, h0])
    refine ⟨none, 0, by rw [h0], by rw [h0]; exact Reads.none_⟩
  · exact ⟨_, _, rfl, Reads.of_own h⟩

/-- what the fixed facts' schedule is in a world -/
structure WS (w W : World) : Prop where
  reads : Reads W (w.heap.size + 2) 1 (some ⟨w.heap.size, 0, none⟩) 3 (([5, 9, 9] : List Int).map (Value.int .u64))
  cell : W.cell? ⟨w.heap.size + 1, 0, none⟩ = some (.slice (some ⟨w.heap.size, 0, none⟩) 3 3)
  below : Below w.heap.size w W
  size : w.heap.size + 2 ≤ W.heap.size
theorem WS.step {w W W' : World} (h : WS w W) (hb : Below W.heap.size W W') : WS w W' :=
  ⟨h.reads.below (hb.mono h.size), (hb.cell (p := ⟨w.heap.size + 1, 0, none⟩) (by have := h.size; show w.heap.size + 1 < _; omega)).trans h.cell, h.below.trans (hb.mono (by have := h.size; omega)), by have := h.size; have := hb.size; omega⟩

set_option maxRecDepth 100000 in
set_option maxHeartbeats 2000000 in
theorem works_any (w : World) : Calls Try.prog 8 #[] w fun e w' => e = .returned (.bool true) ∧ Below w.heap.size w w' := by
  go_enter Try.func8, Try.ntmps8
  go_wp2_with fail
  have s0 : WS w ((w.alloc (.cells #[.int .u64 5, .int .u64 9, .int .u64 9] 25)).alloc (.cells #[.slice (some ⟨w.heap.size, 0, none⟩) 3 3] 24)) := by
    have b0 := (Blk.new w 25 #[.int .u64 5, .int .u64 9, .int .u64 9]).alloc (.cells #[.slice (some ⟨w.heap.size, 0, none⟩) 3 3] 24)
    have b1 := Boxed.new (w.alloc (.cells #[.int .u64 5, .int .u64 9, .int .u64 9] 25)) 24 (.slice (some ⟨w.heap.size, 0, none⟩) 3 3)
    rw [World.size_alloc] at b1
    exact ⟨reads_blk b0 (by omega) 3 rfl, b1.cell, ((Below.refl _ w).alloc (Nat.le_refl _) _).alloc (by simp) _, by simp⟩
  generalize (w.alloc (.cells #[.int .u64 5, .int .u64 9, .int .u64 9] 25)).alloc (.cells #[.slice (some ⟨w.heap.size, 0, none⟩) 3 3] 24) = W at *
  refine (active_any (w.heap.size + 2) _ _ _ [5, 9, 9] _ _ s0.size s0.reads).mono ?_
  rintro e w1 ⟨rfl, hb1⟩
  have s1 := s0.step hb1
  clear s0 hb1
  have c1 := s1.cell
  simp only [show act [5, 9, 9] 8 = (0, 0) by decide]
  go_wp2_with fail
  refine (active_any (w.heap.size + 2) _ _ _ [5, 9, 9] _ _ s1.size s1.reads).mono ?_
  rintro e w2 ⟨rfl, hb2⟩
  have s2 := s1.step hb2
  clear s1 hb2 c1
  have c2 := s2.cell
  simp only [show act [5, 9, 9] 9 = (2, 0) by decide]
  go_wp2_with fail
  refine (active_any (w.heap.size + 2) _ _ _ [5, 9, 9] _ _ s2.size s2.reads).mono ?_
  rintro e w3 ⟨rfl, hb3⟩
  have s3 := s2.step hb3
  clear s2 hb3 c2
  have c3 := s3.cell
  simp only [show act [5, 9, 9] 4 = (0, 10) by decide]
  go_wp2_with fail
  refine (from_any (w.heap.size + 2) _ _ _ [5, 9, 9] _ _ s3.size s3.reads).mono ?_
  rintro e w4 ⟨rfl, hb4⟩
  have s4 := s3.step hb4
  clear s3 hb4 c3
  have c4 := s4.cell
  simp only [show frm [5, 9, 9] 1 = (9, 0) by decide]
  go_wp2_with fail
  refine (from_any (w.heap.size + 2) _ _ _ [5, 9, 9] _ _ s4.size s4.reads).mono ?_
  rintro e w5 ⟨rfl, hb5⟩
  have s5 := s4.step hb5
  clear s4 hb5 c4
  have c5 := s5.cell
  simp only [show frm [5, 9, 9] 3 = (0, 10) by decide]
  go_wp2_with fail
  refine (ever_any (w.heap.size + 2) _ _ _ [5, 9, 9] _ s5.size s5.reads).mono ?_
  rintro e w6 ⟨v, rfl, hown, hb6⟩
  have s6 := s5.step hb6
  clear s5 hb6 c5
  have c6 := s6.cell
  obtain ⟨A, c, rfl, hr⟩ := own_slice hown
  have HR := hide hr
  clear hown hr
  go_wp2_with fail
  have hb7 : Below w6.heap.size w6 (w6.alloc (.cells #[.int .i64 0, .int .i64 2] 3)) := (Below.refl _ _).alloc (Nat.le_refl _) _
  have b7 := Blk.new w6 3 #[.int .i64 0, .int .i64 2]
  have hr7 := (unhide HR).alloc (Nat.le_refl _) (.cells #[.int .i64 0, .int .i64 2] 3)
  have s7 := s6.step hb7
  clear s6 hb7 c6 HR
  have hr7' : Reads (w6.alloc (.cells #[.int .i64 0, .int .i64 2] 3)) w6.heap.size 1 A 2 (([0, 2] : List Int).map (Value.int .i64)) := hr7
  refine (ints_any w6.heap.size (w6.heap.size + 1) _ _ _ _ _ _ [0, 2] [0, 2] _ hr7' (reads_blk b7 (by omega) 2 rfl) (by decide) (by omega)).mono ?_
  rintro e w8 ⟨rfl, hb8⟩
  have s8 := s7.step hb8
  clear s7 hb8 hr7 hr7' b7
  have c8 := s8.cell
  simp only
  go_wp2_with fail
  refine (check_any (w.heap.size + 2) _ _ _ [5, 9, 9] _ s8.size s8.reads).mono ?_
  rintro e w9 ⟨rfl, hb9⟩
  have s9 := s8.step hb9
  clear s8 hb9 c8
  simp only [show ck [5, 9, 9] = 0 by decide]
  go_wp2_with fail
  refine (check_any 0 none 0 0 [] _ (by omega) Reads.none_).mono ?_
  rintro e w10 ⟨rfl, hb10⟩
  have s10 := s9.step hb10
  clear s9 hb10
  simp only [show ck [] = 2 by decide]
  go_wp2_with fail
  have hb11 : Below w10.heap.size w10 (w10.alloc (.cells #[.int .u64 2, .int .u64 1] 25)) := (Below.refl _ _).alloc (Nat.le_refl _) _
  have b11 := Blk.new w10 25 #[.int .u64 2, .int .u64 1]
  have s11 := s10.step hb11
  clear s10 hb11
  refine (check_any (w10.heap.size + 1) _ _ _ [2, 1] _ (by simp) (reads_blk b11 (by omega) 2 rfl)).mono ?_
  rintro e w12 ⟨rfl, hb12⟩
  have s12 := s11.step hb12
  clear s11 hb12 b11
  simp only [show ck [2, 1] = 11 by decide]
  go_wp2_with fail
  go_ret
  exact ⟨rfl, s12.below⟩
end Go.Proofs.Ytdejpiffmogenaa
