/- The statements of layer 12: each law's call answers true. -/
import Derived.Test.YtdejpiffmogenaaForkG
namespace Go.Proofs.Ytdejpiffmogenaa
open Go.RowKit

/-- what a law's schedule, in its box, is in a world -/
structure LS (A : Option Addr) (n c : Nat) (xs : List Int) (w W : World) : Prop where
  reads : Reads W w.heap.size 1 A n (xs.map (Value.int .u64))
  box : Boxed W w.heap.size 24 (.slice A n c)
  below : Below w.heap.size w W
theorem LS.size {A : Option Addr} {n c : Nat} {xs : List Int} {w W : World} (h : LS A n c xs w W) : w.heap.size + 1 ≤ W.heap.size := h.box.lt
theorem LS.le {A : Option Addr} {n c : Nat} {xs : List Int} {w W : World} (h : LS A n c xs w W) : w.heap.size ≤ W.heap.size := by have := h.box.lt; omega
theorem LS.step {A : Option Addr} {n c : Nat} {xs : List Int} {w W W' : World} (h : LS A n c xs w W) (hb : Below W.heap.size W W') : LS A n c xs w W' :=
  ⟨h.reads.below (hb.mono h.le), Boxed.below h.box hb, h.below.trans (hb.mono h.le)⟩
theorem LS.start {A : Option Addr} {n c : Nat} {xs : List Int} {w : World} (h : Reads w w.heap.size 1 A n (xs.map (Value.int .u64))) : LS A n c xs w (w.alloc (.cells #[.slice A n c] 24)) :=
  ⟨h.alloc (Nat.le_refl _) _, Boxed.new w _ _, (Below.refl _ _).alloc (Nat.le_refl _) _⟩

theorem LS.drew {A : Option Addr} {n c : Nat} {xs : List Int} {w W : World} (h : LS A n c xs w W) : LS A n c xs w W.drew := ⟨h.reads.drew, h.box, h.below.drew⟩
theorem ever_len (xs : List Int) : (everOf xs).length ≤ xs.length := by
  unfold everOf
  split
  · have := evPick_len (pairsOf xs)
    unfold pairsOf at this ⊢
    rw [upto_length] at this
    exact this
  · simp
theorem ints_same (B B' : Nat) (A A' : Option Addr) (n c d : Nat) (l : List Nat) (w : World) (hn : n ≤ 281474976710656) (h : Reads w B 1 A n (l.map iv)) (h' : Reads w B' 1 A' n (l.map iv)) :
    Calls Try.prog 14 #[.slice A n c, .slice A' n d] w fun e w' => e = .returned (.bool true) ∧ Below w.heap.size w w' := by
  have e : l.map iv = (l.map (fun k : Nat => (k : Int))).map (Value.int .i64) := by rw [List.map_map]; rfl
  rw [e] at h h'
  refine (ints_any B B' A A' n n c d _ _ w h h' hn hn).mono fun e w' ⟨he, hb⟩ => ⟨?_, hb⟩
  rw [he]
  simp

set_option maxRecDepth 100000 in
set_option maxHeartbeats 2000000 in
theorem tells_any (A : Option Addr) (n c : Nat) (xs : List Int) (t f : Int) (w : World) (h : Reads w w.heap.size 1 A n (xs.map (Value.int .u64))) :
    Calls Try.prog 3 #[.agg #[.slice A n c], .int .u64 t, .int .i64 f] w fun e w' => e = .returned (.bool true) ∧ Below w.heap.size w w' := by
  have hl : xs.length = n := by simpa using h.1
  have s0 := LS.start (c := c) h
  have HL := Lib.hid hl
  clear h hl
  go_enter Try.func3, Try.ntmps3
  go_wp2_with fail
  generalize w.alloc (.cells #[.slice A n c] 24) = W at *
  refine (works_any _).mono ?_
  rintro e w1 ⟨rfl, hb1⟩
  have s1 := s0.step hb1
  clear s0 hb1
  have c1 := s1.box.cell
  by_cases hn : 100 < n
  · go_wp2_with fail
    go_ret
    exact ⟨rfl, s1.below⟩
  · go_wp2_with fail
    refine (refCheck_any _ _ _ _ xs _ s1.le s1.reads).mono ?_
    rintro e w2 ⟨rfl, hb2⟩
    have s2 := s1.step hb2
    clear s1 hb2 c1
    have c2 := s2.box.cell
    go_wp2_with fail
    refine (active_any _ _ _ _ xs _ _ s2.le s2.reads).mono ?_
    rintro e w3 ⟨rfl, hb3⟩
    have s3 := s2.step hb3
    clear s2 hb3 c2
    have c3 := s3.box.cell
    go_wp2_with fail
    refine (refActive_any _ _ _ _ xs _ _ s3.le s3.reads).mono ?_
    rintro e w4 ⟨rfl, hb4⟩
    have s4 := s3.step hb4
    clear s3 hb4 c3
    have c4 := s4.box.cell
    go_wp2_with fail
    refine (from_any _ _ _ _ xs _ _ s4.le s4.reads).mono ?_
    rintro e w5 ⟨rfl, hb5⟩
    have s5 := s4.step hb5
    clear s4 hb5 c4
    have c5 := s5.box.cell
    go_wp2_with fail
    refine (refFrom_any _ _ _ _ xs _ _ s5.le s5.reads).mono ?_
    rintro e w6 ⟨rfl, hb6⟩
    have s6 := s5.step hb6
    clear s5 hb6 c5
    have c6 := s6.box.cell
    go_wp2_with fail
    have S6 := hide s6
    have hE : (everOf xs).length ≤ 281474976710656 := by have := ever_len xs; have := HL.out; omega
    clear s6
    go_region_held3 (fun w' => w'.cell? ⟨w.heap.size, 0, none⟩ = some (.slice A n c))
      (first | go_keep | exact ((unhide S6).drew.step hb7).box.cell | exact (((unhide S6).drew.step hb7).step hb8).box.cell | exact ((((unhide S6).drew.step hb7).step hb8).step hb9).box.cell)
      (first
        | (go_at_call 15; refine (ever_any w.heap.size _ _ _ xs _ ?_ ?_).mono ?_; (exact (unhide S6).drew.le); (exact (unhide S6).drew.reads); rintro e w7 ⟨v7, rfl, hown7, hb7⟩; obtain ⟨A7, c7, rfl, hr7⟩ := own_slice hown7; have HR7 := hide hr7; clear hown7 hr7)
        | (go_at_call 16; refine (refEver_any w.heap.size _ _ _ xs _ ?_ ?_).mono ?_; (exact ((unhide S6).drew.step hb7).le); (exact ((unhide S6).drew.step hb7).reads); rintro e w8 ⟨v8, rfl, hown8, hb8⟩; obtain ⟨A8, c8, rfl, hr8⟩ := own_slice hown8; have HR8 := hide hr8; clear hown8 hr8)
        | (go_at_call 14; refine (ints_same w7.heap.size w8.heap.size _ _ _ _ _ (everOf xs) _ hE ?_ ?_).mono ?_; (exact (unhide HR7).below hb8); (exact unhide HR8); rintro e w9 ⟨rfl, hb9⟩))
    have s9 := (((unhide S6).drew.step hb7).step hb8).step hb9
    have c9 := s9.box.cell
    clear S6 HR7 HR8 hb7 hb8 hb9 c6
    generalize act xs t = at' at *
    obtain ⟨a1, a2⟩ := at'
    generalize frm xs f = fr at *
    obtain ⟨f1, f2⟩ := fr
    go_wp2_with fail
    refine (check_any _ _ _ _ xs _ s9.le s9.reads).mono ?_
    rintro e w10 ⟨rfl, hb10⟩
    have s10 := s9.step hb10
    clear s9 hb10
    generalize ck xs = ckx at *
    go_wp2_with fail
    go_ret
    exact ⟨by simp, s10.below⟩
end Go.Proofs.Ytdejpiffmogenaa
