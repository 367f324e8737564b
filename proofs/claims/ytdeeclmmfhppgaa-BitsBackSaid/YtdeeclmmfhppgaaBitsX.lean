/- works of layer 17: it answers true. -/
import Derived.Test.YtdeeclmmfhppgaaUnrow
namespace Go.Proofs.Ytdeeclmmfhppgaa
open Go.RowKit Go.Shelf

def exL : List Bool := [true, false, false, false, false, false, false, false, true, false]
theorem ex_pack : packL exL = [1, 1] := by decide +kernel
theorem ex_un1 : unpackE [1, 1] 10 = 0 ∧ unpackL [1, 1] 10 = exL := by decide +kernel
theorem ex_un2 : unpackE [4, 0] 10 = 8 := by decide +kernel
theorem ex_un3 : unpackE [1, 1] 20 = 2 := by decide +kernel
theorem ex_un4 : unpackE [] (-1) = 1 := by decide +kernel
theorem ex_row : rowL [1, 300] = [1, 172, 2] := by decide +kernel
theorem ex_ur1 : unrowS [120, 1, 172, 2] 1 2 = ([1, 300], 4, 0) := by decide +kernel
theorem ex_ur2 : unrowS [1, 172, 2] 0 3 = ([], 0, 3) := by decide +kernel
theorem ex_cnt : cntB exL = 2 := by decide

theorem unpack_lit (l : List UInt8) (n : Int) (e : Int) (r : List Bool) (he : unpackE l n = e) (hr : unpackL l n = r) (hl : l.length ≤ 1000) (w : World) :
    Calls Try.prog 14 #[.string ⟨l.toArray⟩, .int .i64 n] w fun e' w' => ∃ A c, e' = .returned (.tuple #[.slice A r.length c, .int .i64 e]) ∧ Reads w' w'.heap.size 1 A r.length (r.map Value.bool) ∧ Below w.heap.size w w' := by
  refine (unpack_any ⟨l.toArray⟩ n (by show l.toArray.size ≤ _; simp; omega) w).mono ?_
  rintro e' w' ⟨v, rfl, hown, hb⟩
  simp only [he, hr] at hown ⊢
  obtain ⟨A, c, rfl, hr⟩ := own_slice hown
  exact ⟨A, c, rfl, hr, hb⟩
theorem unrow_lit (l : List UInt8) (a n : Int) (r : List Int) (t : Nat) (e : Int) (h : unrowS l a n = (r, t, e)) (hl : l.length ≤ 1000) (w : World) :
    Calls Try.prog 15 #[.string ⟨l.toArray⟩, .int .i64 a, .int .i64 n] w fun e' w' => ∃ A c, e' = .returned (.tuple #[.slice A r.length c, .int .i64 (t : Int), .int .i64 e]) ∧ Reads w' w'.heap.size 1 A r.length (r.map (Value.int .u64)) ∧ Below w.heap.size w w' := by
  refine (unrow_any ⟨l.toArray⟩ a n (by show l.toArray.size ≤ _; simp; omega) w).mono ?_
  rintro e' w' ⟨v, rfl, hown, hb⟩
  simp only [h] at hown ⊢
  obtain ⟨A, c, rfl, hr⟩ := own_slice hown
  exact ⟨A, c, rfl, hr, hb⟩

/-- what is carried from call to call -/
structure Car (w W : World) (b : Nat) (t : TypeId) (cs : Array Value) : Prop where
  below : Below w.heap.size w W
  blk : Blk W b t cs
theorem Car.step {w W W' : World} {b : Nat} {t : TypeId} {cs : Array Value} (h : Car w W b t cs) (hb : Below W.heap.size W W') : Car w W' b t cs := ⟨h.below.trans (hb.mono h.below.size), h.blk.below hb h.blk.lt⟩
structure CarR (W : World) (B : Nat) (A : Option Addr) (n : Nat) (xs : List Value) : Prop where
  le : B ≤ W.heap.size
  reads : Reads W B 1 A n xs
theorem CarR.step {W W' : World} {B : Nat} {A : Option Addr} {n : Nat} {xs : List Value} (h : CarR W B A n xs) (hb : Below W.heap.size W W') : CarR W' B A n xs := ⟨Nat.le_trans h.le hb.size, h.reads.below (hb.mono h.le)⟩

set_option maxRecDepth 100000 in
set_option maxHeartbeats 2000000 in
theorem works_any (w : World) : Calls Try.prog 7 #[] w fun e w' => e = .returned (.bool true) ∧ Below w.heap.size w w' := by
  have hmk : ∀ w : World, (Instr.makeSlice 22 (.int .i64 10) (.int .i64 10)).run Try.prog w = .ok (.slice (some ⟨w.heap.size, 0, none⟩) 10 10) (w.alloc (.cells #[.bool false, .bool false, .bool false, .bool false, .bool false, .bool false, .bool false, .bool false, .bool false, .bool false] 4)) := fun _ => by kernel_rfl
  go_enter Try.func7, Try.ntmps7
  go_wp2_with fail
  have bk := Blk.new w 4 #[.bool true, .bool false, .bool false, .bool false, .bool false, .bool false, .bool false, .bool false, .bool true, .bool false]
  have hb1 : Below w.heap.size w (w.alloc (.cells #[.bool true, .bool false, .bool false, .bool false, .bool false, .bool false, .bool false, .bool false, .bool true, .bool false] 4)) := (Below.refl _ w).alloc (Nat.le_refl _) _
  generalize w.alloc (.cells #[.bool true, .bool false, .bool false, .bool false, .bool false, .bool false, .bool false, .bool false, .bool true, .bool false] 4) = w1 at *
  clear hmk
  have hz1 := hb1.size
  have hlt := bk.lt
  have hpk := pack_any (w.heap.size + 1) (some ⟨w.heap.size, 0, none⟩) 10 10 exL w1 (by omega) (reads_blk bk (by omega) 10 rfl) (by omega)
  rw [ex_pack] at hpk
  refine hpk.mono ?_
  rintro e w2 ⟨rfl, hg2⟩
  have bk2 := bk.grown hg2 (by simp)
  have hb2 : Below w.heap.size w w2 := hb1.trans ((below_of_grown hg2).mono hz1)
  have C2 : Car w w2 w.heap.size 4 #[.bool true, .bool false, .bool false, .bool false, .bool false, .bool false, .bool false, .bool false, .bool true, .bool false] := ⟨hb2, bk2⟩
  clear hpk bk hb1 hg2 hz1 hlt bk2 hb2
  go_wp2_with fail
  refine (unpack_lit [1, 1] 10 _ _ ex_un1.1 ex_un1.2 (by decide) _).mono ?_
  rintro e w3 ⟨A3, c3, rfl, hr3, hb⟩
  have C3 := C2.step hb
  have R3 : CarR w3 w3.heap.size A3 10 (exL.map Value.bool) := ⟨Nat.le_refl _, hr3⟩
  clear C2 hr3 hb
  go_wp2_with fail
  refine (unpack_lit [4, 0] 10 _ _ ex_un2 rfl (by decide) _).mono ?_
  rintro e w4 ⟨A4, c4, rfl, _, hb⟩
  have C4 := C3.step hb
  have R4 := R3.step hb
  clear C3 R3 hb
  go_wp2_with fail
  refine (unpack_lit [1, 1] 20 _ _ ex_un3 rfl (by decide) _).mono ?_
  rintro e w5 ⟨A5, c5, rfl, _, hb⟩
  have C5 := C4.step hb
  have R5 := R4.step hb
  clear C4 R4 hb
  go_wp2_with fail
  refine (unpack_lit [] (-1) _ _ ex_un4 rfl (by decide) _).mono ?_
  rintro e w6 ⟨A6, c6, rfl, _, hb⟩
  have C6 := C5.step hb
  have R6 := R5.step hb
  clear C5 R5 hb
  go_wp2_with fail
  have bn := Blk.new w6 38 #[.int .u64 1, .int .u64 300]
  have hb : Below w6.heap.size w6 (w6.alloc (.cells #[.int .u64 1, .int .u64 300] 38)) := (Below.refl _ _).alloc (Nat.le_refl _) _
  have C7 := C6.step hb
  have R7 := R6.step hb
  have hz6 : (w6.alloc (.cells #[.int .u64 1, .int .u64 300] 38)).heap.size = w6.heap.size + 1 := by simp
  generalize w6.alloc (.cells #[.int .u64 1, .int .u64 300] 38) = w7 at *
  clear C6 R6 hb
  have hrow := row_any (w6.heap.size + 1) (some ⟨w6.heap.size, 0, none⟩) 2 2 [1, 300] w7 (by omega) (reads_blk bn (by omega) 2 rfl) (by simp) (by omega)
  rw [ex_row] at hrow
  clear hz6
  refine hrow.mono ?_
  rintro e w8 ⟨rfl, hb⟩
  have C8 := C7.step hb
  have R8 := R7.step hb
  clear C7 R7 hb hrow bn
  go_wp2_with fail
  rw [show ((⟨#[120]⟩ : ByteArray) ++ ⟨#[1, 172, 2]⟩) = ⟨#[120, 1, 172, 2]⟩ by decide +kernel]
  refine (unrow_lit [120, 1, 172, 2] 1 2 _ _ _ ex_ur1 (by decide) _).mono ?_
  rintro e w9 ⟨A9, c9, rfl, hr9, hb⟩
  have C9 := C8.step hb
  have R9 := R8.step hb
  have S9 : CarR w9 w9.heap.size A9 2 (([1, 300] : List Int).map (Value.int .u64)) := ⟨Nat.le_refl _, hr9⟩
  clear C8 R8 hb hr9
  go_wp2_with fail
  refine (unrow_lit [1, 172, 2] 0 3 _ _ _ ex_ur2 (by decide) _).mono ?_
  rintro e w10 ⟨A10, c10, rfl, _, hb⟩
  have C10 := C9.step hb
  have R10 := R9.step hb
  have S10 := S9.step hb
  clear C9 R9 S9 hb
  go_wp2_with fail
  refine (bools_any (w.heap.size + 1) w3.heap.size (some ⟨w.heap.size, 0, none⟩) A3 10 10 10 c3 exL exL w10 (reads_blk C10.blk (by omega) 10 rfl) R10.reads (by omega) (by omega)).mono ?_
  rintro e w11 ⟨rfl, hb⟩
  have C11 := C10.step hb
  have S11 := S10.step hb
  clear C10 R10 S10 hb
  go_wp2_with fail
  have bn := Blk.new w11 38 #[.int .u64 1, .int .u64 300]
  have hb : Below w11.heap.size w11 (w11.alloc (.cells #[.int .u64 1, .int .u64 300] 38)) := (Below.refl _ _).alloc (Nat.le_refl _) _
  have C12 := C11.step hb
  have S12 := S11.step hb
  generalize w11.alloc (.cells #[.int .u64 1, .int .u64 300] 38) = w12 at *
  clear C11 S11 hb
  refine (numbers_any w9.heap.size (w11.heap.size + 1) A9 (some ⟨w11.heap.size, 0, none⟩) 2 2 c9 2 [1, 300] [1, 300] w12 S12.reads (reads_blk bn (by omega) 2 rfl) (by omega) (by omega)).mono ?_
  rintro e w13 ⟨rfl, hb⟩
  have C13 := C12.step hb
  clear C12 S12 hb bn
  simp only [decide_true]
  have hcnt := countB_any (w.heap.size + 1) (some ⟨w.heap.size, 0, none⟩) 10 10 exL w13 (reads_blk C13.blk (by omega) 10 rfl) (by omega)
  rw [ex_cnt] at hcnt
  go_wp2_with fail
  refine hcnt.mono ?_
  rintro e w' ⟨rfl, rfl⟩
  go_wp2_with fail
  go_ret
  exact ⟨by simp, C13.below⟩
end Go.Proofs.Ytdeeclmmfhppgaa
