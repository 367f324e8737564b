/- works of layer 15: it answers true. -/
import Derived.Test.YtdkijdedfpfbnaaChaM
namespace Go.Proofs.Ytdkijdedfpfbnaa
open Go.RowKit Go.Shelf

def idc : ByteArray := ⟨#[48, 49, 50, 51, 52, 53, 54, 55, 56, 57, 97, 98, 99, 100, 101, 102]⟩
def idd : ByteArray := ⟨#[102, 101, 100, 99, 98, 97, 57, 56, 55, 54, 53, 52, 51, 50, 49, 48]⟩
def fa : Frm := ⟨idc, 0, ⟨#[97, 98, 99]⟩, false⟩
def fb : Frm := ⟨idc, 1, ⟨#[100, 101, 102]⟩, false⟩
def fc : Frm := ⟨idc, 2, ⟨#[103]⟩, true⟩
theorem ex_split : splitE idc ⟨#[97, 98, 99, 100, 101, 102, 103]⟩ 3 = 0 ∧ splitL idc ⟨#[97, 98, 99, 100, 101, 102, 103]⟩ 3 = [fa, fb, fc] := by decide +kernel
theorem ex_split0 : splitE idc ⟨#[97, 98, 99]⟩ 0 = 1 := by decide +kernel
theorem ex_a1 : addE [] fc = 0 ∧ addL [] fc = [fc] := by decide +kernel
theorem ex_a2 : addE [fc] fa = 0 ∧ addL [fc] fa = [fa, fc] := by decide +kernel
theorem ex_a3 : addE [fa, fc] fb = 0 ∧ addL [fa, fc] fb = [fa, fb, fc] := by decide +kernel
theorem ex_a4 : addE [fa, fb, fc] fb = 13 := by decide +kernel
theorem ex_a5 : addE [fa, fb, fc] ⟨idc, 3, ⟨#[]⟩, false⟩ = 11 := by decide +kernel
theorem ex_a6 : addE [fa, fb, fc] ⟨idd, 3, ⟨#[]⟩, false⟩ = 1 := by decide +kernel
theorem ex_j1 : joinE [fa, fc] = 3 := by decide +kernel
theorem ex_j2 : joinE [fa, fb, fc] = 0 ∧ joinL [fa, fb, fc] = [97, 98, 99, 100, 101, 102, 103] := by decide +kernel
theorem ex_r1 : readyF [fa, fb, fc] = true := by decide +kernel
theorem ex_r2 : readyF [fa, fc] = false := by decide +kernel

theorem add_is (B : Nat) (A : Option Addr) (n c : Nat) (xs : List Frm) (f : Frm) (E : Int) (ys : List Frm) (k : Nat) (hE : addE xs f = E) (hL : addL xs f = ys) (hk : ys.length = k) (w : World) (hB : B ≤ w.heap.size) (h : Reads w B 4 A n (framesV xs)) (hn : n ≤ 1000000) :
    Calls Try.prog 14 #[.slice A n c, .agg #[.string f.id, .int .i64 f.num, .string f.data, .bool f.last]] w fun e w' => ∃ A' c', e = .returned (.tuple #[.slice A' k c', .int .i64 E]) ∧ CarR w' w'.heap.size 4 A' k (framesV ys) ∧ Below w.heap.size w w' := by
  refine (add_any B A n c xs f w hB h hn).mono ?_
  rintro e w' ⟨A', n', c', rfl, _, hn', _, hr, hb⟩
  rw [hL] at hr hn'
  rw [hk] at hn'
  subst hn'
  exact ⟨A', c', by rw [hE], ⟨Nat.le_refl _, hr⟩, hb⟩
theorem addE_is (B : Nat) (A : Option Addr) (n c : Nat) (xs : List Frm) (f : Frm) (E : Int) (hE : addE xs f = E) (w : World) (hB : B ≤ w.heap.size) (h : Reads w B 4 A n (framesV xs)) (hn : n ≤ 1000000) :
    Calls Try.prog 14 #[.slice A n c, .agg #[.string f.id, .int .i64 f.num, .string f.data, .bool f.last]] w fun e w' => ∃ A' k c', e = .returned (.tuple #[.slice A' k c', .int .i64 E]) ∧ Below w.heap.size w w' := by
  refine (add_any B A n c xs f w hB h hn).mono ?_
  rintro e w' ⟨A', n', c', rfl, _, hn', _, hr, hb⟩
  exact ⟨A', n', c', by rw [hE], hb⟩
theorem join_is (B : Nat) (A : Option Addr) (n c : Nat) (xs : List Frm) (E : Int) (L : ByteArray) (hE : joinE xs = E) (hL : (⟨(joinL xs).toArray⟩ : ByteArray) = L) (w : World) (hB : B ≤ w.heap.size) (h : Reads w B 4 A n (framesV xs)) (hn : n ≤ 1000000) :
    Calls Try.prog 17 #[.slice A n c] w fun e w' => e = .returned (.tuple #[.string L, .int .i64 E]) ∧ Below w.heap.size w w' :=
  (join_any B A n c xs w hB h hn).mono fun _ _ ⟨h1, h2⟩ => ⟨by rw [h1, hL, hE], h2⟩
theorem ready_is (B : Nat) (A : Option Addr) (n c : Nat) (xs : List Frm) (b : Bool) (hb : readyF xs = b) (w : World) (hB : B ≤ w.heap.size) (h : Reads w B 4 A n (framesV xs)) (hn : n ≤ 1000000) :
    Calls Try.prog 19 #[.slice A n c] w fun e w' => e = .returned (.bool b) ∧ Below w.heap.size w w' :=
  (ready_any B A n c xs w hB h (by omega)).mono fun _ _ ⟨h1, h2⟩ => ⟨by rw [h1, hb], below_of_grown h2⟩
/-- a row of frames of the call's own, known by its block -/
theorem split_is (id d : ByteArray) (n : Int) (E : Int) (L : List Frm) (k : Nat) (hE : splitE id d n = E) (hL : splitL id d n = L) (hk : L.length = k) (hn : -9223372036854775808 ≤ n ∧ n ≤ 9223372036854775807) (w : World) :
    Calls Try.prog 10 #[.string id, .string d, .int .i64 n] w fun e w' => ∃ A c, e = .returned (.tuple #[.slice A k c, .int .i64 E]) ∧ w'.ownsRow w.heap.size 30 4 (.slice A k c) k (framesV L) ∧ Below w.heap.size w w' := by
  refine (split_any id d n hn w).mono ?_
  rintro e w' ⟨v, rfl, hown, hb⟩
  rw [hL, hk] at hown
  obtain ⟨A, c, rfl⟩ := own_slice4 hown
  exact ⟨A, c, by rw [hE], hown, hb⟩

set_option maxRecDepth 100000 in
set_option maxHeartbeats 4000000 in
theorem works_any (w : World) : Calls Try.prog 9 #[] w fun e w' => e = .returned (.bool true) ∧ Below w.heap.size w w' := by
  have s1 := fun W => split_is idc ⟨#[97, 98, 99, 100, 101, 102, 103]⟩ 3 _ _ 3 ex_split.1 ex_split.2 rfl (by omega) W
  have s2 := fun W => split_any idc ⟨#[97, 98, 99]⟩ 0 (by omega) W
  rw [ex_split0] at s2
  have a1 := fun W => add_is 0 none 0 0 [] fc _ _ 1 ex_a1.1 ex_a1.2 rfl W (Nat.zero_le _) Reads.none_ (by omega)
  have a2 := fun A c W hB hR => add_is W.heap.size A 1 c [fc] fa _ _ 2 ex_a2.1 ex_a2.2 rfl W hB hR (by omega)
  have a3 := fun B A c W hB hR => add_is B A 2 c [fa, fc] fb _ _ 3 ex_a3.1 ex_a3.2 rfl W hB hR (by omega)
  have a4 := fun B A c W hB hR => addE_is B A 3 c [fa, fb, fc] fb _ ex_a4 W hB hR (by omega)
  have a5 := fun B A c W hB hR => addE_is B A 3 c [fa, fb, fc] ⟨idc, 3, ⟨#[]⟩, false⟩ _ ex_a5 W hB hR (by omega)
  have a6 := fun B A c W hB hR => addE_is B A 3 c [fa, fb, fc] ⟨idd, 3, ⟨#[]⟩, false⟩ _ ex_a6 W hB hR (by omega)
  have j1 := fun B A c W hB hR => join_is B A 2 c [fa, fc] 3 ⟨#[]⟩ ex_j1 (by decide +kernel) W hB hR (by omega)
  have j2 := fun B A c W hB hR => join_is B A 3 c [fa, fb, fc] 0 ⟨#[97, 98, 99, 100, 101, 102, 103]⟩ ex_j2.1 (by rw [ex_j2.2]) W hB hR (by omega)
  have r1 := fun B A c W hB hR => ready_is B A 3 c [fa, fb, fc] _ ex_r1 W hB hR (by omega)
  have r2 := fun B A c W hB hR => ready_is B A 2 c [fa, fc] _ ex_r2 W hB hR (by omega)
  have hV : framesV [fa, fb, fc] = [.string idc, .int .i64 0, .string ⟨#[97, 98, 99]⟩, .bool false, .string idc, .int .i64 1, .string ⟨#[100, 101, 102]⟩, .bool false, .string idc, .int .i64 2, .string ⟨#[103]⟩, .bool true] := rfl
  simp only [fa, fb, fc] at a1 a2 a3 a4
  have HV := Lib.hid hV
  clear hV
  have hi : idc = ⟨#[48, 49, 50, 51, 52, 53, 54, 55, 56, 57, 97, 98, 99, 100, 101, 102]⟩ := rfl
  have hj : idd = ⟨#[102, 101, 100, 99, 98, 97, 57, 56, 55, 54, 53, 52, 51, 50, 49, 48]⟩ := rfl
  go_enter Try.func9, Try.ntmps9
  have HI := Lib.hid hi; have HJ := Lib.hid hj
  clear hi hj
  go_wp2_with fail
  rw [← HI.out]
  refine (s1 w).mono ?_
  rintro e w1 ⟨A1, c1, rfl, hown, hb1⟩
  obtain ⟨g, cap, hv, hgb, _⟩ := hown.form (by omega)
  simp only [Value.slice.injEq, true_and] at hv
  obtain ⟨rfl, rfl⟩ := hv
  obtain ⟨cur, _, hBk, _, _, _, _, hcur⟩ := own_blk hown
  have C1 : Car w w1 g 30 cur := ⟨hb1, hBk⟩
  have hk : ∀ j, j < 12 → cur[j]? = ([.string idc, .int .i64 0, .string ⟨#[97, 98, 99]⟩, .bool false, .string idc, .int .i64 1, .string ⟨#[100, 101, 102]⟩, .bool false, .string idc, .int .i64 2, .string ⟨#[103]⟩, .bool true] : List Value)[j]? := fun j hj => by rw [hcur j hj, HV.out]
  have HK := Lib.hid hk
  clear s1 hcur hown hBk hb1 hk
  have q8 : w1.cell? ⟨g, 8, none⟩ = some (.string idc) := (C1.blk.cell 8).trans (HK.out 8 (by omega))
  have q9 : w1.cell? ⟨g, 9, none⟩ = some (.int .i64 2) := (C1.blk.cell 9).trans (HK.out 9 (by omega))
  have q10 : w1.cell? ⟨g, 10, none⟩ = some (.string ⟨#[103]⟩) := (C1.blk.cell 10).trans (HK.out 10 (by omega))
  have q11 : w1.cell? ⟨g, 11, none⟩ = some (.bool true) := (C1.blk.cell 11).trans (HK.out 11 (by omega))
  go_wp2_with fail
  clear q8 q9 q10 q11
  refine (a1 w1).mono ?_
  rintro e w2 ⟨A2, c2, rfl, R2, hb⟩
  have C2 := C1.step hb
  clear hb C1
  have q0 : w2.cell? ⟨g, 0, none⟩ = some (.string idc) := (C2.blk.cell 0).trans (HK.out 0 (by omega))
  have q1 : w2.cell? ⟨g, 1, none⟩ = some (.int .i64 0) := (C2.blk.cell 1).trans (HK.out 1 (by omega))
  have q2 : w2.cell? ⟨g, 2, none⟩ = some (.string ⟨#[97, 98, 99]⟩) := (C2.blk.cell 2).trans (HK.out 2 (by omega))
  have q3 : w2.cell? ⟨g, 3, none⟩ = some (.bool false) := (C2.blk.cell 3).trans (HK.out 3 (by omega))
  go_wp2_with fail
  clear q0 q1 q2 q3
  refine (a2 A2 c2 w2 (Nat.le_refl _) R2.reads).mono ?_
  rintro e w3 ⟨A3, c3, rfl, R3, hb⟩
  have C3 := C2.step hb
  replace R2 := R2.step hb
  clear hb C2
  have hz3 := R3.le
  obtain ⟨B3, hB3⟩ : ∃ B, w3.heap.size = B := ⟨_, rfl⟩
  rw [hB3] at R3 hz3
  clear hB3 hz3
  go_wp2_with fail
  refine (j1 B3 A3 c3 w3 R3.le R3.reads).mono ?_
  rintro e w4 ⟨rfl, hb⟩
  have C4 := C3.step hb
  replace R3 := R3.step hb
  clear hb C3
  have q4 : w4.cell? ⟨g, 4, none⟩ = some (.string idc) := (C4.blk.cell 4).trans (HK.out 4 (by omega))
  have q5 : w4.cell? ⟨g, 5, none⟩ = some (.int .i64 1) := (C4.blk.cell 5).trans (HK.out 5 (by omega))
  have q6 : w4.cell? ⟨g, 6, none⟩ = some (.string ⟨#[100, 101, 102]⟩) := (C4.blk.cell 6).trans (HK.out 6 (by omega))
  have q7 : w4.cell? ⟨g, 7, none⟩ = some (.bool false) := (C4.blk.cell 7).trans (HK.out 7 (by omega))
  go_wp2_with fail
  clear q4 q5 q6 q7
  refine (a3 B3 A3 c3 w4 R3.le R3.reads).mono ?_
  rintro e w5 ⟨A5, c5, rfl, R5, hb⟩
  have C5 := C4.step hb
  replace R3 := R3.step hb
  clear hb C4
  obtain ⟨B5, hB5⟩ : ∃ B, w5.heap.size = B := ⟨_, rfl⟩
  rw [hB5] at R5
  clear hB5
  go_wp2_with fail
  refine (j2 B5 A5 c5 w5 R5.le R5.reads).mono ?_
  rintro e w6 ⟨rfl, hb⟩
  have C6 := C5.step hb
  replace R3 := R3.step hb
  replace R5 := R5.step hb
  clear hb C5
  have q4 : w6.cell? ⟨g, 4, none⟩ = some (.string idc) := (C6.blk.cell 4).trans (HK.out 4 (by omega))
  have q5 : w6.cell? ⟨g, 5, none⟩ = some (.int .i64 1) := (C6.blk.cell 5).trans (HK.out 5 (by omega))
  have q6 : w6.cell? ⟨g, 6, none⟩ = some (.string ⟨#[100, 101, 102]⟩) := (C6.blk.cell 6).trans (HK.out 6 (by omega))
  have q7 : w6.cell? ⟨g, 7, none⟩ = some (.bool false) := (C6.blk.cell 7).trans (HK.out 7 (by omega))
  go_wp2_with fail
  clear q4 q5 q6 q7
  refine (a4 B5 A5 c5 w6 R5.le R5.reads).mono ?_
  rintro e w7 ⟨A7, k7, c7, rfl, hb⟩
  have C7 := C6.step hb
  replace R3 := R3.step hb
  replace R5 := R5.step hb
  clear hb C6
  go_wp2_with fail
  refine (a5 B5 A5 c5 w7 R5.le R5.reads).mono ?_
  rintro e w8 ⟨A8, k8, c8, rfl, hb⟩
  have C8 := C7.step hb
  replace R3 := R3.step hb
  replace R5 := R5.step hb
  clear hb C7
  go_wp2_with fail
  rw [← HJ.out]
  refine (a6 B5 A5 c5 w8 R5.le R5.reads).mono ?_
  rintro e w9 ⟨A9, k9, c9, rfl, hb⟩
  have C9 := C8.step hb
  replace R3 := R3.step hb
  replace R5 := R5.step hb
  clear hb C8
  go_wp2_with fail
  refine (s2 w9).mono ?_
  rintro e w10 ⟨v10, rfl, hown10, hb⟩
  have C10 := C9.step hb
  replace R3 := R3.step hb
  replace R5 := R5.step hb
  clear hb C9
  obtain ⟨A10, c10, rfl⟩ := own_slice4 hown10
  clear hown10
  have q7 : w10.cell? ⟨g, 7, none⟩ = some (.bool false) := (C10.blk.cell 7).trans (HK.out 7 (by omega))
  have q10 : w10.cell? ⟨g, 10, none⟩ = some (.string ⟨#[103]⟩) := (C10.blk.cell 10).trans (HK.out 10 (by omega))
  have q11 : w10.cell? ⟨g, 11, none⟩ = some (.bool true) := (C10.blk.cell 11).trans (HK.out 11 (by omega))
  go_wp2_with fail
  clear q7 q10 q11
  refine (r1 B5 A5 c5 w10 R5.le R5.reads).mono ?_
  rintro e w11 ⟨rfl, hb⟩
  have C11 := C10.step hb
  replace R3 := R3.step hb
  replace R5 := R5.step hb
  clear hb C10
  go_wp2_with fail
  refine (r2 B3 A3 c3 w11 R3.le R3.reads).mono ?_
  rintro e w12 ⟨rfl, hb⟩
  have C12 := C11.step hb
  replace R3 := R3.step hb
  replace R5 := R5.step hb
  clear hb C11
  go_wp2_with fail
  go_ret
  exact ⟨by simp, C12.below⟩
end Go.Proofs.Ytdkijdedfpfbnaa
