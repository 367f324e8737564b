/- works of layer 14: it answers true. -/
import Derived.Test.YtfafjnjdikofcaaFrmM
namespace Go.Proofs.Ytfafjnjdikofcaa
open Go.RowKit Go.Shelf

def id0 : ByteArray := ⟨#[48, 49, 50, 51, 52, 53, 54, 55, 56, 57, 97, 98, 99, 100, 101, 102]⟩
def s0 : List UInt8 := [48, 49, 50, 51, 52, 53, 54, 55, 56, 57, 97, 98, 99, 100, 101, 102, 1, 2, 0, 0, 0, 3, 120, 121, 122, 1]
def fr0 : Frm := ⟨id0, 258, ⟨#[120, 121, 122]⟩, true⟩
def fr1 : Frm := ⟨id0, 0, .empty, false⟩
theorem ex_one : oneF fr0 = s0 := by decide +kernel
theorem ex_ck : checkF fr0 = 0 := by decide +kernel
theorem ex_ck1 : checkF Frm.none_ = 2 := by decide +kernel
theorem ex_put : putE [fr0, fr1] = 0 := by decide +kernel
theorem ex_len : (putL [fr0, fr1]).length = 50 := by decide +kernel
theorem ex_put0 : putE [] = 2 := by decide +kernel
theorem ex_get : getS (1 :: s0) = ([], 9) := by decide +kernel
theorem ex_next : nextF (97 :: 98 :: s0) 2 = (fr0, 28, 0) := by decide +kernel

theorem get_is (s : ByteArray) (l : List UInt8) (xs : List Frm) (e : Int) (hl : s.data.toList = l) (h : getS l = (xs, e)) (hs : s.size ≤ 1000000000000) (w : World) :
    Calls Try.prog 16 #[.string s] w fun e' w' => ∃ A c, e' = .returned (.tuple #[.slice A xs.length c, .int .i64 e]) ∧ Reads w' w'.heap.size 4 A xs.length (framesV xs) ∧ Below w.heap.size w w' := by
  refine (get_any s hs w).mono ?_
  rintro e' w' ⟨v, rfl, hown, hb⟩
  rw [hl, h] at hown ⊢
  simp only at hown ⊢
  obtain ⟨A, c, rfl⟩ := own_slice4 hown
  exact ⟨A, c, rfl, Reads.of_own hown, hb⟩

/-- what is carried from call to call -/
structure Car (w W : World) (b : Nat) (t : TypeId) (cs : Array Value) : Prop where
  below : Below w.heap.size w W
  blk : Blk W b t cs
theorem Car.step {w W W' : World} {b : Nat} {t : TypeId} {cs : Array Value} (h : Car w W b t cs) (hb : Below W.heap.size W W') : Car w W' b t cs := ⟨h.below.trans (hb.mono h.below.size), h.blk.below hb h.blk.lt⟩
structure CarR (W : World) (B size : Nat) (A : Option Addr) (n : Nat) (xs : List Value) : Prop where
  le : B ≤ W.heap.size
  reads : Reads W B size A n xs
theorem CarR.step {W W' : World} {B size : Nat} {A : Option Addr} {n : Nat} {xs : List Value} (h : CarR W B size A n xs) (hb : Below W.heap.size W W') : CarR W' B size A n xs := ⟨Nat.le_trans h.le hb.size, h.reads.below (hb.mono h.le)⟩
theorem Below.then {w W W' : World} (h : Below w.heap.size w W) (k : Below W.heap.size W W') : Below w.heap.size w W' := h.trans (k.mono h.size)
theorem Below.then_grown {w W W' : World} (h : Below w.heap.size w W) (k : W.grownBy W' none) : Below w.heap.size w W' := Below.then h (below_of_grown k)

theorem reads_blkN {w : World} {b B : Nat} {t : TypeId} {cs : Array Value} (h : Blk w b t cs) (hB : b < B) (n size : Nat) (hn : cs.size = n * size) : Reads w B size (some ⟨b, 0, none⟩) n cs.toList := by
  refine ⟨by simp [hn], fun _ => ⟨⟨b, 0, none⟩, rfl, hB, fun j u hu => ?_⟩⟩
  have e : (⟨b, 0, none⟩ : Addr).add j = ⟨b, j, none⟩ := by
    unfold Addr.add
    by_cases hj : j = 0
    · subst hj; simp
    · simp [hj]
  rw [e, h.cell]
  simpa using hu

set_option maxRecDepth 100000 in
set_option maxHeartbeats 2000000 in
theorem works_any (w : World) : Calls Try.prog 8 #[] w fun e w' => e = .returned (.bool true) ∧ Below w.heap.size w w' := by
  obtain ⟨S, hS⟩ : ∃ S : ByteArray, (⟨(oneF fr0).toArray⟩ : ByteArray) = S := ⟨_, rfl⟩
  obtain ⟨T, hT⟩ : ∃ S : ByteArray, (⟨(putL [fr0, fr1]).toArray⟩ : ByteArray) = S := ⟨_, rfl⟩
  have hS1 : S.size = 26 := by rw [← hS, ex_one]; rfl
  have hS2 : S.extract 16 26 = ⟨#[1, 2, 0, 0, 0, 3, 120, 121, 122, 1]⟩ := by rw [← hS, ex_one]; decide +kernel
  have hT1 : T.size = 50 := by rw [← ba_len, ← hT]; exact ex_len
  have hT2 : T.data.toList = putL [fr0, fr1] := by rw [← hT]
  have g1 : ((⟨#[1]⟩ : ByteArray) ++ S).data.toList = 1 :: s0 := by rw [← hS, ex_one]; decide +kernel
  have g2 : ((⟨#[97, 98]⟩ : ByteArray) ++ S).data.toList = 97 :: 98 :: s0 := by rw [← hS, ex_one]; decide +kernel
  have z1 : ((⟨#[1]⟩ : ByteArray) ++ S).size ≤ 100 := by rw [← ba_len, g1]; decide
  have z2 : ((⟨#[97, 98]⟩ : ByteArray) ++ S).size ≤ 100 := by rw [← ba_len, g2]; decide
  have c1 := fun W => one_any fr0 W
  rw [ex_ck, hS] at c1
  have c2 := fun W => check_any fr0 W
  rw [ex_ck] at c2
  have c3 := fun W => check_any Frm.none_ W
  rw [ex_ck1] at c3
  have ht1 := fun W => get_is T _ _ _ hT2 (getS_put _ ex_put) (by omega) W
  have ht2 := fun W => get_is _ _ _ _ g1 ex_get (by omega) W
  have ht3 := fun W => next_is _ 2 _ _ _ (g2 ▸ ex_next) (by omega) W
  have heq := fun W => eq_frame fr0 fr0 W
  rw [decide_eq_true rfl] at heq
  have hp0 := fun W => put_any 0 none 0 0 [] W (Nat.zero_le _) Reads.none_
  rw [ex_put0, put_bad [] (by rw [ex_put0]; decide)] at hp0
  have HT0 := Lib.hid hT
  clear hT2 g1 g2 hS hT
  simp only [fr0, Frm.none_] at c1 c2 c3 heq ht3
  go_enter Try.func8, Try.ntmps8
  go_wp2_with fail
  have b0 := Blk.new w 24 #[.string ⟨#[48, 49, 50, 51, 52, 53, 54, 55, 56, 57, 97, 98, 99, 100, 101, 102]⟩, .int .i64 258, .string ⟨#[120, 121, 122]⟩, .bool true]
  have hb1 : Below w.heap.size w (w.alloc (.cells #[.string ⟨#[48, 49, 50, 51, 52, 53, 54, 55, 56, 57, 97, 98, 99, 100, 101, 102]⟩, .int .i64 258, .string ⟨#[120, 121, 122]⟩, .bool true] 24)) := (Below.refl _ w).alloc (Nat.le_refl _) _
  have hx : framesV [fr0, fr1] = [.string id0, .int .i64 258, .string ⟨#[120, 121, 122]⟩, .bool true, .string id0, .int .i64 0, .string ⟨#[]⟩, .bool false] := rfl
  have hid : id0 = ⟨#[48, 49, 50, 51, 52, 53, 54, 55, 56, 57, 97, 98, 99, 100, 101, 102]⟩ := rfl
  rw [← hid] at b0 hb1 ⊢
  generalize w.alloc (.cells #[.string id0, .int .i64 258, .string ⟨#[120, 121, 122]⟩, .bool true] 24) = w1 at *
  generalize id0 = I at *
  generalize hD : (⟨#[120, 121, 122]⟩ : ByteArray) = D at *
  have HX := Lib.hid hx
  clear hD hid hx
  have C1 : Car w w1 w.heap.size 24 #[.string I, .int .i64 258, .string D, .bool true] := ⟨hb1, b0⟩
  clear hb1 b0
  refine (c1 w1).mono ?_
  rintro e w2 ⟨rfl, hg⟩
  have C2 := C1.step (below_of_grown hg)
  clear C1 hg c1
  have b2 := C2.blk
  have e0 := b2.cell 0; have e1 := b2.cell 1; have e2 := b2.cell 2; have e3 := b2.cell 3
  simp only [List.getElem?_toArray, List.getElem?_cons_zero, List.getElem?_cons_succ] at e0 e1 e2 e3
  go_wp2_with fail
  clear e0 e1 e2 e3 b2
  have b8 := Blk.new w2 24 #[.string I, .int .i64 258, .string D, .bool true, .string I, .int .i64 0, .string ⟨#[]⟩, .bool false]
  have hb : Below w2.heap.size w2 (w2.alloc (.cells #[.string I, .int .i64 258, .string D, .bool true, .string I, .int .i64 0, .string ⟨#[]⟩, .bool false] 24)) := (Below.refl _ _).alloc (Nat.le_refl _) _
  have C3 := C2.step hb
  have hz2 : (w2.alloc (.cells #[.string I, .int .i64 258, .string D, .bool true, .string I, .int .i64 0, .string ⟨#[]⟩, .bool false] 24)).heap.size = w2.heap.size + 1 := by simp
  generalize w2.alloc (.cells #[.string I, .int .i64 258, .string D, .bool true, .string I, .int .i64 0, .string ⟨#[]⟩, .bool false] 24) = w3 at *
  clear hb C2
  have hp := put_any (w2.heap.size + 1) (some ⟨w2.heap.size, 0, none⟩) 2 2 [fr0, fr1] w3 (by omega) (by rw [HX.out]; exact reads_blkN b8 (by omega) 2 4 rfl)
  rw [ex_put, HT0.out] at hp
  refine hp.mono ?_
  rintro e w4 ⟨rfl, hg⟩
  have C4 := C3.step (below_of_grown hg)
  clear hp hg C3 b8 hz2
  go_wp2_with fail
  refine (ht1 _).mono ?_
  rintro e w5 ⟨A5, k5, rfl, _, hb⟩
  have C5 := C4.step hb
  clear ht1 hb C4
  go_wp2_with fail
  refine (hp0 _).mono ?_
  rintro e w6 ⟨rfl, hg⟩
  have C6 := C5.step (below_of_grown hg)
  clear hp0 hg C5
  go_wp2_with fail
  refine (ht2 _).mono ?_
  rintro e w7 ⟨A7, k7, rfl, _, hb⟩
  have C7 := C6.step hb
  clear ht2 hb C6
  go_wp2_with fail
  refine (ht3 _).mono ?_
  rintro e w8 ⟨rfl, hg⟩
  have C8 := C7.step (below_of_grown hg)
  clear ht3 hg C7
  have C9 := C8.step ((Below.refl _ w8).alloc (Nat.le_refl _) (.cells #[.string I, .int .i64 258, .string D, .bool true] 24))
  have b2 := C9.blk
  have e0 := b2.cell 0; have e1 := b2.cell 1; have e2 := b2.cell 2; have e3 := b2.cell 3
  simp only [List.getElem?_toArray, List.getElem?_cons_zero, List.getElem?_cons_succ] at e0 e1 e2 e3
  have hne : w.heap.size < w8.heap.size := C8.blk.lt
  have hne' : ¬ w8.heap.size = w.heap.size := by omega
  clear b2
  go_wp2_with fail
  generalize w8.alloc (.cells #[.string I, .int .i64 258, .string D, .bool true] 24) = w9 at *
  clear C8 e0 e1 e2 e3
  refine (c2 _).mono ?_
  rintro e w10 ⟨rfl, hg⟩
  have C10 := C9.step (below_of_grown hg)
  clear c2 hg C9
  go_wp2_with fail
  refine (c3 _).mono ?_
  rintro e w11 ⟨rfl, hg⟩
  have C11 := C10.step (below_of_grown hg)
  clear c3 hg C10
  go_wp2_with fail
  go_ret
  exact ⟨by simp, C11.below⟩
end Go.Proofs.Ytfafjnjdikofcaa
