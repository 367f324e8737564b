/- FrameBack, FrameOnly, FramePuts: what they answer. -/
import Derived.Test.YtfafjnjdikofcaaFrmO
namespace Go.Proofs.Ytfafjnjdikofcaa
open Go.RowKit Go.Shelf

theorem few_is (B : Nat) (A : Option Addr) (n c : Nat) (xs : List Frm) (b : Bool) (hb : fewF xs = b) (w : World) (h : Reads w B 4 A n (framesV xs)) :
    Calls Try.prog 9 #[.slice A n c] w fun e w' => e = .returned (.bool b) ∧ w = w' :=
  (few_any B A n c xs w h).mono fun _ _ ⟨h1, h2⟩ => ⟨by rw [h1, hb], h2.symm⟩
theorem put_is (B : Nat) (A : Option Addr) (n c : Nat) (xs : List Frm) (S : ByteArray) (E : Int) (hS : (⟨(putL xs).toArray⟩ : ByteArray) = S) (hE : putE xs = E) (w : World) (hB : B ≤ w.heap.size) (h : Reads w B 4 A n (framesV xs)) :
    Calls Try.prog 13 #[.slice A n c] w fun e w' => e = .returned (.tuple #[.string S, .int .i64 E]) ∧ w.grownBy w' none :=
  (put_any B A n c xs w hB h).mono fun _ _ ⟨h1, h2⟩ => ⟨by rw [h1, hS, hE], h2⟩

set_option maxRecDepth 100000 in
set_option maxHeartbeats 1000000 in
theorem back_law (A : Option Addr) (n c : Nat) (xs : List Frm) (w : World) (h : Reads w w.heap.size 4 A n (framesV xs)) (hn : n ≤ maxLen) :
    Calls Try.prog 4 #[.slice A n c] w fun e w' => e = .returned (.bool true) ∧ Below w.heap.size w w' := by
  unfold maxLen at hn
  have hl : xs.length = n := by have := h.1; rw [framesV_len] at this; omega
  obtain ⟨b, hb⟩ : ∃ b, fewF xs = b := ⟨_, rfl⟩
  obtain ⟨S, hS⟩ : ∃ S : ByteArray, (⟨(putL xs).toArray⟩ : ByteArray) = S := ⟨_, rfl⟩
  obtain ⟨E, hE⟩ : ∃ e, putE xs = e := ⟨_, rfl⟩
  have hSl : S.data.toList = putL xs := by rw [← hS]
  have hSz : S.size ≤ 131809 := by rw [← ba_len, hSl]; exact putL_len xs
  have hbad : E ≠ 0 → S = ⟨#[]⟩ := by intro h0; rw [← hS, put_bad xs (by rw [hE]; exact h0)]
  have hgood : E = 0 → getS (putL xs) = (xs, 0) ∧ xs.length ≤ 32 := fun h0 => ⟨getS_put xs (by rw [hE]; exact h0), (put_ok xs (by rw [hE]; exact h0)).2.2.1⟩
  have H1 := Lib.hid hl; have HB := Lib.hid hb; have HS := Lib.hid hS; have HE := Lib.hid hE; have HSL := Lib.hid hSl; have HBAD := Lib.hid hbad; have HGOOD := Lib.hid hgood
  clear hl hb hS hE hSl hbad hgood
  go_enter Try.func4, Try.ntmps4
  go_wp2_with fail
  refine (works_any _).mono ?_
  rintro e w1 ⟨rfl, hb1⟩
  go_wp2_with fail
  refine (few_is w.heap.size A n c xs b HB.out w1 (h.below hb1)).mono ?_
  rintro e w' ⟨rfl, rfl⟩
  cases b
  · go_wp2_with fail
    go_ret
    exact ⟨rfl, hb1⟩
  go_wp2_with fail
  refine (put_is w.heap.size A n c xs S E HS.out HE.out w1 hb1.size (h.below hb1)).mono ?_
  rintro e w2 ⟨rfl, hg⟩
  have hb2 := Below.then_grown hb1 hg
  clear hg
  by_cases h0 : E = 0
  · subst h0
    obtain ⟨g1, g2⟩ := HGOOD.out rfl
    have hgt := fun W => get_is S _ _ _ HSL.out g1 (by omega) W
    have hn32 : n ≤ 32 := by have := H1.out; omega
    clear g1
    go_wp2_with fail
    refine (hgt _).mono ?_
    rintro e w3 ⟨A3, c3, rfl, hr3, hb⟩
    have hb3 := Below.then hb2 hb
    clear hb
    go_wp2_with fail
    refine (same_any _ _ _ _ _ _ _ _ xs xs w3 (h.below hb3) hr3 (by omega) (by omega)).mono ?_
    rintro e w4 ⟨rfl, hb⟩
    have hb4 := Below.then hb3 hb
    clear hb
    simp only [decide_true]
    go_wp2_with fail
    go_ret
    exact ⟨by simp, hb4⟩
  · have d1 : (E != 0) = true := by simpa using h0
    obtain rfl := HBAD.out h0
    clear HBAD HGOOD
    go_wp2_with fail
    go_ret
    exact ⟨by simp, hb2⟩

set_option maxRecDepth 100000 in
set_option maxHeartbeats 1000000 in
theorem only_law (s : ByteArray) (hs : s.size ≤ 9223372036854775807) (w : World) :
    Calls Try.prog 5 #[.string s] w fun e w' => e = .returned (.bool true) ∧ Below w.heap.size w w' := by
  go_enter Try.func5, Try.ntmps5
  go_wp2_with fail
  refine (works_any _).mono ?_
  rintro e w1 ⟨rfl, hb1⟩
  by_cases hsm : s.size ≤ 2000
  · have d1 : decide ((2000 : Int) < (s.size : Int)) = false := by simp; omega
    obtain ⟨xs, E, hG⟩ : ∃ xs E, getS s.data.toList = (xs, E) := ⟨_, _, rfl⟩
    have hgt := fun W => get_is s _ xs E rfl hG (by omega) W
    have hbad : E ≠ 0 → xs = [] := by intro h0; have := getS_bad s.data.toList (by rw [hG]; exact h0); rw [hG] at this; exact this
    have hgood : E = 0 → putE xs = 0 ∧ putL xs = s.data.toList ∧ 1 ≤ xs.length ∧ xs.length ≤ 32 := by rintro rfl; exact getS_only _ _ hG
    have HBAD := Lib.hid hbad; have HGOOD := Lib.hid hgood
    clear hbad hgood hG
    go_wp2_with fail
    refine (hgt _).mono ?_
    rintro e w2 ⟨A2, c2, rfl, hr2, hb⟩
    have hb2 := Below.then hb1 hb
    clear hb hgt
    by_cases h0 : E = 0
    · subst h0
      obtain ⟨g1, g2, g3, g4⟩ := HGOOD.out rfl
      have hS : (⟨(putL xs).toArray⟩ : ByteArray) = s := ba_ext g2
      have hp := put_is w2.heap.size A2 xs.length c2 xs s 0 hS g1 w2 (Nat.le_refl _) hr2
      obtain ⟨k, hk⟩ : ∃ k, xs.length = k := ⟨_, rfl⟩
      rw [hk] at hp g3 g4 ⊢
      have d2 : (1 : Int) ≤ (k : Int) := by omega
      have d3 : (k : Int) ≤ 32 := by omega
      clear g1 g2 hS hk hr2 HBAD HGOOD
      go_wp2_with fail
      refine hp.mono ?_
      rintro e w3 ⟨rfl, hg⟩
      have hb3 := Below.then_grown hb2 hg
      clear hg hp
      go_wp2_with fail
      go_ret
      exact ⟨by simp, hb3⟩
    · have d1 : (E != 0) = true := by simpa using h0
      obtain rfl := HBAD.out h0
      clear HBAD HGOOD
      go_wp2_with fail
      go_ret
      exact ⟨by simp, hb2⟩
  · have d1 : (2000 : Int) < (s.size : Int) := by omega
    go_wp2_with fail
    go_ret
    exact ⟨rfl, hb1⟩

set_option maxRecDepth 100000 in
set_option maxHeartbeats 1000000 in
theorem puts_law (A : Option Addr) (n c : Nat) (xs : List Frm) (f : Frm) (w : World) (h : Reads w w.heap.size 4 A n (framesV xs)) :
    Calls Try.prog 3 #[.slice A n c, .agg #[.string f.id, .int .i64 f.num, .string f.data, .bool f.last]] w fun e w' => e = .returned (.bool true) ∧ Below w.heap.size w w' := by
  have hl : xs.length = n := by have := h.1; rw [framesV_len] at this; omega
  obtain ⟨b, hb⟩ : ∃ b, fewF xs = b := ⟨_, rfl⟩
  obtain ⟨b2, hbb⟩ : ∃ b, fewF [f] = b := ⟨_, rfl⟩
  obtain ⟨S, hS⟩ : ∃ S : ByteArray, (⟨(putL xs).toArray⟩ : ByteArray) = S := ⟨_, rfl⟩
  obtain ⟨E, hE⟩ : ∃ e, putE xs = e := ⟨_, rfl⟩
  obtain ⟨O, hO⟩ : ∃ S : ByteArray, (⟨(oneF f).toArray⟩ : ByteArray) = S := ⟨_, rfl⟩
  obtain ⟨K, hK⟩ : ∃ e, checkF f = e := ⟨_, rfl⟩
  have k1 := fun W => check_any f W
  have k2 := fun W => checkR_any f W
  have k3 := fun W => one_any f W
  have k4 := fun W => oneR_any f W
  rw [hK] at k1 k2 k3 k4
  rw [hO] at k3 k4
  have hp1 := fun W hB hR => put_any w.heap.size A n c xs W hB hR
  have hp2 := fun W hB hR => putR_any w.heap.size A n c xs W hB hR
  rw [hS, hE] at hp1 hp2
  have hfl : framesV [f] = [.string f.id, .int .i64 f.num, .string f.data, .bool f.last] := rfl
  have H1 := Lib.hid hl; have HB := Lib.hid hb; have HBB := Lib.hid hbb; have HF := Lib.hid hfl
  obtain ⟨id, num, data, last⟩ := f
  simp only at k1 k2 k3 k4
  clear hl hb hbb hS hE hO hK hfl
  go_enter Try.func3, Try.ntmps3
  go_wp2_with fail
  have C0 : Car w (w.alloc (.cells #[.string id, .int .i64 num, .string data, .bool last] 24)) w.heap.size 24 #[.string id, .int .i64 num, .string data, .bool last] := ⟨(Below.refl _ _).alloc (Nat.le_refl _) _, Blk.new w 24 #[.string id, .int .i64 num, .string data, .bool last]⟩
  generalize w.alloc (.cells #[.string id, .int .i64 num, .string data, .bool last] 24) = w0 at *
  refine (works_any _).mono ?_
  rintro e w1 ⟨rfl, hb1⟩
  have C1 := C0.step hb1
  clear hb1 C0
  go_wp2_with fail
  refine (few_is w.heap.size A n c xs b HB.out w1 (h.below C1.below)).mono ?_
  rintro e w' ⟨rfl, rfl⟩
  cases b
  · go_wp2_with fail
    go_ret
    exact ⟨rfl, C1.below⟩
  have bk := C1.blk
  have e0 := bk.cell 0; have e1 := bk.cell 1; have e2 := bk.cell 2; have e3 := bk.cell 3
  simp only [List.getElem?_toArray, List.getElem?_cons_zero, List.getElem?_cons_succ] at e0 e1 e2 e3
  go_wp2_with fail
  have bn := Blk.new w1 24 #[.string id, .int .i64 num, .string data, .bool last]
  have C2 := C1.step ((Below.refl _ w1).alloc (Nat.le_refl _) (.cells #[.string id, .int .i64 num, .string data, .bool last] 24))
  have hz : (w1.alloc (.cells #[.string id, .int .i64 num, .string data, .bool last] 24)).heap.size = w1.heap.size + 1 := by simp
  generalize w1.alloc (.cells #[.string id, .int .i64 num, .string data, .bool last] 24) = w2 at *
  clear e0 e1 e2 e3 bk C1
  refine (few_is (w1.heap.size + 1) _ 1 1 [⟨id, num, data, last⟩] b2 HBB.out w2 (by rw [HF.out]; exact reads_blkN bn (by omega) 1 4 rfl)).mono ?_
  rintro e w' ⟨rfl, rfl⟩
  clear bn hz
  cases b2
  · go_wp2_with fail
    go_ret
    exact ⟨rfl, C2.below⟩
  have bk := C2.blk
  have e0 := bk.cell 0; have e1 := bk.cell 1; have e2 := bk.cell 2; have e3 := bk.cell 3
  simp only [List.getElem?_toArray, List.getElem?_cons_zero, List.getElem?_cons_succ] at e0 e1 e2 e3
  go_wp2_with fail
  refine (k2 _).mono ?_
  rintro e w3 ⟨rfl, hg⟩
  have C3 := C2.step (below_of_grown hg)
  clear e0 e1 e2 e3 bk C2 k2 hg
  have bk := C3.blk
  have e0 := bk.cell 0; have e1 := bk.cell 1; have e2 := bk.cell 2; have e3 := bk.cell 3
  simp only [List.getElem?_toArray, List.getElem?_cons_zero, List.getElem?_cons_succ] at e0 e1 e2 e3
  go_wp2_with fail
  refine (k3 _).mono ?_
  rintro e w4 ⟨rfl, hg⟩
  have C4 := C3.step (below_of_grown hg)
  clear e0 e1 e2 e3 bk C3 k3 hg
  have bk := C4.blk
  have e0 := bk.cell 0; have e1 := bk.cell 1; have e2 := bk.cell 2; have e3 := bk.cell 3
  simp only [List.getElem?_toArray, List.getElem?_cons_zero, List.getElem?_cons_succ] at e0 e1 e2 e3
  go_wp2_with fail
  refine (k4 _).mono ?_
  rintro e w5 ⟨rfl, hg⟩
  have C5 := C4.step (below_of_grown hg)
  clear e0 e1 e2 e3 bk C4 k4 hg
  go_wp2_with fail
  refine (hp1 _ C5.below.size (h.below C5.below)).mono ?_
  rintro e w6 ⟨rfl, hg⟩
  have C6 := C5.step (below_of_grown hg)
  clear C5 hp1 hg
  go_wp2_with fail
  refine (hp2 _ C6.below.size (h.below C6.below)).mono ?_
  rintro e w7 ⟨rfl, hg⟩
  have C7 := C6.step (below_of_grown hg)
  clear C6 hp2 hg
  have bk := C7.blk
  have e0 := bk.cell 0; have e1 := bk.cell 1; have e2 := bk.cell 2; have e3 := bk.cell 3
  simp only [List.getElem?_toArray, List.getElem?_cons_zero, List.getElem?_cons_succ] at e0 e1 e2 e3
  go_wp2_with fail
  refine (k1 _).mono ?_
  rintro e w8 ⟨rfl, hg⟩
  have C8 := C7.step (below_of_grown hg)
  clear e0 e1 e2 e3 bk C7 k1 hg
  go_wp2_with fail
  go_ret
  exact ⟨by simp, C8.below⟩
end Go.Proofs.Ytfafjnjdikofcaa
