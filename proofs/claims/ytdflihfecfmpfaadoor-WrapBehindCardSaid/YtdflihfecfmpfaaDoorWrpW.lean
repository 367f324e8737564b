/- Wrappers: the walks of four laws.  Printed by wip/genWrpW.py -/
import Derived.Test.YtdflihfecfmpfaaDoorWrpV
namespace Go.Proofs.YtdflihfecfmpfaaDoor
open Go.RowKit Go.Shelf
set_option linter.unusedVariables false
set_option linter.unusedSimpArgs false

theorem sz_of (l : List UInt8) : (⟨l.toArray⟩ : ByteArray).size = l.length := by show l.toArray.size = _; simp
theorem ba_len_ne {a : ByteArray} (h : a.data.toList ≠ []) : (a.toList == (⟨#[]⟩ : ByteArray).toList) = false := by
  rw [beq_eq_false_iff_ne, Lib.toList_data, Lib.toList_data]; exact h
theorem str_same (s : ByteArray) : (s.toList == s.toList) = true := by simp
theorem catB_le_few {xs : List ByteArray} (h : fewW xs = true) (hx : ∀ x ∈ xs, x.size ≤ 32768) : (catB xs).length ≤ 2000 ∧ xs.length ≤ 70 := by
  unfold fewW at h
  rw [Bool.and_eq_true, decide_eq_true_eq, decide_eq_true_eq] at h
  obtain ⟨h1, h2⟩ := h
  rw [List.take_of_length_le (by omega)] at h2
  exact ⟨by rw [fewN_cat xs hx]; exact h2, h1⟩
theorem catB_few {xs : List ByteArray} (h : fewW xs = true) : xs.length ≤ 70 := by
  unfold fewW at h
  rw [Bool.and_eq_true, decide_eq_true_eq] at h
  exact h.1
theorem putL_len {v : Int} {xs : List ByteArray} (h : checkW v xs = 0) : (putL v xs).length ≤ 3000000 := by
  obtain ⟨-, k0, k64, kx, -⟩ := checkW_0.1 h
  have h1 := flat_len (v := v) xs fun x hx => (longE_0.1 (kx x hx)).2
  have h3 : xs.length * 32800 ≤ 64 * 32800 := Nat.mul_le_mul_right _ k64
  unfold putL
  rw [List.length_append]
  split
  · have : (varL xs.length).length ≤ 10 := varF_len 10 _
    rw [List.length_cons]; omega
  · rw [List.length_nil]; omega
theorem check_02 (xs : List ByteArray) : checkW 2 xs = checkW 0 xs := by
  unfold checkW
  rw [if_neg (show ¬ ((2 : Int) ≠ 0 ∧ (2 : Int) ≠ 2) by decide), if_neg (show ¬ ((0 : Int) ≠ 0 ∧ (0 : Int) ≠ 2) by decide)]

set_option maxRecDepth 100000 in
set_option maxHeartbeats 4000000 in
theorem wputs_law (v : Int) (A : Option Addr) (n c : Nat) (xs : List ByteArray) (W : World) (hR : Reads W W.heap.size 1 A n (xs.map Value.string)) (hn : n ≤ 9223372036854775807) (hnc : n ≤ c) (hs : ∀ x ∈ xs, x.size ≤ 9223372036854775807) :
    Calls Tryd.prog 3 #[.int .i64 v, .slice A n c] W fun e w' => e = .returned (.bool true) ∧ Below W.heap.size W w' := by
  have hl : xs.length = n := by have := hR.1; simpa using this
  have HL := Lib.hid hl; have HS := Lib.hid hs; have HN := Lib.hid hn; have HNC := Lib.hid hnc
  have HR := Lib.hid hR
  have HG := Lib.hid (World.grownBy.refl W none)
  obtain ⟨b, hb⟩ : ∃ b, W.heap.size = b := ⟨_, rfl⟩
  have HZ := Lib.hid (show W.heap.size ≤ W.heap.size from Nat.le_refl _)
  rw [hb] at HR
  have HZ := Lib.hid (show b ≤ W.heap.size by omega)
  have HE := Lib.hid hb
  clear hl hs hn hnc hR hb
  go_enter Tryd.func3, Tryd.ntmps3
  go_wp2_with fail
  refine (works20_any _).mono ?_
  rintro e w1 ⟨rfl, hg⟩
  replace HR := Lib.hid (HR.out.grown hg HZ.out (by simp))
  replace HG := Lib.hid (grown_self HG.out hg (by simp))
  replace HZ := Lib.hid (Nat.le_trans HZ.out hg.size)
  clear hg
  go_wp2_with fail
  refine (fewR_any b A n c xs _ HR.out HN.out HS.out).mono ?_
  rintro e w2 ⟨rfl, hw⟩
  rw [hw]
  clear hw
  cases hfew : fewW xs with
  | false =>
    go_wp2_with fail
    go_ret
    exact ⟨rfl, below_of_grown HG.out⟩
  | true =>
  have HFW := Lib.hid hfew
  clear hfew
  go_wp2_with fail
  refine (wcheckR_any v b A n c xs _ HR.out HN.out HS.out).mono ?_
  rintro e w2 ⟨rfl, hw⟩
  rw [hw]
  clear hw
  obtain ⟨E, hE⟩ : ∃ E, checkW v xs = E := ⟨_, rfl⟩
  obtain ⟨P, hP⟩ : ∃ P : ByteArray, (⟨(putW v xs).toArray⟩ : ByteArray) = P := ⟨_, rfl⟩
  have h1 := fun V hB hR => wput_any v b A n c xs V hB hR HN.out HNC.out HS.out
  have h2 := fun V hB hR => wputR_any v b A n c xs V hB hR HN.out HS.out
  have h3 := fun V hB hR => wcheck_any v b A n c xs V hB hR HN.out HNC.out HS.out
  rw [hE] at h3 ⊢
  rw [hE, hP] at h1 h2
  have H1 := Lib.hid h1; have H2 := Lib.hid h2; have H3 := Lib.hid h3
  clear h1 h2 h3 hE hP
  have es := str_same P
  go_wp2_with fail
  refine (H1.out _ HZ.out HR.out).mono ?_
  rintro e w2 ⟨rfl, hg⟩
  replace HR := Lib.hid (HR.out.grown hg HZ.out (by simp))
  replace HG := Lib.hid (grown_self HG.out hg (by simp))
  replace HZ := Lib.hid (Nat.le_trans HZ.out hg.size)
  clear hg
  go_wp2_with fail
  refine (H2.out _ HZ.out HR.out).mono ?_
  rintro e w3 ⟨rfl, hg⟩
  replace HR := Lib.hid (HR.out.grown hg HZ.out (by simp))
  replace HG := Lib.hid (grown_self HG.out hg (by simp))
  replace HZ := Lib.hid (Nat.le_trans HZ.out hg.size)
  clear hg
  go_wp2_with fail
  refine (H3.out _ HZ.out HR.out).mono ?_
  rintro e w4 ⟨rfl, hg⟩
  replace HR := Lib.hid (HR.out.grown hg HZ.out (by simp))
  replace HG := Lib.hid (grown_self HG.out hg (by simp))
  replace HZ := Lib.hid (Nat.le_trans HZ.out hg.size)
  clear hg
  go_wp2_with fail
  go_ret
  exact ⟨by simp, below_of_grown HG.out⟩
set_option maxRecDepth 100000 in
set_option maxHeartbeats 4000000 in
theorem wback_law (v : Int) (A : Option Addr) (n c : Nat) (xs : List ByteArray) (W : World) (hR : Reads W W.heap.size 1 A n (xs.map Value.string)) (hn : n ≤ 9223372036854775807) (hnc : n ≤ c) (hs : ∀ x ∈ xs, x.size ≤ 9223372036854775807) :
    Calls Tryd.prog 4 #[.int .i64 v, .slice A n c] W fun e w' => e = .returned (.bool true) ∧ Below W.heap.size W w' := by
  have hl : xs.length = n := by have := hR.1; simpa using this
  have HL := Lib.hid hl; have HS := Lib.hid hs; have HN := Lib.hid hn; have HNC := Lib.hid hnc
  have HR := Lib.hid hR
  have HG := Lib.hid (World.grownBy.refl W none)
  obtain ⟨b, hb⟩ : ∃ b, W.heap.size = b := ⟨_, rfl⟩
  have HZ := Lib.hid (show W.heap.size ≤ W.heap.size from Nat.le_refl _)
  rw [hb] at HR
  have HZ := Lib.hid (show b ≤ W.heap.size by omega)
  have HE := Lib.hid hb
  clear hl hs hn hnc hR hb
  go_enter Tryd.func4, Tryd.ntmps4
  go_wp2_with fail
  refine (works20_any _).mono ?_
  rintro e w1 ⟨rfl, hg⟩
  replace HR := Lib.hid (HR.out.grown hg HZ.out (by simp))
  replace HG := Lib.hid (grown_self HG.out hg (by simp))
  replace HZ := Lib.hid (Nat.le_trans HZ.out hg.size)
  clear hg
  go_wp2_with fail
  refine (fewR_any b A n c xs _ HR.out HN.out HS.out).mono ?_
  rintro e w2 ⟨rfl, hw⟩
  rw [hw]
  clear hw
  cases hfew : fewW xs with
  | false =>
    go_wp2_with fail
    go_ret
    exact ⟨rfl, below_of_grown HG.out⟩
  | true =>
  have HFW := Lib.hid hfew
  clear hfew
  obtain ⟨E, hE⟩ : ∃ E, checkW v xs = E := ⟨_, rfl⟩
  have h1 := fun V hB hR => wput_any v b A n c xs V hB hR HN.out HNC.out HS.out
  have h3 := fun V hB hR => wcheck_any v b A n c xs V hB hR HN.out HNC.out HS.out
  rw [hE] at h1 h3
  have H1 := Lib.hid h1; have H3 := Lib.hid h3
  clear h1 h3
  by_cases h0 : E = 0
  rotate_left
  · have hp : putW v xs = [] := if_neg (by rw [hE]; exact h0)
    have e1 : (E != 0) = true := by simpa using h0
    rw [hp] at H1
    clear hp hE h0
    go_wp2_with fail
    refine (H1.out _ HZ.out HR.out).mono ?_
    rintro e w2 ⟨rfl, hg⟩
    replace HR := Lib.hid (HR.out.grown hg HZ.out (by simp))
    replace HG := Lib.hid (grown_self HG.out hg (by simp))
    replace HZ := Lib.hid (Nat.le_trans HZ.out hg.size)
    clear hg
    go_wp2_with fail
    refine (H3.out _ HZ.out HR.out).mono ?_
    rintro e w3 ⟨rfl, hg⟩
    replace HR := Lib.hid (HR.out.grown hg HZ.out (by simp))
    replace HG := Lib.hid (grown_self HG.out hg (by simp))
    replace HZ := Lib.hid (Nat.le_trans HZ.out hg.size)
    clear hg
    go_wp2_with fail
    go_ret
    exact ⟨by simp, below_of_grown HG.out⟩
  subst h0
  have hp : putW v xs = putL v xs := if_pos hE
  obtain ⟨g1, g2, g3, g4, g5⟩ := get_back hE
  have hpl := putL_len hE
  rw [hp] at H1
  obtain ⟨P, hP⟩ : ∃ P : ByteArray, (⟨(putL v xs).toArray⟩ : ByteArray) = P := ⟨_, rfl⟩
  have hPl : P.data.toList = putL v xs := by rw [← hP]
  have hPs : P.size ≤ 1000000000000 := by rw [← hP, sz_of]; omega
  rw [hP] at H1
  rw [← hPl] at g1 g2 g3 g4 g5
  have h4 := fun V => wget_any P hPs V
  rw [g1, g2, g3] at h4
  have h5 := fun V => version_any P V
  rw [g4, g5] at h5
  have H4 := Lib.hid h4; have H5 := Lib.hid h5
  clear hE hp g1 g2 g3 g4 g5 hpl hPl hPs hP h4 h5
  have ev : (v == v) = true := by simp
  go_wp2_with fail
  refine (H1.out _ HZ.out HR.out).mono ?_
  rintro e w2 ⟨rfl, hg⟩
  replace HR := Lib.hid (HR.out.grown hg HZ.out (by simp))
  replace HG := Lib.hid (grown_self HG.out hg (by simp))
  replace HZ := Lib.hid (Nat.le_trans HZ.out hg.size)
  clear hg
  go_wp2_with fail
  refine (H4.out _).mono ?_
  rintro e w3 ⟨u, rfl, hown, hbl⟩
  have hg := grown_of_below hbl
  obtain ⟨A3, c3, rfl⟩ := own_slice3W hown
  have HM := Lib.hid (Reads.of_own hown)
  have HMz := Lib.hid (Nat.le_refl w3.heap.size)
  clear hbl hown
  replace HR := Lib.hid (HR.out.grown hg HZ.out (by simp))
  replace HG := Lib.hid (grown_self HG.out hg (by simp))
  replace HZ := Lib.hid (Nat.le_trans HZ.out hg.size)
  clear hg
  go_wp2_with fail
  refine (H5.out _).mono ?_
  rintro e w4 ⟨rfl, hw⟩
  rw [hw]
  clear hw
  have hk := textsR_any _ _ A A3 n xs.length c c3 xs xs w3 HR.out HM.out (by have := HL.out; have := (catB_few HFW.out); omega) (by have := (catB_few HFW.out); omega)
  rw [decide_eq_true (rfl : xs = xs)] at hk
  go_wp2_with fail
  refine hk.mono ?_
  rintro e w4 ⟨rfl, hbl⟩
  have hg := grown_of_below hbl
  clear hk hbl
  replace HG := Lib.hid (grown_self HG.out hg (by simp))
  go_wp2_with fail
  go_ret
  exact ⟨by simp, below_of_grown HG.out⟩
set_option maxRecDepth 100000 in
set_option maxHeartbeats 4000000 in
theorem wversions_law (A : Option Addr) (n c : Nat) (xs : List ByteArray) (W : World) (hR : Reads W W.heap.size 1 A n (xs.map Value.string)) (hn : n ≤ 9223372036854775807) (hnc : n ≤ c) (hs : ∀ x ∈ xs, x.size ≤ 9223372036854775807) :
    Calls Tryd.prog 7 #[.slice A n c] W fun e w' => e = .returned (.bool true) ∧ Below W.heap.size W w' := by
  have hl : xs.length = n := by have := hR.1; simpa using this
  have HL := Lib.hid hl; have HS := Lib.hid hs; have HN := Lib.hid hn; have HNC := Lib.hid hnc
  have HR := Lib.hid hR
  have HG := Lib.hid (World.grownBy.refl W none)
  obtain ⟨b, hb⟩ : ∃ b, W.heap.size = b := ⟨_, rfl⟩
  have HZ := Lib.hid (show W.heap.size ≤ W.heap.size from Nat.le_refl _)
  rw [hb] at HR
  have HZ := Lib.hid (show b ≤ W.heap.size by omega)
  have HE := Lib.hid hb
  clear hl hs hn hnc hR hb
  go_enter Tryd.func7, Tryd.ntmps7
  go_wp2_with fail
  refine (works20_any _).mono ?_
  rintro e w1 ⟨rfl, hg⟩
  replace HR := Lib.hid (HR.out.grown hg HZ.out (by simp))
  replace HG := Lib.hid (grown_self HG.out hg (by simp))
  replace HZ := Lib.hid (Nat.le_trans HZ.out hg.size)
  clear hg
  go_wp2_with fail
  refine (fewR_any b A n c xs _ HR.out HN.out HS.out).mono ?_
  rintro e w2 ⟨rfl, hw⟩
  rw [hw]
  clear hw
  cases hfew : fewW xs with
  | false =>
    go_wp2_with fail
    go_ret
    exact ⟨rfl, below_of_grown HG.out⟩
  | true =>
  have HFW := Lib.hid hfew
  clear hfew
  obtain ⟨E, hE⟩ : ∃ E, checkW 0 xs = E := ⟨_, rfl⟩
  have hE2 : checkW 2 xs = E := (check_02 xs).trans hE
  have h1 := fun V hB hR => wput_any 0 b A n c xs V hB hR HN.out HNC.out HS.out
  have h2 := fun V hB hR => wput_any 2 b A n c xs V hB hR HN.out HNC.out HS.out
  rw [hE] at h1
  rw [hE2] at h2
  by_cases h0 : E = 0
  rotate_left
  · have hp : putW 0 xs = [] := if_neg (by rw [hE]; exact h0)
    have hp2 : putW 2 xs = [] := if_neg (by rw [hE2]; exact h0)
    have e1 : (E != 0) = true := by simpa using h0
    have e2 : (E != E) = false := by simp
    rw [hp] at h1
    rw [hp2] at h2
    have H1 := Lib.hid h1; have H2 := Lib.hid h2
    clear hp hp2 hE hE2 h0 h1 h2
    go_wp2_with fail
    refine (H1.out _ HZ.out HR.out).mono ?_
    rintro e w2 ⟨rfl, hg⟩
    replace HR := Lib.hid (HR.out.grown hg HZ.out (by simp))
    replace HG := Lib.hid (grown_self HG.out hg (by simp))
    replace HZ := Lib.hid (Nat.le_trans HZ.out hg.size)
    clear hg
    go_wp2_with fail
    refine (H2.out _ HZ.out HR.out).mono ?_
    rintro e w3 ⟨rfl, hg⟩
    replace HR := Lib.hid (HR.out.grown hg HZ.out (by simp))
    replace HG := Lib.hid (grown_self HG.out hg (by simp))
    replace HZ := Lib.hid (Nat.le_trans HZ.out hg.size)
    clear hg
    go_wp2_with fail
    go_ret
    exact ⟨by simp, below_of_grown HG.out⟩
  subst h0
  have hp : putW 0 xs = putL 0 xs := if_pos hE
  have hp2 : putW 2 xs = putL 2 xs := if_pos hE2
  obtain ⟨g1, g2, g3, g4, g5⟩ := get_back hE
  obtain ⟨f1, f2, f3, f4, f5⟩ := get_back hE2
  have hpl := putL_len hE
  have hpl2 := putL_len hE2
  rw [hp] at h1
  rw [hp2] at h2
  obtain ⟨P, hP⟩ : ∃ P : ByteArray, (⟨(putL 0 xs).toArray⟩ : ByteArray) = P := ⟨_, rfl⟩
  obtain ⟨R, hRR⟩ : ∃ P : ByteArray, (⟨(putL 2 xs).toArray⟩ : ByteArray) = P := ⟨_, rfl⟩
  have hPl : P.data.toList = putL 0 xs := by rw [← hP]
  have hRl : R.data.toList = putL 2 xs := by rw [← hRR]
  have hPs : P.size ≤ 1000000000000 := by rw [← hP, sz_of]; omega
  have hRs : R.size ≤ 1000000000000 := by rw [← hRR, sz_of]; omega
  rw [hP] at h1
  rw [hRR] at h2
  rw [← hPl] at g1 g2 g3 g5
  rw [← hRl] at f1 f2 f3 f5
  have hne : P ≠ R := fun e => by rw [e, f5] at g5; exact absurd g5 (by decide)
  have en := str_ne hne
  have en2 : (P.toList != R.toList) = true := by rw [bne, en]; rfl
  have h4 := fun V => wget_any P hPs V
  rw [g1, g2, g3] at h4
  have h5 := fun V => wget_any R hRs V
  rw [f1, f2, f3] at h5
  have H1 := Lib.hid h1; have H2 := Lib.hid h2; have H4 := Lib.hid h4; have H5 := Lib.hid h5
  clear hE hE2 hp hp2 g1 g2 g3 g4 g5 f1 f2 f3 f4 f5 hpl hpl2 hPl hRl hPs hRs hP hRR hne h1 h2 h4 h5
  go_wp2_with fail
  refine (H1.out _ HZ.out HR.out).mono ?_
  rintro e w2 ⟨rfl, hg⟩
  replace HR := Lib.hid (HR.out.grown hg HZ.out (by simp))
  replace HG := Lib.hid (grown_self HG.out hg (by simp))
  replace HZ := Lib.hid (Nat.le_trans HZ.out hg.size)
  clear hg
  go_wp2_with fail
  refine (H2.out _ HZ.out HR.out).mono ?_
  rintro e w3 ⟨rfl, hg⟩
  replace HR := Lib.hid (HR.out.grown hg HZ.out (by simp))
  replace HG := Lib.hid (grown_self HG.out hg (by simp))
  replace HZ := Lib.hid (Nat.le_trans HZ.out hg.size)
  clear hg
  go_wp2_with fail
  refine (H4.out _).mono ?_
  rintro e w4 ⟨u, rfl, hown, hbl⟩
  have hg := grown_of_below hbl
  obtain ⟨A4, c4, rfl⟩ := own_slice3W hown
  have HM := Lib.hid (Reads.of_own hown)
  have HMz := Lib.hid (Nat.le_refl w4.heap.size)
  clear hbl hown
  replace HR := Lib.hid (HR.out.grown hg HZ.out (by simp))
  replace HG := Lib.hid (grown_self HG.out hg (by simp))
  replace HZ := Lib.hid (Nat.le_trans HZ.out hg.size)
  clear hg
  go_wp2_with fail
  refine (H5.out _).mono ?_
  rintro e w5 ⟨u, rfl, hown, hbl⟩
  have hg := grown_of_below hbl
  obtain ⟨A5, c5, rfl⟩ := own_slice3W hown
  have HM2 := Lib.hid (Reads.of_own hown)
  have HM2z := Lib.hid (Nat.le_refl w5.heap.size)
  clear hbl hown
  replace HR := Lib.hid (HR.out.grown hg HZ.out (by simp))
  replace HG := Lib.hid (grown_self HG.out hg (by simp))
  replace HM := Lib.hid (HM.out.grown hg HMz.out (by simp))
  replace HMz := Lib.hid (Nat.le_trans HMz.out hg.size)
  replace HZ := Lib.hid (Nat.le_trans HZ.out hg.size)
  clear hg
  have hk := textsR_any _ _ A4 A5 xs.length xs.length c4 c5 xs xs w5 HM.out HM2.out (by have := (catB_few HFW.out); omega) (by have := (catB_few HFW.out); omega)
  rw [decide_eq_true (rfl : xs = xs)] at hk
  go_wp2_with fail
  refine hk.mono ?_
  rintro e w6 ⟨rfl, hbl⟩
  have hg := grown_of_below hbl
  clear hk hbl
  replace HG := Lib.hid (grown_self HG.out hg (by simp))
  go_wp2_with fail
  go_ret
  exact ⟨by simp, below_of_grown HG.out⟩
set_option maxRecDepth 100000 in
set_option maxHeartbeats 4000000 in
theorem wonly_law (s : ByteArray) (W : World) (hs : s.size ≤ 9223372036854775807) :
    Calls Tryd.prog 5 #[.string s] W fun e w' => e = .returned (.bool true) ∧ Below W.heap.size W w' := by
  go_enter Tryd.func5, Tryd.ntmps5
  go_wp2_with fail
  refine (works20_any _).mono ?_
  rintro e w1 ⟨rfl, hg⟩
  have HG := Lib.hid hg
  clear hg
  by_cases hlong : 2500 < s.size
  · have d1 : decide ((2500 : Int) < (s.size : Int)) = true := by simp; omega
    go_wp2_with fail
    go_ret
    exact ⟨rfl, below_of_grown HG.out⟩
  have d1 : decide ((2500 : Int) < (s.size : Int)) = false := by simp; omega
  have h4 := fun V => wget_any s (by omega) V
  obtain ⟨E, hE⟩ : ∃ E, getE s.data.toList = E := ⟨_, rfl⟩
  by_cases h0 : E = 0
  rotate_left
  · have hV : getV s.data.toList = 0 := if_neg (by rw [hE]; exact h0)
    have hL : getL s.data.toList = [] := if_neg (by rw [hE]; exact h0)
    have e1 : (E != 0) = true := by simpa using h0
    rw [hE, hV, hL] at h4
    have H4 := Lib.hid h4
    clear hE hV hL h0 h4 hlong
    go_wp2_with fail
    refine (H4.out _).mono ?_
    rintro e w2 ⟨u, rfl, hown, hbl⟩
    obtain ⟨A2, c2, rfl⟩ := own_slice3W hown
    have HG := Lib.hid (grown_self HG.out (grown_of_below hbl) (by simp))
    clear hbl hown
    go_wp2_with fail
    go_ret
    exact ⟨by simp, below_of_grown HG.out⟩
  subst h0
  obtain ⟨o1, o2⟩ := get_only hE
  obtain ⟨v, hv⟩ : ∃ v, getV s.data.toList = v := ⟨_, rfl⟩
  obtain ⟨xs, hxs⟩ : ∃ xs, getL s.data.toList = xs := ⟨_, rfl⟩
  rw [hv, hxs] at o1 o2
  rw [hE, hv, hxs] at h4
  obtain ⟨-, k0, k64, kx, -⟩ := checkW_0.1 o2
  have hsx : ∀ x ∈ xs, x.size ≤ 9223372036854775807 := fun x hx => by have := (longE_0.1 (kx x hx)).2; omega
  have hp : putW v xs = s.data.toList := (if_pos o2).trans o1
  have H4 := Lib.hid h4; have HP := Lib.hid hp; have HC := Lib.hid o2; have HX := Lib.hid hsx; have HK := Lib.hid k64
  have es := str_same s
  clear hE hv hxs o1 o2 k0 k64 kx hsx hp h4 hlong
  go_wp2_with fail
  refine (H4.out _).mono ?_
  rintro e w2 ⟨u, rfl, hown, hbl⟩
  obtain ⟨A2, c2, rfl⟩ := own_slice3W hown
  have HG := Lib.hid (grown_self HG.out (grown_of_below hbl) (by simp))
  have HR := Lib.hid (Reads.of_own hown)
  have HCP := Lib.hid (own_capW hown)
  have hk := wput_any v w2.heap.size A2 xs.length c2 xs w2 (Nat.le_refl _) HR.out (by have := HK.out; omega) HCP.out HX.out
  rw [HP.out, HC.out, ba_self] at hk
  clear hbl hown
  go_wp2_with fail
  refine hk.mono ?_
  rintro e w3 ⟨rfl, hg⟩
  have HG := Lib.hid (grown_self HG.out hg (by simp))
  have hk := wcheck_any v w2.heap.size A2 xs.length c2 xs w3 hg.size (HR.out.grown hg (Nat.le_refl _) (by simp)) (by have := HK.out; omega) HCP.out HX.out
  rw [HC.out] at hk
  clear hg
  go_wp2_with fail
  refine hk.mono ?_
  rintro e w4 ⟨rfl, hg⟩
  have HG := Lib.hid (grown_self HG.out hg (by simp))
  clear hg hk
  go_wp2_with fail
  go_ret
  exact ⟨by simp, below_of_grown HG.out⟩
end Go.Proofs.YtdflihfecfmpfaaDoor
