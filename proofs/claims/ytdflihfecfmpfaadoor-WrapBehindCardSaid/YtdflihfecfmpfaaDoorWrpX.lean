/- Wrappers: the walk of WrapBehind.  Printed by wip/genWrpX.py -/
import Derived.Test.YtdflihfecfmpfaaDoorWrpW
namespace Go.Proofs.YtdflihfecfmpfaaDoor
open Go.RowKit Go.Shelf
set_option linter.unusedVariables false
set_option linter.unusedSimpArgs false

theorem catB_app (xs ys : List ByteArray) : catB (xs ++ ys) = catB xs ++ catB ys := by simp [catB]
theorem check_both {xs ys : List ByteArray} (hx : checkW 0 xs = 0) (hy : checkW 0 ys = 0) (fx : fewW xs = true) (fy : fewW ys = true) (h : xs.length + ys.length ≤ 64) : checkW 0 (xs ++ ys) = 0 := by
  obtain ⟨-, x0, x64, xx, -⟩ := checkW_0.1 hx
  obtain ⟨-, y0, y64, yy, -⟩ := checkW_0.1 hy
  have h1 := (catB_le_few fx fun x h => (longE_0.1 (xx x h)).2).1
  have h2 := (catB_le_few fy fun x h => (longE_0.1 (yy x h)).2).1
  refine checkW_0.2 ⟨.inl rfl, by rw [List.length_append]; omega, by rw [List.length_append]; exact h, fun x hx => ?_, by rw [catB_app, List.length_append]; omega⟩
  rcases List.mem_append.1 hx with e | e
  · exact xx x e
  · exact yy x e
theorem both_get {xs ys : List ByteArray} (hx : checkW 0 xs = 0) (hy : checkW 0 ys = 0) (fx : fewW xs = true) (fy : fewW ys = true) :
    (64 < xs.length + ys.length → getE (putL 0 xs ++ putL 0 ys) = 5) ∧ (xs.length + ys.length ≤ 64 → getE (putL 0 xs ++ putL 0 ys) = 0 ∧ getV (putL 0 xs ++ putL 0 ys) = 0 ∧ getL (putL 0 xs ++ putL 0 ys) = xs ++ ys) ∧ getE (putL 2 xs ++ putL 2 ys) = 4 := by
  obtain ⟨-, x0, x64, xx, -⟩ := checkW_0.1 hx
  obtain ⟨-, y0, y64, yy, -⟩ := checkW_0.1 hy
  rw [put_both]
  refine ⟨fun h => get_many (fun x hx => ?_) (by rw [List.length_append]; exact h), fun h => ?_, get_left x0 x64 xx (putL_ne (.inr rfl) y0 yy)⟩
  · rcases List.mem_append.1 hx with e | e
    · exact xx x e
    · exact yy x e
  · obtain ⟨g1, g2, g3, -⟩ := get_back (check_both hx hy fx fy h)
    exact ⟨g1, g2, g3⟩

set_option maxRecDepth 100000 in
set_option maxHeartbeats 4000000 in
theorem wbehind_law (A : Option Addr) (n c : Nat) (xs : List ByteArray) (A' : Option Addr) (n' c' : Nat) (ys : List ByteArray) (W : World) (hR : Reads W W.heap.size 1 A n (xs.map Value.string)) (hn : n ≤ 9223372036854775807) (hnc : n ≤ c) (hs : ∀ x ∈ xs, x.size ≤ 9223372036854775807)
    (hR2 : Reads W W.heap.size 1 A' n' (ys.map Value.string)) (hn2 : n' ≤ 9223372036854775807) (hnc2 : n' ≤ c') (hs2 : ∀ x ∈ ys, x.size ≤ 9223372036854775807) :
    Calls Tryd.prog 6 #[.slice A n c, .slice A' n' c'] W fun e w' => e = .returned (.bool true) ∧ Below W.heap.size W w' := by
  have hl : xs.length = n := by have := hR.1; simpa using this
  have hl2 : ys.length = n' := by have := hR2.1; simpa using this
  have HL := Lib.hid hl; have HS := Lib.hid hs; have HN := Lib.hid hn; have HNC := Lib.hid hnc
  have HL2 := Lib.hid hl2; have HS2 := Lib.hid hs2; have HN2 := Lib.hid hn2; have HNC2 := Lib.hid hnc2
  have HR := Lib.hid hR; have HR2 := Lib.hid hR2
  have HG := Lib.hid (World.grownBy.refl W none)
  obtain ⟨b, hb⟩ : ∃ b, W.heap.size = b := ⟨_, rfl⟩
  rw [hb] at HR HR2
  have HZ := Lib.hid (show b ≤ W.heap.size by omega)
  clear hl hs hn hnc hR hb hl2 hs2 hn2 hnc2 hR2
  go_enter Tryd.func6, Tryd.ntmps6
  go_wp2_with fail
  refine (works20_any _).mono ?_
  rintro e w1 ⟨rfl, hg⟩
  replace HR := Lib.hid (HR.out.grown hg HZ.out (by simp))
  replace HR2 := Lib.hid (HR2.out.grown hg HZ.out (by simp))
  replace HG := Lib.hid (grown_self HG.out hg (by simp))
  replace HZ := Lib.hid (Nat.le_trans HZ.out hg.size)
  clear hg
  go_wp2_with fail
  refine (fewR_any b A n c xs _ HR.out HN.out HS.out).mono ?_
  rintro e w2 ⟨rfl, hw⟩
  rw [hw]
  clear hw
  cases hfew : fewW xs with
  | false =>
    go_wp2_with fail
    go_ret
    exact ⟨rfl, below_of_grown HG.out⟩
  | true =>
  have HFW := Lib.hid hfew
  clear hfew
  go_wp2_with fail
  refine (fewR_any b A' n' c' ys _ HR2.out HN2.out HS2.out).mono ?_
  rintro e w2 ⟨rfl, hw⟩
  rw [hw]
  clear hw
  cases hfew : fewW ys with
  | false =>
    go_wp2_with fail
    go_ret
    exact ⟨rfl, below_of_grown HG.out⟩
  | true =>
  have HFW2 := Lib.hid hfew
  clear hfew
  obtain ⟨E, hE⟩ : ∃ E, checkW 0 xs = E := ⟨_, rfl⟩
  obtain ⟨E', hE'⟩ : ∃ E, checkW 0 ys = E := ⟨_, rfl⟩
  have h1 := fun V hB hR => wput_any 0 b A n c xs V hB hR HN.out HNC.out HS.out
  have h2 := fun V hB hR => wput_any 0 b A' n' c' ys V hB hR HN2.out HNC2.out HS2.out
  have h3 := fun V hB hR => wput_any 2 b A n c xs V hB hR HN.out HNC.out HS.out
  have h4 := fun V hB hR => wput_any 2 b A' n' c' ys V hB hR HN2.out HNC2.out HS2.out
  rw [check_02] at h3 h4
  rw [hE] at h1 h3
  rw [hE'] at h2 h4
  obtain ⟨P, hP⟩ : ∃ P : ByteArray, (⟨(putW 0 xs).toArray⟩ : ByteArray) = P := ⟨_, rfl⟩
  obtain ⟨P', hP'⟩ : ∃ P : ByteArray, (⟨(putW 0 ys).toArray⟩ : ByteArray) = P := ⟨_, rfl⟩
  obtain ⟨Q, hQ⟩ : ∃ P : ByteArray, (⟨(putW 2 xs).toArray⟩ : ByteArray) = P := ⟨_, rfl⟩
  obtain ⟨Q', hQ'⟩ : ∃ P : ByteArray, (⟨(putW 2 ys).toArray⟩ : ByteArray) = P := ⟨_, rfl⟩
  rw [hP] at h1
  rw [hP'] at h2
  rw [hQ] at h3
  rw [hQ'] at h4
  have H1 := Lib.hid h1; have H2 := Lib.hid h2; have H3 := Lib.hid h3; have H4 := Lib.hid h4
  clear h1 h2 h3 h4
  have hpl : E = 0 → E' = 0 → (P.data.toList = putL 0 xs ∧ P'.data.toList = putL 0 ys ∧ Q.data.toList = putL 2 xs ∧ Q'.data.toList = putL 2 ys) := fun h h' => by
    rw [h] at hE; rw [h'] at hE'
    have hE2 := (check_02 xs).trans hE
    have hE2' := (check_02 ys).trans hE'
    exact ⟨by rw [← hP]; exact if_pos hE, by rw [← hP']; exact if_pos hE', by rw [← hQ]; exact if_pos hE2, by rw [← hQ']; exact if_pos hE2'⟩
  have HPL := Lib.hid hpl; have HEE := Lib.hid hE; have HEE' := Lib.hid hE'
  clear hpl hP hP' hQ hQ' hE hE'
  go_wp2_with fail
  refine (H1.out _ HZ.out HR.out).mono ?_
  rintro e w2 ⟨rfl, hg⟩
  replace HR := Lib.hid (HR.out.grown hg HZ.out (by simp))
  replace HR2 := Lib.hid (HR2.out.grown hg HZ.out (by simp))
  replace HG := Lib.hid (grown_self HG.out hg (by simp))
  replace HZ := Lib.hid (Nat.le_trans HZ.out hg.size)
  clear hg
  go_wp2_with fail
  refine (H2.out _ HZ.out HR2.out).mono ?_
  rintro e w3 ⟨rfl, hg⟩
  replace HR := Lib.hid (HR.out.grown hg HZ.out (by simp))
  replace HR2 := Lib.hid (HR2.out.grown hg HZ.out (by simp))
  replace HG := Lib.hid (grown_self HG.out hg (by simp))
  replace HZ := Lib.hid (Nat.le_trans HZ.out hg.size)
  clear hg
  go_wp2_with fail
  refine (H3.out _ HZ.out HR.out).mono ?_
  rintro e w4 ⟨rfl, hg⟩
  replace HR := Lib.hid (HR.out.grown hg HZ.out (by simp))
  replace HR2 := Lib.hid (HR2.out.grown hg HZ.out (by simp))
  replace HG := Lib.hid (grown_self HG.out hg (by simp))
  replace HZ := Lib.hid (Nat.le_trans HZ.out hg.size)
  clear hg
  go_wp2_with fail
  refine (H4.out _ HZ.out HR2.out).mono ?_
  rintro e w5 ⟨rfl, hg⟩
  replace HR := Lib.hid (HR.out.grown hg HZ.out (by simp))
  replace HR2 := Lib.hid (HR2.out.grown hg HZ.out (by simp))
  replace HG := Lib.hid (grown_self HG.out hg (by simp))
  replace HZ := Lib.hid (Nat.le_trans HZ.out hg.size)
  clear hg
  clear H1 H2 H3 H4
  by_cases hb1 : E = 0
  rotate_left
  · have e1 : (E != 0) = true := by simpa using hb1
    go_wp2_with fail
    go_ret
    exact ⟨rfl, below_of_grown HG.out⟩
  subst hb1
  by_cases hb2 : E' = 0
  rotate_left
  · have e1 : (E' != 0) = true := by simpa using hb2
    go_wp2_with fail
    go_ret
    exact ⟨rfl, below_of_grown HG.out⟩
  subst hb2
  obtain ⟨l1, l2, l3, l4⟩ := HPL.out rfl rfl
  obtain ⟨g1, g2, g3⟩ := both_get HEE.out HEE'.out HFW.out HFW2.out
  have m1 := putL_len HEE.out; have m2 := putL_len HEE'.out
  have m3 := putL_len ((check_02 xs).trans HEE.out); have m4 := putL_len ((check_02 ys).trans HEE'.out)
  have s1 := size_list' P; have s2 := size_list' P'; have s3 := size_list' Q; have s4 := size_list' Q'
  have hPP : (P ++ P').data.toList = putL 0 xs ++ putL 0 ys := by rw [ba_toList, l1, l2]
  have hQQ : (Q ++ Q').data.toList = putL 2 xs ++ putL 2 ys := by rw [ba_toList, l3, l4]
  rw [l1] at s1; rw [l2] at s2; rw [l3] at s3; rw [l4] at s4
  have hs1 : P.size + P'.size ≤ 9223372036854775807 := by omega
  have hs2 : Q.size + Q'.size ≤ 9223372036854775807 := by omega
  have hz1 : (P ++ P').size ≤ 1000000000000 := by rw [ByteArray.size_append]; omega
  have hz2 : (Q ++ Q').size ≤ 1000000000000 := by rw [ByteArray.size_append]; omega
  have h5 := fun V => wget_any (P ++ P') hz1 V
  have h6 := fun V => wget_any (Q ++ Q') hz2 V
  rw [hPP] at h5
  rw [hQQ, g3] at h6
  have hV6 : getV (putL 2 xs ++ putL 2 ys) = 0 := if_neg (by rw [g3]; decide)
  have hL6 : getL (putL 2 xs ++ putL 2 ys) = [] := if_neg (by rw [g3]; decide)
  rw [hV6, hL6] at h6
  obtain ⟨-, x0, x64, -, -⟩ := checkW_0.1 HEE.out
  obtain ⟨-, y0, y64, -, -⟩ := checkW_0.1 HEE'.out
  have N1 := Lib.hid (show 1 ≤ n ∧ n ≤ 64 by have := HL.out; omega)
  have N2 := Lib.hid (show 1 ≤ n' ∧ n' ≤ 64 by have := HL2.out; omega)
  have H6 := Lib.hid h6; have H5 := Lib.hid h5; have G1 := Lib.hid g1; have G2 := Lib.hid g2
  clear l1 l2 l3 l4 g1 g2 g3 m1 m2 m3 m4 s1 s2 s3 s4 hPP hQQ hz1 hz2 h5 h6 hV6 hL6 HPL x0 x64 y0 y64
  obtain ⟨i0, hi, hz0, hz1, hz2, hz3⟩ := infoW
  obtain ⟨ad, rfl, hadb, hadc⟩ := HR.out.2 (by have := N1.out; omega)
  obtain ⟨ad', rfl, hadb', hadc'⟩ := HR2.out.2 (by have := N2.out; omega)
  have n1 := N1.out; have n2 := N2.out
  obtain ⟨u, hu⟩ : ∃ u, w5 = u := ⟨_, rfl⟩
  rw [hu] at HR HR2 HG HZ hadc hadc' ⊢
  have hzu := HZ.out
  clear hu
  have hz : (u.alloc (.cells #[] 9)).heap.size = u.heap.size + 1 := by simp
  have hown0 : (u.alloc (.cells #[] 9)).ownsRow u.heap.size 9 1 (.slice (some ⟨u.heap.size, 0, none⟩) 0 0) 0 [] := ⟨rfl, .inr ⟨u.heap.size, 0, #[], rfl, Nat.le_refl _, World.alloc_heap_new u _, Nat.le_refl _, by decide, rfl, rfl⟩⟩
  have hg0 := only_alloc (World.grownBy.refl u none) (.cells #[] 9)
  have hc0 : ∀ j v, (xs.map Value.string)[j]? = some v → (u.alloc (.cells #[] 9)).cell? (ad.add j) = some v := fun j v h => hg0.cell (hadc j v h) (by simp)
  have hmap : [] ++ xs.map Value.string ++ ys.map Value.string = (xs ++ ys).map Value.string := by simp
  have hlit : IntKind.i64.wrap ((n : Int) + (n' : Int)) = (n : Int) + (n' : Int) := IntWalk.i64_in _ (by omega)
  have hy1 := HL2.out
  have hx1 := HL.out
  go_wp2_with (first | (at_builtin; refine wpList_append_own _ rfl _ _ 22 rfl u.heap.size 9 i0 (.string .empty) 1 16 Tryd.underlying22 hi hz0 hz1 hz2 hz3 (by decide) _ _ _ rfl hown0 ad n c (xs.map Value.string) rfl (by simp [hx1]) hc0 (by simp [Value.oneCell']) (by simp only [maxLen]; omega) (by omega) (by omega) ?_; intro v1 u2 hown1 hgr1 _; rw [Nat.zero_add] at hown1; obtain ⟨A1, c1, rfl⟩ := own_slice3W hown1; have hg1 : u.grownBy u2 none := grown_self hg0 hgr1 (fun j hj => .inr (Nat.le_of_eq (Option.some.inj hj))); have hc2 : ∀ j v, (ys.map Value.string)[j]? = some v → u2.cell? (ad'.add j) = some v := (fun j v h => hg1.cell (hadc' j v h) (by simp)); have hs2' := hg1.size; clear hc0 hown0 hgr1) | (at_builtin; refine wpList_append_own _ rfl _ _ 22 rfl u.heap.size 9 i0 (.string .empty) 1 16 Tryd.underlying22 hi hz0 hz1 hz2 hz3 (by decide) _ _ _ rfl hown1 ad' n' c' (ys.map Value.string) rfl (by simp [hy1]) hc2 (by simp [Value.oneCell']) (by simp only [maxLen]; omega) (by omega) (by omega) ?_; intro v2 u3 hown2 hgr2 _; obtain ⟨A2, c2, rfl⟩ := own_slice3W hown2; have hg2 : u.grownBy u3 none := grown_self hg1 hgr2 (fun j hj => .inr (own_ge hown1 hj)); rw [hmap] at hown2; have HO := Lib.hid (Reads.of_own hown2); have HOz := Lib.hid (Nat.le_refl u3.heap.size); have HG := Lib.hid (grown_self HG.out hg2 (by simp)); clear hown1 hown2 hgr2 hg1 hg2 hc2 hadc hadc' hadb hadb' HR HR2 hmap hg0 hz))
  clear hzu hs2' hi hz0 hz1 hz2 hz3 hx1 hy1

  by_cases hbig : 64 < n + n'
  · have g := G1.out (by have := HL.out; have := HL2.out; omega)
    have hV : getV (putL 0 xs ++ putL 0 ys) = 0 := if_neg (by rw [g]; decide)
    have hL : getL (putL 0 xs ++ putL 0 ys) = [] := if_neg (by rw [g]; decide)
    have h5 := H5.out
    rw [g, hV, hL] at h5
    have H5' := Lib.hid h5
    have q1 : decide ((64 : Int) < (n : Int) + (n' : Int)) = true := by simp; omega
    have q2 : decide ((64 : Int) < ((n + n' : Nat) : Int)) = true := by simp; omega
    clear g hV hL h5 H5 HO HOz hbig
    refine (H5'.out _).mono ?_
    rintro e w11 ⟨u', rfl, hown, hbl⟩
    have hg := grown_of_below hbl
    obtain ⟨A11, c11, rfl⟩ := own_slice3W hown
    have HM := Lib.hid (Reads.of_own hown)
    have HMz := Lib.hid (Nat.le_refl w11.heap.size)
    have HG := Lib.hid (grown_self HG.out hg (by simp))
    clear hbl hown
    clear hg
    clear HM HMz
    go_wp2_with fail
    refine (H6.out _).mono ?_
    rintro e w12 ⟨u', rfl, hown, hbl⟩
    have hg := grown_of_below hbl
    obtain ⟨A12, c12, rfl⟩ := own_slice3W hown
    have HM := Lib.hid (Reads.of_own hown)
    have HMz := Lib.hid (Nat.le_refl w12.heap.size)
    have HG := Lib.hid (grown_self HG.out hg (by simp))
    clear hbl hown
    clear hg
    clear HM HMz
    go_wp2_with fail
    go_ret
    exact ⟨by simp, below_of_grown HG.out⟩
  · obtain ⟨g, hV, hL⟩ := G2.out (by have := HL.out; have := HL2.out; omega)
    have h5 := H5.out
    rw [g, hV, hL] at h5
    obtain ⟨zs, hzs⟩ : ∃ zs, xs ++ ys = zs := ⟨_, rfl⟩
    have HZL := Lib.hid (show zs.length = n + n' by rw [← hzs, List.length_append, HL.out, HL2.out])
    rw [hzs] at h5 HO
    have H5' := Lib.hid h5
    clear hzs hL
    have q1 : decide ((64 : Int) < (n : Int) + (n' : Int)) = false := by simp; omega
    have q2 : decide ((64 : Int) < ((n + n' : Nat) : Int)) = false := by simp; omega
    clear g hV h5 H5 hbig
    refine (H5'.out _).mono ?_
    rintro e w11 ⟨u', rfl, hown, hbl⟩
    have hg := grown_of_below hbl
    obtain ⟨A11, c11, rfl⟩ := own_slice3W hown
    have HM := Lib.hid (Reads.of_own hown)
    have HMz := Lib.hid (Nat.le_refl w11.heap.size)
    have HG := Lib.hid (grown_self HG.out hg (by simp))
    clear hbl hown
    replace HO := Lib.hid (HO.out.grown hg HOz.out (by simp))
    replace HOz := Lib.hid (Nat.le_trans HOz.out hg.size)
    clear hg
    go_wp2_with fail
    refine (H6.out _).mono ?_
    rintro e w12 ⟨u', rfl, hown, hbl⟩
    have hg := grown_of_below hbl
    obtain ⟨A12, c12, rfl⟩ := own_slice3W hown
    have HM6 := Lib.hid (Reads.of_own hown)
    have HM6z := Lib.hid (Nat.le_refl w12.heap.size)
    have HG := Lib.hid (grown_self HG.out hg (by simp))
    clear hbl hown
    replace HO := Lib.hid (HO.out.grown hg HOz.out (by simp))
    replace HOz := Lib.hid (Nat.le_trans HOz.out hg.size)
    replace HM := Lib.hid (HM.out.grown hg HMz.out (by simp))
    replace HMz := Lib.hid (Nat.le_trans HMz.out hg.size)
    clear hg
    clear HM6 HM6z
    go_wp2_with fail
    have hk := textsR_any _ _ A11 A2 zs.length (n + n') c11 c2 zs zs w12 HM.out HO.out (by have := HZL.out; omega) (by omega)
    rw [decide_eq_true (rfl : zs = zs)] at hk
    refine hk.mono ?_
    rintro e w13 ⟨rfl, hbl⟩
    have HG := Lib.hid (grown_self HG.out (grown_of_below hbl) (by simp))
    clear hk hbl
    go_wp2_with fail
    go_ret
    exact ⟨by simp, below_of_grown HG.out⟩
end Go.Proofs.YtdflihfecfmpfaaDoor
