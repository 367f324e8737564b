/- RlpParts: the walk. -/
import Derived.Test.YtacfpjleejfdgaaDoorRlpM
namespace Go.Proofs.YtacfpjleejfdgaaDoor
open Go.RowKit Go.Shelf
set_option linter.unusedVariables false
set_option linter.unusedSimpArgs false

mutual
theorem formF_mono : ∀ (x : Itm) (d d' : Nat), d' ≤ d → formF x d = 0 → formF x d' = 0
  | .mk l b xs, d, d', hd, h => by
    rw [formF] at h ⊢
    split at h
    · cases h
    rename_i h1
    rw [if_neg h1]
    split at h
    · rename_i h2; rw [if_pos h2]
    rename_i h2
    rw [if_neg h2]
    split at h
    · cases h
    rename_i h3
    rw [if_neg (by omega)]
    split at h
    · cases h
    rename_i h4
    rw [if_neg h4]
    exact formL_mono xs (d + 1) (d' + 1) (by omega) h
theorem formL_mono : ∀ (xs : List Itm) (d d' : Nat), d' ≤ d → formL xs d = 0 → formL xs d' = 0
  | [], _, _, _, _ => rfl
  | y :: ys, d, d', hd, h => by
    rw [formL] at h ⊢
    split at h
    · rename_i h1; exact absurd h h1
    · rename_i h1
      rw [if_neg (by rw [formF_mono y d d' hd (by simpa using h1)]; simp)]
      exact formL_mono ys d d' hd h
end
theorem formL_get {xs : List Itm} {d : Nat} (h : formL xs d = 0) : ∀ k, k < xs.length → formF (xs.getD k Itm.none_) d = 0 := by
  induction xs with
  | nil => intro k hk; cases hk
  | cons y ys ih =>
    intro k hk
    rw [formL] at h
    split at h
    · rename_i h1; exact absurd h h1
    · rename_i h1
      cases k with
      | zero => simpa using h1
      | succ k => exact ih h k (by simpa using hk)
theorem bytesL_get {xs : List Itm} {k : Nat} (hk : k < xs.length) : (bytesF (xs.getD k Itm.none_)).length + (bytesL (xs.take k)).length ≤ (bytesL xs).length := by
  have e := congrArg (fun l => (bytesL l).length) (item_cut hk)
  simp only [bytesL_append, bytesL, List.length_append] at e
  omega
/-- the items of a list that may be are items -/
theorem check_item {x : Itm} (h : checkI x = 0) (hl : x.list = true) (hw : wtF x ≤ 1000000000) (k : Nat) (hk : k < x.items.length) : checkI (x.items.getD k Itm.none_) = 0 := by
  obtain ⟨_, h1, h2⟩ := check_form h
  have hf := formF_eq x 0
  rw [h2] at hf
  have hfl : formL x.items 1 = 0 := by
    split at hf
    · cases hf
    rw [if_neg (by rw [hl]; simp)] at hf
    split at hf
    · cases hf
    split at hf
    · cases hf
    exact hf.symm
  have hy := formF_mono _ 1 0 (by omega) (formL_get hfl k hk)
  have hb := bytesF_eq x
  rw [hl] at hb
  have hb : bytesF x = headL (bytesL x.items).length 192 ++ bytesL x.items := hb
  rw [hb, List.length_append] at h1
  have := bytesL_get hk
  unfold checkI
  rw [if_neg (by rw [hy]; simp), if_neg (by omega)]
theorem head_size {n : Nat} (h : n ≤ 65536) : (headL n 192).length ≤ 4 ∧ 1 ≤ (headL n 192).length ∧ ((headL n 192).length = 1 ↔ n < 56) := by
  unfold headL
  by_cases h1 : n < 56
  · rw [if_pos h1]; simp; exact h1
  · rw [if_neg h1]
    have hp := beN_pos (n := n) (by omega) (by omega)
    have h3 : (beN n).length ≤ 3 := by
      rw [beN_fix 3 n (by omega) (by show n < 16777216; omega)]
      have := trim_len 0 (beFix 3 n); rw [beFix_len] at this; exact this
    simp only [List.length_cons]
    omega

set_option maxRecDepth 100000 in
set_option maxHeartbeats 4000000 in
theorem parts_lawP (x : Itm) (W : World) (sx : Value) (hx : SubW W x.items sx) (hwx : wtF x ≤ 1000000000) :
    Calls Tryd.prog 5 #[.agg #[.bool x.list, .string x.bytes, sx]] W fun e W' => e = .returned (.bool true) ∧ Below W.heap.size W W' := by
  have hox := ok_of_wt x hwx
  have HX := Lib.hid hwx
  obtain ⟨A, c, rfl⟩ := hx.slice
  have T := one_box W x _ hx
  clear hx
  go_enter Tryd.func5, Tryd.ntmps5
  go_upto_region 1 with (fail)
  obtain ⟨b, hb⟩ : ∃ b, W.heap.size = b := ⟨_, rfl⟩
  rw [hb] at T ⊢
  have HB := Lib.hid hb
  clear hb
  generalize W.alloc (.cells #[.bool x.list, .string x.bytes, .slice A x.items.length c] 24) = W1 at *
  obtain ⟨c0, c1, c2⟩ := T.cells
  go_wp2_with fail
  refine (worksP_any _).mono ?_
  rintro e w2 ⟨rfl, hg⟩
  replace T := T.grown hg
  clear hg c0 c1 c2
  obtain ⟨c0, c1, c2⟩ := T.cells
  go_wp2_with fail
  refine (few_any x _ _ T.sx hox).mono ?_
  rintro e w3 ⟨r1, rfl, hg⟩
  replace T := T.grown hg
  clear hg c0 c1 c2
  obtain ⟨c0, c1, c2⟩ := T.cells
  cases r1 with
  | false =>
    go_wp2_with fail
    go_ret
    exact ⟨rfl, T.below⟩
  | true =>
  go_wp2_with fail
  refine (encodeP_any x _ _ T.sx HX.out).mono ?_
  rintro e w4 ⟨rfl, hg⟩
  replace T := T.grown hg
  clear hg c0 c1 c2
  obtain ⟨c0, c1, c2⟩ := T.cells
  by_cases h1 : checkI x = 0
  · rw [h1]
    cases hl : x.list with
    | false =>
      rw [hl] at c0
      clear h1
      go_wp2_with fail
      go_ret
      exact ⟨rfl, T.below⟩
    | true =>
      have hit := check_item h1 hl hwx
      obtain ⟨_, hbl, _⟩ := check_form h1
      have hbe : bytesF x = headL (bytesL x.items).length 192 ++ bytesL x.items := by rw [bytesF_eq, if_pos hl]
      have hen : encB x = bytesF x := if_pos h1
      rw [hl] at c0
      rw [hen]
      have hwx2 := wtF_eq x
      obtain ⟨xs, hxs⟩ : ∃ xs, x.items = xs := ⟨_, rfl⟩
      obtain ⟨n, hnn⟩ : ∃ n, xs.length = n := ⟨_, rfl⟩
      have hwi : ∀ k, k < xs.length → wtF (xs.getD k Itm.none_) ≤ 1000000000 := by
        intro k hk; have := wtL_get hk; rw [hxs] at hwx2; omega
      have hln := hox.items
      rw [hxs] at hit hbe hln c2
      rw [hnn] at hln c2
      have hbl2 : ∀ k, k < xs.length → (bytesF (xs.getD k Itm.none_)).length + (bytesL (xs.take k)).length ≤ 65536 := by
        intro k hk; have := bytesL_get hk; rw [hbe, List.length_append] at hbl; omega
      obtain ⟨S, hS⟩ : ∃ S : ByteArray, S = ⟨(bytesF x).toArray⟩ := ⟨_, rfl⟩
      rw [← hS]
      have HS := Lib.hid hS; have HBE := Lib.hid hbe; have HBL := Lib.hid hbl; have HIT := Lib.hid hit; have HN := Lib.hid hnn; have HWI := Lib.hid hwi; have HBL2 := Lib.hid hbl2; have HXS := Lib.hid hxs; have HL := Lib.hid hl
      clear hS hbe hbl hit hnn hwi hbl2 hen hwx2 hwx h1
      go_wp2_with fail
      clear c0 c1 c2
      go_loopw [7, 8] (fun v i wr => ∃ k : Nat, i = .int .i64 k ∧ k ≤ n ∧ v = .string ⟨(bytesL (xs.take k)).toArray⟩ ∧ Hid (One W wr b x (.slice A x.items.length c))) (fun _ i _ => n - (intOf i).toNat)
      case atStart => exact ⟨0, rfl, by omega, rfl, Lib.hid T⟩
      case round =>
        obtain ⟨k, rfl, hk, rfl, hT⟩ := hrel
        replace T := hT.out
        clear hT
        obtain ⟨c0, c1, c2⟩ := T.cells
        rw [HXS.out, HN.out] at c2
        by_cases hlt : k < n
        · have hS := T.sx
          rw [HXS.out, HN.out] at hS
          obtain ⟨he, vs, hvs, hr⟩ := hS.row
          rw [HN.out] at hvs hr
          obtain ⟨g, off, rfl, hgB, hc⟩ := hr (by omega)
          obtain ⟨k0, k1, k2⟩ := hc k hlt
          have hsv := hvs k hlt
          have hkx : k < xs.length := by have := HN.out; omega
          obtain ⟨y, hy⟩ : ∃ y, xs.getD k Itm.none_ = y := ⟨_, rfl⟩
          have hw1 := HWI.out k hkx
          have hcy := HIT.out k hkx
          have hlen := HBL2.out k hkx
          have htk : bytesL (xs.take (k + 1)) = bytesL (xs.take k) ++ bytesF y := by rw [take_item hkx, bytesL_snoc, hy]
          rw [hy] at k0 k1 hsv hw1 hcy hlen
          generalize vs.getD k undef = sv at *
          obtain ⟨As, cs, rfl⟩ := hsv.slice
          have henc := fun V h => encodeP_any y V (.slice As y.items.length cs) h hw1
          rw [hcy, show encB y = bytesF y from if_pos hcy] at henc
          have hsz := fun V h => size_any y (.slice As y.items.length cs) V h hw1
          obtain ⟨yl, hyl⟩ : ∃ yl, bytesF y = yl := ⟨_, rfl⟩
          rw [hyl] at henc hsz htk hlen
          generalize bytesL (xs.take k) = dk at *
          have HENC := Lib.hid henc; have HSZ := Lib.hid hsz; have HTK := Lib.hid htk; have HSV := Lib.hid hsv
          have q1 : (k : Int) < (n : Int) := by omega
          have z1 : yl.toArray.size = yl.length := by simp
          have z2 : dk.toArray.size = dk.length := by simp
          have hsum : dk.length + yl.length ≤ 9223372036854775807 := by omega
          have hcat := cat_strs ⟨dk.toArray⟩ ⟨yl.toArray⟩ (by rw [ba_sz, ba_sz]; omega)
          clear hS he hvs hr hc hy hw1 hcy htk henc hsz hyl hsv hkx
          go_wp2_with fail
          refine (HENC.out _ HSV.out).mono ?_
          rintro e w5 ⟨rfl, hg⟩
          replace T := T.grown hg
          have hz5 := hg.size
          have k0' : w5.cell? ⟨g, off + k * 3, none⟩ = some (.bool y.list) := by rw [World.cell?_of_block (w := wr) (a := ⟨g, off + k * 3, none⟩) (hg.block g hgB (by simp))]; exact k0
          have k1' : w5.cell? ⟨g, off + k * 3 + 1, none⟩ = some (.string y.bytes) := by rw [World.cell?_of_block (w := wr) (a := ⟨g, off + k * 3 + 1, none⟩) (hg.block g hgB (by simp))]; exact k1
          have k2' : w5.cell? ⟨g, off + k * 3 + 2, none⟩ = some (.slice As y.items.length cs) := by rw [World.cell?_of_block (w := wr) (a := ⟨g, off + k * 3 + 2, none⟩) (hg.block g hgB (by simp))]; exact k2
          replace HSV := Lib.hid (SubW.grown HSV.out hg)
          clear hg c0 c1 c2 k0 k1 k2
          obtain ⟨c0, c1, c2⟩ := T.cells
          rw [HXS.out, HN.out] at c2
          go_wp2_with fail
          refine (HSZ.out _ HSV.out).mono ?_
          rintro e w6 ⟨rfl, hg⟩
          replace T := T.grown hg
          clear hg c0 c1 c2 k0' k1' k2'
          go_wp2_with fail
          exact ⟨⟨k + 1, by go_num, by omega, by rw [HTK.out, ba_cat], Lib.hid T⟩, by simp [intOf]; omega⟩
        · obtain rfl : k = n := by omega
          have hfin : decide ((k : Int) < (k : Int)) = false := by simp
          have hall : xs.take k = xs := by rw [← HN.out, List.take_length]
          rw [hall]
          have hbe := HBE.out
          have hbl := HBL.out
          obtain ⟨l, hll⟩ : ∃ l, bytesL xs = l := ⟨_, rfl⟩
          rw [hll] at hbe ⊢
          obtain ⟨R, hR⟩ : ∃ R : ByteArray, R = ⟨l.toArray⟩ := ⟨_, rfl⟩
          rw [← hR]
          have hRz : R.size = l.length := by rw [hR, ba_sz]
          rw [hbe, List.length_append] at hbl
          obtain ⟨h4, h5, h6⟩ := head_size (n := l.length) (by omega)
          have hS := HS.out
          rw [hbe] at hS
          have hSz : S.size = (headL l.length 192).length + R.size := by rw [hS, ba_sz, List.length_append, hRz]
          obtain ⟨z, q, hzq, hz1, _⟩ := headL_first l.length 192 (by omega) (.inr rfl)
          have d0 : 0 < S.size := by omega
          have hS0 : (192 : Int) ≤ ((S[0]'d0).toNat : Int) := by
            have e1 : S.data.toList[0]? = some z := by rw [hS, hzq]; rfl
            have e2 : S.data[0]? = some z := by simpa using e1
            obtain ⟨_, e3⟩ := Array.getElem?_eq_some_iff.1 e2
            have : S[0]'d0 = z := e3
            rw [this]; omega
          obtain ⟨hd, hhd⟩ : ∃ hd, (headL l.length 192).length = hd := ⟨_, rfl⟩
          rw [hhd] at h4 h5 h6 hSz
          have hext : ((S.extract hd S.size).toList == R.toList) = true := by
            have : S.extract hd S.size = R := by
              apply ba_ext
              rw [Lib.extract_data, hS, hR]
              simp only [ba_sz]
              rw [List.take_of_length_le (by rw [List.length_drop, List.length_append]; exact Nat.le_refl _)]
              rw [← hhd, List.drop_left]
            rw [this]; simp
          have v1 : IntKind.i64.wrap ((S.size : Int) - (R.size : Int)) = (hd : Int) := by rw [IntWalk.i64_in _ (by omega)]; omega
          have v2 : (S.size : Int) - (R.size : Int) = (hd : Int) := by omega
          have hsize := fun V h => size_any x (.slice A x.items.length c) V h HX.out
          rw [show (bytesF x).length = S.size by rw [HS.out, ba_sz]] at hsize
          rw [HL.out, HXS.out, HN.out] at hsize
          have HSIZE := Lib.hid hsize
          have hTs := T.sx
          rw [HXS.out, HN.out] at hTs
          have HTS := Lib.hid hTs
          clear hTs
          have g1 : (1 : Int) ≤ (hd : Int) := by omega
          have g2 : (hd : Int) ≤ 4 := by omega
          have g3 : (hd : Int) ≤ (S.size : Int) := by omega
          have g4 : hd ≤ S.size := by omega
          have hcase : ((R.size : Int) < 56 ∧ ((hd : Int) == 1) = true) ∨ (decide ((R.size : Int) < 56) = false ∧ ((hd : Int) == 1) = false) := by
            by_cases h : l.length < 56
            · exact .inl ⟨by omega, by rw [beq_iff_eq]; omega⟩
            · exact .inr ⟨decide_eq_false (by omega), by rw [beq_eq_false_iff_ne]; omega⟩
          have hSR : R.size ≤ S.size := by omega
          have HSZZ := Lib.hid hSz
          clear hall hbe hbl hll hR hRz h4 h5 h6 hS hSz hzq hz1 hhd hsize
          rw [HL.out] at c0
          rcases hcase with ⟨e1, e2⟩ | ⟨e1, e2⟩
          all_goals
            go_wp2_with fail
            refine (HSIZE.out _ HTS.out).mono ?_
            rintro e w7 ⟨rfl, hg⟩
            replace T := T.grown hg
            clear hg c0 c1 c2
            go_wp2_with fail
            go_ret
            exact ⟨rfl, T.below⟩
  · have e1 : (checkI x != 0) = true := by simpa using h1
    generalize checkI x = E1 at *
    clear h1
    go_wp2_with fail
    go_ret
    exact ⟨rfl, T.below⟩
end Go.Proofs.YtacfpjleejfdgaaDoor
