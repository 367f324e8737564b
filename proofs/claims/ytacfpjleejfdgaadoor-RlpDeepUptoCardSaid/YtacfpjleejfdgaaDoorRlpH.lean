/- Whether an item may be, as the document has it. -/
import Derived.Test.YtacfpjleejfdgaaDoorRlpG
namespace Go.Proofs.YtacfpjleejfdgaaDoor
open Go.RowKit Go.Shelf
set_option linter.unusedVariables false
set_option linter.unusedSimpArgs false

def FormC (x : Itm) : Prop := ∀ (W : World) (d : Nat) (sx : Value), SubW W x.items sx → wtF x ≤ 1000000000 → d ≤ 1000 →
  Calls Tryd.prog 21 #[.agg #[.bool x.list, .string x.bytes, sx], .int .i64 (d : Int)] W fun e W' => e = .returned (.int .i64 (formF x d)) ∧ W.grownBy W' none

set_option maxRecDepth 100000 in
set_option maxHeartbeats 2000000 in
theorem form_bad (x : Itm) (d : Nat) (W : World) (sx : Value) (hsx : SubW W x.items sx) (hok : x.items.length ≤ 9223372036854775807) (h : (x.list = true ∧ x.bytes.size ≠ 0) ∨ (x.list = false ∧ x.items.length ≠ 0)) :
    Calls Tryd.prog 21 #[.agg #[.bool x.list, .string x.bytes, sx], .int .i64 (d : Int)] W fun e W' => e = .returned (.int .i64 (formF x d)) ∧ W.grownBy W' none := by
  obtain ⟨A, c, rfl⟩ := hsx.slice
  have HF : Hid (formF x d = 2) := Lib.hid (by rw [formF_eq, if_pos h])
  have HG := Lib.hid (only_alloc (World.grownBy.refl W none) (.cells #[.bool x.list, .string x.bytes, .slice A x.items.length c] 24))
  rcases h with ⟨h1, h2⟩ | ⟨h1, h2⟩
  · rw [h1] at HG ⊢
    have e1 : (x.bytes.toList == []) = false := by
      have := str_ne (a := x.bytes) (b := ⟨#[]⟩) (by intro e; rw [e] at h2; exact h2 rfl)
      simpa using this
    have e2 : x.bytes.toList.isEmpty = false := by simpa using e1
    have e3 : (x.bytes.toList != []) = true := by simpa using e1
    generalize x.bytes = b at *
    generalize x.items.length = n at *
    clear h2 h1
    go_enter Tryd.func21, Tryd.ntmps21
    go_wp2_with fail
    go_ret
    exact ⟨by rw [HF.out]; rfl, HG.out⟩
  · rw [h1] at HG ⊢
    generalize x.bytes = b at *
    generalize x.items.length = n at *
    have e1 : (0 : Int) < (n : Int) := by omega
    have e2 : 0 < n := by omega
    clear h2 h1
    go_enter Tryd.func21, Tryd.ntmps21
    go_wp2_with fail
    go_ret
    exact ⟨by rw [HF.out]; rfl, HG.out⟩

set_option maxRecDepth 100000 in
set_option maxHeartbeats 2000000 in
theorem form_leaf (x : Itm) (d : Nat) (W : World) (sx : Value) (hsx : SubW W x.items sx) (hok : x.items.length ≤ 9223372036854775807) (h : (x.list = false ∧ x.items.length = 0) ∨ (x.list = true ∧ x.bytes.size = 0 ∧ (12 ≤ d ∨ 512 < x.items.length))) :
    Calls Tryd.prog 21 #[.agg #[.bool x.list, .string x.bytes, sx], .int .i64 (d : Int)] W fun e W' => e = .returned (.int .i64 (formF x d)) ∧ W.grownBy W' none := by
  obtain ⟨A, c, rfl⟩ := hsx.slice
  have HG := Lib.hid (only_alloc (World.grownBy.refl W none) (.cells #[.bool x.list, .string x.bytes, .slice A x.items.length c] 24))
  have hf := formF_eq x d
  rcases h with ⟨h1, h2⟩ | ⟨h1, h2, h3⟩
  · have HF : Hid (formF x d = 0) := Lib.hid (by rw [hf, if_neg (by rw [h1, h2]; simp), if_pos h1])
    rw [h1] at HG ⊢
    generalize x.bytes = b at *
    generalize x.items.length = n at *
    have e1 : decide ((0 : Int) < (n : Int)) = false := decide_eq_false (by omega)
    have e2 : decide (0 < n) = false := decide_eq_false (by omega)
    clear h2 h1 hf hsx hok
    go_enter Tryd.func21, Tryd.ntmps21
    go_wp2_with fail
    go_ret
    exact ⟨by rw [HF.out]; rfl, HG.out⟩
  · have hb : x.bytes = ⟨#[]⟩ := ba_ext (by have : x.bytes.data.toList.length = 0 := by rw [Array.length_toList]; exact h2
                                            exact List.eq_nil_of_length_eq_zero this)
    by_cases h4 : 12 ≤ d
    · have HF : Hid (formF x d = 7) := Lib.hid (by rw [hf, if_neg (by rw [h1, h2]; simp), if_neg (by rw [h1]; simp), if_pos h4])
      rw [h1, hb] at HG ⊢
      generalize x.items.length = n at *
      have e1 : (12 : Int) ≤ (d : Int) := by omega
      clear h2 h1 hf hsx h3 h4 hok hb
      go_enter Tryd.func21, Tryd.ntmps21
      go_wp2_with fail
      go_ret
      exact ⟨by rw [HF.out]; rfl, HG.out⟩
    · have h5 : 512 < x.items.length := by omega
      have HF : Hid (formF x d = 5) := Lib.hid (by rw [hf, if_neg (by rw [h1, h2]; simp), if_neg (by rw [h1]; simp), if_neg h4, if_pos h5])
      rw [h1, hb] at HG ⊢
      generalize x.items.length = n at *
      have e0 : decide ((12 : Int) ≤ (d : Int)) = false := decide_eq_false (by omega)
      have e1 : (512 : Int) < (n : Int) := by omega
      clear h2 h1 hf hsx h3 h4 hb
      go_enter Tryd.func21, Tryd.ntmps21
      go_wp2_with fail
      go_ret
      exact ⟨by rw [HF.out]; rfl, HG.out⟩

set_option maxRecDepth 100000 in
set_option maxHeartbeats 2000000 in
theorem form_list (x : Itm) (hC : ∀ i, i < x.items.length → FormC (x.items.getD i Itm.none_)) (d : Nat) (W : World) (sx : Value) (hsx : SubW W x.items sx) (hwt : wtF x ≤ 1000000000) (h1 : x.list = true) (h2 : x.bytes.size = 0) (h3 : d < 12) (h4 : x.items.length ≤ 512) :
    Calls Tryd.prog 21 #[.agg #[.bool x.list, .string x.bytes, sx], .int .i64 (d : Int)] W fun e W' => e = .returned (.int .i64 (formF x d)) ∧ W.grownBy W' none := by
  obtain ⟨A, c, rfl⟩ := hsx.slice
  have hf : formF x d = formL x.items (d + 1) := by rw [formF_eq, if_neg (by rw [h1, h2]; simp), if_neg (by rw [h1]; simp), if_neg (by omega), if_neg (by omega)]
  have hb : x.bytes = ⟨#[]⟩ := ba_ext (by have : x.bytes.data.toList.length = 0 := by rw [Array.length_toList]; exact h2
                                          exact List.eq_nil_of_length_eq_zero this)
  have hG1 := only_alloc (World.grownBy.refl W none) (.cells #[.bool x.list, .string x.bytes, .slice A x.items.length c] 24)
  have hx0 := Blk.new W 24 #[.bool x.list, .string x.bytes, .slice A x.items.length c]
  have hS1 := hsx.grown hG1
  have hwx := wtF_eq x
  rw [h1, hb] at hG1 hx0 hS1
  rw [h1, hb]
  obtain ⟨xs, hxs⟩ : ∃ xs, x.items = xs := ⟨_, rfl⟩
  obtain ⟨n, hnn⟩ : ∃ n, xs.length = n := ⟨_, rfl⟩
  have hwi : ∀ k, k < xs.length → wtF (xs.getD k Itm.none_) ≤ 1000000000 := by
    intro k hk; have := wtL_get hk; rw [hxs] at hwx; omega
  rw [hxs] at hf hG1 hx0 hS1 hC h4 ⊢
  rw [hnn] at hG1 hx0 hS1 h4 ⊢
  have HFX := Lib.hid hf
  have HC := Lib.hid hC
  have HN := Lib.hid hnn
  have HWI := Lib.hid hwi
  have e0 : decide ((12 : Int) ≤ (d : Int)) = false := decide_eq_false (by omega)
  have e1 : decide ((512 : Int) < (n : Int)) = false := decide_eq_false (by omega)
  have v1 : IntKind.i64.wrap ((d : Int) + 1) = (d : Int) + 1 := IntWalk.i64_in _ (by omega)
  clear hf hC hnn hxs hsx hwi hwx hwt h1 h2 hb
  go_enter Tryd.func21, Tryd.ntmps21
  go_upto_region 1 with (fail)
  generalize W.alloc (.cells #[.bool true, .string ⟨#[]⟩, .slice A n c] 24) = W1 at *
  obtain ⟨b0, hb0⟩ : ∃ b0, W.heap.size = b0 := ⟨_, rfl⟩
  rw [hb0] at hx0 ⊢
  have c0 := hx0.cell 0; have c2 := hx0.cell 1; have c1 := hx0.cell 2
  simp only [List.getElem?_toArray, List.getElem?_cons_zero, List.getElem?_cons_succ] at c0 c1 c2
  go_wp2_with fail
  clear c0 c1 c2
  go_loopw [5] (fun i wr => ∃ k : Nat, i = .int .i64 k ∧ k ≤ n ∧ W1.grownBy wr none ∧ Hid (formL (xs.take k) (d + 1) = 0)) (fun i _ => n - (intOf i).toNat)
  case atStart => exact ⟨0, rfl, by omega, World.grownBy.refl _ _, Lib.hid rfl⟩
  case round =>
    obtain ⟨k, rfl, hk, hg, hI⟩ := hrel
    have HI := Lib.hid hI.out
    have hx1 := hx0.grown hg (by simp)
    have c1 := hx1.cell 2
    simp only [List.getElem?_toArray, List.getElem?_cons_zero, List.getElem?_cons_succ] at c1
    by_cases hlt : k < n
    · have hS := hS1.grown hg
      obtain ⟨he, vs, hvs, hr⟩ := hS.row
      rw [HN.out] at hvs hr
      obtain ⟨g, off, rfl, hgB, hc⟩ := hr (by omega)
      obtain ⟨k0, k1, k2⟩ := hc k hlt
      have hsv := hvs k hlt
      obtain ⟨y, hy⟩ : ∃ y, xs.getD k Itm.none_ = y := ⟨_, rfl⟩
      have hkx : k < xs.length := by have := HN.out; omega
      have hCk := HC.out k hkx
      have hw1 := HWI.out k hkx
      have htk := formL_take hkx HI.out
      have herr := formL_err hkx HI.out
      rw [hy] at k0 k1 hsv hCk hw1 htk herr
      generalize vs.getD k undef = sv at *
      obtain ⟨As, cs, rfl⟩ := hsv.slice
      have HCK := Lib.hid (hCk _ (d + 1) _ hsv hw1 (by omega))
      have HTK := Lib.hid htk; have HERR := Lib.hid herr
      have q1 : (k : Int) < (n : Int) := by omega
      clear hS hvs hr hc hCk hy htk hsv he herr hw1 hkx hx1 hI
      go_wp2_with fail
      refine HCK.out.mono ?_
      rintro e w3 ⟨rfl, hg3⟩
      have hG3 := grown_self hg hg3 (by simp)
      by_cases hE : formF y (d + 1) = 0
      · rw [hE]
        have HI3 : Hid (formL (xs.take (k + 1)) (d + 1) = 0) := Lib.hid (by rw [HTK.out, hE])
        clear hg3 k0 k1 k2 HCK hE c1
        go_wp2_with fail
        exact ⟨⟨k + 1, by go_num, by omega, hG3, HI3⟩, by simp [intOf]; omega⟩
      · have HRES : Hid (formF x d = formF y (d + 1)) := Lib.hid (by rw [HFX.out, HERR.out hE])
        have HG4 := Lib.hid (grown_self hG1 hG3 (by simp))
        have e5 : (formF y (d + 1) != 0) = true := by simpa using hE
        generalize formF y (d + 1) = E at *
        clear hg3 k0 k1 k2 HCK hE c1 HTK HERR
        go_wp2_with fail
        go_ret
        exact ⟨by rw [HRES.out]; rfl, HG4.out⟩
    · obtain rfl : k = n := by omega
      have hfin : decide ((k : Int) < (k : Int)) = false := by simp
      have hall : xs.take k = xs := by rw [← HN.out, List.take_length]
      have hI2 := HI.out
      rw [hall] at hI2
      have HI2 := Lib.hid hI2
      have HG2 := Lib.hid (grown_self hG1 hg (by simp))
      clear hall hI2 hx1 hI
      go_wp2_with fail
      go_ret
      exact ⟨by rw [HFX.out, HI2.out]; rfl, HG2.out⟩
theorem form_any (x : Itm) : FormC x := by
  generalize hn : SizeOf.sizeOf x = n
  induction n using Nat.strongRecOn generalizing x with
  | _ n ih =>
    subst hn
    intro W d sx hsx hwt hd
    have hok := (ok_of_wt x hwt).items
    cases hl : x.list with
    | false =>
      rw [← hl]
      by_cases h : x.items.length = 0
      · exact form_leaf x d W sx hsx hok (.inl ⟨hl, h⟩)
      · exact form_bad x d W sx hsx hok (.inr ⟨hl, h⟩)
    | true =>
      rw [← hl]
      by_cases h : x.bytes.size = 0
      · by_cases h3 : 12 ≤ d ∨ 512 < x.items.length
        · exact form_leaf x d W sx hsx hok (.inr ⟨hl, h, h3⟩)
        · exact form_list x (fun i hi => ih _ (Itm.size_get hi) _ rfl) d W sx hsx hwt hl h (by omega) (by omega)
      · exact form_bad x d W sx hsx hok (.inl ⟨hl, h⟩)

set_option maxRecDepth 100000 in
set_option maxHeartbeats 2000000 in
theorem checkR_item (x : Itm) (W : World) (sx : Value) (hsx : SubW W x.items sx) (hwt : wtF x ≤ 1000000000) :
    Calls Tryd.prog 10 #[.agg #[.bool x.list, .string x.bytes, sx]] W fun e W' => e = .returned (.int .i64 (checkI x)) ∧ W.grownBy W' none := by
  obtain ⟨A, c, rfl⟩ := hsx.slice
  have hG1 := only_alloc (World.grownBy.refl W none) (.cells #[.bool x.list, .string x.bytes, .slice A x.items.length c] 24)
  have hx0 := Blk.new W 24 #[.bool x.list, .string x.bytes, .slice A x.items.length c]
  have hS1 := hsx.grown hG1
  have HF := Lib.hid (form_any x _ 0 _ hS1 hwt (by omega))
  have HG := Lib.hid hG1
  have HS := Lib.hid hS1
  have HX := Lib.hid hx0
  have hll := bytesF_len x hwt
  obtain ⟨E, hE⟩ : ∃ E, formF x 0 = E := ⟨_, rfl⟩
  rw [hE] at HF
  by_cases h0 : E = 0
  · have HC : Hid (checkI x = if 65536 < (bytesF x).length then 5 else 0) := Lib.hid (by unfold checkI; rw [hE, if_neg (by simpa using h0)])
    rw [h0] at HF
    clear hG1 hx0 hS1 hsx hE h0
    go_enter Tryd.func10, Tryd.ntmps10
    go_wp2_with fail
    refine HF.out.mono ?_
    rintro e w2 ⟨rfl, hg2⟩
    have hx2 := HX.out.grown hg2 (by simp)
    have hS2 := HS.out.grown hg2
    have HG := Lib.hid (grown_self HG.out hg2 (by simp))
    have c0 := hx2.cell 0; have c1 := hx2.cell 1; have c2 := hx2.cell 2
    simp only [List.getElem?_toArray, List.getElem?_cons_zero, List.getElem?_cons_succ] at c0 c1 c2
    have HY := Lib.hid (bytesR_item x _ _ hS2 hwt)
    obtain ⟨l, hl⟩ : ∃ l, bytesF x = l := ⟨_, rfl⟩
    rw [hl] at HC HY
    have hlz : l.toArray.size = l.length := by simp
    clear hg2 hx2 hS2 HF hl hll
    go_wp2_with fail
    refine HY.out.mono ?_
    rintro e w3 ⟨rfl, hg3⟩
    have HG := Lib.hid (grown_self HG.out hg3 (by simp))
    clear hg3
    by_cases h5 : 65536 < l.length
    · have HC5 : Hid (checkI x = 5) := Lib.hid (by rw [HC.out, if_pos h5])
      have e1 : (65536 : Int) < (l.length : Int) := by omega
      clear h5
      go_wp2_with fail
      go_ret
      exact ⟨by rw [HC5.out]; rfl, HG.out⟩
    · have HC5 : Hid (checkI x = 0) := Lib.hid (by rw [HC.out, if_neg h5])
      have e1 : decide ((65536 : Int) < (l.length : Int)) = false := decide_eq_false (by omega)
      clear h5
      go_wp2_with fail
      go_ret
      exact ⟨by rw [HC5.out]; rfl, HG.out⟩
  · have HC : Hid (checkI x = E) := Lib.hid (by unfold checkI; rw [hE, if_pos h0])
    have e1 : (E == 0) = false := by simpa using h0
    clear hG1 hx0 hS1 hsx hE h0 hll
    go_enter Tryd.func10, Tryd.ntmps10
    go_wp2_with fail
    refine HF.out.mono ?_
    rintro e w2 ⟨rfl, hg2⟩
    have HG := Lib.hid (grown_self HG.out hg2 (by simp))
    clear hg2 HF
    go_wp2_with fail
    go_ret
    exact ⟨by rw [HC.out]; rfl, HG.out⟩

set_option maxRecDepth 100000 in
set_option maxHeartbeats 2000000 in
theorem encodeR_any (x : Itm) (W : World) (sx : Value) (hsx : SubW W x.items sx) (hwt : wtF x ≤ 1000000000) :
    Calls Tryd.prog 14 #[.agg #[.bool x.list, .string x.bytes, sx]] W fun e W' => e = .returned (.tuple #[.string ⟨(encB x).toArray⟩, .int .i64 (checkI x)]) ∧ W.grownBy W' none := by
  obtain ⟨A, c, rfl⟩ := hsx.slice
  have hG1 := only_alloc (World.grownBy.refl W none) (.cells #[.bool x.list, .string x.bytes, .slice A x.items.length c] 24)
  have hx0 := Blk.new W 24 #[.bool x.list, .string x.bytes, .slice A x.items.length c]
  have hS1 := hsx.grown hG1
  have HK := Lib.hid (checkR_item x _ _ hS1 hwt)
  have HG := Lib.hid hG1
  have HS := Lib.hid hS1
  have HX := Lib.hid hx0
  obtain ⟨E, hE⟩ : ∃ E, checkI x = E := ⟨_, rfl⟩
  rw [hE] at HK ⊢
  by_cases h0 : E = 0
  · have HB : Hid (encB x = bytesF x) := Lib.hid (if_pos (by rw [hE, h0]))
    rw [h0] at HK ⊢
    clear hG1 hx0 hS1 hsx hE h0
    go_enter Tryd.func14, Tryd.ntmps14
    go_wp2_with fail
    refine HK.out.mono ?_
    rintro e w2 ⟨rfl, hg2⟩
    have hx2 := HX.out.grown hg2 (by simp)
    have hS2 := HS.out.grown hg2
    have HG := Lib.hid (grown_self HG.out hg2 (by simp))
    have c0 := hx2.cell 0; have c1 := hx2.cell 1; have c2 := hx2.cell 2
    simp only [List.getElem?_toArray, List.getElem?_cons_zero, List.getElem?_cons_succ] at c0 c1 c2
    have HY := Lib.hid (bytesR_item x _ _ hS2 hwt)
    clear hg2 hx2 hS2 HK
    go_wp2_with fail
    refine HY.out.mono ?_
    rintro e w3 ⟨rfl, hg3⟩
    have HG := Lib.hid (grown_self HG.out hg3 (by simp))
    clear hg3
    go_wp2_with fail
    go_ret2
    exact ⟨by rw [HB.out]; rfl, HG.out⟩
  · have HB : Hid (encB x = []) := Lib.hid (if_neg (by rw [hE]; exact h0))
    have e1 : (E != 0) = true := by simpa using h0
    clear hG1 hx0 hS1 hsx hE h0
    go_enter Tryd.func14, Tryd.ntmps14
    go_wp2_with fail
    refine HK.out.mono ?_
    rintro e w2 ⟨rfl, hg2⟩
    have HG := Lib.hid (grown_self HG.out hg2 (by simp))
    clear hg2 HK
    go_wp2_with fail
    go_ret2
    exact ⟨by rw [HB.out]; rfl, HG.out⟩
end Go.Proofs.YtacfpjleejfdgaaDoor
