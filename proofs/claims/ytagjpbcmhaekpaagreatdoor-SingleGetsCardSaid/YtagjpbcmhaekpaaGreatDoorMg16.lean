/- Merged: DgD, SzC, DgE. -/
import Derived.Test.YtagjpbcmhaekpaaGreatDoorMg15
/- Batches of one block: the document's Get. -/
namespace Go.Proofs.YtagjpbcmhaekpaaGreatDoor
open Go.RowKit Go.Shelf
set_option linter.unusedVariables false
set_option linter.unusedSimpArgs false

theorem fieldsE_first (a b c d e : Itm) : fieldsE [a, b, c, d, e] = firstL [tE a 32 32, numE b.list b.bytes, tE c 32 32, numE d.list d.bytes, gtE e.list e.items.length 32 1 4096 e.items] := by
  unfold fieldsE firstL firstL firstL firstL firstL firstL
  by_cases h : gtE e.list e.items.length 32 1 4096 e.items = 0 <;> simp [h]
theorem firstL_0 {a b c d e : Int} (h : firstL [a, b, c, d, e] = 0) : a = 0 ∧ b = 0 ∧ c = 0 ∧ d = 0 ∧ e = 0 := by
  unfold firstL firstL firstL firstL firstL firstL at h
  by_cases h1 : a = 0 <;> by_cases h2 : b = 0 <;> by_cases h3 : c = 0 <;> by_cases h4 : d = 0 <;> by_cases h5 : e = 0 <;> simp_all
/-- what stands while the fields are read -/
structure RdF (w : World) (b q off : Nat) (its : List Itm) (vs : List Value) (W : World) : Prop where
  res : Blk W b 25 sglZ
  row : ∀ i, i < 5 → W.cell? ⟨q, off + i * 3, none⟩ = some (.bool (its.getD i Itm.none_).list) ∧ W.cell? ⟨q, off + i * 3 + 1, none⟩ = some (.string (its.getD i Itm.none_).bytes) ∧ W.cell? ⟨q, off + i * 3 + 2, none⟩ = some (vs.getD i undef)
  sub : ∀ i, i < 5 → SubW W (its.getD i Itm.none_).items (vs.getD i undef)
  grow : w.grownBy W none
theorem RdF.step {w W W' : World} {b q off : Nat} {its : List Itm} {vs : List Value} (h : RdF w b q off its vs W) (hg : W.grownBy W' none) : RdF w b q off its vs W' := by
  refine ⟨h.res.grown hg (by simp), fun i hi => ?_, fun i hi => SubW.grown (h.sub i hi) hg, grown_self h.grow hg (by simp)⟩
  obtain ⟨r0, r1, r2⟩ := h.row i hi
  exact ⟨hg.cell r0 (by simp), hg.cell r1 (by simp), hg.cell r2 (by simp)⟩
set_option maxRecDepth 100000 in
set_option maxHeartbeats 4000000 in
theorem getR16_five (s : ByteArray) (hs : s.size ≤ 9223372036854775807) (w : World) (h : s ≠ ⟨#[]⟩) (h1 : s.data.toList.getD 0 0 = 0) (x : Itm) (hd : decodeF (s.data.toList.drop 1) = .ok x) (hxl : x.list = true) (y0 y1 y2 y3 y4 : Itm) (hxi : x.items = [y0, y1, y2, y3, y4]) : Calls Tryz.prog 14 #[.string s] w (SglEnd s.data.toList w) := by
  obtain ⟨g0, q0, q1, q2, q3⟩ := some_str h
  have hE : getSE s.data.toList = fieldsE [y0, y1, y2, y3, y4] := by
    unfold getSE; rw [if_neg q0, if_neg (by rw [h1]; simp), hd]
    show (if (if x.list then textE x.items.length 5 5 else 2) ≠ 0 then _ else fieldsE x.items) = _
    rw [hxi, hxl]; rfl
  have hE0 : getSE s.data.toList = 0 → getSB s.data.toList = fieldsS [y0, y1, y2, y3, y4] := fun h0 => by
    unfold getSB
    rw [if_pos h0, hd]
    show fieldsS x.items = _
    rw [hxi]
  rw [fieldsE_first] at hE
  have hok := decode_okF hd
  have hk1 : y1.bytes.size ≤ 9223372036854775807 := by have := (hok.get 1 (by rw [hxi]; simp)).bytes; rw [hxi] at this; exact this
  have hk3 : y3.bytes.size ≤ 9223372036854775807 := by have := (hok.get 3 (by rw [hxi]; simp)).bytes; rw [hxi] at this; exact this
  have hl4 : y4.items.length ≤ 512 := form_len (form_items hd hxl y4 (by rw [hxi]; simp))
  have hB := Blk.new w 25 sglZ
  have hG := only_alloc (World.grownBy.refl w none) (.cells sglZ 25)
  have g1 : ((((s[0]'g0).toNat : Int)) != 0) = false := by
    rw [← q3, h1]; rfl
  have hz : (s.extract 1 s.size).size ≤ 9223372036854775807 := by simp; omega
  have hdec := fun V => decode05_any (s.extract 1 s.size) V hz
  rw [drop1] at hdec
  have HD := Lib.hid hdec; have HDE := Lib.hid hd
  have HG := Lib.hid hG; have HB := Lib.hid hB; have HE := Lib.hid hE; have HE0 := Lib.hid hE0
  have HK1 := Lib.hid hk1; have HK3 := Lib.hid hk3; have HL4 := Lib.hid hl4; have HXL := Lib.hid hxl; have HXI := Lib.hid hxi
  have g3 : (1 : Int) ≤ (s.size : Int) := by omega
  clear hG hB hE hE0 h h1 q0 q3 hdec hd hz hok hk1 hk3 hl4 hxl hxi
  go_enter Tryz.func14, Tryz.ntmps14
  go_upto_region 1 with (fail)
  obtain ⟨b, hb⟩ : ∃ b, w.heap.size = b := ⟨_, rfl⟩
  have HW := Lib.hid hb
  rw [hb] at HB ⊢
  clear hb
  generalize w.alloc (.cells #[.string ⟨#[]⟩, .int .u64 0, .string ⟨#[]⟩, .int .u64 0, .slice none 0 0] 25) = w1 at *
  go_wp2_with fail
  refine (HD.out _).mono ?_
  rintro e w2 ⟨lst, bb, sA, sn, sc, E', rfl, hg2, htail⟩
  obtain ⟨rfl, rfl, rfl, hsub⟩ := dec_ok htail HDE.out
  rw [HXI.out] at hsub
  obtain ⟨hn, vs, hsb, hrw⟩ := hsub.here.row
  replace hn : sn = 5 := hn
  subst hn
  have ht5 : textE 5 5 5 = 0 := rfl
  have hlist : ∀ V : World, Calls Tryz.prog 40 #[.agg #[.bool true, .string x.bytes, .slice sA 5 sc], .int .i64 5, .int .i64 5] V fun e w' => e = .returned (.tuple #[.slice sA 5 sc, .int .i64 0]) ∧ V.grownBy w' none := fun V => getListR_any true x.bytes sA 5 sc 5 5 V
  rw [HXL.out]
  have HLI := Lib.hid hlist
  generalize x.bytes = bb at *
  have hB2 := HB.out.grown hg2 (by simp)
  obtain ⟨q, off, rfl, hqg, hrw⟩ := hrw (by simp)
  have hF2 : RdF w b q off [y0, y1, y2, y3, y4] vs w2 := ⟨hB2, hrw, hsb, grown_self HG.out hg2 (by simp)⟩
  have HF3 := Lib.hid (hF2.step (only_alloc (World.grownBy.refl w2 none) (.cells #[.bool true, .string bb, .slice (some ⟨q, off, none⟩) 5 sc] 40)))
  have hi := Blk.new w2 40 #[.bool true, .string bb, .slice (some ⟨q, off, none⟩) 5 sc]
  clear htail hsub hg2 hB2 HDE HD HG HB g1 g3 hlist ht5 hsb hrw hF2 hqg
  go_upto_region 6 with (fail)
  obtain ⟨g, hg⟩ : ∃ g, w2.heap.size = g := ⟨_, rfl⟩
  rw [hg] at hi ⊢
  clear hg
  generalize w2.alloc (.cells #[.bool true, .string bb, .slice (some ⟨q, off, none⟩) 5 sc] 40) = w3 at *
  have i0 := hi.cell 0; have i1 := hi.cell 1; have i2 := hi.cell 2
  simp only [List.getElem?_toArray, List.getElem?_cons_zero, List.getElem?_cons_succ] at i0 i1 i2
  go_wp2_with fail
  refine (HLI.out _).mono ?_
  rintro e w4 ⟨rfl, hg4⟩
  have HF4 := Lib.hid (HF3.out.step hg4)
  clear hi i0 i1 i2 HLI HF3 hg4
  obtain ⟨S0, hS0⟩ : ∃ S, (if y0.list = false ∧ textE y0.bytes.size 32 32 = 0 then y0.bytes else ⟨#[]⟩) = S := ⟨_, rfl⟩
  obtain ⟨S2, hS2⟩ : ∃ S, (if y2.list = false ∧ textE y2.bytes.size 32 32 = 0 then y2.bytes else ⟨#[]⟩) = S := ⟨_, rfl⟩
  obtain ⟨N1, hN1⟩ : ∃ N, numV y1.list y1.bytes = N := ⟨_, rfl⟩
  obtain ⟨N3, hN3⟩ : ∃ N, numV y3.list y3.bytes = N := ⟨_, rfl⟩
  obtain ⟨E1, hE1⟩ : ∃ E, tE y0 32 32 = E := ⟨_, rfl⟩
  obtain ⟨E2, hE2⟩ : ∃ E, numE y1.list y1.bytes = E := ⟨_, rfl⟩
  obtain ⟨E3, hE3⟩ : ∃ E, tE y2 32 32 = E := ⟨_, rfl⟩
  obtain ⟨E4, hE4⟩ : ∃ E, numE y3.list y3.bytes = E := ⟨_, rfl⟩
  obtain ⟨E5, hE5⟩ : ∃ E, gtE y4.list y4.items.length 32 1 4096 y4.items = E := ⟨_, rfl⟩
  obtain ⟨F, hF⟩ : ∃ F, firstL [E1, E2, E3, E4, E5] = F := ⟨_, rfl⟩
  have HE := Lib.hid (HE.out.trans (by rw [hE1, hE2, hE3, hE4, hE5, hF]))
  have HT0 : Hid (∀ v V, Calls Tryz.prog 41 #[.agg #[.bool y0.list, .string y0.bytes, v], .int .i64 32, .int .i64 32] V fun e w' => e = .returned (.tuple #[.string S0, .int .i64 E1]) ∧ V.grownBy w' none) := Lib.hid fun v V => by
    have := getTextR_any y0.list y0.bytes v 32 32 V
    rw [hS0, show (if y0.list then (2 : Int) else textE y0.bytes.size 32 32) = E1 from hE1] at this; exact this
  have HT1 : Hid (∀ v V, Calls Tryz.prog 42 #[.agg #[.bool y1.list, .string y1.bytes, v]] V fun e w' => e = .returned (.tuple #[.int .u64 (N1 : Nat), .int .i64 E2]) ∧ V.grownBy w' none) := Lib.hid fun v V => by
    have := getNumberR_any y1.list y1.bytes v HK1.out V
    rw [hN1, hE2] at this; exact this
  have HT2 : Hid (∀ v V, Calls Tryz.prog 41 #[.agg #[.bool y2.list, .string y2.bytes, v], .int .i64 32, .int .i64 32] V fun e w' => e = .returned (.tuple #[.string S2, .int .i64 E3]) ∧ V.grownBy w' none) := Lib.hid fun v V => by
    have := getTextR_any y2.list y2.bytes v 32 32 V
    rw [hS2, show (if y2.list then (2 : Int) else textE y2.bytes.size 32 32) = E3 from hE3] at this; exact this
  have HT3 : Hid (∀ v V, Calls Tryz.prog 42 #[.agg #[.bool y3.list, .string y3.bytes, v]] V fun e w' => e = .returned (.tuple #[.int .u64 (N3 : Nat), .int .i64 E4]) ∧ V.grownBy w' none) := Lib.hid fun v V => by
    have := getNumberR_any y3.list y3.bytes v HK3.out V
    rw [hN3, hE4] at this; exact this
  have HS0 := Lib.hid hS0; have HS2 := Lib.hid hS2; have HN1 := Lib.hid hN1; have HN3 := Lib.hid hN3; have HE1 := Lib.hid hE1; have HE3 := Lib.hid hE3; have HGT := Lib.hid hE5; have HFF := Lib.hid hF
  clear hS0 hS2 hN1 hN3 hE1 hE2 hE3 hE4 hE5 hF
  obtain ⟨r0, r1, r2⟩ := HF4.out.row 0 (by decide)
  simp only [Nat.zero_mul, Nat.add_zero] at r0 r1 r2
  change w4.cell? ⟨q, off, none⟩ = some (.bool y0.list) at r0
  change w4.cell? ⟨q, off + 1, none⟩ = some (.string y0.bytes) at r1
  go_wp2_with fail
  refine (HT0.out _ _).mono ?_
  rintro e w5 ⟨rfl, hg5⟩
  have HF5 := Lib.hid (HF4.out.step hg5)
  clear hg5 r0 r1 r2 HF4 HT0
  obtain ⟨r0, r1, r2⟩ := HF5.out.row 1 (by decide)
  simp only [Nat.one_mul] at r0 r1 r2
  change w5.cell? ⟨q, off + 3, none⟩ = some (.bool y1.list) at r0
  change w5.cell? ⟨q, off + 3 + 1, none⟩ = some (.string y1.bytes) at r1
  go_wp2_with fail
  refine (HT1.out _ _).mono ?_
  rintro e w6 ⟨rfl, hg6⟩
  have HF6 := Lib.hid (HF5.out.step hg6)
  clear hg6 r0 r1 r2 HF5 HT1
  obtain ⟨r0, r1, r2⟩ := HF6.out.row 2 (by decide)
  simp only [Nat.reduceMul] at r0 r1 r2
  change w6.cell? ⟨q, off + 6, none⟩ = some (.bool y2.list) at r0
  change w6.cell? ⟨q, off + 6 + 1, none⟩ = some (.string y2.bytes) at r1
  go_wp2_with fail
  refine (HT2.out _ _).mono ?_
  rintro e w7 ⟨rfl, hg7⟩
  have HF7 := Lib.hid (HF6.out.step hg7)
  clear hg7 r0 r1 r2 HF6 HT2
  obtain ⟨r0, r1, r2⟩ := HF7.out.row 3 (by decide)
  simp only [Nat.reduceMul] at r0 r1 r2
  change w7.cell? ⟨q, off + 9, none⟩ = some (.bool y3.list) at r0
  change w7.cell? ⟨q, off + 9 + 1, none⟩ = some (.string y3.bytes) at r1
  go_wp2_with fail
  refine (HT3.out _ _).mono ?_
  rintro e w8 ⟨rfl, hg8⟩
  have HF8 := Lib.hid (HF7.out.step hg8)
  clear hg8 r0 r1 r2 HF7 HT3
  obtain ⟨A4, c4, hv4⟩ := subV_slice (HF8.out.sub 4 (by decide))
  have hv4 : vs.getD 4 undef = .slice A4 y4.items.length c4 := hv4
  obtain ⟨r0, r1, r2⟩ := HF8.out.row 4 (by decide)
  have hsub4 := HF8.out.sub 4 (by decide)
  rw [hv4] at r2 hsub4
  have hgt := getTextsR_any y4.list y4.bytes A4 y4.items.length c4 y4.items 32 1 4096 w8 hsub4 (by have := HL4.out; omega)
  rw [HGT.out] at hgt
  replace r0 : w8.cell? ⟨q, off + 12, none⟩ = some (.bool y4.list) := r0
  replace r1 : w8.cell? ⟨q, off + 12 + 1, none⟩ = some (.string y4.bytes) := r1
  replace r2 : w8.cell? ⟨q, off + 12 + 2, none⟩ = some (.slice A4 y4.items.length c4) := r2
  obtain ⟨n4, hn4⟩ : ∃ n, y4.items.length = n := ⟨_, rfl⟩
  obtain ⟨l4, hl4⟩ : ∃ n, y4.list = n := ⟨_, rfl⟩
  obtain ⟨b4, hb4⟩ : ∃ n, y4.bytes = n := ⟨_, rfl⟩
  rw [hl4] at r0 hgt
  rw [hb4] at r1 hgt
  rw [hn4] at r2 hgt
  have HGX := Lib.hid hgt
  clear hv4 hsub4 hgt hn4 hl4 hb4
  go_wp2_with fail
  refine (HGX.out).mono ?_
  rintro e w9 ⟨v, xs, rfl, hown, hxs, hg9⟩
  obtain ⟨Av, cv, rfl⟩ := own_slice3S hown
  have HX := Lib.hid hxs
  have HF9 := Lib.hid (HF8.out.step hg9)
  have HZ8 := Lib.hid (show w.heap.size ≤ w8.heap.size from HF8.out.grow.size)
  have hF10 := HF9.out.step (only_alloc (World.grownBy.refl w9 none) (.cells #[.int .i64 E1, .int .i64 E2, .int .i64 E3, .int .i64 E4, .int .i64 E5] 28))
  have hO10 := hown.alloc (.cells #[.int .i64 E1, .int .i64 E2, .int .i64 E3, .int .i64 E4, .int .i64 E5] 28)
  have hE10 := Blk.new w9 28 #[.int .i64 E1, .int .i64 E2, .int .i64 E3, .int .i64 E4, .int .i64 E5]
  have hRE : Reads (w9.alloc (.cells #[.int .i64 E1, .int .i64 E2, .int .i64 E3, .int .i64 E4, .int .i64 E5] 28)) (w9.heap.size + 1) 1 (some ⟨w9.heap.size, 0, none⟩) 5 ([E1, E2, E3, E4, E5].map (Value.int .i64)) :=
    ⟨rfl, fun _ => ⟨_, rfl, Nat.lt_succ_self _, fun j u hu => by
      have := hE10.cell j
      rw [Addr.add_mid, Nat.zero_add, this, ← hu]
      simp⟩⟩
  have HFI := Lib.hid (firstR_any _ _ 5 5 [E1, E2, E3, E4, E5] _ hRE (by decide))
  rw [HFF.out] at HFI
  have HF10 := Lib.hid hF10; have HO10 := Lib.hid hO10
  clear HGX HF8 HF9 r0 r1 r2 hown hg9 hxs hF10 hO10 hE10 hRE
  go_wp2_with fail
  refine (HFI.out).mono ?_
  rintro e w10 ⟨rfl, rfl⟩
  generalize w9.alloc (.cells #[.int .i64 E1, .int .i64 E2, .int .i64 E3, .int .i64 E4, .int .i64 E5] 28) = w10 at *
  have hF := HF10.out
  have d0 := hF.res.cell 0; have d1 := hF.res.cell 1; have d2 := hF.res.cell 2; have d3 := hF.res.cell 3; have d4 := hF.res.cell 4
  have m0 := hF.res.frozen 0; have m1 := hF.res.frozen 1; have m2 := hF.res.frozen 2; have m3 := hF.res.frozen 3; have m4 := hF.res.frozen 4
  simp only [List.getElem?_toArray, List.getElem?_cons_zero, List.getElem?_cons_succ] at d0 d1 d2 d3 d4
  clear HFI hF
  by_cases h0 : F = 0
  rotate_left
  · have T2 := Lib.hid (blk_set5 HF10.out.res (.string ⟨#[]⟩) (.int .u64 0) (.string ⟨#[]⟩) (.int .u64 0) (.slice none 0 0))
    have T4 := Lib.hid (only_set5 HF10.out.grow (Nat.le_of_eq HW.out) (.string ⟨#[]⟩) (.int .u64 0) (.string ⟨#[]⟩) (.int .u64 0) (.slice none 0 0))
    have e1 : (F != 0) = true := by simpa using h0
    have HNE0 := Lib.hid h0
    clear h0
    go_wp2_with fail
    refine bodyPost_ret (results_ct (fn := Tryz.f14) rfl _ _ _ _ rfl (load_sgl T2.out)) rfl ?_
    exact SglEnd.bad HE.out HNE0.out T4.out
  · subst h0
    have T2 := Lib.hid (blk_set5 HF10.out.res (.string S0) (.int .u64 (N1 : Int)) (.string S2) (.int .u64 (N3 : Int)) (.slice Av xs.length cv))
    have T4 := Lib.hid (only_set5 HF10.out.grow (Nat.le_of_eq HW.out) (.string S0) (.int .u64 (N1 : Int)) (.string S2) (.int .u64 (N3 : Int)) (.slice Av xs.length cv))
    have hgb := only_setCell (only_setCell (only_setCell (only_setCell (only_setCell (World.grownBy.refl w10 (some b)) (p := ⟨b, 0, none⟩) (.inl rfl) (.string S0)) (p := ⟨b, 1, none⟩) (.inl rfl) (.int .u64 (N1 : Int))) (p := ⟨b, 2, none⟩) (.inl rfl) (.string S2)) (p := ⟨b, 3, none⟩) (.inl rfl) (.int .u64 (N3 : Int))) (p := ⟨b, 4, none⟩) (.inl rfl) (.slice Av xs.length cv)
    have HO16 := Lib.hid (own_lowerS (HO10.out.kept hgb (.inr (own_blk_ne HO10.out HF10.out.res (by decide)))) HZ8.out)
    clear hgb
    go_wp2_with fail
    refine bodyPost_ret (results_ct (fn := Tryz.f14) rfl _ _ _ _ rfl (load_sgl T2.out)) rfl ?_
    have hE := HE.out
    have hB := HE0.out hE
    obtain ⟨f0, f1, f2, f3, f4⟩ := firstL_0 HFF.out
    rw [f0] at HE1
    rw [f2] at HE3
    have hs0 : S0 = y0.bytes := by rw [← HS0.out]; exact if_pos (tE_both HE1.out)
    have hs2 : S2 = y2.bytes := by rw [← HS2.out]; exact if_pos (tE_both HE3.out)
    have hx : xs = y4.items := by rw [HX.out, f4]; rfl
    subst hs0; subst hs2
    have hn1 := HN1.out; have hn3 := HN3.out
    subst hn1; subst hn3
    refine ⟨.slice Av xs.length cv, ?_, ?_, T4.out⟩
    · rw [hE, hB]; rfl
    · rw [hB]
      have h := HO16.out
      rw [hx] at h ⊢
      show World.ownsRow _ _ _ _ _ (y4.items.map Itm.bytes).length ((y4.items.map Itm.bytes).map Value.string)
      rw [List.length_map, List.map_map]
      exact h
/-- WHAT THE DOCUMENT's Get ANSWERS -/
theorem getR_16 (s : ByteArray) (hs : s.size ≤ 9223372036854775807) (w : World) : Calls Tryz.prog 14 #[.string s] w (SglEnd s.data.toList w) := by
  by_cases h : s = ⟨#[]⟩
  · subst h; exact getR16_none w
  by_cases h1 : s.data.toList.getD 0 0 = 0
  · cases hd : decodeF (s.data.toList.drop 1) with
    | error E => exact getR16_dec s hs w h h1 E hd
    | ok x =>
      by_cases hL : (if x.list then textE x.items.length 5 5 else 2) = 0
      · have hxl : x.list = true := by
          cases hh : x.list with
          | true => rfl
          | false => rw [hh] at hL; cases hL
        rw [hxl] at hL
        have hL : textE x.items.length 5 5 = 0 := hL
        have h5 : x.items.length = 5 := by
          unfold textE at hL
          split at hL
          · cases hL
          split at hL
          · cases hL
          omega
        match hx : x.items, h5 with
        | [a, b, c, d, e], _ => exact getR16_five s hs w h h1 x hd hxl a b c d e hx
      · exact getR16_list s hs w h h1 x hd hL
  · exact getR16_mark s w h h1
end Go.Proofs.YtagjpbcmhaekpaaGreatDoor
/- Batches of one block: the document's Same. -/
namespace Go.Proofs.YtagjpbcmhaekpaaGreatDoor
open Go.RowKit Go.Shelf
set_option linter.unusedVariables false
set_option linter.unusedSimpArgs false

theorem sameB_eq (a b : Sgl) : sameB a b = decide (a.parent = b.parent ∧ a.epoch = b.epoch ∧ a.hash = b.hash ∧ a.time = b.time ∧ a.txs = b.txs) := by
  simp only [sameB, restB]
  by_cases h1 : a.parent = b.parent <;> by_cases h2 : a.epoch = b.epoch <;> by_cases h3 : a.hash = b.hash <;> by_cases h4 : a.time = b.time <;> simp [h1, h2, h3, h4]
set_option maxRecDepth 100000 in
set_option maxHeartbeats 2000000 in
theorem sameR_16 (a b : Sgl) (B B' : Nat) (A A' : Option Addr) (n m c d : Nat) (w : World) (h : Reads w B 1 A n (a.txs.map Value.string)) (h' : Reads w B' 1 A' m (b.txs.map Value.string)) (hB : B ≤ w.heap.size) (hB' : B' ≤ w.heap.size) (hn : n ≤ 281474976710656) (hm : m ≤ 281474976710656) :
    Calls Tryz.prog 10 #[.agg (sglC a (.slice A n c)), .agg (sglC b (.slice A' m d))] w fun e w' => e = .returned (.bool (sameB a b)) ∧ w.grownBy w' none := by
  have hG := only_alloc (only_alloc (World.grownBy.refl w none) (.cells (sglC a (.slice A n c)) 25)) (.cells (sglC b (.slice A' m d)) 25)
  have hb1 := (Blk.new w 25 (sglC a (.slice A n c))).alloc (.cells (sglC b (.slice A' m d)) 25)
  have hb2 := Blk.new (w.alloc (.cells (sglC a (.slice A n c)) 25)) 25 (sglC b (.slice A' m d))
  rw [World.size_alloc] at hb2
  have HT := Lib.hid (fun V hR hR' => textsR_any B B' A A' n m c d a.txs b.txs V hR hR' hn hm)
  have HR := Lib.hid (h.grown hG hB (by simp)); have HR' := Lib.hid (h'.grown hG hB' (by simp))
  have HG := Lib.hid hG
  have hs0 := sameB_eq a b
  obtain ⟨r0, hr0⟩ : ∃ r0, sameB a b = r0 := ⟨_, rfl⟩
  rw [hr0] at hs0 ⊢
  have HS0 := Lib.hid hs0
  clear hs0 hr0
  obtain ⟨ap, ae, ah, aT, ax⟩ := a
  obtain ⟨bp, be, bh, bt, bx⟩ := b
  simp only [sglC] at *
  clear h h' hG hn hm hB hB'
  go_enter Tryz.func10, Tryz.ntmps10
  go_upto_region 1 with (fail)
  obtain ⟨g, hg⟩ : ∃ g, w.heap.size = g := ⟨_, rfl⟩
  rw [hg] at hb1 hb2 ⊢
  clear hg
  generalize (w.alloc (.cells #[.string ap, .int .u64 (ae : Int), .string ah, .int .u64 (aT : Int), .slice A n c] 25)).alloc (.cells #[.string bp, .int .u64 (be : Int), .string bh, .int .u64 (bt : Int), .slice A' m d] 25) = w1 at *
  have x4 := hb1.cell 4; have y4 := hb2.cell 4
  simp only [List.getElem?_toArray, List.getElem?_cons_zero, List.getElem?_cons_succ] at x4 y4
  go_wp2_with fail
  refine (HT.out _ HR.out HR'.out).mono ?_
  rintro e w2 ⟨rfl, hg⟩
  replace HG := Lib.hid (grown_self HG.out (grown_of_below hg) (by simp))
  have hb1 := hb1.grown (grown_of_below hg) (by simp)
  have hb2 := hb2.grown (grown_of_below hg) (by simp)
  clear hg x4 y4
  have x0 := hb1.cell 0; have x1 := hb1.cell 1; have x2 := hb1.cell 2; have x3 := hb1.cell 3
  have y0 := hb2.cell 0; have y1 := hb2.cell 1; have y2 := hb2.cell 2; have y3 := hb2.cell 3
  simp only [List.getElem?_toArray, List.getElem?_cons_zero, List.getElem?_cons_succ] at x0 x1 x2 x3 y0 y1 y2 y3
  clear hb1 hb2 HT HR HR'
  by_cases h1 : ap = bp
  rotate_left
  · have e1 := str_ne h1
    have HF : Hid (r0 = false) := Lib.hid (by rw [HS0.out]; simp [h1])
    clear h1
    go_wp2_with fail
    go_ret
    exact ⟨by rw [HF.out]; rfl, HG.out⟩
  subst h1
  have e1 : (ap.toList == ap.toList) = true := by simp
  by_cases h2 : ae = be
  rotate_left
  · have e2 : ((ae : Int) == (be : Int)) = false := by simp; omega
    have e2' : decide ((ae : Int) = (be : Int)) = false := by simp; omega
    have HF : Hid (r0 = false) := Lib.hid (by rw [HS0.out]; simp [h2])
    clear h2
    go_wp2_with fail
    go_ret
    exact ⟨by rw [HF.out]; rfl, HG.out⟩
  subst h2
  by_cases h3 : ah = bh
  rotate_left
  · have e3 := str_ne h3
    have HF : Hid (r0 = false) := Lib.hid (by rw [HS0.out]; simp [h3])
    clear h3
    go_wp2_with fail
    go_ret
    exact ⟨by rw [HF.out]; rfl, HG.out⟩
  subst h3
  have e3 : (ah.toList == ah.toList) = true := by simp
  by_cases h4 : aT = bt
  rotate_left
  · have e2 : ((aT : Int) == (bt : Int)) = false := by simp; omega
    have e2' : decide ((aT : Int) = (bt : Int)) = false := by simp; omega
    have HF : Hid (r0 = false) := Lib.hid (by rw [HS0.out]; simp [h4])
    clear h4
    go_wp2_with fail
    go_ret
    exact ⟨by rw [HF.out]; rfl, HG.out⟩
  subst h4
  have HF : Hid (r0 = decide (ax = bx)) := Lib.hid (by rw [HS0.out]; simp)
  generalize decide (ax = bx) = r at *
  cases r <;>
  · go_wp2_with fail
    go_ret
    exact ⟨by rw [HF.out]; rfl, HG.out⟩
end Go.Proofs.YtagjpbcmhaekpaaGreatDoor
/- Batches of one block: the walk of SingleGets. -/
namespace Go.Proofs.YtagjpbcmhaekpaaGreatDoor
open Go.RowKit Go.Shelf
set_option linter.unusedVariables false
set_option linter.unusedSimpArgs false

theorem getSB_few (l : List UInt8) : (getSB l).txs.length ≤ 32 := by
  by_cases h : getSE l = 0
  · exact (checkS_0.1 (getS_only h).2.2.2).2.2.1
  · rw [getS_bad h]; decide
set_option maxRecDepth 100000 in
set_option maxHeartbeats 4000000 in
theorem sgets_law (s : ByteArray) (hs : s.size ≤ 9223372036854775807) (W : World) :
    Calls Tryz.prog 4 #[.string s] W fun e w' => e = .returned (.bool true) ∧ Below W.heap.size W w' := by
  have HH := Lib.hid hs
  by_cases hz : 2000 < s.size
  · have q1 : decide ((2000 : Int) < (s.size : Int)) = true := by simp; omega
    go_enter Tryz.func4, Tryz.ntmps4
    go_wp2_with fail
    refine (worksS_any _).mono ?_
    rintro e w2 ⟨rfl, hg⟩
    have HG := Lib.hid hg
    clear hg
    go_wp2_with fail
    go_ret
    exact ⟨rfl, below_of_grown HG.out⟩
  have q1 : decide ((2000 : Int) < (s.size : Int)) = false := by simp; omega
  clear hs hz
  have h1 : ∀ V, Calls Tryz.prog 13 #[.string s] V fun e w' => ∃ A c, e = .returned (.tuple #[.agg (sglC (getSB s.data.toList) (.slice A (getSB s.data.toList).txs.length c)), .int .i64 (getSE s.data.toList)]) ∧ Reads w' w'.heap.size 1 A (getSB s.data.toList).txs.length ((getSB s.data.toList).txs.map Value.string) ∧ V.grownBy w' none := fun V => (getSg_any s HH.out V).mono fun e w' h => h.reads
  have h2 : ∀ V, Calls Tryz.prog 14 #[.string s] V fun e w' => ∃ A c, e = .returned (.tuple #[.agg (sglC (getSB s.data.toList) (.slice A (getSB s.data.toList).txs.length c)), .int .i64 (getSE s.data.toList)]) ∧ Reads w' w'.heap.size 1 A (getSB s.data.toList).txs.length ((getSB s.data.toList).txs.map Value.string) ∧ V.grownBy w' none := fun V => (getR_16 s HH.out V).mono fun e w' h => h.reads
  have hn := getSB_few s.data.toList
  generalize getSB s.data.toList = b at *
  generalize getSE s.data.toList = E at *
  have h5 := fun V B B' A A' c c' hR hB hR' hB' => sameR_16 b b B B' A A' b.txs.length b.txs.length c c' V hR hR' hB hB' (by omega) (by omega)
  rw [sameB_self] at h5
  obtain ⟨n, hl⟩ : ∃ n, b.txs.length = n := ⟨_, rfl⟩
  rw [hl] at h1 h2 h5
  have H1 := Lib.hid h1; have H2 := Lib.hid h2; have H5 := Lib.hid h5
  clear h1 h2 h5 hn hl
  obtain ⟨bp, be, bh, bt, xs⟩ := b
  simp only [sglC] at H1 H2 H5
  have es : (E == E) = true := by simp
  go_enter Tryz.func4, Tryz.ntmps4
  go_wp2_with fail
  refine (worksS_any _).mono ?_
  rintro e w1 ⟨rfl, hg⟩
  have HG := Lib.hid hg
  clear hg
  go_wp2_with fail
  refine (H1.out _).mono ?_
  rintro e w2 ⟨A, c, rfl, hr, hg⟩
  have HS := Lib.hid (SglSt.new W (b := ⟨bp, be, bh, bt, xs⟩) (c := c) (grown_self HG.out hg (by simp)) hr (Nat.le_refl _))
  simp only [sglC] at HS
  clear hg hr HG H1
  go_upto_region 7 with (fail)
  obtain ⟨g, hg⟩ : ∃ g, w2.heap.size = g := ⟨_, rfl⟩
  rw [hg] at HS ⊢
  clear hg
  generalize w2.alloc (.cells #[.string bp, .int .u64 (be : Int), .string bh, .int .u64 (bt : Int), .slice A n c] 25) = w3 at *
  go_wp2_with fail
  refine (H2.out _).mono ?_
  rintro e w4 ⟨A', c', rfl, hr, hg⟩
  have HT := Lib.hid (SglSt.new W (b := ⟨bp, be, bh, bt, xs⟩) (c := c') (grown_self HS.out.grown hg (by simp)) hr (Nat.le_refl _))
  replace HS := Lib.hid (HS.out.step (only_alloc hg (.cells #[.string bp, .int .u64 (be : Int), .string bh, .int .u64 (bt : Int), .slice A' n c'] 25)))
  simp only [sglC] at HT HS
  clear hg hr H2
  go_upto_region 8 with (fail)
  obtain ⟨g', hg⟩ : ∃ g, w4.heap.size = g := ⟨_, rfl⟩
  rw [hg] at HT ⊢
  clear hg
  generalize w4.alloc (.cells #[.string bp, .int .u64 (be : Int), .string bh, .int .u64 (bt : Int), .slice A' n c'] 25) = w5 at *
  obtain ⟨c0, c1, c2, c3, c4⟩ := HS.out.cells
  obtain ⟨d0, d1, d2, d3, d4⟩ := HT.out.cells
  go_wp2_with fail
  refine (H5.out _ _ _ _ _ _ _ HS.out.reads HS.out.base HT.out.reads HT.out.base).mono ?_
  rintro e w6 ⟨rfl, hg⟩
  replace HS := Lib.hid (HS.out.step hg)
  clear hg c0 c1 c2 c3 c4 d0 d1 d2 d3 d4
  go_wp2_with fail
  go_ret
  exact ⟨by simp, below_of_grown HS.out.grown⟩
end Go.Proofs.YtagjpbcmhaekpaaGreatDoor
