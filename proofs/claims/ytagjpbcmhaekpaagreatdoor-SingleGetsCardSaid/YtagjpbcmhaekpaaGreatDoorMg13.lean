/- Merged: SngJ, SngK, SngL, SngM, SngO, SngR, FldR. -/
import Derived.Test.YtagjpbcmhaekpaaGreatDoorMg12
/- Batches of one block: Get, where a row of five is read. -/
namespace Go.Proofs.YtagjpbcmhaekpaaGreatDoor
open Go.RowKit Go.Shelf
set_option linter.unusedVariables false
set_option linter.unusedSimpArgs false

theorem own_slice3S {w : World} {base : Nat} {e : TypeId} {size : Nat} {v : Value} {n : Nat} {xs : List Value} (h : w.ownsRow base e size v n xs) : ∃ A c, v = .slice A n c := by
  rcases h.2 with ⟨rfl, h0⟩ | ⟨g, cap, cur, rfl, _⟩
  · exact ⟨none, 0, by rw [h0]⟩
  · exact ⟨_, _, rfl⟩
theorem own_lowerS {w : World} {base base' size n : Nat} {e : TypeId} {v : Value} {xs : List Value} (h : w.ownsRow base e size v n xs) (hb : base' ≤ base) : w.ownsRow base' e size v n xs := by
  refine ⟨h.1, ?_⟩
  rcases h.2 with h1 | ⟨g, cap, cur, hv, hg, rest⟩
  · exact .inl h1
  · exact .inr ⟨g, cap, cur, hv, by omega, rest⟩
theorem tE_both {y : Itm} {a b : Int} (h : tE y a b = 0) : y.list = false ∧ textE y.bytes.size a b = 0 := by
  have h1 := (tE_0 h).1
  refine ⟨h1, ?_⟩
  unfold tE at h
  rw [h1] at h
  exact h
theorem form_len {y : Itm} {d : Nat} (h : formF y d = 0) : y.items.length ≤ 512 := by
  rw [formF_eq] at h
  split at h
  · cases h
  rename_i h5
  split at h
  · rename_i h6
    have : y.items.length = 0 := by
      by_cases h7 : y.items.length = 0
      · exact h7
      · exact absurd (.inr ⟨h6, h7⟩) h5
    omega
  · split at h
    · cases h
    split at h
    · cases h
    omega
theorem form_items {l : List UInt8} {x : Itm} (hd : decodeF l = .ok x) (hxl : x.list = true) : ∀ y ∈ x.items, formF y 1 = 0 := by
  obtain ⟨d1, d2, -⟩ := decode_only hd
  unfold checkI at d1
  split at d1
  · rename_i g1; exact absurd d1 g1
  rename_i g1
  have g1 : formF x 0 = 0 := by simpa using g1
  rw [formF_eq] at g1
  split at g1
  · cases g1
  rw [if_neg (by rw [hxl]; simp), if_neg (by decide)] at g1
  split at g1
  · cases g1
  exact formL_all g1
set_option maxRecDepth 100000 in
set_option maxHeartbeats 2000000 in
theorem getSg_five (s : ByteArray) (hs : s.size ≤ 9223372036854775807) (w : World) (h : s ≠ ⟨#[]⟩) (h1 : s.data.toList.getD 0 0 = 0) (x : Itm) (hd : decodeF (s.data.toList.drop 1) = .ok x) (hxl : x.list = true) (y0 y1 y2 y3 y4 : Itm) (hxi : x.items = [y0, y1, y2, y3, y4]) : Calls Tryz.prog 13 #[.string s] w (SglEnd s.data.toList w) := by
  obtain ⟨g0, q0, q1, q2, q3⟩ := some_str h
  have hE : getSE s.data.toList = fieldsE [y0, y1, y2, y3, y4] := by
    unfold getSE; rw [if_neg q0, if_neg (by rw [h1]; simp), hd]
    show (if (if x.list then textE x.items.length 5 5 else 2) ≠ 0 then _ else fieldsE x.items) = _
    rw [hxi, hxl]; rfl
  have hE0 : getSE s.data.toList = 0 → getSB s.data.toList = fieldsS [y0, y1, y2, y3, y4] := fun h0 => by
    unfold getSB
    rw [if_pos h0, hd]
    show fieldsS x.items = _
    rw [hxi]
  rw [fieldsE_five] at hE
  have hok := decode_okF hd
  have hk1 : y1.bytes.size ≤ 9223372036854775807 := by have := (hok.get 1 (by rw [hxi]; simp)).bytes; rw [hxi] at this; exact this
  have hk3 : y3.bytes.size ≤ 9223372036854775807 := by have := (hok.get 3 (by rw [hxi]; simp)).bytes; rw [hxi] at this; exact this
  have hl4 : y4.items.length ≤ 512 := form_len (form_items hd hxl y4 (by rw [hxi]; simp))
  have hB := Blk.new w 25 sglZ
  have hG := only_alloc (World.grownBy.refl w none) (.cells sglZ 25)
  have g1 : ((((s[0]'g0).toNat : Int)) != 0) = false := by
    rw [← q3, h1]; rfl
  have hz : (s.extract 1 s.size).size ≤ 9223372036854775807 := by simp; omega
  have hdec := fun V => decode_any (s.extract 1 s.size) V hz
  rw [drop1] at hdec
  have HD := Lib.hid hdec; have HDE := Lib.hid hd
  have HG := Lib.hid hG; have HB := Lib.hid hB; have HE := Lib.hid hE; have HE0 := Lib.hid hE0
  have HK1 := Lib.hid hk1; have HK3 := Lib.hid hk3; have HL4 := Lib.hid hl4; have HXL := Lib.hid hxl; have HXI := Lib.hid hxi
  have g3 : (1 : Int) ≤ (s.size : Int) := by omega
  clear hG hB hE hE0 h h1 q0 q3 hdec hd hz hok hk1 hk3 hl4 hxl hxi
  go_enter Tryz.func13, Tryz.ntmps13
  go_upto_region 1 with (fail)
  obtain ⟨b, hb⟩ : ∃ b, w.heap.size = b := ⟨_, rfl⟩
  rw [hb] at HB ⊢
  generalize w.alloc (.cells #[.string ⟨#[]⟩, .int .u64 0, .string ⟨#[]⟩, .int .u64 0, .slice none 0 0] 25) = w1 at *
  go_wp2_with fail
  refine (HD.out _).mono ?_
  rintro e w2 ⟨lst, bb, sA, sn, sc, E', rfl, hg2, htail⟩
  obtain ⟨rfl, rfl, rfl, hsub⟩ := dec_ok htail HDE.out
  rw [HXI.out] at hsub
  obtain ⟨hn, vs, hsb, hrw⟩ := hsub.here.row
  replace hn : sn = 5 := hn
  have HN := Lib.hid hn
  have ht5 : textE sn 5 5 = 0 := by rw [hn]; rfl
  have hlist : ∀ V : World, Calls Tryz.prog 32 #[.agg #[.bool true, .string x.bytes, .slice sA sn sc], .int .i64 5, .int .i64 5] V fun e w' => e = .returned (.tuple #[.slice sA sn sc, .int .i64 0]) ∧ V.grownBy w' none := fun V => by
    have h := getList_any true x.bytes sA sn sc 5 5 V
    rw [show (if true = true ∧ textE sn 5 5 = 0 then Value.slice sA sn sc else .slice none 0 0) = .slice sA sn sc from if_pos ⟨rfl, ht5⟩, show (if true = true then textE sn 5 5 else 2) = 0 from ht5] at h
    exact h
  rw [HXL.out]
  have HLI := Lib.hid hlist
  generalize x.bytes = bb at *
  have hB2 := HB.out.grown hg2 (by simp)
  have hlt := hB2.lt
  have hgW := only_alloc (only_alloc (World.grownBy.refl w2 none) (.cells #[.bool true, .string bb, .slice sA sn sc] 40)) (.cells #[.int .i64 0] 28)
  have HGW := Lib.hid hgW
  have HG2 := Lib.hid (grown_self HG.out hg2 (by simp))
  have HB2 := Lib.hid hB2
  have hx := Boxed.new (w2.alloc (.cells #[.bool true, .string bb, .slice sA sn sc] 40)) 28 (.int .i64 0)
  have hi := (Blk.new w2 40 #[.bool true, .string bb, .slice sA sn sc]).alloc (.cells #[.int .i64 0] 28)
  have HSB := Lib.hid hsb; have HRW := Lib.hid hrw; have HLT := Lib.hid hlt; have HBB := Lib.hid hb
  clear htail hsub hg2 hB2 HDE HD HG HB g1 g3 hlist hn ht5 hsb hrw hlt hb hgW
  go_upto_region 6 with (fail)
  rw [World.size_alloc] at hx
  obtain ⟨g, hg⟩ : ∃ g, w2.heap.size = g := ⟨_, rfl⟩
  have HGG := Lib.hid hg
  rw [hg] at hx hi ⊢
  clear hg
  generalize (w2.alloc (.cells #[.bool true, .string bb, .slice sA sn sc] 40)).alloc (.cells #[.int .i64 0] 28) = w3 at *
  have cx := hx.cell
  have i0 := hi.cell 0; have i1 := hi.cell 1; have i2 := hi.cell 2
  simp only [List.getElem?_toArray, List.getElem?_cons_zero, List.getElem?_cons_succ] at i0 i1 i2
  go_wp2_with fail
  refine (HLI.out _).mono ?_
  rintro e w4 ⟨rfl, hg4⟩
  have hx4 := hx.kept hg4 (by simp)
  have HX4 := Lib.hid hx4
  have HGV := Lib.hid (grown_self HGW.out hg4 (by simp))
  have HX3 := Lib.hid hx.lt
  have HG4 := Lib.hid hg4.size
  have y0c := (hx4.alloc (.cells #[.slice sA sn sc] 38)).cell
  have y1c := (hx4.alloc (.cells #[.slice sA sn sc] 38)).frozen
  have y0d := hx4.cell
  have y1d := hx4.frozen
  clear hx cx i0 i1 i2 hi HLI hg4 hx4 HGW
  go_upto_region 9 with (fail)
  obtain ⟨g4, hg4⟩ : ∃ g, w4.heap.size = g := ⟨_, rfl⟩
  have HG4E := Lib.hid hg4
  rw [hg4]
  clear hg4 y0c y1c y0d y1d
  have hgs := HGG.out; have h4s := HG4E.out; have hx3 := HX3.out; have hg4s := HG4.out; have hvs := HGV.out.size
  have hgg4 : g + 1 < g4 := by omega
  have h5 : w2.grownBy ((w4.alloc (.cells #[.slice sA sn sc] 38)).setCell ⟨g + 1, 0, none⟩ (.int .i64 0)) none := only_set (only_alloc HGV.out _) (p := ⟨g + 1, 0, none⟩) (by show w2.heap.size ≤ g + 1; omega) _
  have hl5 := (Boxed.new w4 38 (.slice sA sn sc)).other (by omega : w4.heap.size ≠ g + 1) (.int .i64 0)
  have he5 := (HX4.out.alloc (.cells #[.slice sA sn sc] 38)).set (.int .i64 0)
  have hz5 : ((w4.alloc (.cells #[.slice sA sn sc] 38)).setCell ⟨g + 1, 0, none⟩ (.int .i64 0)).heap.size = g4 + 1 := by simp [World.setCell]; omega
  rw [h4s] at hl5
  generalize (w4.alloc (.cells #[.slice sA sn sc] 38)).setCell ⟨g + 1, 0, none⟩ (.int .i64 0) = w5 at *
  have h6 := only_alloc h5 (.cells #[.func (.func 33) #[] #[.pointer (some ⟨g + 1, 0, none⟩)]] 57)
  have hl6 := hl5.alloc (.cells #[.func (.func 33) #[] #[.pointer (some ⟨g + 1, 0, none⟩)]] 57)
  have he6 := he5.alloc (.cells #[.func (.func 33) #[] #[.pointer (some ⟨g + 1, 0, none⟩)]] 57)
  have hk6 := Boxed.new w5 57 (.func (.func 33) #[] #[.pointer (some ⟨g + 1, 0, none⟩)])
  have hz6 : (w5.alloc (.cells #[.func (.func 33) #[] #[.pointer (some ⟨g + 1, 0, none⟩)]] 57)).heap.size = g4 + 2 := by simp; omega
  rw [hz5] at hk6
  obtain rfl : sn = 5 := HN.out
  obtain ⟨q, off, rfl, hqg, hrw⟩ := HRW.out (by simp)
  have hlt := HLT.out
  have hF : FldS w b g g4 q off sc [y0, y1, y2, y3, y4] vs (w5.alloc (.cells #[.func (.func 33) #[] #[.pointer (some ⟨g + 1, 0, none⟩)]] 57)) := by
    refine ⟨HB2.out.grown h6 (by simp), hl6, hk6, fun i hi => ?_, fun i hi => ((HSB.out i hi).grown h6).weak fun k hk => by omega, grown_self HG2.out h6 (by simp), by have := HBB.out; omega, by omega, hgg4, by omega, by omega⟩
    obtain ⟨r0, r1, r2⟩ := hrw i hi
    exact ⟨h6.cell r0 (by simp), h6.cell r1 (by simp), h6.cell r2 (by simp)⟩
  have HF := Lib.hid hF; have HE6 := Lib.hid he6
  have ce := he5.cell
  have HZ5 := Lib.hid hz5
  clear hgs h4s hx3 hg4s hvs hgg4 h5 hl5 he5 hz5 h6 hl6 he6 hk6 hz6 hqg hrw hlt hF HGG HG4E HX3 HG4 HGV HX4 HRW HN HSB HB2 HG2 HLT HBB
  go_upto_region 12 with (fail)
  rw [HZ5.out]
  generalize w5.alloc (.cells #[.func (.func 33) #[] #[.pointer (some ⟨g + 1, 0, none⟩)]] 57) = w6 at *
  clear ce HZ5
  obtain ⟨S0, hS0⟩ : ∃ S, (if y0.list = false ∧ textE y0.bytes.size 32 32 = 0 then y0.bytes else ⟨#[]⟩) = S := ⟨_, rfl⟩
  obtain ⟨S2, hS2⟩ : ∃ S, (if y2.list = false ∧ textE y2.bytes.size 32 32 = 0 then y2.bytes else ⟨#[]⟩) = S := ⟨_, rfl⟩
  obtain ⟨N1, hN1⟩ : ∃ N, numV y1.list y1.bytes = N := ⟨_, rfl⟩
  obtain ⟨N3, hN3⟩ : ∃ N, numV y3.list y3.bytes = N := ⟨_, rfl⟩
  obtain ⟨E1, hE1⟩ : ∃ E, firstE 0 (tE y0 32 32) = E := ⟨_, rfl⟩
  obtain ⟨E2, hE2⟩ : ∃ E, firstE E1 (numE y1.list y1.bytes) = E := ⟨_, rfl⟩
  obtain ⟨E3, hE3⟩ : ∃ E, firstE E2 (tE y2 32 32) = E := ⟨_, rfl⟩
  obtain ⟨E4, hE4⟩ : ∃ E, firstE E3 (numE y3.list y3.bytes) = E := ⟨_, rfl⟩
  obtain ⟨G, hG⟩ : ∃ E, gtE y4.list y4.items.length 32 1 4096 y4.items = E := ⟨_, rfl⟩
  obtain ⟨E5, hE5⟩ : ∃ E, firstE E4 G = E := ⟨_, rfl⟩
  have HE := Lib.hid (HE.out.trans (by rw [hE1, hE2, hE3, hE4, hG, hE5]))
  have HT0 : Hid (∀ V, FldS w b g g4 q off sc [y0, y1, y2, y3, y4] vs V → Boxed V (g + 1) 28 (.int .i64 0) → Calls Tryz.prog 34 #[.int .i64 0, .pointer (some ⟨g4, 0, none⟩), .pointer (some ⟨g4 + 1, 0, none⟩)] V fun e w' => e = .returned (.string S0) ∧ Boxed w' (g + 1) 28 (.int .i64 E1) ∧ V.grownBy w' (some (g + 1))) := Lib.hid fun V h hE => by
    have := h.text hE (i := 0) (y := y0) (by decide) rfl
    rw [hS0, hE1] at this; exact this
  have HT1 : Hid (∀ V, FldS w b g g4 q off sc [y0, y1, y2, y3, y4] vs V → Boxed V (g + 1) 28 (.int .i64 E1) → Calls Tryz.prog 36 #[.int .i64 1, .pointer (some ⟨g4, 0, none⟩), .pointer (some ⟨g4 + 1, 0, none⟩)] V fun e w' => e = .returned (.int .u64 (N1 : Nat)) ∧ Boxed w' (g + 1) 28 (.int .i64 E2) ∧ V.grownBy w' (some (g + 1))) := Lib.hid fun V h hE => by
    have := h.number hE (i := 1) (y := y1) (by decide) rfl HK1.out
    rw [hN1, hE2] at this; exact this
  have HT2 : Hid (∀ V, FldS w b g g4 q off sc [y0, y1, y2, y3, y4] vs V → Boxed V (g + 1) 28 (.int .i64 E2) → Calls Tryz.prog 34 #[.int .i64 2, .pointer (some ⟨g4, 0, none⟩), .pointer (some ⟨g4 + 1, 0, none⟩)] V fun e w' => e = .returned (.string S2) ∧ Boxed w' (g + 1) 28 (.int .i64 E3) ∧ V.grownBy w' (some (g + 1))) := Lib.hid fun V h hE => by
    have := h.text hE (i := 2) (y := y2) (by decide) rfl
    rw [hS2, hE3] at this; exact this
  have HT3 : Hid (∀ V, FldS w b g g4 q off sc [y0, y1, y2, y3, y4] vs V → Boxed V (g + 1) 28 (.int .i64 E3) → Calls Tryz.prog 36 #[.int .i64 3, .pointer (some ⟨g4, 0, none⟩), .pointer (some ⟨g4 + 1, 0, none⟩)] V fun e w' => e = .returned (.int .u64 (N3 : Nat)) ∧ Boxed w' (g + 1) 28 (.int .i64 E4) ∧ V.grownBy w' (some (g + 1))) := Lib.hid fun V h hE => by
    have := h.number hE (i := 3) (y := y3) (by decide) rfl HK3.out
    rw [hN3, hE4] at this; exact this
  have HS0 := Lib.hid hS0; have HS2 := Lib.hid hS2; have HN1 := Lib.hid hN1; have HN3 := Lib.hid hN3; have HE1 := Lib.hid hE1; have HE2 := Lib.hid hE2; have HE3 := Lib.hid hE3; have HE4 := Lib.hid hE4; have HGT := Lib.hid hG; have HE5 := Lib.hid hE5
  clear hS0 hS2 hN1 hN3 hE1 hE2 hE3 hE4 hG hE5
  go_wp2_with fail
  refine (HT0.out _ HF.out HE6.out).mono ?_
  rintro e w7 ⟨rfl, he7, hg7⟩
  have HF7 := Lib.hid (HF.out.step hg7 (fun k hk => by injection hk with hk; exact .inl hk.symm))
  have HE7 := Lib.hid he7
  clear HF HE6 he7 hg7 HT0
  go_wp2_with fail
  refine (HT1.out _ HF7.out HE7.out).mono ?_
  rintro e w8 ⟨rfl, he8, hg8⟩
  have hF8 := HF7.out.step hg8 (fun k hk => by injection hk with hk; exact .inl hk.symm)
  have HF9 := Lib.hid (hF8.step (only_alloc (World.grownBy.refl w8 none) (.cells #[.string S0, .int .u64 (N1 : Int), .string ⟨#[]⟩, .int .u64 0, .slice none 0 0] 25)) (fun k hk => by cases hk))
  have HE9 := Lib.hid (he8.alloc (.cells #[.string S0, .int .u64 (N1 : Int), .string ⟨#[]⟩, .int .u64 0, .slice none 0 0] 25))
  have HB9 := Lib.hid (Blk.new w8 25 #[.string S0, .int .u64 (N1 : Int), .string ⟨#[]⟩, .int .u64 0, .slice none 0 0])
  have HTOP := Lib.hid hF8.top
  clear HF7 HE7 he8 hg8 HT1 hF8
  go_upto_region 15 with (fail)
  obtain ⟨g5, hg5⟩ : ∃ g, w8.heap.size = g := ⟨_, rfl⟩
  rw [hg5] at HB9 HTOP ⊢
  clear hg5
  generalize w8.alloc (.cells #[.string S0, .int .u64 (N1 : Int), .string ⟨#[]⟩, .int .u64 0, .slice none 0 0] 25) = w9 at *
  go_wp2_with fail
  refine (HT2.out _ HF9.out HE9.out).mono ?_
  rintro e w10 ⟨rfl, he10, hg10⟩
  have HF10 := Lib.hid (HF9.out.step hg10 (fun k hk => by injection hk with hk; exact .inl hk.symm))
  have HE10 := Lib.hid he10
  have HNE := Lib.hid (show g + 1 ≠ g5 by have := HTOP.out; have := HF9.out.hg4; omega)
  have HB10 := Lib.hid (HB9.out.grown hg10 (fun e => HNE.out (by injection e with e; exact e.symm)))
  clear HF9 HE9 HB9 he10 hg10 HT2
  go_wp2_with fail
  refine (HT3.out _ HF10.out HE10.out).mono ?_
  rintro e w11 ⟨rfl, he11, hg11⟩
  have hF11 := HF10.out.step hg11 (fun k hk => by injection hk with hk; exact .inl hk.symm)
  have hB11 := HB10.out.grown hg11 (fun e => HNE.out (by injection e with e; exact e.symm))
  have c2 := hB11.cell 2; have c3 := hB11.cell 3
  have f2 := hB11.frozen 2; have f3 := hB11.frozen 3
  simp only [List.getElem?_toArray, List.getElem?_cons_zero, List.getElem?_cons_succ] at c2 c3
  have HB12 := Lib.hid ((hB11.set_ 2 (.string S2)).set_ 3 (.int .u64 (N3 : Int)))
  have hgs := only_setCell (only_setCell (World.grownBy.refl w11 (some g5)) (p := ⟨g5, 2, none⟩) (.inl rfl) (.string S2)) (p := ⟨g5, 3, none⟩) (.inl rfl) (.int .u64 (N3 : Int))
  have HF12 := Lib.hid (hF11.step hgs (fun k hk => by injection hk with hk; have := HTOP.out; exact .inr (by omega)))
  have HE12 := Lib.hid (he11.kept hgs (fun e => HNE.out (by injection e)))
  clear hgs HF10 HE10 HB10 he11 hg11 HT3 hF11 hB11
  go_upto_region 16 with (fail)
  generalize (w11.setCell ⟨g5, 2, none⟩ (.string S2)).setCell ⟨g5, 3, none⟩ (.int .u64 (N3 : Int)) = w12 at *
  obtain ⟨A4, c4, hv4⟩ := subV_slice (HF12.out.sub 4 (by decide))
  have hv4 : vs.getD 4 undef = .slice A4 y4.items.length c4 := hv4
  obtain ⟨r0, r1, r2⟩ := HF12.out.row 4 (by decide)
  have hsub4 := (HF12.out.sub 4 (by decide)).weak (S' := fun k => k < w12.heap.size) (fun k hk => by have := HF12.out.top; have := HF12.out.hg4; omega)
  rw [hv4] at r2 hsub4
  have hgt := getTexts_any y4.list y4.bytes A4 y4.items.length c4 y4.items 32 1 4096 w12 hsub4 (by have := HL4.out; omega)
  rw [HGT.out] at hgt
  replace r0 : w12.cell? ⟨q, off + 12, none⟩ = some (.bool y4.list) := r0
  replace r1 : w12.cell? ⟨q, off + 12 + 1, none⟩ = some (.string y4.bytes) := r1
  replace r2 : w12.cell? ⟨q, off + 12 + 2, none⟩ = some (.slice A4 y4.items.length c4) := r2
  have cl := HF12.out.lst.cell
  have ck := HF12.out.kp.cell
  obtain ⟨n4, hn4⟩ : ∃ n, y4.items.length = n := ⟨_, rfl⟩
  obtain ⟨l4, hl4⟩ : ∃ n, y4.list = n := ⟨_, rfl⟩
  obtain ⟨b4, hb4⟩ : ∃ n, y4.bytes = n := ⟨_, rfl⟩
  rw [hl4] at r0 hgt
  rw [hb4] at r1 hgt
  rw [hn4] at r2 hgt
  have HGX := Lib.hid hgt
  have HN4 := Lib.hid hn4; have HLL := Lib.hid hl4
  clear hv4 hsub4 hgt hn4 hl4 hb4
  go_wp2_with fail
  refine (HGX.out).mono ?_
  rintro e w13 ⟨v, xs, rfl, hown, hxs, hg13⟩
  obtain ⟨Av, cv, rfl⟩ := own_slice3S hown
  have HX := Lib.hid hxs
  have HOWN := Lib.hid hown
  have hF13 := HF12.out.step hg13 (fun k hk => by cases hk)
  have ck := hF13.kp.cell
  have HF13 := Lib.hid hF13
  have HE13 := Lib.hid (HE12.out.kept hg13 (by simp))
  have HB13 := Lib.hid (HB12.out.grown hg13 (by simp))
  have HTP12 := Lib.hid HF12.out.grow.size
  clear HGX HF12 HE12 HB12 r0 r1 r2 cl hown hg13 hF13 hxs
  go_wp2_with fail
  refine (keep_any (g + 1) E4 G w13 HE13.out).mono ?_
  rintro e w14 ⟨rfl, he14, hg14⟩
  rw [HE5.out] at he14
  have hF14 := HF13.out.step hg14 (fun k hk => by injection hk with hk; exact .inl hk.symm)
  have hB14 : Blk w14 g5 25 #[.string S0, .int .u64 (N1 : Int), .string S2, .int .u64 (N3 : Int), .slice none 0 0] := HB13.out.grown hg14 (fun e => HNE.out (by injection e with e; exact e.symm))
  have hO14 := HOWN.out.kept hg14 (.inr (HE13.out.not_row (by decide) HOWN.out).symm)
  have cx := he14.cell
  have d0 := hF14.res.cell 0; have d1 := hF14.res.cell 1; have d2 := hF14.res.cell 2; have d3 := hF14.res.cell 3; have d4 := hF14.res.cell 4
  have m0 := hF14.res.frozen 0; have m1 := hF14.res.frozen 1; have m2 := hF14.res.frozen 2; have m3 := hF14.res.frozen 3; have m4 := hF14.res.frozen 4
  simp only [List.getElem?_toArray, List.getElem?_cons_zero, List.getElem?_cons_succ] at d0 d1 d2 d3 d4
  have hbg := hF14.hbg; have hbw := hF14.hb; have hgg4 := hF14.hg4; have htp := HTOP.out
  have n1 : g + 1 ≠ b := by omega
  have n2 : b ≠ g + 1 := by omega
  have n3 : b ≠ g5 := by omega
  have n4' : g5 ≠ b := by omega
  have hbz : w.heap.size ≤ w12.heap.size := HTP12.out
  have hG5 := Lib.hid (show w.heap.size ≤ g5 by omega)
  clear HF13 HE13 HB13 HOWN he14 hg14 ck
  by_cases h0 : E5 = 0
  rotate_left
  · have T2 := Lib.hid (blk_set5 hF14.res (.string ⟨#[]⟩) (.int .u64 0) (.string ⟨#[]⟩) (.int .u64 0) (.slice none 0 0))
    have T4 := Lib.hid (only_set5 hF14.grow hbw (.string ⟨#[]⟩) (.int .u64 0) (.string ⟨#[]⟩) (.int .u64 0) (.slice none 0 0))
    have e1 : (E5 != 0) = true := by simpa using h0
    have HNE0 := Lib.hid h0
    clear h0 hF14 hB14 hO14 hbg hbw hgg4 htp n3 n4' hbz
    go_wp2_with fail
    go_region
    all_goals go_wp2_with fail
    all_goals
      refine bodyPost_ret (results_ct (fn := Tryz.f13) rfl _ _ _ _ rfl (load_sgl (Blk.drew T2.out))) rfl ?_
      exact SglEnd.bad HE.out HNE0.out ⟨T4.out.os, T4.out.tape, T4.out.output, T4.out.size, T4.out.block⟩
  · subst h0
    have hG5' := hG5.out
    have hown_ne := own_blk_ne hO14 hB14 (by decide)
    have hB15 := hB14.set_ 4 (.slice Av xs.length cv)
    have hR15 := hF14.res.far (p := ⟨g5, 4, none⟩) n3 (.slice Av xs.length cv)
    have hgr : w14.grownBy (w14.setCell ⟨g5, 4, none⟩ (.slice Av xs.length cv)) (some g5) := only_setCell (World.grownBy.refl w14 (some g5)) (p := ⟨g5, 4, none⟩) (.inl rfl) _
    have hO15 := hO14.kept hgr (.inr hown_ne)
    have hgw15 : w.grownBy (w14.setCell ⟨g5, 4, none⟩ (.slice Av xs.length cv)) none := only_set hF14.grow (p := ⟨g5, 4, none⟩) hG5' _
    have k4 := hB14.cell 4
    have l4' := hB14.frozen 4
    simp only [List.getElem?_toArray, List.getElem?_cons_zero, List.getElem?_cons_succ] at k4
    have HO15 := Lib.hid hO15; have HGW15 := Lib.hid hgw15; have HB15 := Lib.hid hB15; have HR15 := Lib.hid hR15; have HBW := Lib.hid hbw; have HBZ := Lib.hid hbz
    clear hF14 hB14 hO14 hbg hbw hgg4 htp hbz hB15 hR15 hgr hO15 hgw15 hG5' hown_ne
    go_upto_region 21 with (fail)
    clear k4 l4' d0 d1 d2 d3 d4 m0 m1 m2 m3 m4 cx
    generalize w14.setCell ⟨g5, 4, none⟩ (.slice Av xs.length cv) = w15 at *
    have hB15 : Blk w15 g5 25 #[.string S0, .int .u64 (N1 : Int), .string S2, .int .u64 (N3 : Int), .slice Av xs.length cv] := HB15.out
    have k0 := hB15.cell 0; have k1 := hB15.cell 1; have k2 := hB15.cell 2; have k3 := hB15.cell 3; have k4 := hB15.cell 4
    have d0 := HR15.out.cell 0; have d1 := HR15.out.cell 1; have d2 := HR15.out.cell 2; have d3 := HR15.out.cell 3; have d4 := HR15.out.cell 4
    have m0 := HR15.out.frozen 0; have m1 := HR15.out.frozen 1; have m2 := HR15.out.frozen 2; have m3 := HR15.out.frozen 3; have m4 := HR15.out.frozen 4
    simp only [List.getElem?_toArray, List.getElem?_cons_zero, List.getElem?_cons_succ] at k0 k1 k2 k3 k4 d0 d1 d2 d3 d4
    have T2 := Lib.hid (blk_set5 HR15.out (.string S0) (.int .u64 (N1 : Int)) (.string S2) (.int .u64 (N3 : Int)) (.slice Av xs.length cv))
    have T4 := Lib.hid (only_set5 HGW15.out HBW.out (.string S0) (.int .u64 (N1 : Int)) (.string S2) (.int .u64 (N3 : Int)) (.slice Av xs.length cv))
    have hgb := only_setCell (only_setCell (only_setCell (only_setCell (only_setCell (World.grownBy.refl w15 (some b)) (p := ⟨b, 0, none⟩) (.inl rfl) (.string S0)) (p := ⟨b, 1, none⟩) (.inl rfl) (.int .u64 (N1 : Int))) (p := ⟨b, 2, none⟩) (.inl rfl) (.string S2)) (p := ⟨b, 3, none⟩) (.inl rfl) (.int .u64 (N3 : Int))) (p := ⟨b, 4, none⟩) (.inl rfl) (.slice Av xs.length cv)
    have HO16 := Lib.hid (own_lowerS (HO15.out.kept hgb (.inr (own_blk_ne HO15.out HR15.out (by decide)))) HBZ.out)
    clear hB15 hgb
    go_wp2_with fail
    refine bodyPost_ret (results_ct (fn := Tryz.f13) rfl _ _ _ _ rfl (load_sgl T2.out)) rfl ?_
    have hE := HE.out
    have hB := HE0.out hE
    obtain ⟨e4, eG⟩ := firstE_0 HE5.out
    rw [e4] at HE4
    obtain ⟨e3, f3⟩ := firstE_0 HE4.out
    rw [e3] at HE3
    obtain ⟨e2, f2⟩ := firstE_0 HE3.out
    rw [e2] at HE2
    obtain ⟨e1, f1⟩ := firstE_0 HE2.out
    rw [e1] at HE1
    obtain ⟨_, f0⟩ := firstE_0 HE1.out
    have hs0 : S0 = y0.bytes := by rw [← HS0.out]; exact if_pos (tE_both f0)
    have hs2 : S2 = y2.bytes := by rw [← HS2.out]; exact if_pos (tE_both f2)
    have hx : xs = y4.items := by rw [HX.out, eG]; rfl
    subst hs0; subst hs2
    have hn1 := HN1.out; have hn3 := HN3.out
    subst hn1; subst hn3
    refine ⟨.slice Av xs.length cv, ?_, ?_, T4.out⟩
    · rw [hE, hB]; rfl
    · rw [hB]
      have h := HO16.out
      rw [hx] at h ⊢
      show World.ownsRow _ _ _ _ _ (y4.items.map Itm.bytes).length ((y4.items.map Itm.bytes).map Value.string)
      rw [List.length_map, List.map_map]
      exact h
end Go.Proofs.YtagjpbcmhaekpaaGreatDoor
/- Batches of one block: Get. -/
namespace Go.Proofs.YtagjpbcmhaekpaaGreatDoor
open Go.RowKit Go.Shelf
set_option linter.unusedVariables false
set_option linter.unusedSimpArgs false

/-- WHAT Get ANSWERS -/
theorem getSg_any (s : ByteArray) (hs : s.size ≤ 9223372036854775807) (w : World) : Calls Tryz.prog 13 #[.string s] w (SglEnd s.data.toList w) := by
  by_cases h : s = ⟨#[]⟩
  · subst h; exact getSg_none w
  by_cases h1 : s.data.toList.getD 0 0 = 0
  · cases hd : decodeF (s.data.toList.drop 1) with
    | error E => exact getSg_dec s hs w h h1 E hd
    | ok x =>
      by_cases hL : (if x.list then textE x.items.length 5 5 else 2) = 0
      · have hxl : x.list = true := by
          cases hh : x.list with
          | true => rfl
          | false => rw [hh] at hL; cases hL
        rw [hxl] at hL
        have hL : textE x.items.length 5 5 = 0 := hL
        have h5 : x.items.length = 5 := by
          unfold textE at hL
          split at hL
          · cases hL
          split at hL
          · cases hL
          omega
        match hx : x.items, h5 with
        | [a, b, c, d, e], _ => exact getSg_five s hs w h h1 x hd hxl a b c d e hx
      · exact getSg_list s hs w h h1 x hd hL
  · exact getSg_mark s w h h1
end Go.Proofs.YtagjpbcmhaekpaaGreatDoor
/- Batches of one block: the law's fixed facts, plain. -/
namespace Go.Proofs.YtagjpbcmhaekpaaGreatDoor
open Go.RowKit Go.Shelf
set_option linter.unusedVariables false
set_option linter.unusedSimpArgs false

def z32 : ByteArray := ⟨(List.replicate 32 (0 : UInt8)).toArray⟩
def wB1 : Sgl := ⟨z32, 0, z32, 0, []⟩
def wB2 : Sgl := ⟨z32, 5, z32, 300, [⟨#[97]⟩, ⟨#[98, 99]⟩]⟩
set_option maxRecDepth 100000 in
theorem wB_1 : putSE wB1 = 0 ∧ (putSL wB1).length = 72 := ⟨by decide +kernel, by decide +kernel⟩
set_option maxRecDepth 100000 in
theorem wB_2 : putSE wB2 = 0 := by decide +kernel
theorem wB_3 : putSE Sgl.zero = 2 := by decide +kernel
theorem wB_4 : checkS wB1 = 0 := by decide +kernel
theorem wB_5 : getSE [] = 3 ∧ getSE [1] = 9 := ⟨rfl, rfl⟩
theorem wB_6 : sameB wB1 wB2 = false := by decide +kernel
theorem sameB_self (b : Sgl) : sameB b b = true := by simp [sameB, restB]
end Go.Proofs.YtagjpbcmhaekpaaGreatDoor
/- Batches of one block: the law's fixed facts, walked (works). -/
namespace Go.Proofs.YtagjpbcmhaekpaaGreatDoor
open Go.RowKit Go.Shelf
set_option linter.unusedVariables false
set_option linter.unusedSimpArgs false

theorem SglEnd.reads {l : List UInt8} {w w' : World} {e : Ending} (h : SglEnd l w e w') : ∃ A c, e = .returned (.tuple #[.agg (sglC (getSB l) (.slice A (getSB l).txs.length c)), .int .i64 (getSE l)]) ∧ Reads w' w'.heap.size 1 A (getSB l).txs.length ((getSB l).txs.map Value.string) ∧ w.grownBy w' none := by
  obtain ⟨v, he, ho, hg⟩ := h
  obtain ⟨A, c, rfl⟩ := own_slice3S ho
  exact ⟨A, c, he, Reads.of_own ho, hg⟩
theorem getSg_put (b : Sgl) (hk : b.Ok) (hp : putSE b = 0) (hl : (putSL b).length ≤ 9223372036854775807) (w : World) : Calls Tryz.prog 13 #[.string ⟨(putSL b).toArray⟩] w fun e w' => ∃ A c, e = .returned (.tuple #[.agg (sglC b (.slice A b.txs.length c)), .int .i64 0]) ∧ Reads w' w'.heap.size 1 A b.txs.length (b.txs.map Value.string) ∧ w.grownBy w' none := by
  have h := getSg_any ⟨(putSL b).toArray⟩ (by rw [ba_sz]; exact hl) w
  refine h.mono ?_
  rintro e w' he
  obtain ⟨A, c, h1, h2, h3⟩ := he.reads
  obtain ⟨k1, k2⟩ := getS_back hk hp
  rw [ba_list9, k1, k2] at h1
  rw [ba_list9, k2] at h2
  exact ⟨A, c, h1, h2, h3⟩
theorem getSg_err (s : ByteArray) (hs : s.size ≤ 9223372036854775807) {E : Int} (h : getSE s.data.toList = E) (h0 : E ≠ 0) (w : World) : Calls Tryz.prog 13 #[.string s] w fun e w' => ∃ A c, e = .returned (.tuple #[.agg #[.string ⟨#[]⟩, .int .u64 0, .string ⟨#[]⟩, .int .u64 0, .slice A 0 c], .int .i64 E]) ∧ w.grownBy w' none := by
  refine (getSg_any s hs w).mono ?_
  rintro e w' he
  obtain ⟨A, c, h1, h2, h3⟩ := he.reads
  have hb : getSB s.data.toList = Sgl.zero := getS_bad (by rw [h]; exact h0)
  rw [hb, h] at h1
  exact ⟨A, c, h1, h3⟩
set_option maxRecDepth 100000 in
set_option maxHeartbeats 2000000 in
theorem worksS_any (w : World) : Calls Tryz.prog 5 #[] w fun e w' => e = .returned (.bool true) ∧ w.grownBy w' none := by
  obtain ⟨L1, hL1⟩ : ∃ L : ByteArray, ⟨(putSL wB1).toArray⟩ = L := ⟨_, rfl⟩
  obtain ⟨L2, hL2⟩ : ∃ L : ByteArray, ⟨(putSL wB2).toArray⟩ = L := ⟨_, rfl⟩
  obtain ⟨z, hz⟩ : ∃ z, z32 = z := ⟨_, rfl⟩
  have hls : ((L1.size : Int) == 72) = true := by rw [← hL1, ba_sz, wB_1.2]; rfl
  have hp1 := fun V => putSg_any wB1 ⟨by decide, by decide⟩ 0 none 0 0 V Reads.none_ (Nat.zero_le _) (by decide)
  have hp2 := fun V B A c hR hB => putSg_any wB2 ⟨by decide, by decide⟩ B A 2 c V hR hB (by decide)
  have hp3 := fun V => putSg_any Sgl.zero ⟨by decide, by decide⟩ 0 none 0 0 V Reads.none_ (Nat.zero_le _) (by decide)
  have hg1 := fun V => getSg_put wB1 ⟨by decide, by decide⟩ wB_1.1 (by rw [wB_1.2]; decide) V
  have hg2 := fun V => getSg_put wB2 ⟨by decide, by decide⟩ wB_2 (by decide +kernel) V
  have hg3 := fun V => getSg_err ⟨#[]⟩ (by decide) (E := 3) rfl (by decide) V
  have hg4 := fun V => getSg_err ⟨#[1]⟩ (by decide) (E := 9) rfl (by decide) V
  have hck := fun V => checkSg_any wB1 0 none 0 0 V Reads.none_ (Nat.zero_le _) (by decide)
  rw [wB_1.1, hL1] at hp1
  rw [wB_2, hL2] at hp2
  rw [wB_3, show putSL Sgl.zero = [] from by decide +kernel] at hp3
  rw [hL1] at hg1
  rw [hL2] at hg2
  rw [wB_4] at hck
  have hs1 := fun V A c => sameSg_any wB1 wB1 0 0 none A 0 0 0 c V Reads.none_ Reads.none_ (Nat.zero_le _) (Nat.zero_le _) (by decide) (by decide)
  have hs2 := fun V B B' A A' c d h h' hB hB' => sameSg_any wB2 wB2 B B' A A' 2 2 c d V h h' hB hB' (by decide) (by decide)
  have hs3 := fun V B' A' d h' hB' => sameSg_any wB1 wB2 0 B' none A' 0 2 0 d V Reads.none_ h' (Nat.zero_le _) hB' (by decide) (by decide)
  rw [sameB_self] at hs1 hs2
  rw [wB_6] at hs3
  simp only [wB1, wB2, Sgl.zero, sglC, hz, List.length_nil, List.length_cons, Nat.reduceAdd, List.map_cons, List.map_nil] at hp1 hp2 hp3 hg1 hg2 hck hs1 hs2 hs3
  have HP1 := Lib.hid hp1; have HP2 := Lib.hid hp2; have HP3 := Lib.hid hp3; have HG1 := Lib.hid hg1; have HG2 := Lib.hid hg2; have HG3 := Lib.hid hg3; have HG4 := Lib.hid hg4; have HCK := Lib.hid hck; have HS1 := Lib.hid hs1; have HS2 := Lib.hid hs2; have HS3 := Lib.hid hs3
  clear hp1 hp2 hp3 hg1 hg2 hg3 hg4 hck hs1 hs2 hs3 hL1 hL2
  have hmk : (Instr.makeSlice 36 (.int .i64 32) (.int .i64 32)).run Tryz.prog w = .ok (.slice (some ⟨w.heap.size, 0, none⟩) 32 32) (w.alloc (.cells (bytesC (List.replicate 32 0)) 5)) := make_u8 32 (by omega) w
  have hcv := run_convert_bytes_back (P := Tryz.prog) (w.alloc (.cells (bytesC (List.replicate 32 0)) 5)) 36 9 5 ⟨w.heap.size, 0, none⟩ 32 (List.replicate 32 0) (by kernel_rfl) (by kernel_rfl) (by kernel_rfl) (fun j hj => by
    have := bytesC_cell (Blk.new w 5 (bytesC (List.replicate 32 0))) j hj
    rw [Addr.add_mid, Nat.zero_add, this, List.getD_eq_getElem?_getD, List.getElem?_eq_getElem hj]
    rfl)
  rw [List.length_replicate, show (⟨(List.replicate 32 (0 : UInt8)).toArray⟩ : ByteArray) = z from hz] at hcv
  have hG := only_alloc (World.grownBy.refl w none) (.cells (bytesC (List.replicate 32 0)) 5)
  have HG := Lib.hid hG
  clear hz hG
  generalize w.alloc (.cells (bytesC (List.replicate 32 0)) 5) = w1 at *
  go_enter Tryz.func5, Tryz.ntmps5
  go_upto_region 3 with (fail)
  have hb1 := Blk.new w1 25 #[.string z, .int .u64 0, .string z, .int .u64 0, .slice none 0 0]
  have HG := Lib.hid (only_alloc HG.out (.cells #[.string z, .int .u64 0, .string z, .int .u64 0, .slice none 0 0] 25))
  obtain ⟨g1, hg1⟩ : ∃ g, w1.heap.size = g := ⟨_, rfl⟩
  rw [hg1] at hb1 ⊢
  clear hg1 hmk hcv
  generalize w1.alloc (.cells #[.string z, .int .u64 0, .string z, .int .u64 0, .slice none 0 0] 25) = w2 at *
  have c0 := hb1.cell 0; have c1 := hb1.cell 1; have c2 := hb1.cell 2; have c3 := hb1.cell 3; have c4 := hb1.cell 4
  simp only [List.getElem?_toArray, List.getElem?_cons_zero, List.getElem?_cons_succ] at c0 c1 c2 c3 c4
  go_wp2_with fail
  refine (HP1.out _).mono ?_
  rintro e w3 ⟨rfl, hg3⟩
  have HB1 := Lib.hid (hb1.grown hg3 (by simp))
  have HG := Lib.hid (grown_self HG.out hg3 (by simp))
  clear hb1 hg3 c0 c1 c2 c3 c4 HP1
  go_wp2_with fail
  refine (HG1.out _).mono ?_
  rintro e w4 ⟨A1, cc1, rfl, hr1, hg4⟩
  have HB1 := Lib.hid ((HB1.out.grown hg4 (by simp)).alloc (.cells #[.string z, .int .u64 0, .string z, .int .u64 0, .slice A1 0 cc1] 25))
  have HG := Lib.hid (only_alloc (grown_self HG.out hg4 (by simp)) (.cells #[.string z, .int .u64 0, .string z, .int .u64 0, .slice A1 0 cc1] 25))
  have HB2 := Lib.hid (Blk.new w4 25 #[.string z, .int .u64 0, .string z, .int .u64 0, .slice A1 0 cc1])
  clear hr1 hg4 HG1
  go_upto_region 5 with (fail)
  obtain ⟨g2, hg2⟩ : ∃ g, w4.heap.size = g := ⟨_, rfl⟩
  rw [hg2] at HB2 ⊢
  clear hg2
  generalize w4.alloc (.cells #[.string z, .int .u64 0, .string z, .int .u64 0, .slice A1 0 cc1] 25) = w5 at *
  have hgg := only_alloc (only_alloc (World.grownBy.refl w5 none) (.cells #[.string ⟨#[97]⟩, .string ⟨#[98, 99]⟩] 9)) (.cells #[.string z, .int .u64 5, .string z, .int .u64 300, .slice (some ⟨w5.heap.size, 0, none⟩) 2 2] 25)
  have HB1 := Lib.hid (HB1.out.grown hgg (by simp))
  have HB2 := Lib.hid (HB2.out.grown hgg (by simp))
  have HG := Lib.hid (grown_self HG.out hgg (by simp))
  have hb3 := Blk.new (w5.alloc (.cells #[.string ⟨#[97]⟩, .string ⟨#[98, 99]⟩] 9)) 25 #[.string z, .int .u64 5, .string z, .int .u64 300, .slice (some ⟨w5.heap.size, 0, none⟩) 2 2]
  have hrw := (Blk.new w5 9 #[.string ⟨#[97]⟩, .string ⟨#[98, 99]⟩]).alloc (.cells #[.string z, .int .u64 5, .string z, .int .u64 300, .slice (some ⟨w5.heap.size, 0, none⟩) 2 2] 25)
  have hbz : w5.heap.size + 1 ≤ ((w5.alloc (.cells #[.string ⟨#[97]⟩, .string ⟨#[98, 99]⟩] 9)).alloc (.cells #[.string z, .int .u64 5, .string z, .int .u64 300, .slice (some ⟨w5.heap.size, 0, none⟩) 2 2] 25)).heap.size := by simp
  rw [World.size_alloc] at hb3
  clear hgg
  go_upto_region 6 with (fail)
  obtain ⟨g3, hg3⟩ : ∃ g, w5.heap.size = g := ⟨_, rfl⟩
  rw [hg3] at HB1 HB2 HG hb3 hrw hbz ⊢
  clear hg3
  generalize (w5.alloc (.cells #[.string ⟨#[97]⟩, .string ⟨#[98, 99]⟩] 9)).alloc (.cells #[.string z, .int .u64 5, .string z, .int .u64 300, .slice (some ⟨g3, 0, none⟩) 2 2] 25) = w6 at *
  have HR3 := Lib.hid (show Reads w6 (g3 + 1) 1 (some ⟨g3, 0, none⟩) 2 [.string ⟨#[97]⟩, .string ⟨#[98, 99]⟩] from ⟨rfl, fun _ => ⟨_, rfl, Nat.lt_succ_self _, fun j u hu => by
    have := hrw.cell j
    rw [Addr.add_mid, Nat.zero_add, this, ← hu]
    simp⟩⟩)
  have c0 := hb3.cell 0; have c1 := hb3.cell 1; have c2 := hb3.cell 2; have c3 := hb3.cell 3; have c4 := hb3.cell 4
  simp only [List.getElem?_toArray, List.getElem?_cons_zero, List.getElem?_cons_succ] at c0 c1 c2 c3 c4
  have HBZ := Lib.hid hbz
  clear hrw hbz
  go_wp2_with fail
  refine (HP2.out _ _ _ _ HR3.out HBZ.out).mono ?_
  rintro e w7 ⟨rfl, hg7⟩
  have HB1 := Lib.hid (HB1.out.grown hg7 (by simp))
  have HB2 := Lib.hid (HB2.out.grown hg7 (by simp))
  have HB3 := Lib.hid (hb3.grown hg7 (by simp))
  have HG := Lib.hid (grown_self HG.out hg7 (by simp))
  have HR3 := Lib.hid (HR3.out.grown hg7 HBZ.out (by simp))
  have HBZ := Lib.hid (Nat.le_trans HBZ.out hg7.size)
  clear c0 c1 c2 c3 c4 hb3 hg7 HP2
  go_wp2_with fail
  refine (HG2.out _).mono ?_
  rintro e w8 ⟨A2, cc2, rfl, hr2, hg8⟩
  have ha := only_alloc hg8 (.cells #[.string z, .int .u64 5, .string z, .int .u64 300, .slice A2 2 cc2] 25)
  have HB1 := Lib.hid (HB1.out.grown ha (by simp)); have HB2 := Lib.hid (HB2.out.grown ha (by simp)); have HB3 := Lib.hid (HB3.out.grown ha (by simp))
  have HB4 := Lib.hid (Blk.new w8 25 #[.string z, .int .u64 5, .string z, .int .u64 300, .slice A2 2 cc2])
  have HG := Lib.hid (grown_self HG.out ha (by simp))
  have HR3 := Lib.hid (HR3.out.grown ha HBZ.out (by simp))
  have HBZ := Lib.hid (Nat.le_trans HBZ.out ha.size)
  have HR4 := Lib.hid (hr2.grown (only_alloc (World.grownBy.refl w8 none) (.cells #[.string z, .int .u64 5, .string z, .int .u64 300, .slice A2 2 cc2] 25)) (Nat.le_refl _) (by simp))
  have HBZ4 := Lib.hid (show w8.heap.size ≤ (w8.alloc (.cells #[.string z, .int .u64 5, .string z, .int .u64 300, .slice A2 2 cc2] 25)).heap.size by simp)
  clear hr2 hg8 ha HG2
  go_upto_region 8 with (fail)
  obtain ⟨g4, hg4⟩ : ∃ g, w8.heap.size = g := ⟨_, rfl⟩
  rw [hg4] at HB4 HR4 HBZ4 ⊢
  clear hg4
  generalize w8.alloc (.cells #[.string z, .int .u64 5, .string z, .int .u64 300, .slice A2 2 cc2] 25) = w9 at *
  go_wp2_with fail
  refine (HG3.out _).mono ?_
  rintro e w10 ⟨A3, cc3, rfl, hg10⟩
  have ha := only_alloc hg10 (.cells #[.string ⟨#[]⟩, .int .u64 0, .string ⟨#[]⟩, .int .u64 0, .slice A3 0 cc3] 25)
  have HB1 := Lib.hid (HB1.out.grown ha (by simp)); have HB2 := Lib.hid (HB2.out.grown ha (by simp)); have HB3 := Lib.hid (HB3.out.grown ha (by simp)); have HB4 := Lib.hid (HB4.out.grown ha (by simp))
  have HG := Lib.hid (grown_self HG.out ha (by simp))
  have HR3 := Lib.hid (HR3.out.grown ha HBZ.out (by simp)); have HR4 := Lib.hid (HR4.out.grown ha HBZ4.out (by simp))
  have HBZ := Lib.hid (Nat.le_trans HBZ.out ha.size); have HBZ4 := Lib.hid (Nat.le_trans HBZ4.out ha.size)
  clear hg10 ha HG3
  go_upto_region 9 with (fail)
  generalize w10.alloc (.cells #[.string ⟨#[]⟩, .int .u64 0, .string ⟨#[]⟩, .int .u64 0, .slice A3 0 cc3] 25) = w11 at *
  go_wp2_with fail
  refine (HG4.out _).mono ?_
  rintro e w12 ⟨A5, cc5, rfl, hg12⟩
  have ha := only_alloc hg12 (.cells #[.string ⟨#[]⟩, .int .u64 0, .string ⟨#[]⟩, .int .u64 0, .slice A5 0 cc5] 25)
  have HB1 := Lib.hid (HB1.out.grown ha (by simp)); have HB2 := Lib.hid (HB2.out.grown ha (by simp)); have HB3 := Lib.hid (HB3.out.grown ha (by simp)); have HB4 := Lib.hid (HB4.out.grown ha (by simp))
  have HG := Lib.hid (grown_self HG.out ha (by simp))
  have HR3 := Lib.hid (HR3.out.grown ha HBZ.out (by simp)); have HR4 := Lib.hid (HR4.out.grown ha HBZ4.out (by simp))
  have HBZ := Lib.hid (Nat.le_trans HBZ.out ha.size); have HBZ4 := Lib.hid (Nat.le_trans HBZ4.out ha.size)
  clear hg12 ha HG4
  go_upto_region 10 with (fail)
  generalize w12.alloc (.cells #[.string ⟨#[]⟩, .int .u64 0, .string ⟨#[]⟩, .int .u64 0, .slice A5 0 cc5] 25) = w13 at *
  go_wp2_with fail
  refine (HP3.out _).mono ?_
  rintro e w14 ⟨rfl, hg14⟩
  have hb1 := HB1.out.grown hg14 (by simp); have hb2 := HB2.out.grown hg14 (by simp); have hb3 := HB3.out.grown hg14 (by simp); have hb4 := HB4.out.grown hg14 (by simp)
  have HG := Lib.hid (grown_self HG.out hg14 (by simp))
  have HR3 := Lib.hid (HR3.out.grown hg14 HBZ.out (by simp)); have HR4 := Lib.hid (HR4.out.grown hg14 HBZ4.out (by simp))
  have HBZ := Lib.hid (Nat.le_trans HBZ.out hg14.size); have HBZ4 := Lib.hid (Nat.le_trans HBZ4.out hg14.size)
  clear HB1 HB2 HB3 HB4 hg14 HP3
  go_upto_region 11 with (fail)
  have p0 := hb1.cell 0; have p1 := hb1.cell 1; have p2 := hb1.cell 2; have p3 := hb1.cell 3; have p4 := hb1.cell 4
  have q0 := hb2.cell 0; have q1 := hb2.cell 1; have q2 := hb2.cell 2; have q3 := hb2.cell 3; have q4 := hb2.cell 4
  simp only [List.getElem?_toArray, List.getElem?_cons_zero, List.getElem?_cons_succ] at p0 p1 p2 p3 p4 q0 q1 q2 q3 q4
  have HB1 := Lib.hid hb1; have HB3 := Lib.hid hb3; have HB4 := Lib.hid hb4
  clear hb1 hb2 hb3 hb4
  go_wp2_with fail
  refine (HS1.out _ _ _).mono ?_
  rintro e w15 ⟨rfl, hg15⟩
  have hb1 := HB1.out.grown hg15 (by simp); have hb3 := HB3.out.grown hg15 (by simp); have hb4 := HB4.out.grown hg15 (by simp)
  have HG := Lib.hid (grown_self HG.out hg15 (by simp))
  have HR3 := Lib.hid (HR3.out.grown hg15 HBZ.out (by simp)); have HR4 := Lib.hid (HR4.out.grown hg15 HBZ4.out (by simp))
  have HBZ := Lib.hid (Nat.le_trans HBZ.out hg15.size); have HBZ4 := Lib.hid (Nat.le_trans HBZ4.out hg15.size)
  clear p0 p1 p2 p3 p4 q0 q1 q2 q3 q4 HB1 HB3 HB4 hg15 HS1
  have p0 := hb3.cell 0; have p1 := hb3.cell 1; have p2 := hb3.cell 2; have p3 := hb3.cell 3; have p4 := hb3.cell 4
  have q0 := hb4.cell 0; have q1 := hb4.cell 1; have q2 := hb4.cell 2; have q3 := hb4.cell 3; have q4 := hb4.cell 4
  simp only [List.getElem?_toArray, List.getElem?_cons_zero, List.getElem?_cons_succ] at p0 p1 p2 p3 p4 q0 q1 q2 q3 q4
  have HB1 := Lib.hid hb1; have HB3 := Lib.hid hb3
  clear hb1 hb3 hb4
  go_wp2_with fail
  refine (HS2.out _ _ _ _ _ _ _ HR3.out HR4.out HBZ.out HBZ4.out).mono ?_
  rintro e w16 ⟨rfl, hg16⟩
  have hb1 := HB1.out.grown hg16 (by simp); have hb3 := HB3.out.grown hg16 (by simp)
  have HG := Lib.hid (grown_self HG.out hg16 (by simp))
  have HR3 := Lib.hid (HR3.out.grown hg16 HBZ.out (by simp))
  have HBZ := Lib.hid (Nat.le_trans HBZ.out hg16.size)
  clear p0 p1 p2 p3 p4 q0 q1 q2 q3 q4 HB1 HB3 hg16 HS2
  have p0 := hb1.cell 0; have p1 := hb1.cell 1; have p2 := hb1.cell 2; have p3 := hb1.cell 3; have p4 := hb1.cell 4
  simp only [List.getElem?_toArray, List.getElem?_cons_zero, List.getElem?_cons_succ] at p0 p1 p2 p3 p4
  have HB1 := Lib.hid hb1; have HB3 := Lib.hid hb3
  clear hb1 hb3
  go_wp2_with fail
  refine (HCK.out _).mono ?_
  rintro e w17 ⟨rfl, hg17⟩
  have hb1 := HB1.out.grown hg17 (by simp); have hb3 := HB3.out.grown hg17 (by simp)
  have HG := Lib.hid (grown_self HG.out hg17 (by simp))
  have HR3 := Lib.hid (HR3.out.grown hg17 HBZ.out (by simp))
  have HBZ := Lib.hid (Nat.le_trans HBZ.out hg17.size)
  clear p0 p1 p2 p3 p4 HB1 HB3 hg17 HCK
  have p0 := hb3.cell 0; have p1 := hb3.cell 1; have p2 := hb3.cell 2; have p3 := hb3.cell 3; have p4 := hb3.cell 4
  have q0 := hb1.cell 0; have q1 := hb1.cell 1; have q2 := hb1.cell 2; have q3 := hb1.cell 3; have q4 := hb1.cell 4
  simp only [List.getElem?_toArray, List.getElem?_cons_zero, List.getElem?_cons_succ] at p0 p1 p2 p3 p4 q0 q1 q2 q3 q4
  clear hb1 hb3
  go_wp2_with fail
  refine (HS3.out _ _ _ _ HR3.out HBZ.out).mono ?_
  rintro e w18 ⟨rfl, hg18⟩
  have HG := Lib.hid (grown_self HG.out hg18 (by simp))
  clear p0 p1 p2 p3 p4 q0 q1 q2 q3 q4 hg18
  go_wp2_with fail
  go_ret
  exact ⟨rfl, HG.out⟩
end Go.Proofs.YtagjpbcmhaekpaaGreatDoor
/- A batch of one block that came in. -/
namespace Go.Proofs.YtagjpbcmhaekpaaGreatDoor
open Go.ChangeShapes Go.WideShapes Go.ChangeAt Go.RowKit Go.Deep Go.Joins
set_option linter.unusedVariables false
set_option linter.constructorNameAsVariable false
section
variable {H : Type} {enc : TypeId × Value → H} {w : World} {base : Nat} {held : Bool}
set_option maxRecDepth 100000 in
theorem single_one : ∃ t0 t1 t2 t3 t4 : Field, Tryz.prog.underlying 25 = some (.struct #[t0, t1, t2, t3, t4]) ∧ oneCellFields Tryz.prog #[t0, t1, t2, t3, t4] = true ∧ Tryz.prog.underlying t0.type = some .string ∧ Tryz.prog.underlying t1.type = some (.int .u64) ∧ Tryz.prog.underlying t2.type = some .string ∧ Tryz.prog.underlying t3.type = some (.int .u64) ∧ t4.type = 23 :=
  ⟨_, _, _, _, _, Tryz.underlying25, by kernel_rfl, Tryz.underlying9, Tryz.underlying22, Tryz.underlying9, Tryz.underlying22, rfl⟩
theorem strs_nil {w : World} {base : Nat} {t e : TypeId} {fuel : Nat} {n c : Nat} {A : Option Addr} {x : DataW H × List MemPlace} (ht : Tryz.prog.underlying t = some (.slice e)) (he : Tryz.prog.underlying e = some .string) (hc : Tryz.prog.cellsOf e = 1)
    (h : DataW.trod enc Tryz.prog w base (fun _ => true) held fuel t [.slice A n c] = some x) : A = none → n = 0 ∧ c = 0 := by
  intro hA
  subst hA
  rcases open_strs ht he hc h with ⟨hcs, _⟩ | ⟨a, len, cap, m, B, hcs, _⟩
  · simpa using hcs
  · simp at hcs
set_option maxRecDepth 100000 in
theorem open_single {r : Reach} {b0 : Nat} {v : Value} {d : DataW H} {p : List MemPlace} (hv : Value.okWide Tryz.prog w r b0 25 v) (h : DataW.Trod enc Tryz.prog w base (fun _ => true) held 25 v d p) :
    ∃ (b : Sgl) (A : Option Addr) (n c : Nat), v = .agg (sglC b (.slice A n c)) ∧ b.Ok ∧ Reads w w.heap.size 1 A n (b.txs.map Value.string) ∧ n ≤ 9223372036854775807 ∧ b.txs.length = n ∧ n ≤ c ∧ (∀ x ∈ b.txs, x.size ≤ 9223372036854775807) ∧ (A = none → n = 0 ∧ c = 0) := by
  obtain ⟨t0, t1, t2, t3, t4, hu, hone, u0, u1, u2, u3, u4⟩ := single_one
  obtain ⟨v0, v1, v2, v3, v4, y0, y1, y2, y3, y4, n, rfl, _, _, e0, e1, e2, e3, e4⟩ := open_agg5 hu hone (by kernel_rfl) hv h
  obtain ⟨s0, hs0, _⟩ := DataW.trod_string u0 e0
  obtain ⟨k1, hk1, _, hw1⟩ := DataW.trod_int u1 e1
  obtain ⟨s2, hs2, _⟩ := DataW.trod_string u2 e2
  obtain ⟨k3, hk3, _, hw3⟩ := DataW.trod_int u3 e3
  rw [u4] at e4
  obtain ⟨A, m, c, xs, rfl, hr, hx, hm, hl, hc⟩ := reads_of_strs Tryz.underlying23 Tryz.underlying9 (by kernel_rfl) e4
  have hnil := strs_nil Tryz.underlying23 Tryz.underlying9 (by kernel_rfl) e4
  simp only [List.cons.injEq, and_true] at hs0 hk1 hs2 hk3
  subst hs0; subst hk1; subst hs2; subst hk3
  have h1 := wf_u64 hw1
  have h3 := wf_u64 hw3
  obtain ⟨z1, rfl⟩ := Int.eq_ofNat_of_zero_le h1.1
  obtain ⟨z3, rfl⟩ := Int.eq_ofNat_of_zero_le h3.1
  exact ⟨⟨s0, z1, s2, z3, xs⟩, A, m, c, rfl, ⟨by show z1 < _; omega, by show z3 < _; omega⟩, hr, hm, hl, hc, hx, hnil⟩
end
end Go.Proofs.YtagjpbcmhaekpaaGreatDoor
/- Batches of one block: plain laws of small ones, and what stands while a law is walked. -/
namespace Go.Proofs.YtagjpbcmhaekpaaGreatDoor
open Go.RowKit Go.Shelf
set_option linter.unusedVariables false
set_option linter.unusedSimpArgs false

theorem putS_small {c : Sgl} (hk : c.Ok) (h : checkS c = 0) (hx : (catB c.txs).length ≤ 60000) : putSE c = 0 ∧ (putSL c).length ≤ 65537 := by
  obtain ⟨c1, c2, c3, c4⟩ := checkS_0.1 h
  have h1 := wt_item c hk
  have h2 := bytesF_len (itemS c) (by omega)
  have h3 : putSE c = 0 := by
    unfold putSE
    rw [if_neg (by rw [h]; simp), check_item c (by omega), if_neg (by omega)]
  refine ⟨h3, ?_⟩
  unfold putSL
  rw [if_pos h3, List.length_cons]; omega
theorem fewS_1 {b : Sgl} (hf : fewS b = true) : b.txs.length ≤ 40 ∧ fewSN b.txs ≤ 1500 := by
  unfold fewS at hf
  split at hf
  · cases hf
  rename_i h
  exact ⟨by omega, of_decide_eq_true hf⟩
theorem putS_few {b : Sgl} (hk : b.Ok) (hf : fewS b = true) : putSE b = checkS b ∧ (putSL b).length ≤ 65537 := by
  by_cases h : checkS b = 0
  · obtain ⟨f1, f2⟩ := fewS_1 hf
    have h3 := putS_small hk h (by rw [fewSN_cat _ fun x hx => ((checkS_0.1 h).2.2.2 x hx).2]; omega)
    exact ⟨by rw [h3.1, h], h3.2⟩
  · have : putSE b = checkS b := by unfold putSE; rw [if_pos h]
    exact ⟨this, by unfold putSL; rw [if_neg (by rw [this]; exact h)]; simp⟩
theorem putSL_bad {b : Sgl} (h : putSE b ≠ 0) : putSL b = [] := if_neg h
/-- one transaction more -/
def moreS (b : Sgl) (x : ByteArray) : Sgl := ⟨b.parent, b.epoch, b.hash, b.time, b.txs ++ [x]⟩
theorem more_2 {b : Sgl} {x : ByteArray} (h : x.size = 0) : putSE (moreS b x) = 2 := by
  have : checkS (moreS b x) = 2 := by
    unfold checkS
    rw [if_pos]
    exact .inr (.inr (List.any_eq_true.2 ⟨x, by simp [moreS], decide_eq_true h⟩))
  unfold putSE; rw [if_pos (by rw [this]; decide), this]
theorem more_5 {b : Sgl} {x : ByteArray} (hb : checkS b = 0) (h : x.size ≠ 0) (hn : 32 ≤ b.txs.length) : putSE (moreS b x) = 5 := by
  obtain ⟨c1, c2, c3, c4⟩ := checkS_0.1 hb
  have : checkS (moreS b x) = 5 := by
    unfold checkS
    rw [if_neg, if_pos]
    · left; simp [moreS]; omega
    · simp only [moreS, not_or, List.any_eq_true, decide_eq_true_eq, not_exists, not_and, List.mem_append, List.mem_singleton]
      refine ⟨by omega, by omega, fun y hy => ?_⟩
      rcases hy with hy | rfl
      · have := (c4 y hy).1; omega
      · exact h
  unfold putSE; rw [if_pos (by rw [this]; decide), this]
theorem more_0 {b : Sgl} {x : ByteArray} (hk : b.Ok) (hf : fewS b = true) (hb : checkS b = 0) (h : x.size ≠ 0) (hx : x.size ≤ 2000) (hn : ¬ 32 ≤ b.txs.length) : putSE (moreS b x) = 0 ∧ (putSL (moreS b x)).length ≤ 65537 ∧ (moreS b x).Ok := by
  obtain ⟨c1, c2, c3, c4⟩ := checkS_0.1 hb
  obtain ⟨f1, f2⟩ := fewS_1 hf
  have hk' : (moreS b x).Ok := hk
  have hc : checkS (moreS b x) = 0 := checkS_0.2 ⟨c1, c2, by simp [moreS]; omega, fun y hy => by
    rcases List.mem_append.1 (show y ∈ b.txs ++ [x] from hy) with e | e
    · exact c4 y e
    · obtain rfl := List.mem_singleton.1 e; omega⟩
  have hl : (catB (moreS b x).txs).length ≤ 60000 := by
    show (catB (b.txs ++ [x])).length ≤ 60000
    have h2 : x.data.toList.length = x.size := Array.length_toList
    have e2 : catB (b.txs ++ [x]) = catB b.txs ++ x.data.toList := by simp [catB]
    rw [e2, List.length_append, fewSN_cat _ fun x hx => (c4 x hx).2]; omega
  obtain ⟨p1, p2⟩ := putS_small hk' hc hl
  exact ⟨p1, p2, hk'⟩
/-- what stands while a law is walked: its batch, boxed -/
structure SglSt (W w : World) (g : Nat) (b : Sgl) (B : Nat) (A : Option Addr) (n c : Nat) : Prop where
  grown : W.grownBy w none
  blk : Blk w g 25 (sglC b (.slice A n c))
  reads : Reads w B 1 A n (b.txs.map Value.string)
  base : B ≤ w.heap.size
theorem SglSt.step {W w w' : World} {g : Nat} {b : Sgl} {B : Nat} {A : Option Addr} {n c : Nat} (h : SglSt W w g b B A n c) (hg : w.grownBy w' none) : SglSt W w' g b B A n c :=
  ⟨grown_self h.grown hg (by simp), h.blk.grown hg (by simp), h.reads.grown hg h.base (by simp), Nat.le_trans h.base hg.size⟩
theorem SglSt.new (W : World) {w : World} {b : Sgl} {B : Nat} {A : Option Addr} {n c : Nat} (hG : W.grownBy w none) (h : Reads w B 1 A n (b.txs.map Value.string)) (hB : B ≤ w.heap.size) : SglSt W (w.alloc (.cells (sglC b (.slice A n c)) 25)) w.heap.size b B A n c := by
  have hg := only_alloc (World.grownBy.refl w none) (.cells (sglC b (.slice A n c)) 25)
  exact ⟨grown_self hG hg (by simp), Blk.new _ _ _, h.grown hg hB (by simp), Nat.le_trans hB hg.size⟩
theorem SglSt.cells {W w : World} {g : Nat} {b : Sgl} {B : Nat} {A : Option Addr} {n c : Nat} (h : SglSt W w g b B A n c) :
    w.cell? ⟨g, 0, none⟩ = some (.string b.parent) ∧ w.cell? ⟨g, 1, none⟩ = some (.int .u64 b.epoch) ∧ w.cell? ⟨g, 2, none⟩ = some (.string b.hash) ∧ w.cell? ⟨g, 3, none⟩ = some (.int .u64 b.time) ∧ w.cell? ⟨g, 4, none⟩ = some (.slice A n c) :=
  ⟨h.blk.cell 0, h.blk.cell 1, h.blk.cell 2, h.blk.cell 3, h.blk.cell 4⟩
end Go.Proofs.YtagjpbcmhaekpaaGreatDoor
/- A number, a word, bytes, a list as an item: the document's. -/
namespace Go.Proofs.YtagjpbcmhaekpaaGreatDoor
open Go.RowKit Go.Shelf
set_option linter.unusedVariables false
set_option linter.unusedSimpArgs false

set_option maxRecDepth 100000 in
set_option maxHeartbeats 1000000 in
theorem numberR6_any (n : Nat) (hn : n < 18446744073709551616) (w : World) :
    Calls Tryz.prog 22 #[.int .u64 (n : Int)] w fun e w' => e = .returned (.agg #[.bool false, .string ⟨(beN n).toArray⟩, .slice none 0 0]) ∧ w.grownBy w' none := by
  have hB := Blk.new w 40 #[.bool false, .string ⟨#[]⟩, .slice none 0 0]
  have HG := Lib.hid (only_alloc (World.grownBy.refl w none) (.cells #[.bool false, .string ⟨#[]⟩, .slice none 0 0] 40))
  have hbe := fun V => beR_any n hn V
  obtain ⟨t, ht⟩ : ∃ t : ByteArray, (⟨(beN n).toArray⟩ : ByteArray) = t := ⟨_, rfl⟩
  rw [ht] at hbe ⊢
  have HBe := Lib.hid hbe
  clear hbe ht
  go_enter Tryz.func22, Tryz.ntmps22
  go_upto_region 1 with (fail)
  obtain ⟨b, hb⟩ : ∃ b, w.heap.size = b := ⟨_, rfl⟩
  have HW := Lib.hid hb
  rw [hb] at hB ⊢
  clear hb
  generalize w.alloc (.cells #[.bool false, .string ⟨#[]⟩, .slice none 0 0] 40) = W1 at *
  go_wp2_with fail
  refine (HBe.out _).mono ?_
  rintro e w3 ⟨rfl, hg3⟩
  have hB := hB.grown hg3 (by simp)
  have hG4 := grown_self HG.out hg3 (by simp)
  have hle : w.heap.size ≤ b := by have := HW.out; omega
  have HG5 := Lib.hid (only_set (only_set (only_set hG4 (p := ⟨b, 0, none⟩) hle (.bool false)) (p := ⟨b, 1, none⟩) hle (.string t)) (p := ⟨b, 2, none⟩) hle (.slice none 0 0))
  have HB5 := Lib.hid (((hB.set_ 0 (.bool false)).set_ 1 (.string t)).set_ 2 (.slice none 0 0))
  have c0 := hB.cell 0; have c1 := hB.cell 1; have c2 := hB.cell 2
  have d0 := hB.frozen 0; have d1 := hB.frozen 1; have d2 := hB.frozen 2
  simp only [List.getElem?_toArray, List.getElem?_cons_zero, List.getElem?_cons_succ] at c0 c1 c2
  clear hg3 hG4 hB hle
  go_wp2_with fail
  refine bodyPost_ret (results_cell1 (fn := Tryz.f22) rfl _ _ _ _ rfl (load_itemF HB5.out)) rfl ?_
  exact ⟨rfl, HG5.out⟩
set_option maxRecDepth 100000 in
theorem textR6_any (s : ByteArray) (w : World) :
    Calls Tryz.prog 21 #[.string s] w fun e w' => e = .returned (.agg #[.bool false, .string s, .slice none 0 0]) ∧ w.grownBy w' none := by
  have hB := Blk.new w 40 #[.bool false, .string s, .slice none 0 0]
  have hG := only_alloc (World.grownBy.refl w none) (.cells #[.bool false, .string s, .slice none 0 0] 40)
  go_enter Tryz.func21, Tryz.ntmps21
  go_wp2_with fail
  refine bodyPost_ret (results_cell1 (fn := Tryz.f21) rfl _ _ _ _ rfl (load_itemF hB)) rfl ?_
  exact ⟨rfl, hG⟩

set_option maxRecDepth 100000 in
theorem listR6_any (sv : Value) (hsv : ∃ A n c, sv = .slice A n c) (w : World) :
    Calls Tryz.prog 20 #[sv] w fun e w' => e = .returned (.agg #[.bool true, .string ⟨#[]⟩, sv]) ∧ w.grownBy w' none := by
  obtain ⟨A, n, c, rfl⟩ := hsv
  have hB := Blk.new w 40 #[.bool true, .string ⟨#[]⟩, .slice A n c]
  have hG := only_alloc (World.grownBy.refl w none) (.cells #[.bool true, .string ⟨#[]⟩, .slice A n c] 40)
  go_enter Tryz.func20, Tryz.ntmps20
  go_wp2_with fail
  refine bodyPost_ret (results_cell1 (fn := Tryz.f20) rfl _ _ _ _ rfl (load_itemF hB)) rfl ?_
  exact ⟨rfl, hG⟩
end Go.Proofs.YtagjpbcmhaekpaaGreatDoor
