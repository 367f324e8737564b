/- Merged: RcpJ, EqS, RcpK, RcpL. -/
import Derived.Test.YthalohloneojlaaGreatDoorMi1
import Derived.Test.YthalohloneojlaaGreatDoorMi3
import Derived.Test.YthalohloneojlaaGreatDoorMi10
import Derived.Test.YthalohloneojlaaGreatDoorMi18
/- Receipts: Decode.  Printed by wip/genRcpJ.py -/
namespace Go.Proofs.YthalohloneojlaaGreatDoor
open Go.RowKit Go.Shelf
set_option linter.unusedVariables false
set_option linter.unusedSimpArgs false

/-- what errors.errorType holds -/
def ErrLaid (w : World) : Prop := w.cell? ⟨0, 0, none⟩ = some (.iface 162 (.agg #[.pointer (some ⟨4, 65, none⟩)]))
theorem ErrLaid.kept {w w' : World} {row : Option Nat} (h : ErrLaid w) (hg : w.grownBy w' row) (hr : some 0 ≠ row) : ErrLaid w' := hg.cell h hr
/-- what stands while a receipt is decoded -/
structure DecSt (w : World) (b g : Nat) (cs : Array Value) (E : Int) (W : World) : Prop where
  blk : Blk W b 25 cs
  box : Boxed W (g + 1) 28 (.int .i64 E)
  laid : ErrLaid W
  grown : w.grownBy W none
  lo : w.heap.size ≤ b
  lb : b < g
theorem DecSt.step {w W W' : World} {b g : Nat} {cs : Array Value} {E : Int} {row : Option Nat} (h : DecSt w b g cs E W) (hg : W.grownBy W' row) (hr : ∀ k, row = some k → g + 2 ≤ k) : DecSt w b g cs E W' := by
  have h1 := h.lo; have h2 := h.lb
  exact ⟨h.blk.grown hg (fun e => by have := hr _ e.symm; omega), h.box.kept hg (fun e => by have := hr _ e.symm; omega), h.laid.kept hg (fun e => by have := hr _ e.symm; omega), grown_self h.grown hg (fun k hk => .inr (by have := hr k hk; omega)), h1, h2⟩
theorem row_one {W : World} {x : Itm} {S : Nat → Prop} {b : Nat} {sv : Value} (h : SubV S W x.items sv) (hS : S b) (h0 : W.cell? ⟨b, 0, none⟩ = some (.bool x.list)) (h1 : W.cell? ⟨b, 1, none⟩ = some (.string x.bytes)) (h2 : W.cell? ⟨b, 2, none⟩ = some sv) : SubV S W [x] (.slice (some ⟨b, 0, none⟩) 1 1) := by
  refine .mk [x] _ 1 [sv] (fun _ => ⟨b, 0, rfl, hS, fun i hi => ?_⟩) (fun i hi => ?_) (by simp)
  · obtain rfl : i = 0 := by simpa using hi
    exact ⟨h0, h1, h2⟩
  · obtain rfl : i = 0 := by simpa using hi
    exact h
set_option maxRecDepth 100000 in
set_option maxHeartbeats 1000000 in
theorem decRc_none (w : World) : Calls Tryz.prog 18 #[.string ⟨#[]⟩] w (RcEnd (getR []) w) := by
  obtain ⟨G, hGG⟩ : ∃ G, getR [] = G := ⟨_, rfl⟩
  have HGG : Hid (G = (3, Rcp.zero)) := Lib.hid (by rw [← hGG]; exact if_pos rfl)
  rw [hGG]
  clear hGG
  have hB := Blk.new w 25 #[.int .i64 0, .bool false, .int .u64 0, .slice none 0 0, .bool false, .int .u64 0, .int .u64 0]
  have hG := only_alloc (World.grownBy.refl w none) (.cells #[.int .i64 0, .bool false, .int .u64 0, .slice none 0 0, .bool false, .int .u64 0, .int .u64 0] 25)
  obtain ⟨b, hb⟩ : ∃ b, w.heap.size = b := ⟨_, rfl⟩
  rw [hb] at hB
  have HB := Lib.hid hB; have HG := Lib.hid hG; have HW := Lib.hid hb
  clear hB hG
  go_enter Tryz.func18, Tryz.ntmps18
  go_upto_region 1 with (fail)
  clear hb
  generalize w.alloc (.cells #[.int .i64 0, .bool false, .int .u64 0, .slice none 0 0, .bool false, .int .u64 0, .int .u64 0] 25) = w1 at *
  obtain ⟨z0, z1, z2, z3, z4, z5, z6, hB⟩ : ∃ z0 z1 z2 z3 z4 z5 z6, Blk w1 b 25 #[z0, z1, z2, z3, z4, z5, z6] := ⟨_, _, _, _, _, _, _, HB.out⟩
  have e0 := hB.cell 0; have e1 := hB.cell 1; have e2 := hB.cell 2; have e3 := hB.cell 3; have e4 := hB.cell 4; have e5 := hB.cell 5; have e6 := hB.cell 6
  have f0 := hB.frozen 0; have f1 := hB.frozen 1; have f2 := hB.frozen 2; have f3 := hB.frozen 3; have f4 := hB.frozen 4; have f5 := hB.frozen 5; have f6 := hB.frozen 6
  simp only [List.getElem?_toArray, List.getElem?_cons_zero, List.getElem?_cons_succ] at e0 e1 e2 e3 e4 e5 e6
  have HE := Lib.hid (blk_set7 hB (.int .i64 0) (.bool false) (.int .u64 0) (.slice none 0 0) (.bool false) (.int .u64 0) (.int .u64 0))
  have HGE := Lib.hid (only_set7 HG.out (show w.heap.size ≤ b by have := HW.out; omega) (.int .i64 0) (.bool false) (.int .u64 0) (.slice none 0 0) (.bool false) (.int .u64 0) (.int .u64 0))
  clear hB HB HG
  go_wp2_with fail
  have hq := HE.out
  have hr := HGE.out
  unfold set7 at hq hr
  refine bodyPost_ret (results_ct (fn := Tryz.f18) rfl _ _ _ _ rfl (load_rcF hq)) rfl ?_
  exact RcEnd.bad HGG.out hr
set_option maxRecDepth 100000 in
set_option maxHeartbeats 4000000 in
theorem decRc_some (s : ByteArray) (hs : s.size ≤ 9223372036854775807) (w : World) (h : s ≠ ⟨#[]⟩) (hv : ErrLaid w) : Calls Tryz.prog 18 #[.string s] w (RcEnd (getR s.data.toList) w) := by
  obtain ⟨g0, q0, q1, q2, q3⟩ := some_str h
  obtain ⟨C, hC⟩ : ∃ C, (s[0]'g0).toNat = C := ⟨_, rfl⟩
  have hC256 : C < 256 := by rw [← hC]; exact UInt8.toNat_lt _
  have hR : getR s.data.toList = if C < 192 then (if C = 0 ∨ isKind (C : Int) = false then (9, Rcp.zero) else bodyR (C : Int) (s.extract 1 s.size).data.toList) else bodyR 0 s.data.toList := by
    unfold getR
    rw [if_neg q0, q3, hC, drop1]
  obtain ⟨G, hGG⟩ : ∃ G, getR s.data.toList = G := ⟨_, rfl⟩
  rw [hGG] at hR ⊢
  have HR := Lib.hid hR
  have HV := Lib.hid hv
  have hB := Blk.new w 25 #[.int .i64 0, .bool false, .int .u64 0, .slice none 0 0, .bool false, .int .u64 0, .int .u64 0]
  have hG := only_alloc (World.grownBy.refl w none) (.cells #[.int .i64 0, .bool false, .int .u64 0, .slice none 0 0, .bool false, .int .u64 0, .int .u64 0] 25)
  obtain ⟨b, hb⟩ : ∃ b, w.heap.size = b := ⟨_, rfl⟩
  have hz : (w.alloc (.cells #[.int .i64 0, .bool false, .int .u64 0, .slice none 0 0, .bool false, .int .u64 0, .int .u64 0] 25)).heap.size = b + 1 := by simp [hb]
  rw [hb] at hB
  have HB := Lib.hid hB; have HG := Lib.hid hG; have HW := Lib.hid hb; have HZ := Lib.hid hz
  have HV1 := Lib.hid (hv.kept hG (by simp))
  clear hR hGG hB hG q0 q3 h hv hz
  have hx1 : (1 : Int) ≤ (s.size : Int) := by omega
  go_enter Tryz.func18, Tryz.ntmps18
  go_upto_region 1 with (fail)
  clear hb
  generalize w.alloc (.cells #[.int .i64 0, .bool false, .int .u64 0, .slice none 0 0, .bool false, .int .u64 0, .int .u64 0] 25) = w1 at *
  obtain ⟨dd, hdd⟩ : ∃ d, decide ((C : Int) < 192) = d := ⟨_, rfl⟩
  have HDD := Lib.hid hdd
  go_upto_if 16 with (fail)
  clear hdd
  go_cut [0, 4] (fun x k wx => ∃ (T : ByteArray) (K : Int), x = .string T ∧ k = .int .i64 K ∧ Hid (G = bodyR K T.data.toList) ∧ T.size ≤ 9223372036854775807 ∧ w1.grownBy wx none)
  case first =>
    have HK := Lib.hid (fun V => kind_any (C : Int) V)
    by_cases h1 : C < 192
    · obtain rfl : dd = true := by rw [← HDD.out]; exact decide_eq_true (by omega)
      have hr := HR.out
      rw [if_pos h1] at hr
      obtain ⟨z0, z1, z2, z3, z4, z5, z6, hB⟩ : ∃ z0 z1 z2 z3 z4 z5 z6, Blk w1.drew b 25 #[z0, z1, z2, z3, z4, z5, z6] := ⟨_, _, _, _, _, _, _, HB.out.drew⟩
      have HB1 := Lib.hid hB
      have HG1 := Lib.hid (only_drew HG.out)
      by_cases h2 : C = 0
      · have d2 : ((C : Int) == 0) = true := by subst h2; rfl
        rw [if_pos (.inl h2)] at hr
        have HRR := Lib.hid hr
        have HT := Lib.hid (blk_set7 hB (.int .i64 0) (.bool false) (.int .u64 0) (.slice none 0 0) (.bool false) (.int .u64 0) (.int .u64 0))
        have HGT := Lib.hid (only_set7 HG1.out (show w.heap.size ≤ b by have := HW.out; omega) (.int .i64 0) (.bool false) (.int .u64 0) (.slice none 0 0) (.bool false) (.int .u64 0) (.int .u64 0))
        have e0 := hB.cell 0; have e1 := hB.cell 1; have e2 := hB.cell 2; have e3 := hB.cell 3; have e4 := hB.cell 4; have e5 := hB.cell 5; have e6 := hB.cell 6
        have f0 := hB.frozen 0; have f1 := hB.frozen 1; have f2 := hB.frozen 2; have f3 := hB.frozen 3; have f4 := hB.frozen 4; have f5 := hB.frozen 5; have f6 := hB.frozen 6
        simp only [List.getElem?_toArray, List.getElem?_cons_zero, List.getElem?_cons_succ] at e0 e1 e2 e3 e4 e5 e6
        clear hr hB h1 h2 HR HB HG HV HV1
        go_wp2_with fail
        go_region
        all_goals
          generalize w1.drew = w2 at *
          go_wp2_with fail
        all_goals
          have hq := HT.out
          have hr := HGT.out
          unfold set7 at hq hr
          refine bodyPost_ret (results_ct (fn := Tryz.f18) rfl _ _ _ _ rfl (load_rcF hq)) rfl ?_
          exact RcEnd.bad HRR.out hr
      · have d2 : ((C : Int) == 0) = false := by simp; omega
        cases h3 : isKind (C : Int) with
        | false =>
          rw [if_pos (.inr h3)] at hr
          have HRR := Lib.hid hr; have H3 := Lib.hid h3
          clear hr hB h1 h2 h3 HR HB HG HV HV1
          go_wp2_with fail
          go_region
          all_goals
            generalize w1.drew = w2 at *
            go_wp2_with fail
            refine (HK.out _).mono ?_
            rintro e w3 ⟨rfl, hg3⟩
            rw [H3.out]
            have hB := HB1.out.grown hg3 (by simp)
            have HT := Lib.hid (blk_set7 hB (.int .i64 0) (.bool false) (.int .u64 0) (.slice none 0 0) (.bool false) (.int .u64 0) (.int .u64 0))
            have HGT := Lib.hid (only_set7 (grown_self HG1.out hg3 (by simp)) (show w.heap.size ≤ b by have := HW.out; omega) (.int .i64 0) (.bool false) (.int .u64 0) (.slice none 0 0) (.bool false) (.int .u64 0) (.int .u64 0))
            have e0 := hB.cell 0; have e1 := hB.cell 1; have e2 := hB.cell 2; have e3 := hB.cell 3; have e4 := hB.cell 4; have e5 := hB.cell 5; have e6 := hB.cell 6
            have f0 := hB.frozen 0; have f1 := hB.frozen 1; have f2 := hB.frozen 2; have f3 := hB.frozen 3; have f4 := hB.frozen 4; have f5 := hB.frozen 5; have f6 := hB.frozen 6
            simp only [List.getElem?_toArray, List.getElem?_cons_zero, List.getElem?_cons_succ] at e0 e1 e2 e3 e4 e5 e6
            clear hB hg3
            go_wp2_with fail
          all_goals
            have hq := HT.out
            have hr := HGT.out
            unfold set7 at hq hr
            refine bodyPost_ret (results_ct (fn := Tryz.f18) rfl _ _ _ _ rfl (load_rcF hq)) rfl ?_
            exact RcEnd.bad HRR.out hr
        | true =>
          rw [if_neg (by simp [h2, h3])] at hr
          have HRR := Lib.hid hr; have H3 := Lib.hid h3
          clear hr hB h1 h2 h3 HR HB HG HV HV1
          go_wp2_with fail
          go_region
          all_goals
            generalize hw2 : w1.drew = w2 at *
            go_wp2_with fail
            refine (HK.out _).mono ?_
            rintro e w3 ⟨rfl, hg3⟩
            rw [H3.out]
            have HGT : Hid (w1.grownBy w3 none) := Lib.hid (grown_self (hw2 ▸ only_drew (World.grownBy.refl w1 none)) hg3 (by simp))
            clear hg3 hw2
            go_wp2_with fail
            go_meet
            exact ⟨_, _, rfl, rfl, HRR, by simp; omega, HGT.out⟩
    · obtain rfl : dd = false := by rw [← HDD.out]; exact decide_eq_false (by omega)
      have hr := HR.out
      rw [if_neg h1] at hr
      have HRR := Lib.hid hr
      clear hr h1 HR HB HG HV HV1
      go_wp2_with fail
      go_meet
      exact ⟨_, _, rfl, rfl, HRR, by omega, World.grownBy.refl _ _⟩
  case rest =>
    obtain ⟨T, K, rfl, rfl, HGB, hT, hgx⟩ := hcut
    obtain ⟨z0, z1, z2, z3, z4, z5, z6, hB⟩ : ∃ z0 z1 z2 z3 z4 z5 z6, Blk wc b 25 #[z0, z1, z2, z3, z4, z5, z6] := ⟨_, _, _, _, _, _, _, HB.out.grown hgx (by simp)⟩
    have HB := Lib.hid hB
    have HG := Lib.hid (grown_self HG.out hgx (by simp))
    have HV := Lib.hid (HV1.out.kept hgx (by simp))
    have HZ : Hid (b + 1 ≤ wc.heap.size) := Lib.hid (by have := HZ.out; have := hgx.size; omega)
    clear hB hgx HR HV1 hx1 hC256 q1 q2 hC HDD
    obtain ⟨M, hM⟩ : ∃ M, mostR K = M := ⟨_, rfl⟩
    have HM := Lib.hid hM
    go_upto_region 8 with (fail)
    obtain ⟨de, hde⟩ : ∃ d, (K == 126) = d := ⟨_, rfl⟩
    have HDE : Hid (decide (K = 126) = de) := Lib.hid (by rw [← hde]; by_cases hh : K = 126 <;> simp [hh])
    go_upto_if 31 with (fail)
    clear hde hM
    go_cut [5] (fun m wx => m = .int .i64 M ∧ wx = wc)
    case first =>
      by_cases h1 : K = 126
      · obtain rfl : de = true := by rw [← HDE.out]; exact decide_eq_true h1
        have HM5 : Hid (M = 5) := Lib.hid (by rw [← HM.out]; exact if_pos h1)
        clear h1
        go_wp2_with fail
        go_meet
        exact ⟨by rw [HM5.out], rfl⟩
      · obtain rfl : de = false := by rw [← HDE.out]; exact decide_eq_false h1
        have HM5 : Hid (M = 3) := Lib.hid (by rw [← HM.out]; exact if_neg h1)
        clear h1
        go_wp2_with fail
        go_meet
        exact ⟨by rw [HM5.out], rfl⟩
    case rest =>
      obtain ⟨rfl, rfl⟩ := hcut
      have HD := Lib.hid (fun V => decode_any T V hT)
      clear hT
      go_wp2_with fail
      refine (HD.out _).mono ?_
      rintro e w2 ⟨lst, bb, sA, sn, sc, E', rfl, hg2, htail⟩
      obtain ⟨g, hg⟩ : ∃ g, w2.heap.size = g := ⟨_, rfl⟩
      have ga := only_alloc (World.grownBy.refl w2 none) (.cells #[.bool lst, .string bb, .slice sA sn sc] 45)
      have gb := only_alloc (World.grownBy.refl (w2.alloc (.cells #[.bool lst, .string bb, .slice sA sn sc] 45)) none) (.cells #[.int .i64 E'] 28)
      have hx := Boxed.new (w2.alloc (.cells #[.bool lst, .string bb, .slice sA sn sc] 45)) 28 (.int .i64 E')
      have hi := (Blk.new w2 45 #[.bool lst, .string bb, .slice sA sn sc]).alloc (.cells #[.int .i64 E'] 28)
      have hz3 : ((w2.alloc (.cells #[.bool lst, .string bb, .slice sA sn sc] 45)).alloc (.cells #[.int .i64 E'] 28)).heap.size = g + 2 := by simp [hg]
      rw [World.size_alloc, hg] at hx
      rw [hg] at hi
      have HST : Hid (DecSt w b g #[z0, z1, z2, z3, z4, z5, z6] E' ((w2.alloc (.cells #[.bool lst, .string bb, .slice sA sn sc] 45)).alloc (.cells #[.int .i64 E'] 28))) := by
        have hgg := grown_self ga gb (by simp)
        have := HZ.out; have := hg2.size
        exact Lib.hid ⟨(HB.out.grown hg2 (by simp)).grown hgg (by simp), hx, (HV.out.kept hg2 (by simp)).kept hgg (by simp), grown_self (grown_self HG.out hg2 (by simp)) hgg (by simp), by have := HW.out; omega, by omega⟩
      have HTL : Hid (DecTail T.data.toList wc lst bb (.slice sA sn sc) E' ((w2.alloc (.cells #[.bool lst, .string bb, .slice sA sn sc] 45)).alloc (.cells #[.int .i64 E'] 28))) := by
        rcases htail with ⟨x, k1, k2, k3, k4, k5⟩ | k
        · exact Lib.hid (.inl ⟨x, k1, k2, k3, k4, (k5.grown ga).grown gb⟩)
        · exact Lib.hid (.inr k)
      have HI := Lib.hid hi
      have HZ3 := Lib.hid hz3
      have x7 := hx.cell
      clear hz3 hi hx ga gb htail hg2 HB HG HV HZ HD
      go_upto_region 11 with (fail)
      clear hg
      generalize (w2.alloc (.cells #[.bool lst, .string bb, .slice sA sn sc] 45)).alloc (.cells #[.int .i64 E'] 28) = w3 at *
      rcases HTL.out with ⟨x, hd, rfl, rfl, rfl, hsub⟩ | ⟨hd, hne, _, _, _⟩
      rotate_left
      · have e1 : (E' != 0) = true := by simpa using hne
        have HEQ : Hid (G = (E', Rcp.zero)) := Lib.hid (by rw [HGB.out]; unfold bodyR; rw [hd]; show ((if E' = 0 then (3 : Int) else E'), Rcp.zero) = _; rw [if_neg hne])
        have hB3 := HST.out.blk
        have HTE := Lib.hid (blk_set7 hB3 (.int .i64 0) (.bool false) (.int .u64 0) (.slice none 0 0) (.bool false) (.int .u64 0) (.int .u64 0))
        have HGE := Lib.hid (only_set7 HST.out.grown HST.out.lo (.int .i64 0) (.bool false) (.int .u64 0) (.slice none 0 0) (.bool false) (.int .u64 0) (.int .u64 0))
        have n1 : g + 1 ≠ b := by have := HST.out.lb; omega
        have n2 : b ≠ g + 1 := by have := HST.out.lb; omega
        obtain ⟨y0, y1, y2, y3, y4, y5, y6, hB3⟩ : ∃ y0 y1 y2 y3 y4 y5 y6, Blk w3 b 25 #[y0, y1, y2, y3, y4, y5, y6] := ⟨_, _, _, _, _, _, _, hB3⟩
        have e0 := hB3.cell 0; have e1 := hB3.cell 1; have e2 := hB3.cell 2; have e3 := hB3.cell 3; have e4 := hB3.cell 4; have e5 := hB3.cell 5; have e6 := hB3.cell 6
        have f0 := hB3.frozen 0; have f1 := hB3.frozen 1; have f2 := hB3.frozen 2; have f3 := hB3.frozen 3; have f4 := hB3.frozen 4; have f5 := hB3.frozen 5; have f6 := hB3.frozen 6
        simp only [List.getElem?_toArray, List.getElem?_cons_zero, List.getElem?_cons_succ] at e0 e1 e2 e3 e4 e5 e6
        clear hB3 hne hd HTL HI HST HZ3
        go_wp2_with fail
        go_region
        all_goals go_wp2_with fail
        all_goals
          have hq := Blk.drew HTE.out
          have hr := only_drew HGE.out
          unfold set7 at hq hr
          refine bodyPost_ret (results_ct (fn := Tryz.f18) rfl _ _ _ _ rfl (load_rcF hq)) rfl ?_
          exact RcEnd.bad HEQ.out hr
      · have i0 := HI.out.cell 0; have i1 := HI.out.cell 1; have i2 := HI.out.cell 2
        simp only [List.getElem?_toArray, List.getElem?_cons_zero, List.getElem?_cons_succ] at i0 i1 i2
        have HEQ : Hid (G = itemR K x) := Lib.hid (by rw [HGB.out]; unfold bodyR; rw [hd])
        have HOK := Lib.hid (decode_okF hd)
        have hsz := HZ3.out
        have gc := only_alloc (World.grownBy.refl w3 none) (.cells #[.bool x.list, .string x.bytes, .slice sA sn sc] 45)
        have gd := only_alloc (World.grownBy.refl (w3.alloc (.cells #[.bool x.list, .string x.bytes, .slice sA sn sc] 45)) none) (.cells #[.slice (some ⟨g + 2, 0, none⟩) 1 1, .nilIface] 67)
        have ht := (Blk.new w3 45 #[.bool x.list, .string x.bytes, .slice sA sn sc]).alloc (.cells #[.slice (some ⟨g + 2, 0, none⟩) 1 1, .nilIface] 67)
        rw [hsz] at ht
        have t0 := ht.cell 0; have t1 := ht.cell 1; have t2 := ht.cell 2
        simp only [List.getElem?_toArray, List.getElem?_cons_zero, List.getElem?_cons_succ] at t0 t1 t2
        have hrd : RdR (g + 3) ((w3.alloc (.cells #[.bool x.list, .string x.bytes, .slice sA sn sc] 45)).alloc (.cells #[.slice (some ⟨g + 2, 0, none⟩) 1 1, .nilIface] 67)) (g + 3) [x] 0 := by
          have hb := Blk.new (w3.alloc (.cells #[.bool x.list, .string x.bytes, .slice sA sn sc] 45)) 67 #[.slice (some ⟨g + 2, 0, none⟩) 1 1, .nilIface]
          rw [World.size_alloc, hsz] at hb
          refine ⟨⟨some ⟨g + 2, 0, none⟩, 1, ⟨#[]⟩, hb, row_one ?_ (by omega) t0 t1 t2⟩, Nat.le_refl _⟩
          exact ((hsub.lt.weak fun q hq => (show q < g + 3 by have := hq.2; omega)).grown gc).grown gd
        have hST4 := (HST.out.step gc (by simp)).step gd (by simp)
        have hz4 : ((w3.alloc (.cells #[.bool x.list, .string x.bytes, .slice sA sn sc] 45)).alloc (.cells #[.slice (some ⟨g + 2, 0, none⟩) 1 1, .nilIface] 67)).heap.size = g + 4 := by simp [hsz]
        have HST4 := Lib.hid hST4; have HRD4 := Lib.hid hrd; have HZ4 := Lib.hid hz4
        clear hST4 hrd t0 t1 t2 ht gc gd hd HTL HI HST hsub hz4
        go_upto_region 14 with (fail)
        clear hsz
        generalize (w3.alloc (.cells #[.bool x.list, .string x.bytes, .slice sA sn sc] 45)).alloc (.cells #[.slice (some ⟨g + 2, 0, none⟩) 1 1, .nilIface] 67) = w4 at *
        obtain ⟨E1, hE1⟩ : ∃ e, rowE 3 M x = e := ⟨_, rfl⟩
        obtain ⟨ls, hls⟩ : ∃ e, rowL 3 M x = e := ⟨_, rfl⟩
        have HRW := fun (W : World) (hW : RdR (g + 3) W (g + 3) [x] 0) => Lib.hid (rowR_any 3 M (g + 3) (g + 3) [x] 0 W hW)
        simp only [List.headD_cons, List.tail_cons] at HRW
        rw [show fst1 0 (rowE 3 M x) = rowE 3 M x from if_pos rfl, hE1, hls] at HRW
        have HSZ := Lib.hid (hls ▸ rowL_sz HOK.out 3 M)
        have HEQ2 : Hid (G = if E1 ≠ 0 then (E1, Rcp.zero) else if ofE 0 ls ≠ 0 then (ofE 0 ls, Rcp.zero) else (0, ofX K ls)) := Lib.hid (by rw [HEQ.out]; unfold itemR; rw [HM.out, hE1, hls])
        clear hE1 hls HEQ HOK x7 i0 i1 i2
        go_wp2_with fail
        refine (HRW w4 HRD4.out).out.mono ?_
        rintro e w5 ⟨r2, rfl, hr2, _, hR5, hg5⟩
        have HST5 := Lib.hid (HST4.out.step hg5 (fun k hk => by cases hk; omega))
        have HR2 : Hid (g + 4 ≤ r2) := Lib.hid (by have := HZ4.out; omega)
        have HZ5 : Hid (g + 4 ≤ w5.heap.size) := Lib.hid (by have := HZ4.out; have := hg5.size; omega)
        have HRD := Lib.hid hR5
        clear HRW hr2 hR5 hg5 HST4 HRD4 HZ4
        by_cases h1 : E1 = 0
        rotate_left
        · have HEQ3 : Hid (G = (E1, Rcp.zero)) := Lib.hid (by rw [HEQ2.out, if_pos h1])
          have HNE := Lib.hid h1
          clear h1
          have hst := HST5.out.lb
          obtain ⟨Ae, ce, whe, hbe, _⟩ := HRD.out.ex
          rw [errV_n whe HNE.out] at hbe
          have xe := hbe.cell 1
          simp only [List.getElem?_toArray, List.getElem?_cons_zero, List.getElem?_cons_succ] at xe
          clear hbe HRD
          go_wp2_with fail
          refine (as_any whe E1 (g + 1) _ w5 HST5.out.laid HST5.out.box (by omega)).mono ?_
          rintro e w9 ⟨rfl, hb9, hg9⟩
          have hB9 := HST5.out.blk.grown hg9 (by have := HST5.out.lb; simp; omega)
          have HG9 := Lib.hid (grown_self HST5.out.grown hg9 (fun k hk => .inr (by have := HST5.out.lo; have := HST5.out.lb; cases hk; omega)))
          have HTE := Lib.hid (blk_set7 hB9 (.int .i64 0) (.bool false) (.int .u64 0) (.slice none 0 0) (.bool false) (.int .u64 0) (.int .u64 0))
          have HGE := Lib.hid (only_set7 HG9.out HST5.out.lo (.int .i64 0) (.bool false) (.int .u64 0) (.slice none 0 0) (.bool false) (.int .u64 0) (.int .u64 0))
          have xb9 := hb9.cell
          obtain ⟨y0, y1, y2, y3, y4, y5, y6, hB9⟩ : ∃ y0 y1 y2 y3 y4 y5 y6, Blk w9 b 25 #[y0, y1, y2, y3, y4, y5, y6] := ⟨_, _, _, _, _, _, _, hB9⟩
          have e0 := hB9.cell 0; have e1 := hB9.cell 1; have e2 := hB9.cell 2; have e3 := hB9.cell 3; have e4 := hB9.cell 4; have e5 := hB9.cell 5; have e6 := hB9.cell 6
          have f0 := hB9.frozen 0; have f1 := hB9.frozen 1; have f2 := hB9.frozen 2; have f3 := hB9.frozen 3; have f4 := hB9.frozen 4; have f5 := hB9.frozen 5; have f6 := hB9.frozen 6
          simp only [List.getElem?_toArray, List.getElem?_cons_zero, List.getElem?_cons_succ] at e0 e1 e2 e3 e4 e5 e6
          have n1 : g + 1 ≠ b := by have := HST5.out.lb; omega
          have n2 : b ≠ g + 1 := by have := HST5.out.lb; omega
          clear hB9 hb9 hg9 HG9 HST5 xe
          go_wp2_with fail
          go_region
          all_goals go_wp2_with fail
          all_goals
            have hq := Blk.drew HTE.out
            have hr := only_drew HGE.out
            unfold set7 at hq hr
            refine bodyPost_ret (results_ct (fn := Tryz.f18) rfl _ _ _ _ rfl (load_rcF hq)) rfl ?_
            exact RcEnd.bad HEQ3.out hr
        · subst h1
          obtain ⟨Ae, ce, whe, hbe, _⟩ := HRD.out.ex
          rw [errV_0] at hbe
          have xe := hbe.cell 1
          simp only [List.getElem?_toArray, List.getElem?_cons_zero, List.getElem?_cons_succ] at xe
          have HOF := Lib.hid (ofRc_any K (g + 3) r2 ls 0 w5 HRD.out HSZ.out)
          obtain ⟨E2, hE2⟩ : ∃ e, ofE 0 ls = e := ⟨_, rfl⟩
          obtain ⟨X, hX⟩ : ∃ e, ofX K ls = e := ⟨_, rfl⟩
          rw [hE2, hX] at HOF HEQ2
          clear hbe HRD hE2 hX
          go_wp2_with fail
          refine HOF.out.mono ?_
          rintro e w6 ⟨A, n, c, l6, rfl, hL6, hR6, hg6⟩
          have hST6 := HST5.out.step hg6 (fun k hk => by cases hk; have := HR2.out; omega)
          have hle6 := hg6.size
          have g7 := only_alloc (World.grownBy.refl w6 none) (.cells (rcpC X (.slice A n c)) 25)
          have HST7 := Lib.hid (hST6.step g7 (by simp))
          have HRD := Lib.hid (hR6.kept g7 (by simp) (by simp))
          have HL7 := Lib.hid (hL6.keep fun p _ u hu => g7.cell hu (by simp))
          have HB7 := Lib.hid (Blk.new w6 25 (rcpC X (.slice A n c)))
          have HZ7 : Hid (b < w6.heap.size ∧ b < w5.heap.size) := Lib.hid (by have := HZ5.out; have := HST5.out.lb; omega)
          obtain ⟨tb, htb⟩ : ∃ t, w6.heap.size = t := ⟨_, rfl⟩
          rw [htb] at HB7 HZ7
          clear hL6 hR6 hg6 hST6 g7 HOF HST5 hle6 xe
          unfold rcpC at *
          go_upto_region 17 with (fail)
          clear htb
          generalize w6.alloc (.cells #[.int .i64 X.kind, .bool X.status, .int .u64 (X.gas : Int), .slice A n c, .bool X.full, .int .u64 (X.nonce : Int), .int .u64 (X.version : Int)] 25) = w7 at *
          by_cases h2 : E2 = 0
          rotate_left
          · have HEQ3 : Hid (G = (E2, Rcp.zero)) := Lib.hid (by rw [HEQ2.out, if_neg (by simp), if_pos h2])
            have HNE := Lib.hid h2
            clear h2
            have hst := HST7.out.lb
            obtain ⟨Ae, ce, whe, hbe, _⟩ := HRD.out.ex
            rw [errV_n whe HNE.out] at hbe
            have xe := hbe.cell 1
            simp only [List.getElem?_toArray, List.getElem?_cons_zero, List.getElem?_cons_succ] at xe
            clear hbe HRD
            go_wp2_with fail
            refine (as_any whe E2 (g + 1) _ w7 HST7.out.laid HST7.out.box (by omega)).mono ?_
            rintro e w9 ⟨rfl, hb9, hg9⟩
            have hB9 := HST7.out.blk.grown hg9 (by have := HST7.out.lb; simp; omega)
            have HG9 := Lib.hid (grown_self HST7.out.grown hg9 (fun k hk => .inr (by have := HST7.out.lo; have := HST7.out.lb; cases hk; omega)))
            have HTE := Lib.hid (blk_set7 hB9 (.int .i64 0) (.bool false) (.int .u64 0) (.slice none 0 0) (.bool false) (.int .u64 0) (.int .u64 0))
            have HGE := Lib.hid (only_set7 HG9.out HST7.out.lo (.int .i64 0) (.bool false) (.int .u64 0) (.slice none 0 0) (.bool false) (.int .u64 0) (.int .u64 0))
            have xb9 := hb9.cell
            obtain ⟨y0, y1, y2, y3, y4, y5, y6, hB9⟩ : ∃ y0 y1 y2 y3 y4 y5 y6, Blk w9 b 25 #[y0, y1, y2, y3, y4, y5, y6] := ⟨_, _, _, _, _, _, _, hB9⟩
            have e0 := hB9.cell 0; have e1 := hB9.cell 1; have e2 := hB9.cell 2; have e3 := hB9.cell 3; have e4 := hB9.cell 4; have e5 := hB9.cell 5; have e6 := hB9.cell 6
            have f0 := hB9.frozen 0; have f1 := hB9.frozen 1; have f2 := hB9.frozen 2; have f3 := hB9.frozen 3; have f4 := hB9.frozen 4; have f5 := hB9.frozen 5; have f6 := hB9.frozen 6
            simp only [List.getElem?_toArray, List.getElem?_cons_zero, List.getElem?_cons_succ] at e0 e1 e2 e3 e4 e5 e6
            have n1 : g + 1 ≠ b := by have := HST7.out.lb; omega
            have n2 : b ≠ g + 1 := by have := HST7.out.lb; omega
            clear hB9 hb9 hg9 HG9 HST7 xe
            go_wp2_with fail
            go_region
            all_goals go_wp2_with fail
            all_goals
              have hq := Blk.drew HTE.out
              have hr := only_drew HGE.out
              unfold set7 at hq hr
              refine bodyPost_ret (results_ct (fn := Tryz.f18) rfl _ _ _ _ rfl (load_rcF hq)) rfl ?_
              exact RcEnd.bad HEQ3.out hr
          · subst h2
            have HEQ3 : Hid (G = (0, X)) := Lib.hid (by rw [HEQ2.out, if_neg (by simp), if_neg (by simp)])
            obtain ⟨Ae, ce, whe, hbe, _⟩ := HRD.out.ex
            rw [errV_0] at hbe
            have xe := hbe.cell 1
            simp only [List.getElem?_toArray, List.getElem?_cons_zero, List.getElem?_cons_succ] at xe
            have k0 := HB7.out.cell 0; have k1 := HB7.out.cell 1; have k2 := HB7.out.cell 2; have k3 := HB7.out.cell 3; have k4 := HB7.out.cell 4; have k5 := HB7.out.cell 5; have k6 := HB7.out.cell 6
            simp only [List.getElem?_toArray, List.getElem?_cons_zero, List.getElem?_cons_succ] at k0 k1 k2 k3 k4 k5 k6
            have hB9 := HST7.out.blk
            have HTE := Lib.hid (blk_set7 hB9 (.int .i64 X.kind) (.bool X.status) (.int .u64 (X.gas : Int)) (.slice A n c) (.bool X.full) (.int .u64 (X.nonce : Int)) (.int .u64 (X.version : Int)))
            have HGE := Lib.hid (only_set7 HST7.out.grown HST7.out.lo (.int .i64 X.kind) (.bool X.status) (.int .u64 (X.gas : Int)) (.slice A n c) (.bool X.full) (.int .u64 (X.nonce : Int)) (.int .u64 (X.version : Int)))
            have HLE := Lib.hid ((HL7.out.set7 (b := b) (by have := HZ7.out.2; omega) (.int .i64 X.kind) (.bool X.status) (.int .u64 (X.gas : Int)) (.slice A n c) (.bool X.full) (.int .u64 (X.nonce : Int)) (.int .u64 (X.version : Int))).toR)
            obtain ⟨y0, y1, y2, y3, y4, y5, y6, hB9⟩ : ∃ y0 y1 y2 y3 y4 y5 y6, Blk w7 b 25 #[y0, y1, y2, y3, y4, y5, y6] := ⟨_, _, _, _, _, _, _, hB9⟩
            have e0 := hB9.cell 0; have e1 := hB9.cell 1; have e2 := hB9.cell 2; have e3 := hB9.cell 3; have e4 := hB9.cell 4; have e5 := hB9.cell 5; have e6 := hB9.cell 6
            have f0 := hB9.frozen 0; have f1 := hB9.frozen 1; have f2 := hB9.frozen 2; have f3 := hB9.frozen 3; have f4 := hB9.frozen 4; have f5 := hB9.frozen 5; have f6 := hB9.frozen 6
            simp only [List.getElem?_toArray, List.getElem?_cons_zero, List.getElem?_cons_succ] at e0 e1 e2 e3 e4 e5 e6
            clear hbe HRD hB9 HB7 HL7 HST7
            go_wp2_with fail
            have hq := HTE.out
            have hr := HGE.out
            have hl := HLE.out
            unfold set7 at hq hr hl
            refine bodyPost_ret (results_ct (fn := Tryz.f18) rfl _ _ _ _ rfl (load_rcF hq)) rfl ?_
            rw [HEQ3.out]
            exact ⟨A, n, c, rfl, hl, hr⟩
end Go.Proofs.YthalohloneojlaaGreatDoor
/- Two rows of texts compared (slices.Equal). -/
namespace Go.Proofs.YthalohloneojlaaGreatDoor
open Go.RowKit Go.Shelf
set_option linter.unusedVariables false
set_option linter.unusedSimpArgs false

theorem rows_extS {xs ys : List ByteArray} (h : xs.length = ys.length) (hi : ∀ i, i < xs.length → xs.getD i .empty = ys.getD i .empty) : xs = ys := by
  apply List.ext_getElem h
  intro i h1 h2
  have := hi i h1
  rwa [List.getD_eq_getElem?_getD, List.getD_eq_getElem?_getD, List.getElem?_eq_getElem h1, List.getElem?_eq_getElem h2] at this
set_option maxRecDepth 100000 in
set_option maxHeartbeats 1000000 in
theorem equalS_any (B B' : Nat) (A A' : Option Addr) (n m c d : Nat) (xs ys : List ByteArray) (w : World) (h : Reads w B 1 A n (xs.map Value.string)) (h' : Reads w B' 1 A' m (ys.map Value.string)) (hn : n ≤ 9223372036854775807) (hm : m ≤ 9223372036854775807) :
    Calls Tryz.prog 37 #[.slice A n c, .slice A' m d] w fun e w' => e = .returned (.bool (decide (xs = ys))) ∧ w.grownBy w' none := by
  have hl : xs.length = n := by have := h.1; simpa using this
  have hl' : ys.length = m := by have := h'.1; simpa using this
  by_cases hnm : n = m
  · subst hnm
    have HL := Lib.hid hl; have HL' := Lib.hid hl'
    have qe : ((n : Int) != (n : Int)) = false := by simp
    clear hl hl'
    go_enter Tryz.func37, Tryz.ntmps37
    go_wp2_with fail
    clear qe
    go_loopw [13] (fun i wr => ∃ k : Nat, i = .int .i64 k ∧ k ≤ n ∧ (∃ q, wr = w.drewN q) ∧ Hid (∀ i : Nat, i < k → xs.getD i .empty = ys.getD i .empty)) (fun i _ => n - (intOf i).toNat)
    case atStart => exact ⟨0, rfl, by omega, ⟨0, rfl⟩, Lib.hid (by intro i h1; omega)⟩
    case round =>
      obtain ⟨k, rfl, hk, ⟨q, rfl⟩, h2⟩ := hrel
      have h2' := Lib.hid h2.out
      by_cases hlt : k < n
      · obtain ⟨g, off, rfl, hg, hc⟩ := Reads.vals Value.string .empty h hlt
        obtain ⟨g', off', rfl, hg', hc'⟩ := Reads.vals Value.string .empty h' hlt
        have c0 := hc k hlt; have d0 := hc' k hlt
        have q1 : (k : Int) < (n : Int) := by omega
        obtain ⟨x, hx⟩ : ∃ x, xs.getD k .empty = x := ⟨_, rfl⟩
        obtain ⟨y, hy⟩ : ∃ y, ys.getD k .empty = y := ⟨_, rfl⟩
        rw [hx] at c0
        rw [hy] at d0
        have HX := Lib.hid hx; have HY := Lib.hid hy
        clear h h' h2 hc hc' hx hy
        by_cases hxy : x = y
        · have heq : (x.toList == y.toList) = true := by rw [hxy]; simp
          have hne : (x.toList != y.toList) = false := by rw [bne, heq]; rfl
          have HE := Lib.hid hxy
          clear hxy
          go_wp2_with fail
          go_quiet (fail)
          go_wp2_with fail
          refine ⟨⟨k + 1, by go_num, by omega, ⟨_, rfl⟩, Lib.hid fun i hi => ?_⟩, by simp [intOf]; omega⟩
          by_cases hik : i = k
          · rw [hik, HX.out, HY.out, HE.out]
          · exact h2'.out i (by omega)
        · have heq := str_ne hxy
          have hne : (x.toList != y.toList) = true := by rw [bne, heq]; rfl
          have hf : decide (xs = ys) = false := decide_eq_false (fun e => hxy (by rw [← HX.out, ← HY.out, e]))
          have HF := Lib.hid hf
          clear hxy hf
          go_wp2_with fail
          go_quiet (fail)
          go_wp2_with fail
          go_ret
          exact ⟨by rw [HF.out]; rfl, grown_of_below (below_drewN (below_drewN (Below.refl _ w) _) _)⟩
      · have he : xs = ys := rows_extS (by rw [HL.out, HL'.out]) fun i hi => h2'.out i (by have := HL.out; omega)
        have HE := Lib.hid he
        have q0 : (n : Int) ≤ (k : Int) := by omega
        clear he h2
        go_wp2_with fail
        go_ret
        exact ⟨by rw [decide_eq_true HE.out]; rfl, grown_of_below (below_drewN (Below.refl _ _) _)⟩
  · have hne : ¬ xs = ys := by rintro rfl; exact hnm (hl.symm.trans hl')
    have HE := Lib.hid hne
    have hb : ((n : Int) != (m : Int)) = true := by simp; omega
    clear hne hnm hl hl'
    go_enter Tryz.func37, Tryz.ntmps37
    go_wp2_with fail
    go_ret
    exact ⟨by rw [decide_eq_false HE.out]; rfl, World.grownBy.refl _ _⟩
end Go.Proofs.YthalohloneojlaaGreatDoor
/- Receipts: Same: two logs, two rows of logs compared. -/
namespace Go.Proofs.YthalohloneojlaaGreatDoor
open Go.RowKit Go.Shelf
set_option linter.unusedVariables false
set_option linter.unusedSimpArgs false

noncomputable section
open Classical in
/-- whether two are one -/
def eqB {α : Type} (x y : α) : Bool := decide (x = y)
theorem eqB_t {α : Type} {x y : α} (h : x = y) : eqB x y = true := by unfold eqB; simp [h]
theorem eqB_f {α : Type} {x y : α} (h : x ≠ y) : eqB x y = false := by unfold eqB; simp [h]
theorem eqB_iff {α : Type} {x y : α} : eqB x y = true ↔ x = y := by
  by_cases h : x = y
  · rw [eqB_t h]; simp [h]
  · rw [eqB_f h]; simp [h]
theorem eqB_dec {α : Type} [DecidableEq α] (x y : α) : decide (x = y) = eqB x y := by
  by_cases h : x = y
  · rw [eqB_t h]; exact decide_eq_true h
  · rw [eqB_f h]; exact decide_eq_false h
set_option maxRecDepth 100000 in
set_option maxHeartbeats 2000000 in
theorem sameLog_any (x y : LogV) (B B' : Nat) (T T' : Option Addr) (tc tc' : Nat) (w : World) (h : Reads w B 1 T x.topics.length (x.topics.map Value.string)) (h' : Reads w B' 1 T' y.topics.length (y.topics.map Value.string)) (hB : B ≤ w.heap.size) (hB' : B' ≤ w.heap.size) (hn : x.topics.length ≤ 9223372036854775807) (hm : y.topics.length ≤ 9223372036854775807) :
    Calls Tryz.prog 36 #[.agg (logC x T tc), .agg (logC y T' tc')] w fun e w' => e = .returned (.bool (eqB x y)) ∧ w.grownBy w' none := by
  obtain ⟨xa, xt, xd⟩ := x
  obtain ⟨ya, yt, yd⟩ := y
  simp only [logC] at *
  have hG := only_alloc (only_alloc (World.grownBy.refl w none) (.cells #[.string xa, .slice T xt.length tc, .string xd] 40)) (.cells #[.string ya, .slice T' yt.length tc', .string yd] 40)
  have hb1 := (Blk.new w 40 #[.string xa, .slice T xt.length tc, .string xd]).alloc (.cells #[.string ya, .slice T' yt.length tc', .string yd] 40)
  have hb2 := Blk.new (w.alloc (.cells #[.string xa, .slice T xt.length tc, .string xd] 40)) 40 #[.string ya, .slice T' yt.length tc', .string yd]
  rw [World.size_alloc] at hb2
  have hq := fun (V : World) (hV : w.grownBy V none) => equalS_any B B' T T' xt.length yt.length tc tc' xt yt V (h.grown hV hB (by simp)) (h'.grown hV hB' (by simp)) hn hm
  rw [eqB_dec] at hq
  have HQ := Lib.hid hq
  have HG := Lib.hid hG
  obtain ⟨g, hg⟩ : ∃ g, w.heap.size = g := ⟨_, rfl⟩
  rw [hg] at hb1 hb2
  have c0 := hb1.cell 0; have c1 := hb1.cell 1; have c2 := hb1.cell 2
  have d0 := hb2.cell 0; have d1 := hb2.cell 1; have d2 := hb2.cell 2
  simp only [List.getElem?_toArray, List.getElem?_cons_zero, List.getElem?_cons_succ] at c0 c1 c2 d0 d1 d2
  clear hG hb1 hb2 hq h h' hB hB' hn hm
  by_cases h1 : xa = ya
  · subst h1
    have e1 : (xa.toList == xa.toList) = true := by simp
    by_cases h2 : xd = yd
    · subst h2
      have e2 : (xd.toList == xd.toList) = true := by simp
      have hr : eqB (LogV.mk xa xt xd) (LogV.mk xa yt xd) = eqB xt yt := by
        by_cases h3 : xt = yt
        · rw [eqB_t h3, eqB_t (by rw [h3])]
        · rw [eqB_f h3, eqB_f (by intro e; injection e; exact h3 (by assumption))]
      rw [hr]
      clear hr
      generalize eqB xt yt = r at *
      generalize xt.length = n at *
      generalize yt.length = m at *
      go_enter Tryz.func36, Tryz.ntmps36
      go_upto_region 1 with (fail)
      generalize (w.alloc (.cells #[.string xa, .slice T n tc, .string xd] 40)).alloc (.cells #[.string xa, .slice T' m tc', .string xd] 40) = w1 at *
      go_wp2_with fail
      refine (HQ.out _ HG.out).mono ?_
      rintro e w2 ⟨rfl, hg2⟩
      have HG2 := Lib.hid (grown_self HG.out hg2 (by simp))
      clear hg2 c0 c1 c2 d0 d1 d2
      go_wp2_with fail
      go_ret
      exact ⟨rfl, HG2.out⟩
    · rw [eqB_f (by intro e; injection e; exact h2 (by assumption))]
      have e2 := str_ne h2
      clear HQ h2
      go_enter Tryz.func36, Tryz.ntmps36
      go_wp2_with fail
      go_ret
      exact ⟨rfl, HG.out⟩
  · rw [eqB_f (by intro e; injection e; exact h1 (by assumption))]
    have e1 := str_ne h1
    clear HQ h1
    go_enter Tryz.func36, Tryz.ntmps36
    go_wp2_with fail
    go_ret
    exact ⟨rfl, HG.out⟩
theorem logs_ext {xs ys : List LogV} (h : xs.length = ys.length) (hi : ∀ i, i < xs.length → xs.getD i LogV.none_ = ys.getD i LogV.none_) : xs = ys := by
  apply List.ext_getElem h
  intro i h1 h2
  have := hi i h1
  rwa [List.getD_eq_getElem?_getD, List.getD_eq_getElem?_getD, List.getElem?_eq_getElem h1, List.getElem?_eq_getElem h2] at this
set_option maxRecDepth 100000 in
set_option maxHeartbeats 2000000 in
theorem equalL_any (B B' : Nat) (A A' : Option Addr) (n m c d : Nat) (xs ys : List LogV) (w : World) (h : LogsR B w xs A n) (h' : LogsR B' w ys A' m) (hB : B ≤ w.heap.size) (hB' : B' ≤ w.heap.size) (hn : n ≤ 9223372036854775807) (hm : m ≤ 9223372036854775807) :
    Calls Tryz.prog 38 #[.slice A n c, .slice A' m d, .func (.func 36) #[] #[]] w fun e w' => e = .returned (.bool (eqB xs ys)) ∧ w.grownBy w' none := by
  have hl := h.1
  have hl' := h'.1
  by_cases hnm : n = m
  · subst hnm
    have HL := Lib.hid hl; have HL' := Lib.hid hl'
    have HX := Lib.hid h; have HY := Lib.hid h'; have HB := Lib.hid hB; have HB' := Lib.hid hB'
    have qe : ((n : Int) != (n : Int)) = false := by simp
    clear hl hl' h h' hB hB'
    go_enter Tryz.func38, Tryz.ntmps38
    go_wp2_with fail
    clear qe
    go_loopw [17] (fun i wr => ∃ k : Nat, i = .int .i64 k ∧ k ≤ n ∧ w.grownBy wr none ∧ Hid (∀ i : Nat, i < k → xs.getD i LogV.none_ = ys.getD i LogV.none_)) (fun i _ => n - (intOf i).toNat)
    case atStart => exact ⟨0, rfl, by omega, World.grownBy.refl _ _, Lib.hid (by intro i h1; omega)⟩
    case round =>
      obtain ⟨k, rfl, h1, hg, h2⟩ := hrel
      have h2' := Lib.hid h2.out
      have HGR := Lib.hid hg
      by_cases hlt : k < n
      · have hx := HX.out.grown hg HB.out
        have hy := HY.out.grown hg HB'.out
        obtain ⟨b, off, rfl, hb, hc⟩ := hx.2 (by omega)
        obtain ⟨b', off', rfl, hb', hc'⟩ := hy.2 (by omega)
        obtain ⟨T, tc, c0, c1, c2, rx, lx, _⟩ := hc k hlt
        obtain ⟨T', tc', d0, d1, d2, ry, ly, _⟩ := hc' k hlt
        have q0 : (k : Int) < (n : Int) := by omega
        have hb := Nat.lt_of_lt_of_le hb (Nat.le_trans HB.out hg.size)
        have hb' := Nat.lt_of_lt_of_le hb' (Nat.le_trans HB'.out hg.size)
        obtain ⟨x, hx'⟩ : ∃ x, xs.getD k LogV.none_ = x := ⟨_, rfl⟩
        obtain ⟨y, hy'⟩ : ∃ y, ys.getD k LogV.none_ = y := ⟨_, rfl⟩
        rw [hx'] at c0 c1 c2 rx lx
        rw [hy'] at d0 d1 d2 ry ly
        have hS := fun (V : World) (hV : wr.grownBy V none) => sameLog_any x y B B' T T' tc tc' V (rx.grown hV (Nat.le_trans HB.out hg.size) (by simp)) (ry.grown hV (Nat.le_trans HB'.out hg.size) (by simp)) (Nat.le_trans (Nat.le_trans HB.out hg.size) hV.size) (Nat.le_trans (Nat.le_trans HB'.out hg.size) hV.size) lx ly
        unfold logC at hS
        have HSS := Lib.hid hS
        have HXY := Lib.hid hx'; have HYY := Lib.hid hy'
        clear hS hx hy hc hc' hx' hy' h2 hg rx ry lx ly
        generalize x.topics.length = xn at *
        generalize y.topics.length = yn at *
        have hG1 := only_alloc (only_alloc (World.grownBy.refl wr none) (.cells #[.string x.addr, .slice T xn tc, .string x.data] 40)) (.cells #[.string y.addr, .slice T' yn tc', .string y.data] 40)
        have HG1 := Lib.hid hG1
        clear hG1
        go_wp2_with fail
        refine (HSS.out _ HG1.out).mono ?_
        rintro e w1 ⟨rfl, hg1⟩
        have hG2 := Lib.hid (grown_self (grown_self HGR.out HG1.out (by simp)) hg1 (by simp))
        by_cases hxy : x = y
        · rw [eqB_t hxy]
          have HE := Lib.hid hxy
          clear hxy HSS c0 c1 c2 d0 d1 d2 HG1 hg1
          go_wp2_with fail
          refine ⟨⟨k + 1, by go_num, by omega, hG2.out, Lib.hid fun i hi => ?_⟩, by simp [intOf]; omega⟩
          by_cases hik : i = k
          · rw [hik, HXY.out, HYY.out, HE.out]
          · exact h2'.out i (by omega)
        · rw [eqB_f hxy]
          have HE := Lib.hid hxy
          have hf := eqB_f (x := xs) (y := ys) (fun e => hxy (by rw [← HXY.out, ← HYY.out, e]))
          have HF := Lib.hid hf
          clear hxy HSS c0 c1 c2 d0 d1 d2 HG1 hg1 hf
          go_wp2_with fail
          go_ret
          exact ⟨by rw [HF.out]; rfl, hG2.out⟩
      · have he : xs = ys := logs_ext (by rw [HL.out, HL'.out]) fun i hi => h2.out i (by have := HL.out; omega)
        have HE := Lib.hid he
        have q0 : (n : Int) ≤ (k : Int) := by omega
        clear he h2 hg
        go_wp2_with fail
        go_ret
        exact ⟨by rw [eqB_t HE.out]; rfl, HGR.out⟩
  · have hne : ¬ xs = ys := by rintro rfl; exact hnm (hl.symm.trans hl')
    have HE := Lib.hid hne
    have hb : ((n : Int) != (m : Int)) = true := by simp; omega
    clear hne hnm hl hl' h h'
    go_enter Tryz.func38, Tryz.ntmps38
    go_wp2_with fail
    go_ret
    exact ⟨by rw [eqB_f HE.out]; rfl, World.grownBy.refl _ _⟩
set_option maxRecDepth 100000 in
set_option maxHeartbeats 4000000 in
theorem sameRc_any (x y : Rcp) (B B' : Nat) (A A' : Option Addr) (n m c d : Nat) (w : World) (h : LogsR B w x.logs A n) (h' : LogsR B' w y.logs A' m) (hB : B ≤ w.heap.size) (hB' : B' ≤ w.heap.size) (hn : n ≤ 9223372036854775807) (hm : m ≤ 9223372036854775807) :
    Calls Tryz.prog 17 #[.agg (rcpC x (.slice A n c)), .agg (rcpC y (.slice A' m d))] w fun e w' => e = .returned (.bool (eqB x y)) ∧ w.grownBy w' none := by
  obtain ⟨xk, xs, xg, xl, xf, xn, xv⟩ := x
  obtain ⟨yk, ys, yg, yl, yf, yn, yv⟩ := y
  simp only [rcpC] at *
  have hG := only_alloc (only_alloc (World.grownBy.refl w none) (.cells #[.int .i64 xk, .bool xs, .int .u64 (xg : Int), .slice A n c, .bool xf, .int .u64 (xn : Int), .int .u64 (xv : Int)] 25)) (.cells #[.int .i64 yk, .bool ys, .int .u64 (yg : Int), .slice A' m d, .bool yf, .int .u64 (yn : Int), .int .u64 (yv : Int)] 25)
  have hb1 := (Blk.new w 25 #[.int .i64 xk, .bool xs, .int .u64 (xg : Int), .slice A n c, .bool xf, .int .u64 (xn : Int), .int .u64 (xv : Int)]).alloc (.cells #[.int .i64 yk, .bool ys, .int .u64 (yg : Int), .slice A' m d, .bool yf, .int .u64 (yn : Int), .int .u64 (yv : Int)] 25)
  have hb2 := Blk.new (w.alloc (.cells #[.int .i64 xk, .bool xs, .int .u64 (xg : Int), .slice A n c, .bool xf, .int .u64 (xn : Int), .int .u64 (xv : Int)] 25)) 25 #[.int .i64 yk, .bool ys, .int .u64 (yg : Int), .slice A' m d, .bool yf, .int .u64 (yn : Int), .int .u64 (yv : Int)]
  rw [World.size_alloc] at hb2
  have HQ := Lib.hid (fun (V : World) (hV : w.grownBy V none) => equalL_any B B' A A' n m c d xl yl V (h.grown hV hB) (h'.grown hV hB') (Nat.le_trans hB hV.size) (Nat.le_trans hB' hV.size) hn hm)
  have HG := Lib.hid hG
  obtain ⟨g, hg⟩ : ∃ g, w.heap.size = g := ⟨_, rfl⟩
  rw [hg] at hb1 hb2
  obtain ⟨R, hR⟩ : ∃ R, eqB (Rcp.mk xk xs xg xl xf xn xv) (Rcp.mk yk ys yg yl yf yn yv) = R := ⟨_, rfl⟩
  rw [hR]
  have hne : ¬ (xk = yk ∧ xs = ys ∧ xg = yg ∧ xf = yf ∧ xn = yn ∧ xv = yv) → R = false := by
    intro hh
    rw [← hR]
    apply eqB_f
    intro e
    injection e with e1 e2 e3 e4 e5 e6 e7
    exact hh ⟨e1, e2, e3, e5, e6, e7⟩
  have heq : (xk = yk ∧ xs = ys ∧ xg = yg ∧ xf = yf ∧ xn = yn ∧ xv = yv) → R = eqB xl yl := by
    rintro ⟨rfl, rfl, rfl, rfl, rfl, rfl⟩
    rw [← hR]
    by_cases hh : xl = yl
    · rw [eqB_t hh, eqB_t (by rw [hh])]
    · rw [eqB_f hh, eqB_f (by intro e; injection e; exact hh (by assumption))]
  have HNE := Lib.hid hne; have HEQ := Lib.hid heq
  clear h h' hB hB' hn hm hG hR hne heq
  go_enter Tryz.func17, Tryz.ntmps17
  go_upto_region 1 with (fail)
  clear hg
  generalize (w.alloc (.cells #[.int .i64 xk, .bool xs, .int .u64 (xg : Int), .slice A n c, .bool xf, .int .u64 (xn : Int), .int .u64 (xv : Int)] 25)).alloc (.cells #[.int .i64 yk, .bool ys, .int .u64 (yg : Int), .slice A' m d, .bool yf, .int .u64 (yn : Int), .int .u64 (yv : Int)] 25) = w1 at *
  have c0 := hb1.cell 0; have c1 := hb1.cell 1; have c2 := hb1.cell 2; have c3 := hb1.cell 3; have c4 := hb1.cell 4; have c5 := hb1.cell 5; have c6 := hb1.cell 6
  have d0 := hb2.cell 0; have d1 := hb2.cell 1; have d2 := hb2.cell 2; have d3 := hb2.cell 3; have d4 := hb2.cell 4; have d5 := hb2.cell 5; have d6 := hb2.cell 6
  simp only [List.getElem?_toArray, List.getElem?_cons_zero, List.getElem?_cons_succ] at c0 c1 c2 c3 c4 c5 c6 d0 d1 d2 d3 d4 d5 d6
  clear hb1 hb2
  by_cases h1 : xk = yk
  rotate_left
  · have q1 : (xk == yk) = false := by simp; omega
    obtain rfl := HNE.out (by simp [h1])
    clear h1 HQ HEQ HNE
    go_wp2_with fail
    go_ret
    exact ⟨rfl, HG.out⟩
  have q1 : (xk == yk) = true := by simp [h1]
  by_cases h2 : xs = ys
  rotate_left
  · have q2 : (xs == ys) = false := by simpa using h2
    obtain rfl := HNE.out (by simp [h2])
    clear h2 HQ HEQ HNE
    go_wp2_with fail
    go_ret
    exact ⟨rfl, HG.out⟩
  have q2 : (xs == ys) = true := by simp [h2]
  by_cases h3 : xg = yg
  rotate_left
  · have q3 : ((xg : Int) == (yg : Int)) = false := by simp; omega
    obtain rfl := HNE.out (by simp [h3])
    clear h3 HQ HEQ HNE
    go_wp2_with fail
    go_ret
    exact ⟨rfl, HG.out⟩
  have q3 : ((xg : Int) == (yg : Int)) = true := by simp [h3]
  by_cases h4 : xf = yf
  rotate_left
  · have q4 : (xf == yf) = false := by simpa using h4
    obtain rfl := HNE.out (by simp [h4])
    clear h4 HQ HEQ HNE
    go_wp2_with fail
    go_ret
    exact ⟨rfl, HG.out⟩
  have q4 : (xf == yf) = true := by simp [h4]
  by_cases h5 : xn = yn
  rotate_left
  · have q5 : ((xn : Int) == (yn : Int)) = false := by simp; omega
    obtain rfl := HNE.out (by simp [h5])
    clear h5 HQ HEQ HNE
    go_wp2_with fail
    go_ret
    exact ⟨rfl, HG.out⟩
  have q5 : ((xn : Int) == (yn : Int)) = true := by simp [h5]
  by_cases h6 : xv = yv
  rotate_left
  · have q6 : ((xv : Int) == (yv : Int)) = false := by simp; omega
    obtain rfl := HNE.out (by simp [h6])
    clear h6 HQ HEQ HNE
    go_wp2_with fail
    go_ret
    exact ⟨rfl, HG.out⟩
  have q6 : ((xv : Int) == (yv : Int)) = true := by simp [h6]
  have hq := HQ.out
  rw [← HEQ.out ⟨h1, h2, h3, h4, h5, h6⟩] at hq
  have HQ := Lib.hid hq
  clear hq h1 h2 h3 h4 h5 h6 HEQ HNE
  go_wp2_with fail
  refine (HQ.out _ HG.out).mono ?_
  rintro e w2 ⟨rfl, hg2⟩
  have HG2 := Lib.hid (grown_self HG.out hg2 (by simp))
  clear hg2 c0 c1 c2 c3 c4 c5 c6 d0 d1 d2 d3 d4 d5 d6
  go_wp2_with fail
  go_ret
  exact ⟨rfl, HG2.out⟩
end
end Go.Proofs.YthalohloneojlaaGreatDoor
/- Receipts: the closed facts of works. -/
namespace Go.Proofs.YthalohloneojlaaGreatDoor
open Go.RowKit Go.Shelf
set_option linter.unusedVariables false
set_option linter.unusedSimpArgs false

def rcD : Rcp := ⟨126, true, 5, [], true, 7, 1⟩
def rcF : Rcp := ⟨0, false, 0, [], true, 0, 0⟩
theorem wk_1 : putRcE Rcp.zero = 0 ∧ putRcL Rcp.zero = [195, 128, 128, 192] := by refine ⟨?_, ?_⟩ <;> decide +kernel
theorem wk_2 : getR [195, 128, 128, 192] = (0, Rcp.zero) := by kernel_rfl
theorem wk_3 : putRcE rcD = 0 ∧ putRcL rcD = [126, 197, 1, 5, 192, 7, 1] := by refine ⟨?_, ?_⟩ <;> decide +kernel
theorem wk_4 : getR [126, 197, 1, 5, 192, 7, 1] = (0, rcD) := by kernel_rfl
theorem wk_5 : putRcE rcF = 2 := by decide +kernel
theorem wk_6 : getR [3, 192] = (9, Rcp.zero) := by kernel_rfl
theorem wk_7 : checkRc rcD = 0 ∧ formRc rcD = 2 ∧ formRc Rcp.zero = 0 := by refine ⟨?_, ?_, ?_⟩ <;> decide +kernel
theorem wk_8 : Rcp.zero ≠ rcD := by intro h; injection h; contradiction
theorem decodeRc_any (s : ByteArray) (hs : s.size ≤ 9223372036854775807) (w : World) (hv : ErrLaid w) : Calls Tryz.prog 18 #[.string s] w (RcEnd (getR s.data.toList) w) := by
  by_cases h : s = ⟨#[]⟩
  · subst h; exact decRc_none w
  · exact decRc_some s hs w h hv
end Go.Proofs.YthalohloneojlaaGreatDoor
