/- Merged: RdG. -/
import Derived.Test.YthalohloneojlaaGreatDoorMh1
import Derived.Test.YthalohloneojlaaGreatDoorMh20
import Derived.Test.YthalohloneojlaaGreatDoorMh21
import Derived.Test.YthalohloneojlaaGreatDoorMh23
import Derived.Test.YthalohloneojlaaGreatDoorMh26
/- Receipts: the walk of ReceiptEncodes. -/
namespace Go.Proofs.YthalohloneojlaaGreatDoor
open Go.RowKit Go.Shelf
set_option linter.unusedVariables false
set_option linter.unusedSimpArgs false

/-- a receipt that stands boxed, its logs below -/
structure RcSt (W V : World) (g : Nat) (x : Rcp) (A : Option Addr) (n c : Nat) : Prop where
  grown : W.grownBy V none
  blk : Blk V g 25 (rcpC x (.slice A n c))
  reads : LogsR W.heap.size V x.logs A n
theorem RcSt.base {W V : World} {g : Nat} {x : Rcp} {A : Option Addr} {n c : Nat} (h : RcSt W V g x A n c) : W.heap.size ≤ V.heap.size := h.grown.size
theorem RcSt.step {W V V' : World} {g : Nat} {x : Rcp} {A : Option Addr} {n c : Nat} (h : RcSt W V g x A n c) (hg : V.grownBy V' none) : RcSt W V' g x A n c := ⟨grown_self h.grown hg (by simp), h.blk.grown hg (by simp), h.reads.grown hg h.base⟩
theorem RcSt.cells {W V : World} {g : Nat} {x : Rcp} {A : Option Addr} {n c : Nat} (h : RcSt W V g x A n c) : V.cell? ⟨g, 0, none⟩ = some (.int .i64 x.kind) ∧ V.cell? ⟨g, 1, none⟩ = some (.bool x.status) ∧ V.cell? ⟨g, 2, none⟩ = some (.int .u64 (x.gas : Int)) ∧ V.cell? ⟨g, 3, none⟩ = some (.slice A n c) ∧ V.cell? ⟨g, 4, none⟩ = some (.bool x.full) ∧ V.cell? ⟨g, 5, none⟩ = some (.int .u64 (x.nonce : Int)) ∧ V.cell? ⟨g, 6, none⟩ = some (.int .u64 (x.version : Int)) := by
  have hb := h.blk
  unfold rcpC at hb
  have c0 := hb.cell 0; have c1 := hb.cell 1; have c2 := hb.cell 2; have c3 := hb.cell 3; have c4 := hb.cell 4; have c5 := hb.cell 5; have c6 := hb.cell 6
  simp only [List.getElem?_toArray, List.getElem?_cons_zero, List.getElem?_cons_succ] at c0 c1 c2 c3 c4 c5 c6
  exact ⟨c0, c1, c2, c3, c4, c5, c6⟩
set_option maxRecDepth 100000 in
set_option maxHeartbeats 8000000 in
theorem rencodes_law (x o : Rcp) (hok : x.Ok) (A A' : Option Addr) (n c m d : Nat) (w : World) (h : LogsR w.heap.size w x.logs A n) (hn : n ≤ 9223372036854775807) (h' : LogsR w.heap.size w o.logs A' m) (hm : m ≤ 9223372036854775807) (hv : ErrLaid w) :
    Calls Tryz.prog 3 #[.agg (rcpC x (.slice A n c)), .agg (rcpC o (.slice A' m d))] w fun e w' => e = .returned (.bool true) ∧ w.grownBy w' none := by
  have hG1 := only_alloc (World.grownBy.refl w none) (.cells (rcpC x (.slice A n c)) 25)
  have hG := only_alloc hG1 (.cells (rcpC o (.slice A' m d)) 25)
  have hb1 := (Blk.new w 25 (rcpC x (.slice A n c))).alloc (.cells (rcpC o (.slice A' m d)) 25)
  have hb2 := Blk.new (w.alloc (.cells (rcpC x (.slice A n c)) 25)) 25 (rcpC o (.slice A' m d))
  rw [World.size_alloc] at hb2
  have HS : Hid (RcSt w _ w.heap.size x A n c) := Lib.hid ⟨hG, hb1, h.grown hG (Nat.le_refl _)⟩
  have HO : Hid (RcSt w _ (w.heap.size + 1) o A' m d) := Lib.hid ⟨hG, hb2, h'.grown hG (Nat.le_refl _)⟩
  have HWK := Lib.hid (fun (V : World) (hV : w.grownBy V none) => worksRc_any V (hv.kept hV (by simp)))
  have H1 := Lib.hid (fun V B hR hB => fewRc2_any x B A n c V hR hB hn)
  have H2 := Lib.hid (fun V B hR hB => fewRc2_any o B A' m d V hR hB hm)
  have H3 := Lib.hid (fun V B hR hB => checkD_any x B A n c V hR hB hn)
  have H4 := Lib.hid (fun V => formD_any x (.slice A n c) ⟨_, _, _, rfl⟩ V)
  have H5 : Hid (FewP2 x → ∀ V B hR hB, _) := Lib.hid (fun hf V B hR hB => (by have q := encodeRc_any x hok B A n c V hR hB hn; rwa [put_err hok (fun l hl => (hf l hl).1)] at q))
  have H6 : Hid (FewP2 x → ∀ V B hR hB, _) := Lib.hid (fun hf V B hR hB => (by have q := encodeD_any x hok B A n c V hR hB hn; rwa [encDL_put hok (fun l hl => (hf l hl).1)] at q))
  have H7 : Hid (FewP2 x → FewP2 o → ∀ V B B' hR hR' hB hB', _) := Lib.hid (fun hf hf' V B B' hR hR' hB hB' => sameD_any x o B B' A A' n m c d V hR hR' hB hB' hn hm (fun l hl => by have := (hf l hl).2; omega) (fun l hl => by have := (hf' l hl).2; omega))
  have H8 := Lib.hid (fun V B hR hB => checkRc_any x B A n c V hR hB hn)
  have H9 := Lib.hid (fun V => formRc_any x (.slice A n c) ⟨_, _, _, rfl⟩ V)
  have H10 := Lib.hid (fun V B B' hR hR' hB hB' => sameRc_any x o B B' A A' n m c d V hR hR' hB hB' hn hm)
  clear hG1 hG hb1 hb2 h h' hn hm hv hok
  generalize checkRc x = ck at *
  generalize formRc x = fm at *
  generalize (⟨(putRcL x).toArray⟩ : ByteArray) = P at *
  generalize eqB x o = sm at *
  obtain ⟨xk, xs, xg, xl, xf, xn, xv⟩ := x
  obtain ⟨ok, os, og, ol, of, on, ov⟩ := o
  simp only [rcpC] at *
  obtain ⟨g, hg⟩ : ∃ g, w.heap.size = g := ⟨_, rfl⟩
  rw [hg] at HS HO
  go_enter Tryz.func3, Tryz.ntmps3
  go_upto_region 1 with (fail)
  generalize (w.alloc (.cells #[.int .i64 xk, .bool xs, .int .u64 (xg : Int), .slice A n c, .bool xf, .int .u64 (xn : Int), .int .u64 (xv : Int)] 25)).alloc (.cells #[.int .i64 ok, .bool os, .int .u64 (og : Int), .slice A' m d, .bool of, .int .u64 (on : Int), .int .u64 (ov : Int)] 25) = w1 at *
  clear hg
  have e1 : (ck == ck) = true := by simp
  have e2 : (fm == fm) = true := by simp
  have e3 : (P.toList == P.toList) = true := by simp
  have e4 : (sm == sm) = true := by simp
  go_wp2_with fail
  refine (HWK.out w1 HS.out.grown).mono ?_
  rintro e w2 ⟨rfl, hg⟩
  replace HS := Lib.hid (HS.out.step hg); replace HO := Lib.hid (HO.out.step hg)
  clear hg HWK
  obtain ⟨c0, c1, c2, c3, c4, c5, c6⟩ := HS.out.cells
  go_wp2_with fail
  refine (H1.out _ _ HS.out.reads HS.out.base).mono ?_
  rintro e w3 ⟨⟨few, rfl, hf1⟩, hg⟩
  replace HS := Lib.hid (HS.out.step hg); replace HO := Lib.hid (HO.out.step hg)
  have HF1 := Lib.hid hf1
  clear c0 c1 c2 c3 c4 c5 c6
  clear hg hf1 H1
  cases few with
  | false =>
    clear HF1
    go_wp2_with fail
    go_ret
    exact ⟨rfl, HS.out.grown⟩
  | true =>
  replace HF1 := Lib.hid (HF1.out rfl)
  replace H5 := Lib.hid (H5.out HF1.out)
  replace H6 := Lib.hid (H6.out HF1.out)
  replace H7 := Lib.hid (H7.out HF1.out)
  clear HF1
  obtain ⟨d0, d1, d2, d3, d4, d5, d6⟩ := HO.out.cells
  go_wp2_with fail
  refine (H2.out _ _ HO.out.reads HO.out.base).mono ?_
  rintro e w4 ⟨⟨few', rfl, hf2⟩, hg⟩
  replace HS := Lib.hid (HS.out.step hg); replace HO := Lib.hid (HO.out.step hg)
  have HF2 := Lib.hid hf2
  clear d0 d1 d2 d3 d4 d5 d6
  clear hg hf2 H2
  cases few' with
  | false =>
    clear HF2
    go_wp2_with fail
    go_ret
    exact ⟨rfl, HS.out.grown⟩
  | true =>
  replace HF2 := Lib.hid (HF2.out rfl)
  replace H7 := Lib.hid (H7.out HF2.out)
  clear HF2
  obtain ⟨c0, c1, c2, c3, c4, c5, c6⟩ := HS.out.cells
  go_wp2_with fail
  refine (H3.out _ _ HS.out.reads HS.out.base).mono ?_
  rintro e w5 ⟨rfl, hg⟩
  replace HS := Lib.hid (HS.out.step hg); replace HO := Lib.hid (HO.out.step hg)
  clear c0 c1 c2 c3 c4 c5 c6
  clear hg H3
  obtain ⟨c0, c1, c2, c3, c4, c5, c6⟩ := HS.out.cells
  go_wp2_with fail
  refine (H4.out _).mono ?_
  rintro e w6 ⟨rfl, hg⟩
  replace HS := Lib.hid (HS.out.step hg); replace HO := Lib.hid (HO.out.step hg)
  clear c0 c1 c2 c3 c4 c5 c6
  clear hg H4
  obtain ⟨c0, c1, c2, c3, c4, c5, c6⟩ := HS.out.cells
  go_wp2_with fail
  refine (H5.out _ _ HS.out.reads HS.out.base).mono ?_
  rintro e w7 ⟨rfl, hg⟩
  replace HS := Lib.hid (HS.out.step hg); replace HO := Lib.hid (HO.out.step hg)
  clear c0 c1 c2 c3 c4 c5 c6
  clear hg H5
  obtain ⟨c0, c1, c2, c3, c4, c5, c6⟩ := HS.out.cells
  go_wp2_with fail
  refine (H6.out _ _ HS.out.reads HS.out.base).mono ?_
  rintro e w8 ⟨rfl, hg⟩
  replace HS := Lib.hid (HS.out.step hg); replace HO := Lib.hid (HO.out.step hg)
  clear c0 c1 c2 c3 c4 c5 c6
  clear hg H6
  obtain ⟨c0, c1, c2, c3, c4, c5, c6⟩ := HS.out.cells
  obtain ⟨d0, d1, d2, d3, d4, d5, d6⟩ := HO.out.cells
  go_wp2_with fail
  refine (H7.out _ _ _ HS.out.reads HO.out.reads HS.out.base HO.out.base).mono ?_
  rintro e w9 ⟨rfl, hg⟩
  replace HS := Lib.hid (HS.out.step hg); replace HO := Lib.hid (HO.out.step hg)
  clear c0 c1 c2 c3 c4 c5 c6
  clear d0 d1 d2 d3 d4 d5 d6
  clear hg H7
  obtain ⟨c0, c1, c2, c3, c4, c5, c6⟩ := HS.out.cells
  go_wp2_with fail
  refine (H8.out _ _ HS.out.reads HS.out.base).mono ?_
  rintro e w10 ⟨rfl, hg⟩
  replace HS := Lib.hid (HS.out.step hg); replace HO := Lib.hid (HO.out.step hg)
  clear c0 c1 c2 c3 c4 c5 c6
  clear hg H8
  obtain ⟨c0, c1, c2, c3, c4, c5, c6⟩ := HS.out.cells
  go_wp2_with fail
  refine (H9.out _).mono ?_
  rintro e w11 ⟨rfl, hg⟩
  replace HS := Lib.hid (HS.out.step hg); replace HO := Lib.hid (HO.out.step hg)
  clear c0 c1 c2 c3 c4 c5 c6
  clear hg H9
  obtain ⟨c0, c1, c2, c3, c4, c5, c6⟩ := HS.out.cells
  obtain ⟨d0, d1, d2, d3, d4, d5, d6⟩ := HO.out.cells
  go_wp2_with fail
  refine (H10.out _ _ _ HS.out.reads HO.out.reads HS.out.base HO.out.base).mono ?_
  rintro e w12 ⟨rfl, hg⟩
  replace HS := Lib.hid (HS.out.step hg)
  clear c0 c1 c2 c3 c4 c5 c6
  clear d0 d1 d2 d3 d4 d5 d6
  clear hg H10
  go_wp2_with fail
  go_ret
  exact ⟨by simp, HS.out.grown⟩
end Go.Proofs.YthalohloneojlaaGreatDoor
