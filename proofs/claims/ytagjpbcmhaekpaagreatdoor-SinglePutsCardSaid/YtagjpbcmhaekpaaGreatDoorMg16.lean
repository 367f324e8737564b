/- Merged: SzE. -/
import Derived.Test.YtagjpbcmhaekpaaGreatDoorMg15
/- Batches of one block: the walk of SinglePuts. -/
namespace Go.Proofs.YtagjpbcmhaekpaaGreatDoor
open Go.RowKit Go.Shelf
set_option linter.unusedVariables false
set_option linter.unusedSimpArgs false

set_option maxRecDepth 100000 in
set_option maxHeartbeats 4000000 in
theorem sputs_law (b o : Sgl) (hk : b.Ok) (A A' : Option Addr) (n c n' c' : Nat) (W : World) (hR : Reads W W.heap.size 1 A n (b.txs.map Value.string)) (hn : n ≤ 9223372036854775807)
    (hR' : Reads W W.heap.size 1 A' n' (o.txs.map Value.string)) (hn' : n' ≤ 9223372036854775807) :
    Calls Tryz.prog 3 #[.agg (sglC b (.slice A n c)), .agg (sglC o (.slice A' n' c'))] W fun e w' => e = .returned (.bool true) ∧ Below W.heap.size W w' := by
  have hl : b.txs.length = n := by have := hR.1; simpa using this
  have hl' : o.txs.length = n' := by have := hR'.1; simpa using this
  have hst := SglSt.new W (c := c) (World.grownBy.refl W none) hR (Nat.le_refl _)
  have ha1 := only_alloc (World.grownBy.refl W none) (.cells (sglC b (.slice A n c)) 25)
  have hso := SglSt.new W (w := W.alloc (.cells (sglC b (.slice A n c)) 25)) (c := c') ha1 (hR'.grown ha1 (Nat.le_refl _) (by simp)) (Nat.le_trans (Nat.le_refl _) ha1.size)
  have hst := hst.step (only_alloc (World.grownBy.refl _ none) (.cells (sglC o (.slice A' n' c')) 25))
  rw [World.size_alloc] at hso
  have HS := Lib.hid hst; have HO := Lib.hid hso
  have H1 := Lib.hid (fun V B hR hB => fewSg_any b B A n c V hR hB hn)
  have H2 := Lib.hid (fun V B hR hB => fewSg_any o B A' n' c' V hR hB hn')
  have H3 := Lib.hid (fun V B hR hB => checkR_16 b B A n c V hR hB hn)
  have H4 := Lib.hid (fun V B hR hB => putSg_any b hk B A n c V hR hB hn)
  have H5 := Lib.hid (fun V B hR hB => putR_16 b hk B A n c V hR hB hn)
  have H6 : Hid (fewS b = true → fewS o = true → ∀ V B B' hR hB hR' hB', _) := Lib.hid (fun hf hf' V B B' hR hB hR' hB' => sameR_16 b o B B' A A' n n' c c' V hR hR' hB hB' (by have := (fewS_1 hf).1; omega) (by have := (fewS_1 hf').1; omega))
  have H7 := Lib.hid (fun V B hR hB => checkSg_any b B A n c V hR hB hn)
  have H8 := Lib.hid (fun V B B' hR hB hR' hB' => sameSg_any b o B B' A A' n n' c c' V hR hR' hB hB' hn hn')
  clear hst hso ha1 hR hR' hn hn' hl hl' hk
  generalize fewS b = few at *
  generalize fewS o = few' at *
  generalize checkS b = ck at *
  generalize putSE b = pe at *
  generalize (⟨(putSL b).toArray⟩ : ByteArray) = P at *
  generalize sameB b o = sm at *
  obtain ⟨bp, be, bh, bt, xs⟩ := b
  obtain ⟨op, oe, oh, ot, ys⟩ := o
  simp only [sglC] at *
  obtain ⟨g, hg⟩ : ∃ g, W.heap.size = g := ⟨_, rfl⟩
  rw [hg] at HS HO
  go_enter Tryz.func3, Tryz.ntmps3
  go_upto_region 1 with (fail)
  generalize (W.alloc (.cells #[.string bp, .int .u64 (be : Int), .string bh, .int .u64 (bt : Int), .slice A n c] 25)).alloc (.cells #[.string op, .int .u64 (oe : Int), .string oh, .int .u64 (ot : Int), .slice A' n' c'] 25) = w1 at *
  have HG := Lib.hid hg
  clear hg
  have e1 : (ck == ck) = true := by simp
  have e2 : (pe == pe) = true := by simp
  have e3 : (P.toList == P.toList) = true := by simp
  have e4 : (sm == sm) = true := by simp
  go_wp2_with fail
  refine (worksS_any _).mono ?_
  rintro e w2 ⟨rfl, hg⟩
  replace HS := Lib.hid (HS.out.step hg); replace HO := Lib.hid (HO.out.step hg)
  clear hg
  obtain ⟨c0, c1, c2, c3, c4⟩ := HS.out.cells
  obtain ⟨d0, d1, d2, d3, d4⟩ := HO.out.cells
  go_wp2_with fail
  refine (H1.out _ _ HS.out.reads HS.out.base).mono ?_
  rintro e w3 ⟨rfl, hg⟩
  replace HS := Lib.hid (HS.out.step hg); replace HO := Lib.hid (HO.out.step hg)
  clear hg c0 c1 c2 c3 c4 d0 d1 d2 d3 d4
  cases few with
  | false =>
    go_wp2_with fail
    go_ret
    exact ⟨rfl, below_of_grown HS.out.grown⟩
  | true =>
  obtain ⟨d0, d1, d2, d3, d4⟩ := HO.out.cells
  go_wp2_with fail
  refine (H2.out _ _ HO.out.reads HO.out.base).mono ?_
  rintro e w4 ⟨rfl, hg⟩
  replace HS := Lib.hid (HS.out.step hg); replace HO := Lib.hid (HO.out.step hg)
  clear hg d0 d1 d2 d3 d4
  cases few' with
  | false =>
    go_wp2_with fail
    go_ret
    exact ⟨rfl, below_of_grown HS.out.grown⟩
  | true =>
  obtain ⟨c0, c1, c2, c3, c4⟩ := HS.out.cells
  go_wp2_with fail
  refine (H3.out _ _ HS.out.reads HS.out.base).mono ?_
  rintro e w5 ⟨rfl, hg⟩
  replace HS := Lib.hid (HS.out.step hg); replace HO := Lib.hid (HO.out.step hg)
  clear hg c0 c1 c2 c3 c4
  obtain ⟨c0, c1, c2, c3, c4⟩ := HS.out.cells
  go_wp2_with fail
  refine (H4.out _ _ HS.out.reads HS.out.base).mono ?_
  rintro e w6 ⟨rfl, hg⟩
  replace HS := Lib.hid (HS.out.step hg); replace HO := Lib.hid (HO.out.step hg)
  clear hg c0 c1 c2 c3 c4
  obtain ⟨c0, c1, c2, c3, c4⟩ := HS.out.cells
  go_wp2_with fail
  refine (H5.out _ _ HS.out.reads HS.out.base).mono ?_
  rintro e w7 ⟨rfl, hg⟩
  replace HS := Lib.hid (HS.out.step hg); replace HO := Lib.hid (HO.out.step hg)
  clear hg c0 c1 c2 c3 c4
  obtain ⟨c0, c1, c2, c3, c4⟩ := HS.out.cells
  obtain ⟨d0, d1, d2, d3, d4⟩ := HO.out.cells
  go_wp2_with fail
  refine ((by first | exact H6.out rfl rfl _ _ _ HS.out.reads HS.out.base HO.out.reads HO.out.base | exact H6.out trivial trivial _ _ _ HS.out.reads HS.out.base HO.out.reads HO.out.base : Calls _ _ _ _ fun e w' => e = .returned (.bool sm) ∧ w7.grownBy w' none)).mono ?_
  rintro e w8 ⟨rfl, hg⟩
  replace HS := Lib.hid (HS.out.step hg); replace HO := Lib.hid (HO.out.step hg)
  clear hg c0 c1 c2 c3 c4 d0 d1 d2 d3 d4
  obtain ⟨c0, c1, c2, c3, c4⟩ := HS.out.cells
  obtain ⟨d0, d1, d2, d3, d4⟩ := HO.out.cells
  go_wp2_with fail
  refine (H7.out _ _ HS.out.reads HS.out.base).mono ?_
  rintro e w9 ⟨rfl, hg⟩
  replace HS := Lib.hid (HS.out.step hg); replace HO := Lib.hid (HO.out.step hg)
  clear hg c0 c1 c2 c3 c4 d0 d1 d2 d3 d4
  obtain ⟨c0, c1, c2, c3, c4⟩ := HS.out.cells
  obtain ⟨d0, d1, d2, d3, d4⟩ := HO.out.cells
  go_wp2_with fail
  refine (H8.out _ _ _ HS.out.reads HS.out.base HO.out.reads HO.out.base).mono ?_
  rintro e w10 ⟨rfl, hg⟩
  replace HS := Lib.hid (HS.out.step hg)
  clear hg c0 c1 c2 c3 c4 d0 d1 d2 d3 d4
  go_wp2_with fail
  go_ret
  exact ⟨by simp, below_of_grown HS.out.grown⟩
end Go.Proofs.YtagjpbcmhaekpaaGreatDoor
