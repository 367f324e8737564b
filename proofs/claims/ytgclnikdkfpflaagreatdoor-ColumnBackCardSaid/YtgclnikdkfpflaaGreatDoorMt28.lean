/- Merged: CpK, OpenS, OpenI, OpenT, CpL. -/
import Derived.Test.YtgclnikdkfpflaaGreatDoorMt1
import Derived.Test.YtgclnikdkfpflaaGreatDoorMt3
import Derived.Test.YtgclnikdkfpflaaGreatDoorMt12
import Derived.Test.YtgclnikdkfpflaaGreatDoorMt27
import Derived.Deep.Strs
namespace Go.Proofs.YtgclnikdkfpflaaGreatDoor
open Go.RowKit Go.Shelf
open List renaming set_cons_zero → jz, set_cons_succ → js, setIfInBounds_toArray → jb
set_option linter.unusedVariables false
set_option linter.unusedSimpArgs false
set_option maxRecDepth 100000
set_option maxHeartbeats 16000000
theorem cback_law (A : Option Addr) (n c : Nat) (ls : List TxV) (chain : Nat) (a b : ByteArray) (w : World) (h : TxsR w.heap.size w ls A n) (hn : n ≤ 9223372036854775807) (ok : ∀ t ∈ ls, t.Ok) :
  Calls Tryz.prog 5 #[.slice A n c, .int .u64 (chain : Int), .string a, .string b] w fun e w' => e = .returned (.bool true) ∧ w.grownBy w' none := by
 have HWK := Lib.hid (worksCo_any w)
 have HT := Lib.hid h; have BHT := Lib.hid (Nat.le_refl w.heap.size); have HN := Lib.hid hn; have HOK := Lib.hid ok
 clear h hn ok
 go_enter Tryz.func5, Tryz.ntmps5
 go_wp2_with fail
 refine HWK.out.mono ?_
 rintro e w2 ⟨rfl, hg⟩
 have HG := Lib.hid hg
 have HT := Lib.hid (HT.out.grown hg BHT.out); have BHT := Lib.hid (Nat.le_trans BHT.out hg.size)
 clear hg HWK
 go_wp2_with fail
 refine (fewTxs_any _ A n c ls w2 HT.out BHT.out HN.out).mono ?_
 rintro e w3 ⟨⟨fw, rfl, _⟩, hg⟩
 have HG := Lib.hid (grown_self HG.out hg (by simp))
 have HT := Lib.hid (HT.out.grown hg BHT.out); have BHT := Lib.hid (Nat.le_trans BHT.out hg.size)
 clear hg
 cases fw with
 | false =>
  go_wp2_with fail
  go_ret
  exact ⟨rfl, HG.out⟩
 | true =>
 by_cases ha : 2500 < a.size
 ·have q : (2500 : Int) < (a.size : Int) := by omega
  clear ha
  go_wp2_with fail
  go_ret
  exact ⟨rfl, HG.out⟩
 have qa : decide ((2500 : Int) < (a.size : Int)) = false := decide_eq_false (by omega)
 have HA := Lib.hid ha
 clear ha
 by_cases hb : 2500 < b.size
 ·have q : (2500 : Int) < (b.size : Int) := by omega
  clear hb
  go_wp2_with fail
  go_ret
  exact ⟨rfl, HG.out⟩
 have qb : decide ((2500 : Int) < (b.size : Int)) = false := decide_eq_false (by omega)
 have HB := Lib.hid hb
 clear hb
 go_wp2_with fail
 obtain ⟨E, hE⟩ : ∃ E, checkCol ls chain = E := ⟨_, rfl⟩
 obtain ⟨S, hS⟩ : ∃ S : ByteArray, (⟨(putColL ls chain).toArray⟩ : ByteArray) = S := ⟨_, rfl⟩
 have hput := colPut_ok _ A n c ls chain w3 HT.out BHT.out HN.out HOK.out
 rw [hE, hS] at hput
 refine hput.mono ?_
 clear hput
 rintro e w4 ⟨rfl, hg⟩
 have HG := Lib.hid (grown_self HG.out hg (by simp))
 have HT := Lib.hid (HT.out.grown hg BHT.out); have BHT := Lib.hid (Nat.le_trans BHT.out hg.size)
 have HE := Lib.hid hE; have HS := Lib.hid hS
 clear hg hE hS qa qb
 by_cases h0 : E = 0
 rotate_left
 ·have q1 : (E != 0) = true := by simpa using h0
  have hS0 : S = ⟨#[]⟩ := by
   rw [← HS.out]; unfold putColL; rw [if_neg (by rw [HE.out]; exact h0)]
  subst hS0
  have hck := colCheck_any _ A n c ls chain w4 HT.out BHT.out HN.out HOK.out
  rw [HE.out] at hck
  have q2 : (E == E) = true := by simp
  clear h0
  go_wp2_with fail
  refine hck.mono ?_
  rintro e w5 ⟨rfl, hg⟩
  have HG := Lib.hid (grown_self HG.out hg (by simp))
  clear hg hck
  go_wp2_with fail
  go_ret
  exact ⟨rfl, HG.out⟩
 ·subst h0
  have hp : S.data.toList = colsL ls := by rw [← HS.out]; show putColL ls chain = _; unfold putColL; rw [if_pos HE.out]
  obtain ⟨_, hc1, hn5, hone⟩ := checkCol_0 HE.out
  have hln := HT.out.1
  have hco := colOk_of HE.out HOK.out
  have hsl : S.size ≤ 20000000 := by
   have hT : ∀ t ∈ ls, TxC t := fun t ht => (oneT_ok (hone t ht)).1
   have hf := List.length_filter_le (fun t : TxV => decide (t.kind = 0)) ls
   have b1 := catB_bound sigT 64 ls fun t _ => by rw [← ba_len, sigT_len]; exact Nat.le_refl _
   have b2 := catB_bound TxV.dst 20 ls fun t ht => by rcases (hT t ht).dst with h | h <;> omega
   have b3 := catB_bound restT 20001 ls fun t ht => restT_size (hT t ht)
   have b4 := rowL_len ((ls.map TxV.nonce).map fun (x : Nat) => (x : Int))
   have b5 := rowL_len ((ls.map TxV.gas).map fun (x : Nat) => (x : Int))
   have b6 := packL_len (ls.map fun t => decide (t.dst.size = 0))
   have b7 := packL_len (ls.map fun t => decide (t.y = 1))
   have b8 := packL_len ((ls.filter fun t => decide (t.kind = 0)).map fun t => decide (t.chain ≠ 0))
   rw [← ba_len, hp, colsL_eq]
   simp only [List.length_append, List.length_map] at b4 b5 b6 b7 b8 ⊢
   omega
  obtain ⟨W, hW⟩ : ∃ W, a ++ S ++ b = W := ⟨_, rfl⟩
  have hWl : W.data.toList = a.data.toList ++ colsL ls ++ b.data.toList := by rw [← hW]; simp [hp]
  have hWz : W.size = a.size + S.size + b.size := by rw [← hW, ByteArray.size_append, ByteArray.size_append]
  have hat : At W.data.toList a.size (colsL ls) := ⟨b.data.toList, by rw [hWl, List.append_assoc, ← ba_len a, List.drop_left]⟩
  have hgr := getR_put HE.out HOK.out hat (by omega)
  have hcl : (colsL ls).length = S.size := by rw [← hp, ba_len]
  rw [hcl] at hgr
  have hga : getA W a.size ls.length chain = .ok (ls, a.size + S.size) := by
   have hb : badArg W a.size ls.length chain = false := by
    have := (checkCol_0 HE.out).1
    unfold badArg
    simp only [Bool.or_eq_false_iff, decide_eq_false_iff_not]
    refine ⟨⟨⟨⟨⟨by omega, by omega⟩, by omega⟩, by omega⟩, by omega⟩, by omega⟩
   unfold getA
   rw [if_neg (by rw [hb]; simp)]
   exact hgr
  have hKF : ∀ t ∈ ls, KeysFew t := fun t ht x hx => by have := ((oneT_ok (hone t ht)).1.pair x hx).2.1; omega
  rw [hln] at hga
  have HGA := Lib.hid hga; have HW := Lib.hid hW; have HSL := Lib.hid hsl; have HWZ := Lib.hid hWz; have HKF := Lib.hid hKF; have HLN := Lib.hid hln; have HN5 := Lib.hid hn5
  clear hp hc1 hn5 hone hln hco hsl hW hWl hWz hat hgr hcl hga hKF
  go_upto_region 10 with (fail)
  refine wp_region_list ?_
  refine zm 2 (.string a) rfl ?_
  simp only [Act.put, jb, jz, js]
  refine zm 11 (.string S) rfl ?_
  simp only [Act.put, jb, jz, js]
  have z1 := HA.out; have z2 := HB.out; have z3 := HSL.out; have z4 := HW.out
  have z5 : (a ++ S).size ≤ 1000000000 := by rw [ByteArray.size_append]; omega
  refine wpList_value rfl (.string (a ++ S)) (exec_catS _ _ rfl _ _ _ rfl rfl (by omega) rfl) ?_
  simp only [Act.put, jb, jz, js]
  refine zm 3 (.string b) rfl ?_
  simp only [Act.put, jb, jz, js]
  refine wpList_value rfl (.string W) (exec_catS _ _ rfl _ _ _ rfl rfl (by omega) z4) ?_
  simp only [Act.put, jb, jz, js]
  refine zm 2 (.string a) rfl ?_
  simp only [Act.put, jb, jz, js]
  refine wpList_value rfl (.int .i64 (a.size : Int)) (by go_simp <;> rfl) ?_
  simp only [Act.put, jb, jz, js]
  refine zm 0 (.slice A n c) rfl ?_
  simp only [Act.put, jb, jz, js]
  refine wpList_value rfl (.int .i64 (n : Int)) (by go_simp <;> rfl) ?_
  simp only [Act.put, jb, jz, js]
  refine zm 1 (.int .u64 (chain : Int)) rfl ?_
  simp only [Act.put, jb, jz, js]
  refine wpList_enter rfl 14 #[.string W, .int .i64 (a.size : Int), .int .i64 (n : Int), .int .u64 (chain : Int)] (exec_call4C _ (.tmp 60) (.tmp 62) (.tmp 64) (.tmp 65) _ rfl _ _ _ _ rfl rfl rfl rfl (enters_of Tryz.func14 (by kernel_rfl) rfl _ _)) ((colGet_any W a.size n chain w4 (by have := HWZ.out; omega)).mono ?_)
  rintro e w5 ⟨hg, hh⟩
  have hh2 : ∃ gm, e = .returned (.tuple #[.slice (some ⟨gm, 0, none⟩) n n, .int .i64 ((a.size + S.size : Nat) : Int), .int .i64 0]) ∧ TxsR w5.heap.size w5 ls (some ⟨gm, 0, none⟩) n := by
   rcases hh with ⟨E, h1, h2, _⟩ | ⟨L, T, gm, h1, _, _, h3, _, h5, _, _⟩
   ·rw [HGA.out] at h2; cases h2
   ·rw [HGA.out] at h1; cases h1
    have := HLN.out
    rw [this] at h3 h5
    exact ⟨gm, h3, h5⟩
  obtain ⟨gm, rfl, htm⟩ := hh2
  have HTM := Lib.hid htm; have BHTM := Lib.hid (Nat.le_refl w5.heap.size)
  have HG := Lib.hid (grown_self HG.out hg (by simp))
  have HT := Lib.hid (HT.out.grown hg BHT.out); have BHT := Lib.hid (Nat.le_trans BHT.out hg.size)
  clear hg hh htm z4 z5
  refine ⟨_, rfl, ?_⟩
  simp only [Act.put, jb, jz, js]
  refine zm 66 (.tuple #[.slice (some ⟨gm, 0, none⟩) n n, .int .i64 ((a.size + S.size : Nat) : Int), .int .i64 0]) rfl ?_
  simp only [Act.put, jb, jz, js]
  refine wpList_value rfl (.slice (some ⟨gm, 0, none⟩) n n) (by go_simp <;> rfl) ?_
  simp only [Act.put, jb, jz, js]
  refine wpList_value rfl (.int .i64 ((a.size + S.size : Nat) : Int)) (by go_simp <;> rfl) ?_
  simp only [Act.put, jb, jz, js]
  refine wpList_value rfl (.int .i64 0) (by go_simp <;> rfl) ?_
  simp only [Act.put, jb, jz, js]
  refine wpList_value rfl (.slice (some ⟨gm, 0, none⟩) n n) (by go_simp <;> rfl) ?_
  simp only [Act.put, jb, jz, js]
  refine wpList_value rfl (.int .i64 ((a.size + S.size : Nat) : Int)) (by go_simp <;> rfl) ?_
  simp only [Act.put, jb, jz, js]
  refine wpList_value rfl (.int .i64 0) (by go_simp <;> rfl) ?_
  simp only [Act.put, jb, jz, js]
  refine wpList_nil ?_
  have hsm := txsSameR_any _ _ A (some ⟨gm, 0, none⟩) n n c n ls ls w5 HT.out HTM.out BHT.out BHTM.out HN.out HN.out HOK.out HOK.out HKF.out HKF.out
  rw [decide_eq_true rfl] at hsm
  go_upto_region 11 with (fail)
  refine wp_region_list ?_
  refine zm 0 (.slice A n c) rfl ?_
  simp only [Act.put, jb, jz, js]
  refine zm 13 (.slice (some ⟨gm, 0, none⟩) n n) rfl ?_
  simp only [Act.put, jb, jz, js]
  refine wpList_enter rfl 16 #[.slice A n c, .slice (some ⟨gm, 0, none⟩) n n] (exec_call2 _ (.tmp 70) (.tmp 71) _ rfl _ _ rfl rfl (enters_of Tryz.func16 (by kernel_rfl) rfl _ _)) (hsm.mono ?_)
  clear hsm
  rintro e w6 ⟨rfl, hg⟩
  have HG := Lib.hid (grown_self HG.out hg (by simp))
  clear hg
  refine ⟨_, rfl, ?_⟩
  simp only [Act.put, jb, jz, js]
  refine wpList_value rfl (.bool true) (by go_simp <;> rfl) ?_
  simp only [Act.put, jb, jz, js]
  refine wpList_nil ?_
  go_upto_region 12 with (fail)
  refine wp_region_list ?_
  refine zm 9 (.bool true) rfl ?_
  simp only [Act.put, jb, jz, js]
  refine zm 73 (.bool true) rfl ?_
  simp only [Act.put, jb, jz, js]
  refine wpList_valueG rfl (.int .i64 0) (exec_moveC (.tmp 15) rfl _ rfl) ?_
  simp only [Act.put, jb, jz, js]
  refine wpList_valueG rfl (.bool true) (by go_simp <;> rfl) ?_
  simp only [Act.put, jb, jz, js]
  refine wpList_value rfl (.bool true) (exec_pickC (.tmp 74) (.tmp 76) _ rfl true rfl _ rfl) ?_
  simp only [Act.put, jb, jz, js]
  refine zm 77 (.bool true) rfl ?_
  simp only [Act.put, jb, jz, js]
  refine wpList_valueG rfl (.bool true) (exec_moveC (.tmp 16) rfl _ rfl) ?_
  simp only [Act.put, jb, jz, js]
  refine wpList_value rfl (.bool true) (exec_pickC (.tmp 78) (.tmp 79) _ rfl true rfl _ rfl) ?_
  simp only [Act.put, jb, jz, js]
  refine zm 80 (.bool true) rfl ?_
  simp only [Act.put, jb, jz, js]
  refine wpList_valueG rfl (.int .i64 ((a.size + S.size : Nat) : Int)) (exec_moveC (.tmp 14) rfl _ rfl) ?_
  simp only [Act.put, jb, jz, js]
  refine wpList_valueG rfl (.string a) (exec_moveC (.tmp 2) rfl _ rfl) ?_
  simp only [Act.put, jb, jz, js]
  refine wpList_valueG rfl (.int .i64 (a.size : Int)) (by go_simp <;> rfl) ?_
  simp only [Act.put, jb, jz, js]
  refine wpList_valueG rfl (.string S) (exec_moveC (.tmp 11) rfl _ rfl) ?_
  simp only [Act.put, jb, jz, js]
  refine wpList_valueG rfl (.int .i64 (S.size : Int)) (by go_simp <;> rfl) ?_
  simp only [Act.put, jb, jz, js]
  have z6 : IntKind.i64.wrap ((a.size : Int) + (S.size : Int)) = ((a.size + S.size : Nat) : Int) := by have := wrap_natC (k := a.size + S.size) (by omega); rw [← this, Int.natCast_add]
  refine wpList_valueG rfl (.int .i64 ((a.size + S.size : Nat) : Int)) (by go_simp <;> first | rfl | (rw [z6]) | exact z6) ?_
  simp only [Act.put, jb, jz, js]
  refine wpList_valueG rfl (.bool true) (by go_simp <;> first | rfl | simp) ?_
  simp only [Act.put, jb, jz, js]
  refine wpList_value rfl (.bool true) (exec_pickC (.tmp 81) (.tmp 88) _ rfl true rfl _ rfl) ?_
  simp only [Act.put, jb, jz, js]
  refine wpList_value rfl (.bool true) (by go_simp <;> rfl) ?_
  simp only [Act.put, jb, jz, js]
  refine wpList_nil ?_
  clear z1 z2 z3 z6
  go_wp2_with fail
  go_ret
  exact ⟨rfl, HG.out⟩
open Go.ChangeShapes Go.WideShapes Go.ChangeAt Go.RowKit Go.Deep Go.Joins
set_option linter.constructorNameAsVariable false
section
variable {H : Type} {enc : TypeId × Value → H} {P : Program} {w : World} {base : Nat} {held : Bool}
theorem reads_of_strs {t e : TypeId} {fuel : Nat} {v : Value} {x : DataW H × List MemPlace} (ht : P.underlying t = some (.slice e)) (he : P.underlying e = some .string) (hc : P.cellsOf e = 1)
  (h : DataW.trod enc P w base (fun _ => true) held fuel t [v] = some x) :
  ∃ (A : Option Addr) (n c : Nat) (xs : List ByteArray), v = .slice A n c ∧ Reads w w.heap.size 1 A n (xs.map Value.string) ∧ (∀ x ∈ xs, x.size ≤ 9223372036854775807) ∧ n ≤ 9223372036854775807 ∧ xs.length = n ∧ n ≤ c := by
 rcases open_strs ht he hc h with ⟨hcs, _⟩ | ⟨a, len, cap, m, B, hcs, _, hl, hm, hmm, _, hcell⟩
 ·simp only [List.cons.injEq, and_true] at hcs
  exact ⟨none, 0, 0, [], hcs, Reads.none_, by simp, by omega, rfl, by omega⟩
 ·simp only [List.cons.injEq, and_true] at hcs
  simp only [if_true] at hmm
  have hmL : maxLen = 9223372036854775807 := by decide
  refine ⟨some a, len, cap, (List.range len).map B, hcs, ⟨by simp, fun hn => ⟨a, rfl, ?_, fun j u hu => ?_⟩⟩, fun x hx => ?_, by omega, by simp, hl⟩
  ·have := World.block_lt_of_cell? w _ (hcell 0 (by omega)).1
   rwa [block_of_add] at this
  ·rw [List.getElem?_map, List.getElem?_map, Option.map_map] at hu
   have hj : j < len := by
    rcases Nat.lt_or_ge j len with hj | hj
    ·exact hj
    ·rw [List.getElem?_eq_none (by simpa using hj)] at hu; cases hu
   rw [List.getElem?_range hj] at hu
   have := (hcell j (by omega)).1
   simp at hu
   subst hu
   simpa using this
  ·obtain ⟨i, hi, rfl⟩ := List.mem_map.1 hx
   have := (hcell i (by have := List.mem_range.1 hi; omega)).2
   omega
end
section
variable {H : Type} {enc : TypeId × Value → H} {w : World} {base : Nat} {held : Bool}
end
open Go.ChangeShapes Go.WideShapes Go.RowKit Go.Deep Go.Joins
set_option linter.constructorNameAsVariable false
theorem list_ofI {α : Type} {R : Nat → α → Prop} : ∀ n : Nat, (∀ i, i < n → ∃ x, R i x) → ∃ xs : List α, xs.length = n ∧ ∀ i (h : i < xs.length), R i xs[i]
 | 0, _ => ⟨[], rfl, fun i h => absurd h (by simp)⟩
 | n + 1, h => by
  obtain ⟨xs, hl, hx⟩ := list_ofI n fun i hi => h i (by omega)
  obtain ⟨x, hxn⟩ := h n (by omega)
  refine ⟨xs ++ [x], by simp [hl], fun i hi => ?_⟩
  by_cases h1 : i < xs.length
  ·rw [List.getElem_append_left h1]; exact hx i h1
  ·obtain rfl : i = n := by simp at hi; omega
   rw [List.getElem_append_right (by omega)]
   simpa [hl] using hxn
section
variable {H : Type} {enc : TypeId × Value → H} {w : World} {base : Nat} {held : Bool}
end
open Go.ChangeShapes Go.WideShapes Go.ChangeAt Go.RowKit Go.Deep Go.Joins
set_option linter.constructorNameAsVariable false
section
variable {H : Type} {enc : TypeId × Value → H} {P : Program} {w : World} {base : Nat} {held : Bool}
theorem list_range (c : List Value) (n : Nat) (h : c.length = n) : c = (List.range n).map fun i => c.getD i undef := by
 refine List.ext_getElem (by simp [h]) fun i h1 h2 => ?_
 rw [List.getElem_map, List.getElem_range, List.getD_eq_getElem?_getD, List.getElem?_eq_getElem h1]; rfl
theorem open_slice_sized {t e : TypeId} {fs : Array Field} {fuel : Nat} {cs : List Value} {x : DataW H × List MemPlace} (ht : P.underlying t = some (.slice e)) (he : P.underlying e = some (.struct fs)) {s : Nat} (hC : P.cellsOf e = s)
  (h : DataW.trod enc P w base (fun _ => true) held fuel t cs = some x) :
  cs = [.slice none 0 0] ∨
  ∃ (a : Addr) (len cap : Nat), cs = [.slice (some a) len cap] ∧ len ≤ cap ∧ cap ≤ maxLen ∧
   ∀ i, i < cap → ∃ (c : List Value) (n : Nat), c.length = s ∧ (∀ j, j < s → w.cell? (a.add (i * s + j)) = c[j]?) ∧ ∀ (j : Nat) (f : Field), fs[j]? = some f → ∃ y, DataW.trod enc P w base (fun _ => true) held n f.type ((c.drop f.offset).take (P.cellsOf f.type)) = some y := by
 rcases open_slice ht h with ⟨h0, _⟩ | ⟨a, len, cap, m, n, D, Pl, hcs, hb, hl, hm, hmm, hx, hi⟩
 ·exact .inl h0
 ·simp only [if_true] at hmm
  refine .inr ⟨a, len, cap, hcs, hl, hm, fun i him => ?_⟩
  obtain ⟨cs', hc, ht'⟩ := hi i (by omega)
  rw [hC] at hc
  obtain ⟨ys, n', hn', hy, hlen, hyl, hf⟩ := DataW.trod_struct he ht'
  obtain ⟨_, hcl, hat⟩ := World.cells?_some hc
  refine ⟨cs', n', by omega, fun j hj => ?_, fun j f hj => ?_⟩
  ·rw [← Go.Deep.add_add, hat j hj]
  ·have h1 := hf j f hj
   have hjl : j < fs.size := (Array.getElem?_eq_some_iff.1 hj).1
   exact ⟨_, h1.trans (List.getElem?_eq_getElem (by omega))⟩
end
section
variable {H : Type} {enc : TypeId × Value → H} {w : World} {base : Nat} {held : Bool}
theorem word_trod {fuel : Nat} {c : List Value} {x : DataW H × List MemPlace} (h : DataW.trod enc Tryz.prog w base (fun _ => true) held fuel 38 c = some x) : ∃ N : Nat, N < 115792089237316195423570985008687907853269984665640564039457584007913129639936 ∧ c = [.int .u64 (wp N 0 : Nat), .int .u64 (wp N 1 : Nat), .int .u64 (wp N 2 : Nat), .int .u64 (wp N 3 : Nat)] := by
 have ht := Tryz.underlying38
 have he := Tryz.underlying23
 have hce : Tryz.prog.cellsOf 23 = 1 := by kernel_rfl
 have hct : Tryz.prog.cellsOf 38 = 4 := by kernel_rfl
 obtain ⟨xs, m, _, _, hl, hxl, hat⟩ := DataW.trod_array ht h
 have hcl : c.length = 4 := hl.trans hct
 have key : ∀ i, i < 4 → ∃ x : Nat, x < 18446744073709551616 ∧ c[i]? = some (.int .u64 (x : Int)) := by
  intro i hi
  have h1 := hat i hi
  have hone : (c.drop (i * Tryz.prog.cellsOf 23)).take (Tryz.prog.cellsOf 23) = [c[i]'(by omega)] := by
   rw [hce, Nat.mul_one, List.drop_eq_getElem_cons (by omega)]
   rfl
  have hx : xs[i]? = some (xs[i]'(by omega)) := List.getElem?_eq_getElem (by omega)
  rw [hone, hx] at h1
  obtain ⟨k, hk, _, hw⟩ := DataW.trod_int he h1
  have hwf := wf_u64 hw
  obtain ⟨z, rfl⟩ := Int.eq_ofNat_of_zero_le hwf.1
  refine ⟨z, by omega, ?_⟩
  rw [List.getElem?_eq_getElem (by omega)]
  simp only [List.cons.injEq, and_true] at hk
  rw [hk]
 obtain ⟨a0, l0, e0⟩ := key 0 (by omega)
 obtain ⟨a1, l1, e1⟩ := key 1 (by omega)
 obtain ⟨a2, l2, e2⟩ := key 2 (by omega)
 obtain ⟨a3, l3, e3⟩ := key 3 (by omega)
 obtain ⟨w0, w1, w2, w3⟩ := wp_word a0 a1 a2 a3 l0 l1 l2 l3
 have hlt := word_lt a0 a1 a2 a3 l0 l1 l2 l3
 have e256 : (256 : Nat) ^ 32 = 115792089237316195423570985008687907853269984665640564039457584007913129639936 := by decide
 refine ⟨wordN a0 a1 a2 a3, by rw [← e256]; exact hlt, ?_⟩
 rw [w0, w1, w2, w3]
 match c, hcl, e0, e1, e2, e3 with
 | [c0, c1, c2, c3], _, e0, e1, e2, e3 =>
  have f0 : some c0 = some _ := e0; have f1 : some c1 = some _ := e1; have f2 : some c2 = some _ := e2; have f3 : some c3 = some _ := e3
  cases f0; cases f1; cases f2; cases f3; rfl
theorem acc_one : ∃ t0 t1 : Field, Tryz.prog.underlying 82 = some (.struct #[t0, t1]) ∧ oneCellFields Tryz.prog #[t0, t1] = true ∧ Tryz.prog.underlying t0.type = some .string ∧ t1.type = 57 :=
 ⟨_, _, Tryz.underlying82, by kernel_rfl, Tryz.underlying9, rfl⟩
theorem reads_of_acc {fuel : Nat} {v : Value} {x : DataW H × List MemPlace} (h : DataW.trod enc Tryz.prog w base (fun _ => true) held fuel 39 [v] = some x) :
  ∃ (A : Option Addr) (n c : Nat) (ls : List AccV), v = .slice A n c ∧ AccR w.heap.size w ls A n ∧ n ≤ 9223372036854775807 := by
 obtain ⟨t0, t1, hu, hone, u0, u1⟩ := acc_one
 have hmL : maxLen = 9223372036854775807 := by decide
 rcases open_slice_fields Tryz.underlying39 hu hone (by kernel_rfl) h with ⟨hcs, _⟩ | ⟨a, len, cap, m, D, Pl, hcs, hb, hl, hm, hmm, _, hi⟩
 ·simp only [List.cons.injEq, and_true] at hcs
  exact ⟨none, 0, 0, [], hcs, AccR.nil _ _ _, by omega⟩
 ·simp only [List.cons.injEq, and_true] at hcs
  simp only [if_true] at hmm
  have key : ∀ i, i < len → ∃ l : AccV, ∃ T tc, (w.cell? (a.add (i * 2 + 0)) = some (.string l.addr) ∧ w.cell? (a.add (i * 2 + 1)) = some (.slice T l.keys.length tc)) ∧
    Reads w w.heap.size 1 T l.keys.length (l.keys.map Value.string) ∧ l.keys.length ≤ 9223372036854775807 := by
   intro i hil
   obtain ⟨ys, n, _, _, _, hf⟩ := hi i (by omega)
   obtain ⟨v0, y0, c0, _, e0⟩ := hf 0 t0 rfl
   obtain ⟨v1, y1, c1, _, e1⟩ := hf 1 t1 rfl
   obtain ⟨s0, hs0, _⟩ := DataW.trod_string u0 e0
   rw [u1] at e1
   obtain ⟨T, k, tc, xs, rfl, hr, hx, hm, hxl, hc⟩ := reads_of_strs Tryz.underlying57 Tryz.underlying9 (by kernel_rfl) e1
   simp only [List.cons.injEq, and_true] at hs0
   subst hs0; subst hxl
   exact ⟨⟨s0, xs⟩, T, tc, ⟨c0, c1⟩, hr, hm⟩
  obtain ⟨ls, hll, hls⟩ := list_ofI len key
  refine ⟨some a, len, cap, ls, hcs, ⟨hll, fun h0 => ?_⟩, by omega⟩
  obtain ⟨_, _, ⟨c00, _⟩, _⟩ := hls 0 (by omega)
  have ea : a = ⟨a.block, a.off, none⟩ := lit_of_cell (a := a) (by simpa [Addr.add] using c00)
  refine ⟨a.block, a.off, by rw [← ea], ?_, fun i hi' => ?_⟩
  ·have := World.block_lt_of_cell? w _ c00
   rwa [block_of_add] at this
  ·obtain ⟨T, tc, ⟨d0, d1⟩, p, q⟩ := hls i (by omega)
   rw [ea] at d0 d1
   have hadd : ∀ j, (⟨a.block, a.off, none⟩ : Addr).add j = ⟨a.block, a.off + j, none⟩ := fun j => Addr.add_mid _ _ _
   rw [hadd] at d0 d1
   have hg : ls.getD i AccV.none_ = ls[i]'(by omega) := by rw [List.getD_eq_getElem?_getD, List.getElem?_eq_getElem (by omega)]; rfl
   rw [hg]
   exact ⟨T, tc, d0, d1, p, q⟩
theorem aut_one : ∃ t0 t1 t2 t3 t4 t5 : Field, Tryz.prog.underlying 89 = some (.struct #[t0, t1, t2, t3, t4, t5]) ∧ t0.type = 23 ∧ t0.offset = 0 ∧ t1.type = 9 ∧ t1.offset = 1 ∧ t2.type = 23 ∧ t2.offset = 2 ∧ t3.type = 23 ∧ t3.offset = 3 ∧ t4.type = 38 ∧ t4.offset = 4 ∧ t5.type = 38 ∧ t5.offset = 8 :=
 ⟨_, _, _, _, _, _, Tryz.underlying89, rfl, rfl, rfl, rfl, rfl, rfl, rfl, rfl, rfl, rfl, rfl, rfl⟩
theorem reads_of_aut {fuel : Nat} {v : Value} {x : DataW H × List MemPlace} (h : DataW.trod enc Tryz.prog w base (fun _ => true) held fuel 40 [v] = some x) :
  ∃ (A : Option Addr) (n c : Nat) (ls : List AutV), v = .slice A n c ∧ AutR w.heap.size w ls A n ∧ (∀ t ∈ ls, t.Ok) ∧ n ≤ 9223372036854775807 := by
 obtain ⟨t0, t1, t2, t3, t4, t5, hu, a0, b0, a1, b1, a2, b2, a3, b3, a4, b4, a5, b5⟩ := aut_one
 have hmL : maxLen = 9223372036854775807 := by decide
 rcases open_slice_sized Tryz.underlying40 hu (s := 12) (by kernel_rfl) h with hcs | ⟨a, len, cap, hcs, hl, hm, hi⟩
 ·simp only [List.cons.injEq, and_true] at hcs
  exact ⟨none, 0, 0, [], hcs, AutR.nil _ _ _, (fun t h => by cases h), by omega⟩
 ·simp only [List.cons.injEq, and_true] at hcs
  have key : ∀ i, i < len → ∃ l : AutV, l.Ok ∧ ∀ j, j < 12 → w.cell? (a.add (i * 12 + j)) = (autL l)[j]? := by
   intro i hil
   obtain ⟨c, n, hc, hat, hf⟩ := hi i (by omega)
   obtain ⟨c0, c1, c2, c3, c4, c5, c6, c7, c8, c9, c10, c11, rfl⟩ : ∃ c0 c1 c2 c3 c4 c5 c6 c7 c8 c9 c10 c11, c = [c0, c1, c2, c3, c4, c5, c6, c7, c8, c9, c10, c11] := ⟨_, _, _, _, _, _, _, _, _, _, _, _, list_range c 12 hc⟩
   obtain ⟨y0, e0⟩ := hf 0 t0 rfl
   rw [a0, b0, show Tryz.prog.cellsOf 23 = 1 by kernel_rfl] at e0
   replace e0 : DataW.trod enc Tryz.prog w base (fun _ => true) held n 23 [c0] = some y0 := e0
   obtain ⟨k0, h0, _, w0⟩ := DataW.trod_int Tryz.underlying23 e0
   simp only [List.cons.injEq, and_true] at h0
   subst h0
   obtain ⟨z0, rfl⟩ := Int.eq_ofNat_of_zero_le (wf_u64 w0).1
   have q0 := (wf_u64 w0).2
   obtain ⟨y1, e1⟩ := hf 1 t1 rfl
   rw [a1, b1, show Tryz.prog.cellsOf 9 = 1 by kernel_rfl] at e1
   replace e1 : DataW.trod enc Tryz.prog w base (fun _ => true) held n 9 [c1] = some y1 := e1
   obtain ⟨s1, h1, _⟩ := DataW.trod_string Tryz.underlying9 e1
   simp only [List.cons.injEq, and_true] at h1
   subst h1
   obtain ⟨y2, e2⟩ := hf 2 t2 rfl
   rw [a2, b2, show Tryz.prog.cellsOf 23 = 1 by kernel_rfl] at e2
   replace e2 : DataW.trod enc Tryz.prog w base (fun _ => true) held n 23 [c2] = some y2 := e2
   obtain ⟨k2, h2, _, w2⟩ := DataW.trod_int Tryz.underlying23 e2
   simp only [List.cons.injEq, and_true] at h2
   subst h2
   obtain ⟨z2, rfl⟩ := Int.eq_ofNat_of_zero_le (wf_u64 w2).1
   have q2 := (wf_u64 w2).2
   obtain ⟨y3, e3⟩ := hf 3 t3 rfl
   rw [a3, b3, show Tryz.prog.cellsOf 23 = 1 by kernel_rfl] at e3
   replace e3 : DataW.trod enc Tryz.prog w base (fun _ => true) held n 23 [c3] = some y3 := e3
   obtain ⟨k3, h3, _, w3⟩ := DataW.trod_int Tryz.underlying23 e3
   simp only [List.cons.injEq, and_true] at h3
   subst h3
   obtain ⟨z3, rfl⟩ := Int.eq_ofNat_of_zero_le (wf_u64 w3).1
   have q3 := (wf_u64 w3).2
   obtain ⟨y4, e4⟩ := hf 4 t4 rfl
   rw [a4, b4, show Tryz.prog.cellsOf 38 = 4 by kernel_rfl] at e4
   replace e4 : DataW.trod enc Tryz.prog w base (fun _ => true) held n 38 [c4, c5, c6, c7] = some y4 := e4
   obtain ⟨N4, q4, h4⟩ := word_trod e4
   simp only [List.cons.injEq, and_true] at h4
   obtain ⟨rfl, rfl, rfl, rfl⟩ := h4
   obtain ⟨y5, e5⟩ := hf 5 t5 rfl
   rw [a5, b5, show Tryz.prog.cellsOf 38 = 4 by kernel_rfl] at e5
   replace e5 : DataW.trod enc Tryz.prog w base (fun _ => true) held n 38 [c8, c9, c10, c11] = some y5 := e5
   obtain ⟨N5, q5, h5⟩ := word_trod e5
   simp only [List.cons.injEq, and_true] at h5
   obtain ⟨rfl, rfl, rfl, rfl⟩ := h5
   refine ⟨⟨z0, s1, z2, z3, N4, N5⟩, ⟨by show z0 < _; omega, by show z2 < _; omega, by show z3 < _; omega, q4, q5⟩, fun j hj => hat j hj⟩
  obtain ⟨ls, hll, hls⟩ := list_ofI len key
  refine ⟨some a, len, cap, ls, hcs, ⟨hll, fun h0 => ?_⟩, fun t ht => ?_, by omega⟩
  ·have c00 : w.cell? (a.add (0 * 12 + 0)) = some (.int .u64 ((ls[0]'(by omega)).chain : Int)) := (hls 0 (by omega)).2 0 (by omega)
   have ea : a = ⟨a.block, a.off, none⟩ := lit_of_cell (a := a) (by simpa [Addr.add] using c00)
   refine ⟨a.block, a.off, by rw [← ea], ?_, fun i hi' j u hu => ?_⟩
   ·have := World.block_lt_of_cell? w _ c00
    rwa [block_of_add] at this
   ·have hg : ls.getD i AutV.none_ = ls[i]'(by omega) := by rw [List.getD_eq_getElem?_getD, List.getElem?_eq_getElem (by omega)]; rfl
    rw [hg] at hu
    have hj : j < 12 := (List.getElem?_eq_some_iff.1 hu).1
    have d := (hls i (by omega)).2 j hj
    rw [ea, show (⟨a.block, a.off, none⟩ : Addr).add (i * 12 + j) = ⟨a.block, a.off + (i * 12 + j), none⟩ from Addr.add_mid _ _ _] at d
    rw [Nat.add_assoc, d, hu]
  ·obtain ⟨i, hi', rfl⟩ := List.mem_iff_getElem.1 ht
   exact (hls i hi').1
theorem tx_one : ∃ t0 t1 t2 t3 t4 t5 t6 t7 t8 t9 t10 t11 t12 t13 t14 t15 t16 t17 : Field, Tryz.prog.underlying 42 = some (.struct #[t0, t1, t2, t3, t4, t5, t6, t7, t8, t9, t10, t11, t12, t13, t14, t15, t16, t17]) ∧ t0.type = 3 ∧ t0.offset = 0 ∧ t1.type = 23 ∧ t1.offset = 1 ∧ t2.type = 23 ∧ t2.offset = 2 ∧ t3.type = 38 ∧ t3.offset = 3 ∧ t4.type = 38 ∧ t4.offset = 7 ∧ t5.type = 23 ∧ t5.offset = 11 ∧ t6.type = 9 ∧ t6.offset = 12 ∧ t7.type = 38 ∧ t7.offset = 13 ∧ t8.type = 9 ∧ t8.offset = 17 ∧ t9.type = 39 ∧ t9.offset = 18 ∧ t10.type = 40 ∧ t10.offset = 19 ∧ t11.type = 23 ∧ t11.offset = 20 ∧ t12.type = 38 ∧ t12.offset = 21 ∧ t13.type = 38 ∧ t13.offset = 25 ∧ t14.type = 9 ∧ t14.offset = 29 ∧ t15.type = 9 ∧ t15.offset = 30 ∧ t16.type = 38 ∧ t16.offset = 31 ∧ t17.type = 4 ∧ t17.offset = 35 :=
 ⟨_, _, _, _, _, _, _, _, _, _, _, _, _, _, _, _, _, _, Tryz.underlying42, rfl, rfl, rfl, rfl, rfl, rfl, rfl, rfl, rfl, rfl, rfl, rfl, rfl, rfl, rfl, rfl, rfl, rfl, rfl, rfl, rfl, rfl, rfl, rfl, rfl, rfl, rfl, rfl, rfl, rfl, rfl, rfl, rfl, rfl, rfl, rfl⟩
theorem reads_of_txs {fuel : Nat} {v : Value} {x : DataW H × List MemPlace} (h : DataW.trod enc Tryz.prog w base (fun _ => true) held fuel 22 [v] = some x) :
  ∃ (A : Option Addr) (n c : Nat) (ls : List TxV), v = .slice A n c ∧ TxsR w.heap.size w ls A n ∧ (∀ t ∈ ls, t.Ok) ∧ n ≤ 9223372036854775807 ∧ n ≤ c := by
 obtain ⟨t0, t1, t2, t3, t4, t5, t6, t7, t8, t9, t10, t11, t12, t13, t14, t15, t16, t17, hu, a0, b0, a1, b1, a2, b2, a3, b3, a4, b4, a5, b5, a6, b6, a7, b7, a8, b8, a9, b9, a10, b10, a11, b11, a12, b12, a13, b13, a14, b14, a15, b15, a16, b16, a17, b17⟩ := tx_one
 have hmL : maxLen = 9223372036854775807 := by decide
 rcases open_slice_sized Tryz.underlying22 hu (s := 36) (by kernel_rfl) h with hcs | ⟨a, len, cap, hcs, hl, hm, hi⟩
 ·simp only [List.cons.injEq, and_true] at hcs
  exact ⟨none, 0, 0, [], hcs, ⟨rfl, fun h => by omega⟩, (fun t h => by cases h), by omega, by omega⟩
 ·simp only [List.cons.injEq, and_true] at hcs
  have key : ∀ i, i < len → ∃ l : TxV, l.Ok ∧ ∃ sa sb, TxIn w.heap.size w l sa sb ∧ ∀ j, j < 36 → w.cell? (a.add (i * 36 + j)) = (txL l sa sb)[j]? := by
   intro i hil
   obtain ⟨c, n, hc, hat, hf⟩ := hi i (by omega)
   obtain ⟨c0, c1, c2, c3, c4, c5, c6, c7, c8, c9, c10, c11, c12, c13, c14, c15, c16, c17, c18, c19, c20, c21, c22, c23, c24, c25, c26, c27, c28, c29, c30, c31, c32, c33, c34, c35, rfl⟩ : ∃ c0 c1 c2 c3 c4 c5 c6 c7 c8 c9 c10 c11 c12 c13 c14 c15 c16 c17 c18 c19 c20 c21 c22 c23 c24 c25 c26 c27 c28 c29 c30 c31 c32 c33 c34 c35, c = [c0, c1, c2, c3, c4, c5, c6, c7, c8, c9, c10, c11, c12, c13, c14, c15, c16, c17, c18, c19, c20, c21, c22, c23, c24, c25, c26, c27, c28, c29, c30, c31, c32, c33, c34, c35] := ⟨_, _, _, _, _, _, _, _, _, _, _, _, _, _, _, _, _, _, _, _, _, _, _, _, _, _, _, _, _, _, _, _, _, _, _, _, list_range c 36 hc⟩
   obtain ⟨y0, e0⟩ := hf 0 t0 rfl
   rw [a0, b0, show Tryz.prog.cellsOf 3 = 1 by kernel_rfl] at e0
   replace e0 : DataW.trod enc Tryz.prog w base (fun _ => true) held n 3 [c0] = some y0 := e0
   obtain ⟨k0, h0, _, w0⟩ := DataW.trod_int Tryz.underlying3 e0
   simp only [List.cons.injEq, and_true] at h0
   subst h0
   obtain ⟨y1, e1⟩ := hf 1 t1 rfl
   rw [a1, b1, show Tryz.prog.cellsOf 23 = 1 by kernel_rfl] at e1
   replace e1 : DataW.trod enc Tryz.prog w base (fun _ => true) held n 23 [c1] = some y1 := e1
   obtain ⟨k1, h1, _, w1⟩ := DataW.trod_int Tryz.underlying23 e1
   simp only [List.cons.injEq, and_true] at h1
   subst h1
   obtain ⟨z1, rfl⟩ := Int.eq_ofNat_of_zero_le (wf_u64 w1).1
   have q1 := (wf_u64 w1).2
   obtain ⟨y2, e2⟩ := hf 2 t2 rfl
   rw [a2, b2, show Tryz.prog.cellsOf 23 = 1 by kernel_rfl] at e2
   replace e2 : DataW.trod enc Tryz.prog w base (fun _ => true) held n 23 [c2] = some y2 := e2
   obtain ⟨k2, h2, _, w2⟩ := DataW.trod_int Tryz.underlying23 e2
   simp only [List.cons.injEq, and_true] at h2
   subst h2
   obtain ⟨z2, rfl⟩ := Int.eq_ofNat_of_zero_le (wf_u64 w2).1
   have q2 := (wf_u64 w2).2
   obtain ⟨y3, e3⟩ := hf 3 t3 rfl
   rw [a3, b3, show Tryz.prog.cellsOf 38 = 4 by kernel_rfl] at e3
   replace e3 : DataW.trod enc Tryz.prog w base (fun _ => true) held n 38 [c3, c4, c5, c6] = some y3 := e3
   obtain ⟨N3, q3, h3⟩ := word_trod e3
   simp only [List.cons.injEq, and_true] at h3
   obtain ⟨rfl, rfl, rfl, rfl⟩ := h3
   obtain ⟨y4, e4⟩ := hf 4 t4 rfl
   rw [a4, b4, show Tryz.prog.cellsOf 38 = 4 by kernel_rfl] at e4
   replace e4 : DataW.trod enc Tryz.prog w base (fun _ => true) held n 38 [c7, c8, c9, c10] = some y4 := e4
   obtain ⟨N4, q4, h4⟩ := word_trod e4
   simp only [List.cons.injEq, and_true] at h4
   obtain ⟨rfl, rfl, rfl, rfl⟩ := h4
   obtain ⟨y5, e5⟩ := hf 5 t5 rfl
   rw [a5, b5, show Tryz.prog.cellsOf 23 = 1 by kernel_rfl] at e5
   replace e5 : DataW.trod enc Tryz.prog w base (fun _ => true) held n 23 [c11] = some y5 := e5
   obtain ⟨k5, h5, _, w5⟩ := DataW.trod_int Tryz.underlying23 e5
   simp only [List.cons.injEq, and_true] at h5
   subst h5
   obtain ⟨z5, rfl⟩ := Int.eq_ofNat_of_zero_le (wf_u64 w5).1
   have q5 := (wf_u64 w5).2
   obtain ⟨y6, e6⟩ := hf 6 t6 rfl
   rw [a6, b6, show Tryz.prog.cellsOf 9 = 1 by kernel_rfl] at e6
   replace e6 : DataW.trod enc Tryz.prog w base (fun _ => true) held n 9 [c12] = some y6 := e6
   obtain ⟨s6, h6, _⟩ := DataW.trod_string Tryz.underlying9 e6
   simp only [List.cons.injEq, and_true] at h6
   subst h6
   obtain ⟨y7, e7⟩ := hf 7 t7 rfl
   rw [a7, b7, show Tryz.prog.cellsOf 38 = 4 by kernel_rfl] at e7
   replace e7 : DataW.trod enc Tryz.prog w base (fun _ => true) held n 38 [c13, c14, c15, c16] = some y7 := e7
   obtain ⟨N7, q7, h7⟩ := word_trod e7
   simp only [List.cons.injEq, and_true] at h7
   obtain ⟨rfl, rfl, rfl, rfl⟩ := h7
   obtain ⟨y8, e8⟩ := hf 8 t8 rfl
   rw [a8, b8, show Tryz.prog.cellsOf 9 = 1 by kernel_rfl] at e8
   replace e8 : DataW.trod enc Tryz.prog w base (fun _ => true) held n 9 [c17] = some y8 := e8
   obtain ⟨s8, h8, _⟩ := DataW.trod_string Tryz.underlying9 e8
   simp only [List.cons.injEq, and_true] at h8
   subst h8
   obtain ⟨y9, e9⟩ := hf 9 t9 rfl
   rw [a9, b9, show Tryz.prog.cellsOf 39 = 1 by kernel_rfl] at e9
   replace e9 : DataW.trod enc Tryz.prog w base (fun _ => true) held n 39 [c18] = some y9 := e9
   obtain ⟨A9, n9, x9, l9, rfl, r9, m9⟩ := reads_of_acc e9
   obtain ⟨y10, e10⟩ := hf 10 t10 rfl
   rw [a10, b10, show Tryz.prog.cellsOf 40 = 1 by kernel_rfl] at e10
   replace e10 : DataW.trod enc Tryz.prog w base (fun _ => true) held n 40 [c19] = some y10 := e10
   obtain ⟨A10, n10, x10, l10, rfl, r10, o10, m10⟩ := reads_of_aut e10
   obtain ⟨y11, e11⟩ := hf 11 t11 rfl
   rw [a11, b11, show Tryz.prog.cellsOf 23 = 1 by kernel_rfl] at e11
   replace e11 : DataW.trod enc Tryz.prog w base (fun _ => true) held n 23 [c20] = some y11 := e11
   obtain ⟨k11, h11, _, w11⟩ := DataW.trod_int Tryz.underlying23 e11
   simp only [List.cons.injEq, and_true] at h11
   subst h11
   obtain ⟨z11, rfl⟩ := Int.eq_ofNat_of_zero_le (wf_u64 w11).1
   have q11 := (wf_u64 w11).2
   obtain ⟨y12, e12⟩ := hf 12 t12 rfl
   rw [a12, b12, show Tryz.prog.cellsOf 38 = 4 by kernel_rfl] at e12
   replace e12 : DataW.trod enc Tryz.prog w base (fun _ => true) held n 38 [c21, c22, c23, c24] = some y12 := e12
   obtain ⟨N12, q12, h12⟩ := word_trod e12
   simp only [List.cons.injEq, and_true] at h12
   obtain ⟨rfl, rfl, rfl, rfl⟩ := h12
   obtain ⟨y13, e13⟩ := hf 13 t13 rfl
   rw [a13, b13, show Tryz.prog.cellsOf 38 = 4 by kernel_rfl] at e13
   replace e13 : DataW.trod enc Tryz.prog w base (fun _ => true) held n 38 [c25, c26, c27, c28] = some y13 := e13
   obtain ⟨N13, q13, h13⟩ := word_trod e13
   simp only [List.cons.injEq, and_true] at h13
   obtain ⟨rfl, rfl, rfl, rfl⟩ := h13
   obtain ⟨y14, e14⟩ := hf 14 t14 rfl
   rw [a14, b14, show Tryz.prog.cellsOf 9 = 1 by kernel_rfl] at e14
   replace e14 : DataW.trod enc Tryz.prog w base (fun _ => true) held n 9 [c29] = some y14 := e14
   obtain ⟨s14, h14, _⟩ := DataW.trod_string Tryz.underlying9 e14
   simp only [List.cons.injEq, and_true] at h14
   subst h14
   obtain ⟨y15, e15⟩ := hf 15 t15 rfl
   rw [a15, b15, show Tryz.prog.cellsOf 9 = 1 by kernel_rfl] at e15
   replace e15 : DataW.trod enc Tryz.prog w base (fun _ => true) held n 9 [c30] = some y15 := e15
   obtain ⟨s15, h15, _⟩ := DataW.trod_string Tryz.underlying9 e15
   simp only [List.cons.injEq, and_true] at h15
   subst h15
   obtain ⟨y16, e16⟩ := hf 16 t16 rfl
   rw [a16, b16, show Tryz.prog.cellsOf 38 = 4 by kernel_rfl] at e16
   replace e16 : DataW.trod enc Tryz.prog w base (fun _ => true) held n 38 [c31, c32, c33, c34] = some y16 := e16
   obtain ⟨N16, q16, h16⟩ := word_trod e16
   simp only [List.cons.injEq, and_true] at h16
   obtain ⟨rfl, rfl, rfl, rfl⟩ := h16
   obtain ⟨y17, e17⟩ := hf 17 t17 rfl
   rw [a17, b17, show Tryz.prog.cellsOf 4 = 1 by kernel_rfl] at e17
   replace e17 : DataW.trod enc Tryz.prog w base (fun _ => true) held n 4 [c35] = some y17 := e17
   obtain ⟨s17, h17, _⟩ := DataW.trod_bool Tryz.underlying4 e17
   simp only [List.cons.injEq, and_true] at h17
   subst h17
   have g9 := r9.1; have g10 := r10.1
   refine ⟨⟨k0, z1, z2, N3, N4, z5, s6, N7, s8, l9, l10, z11, N12, N13, s14, s15, N16, s17⟩, ⟨by show z1 < _; omega, by show z2 < _; omega, q3, q4, by show z5 < _; omega, q7, by show z11 < _; omega, q12, q13, q16, o10⟩, .slice A9 n9 x9, .slice A10 n10 x10, ⟨⟨A9, x9, by rw [g9], by rw [g9]; exact r9⟩, ⟨A10, x10, by rw [g10], by rw [g10]; exact r10⟩, by show l9.length ≤ _; omega, by show l10.length ≤ _; omega⟩, fun j hj => hat j hj⟩
  obtain ⟨ls, hll, hls⟩ := list_ofI len key
  refine ⟨some a, len, cap, ls, hcs, ⟨hll, fun h0 => ?_⟩, fun t ht => ?_, by omega, hl⟩
  ·obtain ⟨_, sa0, sb0, _, hc0⟩ := hls 0 (by omega)
   have c00 : w.cell? (a.add (0 * 36 + 0)) = some (.int .i64 (ls[0]'(by omega)).kind) := hc0 0 (by omega)
   have ea : a = ⟨a.block, a.off, none⟩ := lit_of_cell (a := a) (by simpa [Addr.add] using c00)
   refine ⟨a.block, a.off, by rw [← ea], ?_, fun i hi' => ?_⟩
   ·have := World.block_lt_of_cell? w _ (show w.cell? (a.add (0 * 36 + 0)) = some (.int .i64 (ls[0]'(by omega)).kind) from c00)
    rwa [block_of_add] at this
   ·have hg : ls.getD i TxV.zero = ls[i]'(by omega) := by rw [List.getD_eq_getElem?_getD, List.getElem?_eq_getElem (by omega)]; rfl
    obtain ⟨_, sa, sb, hin, hcl⟩ := hls i (by omega)
    rw [hg]
    refine ⟨sa, sb, fun j u hu => ?_, hin⟩
    have hj : j < 36 := (List.getElem?_eq_some_iff.1 hu).1
    have d := hcl j hj
    rw [ea, show (⟨a.block, a.off, none⟩ : Addr).add (i * 36 + j) = ⟨a.block, a.off + (i * 36 + j), none⟩ from Addr.add_mid _ _ _] at d
    rw [Nat.add_assoc, d, hu]
  ·obtain ⟨i, hi', rfl⟩ := List.mem_iff_getElem.1 ht
   exact (hls i hi').1
end
def EachI (ls : List TxV) (chain k : Nat) (E : Int) : Prop := (E = 0 ∧ 0 < chain ∧ chain ≤ 4611686018427387904 ∧ ∀ i, i < k → oneT chain (ls.getD i TxV.zero) = 0) ∨ (E ≠ 0 ∧ checkCol ls chain = E)
theorem each_nil (ls : List TxV) (chain : Nat) : EachI ls chain 0 (checkCol [] chain) := by
 unfold EachI
 by_cases h : (decide (chain = 0) || decide (4611686018427387904 < chain)) = true
 ·right
  have e : ∀ l : List TxV, checkCol l chain = 1 := fun l => by unfold checkCol; rw [if_pos h]
  rw [e, e]; exact ⟨by decide, rfl⟩
 ·left
  have e : checkCol [] chain = 0 := by unfold checkCol; rw [if_neg h]; rfl
  simp only [Bool.or_eq_true, decide_eq_true_eq, not_or] at h
  exact ⟨e, by omega, by omega, fun i hi => by omega⟩
theorem checkCol_in {ls : List TxV} {chain : Nat} (h0 : 0 < chain) (h1 : chain ≤ 4611686018427387904) (hl : ls.length ≤ 512) : checkCol ls chain = firstE (oneT chain) ls := by
 unfold checkCol
 rw [if_neg (by simp only [Bool.or_eq_true, decide_eq_true_eq, not_or]; omega), if_neg (by omega)]
theorem each_step {ls : List TxV} {chain k : Nat} {x : TxV} (h : EachI ls chain k 0) (hk : k < ls.length) (hl : ls.length ≤ 512) (hx : ls.getD k TxV.zero = x) : EachI ls chain (k + 1) (checkCol [x] chain) ∧ (checkCol [x] chain = 0 → checkT x = 0) := by
 rcases h with ⟨_, h0, h1, h2⟩ | ⟨h, _⟩
 ·have e : checkCol [x] chain = oneT chain x := by
   rw [checkCol_in h0 h1 (by simp)]
   unfold firstE
   split
   ·rfl
   ·rename_i h3
    rw [firstE]; exact (Classical.not_not.1 h3).symm
  rw [e]
  constructor
  ·by_cases hz : oneT chain x = 0
   ·left
    refine ⟨hz, h0, h1, fun i hi => ?_⟩
    by_cases hik : i < k
    ·exact h2 i hik
    ·obtain rfl : i = k := by omega
     rw [hx]; exact hz
   ·right
    refine ⟨hz, ?_⟩
    rw [checkCol_in h0 h1 hl]
    exact firstE_at h2 hk (by rw [hx]) hz
  ·intro hz
   exact (oneTB_0 (show oneTB _ _ _ _ _ _ = 0 from hz)).2.2.1
 ·exact absurd rfl h
theorem each_end {ls : List TxV} {chain k : Nat} {E : Int} (h : EachI ls chain k E) (hl : ls.length ≤ 512) (hk : E = 0 → k = ls.length) : checkCol ls chain = E := by
 rcases h with ⟨h0, h1, h2, h3⟩ | ⟨_, h⟩
 ·rw [h0, checkCol_in h1 h2 hl]
  exact firstE_none fun i hi => h3 i (by have := hk h0; omega)
 ·exact h
theorem AccR.up {B B' : Nat} {W : World} {ls : List AccV} {A : Option Addr} {n : Nat} (h : AccR B W ls A n) (hB : B ≤ B') : AccR B' W ls A n := by
 refine ⟨h.1, fun h0 => ?_⟩
 obtain ⟨g, off, h1, h2, h3⟩ := h.2 h0
 refine ⟨g, off, h1, by omega, fun i hi => ?_⟩
 obtain ⟨T, tc, a, b, c, d⟩ := h3 i hi
 exact ⟨T, tc, a, b, ⟨c.1, fun h => by obtain ⟨ad, e1, e2, e3⟩ := c.2 h; exact ⟨ad, e1, by omega, e3⟩⟩, d⟩
theorem TxIn.up {B B' : Nat} {W : World} {t : TxV} {sa sb : Value} (h : TxIn B W t sa sb) (hB : B ≤ B') : TxIn B' W t sa sb := by
 obtain ⟨⟨A, c, h1, h2⟩, ⟨A', c', h3, h4, h5⟩, h6, h7⟩ := h
 refine ⟨⟨A, c, h1, h2.up hB⟩, ⟨A', c', h3, h4, fun h0 => ?_⟩, h6, h7⟩
 obtain ⟨g, off, a, b, d⟩ := h5 h0
 exact ⟨g, off, a, by omega, d⟩
theorem TxsR.one {B : Nat} {W : World} {k g off : Nat} {x : TxV} {sa sb : Value} (hg : g < B) (hcx : W.rangeAt g (off + k * 36) (txL x sa sb)) (hix : TxIn B W x sa sb) : TxsR B W [x] (some ⟨g, off + k * 36, none⟩) 1 :=
 ⟨rfl, fun _ => ⟨g, off + k * 36, rfl, hg, fun i hi => by
  obtain rfl : i = 0 := by omega
  exact ⟨sa, sb, by simpa using hcx, by simpa using hix⟩⟩⟩
theorem ceach_law (A : Option Addr) (n c : Nat) (ls : List TxV) (chain : Nat) (w : World) (h : TxsR w.heap.size w ls A n) (hn : n ≤ 9223372036854775807) (hnc : n ≤ c) (ok : ∀ t ∈ ls, t.Ok) :
  Calls Tryz.prog 7 #[.slice A n c, .int .u64 (chain : Int)] w fun e w' => e = .returned (.bool true) ∧ w.grownBy w' none := by
 have HWK := Lib.hid (worksCo_any w)
 have HT := Lib.hid h; have BHT := Lib.hid (Nat.le_refl w.heap.size); have HN := Lib.hid hn; have HOK := Lib.hid ok; have HNC := Lib.hid hnc
 clear h hn ok hnc
 go_enter Tryz.func7, Tryz.ntmps7
 go_wp2_with fail
 refine HWK.out.mono ?_
 rintro e w2 ⟨rfl, hg⟩
 have HG := Lib.hid hg
 have HT := Lib.hid (HT.out.grown hg BHT.out); have BHT := Lib.hid (Nat.le_trans BHT.out hg.size)
 clear hg HWK
 go_wp2_with fail
 refine (fewTxs_any _ A n c ls w2 HT.out BHT.out HN.out).mono ?_
 rintro e w3 ⟨⟨fw, rfl, hfw⟩, hg⟩
 have HG := Lib.hid (grown_self HG.out hg (by simp))
 have HT := Lib.hid (HT.out.grown hg BHT.out); have BHT := Lib.hid (Nat.le_trans BHT.out hg.size)
 clear hg
 cases fw with
 | false =>
  go_wp2_with fail
  go_ret
  exact ⟨rfl, HG.out⟩
 | true =>
 have HF := Lib.hid (hfw rfl)
 clear hfw
 go_wp2_with fail
 refine (colCheck_any 0 none 0 0 [] chain w3 (nilTxs _ _) (Nat.zero_le _) (by decide) (fun t h => by cases h)).mono ?_
 rintro e w4 ⟨rfl, hg⟩
 have HG := Lib.hid (grown_self HG.out hg (by simp))
 have HT := Lib.hid (HT.out.grown hg BHT.out); have BHT := Lib.hid (Nat.le_trans BHT.out hg.size)
 clear hg
 have hI := each_nil ls chain
 obtain ⟨E0, hE0⟩ : ∃ E, checkCol [] chain = E := ⟨_, rfl⟩
 rw [hE0] at hI ⊢
 have HI := Lib.hid hI
 clear hE0 hI
 go_wp2_with fail
 go_loopw [8, 7] (fun v ev wr => ∃ (k : Nat) (E : Int), v = .int .i64 k ∧ ev = .int .i64 E ∧ k ≤ n ∧ w4.grownBy wr none ∧ Hid (EachI ls chain k E)) (fun v _ _ => n - (intOf v).toNat)
 case atStart => exact ⟨0, E0, rfl, rfl, Nat.zero_le _, World.grownBy.refl _ _, HI⟩
 case round =>
  obtain ⟨k, E, rfl, rfl, hk, hg, HE⟩ := hrel
  have HGG := Lib.hid hg
  have HTR := Lib.hid (HT.out.grown hg BHT.out); have BTR := Lib.hid (Nat.le_trans BHT.out hg.size)
  have hln := HT.out.1
  have HLN := Lib.hid hln
  clear hg hln
  by_cases hgo : k < n ∧ E = 0
  ·obtain ⟨h1, rfl⟩ := hgo
   obtain ⟨g, off, sa, sb, x, rfl, hx, hmx, hcx, hix⟩ := HTR.out.at_ h1
   have hgB : g < wr.heap.size := World.block_lt_of_cell? wr _ (hcx 0 _ rfl)
   obtain ⟨hst, hct⟩ := each_step HE.out (by have := HLN.out; omega) (by have := HLN.out; have := HF.out; omega) hx
   obtain ⟨E2, hE2⟩ : ∃ E, checkCol [x] chain = E := ⟨_, rfl⟩
   rw [hE2] at hst hct
   have hone := TxsR.one (Nat.lt_of_lt_of_le hgB (Nat.le_refl _)) hcx (hix.up BTR.out)
   have hck := colCheck_any wr.heap.size (some ⟨g, off + k * 36, none⟩) 1 (c - k) [x] chain wr hone (Nat.le_refl _) (by decide) (fun t ht => (show t = x by simpa using ht) ▸ HOK.out x hmx)
   rw [hE2] at hck
   have HST := Lib.hid hst; have HCT := Lib.hid hct; have HCK := Lib.hid hck
   have HOX := Lib.hid (HOK.out x hmx)
   have q1 : (k : Int) < (n : Int) := by omega
   have hw : IntKind.i64.wrap ((k : Int) + 1) = ((k + 1 : Nat) : Int) := wrap_natC (k := k + 1) (by have := HN.out; omega)
   have HW := Lib.hid hw
   obtain ⟨cx, hcx2⟩ : ∃ z, txC x sa sb = z := ⟨_, rfl⟩
   have ex : txL x sa sb = cx.toList := by rw [← hcx2]; rfl
   have zx : cx.toList.length = 36 := by rw [← ex]; rfl
   have htc := fun V (hV : wr.grownBy V none) => txCheckC_any x w.heap.size sa sb V (hix.grown hV BTR.out) (Nat.le_trans BTR.out (World.grownBy.size hV)) HOX.out
   rw [hcx2] at htc
   rw [ex] at hcx
   have HTC := Lib.hid htc; have HCX := Lib.hid hcx; have HZX := Lib.hid zx
   have hkc : k + 1 ≤ c := by have := HNC.out; omega
   have HKC := Lib.hid hkc
   clear hst hct hck hone hx hmx hcx hix hgB hE2 hcx2 ex zx htc hk
   go_upto_region 11 with (fail)
   refine wp_region_list ?_
   refine zm 0 (.slice (some ⟨g, off, none⟩) n c) rfl ?_
   simp only [Act.put, jb, jz, js]
   refine zm 8 (.int .i64 (k : Int)) rfl ?_
   simp only [Act.put, jb, jz, js]
   refine zm 8 (.int .i64 (k : Int)) rfl ?_
   simp only [Act.put, jb, jz, js]
   refine wpList_value rfl (.int .i64 ((k + 1 : Nat) : Int)) (by go_simp <;> first | rfl | (rw [hw]) | exact hw) ?_
   simp only [Act.put, jb, jz, js]
   have q7 : ¬ c = k := by omega
   refine wpList_value rfl (.slice (some ⟨g, off + k * 36, none⟩) 1 (c - k)) (by go_simp <;> first | rfl | (rw [if_pos ⟨by omega, by omega⟩])) ?_
   simp only [Act.put, jb, jz, js]
   refine zm 1 (.int .u64 (chain : Int)) rfl ?_
   simp only [Act.put, jb, jz, js]
   refine wpList_enter rfl 13 #[.slice (some ⟨g, off + k * 36, none⟩) 1 (c - k), .int .u64 (chain : Int)] (exec_call2 _ (.tmp 33) (.tmp 34) _ rfl _ _ rfl rfl (enters_of Tryz.func13 (by kernel_rfl) rfl _ _)) (HCK.out.mono ?_)
   rintro e w5 ⟨rfl, hg5⟩
   have HG5 := Lib.hid hg5
   have HGB := Lib.hid (grown_self HGG.out hg5 (by simp))
   clear hg5
   refine ⟨_, rfl, ?_⟩
   simp only [Act.put, jb, jz, js]
   refine wpList_value rfl (.int .i64 E2) (by go_simp <;> rfl) ?_
   simp only [Act.put, jb, jz, js]
   refine wpList_nil ?_
   go_upto_region 12 with (fail)
   refine wp_region_list ?_
   refine zm 7 (.int .i64 E2) rfl ?_
   simp only [Act.put, jb, jz, js]
   by_cases hz : E2 = 0
   ·subst hz
    refine wpList_value rfl (.bool true) (by go_simp <;> rfl) ?_
    simp only [Act.put, jb, jz, js]
    refine zm 37 (.bool true) rfl ?_
    simp only [Act.put, jb, jz, js]
    refine wpList_valueG rfl (.slice (some ⟨g, off, none⟩) n c) (exec_moveC (.tmp 0) rfl _ rfl) ?_
    simp only [Act.put, jb, jz, js]
    refine wpList_valueG rfl (.int .i64 (k : Int)) (exec_moveC (.tmp 8) rfl _ rfl) ?_
    simp only [Act.put, jb, jz, js]
    refine wpList_valueG rfl (.pointer (some ⟨g, off + k * 36, none⟩)) (by go_simp <;> first | rfl | simp [Nat.mul_comm]) ?_
    simp only [Act.put, jb, jz, js]
    refine wpList_valueG rfl (.agg cx) (exec_load_mid rfl rfl cx.toList (rangeAt_grown HCX.out HG5.out) _ Tryz.underlying42 rfl (by rw [HZX.out]; kernel_rfl)) ?_
    simp only [Act.put, jb, jz, js]
    have ht := HTC.out w5 HG5.out
    rw [HCT.out rfl] at ht
    refine wpList_enterG rfl 17 #[.agg cx] (exec_call1 _ (.tmp 42) _ rfl _ rfl (enters_of Tryz.func17 (by kernel_rfl) rfl _ _)) (ht.mono ?_)
    clear ht
    rintro e w6 ⟨rfl, hg6⟩
    have HGC := Lib.hid (grown_self HGB.out hg6 (by simp))
    clear hg6
    refine ⟨_, rfl, ?_⟩
    simp only [Act.put, jb, jz, js]
    refine wpList_valueG rfl (.bool false) (by go_simp <;> rfl) ?_
    simp only [Act.put, jb, jz, js]
    refine wpList_value rfl (.bool false) (exec_pickC (.tmp 38) (.tmp 44) _ rfl true rfl _ rfl) ?_
    simp only [Act.put, jb, jz, js]
    refine wpList_nil ?_
    go_wp2_with fail
    go_roundw
    case rel => exact ⟨k + 1, 0, by go_num, rfl, by omega, HGC.out, HST⟩
    case measure => simp [intOf]; omega
   ·have q8 : (E2 == 0) = false := by simpa using hz
    refine wpList_value rfl (.bool false) (by go_simp <;> first | rfl | exact q8 | simp [q8]) ?_
    simp only [Act.put, jb, jz, js]
    refine zm 37 (.bool false) rfl ?_
    simp only [Act.put, jb, jz, js]
    refine wpList_lack rfl ?_
    simp only [Act.put, jb, jz, js]
    refine wpList_lack rfl ?_
    simp only [Act.put, jb, jz, js]
    refine wpList_lack rfl ?_
    simp only [Act.put, jb, jz, js]
    refine wpList_lack rfl ?_
    simp only [Act.put, jb, jz, js]
    refine wpList_lack rfl ?_
    simp only [Act.put, jb, jz, js]
    refine wpList_lack rfl ?_
    simp only [Act.put, jb, jz, js]
    refine wpList_value rfl (.bool false) (exec_pickC (.tmp 38) (.tmp 44) _ rfl false rfl _ rfl) ?_
    simp only [Act.put, jb, jz, js]
    refine wpList_nil ?_
    clear hz
    go_wp2_with fail
    go_roundw
    case rel => exact ⟨k + 1, E2, by go_num, rfl, by omega, HGB.out, HST⟩
    case measure => simp [intOf]; omega
  ·have hend := each_end HE.out (by have := HLN.out; have := HF.out; omega) (fun h0 => by have := HLN.out; by_cases h : k < n; exact absurd ⟨h, h0⟩ hgo; omega)
   have hck := colCheck_any _ A n c ls chain wr HTR.out BTR.out HN.out HOK.out
   rw [hend] at hck
   have HCK := Lib.hid hck
   clear hck hend
   by_cases h1 : k < n
   ·have q1 : (k : Int) < (n : Int) := by omega
    have q2 : (E == 0) = false := by
     have : ¬ E = 0 := fun h => hgo ⟨h1, h⟩
     simpa using this
    clear hgo h1 hk
    go_upto_region 14 with (fail)
    refine wp_region_list ?_
    refine zm 5 (.bool true) rfl ?_
    simp only [Act.put, jb, jz, js]
    refine zm 46 (.bool true) rfl ?_
    simp only [Act.put, jb, jz, js]
    refine wpList_valueG rfl (.slice A n c) (exec_moveC (.tmp 0) rfl _ rfl) ?_
    simp only [Act.put, jb, jz, js]
    refine wpList_valueG rfl (.int .u64 (chain : Int)) (exec_moveC (.tmp 1) rfl _ rfl) ?_
    simp only [Act.put, jb, jz, js]
    refine wpList_enterG rfl 13 #[.slice A n c, .int .u64 (chain : Int)] (exec_call2 _ (.tmp 48) (.tmp 49) _ rfl _ _ rfl rfl (enters_of Tryz.func13 (by kernel_rfl) rfl _ _)) (HCK.out.mono ?_)
    rintro e w5 ⟨rfl, hg⟩
    have HG5 := Lib.hid (grown_self (grown_self HG.out HGG.out (by simp)) hg (by simp))
    clear hg
    refine ⟨_, rfl, ?_⟩
    simp only [Act.put, jb, jz, js]
    refine wpList_valueG rfl (.int .i64 E) (exec_moveC (.tmp 7) rfl _ rfl) ?_
    simp only [Act.put, jb, jz, js]
    refine wpList_valueG rfl (.bool true) (by go_simp <;> first | rfl | simp) ?_
    simp only [Act.put, jb, jz, js]
    refine wpList_value rfl (.bool true) (exec_pickC (.tmp 47) (.tmp 52) _ rfl true rfl _ rfl) ?_
    simp only [Act.put, jb, jz, js]
    refine wpList_value rfl (.bool true) (by go_simp <;> rfl) ?_
    simp only [Act.put, jb, jz, js]
    refine wpList_nil ?_
    go_wp2_with fail
    go_ret
    exact ⟨rfl, HG5.out⟩
   ·have q1 : decide ((k : Int) < (n : Int)) = false := decide_eq_false (by omega)
    have q4 : ¬ ((k : Int) < (n : Int)) := by omega
    have q5 : (n : Int) ≤ (k : Int) := by omega
    clear hgo h1 hk
    go_upto_region 14 with (fail)
    refine wp_region_list ?_
    refine zm 5 (.bool true) rfl ?_
    simp only [Act.put, jb, jz, js]
    refine zm 46 (.bool true) rfl ?_
    simp only [Act.put, jb, jz, js]
    refine wpList_valueG rfl (.slice A n c) (exec_moveC (.tmp 0) rfl _ rfl) ?_
    simp only [Act.put, jb, jz, js]
    refine wpList_valueG rfl (.int .u64 (chain : Int)) (exec_moveC (.tmp 1) rfl _ rfl) ?_
    simp only [Act.put, jb, jz, js]
    refine wpList_enterG rfl 13 #[.slice A n c, .int .u64 (chain : Int)] (exec_call2 _ (.tmp 48) (.tmp 49) _ rfl _ _ rfl rfl (enters_of Tryz.func13 (by kernel_rfl) rfl _ _)) (HCK.out.mono ?_)
    rintro e w5 ⟨rfl, hg⟩
    have HG5 := Lib.hid (grown_self (grown_self HG.out HGG.out (by simp)) hg (by simp))
    clear hg
    refine ⟨_, rfl, ?_⟩
    simp only [Act.put, jb, jz, js]
    refine wpList_valueG rfl (.int .i64 E) (exec_moveC (.tmp 7) rfl _ rfl) ?_
    simp only [Act.put, jb, jz, js]
    refine wpList_valueG rfl (.bool true) (by go_simp <;> first | rfl | simp) ?_
    simp only [Act.put, jb, jz, js]
    refine wpList_value rfl (.bool true) (exec_pickC (.tmp 47) (.tmp 52) _ rfl true rfl _ rfl) ?_
    simp only [Act.put, jb, jz, js]
    refine wpList_value rfl (.bool true) (by go_simp <;> rfl) ?_
    simp only [Act.put, jb, jz, js]
    refine wpList_nil ?_
    go_wp2_with fail
    go_ret
    exact ⟨rfl, HG5.out⟩
end Go.Proofs.YtgclnikdkfpflaaGreatDoor
