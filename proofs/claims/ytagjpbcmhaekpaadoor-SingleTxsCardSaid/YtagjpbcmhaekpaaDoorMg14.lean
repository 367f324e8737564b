/- Merged: SngU, SngV. -/
import Derived.Test.YtagjpbcmhaekpaaDoorMg13
import Derived.Laws.AppendOwnNone
/- A row of texts put behind a row that is the call's own, whether it is nil or not. -/
namespace Go.Proofs.YtagjpbcmhaekpaaDoor
open Go.RowKit Go.Shelf
set_option linter.unusedVariables false
set_option linter.unusedSimpArgs false

set_option maxRecDepth 100000 in
theorem infoS : ∃ i, Tryd.prog.info? 9 = some i ∧ i.zero = some (.string .empty) ∧ i.size = 1 ∧ i.bytes = 16 ∧ (Value.string ByteArray.empty).cells.size = 1 := by
  have h : ∃ i, Tryd.prog.info? 9 = some i := ⟨_, rfl⟩
  obtain ⟨i, hi⟩ := h
  refine ⟨i, hi, ?_⟩
  cases hi
  exact ⟨rfl, rfl, rfl, rfl⟩
theorem wpList_append_strs {w : World} {ops : Array Oper} {rest : List Oper} {o : Oper} {a : Act} {Q : Exit → Act → World → Prop} (hgd : o.guard = none) (s x : Operand)
    (ho : o.op = .call { callee := .builtin .append, args := #[s, x], argTypes := #[23, 23] })
    (base : Nat) (v : Value) (m : Nat) (ys : List ByteArray) (hs : a.eval s = v) (hown : w.ownsRow base 9 1 v m (ys.map Value.string))
    (B : Nat) (A : Option Addr) (n c : Nat) (xs : List ByteArray) (hx : a.eval x = .slice A n c) (hR : Reads w B 1 A n (xs.map Value.string)) (hA : A = none → n = 0 ∧ c = 0) (hmn : m + n ≤ 1000000) (hbase : base ≤ w.heap.size)
    (h : ∀ v' w', w'.ownsRow base 9 1 v' (m + n) ((ys ++ xs).map Value.string) → w.grownBy w' v.ownBlock → wpList Tryd.prog ops Q rest (a.put o.dst v') w') : wpList Tryd.prog ops Q (o :: rest) a w := by
  obtain ⟨i, hi, hz1, hz2, hz3, hz4⟩ := infoS
  have hl : xs.length = n := by have := hR.1; simpa using this
  rcases A with _ | ad
  · obtain ⟨rfl, rfl⟩ := hA rfl
    obtain rfl : xs = [] := List.length_eq_zero_iff.1 hl
    refine wpList_append_own_none hgd s x _ ho base _ i 1 Tryd.underlying23 hi v m _ hs hown hx ?_
    exact h v w (by simpa using hown) (World.grownBy.refl w _)
  · have hc : ∀ j u, (xs.map Value.string)[j]? = some u → w.cell? (ad.add j) = some u := by
      intro j u hu
      have hj : j < n := by
        rcases Nat.lt_or_ge j n with hj | hj
        · exact hj
        · rw [List.getElem?_eq_none (by simp; omega)] at hu; cases hu
      obtain ⟨ad', u', e1, _, e2, e3⟩ := hR.at_ hj
      cases e1
      rw [hu] at e2
      cases e2
      exact e3
    refine wpList_append_own _ hgd s x _ ho base _ i (.string .empty) 1 16 Tryd.underlying23 hi hz1 hz2 hz3 hz4 (by decide) v m _ hs hown ad n c _ hx (by simp [hl]) hc (by simp [Value.oneCell']) (by simp only [maxLen]; omega) (by omega) hbase ?_
    intro v' w' ho' hg _
    exact h v' w' (by simpa using ho') hg
end Go.Proofs.YtagjpbcmhaekpaaDoor
/- Batches of one block: the walk of SingleTxs. -/
namespace Go.Proofs.YtagjpbcmhaekpaaDoor
open Go.RowKit Go.Shelf
set_option linter.unusedVariables false
set_option linter.unusedSimpArgs false

theorem reads_one (w : World) (x : ByteArray) : Reads (w.alloc (.cells #[.string x] 9)) (w.heap.size + 1) 1 (some ⟨w.heap.size, 0, none⟩) 1 ([x].map Value.string) :=
  ⟨rfl, fun _ => ⟨_, rfl, Nat.lt_succ_self _, fun j u hu => by
    have := (Blk.new w 9 #[.string x]).cell j
    rw [Addr.add_mid, Nat.zero_add, this, ← hu]
    simp⟩⟩
set_option maxRecDepth 100000 in
set_option maxHeartbeats 4000000 in
theorem stxs_law (b : Sgl) (hk : b.Ok) (A : Option Addr) (n c : Nat) (x : ByteArray) (W : World) (hR : Reads W W.heap.size 1 A n (b.txs.map Value.string)) (hn : n ≤ 9223372036854775807) (hA : A = none → n = 0 ∧ c = 0) :
    Calls Tryd.prog 5 #[.agg (sglC b (.slice A n c)), .string x] W fun e w' => e = .returned (.bool true) ∧ Below W.heap.size W w' := by
  have hl : b.txs.length = n := by have := hR.1; simpa using this
  have HS := Lib.hid (SglSt.new W (c := c) (World.grownBy.refl W none) hR (Nat.le_refl _))
  have H1 := Lib.hid (fun V B hR hB => fewSg_any b B A n c V hR hB hn)
  have H3 := Lib.hid (fun V B hR hB => checkSg_any b B A n c V hR hB hn)
  have HK := Lib.hid hk; have HA := Lib.hid hA; have HL := Lib.hid hl
  have HE : ∀ f k, Hid (fewS b = f → checkS b = k → fewS b = f ∧ checkS b = k) := fun f k => Lib.hid fun h1 h2 => ⟨h1, h2⟩
  obtain ⟨few, hfew⟩ : ∃ few, fewS b = few := ⟨_, rfl⟩
  obtain ⟨ck, hck⟩ : ∃ ck, checkS b = ck := ⟨_, rfl⟩
  rw [hfew] at H1
  rw [hck] at H3
  have HF := Lib.hid hfew; have HC := Lib.hid hck
  obtain ⟨g, hg⟩ : ∃ g, W.heap.size = g := ⟨_, rfl⟩
  rw [hg] at HS
  clear hfew hck HE hR hn hl hk hA
  obtain ⟨bp, be, bh, bt, xs⟩ := b
  simp only [sglC] at H1 H3 HS
  go_enter Tryd.func5, Tryd.ntmps5
  go_upto_region 1 with (fail)
  simp only [sglC]
  generalize W.alloc (.cells #[.string bp, .int .u64 (be : Int), .string bh, .int .u64 (bt : Int), .slice A n c] 25) = w1 at *
  have HG := Lib.hid hg
  clear hg
  go_wp2_with fail
  refine (worksS_any _).mono ?_
  rintro e w2 ⟨rfl, hg⟩
  replace HS := Lib.hid (HS.out.step hg)
  clear hg
  obtain ⟨c0, c1, c2, c3, c4⟩ := HS.out.cells
  go_wp2_with fail
  refine (H1.out _ _ HS.out.reads HS.out.base).mono ?_
  rintro e w3 ⟨rfl, hg⟩
  replace HS := Lib.hid (HS.out.step hg)
  clear hg c0 c1 c2 c3 c4
  cases few with
  | false =>
    go_wp2_with fail
    go_ret
    exact ⟨rfl, below_of_grown HS.out.grown⟩
  | true =>
  obtain ⟨c0, c1, c2, c3, c4⟩ := HS.out.cells
  go_wp2_with fail
  refine (H3.out _ _ HS.out.reads HS.out.base).mono ?_
  rintro e w4 ⟨rfl, hg⟩
  replace HS := Lib.hid (HS.out.step hg)
  clear hg c0 c1 c2 c3 c4 H1 H3
  by_cases hck : ck = 0
  rotate_left
  · have q1 : decide (ck = 0) = false := by simp [hck]
    go_wp2_with fail
    go_ret
    exact ⟨rfl, below_of_grown HS.out.grown⟩
  subst hck
  by_cases hz : 2000 < x.size
  · have q1 : decide ((2000 : Int) < (x.size : Int)) = true := by simp; omega
    go_wp2_with fail
    go_ret
    exact ⟨rfl, below_of_grown HS.out.grown⟩
  have q1 : decide ((2000 : Int) < (x.size : Int)) = false := by simp; omega
  have HZ := Lib.hid hz
  have HN := Lib.hid (show n ≤ 32 by have := (checkS_0.1 HC.out).2.2.1; have := HL.out; simp only at *; omega)
  clear hz
  go_upto_region 7 with (fail)
  clear q1
  obtain ⟨c0, c1, c2, c3, c4⟩ := HS.out.cells
  go_upto_region 8 with (fail)
  have hgW := HS.out.grown.size
  have hgg : g ≠ w4.heap.size := Nat.ne_of_lt HS.out.blk.lt
  have HT := Lib.hid (SglSt.new W (b := ⟨bp, be, bh, bt, xs⟩) (c := c) HS.out.grown HS.out.reads HS.out.base)
  have ha := only_alloc (World.grownBy.refl w4 none) (.cells #[.string bp, .int .u64 (be : Int), .string bh, .int .u64 (bt : Int), .slice A n c] 25)
  replace HS := Lib.hid (HS.out.step ha)
  simp only [sglC] at HT
  clear ha c0 c1 c2 c3 c4
  obtain ⟨g', hg'⟩ : ∃ g', w4.heap.size = g' := ⟨_, rfl⟩
  rw [hg'] at HT hgg hgW ⊢
  clear hg'
  generalize w4.alloc (.cells #[.string bp, .int .u64 (be : Int), .string bh, .int .u64 (bt : Int), .slice A n c] 25) = u at *
  have ha := only_alloc (World.grownBy.refl u none) (.cells #[] 9)
  have hown0 : (u.alloc (.cells #[] 9)).ownsRow u.heap.size 9 1 (.slice (some ⟨u.heap.size, 0, none⟩) 0 0) 0 (([] : List ByteArray).map Value.string) := ⟨rfl, .inr ⟨u.heap.size, 0, #[], rfl, Nat.le_refl _, World.alloc_heap_new u _, Nat.le_refl _, by decide, rfl, rfl⟩⟩
  have hc4 := (HS.out.step ha).cells.2.2.2.2
  have hsz : (u.alloc (.cells #[] 9)).heap.size = u.heap.size + 1 := by simp
  have hn := HN.out
  go_upto_region 9 with (first | (at_builtin; refine wpList_append_strs rfl _ _ rfl u.heap.size _ 0 [] rfl hown0 _ A n c xs rfl (HS.out.step ha).reads HA.out (by omega) (by omega) ?_; intro v1 u1 hown1 hg1; rw [Nat.zero_add, List.nil_append] at hown1; obtain ⟨A1, c1, rfl⟩ := own_slice3S hown1; have hg2 : u.grownBy u1 none := grown_self ha hg1 (fun k hk => .inr (Nat.le_of_eq (Option.some.inj hk))); have hx1 := reads_one u1 x; have hsz1 := hg2.size) | (at_builtin; refine wpList_append_strs rfl _ _ rfl u.heap.size _ n xs rfl (hown1.alloc _) _ _ 1 1 [x] rfl hx1 (by intro e; cases e) (by omega) (by simp; omega) ?_; intro v2 u2 hown2 hg3; have hg4 : u.grownBy u2 none := (grown_self (only_alloc hg2 _) hg3 (fun k hk => .inr (own_ge hown1 hk))); obtain ⟨A2, c2, rfl⟩ := own_slice3S hown2; have HB := Lib.hid (HT.out.step hg4).blk; have hq4 := (HT.out.step hg4).cells.2.2.2.2; have hfz := HB.out.frozen 4; have hlt := HB.out.lt))
  have hb2 : Blk (u2.setCell ⟨g', 4, none⟩ (.slice A2 (n + 1) c2)) g' 25 #[.string bp, .int .u64 (be : Int), .string bh, .int .u64 (bt : Int), .slice A2 (n + 1) c2] := HB.out.set_ 4 _
  have hg5 : u2.grownBy (u2.setCell ⟨g', 4, none⟩ (.slice A2 (n + 1) c2)) (some g') := only_setCell (World.grownBy.refl u2 _) (.inl rfl) _
  have hb1 := (HS.out.step hg4).blk.far (p := ⟨g', 4, none⟩) hgg (.slice A2 (n + 1) c2)
  have hG := grown_self (HS.out.step hg4).grown hg5 (fun k hk => .inr (by have := Option.some.inj hk; omega))
  have hown5 := hown2.kept hg5 (.inr (own_blk_ne hown2 HB.out (by decide)))
  have HT5 : SglSt W (u2.setCell ⟨g', 4, none⟩ (.slice A2 (n + 1) c2)) g' (moreS ⟨bp, be, bh, bt, xs⟩ x) _ A2 (n + 1) c2 := ⟨hG, hb2, Reads.of_own hown5, Nat.le_refl _⟩
  replace HS := Lib.hid hb1
  replace HT := Lib.hid HT5
  simp only [sglC] at HS
  clear hb2 hg5 hb1 hG hown5 HT5 ha hown0 hc4 hsz hown1 hg1 hg2 hx1 hsz1 hown2 hg3 hg4 HB hq4 hfz hlt hgW hgg
  generalize u2.setCell ⟨g', 4, none⟩ (.slice A2 (n + 1) c2) = w5 at *
  have h2 := fun V B A c hk hR hB => putSg_any (moreS ⟨bp, be, bh, bt, xs⟩ x) hk B A (n + 1) c V hR hB (by omega)
  obtain ⟨c0, c1, c2, c3, c4⟩ := HT.out.cells
  have HL2 := Lib.hid (show (moreS ⟨bp, be, bh, bt, xs⟩ x).txs.length = n + 1 by have := HL.out; simp [moreS] at *; omega)
  by_cases hz : x.size = 0
  · rw [more_2 hz, putSL_bad (by rw [more_2 hz]; decide)] at h2
    have hx0 : x = ⟨#[]⟩ := by
      rcases x with ⟨d⟩
      congr
      exact Array.eq_empty_of_size_eq_zero hz
    simp only [sglC, moreS] at h2 c0 c1 c2 c3 c4
    have H2 := Lib.hid h2
    subst hx0
    clear h2 hz
    go_wp2_with fail
    refine (H2.out _ _ _ _ HK.out HT.out.reads HT.out.base).mono ?_
    rintro e w6 ⟨rfl, hg⟩
    replace HT := Lib.hid (HT.out.step hg)
    clear c0 c1 c2 c3 c4 hg
    go_wp2_with fail
    go_ret
    exact ⟨rfl, below_of_grown HT.out.grown⟩
  have hne : (x.toList == (⟨#[]⟩ : ByteArray).toList) = false := by
    rw [beq_eq_false_iff_ne, Lib.toList_data, Lib.toList_data]
    intro e
    have h3 : x.data.toList.length = x.size := Array.length_toList
    rw [e] at h3
    exact hz h3.symm
  have hne2 : (x.toList == []) = false := by
    have h3 : (⟨#[]⟩ : ByteArray).toList = [] := by rw [Lib.toList_data]
    rw [h3] at hne; exact hne
  have hne3 : x.toList.isEmpty = false := by cases h : x.toList with | nil => rw [h] at hne2; cases hne2 | cons a l => rfl
  by_cases h32 : 32 ≤ n
  · have h5 := more_5 (x := x) HC.out hz (by have := HL.out; simp only at *; omega)
    rw [h5, putSL_bad (by rw [h5]; decide)] at h2
    simp only [sglC, moreS] at h2 c0 c1 c2 c3 c4
    have H2 := Lib.hid h2
    have q1 : decide ((32 : Int) ≤ (n : Int)) = true := by simp; omega
    clear h2 hz h5 h32
    go_wp2_with fail
    refine (H2.out _ _ _ _ HK.out HT.out.reads HT.out.base).mono ?_
    rintro e w6 ⟨rfl, hg⟩
    replace HT := Lib.hid (HT.out.step hg)
    have b4 := (HS.out.grown hg (by simp)).cell 4
    simp only [List.getElem?_toArray, List.getElem?_cons_zero, List.getElem?_cons_succ] at b4
    clear c0 c1 c2 c3 c4 hg
    go_wp2_with fail
    go_ret
    exact ⟨rfl, below_of_grown HT.out.grown⟩
  obtain ⟨m1, m2, m3⟩ := more_0 (x := x) HK.out HF.out HC.out hz (by have := HZ.out; omega) (by have := HL.out; simp only at *; omega)
  have h4 := fun V => getSg_put (moreS ⟨bp, be, bh, bt, xs⟩ x) m3 m1 (by omega) V
  rw [m1] at h2
  rw [HL2.out] at h4
  simp only [sglC, moreS] at h2 h4 c0 c1 c2 c3 c4
  have hsz : (⟨(putSL ⟨bp, be, bh, bt, xs ++ [x]⟩).toArray⟩ : ByteArray).size ≤ 65537 := by rw [ba_sz]; exact m2
  generalize (⟨(putSL ⟨bp, be, bh, bt, xs ++ [x]⟩).toArray⟩ : ByteArray) = S at *
  have H2 := Lib.hid h2; have H4 := Lib.hid h4
  have q1 : decide ((32 : Int) ≤ (n : Int)) = false := by simp; omega
  have H32 := Lib.hid h32
  clear h2 h4 hz m1 m2 m3 h32 hsz
  go_wp2_with fail
  refine (H2.out _ _ _ _ HK.out HT.out.reads HT.out.base).mono ?_
  rintro e w6 ⟨rfl, hg⟩
  replace HT := Lib.hid (HT.out.step hg)
  replace HS := Lib.hid (HS.out.grown hg (by simp))
  have b4 := HS.out.cell 4
  simp only [List.getElem?_toArray, List.getElem?_cons_zero, List.getElem?_cons_succ] at b4
  clear c0 c1 c2 c3 c4 hg
  go_wp2_with fail
  refine (H4.out _).mono ?_
  rintro e w7 ⟨A3, c3, rfl, hr, hg⟩
  have HD := Lib.hid (SglSt.new W (b := moreS ⟨bp, be, bh, bt, xs⟩ x) (c := c3) (grown_self HT.out.grown hg (by simp)) (A := A3) (n := n + 1) hr (Nat.le_refl _))
  replace HT := Lib.hid (HT.out.step (only_alloc hg (.cells #[.string bp, .int .u64 (be : Int), .string bh, .int .u64 (bt : Int), .slice A3 (n + 1) c3] 25)))
  simp only [sglC, moreS] at HD HT
  clear hg hr b4
  go_upto_region 15 with (fail)
  obtain ⟨k, hk⟩ : ∃ k, w7.heap.size = k := ⟨_, rfl⟩
  rw [hk] at HD ⊢
  clear hk
  generalize w7.alloc (.cells #[.string bp, .int .u64 (be : Int), .string bh, .int .u64 (bt : Int), .slice A3 (n + 1) c3] 25) = w8 at *
  have d4 := HD.out.cells.2.2.2.2
  have e4 := HT.out.cells.2.2.2.2
  obtain ⟨ad, v, rfl, had, hv, hcell⟩ := HD.out.reads.at_ (Nat.lt_succ_self n)
  have hv : v = .string x := by
    have hl := HL.out
    rw [List.map_append, List.getElem?_append_right (by simp [hl])] at hv
    simp [hl] at hv
    exact hv.symm
  subst hv
  have e9 : IntKind.i64.wrap ((n : Int) + 1 - 1) = (n : Int) := by rw [IntWalk.i64_in _ (by omega)]; omega
  have e10 : IntKind.i64.wrap (((n + 1 : Nat) : Int) - 1) = (n : Int) := by rw [IntWalk.i64_in _ (by omega)]; omega
  have e11 : (n : Int) + 1 - 1 = (n : Int) := by omega
  have es : (x.toList == x.toList) = true := by simp
  go_wp2_with fail
  go_ret
  exact ⟨by simp, below_of_grown HD.out.grown⟩
end Go.Proofs.YtagjpbcmhaekpaaDoor
