/- Merged: RdK. -/
import Derived.Test.YthalohloneojlaaGreatDoorMi14
import Derived.Test.YthalohloneojlaaGreatDoorMi23
/- Receipts, the document's: GetBool; a receipt with what is wrong (the document's Got) is stored, is read. -/
namespace Go.Proofs.YthalohloneojlaaGreatDoor
open Go.RowKit Go.Shelf
set_option linter.unusedVariables false
set_option linter.unusedSimpArgs false

set_option maxRecDepth 100000 in
set_option maxHeartbeats 1000000 in
theorem getBoolR6_any (l : Bool) (s : ByteArray) (sv : Value) (w : World) :
    Calls Tryz.prog 71 #[.agg #[.bool l, .string s, sv]] w fun e w' => e = .returned (.tuple #[.bool (if l = false ∧ yesE s = 0 then yesV s else false), .int .i64 (if l then 2 else yesE s)]) ∧ w.grownBy w' none := by
  have hB := Blk.new w 45 #[.bool l, .string s, sv]
  have HG := Lib.hid (only_alloc (World.grownBy.refl w none) (.cells #[.bool l, .string s, sv] 45))
  obtain ⟨v, hv⟩ : ∃ v, (if l = false ∧ yesE s = 0 then yesV s else false) = v := ⟨_, rfl⟩
  obtain ⟨E, hE⟩ : ∃ E, (if l then (2 : Int) else yesE s) = E := ⟨_, rfl⟩
  rw [hv, hE]
  have HV := Lib.hid hv; have HE := Lib.hid hE
  clear hv hE
  go_enter Tryz.func71, Tryz.ntmps71
  go_upto_region 1 with (fail)
  obtain ⟨b, hb⟩ : ∃ b, w.heap.size = b := ⟨_, rfl⟩
  rw [hb] at hB ⊢
  clear hb
  generalize w.alloc (.cells #[.bool l, .string s, sv] 45) = W1 at *
  have c0 := hB.cell 0; have c1 := hB.cell 1
  have c2 := (hB.alloc (.cells #[.int .u8 1] 5)).cell 1
  simp only [List.getElem?_toArray, List.getElem?_cons_zero, List.getElem?_cons_succ] at c0 c1 c2
  clear hB
  cases l with
  | true =>
    go_wp2_with fail
    go_ret2
    exact ⟨by rw [← HV.out, ← HE.out]; rfl, HG.out⟩
  | false =>
    by_cases h1 : s = ⟨#[]⟩
    · subst h1
      have hT : E = 0 ∧ v = false := ⟨(show yesE ⟨#[]⟩ = E from HE.out).symm.trans (if_pos (.inl rfl)), HV.out.symm.trans ((if_pos ⟨rfl, if_pos (.inl rfl)⟩).trans (decide_eq_false (by intro e; injection e with e; cases e)))⟩
      obtain ⟨rfl, rfl⟩ := hT
      clear HV HE
      go_wp2_with fail
      go_ret2
      exact ⟨rfl, HG.out⟩
    obtain ⟨g1, g2, g3⟩ := isE_of h1
    have hcv : (convert 52 9 (.slice (some ⟨W1.heap.size, 0, none⟩) 1 1)).run Tryz.prog (W1.alloc (.cells #[.int .u8 1] 5)) = .ok (.string ⟨#[1]⟩) (W1.alloc (.cells #[.int .u8 1] 5)) := conv1k 1 W1
    by_cases h2 : s = ⟨#[1]⟩
    · have g4 := str_eqT h2
      have g5 : (s.toList != (⟨#[1]⟩ : ByteArray).toList) = false := by rw [bne, g4]; rfl
      have g6 : (s.toList == [1]) = true := by rw [Lib.toList_data (⟨#[1]⟩ : ByteArray)] at g4; exact g4
      have g7 : (s.toList != [1]) = false := by rw [bne, g6]; rfl
      have hT : E = 0 ∧ v = true := ⟨(show yesE s = E from HE.out).symm.trans (if_pos (.inr h2)), HV.out.symm.trans ((if_pos ⟨rfl, if_pos (.inr h2)⟩).trans (decide_eq_true h2))⟩
      obtain ⟨rfl, rfl⟩ := hT
      clear HV HE h1 h2
      go_wp2_with fail
      go_ret2
      exact ⟨rfl, only_alloc HG.out _⟩
    · have g4 := str_ne h2
      have g5 : (s.toList != (⟨#[1]⟩ : ByteArray).toList) = true := by rw [bne, g4]; rfl
      have g6 : (s.toList == [1]) = false := by rw [Lib.toList_data (⟨#[1]⟩ : ByteArray)] at g4; exact g4
      have g7 : (s.toList != [1]) = true := by rw [bne, g6]; rfl
      have hT : E = 2 ∧ v = false := ⟨(show yesE s = E from HE.out).symm.trans (if_neg (by rintro (e | e); exact h1 e; exact h2 e)), HV.out.symm.trans (if_neg (by rintro ⟨_, e⟩; unfold yesE at e; rw [if_neg (by rintro (e | e); exact h1 e; exact h2 e)] at e; cases e))⟩
      obtain ⟨rfl, rfl⟩ := hT
      clear HV HE h1 h2
      go_wp2_with fail
      go_ret2
      exact ⟨rfl, only_alloc HG.out _⟩
theorem load_gotR {w : World} {g : Nat} {a b c d e f h i : Value} (hg : Blk w g 75 #[a, b, c, d, e, f, h, i]) : (loadVar 75 ⟨g, 0, none⟩).run Tryz.prog w = .ok (.agg #[a, b, c, d, e, f, h, i]) w :=
  run_loadVar_row w g 75 75 _ (0, 0) _ hg Tryz.underlying75 rfl (by kernel_rfl)
def setG (W : World) (g : Nat) (a b c d e f h i : Value) : World := (((((((W.setCell ⟨g, 0, none⟩ a).setCell ⟨g, 1, none⟩ b).setCell ⟨g, 2, none⟩ c).setCell ⟨g, 3, none⟩ d).setCell ⟨g, 4, none⟩ e).setCell ⟨g, 5, none⟩ f).setCell ⟨g, 6, none⟩ h).setCell ⟨g, 7, none⟩ i
theorem exec_storeG {W : World} {a : Act} {o : Oper} {g : Nat} {z0 z1 z2 z3 z4 z5 z6 z7 : Value} {kd E : Int} {st fu : Bool} {ga no ve : Int} {A : Option Addr} {n c : Nat} (x y : Operand) (ho : o.op = .store 75 x y) (hx : a.eval x = .pointer (some ⟨g, 0, none⟩)) (hy : a.eval y = .agg #[.int .i64 kd, .bool st, .int .u64 ga, .slice A n c, .bool fu, .int .u64 no, .int .u64 ve, .int .i64 E])
    (hb : Blk W g 75 #[z0, z1, z2, z3, z4, z5, z6, z7]) :
    (execOp a.eval o).run Tryz.prog W = .ok .skip (setG W g (.int .i64 kd) (.bool st) (.int .u64 ga) (.slice A n c) (.bool fu) (.int .u64 no) (.int .u64 ve) (.int .i64 E)) := by
  have hsz' := Tryz.sizeOf75
  have c0 := hb.cell 0; have c1 := hb.cell 1; have c2 := hb.cell 2; have c3 := hb.cell 3; have c4 := hb.cell 4; have c5 := hb.cell 5; have c6 := hb.cell 6; have c7 := hb.cell 7
  have f0 := hb.frozen 0; have f1 := hb.frozen 1; have f2 := hb.frozen 2; have f3 := hb.frozen 3; have f4 := hb.frozen 4; have f5 := hb.frozen 5; have f6 := hb.frozen 6; have f7 := hb.frozen 7
  simp only [List.getElem?_toArray, List.getElem?_cons_zero, List.getElem?_cons_succ] at c0 c1 c2 c3 c4 c5 c6 c7
  unfold execOp setG
  simp only [ho, hx, hy]
  simp [go_sem, c0, c1, c2, c3, c4, c5, c6, c7, f0, f1, f2, f3, f4, f5, f6, f7, hsz']
theorem blk_setG {w : World} {b : Nat} {z0 z1 z2 z3 z4 z5 z6 z7 : Value} (h : Blk w b 75 #[z0, z1, z2, z3, z4, z5, z6, z7]) (x0 x1 x2 x3 x4 x5 x6 x7 : Value) : Blk (setG w b x0 x1 x2 x3 x4 x5 x6 x7) b 75 #[x0, x1, x2, x3, x4, x5, x6, x7] := by
  simpa [setG] using (((((((h.set_ 0 x0).set_ 1 x1).set_ 2 x2).set_ 3 x3).set_ 4 x4).set_ 5 x5).set_ 6 x6).set_ 7 x7
theorem only_setG {a w : World} {b : Nat} (h : a.grownBy w none) (hb : a.heap.size ≤ b) (x0 x1 x2 x3 x4 x5 x6 x7 : Value) : a.grownBy (setG w b x0 x1 x2 x3 x4 x5 x6 x7) none :=
  only_set (only_set (only_set (only_set (only_set (only_set (only_set (only_set h (p := ⟨b, 0, none⟩) hb x0) (p := ⟨b, 1, none⟩) hb x1) (p := ⟨b, 2, none⟩) hb x2) (p := ⟨b, 3, none⟩) hb x3) (p := ⟨b, 4, none⟩) hb x4) (p := ⟨b, 5, none⟩) hb x5) (p := ⟨b, 6, none⟩) hb x6) (p := ⟨b, 7, none⟩) hb x7
theorem cell_setG {w : World} {b : Nat} (x0 x1 x2 x3 x4 x5 x6 x7 : Value) {p : Addr} (hne : b ≠ p.block) : (setG w b x0 x1 x2 x3 x4 x5 x6 x7).cell? p = w.cell? p := by
  unfold setG
  rw [World.cell?_setCell_far _ _ _ _ hne, World.cell?_setCell_far _ _ _ _ hne, World.cell?_setCell_far _ _ _ _ hne, World.cell?_setCell_far _ _ _ _ hne, World.cell?_setCell_far _ _ _ _ hne, World.cell?_setCell_far _ _ _ _ hne, World.cell?_setCell_far _ _ _ _ hne, World.cell?_setCell_far _ _ _ _ hne]
theorem LogsS.lt {S : Nat → Prop} {W : World} {ls : List LogV} {A : Option Addr} {n : Nat} (h : LogsS S W ls A n) : LogsS (fun g => S g ∧ g < W.heap.size) W ls A n := by
  refine ⟨h.1, fun h0 => ?_⟩
  obtain ⟨g, off, h1, h2, h3⟩ := h.2 h0
  refine ⟨g, off, h1, ⟨h2, ?_⟩, fun i hi => ?_⟩
  · obtain ⟨T, tc, a, _⟩ := h3 0 h0
    rcases Nat.lt_or_ge g W.heap.size with h1 | h1
    · exact h1
    · unfold World.cell? at a
      rw [Array.getElem?_eq_none h1] at a
      cases a
  · obtain ⟨T, tc, a, b, c, d, e, f⟩ := h3 i hi
    exact ⟨T, tc, a, b, c, d.lt, e, f⟩
/-- what stands while the parts behind the logs are read -/
structure OfG (w : World) (m q off : Nat) (its : List Itm) (vs : List Value) (g0 xb : Nat) (cs : Array Value) (LP : Prop) (ls : List LogV) (A : Option Addr) (k : Nat) (u : World) : Prop where
  row : ∀ i, i < m → u.cell? ⟨q, off + i * 3, none⟩ = some (.bool (its.getD i Itm.none_).list) ∧ u.cell? ⟨q, off + i * 3 + 1, none⟩ = some (.string (its.getD i Itm.none_).bytes) ∧ u.cell? ⟨q, off + i * 3 + 2, none⟩ = some (vs.getD i undef)
  grow : w.grownBy u none
  got : ∃ z0 z1 z2 z3 z4 z5 z6 z7, Blk u g0 75 #[z0, z1, z2, z3, z4, z5, z6, z7]
  blk : Blk u xb 25 cs
  logs : LP → LogsS (fun g => g0 < g ∧ g < xb) u ls A k
  lo : w.heap.size ≤ g0
  lx : g0 < xb
  ql : q < w.heap.size
section
variable {w u u' : World} {m q off : Nat} {its : List Itm} {vs : List Value} {g0 xb : Nat} {cs : Array Value} {LP : Prop} {ls : List LogV} {A : Option Addr} {k : Nat}
theorem OfG.kept (h : OfG w m q off its vs g0 xb cs LP ls A k u) (hg : u.grownBy u' none) : OfG w m q off its vs g0 xb cs LP ls A k u' := by
  obtain ⟨z0, z1, z2, z3, z4, z5, z6, z7, hz⟩ := h.got
  refine ⟨fun i hi => ?_, grown_self h.grow hg (by simp), ⟨_, _, _, _, _, _, _, _, hz.grown hg (by simp)⟩, h.blk.grown hg (by simp), fun hp => (h.logs hp).keep fun p _ c hc => hg.cell hc (by simp), h.lo, h.lx, h.ql⟩
  obtain ⟨r0, r1, r2⟩ := h.row i hi
  exact ⟨hg.cell r0 (by simp), hg.cell r1 (by simp), hg.cell r2 (by simp)⟩
theorem OfG.setx (h : OfG w m q off its vs g0 xb cs LP ls A k u) (i : Nat) (v : Value) : OfG w m q off its vs g0 xb (cs.setIfInBounds i v) LP ls A k (u.setCell ⟨xb, i, none⟩ v) := by
  obtain ⟨z0, z1, z2, z3, z4, z5, z6, z7, hz⟩ := h.got
  have h1 := h.lo; have h2 := h.lx; have h3 := h.ql
  have hg : u.grownBy (u.setCell ⟨xb, i, none⟩ v) (some xb) := only_setR (World.grownBy.refl u _) i v
  refine ⟨fun j hj => ?_, only_set h.grow (p := ⟨xb, i, none⟩) (by show w.heap.size ≤ xb; omega) v, ⟨_, _, _, _, _, _, _, _, hz.grown hg (by simp; omega)⟩, h.blk.set_ i v, fun hp => (h.logs hp).keep fun p hp c hc => hg.cell hc (fun e => by have h5 := hp.2; injection e with e; omega), h1, h2, h3⟩
  obtain ⟨r0, r1, r2⟩ := h.row j hj
  have hne : some q ≠ some xb := fun e => by injection e with e; omega
  exact ⟨hg.cell r0 hne, hg.cell r1 hne, hg.cell r2 hne⟩
end
/-- what the document's of answers -/
def GotEnd (kd : Int) (l : List Itm) (w : World) (e : Ending) (w' : World) : Prop :=
  ∃ A m c, e = .returned (.agg #[.int .i64 kd, .bool (ofX kd l).status, .int .u64 ((ofX kd l).gas : Int), .slice A m c, .bool (ofX kd l).full, .int .u64 ((ofX kd l).nonce : Int), .int .u64 ((ofX kd l).version : Int), .int .i64 (ofE 0 l)]) ∧ (ofE 0 l = 0 → LogsS (fun g => w.heap.size ≤ g) w' (ofX kd l).logs A m) ∧ w.grownBy w' none
def verE (y : Itm) : Int := if numE y.list y.bytes = 0 ∧ numV y.list y.bytes ≠ 1 then 2 else numE y.list y.bytes
theorem firstL5 (a b c d e : Int) : firstL [a, b, c, d, e] = fst1 a (fst1 b (fst1 c (fst1 d e))) := by
  rw [firstL_cons, firstL_cons, firstL_cons, firstL_cons, firstL_cons]
  show fst1 a (fst1 b (fst1 c (fst1 d (fst1 e 0)))) = _
  rw [fst1_0]
theorem numV_bad {l : Bool} {b : ByteArray} (h : numE l b ≠ 0) : numV l b = 0 := by
  unfold numV
  split
  · rename_i g; exact absurd g h
  · rfl
theorem ofE_3 (y0 y1 y2 : Itm) : ofE 0 [y0, y1, y2] = firstL [yesEI y0, numE y1.list y1.bytes, readE y2, 0, 0] := by
  rw [firstL5]
  unfold ofE
  show ofE2 (ofE1 (logsE (fst1 (fst1 (fst1 0 (yesEI y0)) (numE y1.list y1.bytes)) (rowE 0 16 y2)) (rowL 0 16 y2)) []) [] = _
  show logsE (fst1 (fst1 (fst1 0 (yesEI y0)) (numE y1.list y1.bytes)) (rowE 0 16 y2)) (rowL 0 16 y2) = _
  rw [logsE_0, fst1_z, fst1_0, fst1_0]
  unfold readE
  simp only [fst1_assoc]
theorem ofE_4 (y0 y1 y2 y3 : Itm) : ofE 0 [y0, y1, y2, y3] = firstL [yesEI y0, numE y1.list y1.bytes, readE y2, numE y3.list y3.bytes, 0] := by
  rw [firstL5]
  unfold ofE
  show fst1 (logsE (fst1 (fst1 (fst1 0 (yesEI y0)) (numE y1.list y1.bytes)) (rowE 0 16 y2)) (rowL 0 16 y2)) (numE y3.list y3.bytes) = _
  rw [logsE_0, fst1_z, fst1_0]
  unfold readE
  simp only [fst1_assoc]
theorem ofE_5 (y0 y1 y2 y3 y4 : Itm) : ofE 0 [y0, y1, y2, y3, y4] = firstL [yesEI y0, numE y1.list y1.bytes, readE y2, numE y3.list y3.bytes, verE y4] := by
  rw [firstL5]
  unfold ofE
  show (if numV y4.list y4.bytes = 1 then fst1 (fst1 (logsE (fst1 (fst1 (fst1 0 (yesEI y0)) (numE y1.list y1.bytes)) (rowE 0 16 y2)) (rowL 0 16 y2)) (numE y3.list y3.bytes)) (numE y4.list y4.bytes) else fst1 (fst1 (fst1 (logsE (fst1 (fst1 (fst1 0 (yesEI y0)) (numE y1.list y1.bytes)) (rowE 0 16 y2)) (rowL 0 16 y2)) (numE y3.list y3.bytes)) (numE y4.list y4.bytes)) 2) = _
  rw [logsE_0, fst1_z]
  have hv : verE y4 = if numV y4.list y4.bytes = 1 then numE y4.list y4.bytes else fst1 (numE y4.list y4.bytes) 2 := by
    unfold verE
    by_cases h1 : numE y4.list y4.bytes = 0
    · rw [h1, fst1_z]
      by_cases h2 : numV y4.list y4.bytes = 1
      · rw [if_neg (fun h => h.2 h2), if_pos h2]
      · rw [if_pos ⟨rfl, h2⟩, if_neg h2]
    · rw [if_neg (fun h => h1 h.1)]
      split
      · rfl
      · unfold fst1; rw [if_neg h1]
  rw [hv]
  unfold readE
  by_cases h2 : numV y4.list y4.bytes = 1
  · rw [if_pos h2, if_pos h2]
    simp only [fst1_assoc]
  · rw [if_neg h2, if_neg h2]
    simp only [fst1_assoc]
end Go.Proofs.YthalohloneojlaaGreatDoor
