/- Merged: SngE, SngF, SngG, SngH, SngI. -/
import Derived.Test.YtagjpbcmhaekpaaGreatDoorMg11
import Derived.Laws.StructEq
/- Batches of one block: Same. -/
namespace Go.Proofs.YtagjpbcmhaekpaaGreatDoor
open Go.RowKit Go.Shelf
set_option linter.unusedVariables false
set_option linter.unusedSimpArgs false

theorem rows_extS {xs ys : List ByteArray} (h : xs.length = ys.length) (hi : ∀ i, i < xs.length → xs.getD i .empty = ys.getD i .empty) : xs = ys := by
  apply List.ext_getElem h
  intro i h1 h2
  have := hi i h1
  rwa [List.getD_eq_getElem?_getD, List.getD_eq_getElem?_getD, List.getElem?_eq_getElem h1, List.getElem?_eq_getElem h2] at this
set_option maxRecDepth 100000 in
set_option maxHeartbeats 1000000 in
theorem equalS_any (B B' : Nat) (A A' : Option Addr) (n m c d : Nat) (xs ys : List ByteArray) (w : World) (h : Reads w B 1 A n (xs.map Value.string)) (h' : Reads w B' 1 A' m (ys.map Value.string)) (hn : n ≤ 9223372036854775807) (hm : m ≤ 9223372036854775807) :
    Calls Tryz.prog 30 #[.slice A n c, .slice A' m d] w fun e w' => e = .returned (.bool (decide (xs = ys))) ∧ w.grownBy w' none := by
  have hl : xs.length = n := by have := h.1; simpa using this
  have hl' : ys.length = m := by have := h'.1; simpa using this
  by_cases hnm : n = m
  · subst hnm
    have HL := Lib.hid hl; have HL' := Lib.hid hl'
    have qe : ((n : Int) != (n : Int)) = false := by simp
    clear hl hl'
    go_enter Tryz.func30, Tryz.ntmps30
    go_wp2_with fail
    clear qe
    go_loopw [13] (fun i wr => ∃ k : Nat, i = .int .i64 k ∧ k ≤ n ∧ (∃ q, wr = w.drewN q) ∧ Hid (∀ i : Nat, i < k → xs.getD i .empty = ys.getD i .empty)) (fun i _ => n - (intOf i).toNat)
    case atStart => exact ⟨0, rfl, by omega, ⟨0, rfl⟩, Lib.hid (by intro i h1; omega)⟩
    case round =>
      obtain ⟨k, rfl, hk, ⟨q, rfl⟩, h2⟩ := hrel
      have h2' := Lib.hid h2.out
      by_cases hlt : k < n
      · obtain ⟨g, off, rfl, hg, hc⟩ := Reads.vals Value.string .empty h hlt
        obtain ⟨g', off', rfl, hg', hc'⟩ := Reads.vals Value.string .empty h' hlt
        have c0 := hc k hlt; have d0 := hc' k hlt
        have q1 : (k : Int) < (n : Int) := by omega
        obtain ⟨x, hx⟩ : ∃ x, xs.getD k .empty = x := ⟨_, rfl⟩
        obtain ⟨y, hy⟩ : ∃ y, ys.getD k .empty = y := ⟨_, rfl⟩
        rw [hx] at c0
        rw [hy] at d0
        have HX := Lib.hid hx; have HY := Lib.hid hy
        clear h h' h2 hc hc' hx hy
        by_cases hxy : x = y
        · have heq : (x.toList == y.toList) = true := by rw [hxy]; simp
          have hne : (x.toList != y.toList) = false := by rw [bne, heq]; rfl
          have HE := Lib.hid hxy
          clear hxy
          go_wp2_with fail
          go_quiet (fail)
          go_wp2_with fail
          refine ⟨⟨k + 1, by go_num, by omega, ⟨_, rfl⟩, Lib.hid fun i hi => ?_⟩, by simp [intOf]; omega⟩
          by_cases hik : i = k
          · rw [hik, HX.out, HY.out, HE.out]
          · exact h2'.out i (by omega)
        · have heq := str_ne hxy
          have hne : (x.toList != y.toList) = true := by rw [bne, heq]; rfl
          have hf : decide (xs = ys) = false := decide_eq_false (fun e => hxy (by rw [← HX.out, ← HY.out, e]))
          have HF := Lib.hid hf
          clear hxy hf
          go_wp2_with fail
          go_quiet (fail)
          go_wp2_with fail
          go_ret
          exact ⟨by rw [HF.out]; rfl, grown_of_below (below_drewN (below_drewN (Below.refl _ w) _) _)⟩
      · have he : xs = ys := rows_extS (by rw [HL.out, HL'.out]) fun i hi => h2'.out i (by have := HL.out; omega)
        have HE := Lib.hid he
        have q0 : (n : Int) ≤ (k : Int) := by omega
        clear he h2
        go_wp2_with fail
        go_ret
        exact ⟨by rw [decide_eq_true HE.out]; rfl, grown_of_below (below_drewN (Below.refl _ _) _)⟩
  · have hne : ¬ xs = ys := by rintro rfl; exact hnm (hl.symm.trans hl')
    have HE := Lib.hid hne
    have hb : ((n : Int) != (m : Int)) = true := by simp; omega
    clear hne hnm hl hl'
    go_enter Tryz.func30, Tryz.ntmps30
    go_wp2_with fail
    go_ret
    exact ⟨by rw [decide_eq_false HE.out]; rfl, World.grownBy.refl _ _⟩
theorem load_rest {w : World} {g : Nat} {a b c d : Value} (hg : Blk w g 51 #[a, b, c, d]) : (loadVar 51 ⟨g, 0, none⟩).run Tryz.prog w = .ok (.agg #[a, b, c, d]) w :=
  run_loadVar_row w g 51 51 #[a, b, c, d] (0, 0) _ hg Tryz.underlying51 rfl (by kernel_rfl)
/-- a batch's rest -/
abbrev restV (b : Sgl) : Value := .agg #[.string b.parent, .string b.hash, .int .u64 (b.epoch : Int), .int .u64 (b.time : Int)]
set_option maxRecDepth 100000 in
theorem restOf_any (b : Sgl) (v : Value) (hv : ∃ A n c, v = .slice A n c) (w : World) :
    Calls Tryz.prog 29 #[.agg (sglC b v)] w fun e w' => e = .returned (restV b) ∧ w.grownBy w' none := by
  obtain ⟨A, n, c, rfl⟩ := hv
  obtain ⟨bp, be, bh, bt, xs⟩ := b
  simp only [sglC, restV]
  have hG := only_alloc (only_alloc (World.grownBy.refl w none) (.cells #[.string bp, .int .u64 (be : Int), .string bh, .int .u64 (bt : Int), .slice A n c] 25)) (.cells #[.string ⟨#[]⟩, .string ⟨#[]⟩, .int .u64 0, .int .u64 0] 51)
  go_enter Tryz.func29, Tryz.ntmps29
  go_wp2_with fail
  have hB := Blk.new (w.alloc (.cells #[.string bp, .int .u64 (be : Int), .string bh, .int .u64 (bt : Int), .slice A n c] 25)) 51 #[.string bp, .string bh, .int .u64 (be : Int), .int .u64 (bt : Int)]
  rw [World.size_alloc] at hB
  refine bodyPost_ret (results_cell1 (fn := Tryz.f29) rfl _ _ _ _ rfl (load_rest hB)) rfl ?_
  exact ⟨rfl, only_alloc (only_alloc (World.grownBy.refl w none) _) _⟩
def restB (a b : Sgl) : Bool := decide (a.parent = b.parent) && (decide (a.hash = b.hash) && (decide (a.epoch = b.epoch) && decide (a.time = b.time)))
theorem eq_rest (a b : Sgl) (w : World) : (Op.equalIn 10000 51 (restV a) (restV b)).run Tryz.prog w = .ok (restB a b) w := by
  have hS : Tryz.prog.underlying 51 = some (.struct (Tryz.prog.fieldsOf 51)) := by kernel_rfl
  have hp : Tryz.prog.stoodInHeld 51 = false := by kernel_rfl
  obtain ⟨ap, ae, ah, aT, ax⟩ := a
  obtain ⟨bp, be, bh, bt, bx⟩ := b
  simp only [restV, restB]
  rw [show (10000 : Nat) = 9999 + 1 from rfl, run_equalIn_agg w 9999 51 _ _ hS hp]
  simp only [Program.fieldsOf, Tryz.underlying51]
  go_simp
  have e1 : ∀ u v : ByteArray, (u.toList = v.toList) = (u = v) := fun u v => propext ⟨fun h => ba_ext (by rw [← Lib.toList_data, ← Lib.toList_data, h]), congrArg _⟩
  have e2 : ∀ u v : Nat, ((u : Int) = (v : Int)) = (u = v) := fun u v => propext Int.ofNat_inj
  by_cases h1 : ap = bp <;> by_cases h2 : ah = bh <;> by_cases h3 : ae = be <;> by_cases h4 : aT = bt <;> simp [h1, h2, h3, h4, e1, e2]
theorem exec_load5 {W : World} {a : Act} {o : Oper} {b off : Nat} {x0 x1 x2 x3 x4 : Value} (x : Operand) (ho : o.op = .load 25 x) (hx : a.eval x = .pointer (some ⟨b, off, none⟩))
    (c0 : W.cell? ⟨b, off, none⟩ = some x0) (c1 : W.cell? ⟨b, off + 1, none⟩ = some x1) (c2 : W.cell? ⟨b, off + 2, none⟩ = some x2) (c3 : W.cell? ⟨b, off + 3, none⟩ = some x3) (c4 : W.cell? ⟨b, off + 4, none⟩ = some x4) :
    (execOp a.eval o).run Tryz.prog W = .ok (.value (.agg #[x0, x1, x2, x3, x4])) W := by
  have hagg := Tryz.isAgg25
  have hsz := Tryz.sizeOf25
  unfold execOp
  simp only [ho, hx]
  simp [go_sem, c0, c1, c2, c3, c4, hagg, hsz]
theorem exec_eqS {a : Act} {o : Oper} {x y : Value} {r : Bool} (h : ∀ w, (Op.equalIn 10000 51 x y).run Tryz.prog w = .ok r w) (W : World) {p q : Operand} {u : TypeId} (ho : o.op = .binOp .eql 51 p q u) (hp : a.eval p = x) (hq : a.eval q = y) {xs ys : Array Value} (hx : x = .agg xs) (hy : y = .agg ys) :
    (execOp a.eval o).run Tryz.prog W = .ok (.value (.bool r)) W := by
  have hm : Tryz.prog.eqGuardType Tryz.prog.depth 51 = false := by kernel_rfl
  subst hx; subst hy
  have h1 := run_eqGuard_agg (P := Tryz.prog) W .eql 51 p q xs ys hm
  have h2 := run_eql_struct (P := Tryz.prog) W 51 xs ys
  rw [h W] at h2
  unfold execOp
  generalize a.eval = ev at *
  simp only [ho, hp, hq]
  generalize eqGuard .eql 51 p q (.agg xs) (.agg ys) = G at *
  generalize binOp .eql 51 (.agg xs) (.agg ys) = M at *
  simp [go_sem, h1, h2]
/-- TWO BATCHES COMPARED -/
def sameB (a b : Sgl) : Bool := restB a b && decide (a.txs = b.txs)
set_option maxRecDepth 100000 in
set_option maxHeartbeats 2000000 in
theorem sameSg_any (a b : Sgl) (B B' : Nat) (A A' : Option Addr) (n m c d : Nat) (w : World) (h : Reads w B 1 A n (a.txs.map Value.string)) (h' : Reads w B' 1 A' m (b.txs.map Value.string)) (hB : B ≤ w.heap.size) (hB' : B' ≤ w.heap.size) (hn : n ≤ 9223372036854775807) (hm : m ≤ 9223372036854775807) :
    Calls Tryz.prog 12 #[.agg (sglC a (.slice A n c)), .agg (sglC b (.slice A' m d))] w fun e w' => e = .returned (.bool (sameB a b)) ∧ w.grownBy w' none := by
  have hG := only_alloc (only_alloc (World.grownBy.refl w none) (.cells (sglC a (.slice A n c)) 25)) (.cells (sglC b (.slice A' m d)) 25)
  have hb1 := (Blk.new w 25 (sglC a (.slice A n c))).alloc (.cells (sglC b (.slice A' m d)) 25)
  have hb2 := Blk.new (w.alloc (.cells (sglC a (.slice A n c)) 25)) 25 (sglC b (.slice A' m d))
  rw [World.size_alloc] at hb2
  have HR := Lib.hid (h.grown hG hB (by simp)); have HR' := Lib.hid (h'.grown hG hB' (by simp))
  have HB := Lib.hid (Nat.le_trans hB hG.size); have HB' := Lib.hid (Nat.le_trans hB' hG.size)
  have HG := Lib.hid hG
  have HEQ := Lib.hid (eq_rest a b)
  have HO1 := Lib.hid (fun V => restOf_any a (.slice A n c) ⟨_, _, _, rfl⟩ V); have HO2 := Lib.hid (fun V => restOf_any b (.slice A' m d) ⟨_, _, _, rfl⟩ V)
  have HS : Hid (sameB a b = (restB a b && decide (a.txs = b.txs))) := Lib.hid rfl
  have HT := Lib.hid (fun V hR hR' => equalS_any B B' A A' n m c d a.txs b.txs V hR hR' hn hm)
  generalize sameB a b = r at *
  generalize restB a b = r1 at *
  generalize decide (a.txs = b.txs) = r2 at *
  obtain ⟨ap, ae, ah, aT, ax⟩ := a
  obtain ⟨bp, be, bh, bt, bx⟩ := b
  simp only [sglC, restV] at *
  clear h h' hG
  go_enter Tryz.func12, Tryz.ntmps12
  go_upto_region 1 with (fail)
  obtain ⟨g, hg⟩ : ∃ g, w.heap.size = g := ⟨_, rfl⟩
  rw [hg] at hb1 hb2 ⊢
  clear hg
  generalize (w.alloc (.cells #[.string ap, .int .u64 (ae : Int), .string ah, .int .u64 (aT : Int), .slice A n c] 25)).alloc (.cells #[.string bp, .int .u64 (be : Int), .string bh, .int .u64 (bt : Int), .slice A' m d] 25) = w1 at *
  have l1 := hb1.lt; have l2 := hb2.lt
  have hC0 : (fun V => Below w1.heap.size w1 V) w1.drew := ⟨rfl, rfl, rfl, Nat.le_refl _, fun _ _ => rfl⟩
  refine wp_region_class (fun V => Below w1.heap.size w1 V) (by kernel_rfl) (by kernel_rfl) hC0 ?_
  have hcc := class_const hC0
  have hr : ∀ i V, Below w1.heap.size w1 V → V.cell? ⟨g, i, none⟩ = #[Value.string ap, .int .u64 (ae : Int), .string ah, .int .u64 (aT : Int), .slice A n c][i]? := fun i V hV => (hV.cell (p := ⟨g, i, none⟩) l1).trans (hb1.cell i)
  have hs : ∀ i V, Below w1.heap.size w1 V → V.cell? ⟨g + 1, i, none⟩ = #[Value.string bp, .int .u64 (be : Int), .string bh, .int .u64 (bt : Int), .slice A' m d][i]? := fun i V hV => (hV.cell (p := ⟨g + 1, i, none⟩) l2).trans (hb2.cell i)
  have HRR := Lib.hid hr; have HSS := Lib.hid hs
  clear hr hs hb1 hb2
  (try simp only [Act.put])
  (repeat go_big_quiet_step (fail))
  refine wpQuiet_value rfl (.agg #[.string ap, .int .u64 (ae : Int), .string ah, .int .u64 (aT : Int), .slice A n c]) (fun V hV => exec_load5 _ rfl rfl (HRR.out 0 V hV) (HRR.out 1 V hV) (HRR.out 2 V hV) (HRR.out 3 V hV) (HRR.out 4 V hV)) ?_
  simp only [Act.put, List.setIfInBounds_toArray, List.set_cons_zero, List.set_cons_succ]
  refine quiet_callW (.agg #[.string ap, .string ah, .int .u64 (ae : Int), .int .u64 (aT : Int)]) 29 #[.agg #[.string ap, .int .u64 (ae : Int), .string ah, .int .u64 (aT : Int), .slice A n c]] rfl (fun V => exec_call1 _ (.tmp 5) _ rfl _ rfl rfl) (fun V hV => HO1.out V) ?_
  simp only [Act.put, List.setIfInBounds_toArray, List.set_cons_zero, List.set_cons_succ]
  refine wpQuiet_value rfl (.agg #[.string bp, .int .u64 (be : Int), .string bh, .int .u64 (bt : Int), .slice A' m d]) (fun V hV => exec_load5 _ rfl rfl (HSS.out 0 V hV) (HSS.out 1 V hV) (HSS.out 2 V hV) (HSS.out 3 V hV) (HSS.out 4 V hV)) ?_
  simp only [Act.put, List.setIfInBounds_toArray, List.set_cons_zero, List.set_cons_succ]
  refine quiet_callW (.agg #[.string bp, .string bh, .int .u64 (be : Int), .int .u64 (bt : Int)]) 29 #[.agg #[.string bp, .int .u64 (be : Int), .string bh, .int .u64 (bt : Int), .slice A' m d]] rfl (fun V => exec_call1 _ (.tmp 7) _ rfl _ rfl rfl) (fun V hV => HO2.out V) ?_
  simp only [Act.put, List.setIfInBounds_toArray, List.set_cons_zero, List.set_cons_succ]
  refine wpQuiet_value rfl (.bool r1) (fun V hV => exec_eqS HEQ.out V rfl rfl rfl rfl rfl) ?_
  simp only [Act.put, List.setIfInBounds_toArray, List.set_cons_zero, List.set_cons_succ]
  have hr4 : ∀ V, Below w1.heap.size w1 V → V.cell? ⟨g, 4, none⟩ = some (.slice A n c) := fun V hV => HRR.out 4 V hV
  have hs4 : ∀ V, Below w1.heap.size w1 V → V.cell? ⟨g + 1, 4, none⟩ = some (.slice A' m d) := fun V hV => HSS.out 4 V hV
  cases r1 with
  | false =>
    (repeat go_big_quiet_step (fail))
    refine wpQuiet_nil ?_
    intro w3 hw3
    have HG := Lib.hid (grown_self HG.out (grown_of_below hw3) (by simp))
    clear hcc hC0 hr4 hs4 hw3
    go_wp2_with fail
    go_ret
    exact ⟨by rw [HS.out]; rfl, HG.out⟩
  | true =>
    (repeat go_big_quiet_step (fail))
    refine wpQuiet_loadM (.slice A n c) _ _ ⟨g, 4, none⟩ _ rfl rfl rfl Tryz.underlying23 rfl hr4 ?_
    simp only [Act.put, List.setIfInBounds_toArray, List.set_cons_zero, List.set_cons_succ]
    (repeat go_big_quiet_step (fail))
    refine wpQuiet_loadM (.slice A' m d) _ _ ⟨g + 1, 4, none⟩ _ rfl rfl rfl Tryz.underlying23 rfl hs4 ?_
    simp only [Act.put, List.setIfInBounds_toArray, List.set_cons_zero, List.set_cons_succ]
    refine quiet_callW (.bool r2) 30 #[.slice A n c, .slice A' m d] rfl (fun V => exec_call2 _ (.tmp 12) (.tmp 14) _ rfl _ _ rfl rfl rfl) (fun V hV => HT.out V (HR.out.grown (grown_of_below hV) HB.out (by simp)) (HR'.out.grown (grown_of_below hV) HB'.out (by simp))) ?_
    simp only [Act.put, List.setIfInBounds_toArray, List.set_cons_zero, List.set_cons_succ]
    (repeat go_big_quiet_step (fail))
    refine wpQuiet_nil ?_
    intro w3 hw3
    have HG := Lib.hid (grown_self HG.out (grown_of_below hw3) (by simp))
    clear hcc hC0 hr4 hs4 hw3
    go_wp2_with fail
    go_ret
    exact ⟨by rw [HS.out]; rfl, HG.out⟩
end Go.Proofs.YtagjpbcmhaekpaaGreatDoor
/- Batches of one block: the three functions within Get. -/
namespace Go.Proofs.YtagjpbcmhaekpaaGreatDoor
open Go.RowKit Go.Shelf
set_option linter.unusedVariables false
set_option linter.unusedSimpArgs false

/-- the first of two errors -/
def firstE (E F : Int) : Int := if E = 0 then F else E
theorem keep_any (g : Nat) (E F : Int) (w : World) (hg : Boxed w g 28 (.int .i64 E)) :
    Calls Tryz.prog 33 #[.int .i64 F, .pointer (some ⟨g, 0, none⟩)] w fun e w' => e = .returned (.tuple #[]) ∧ Boxed w' g 28 (.int .i64 (firstE E F)) ∧ w.grownBy w' (some g) := by
  have c0 := hg.cell; have f0 := hg.frozen
  by_cases h : E = 0
  · subst h
    have hs := hg.set (.int .i64 F)
    have hg2 := grownBy_setCell' w g (.int .i64 F)
    have HS := Lib.hid hs; have HG := Lib.hid hg2
    clear hs hg2 hg
    go_enter Tryz.func33, Tryz.ntmps33
    go_wp2_with fail
    go_end0
    exact ⟨rfl, HS.out, HG.out⟩
  · have q : (E == 0) = false := by simpa using h
    have e : firstE E F = E := if_neg h
    rw [e]
    clear h e
    go_enter Tryz.func33, Tryz.ntmps33
    go_wp2_with fail
    go_end0
    exact ⟨rfl, hg, World.grownBy.refl _ _⟩
/-- one item of a row -/
def ItemAt (w : World) (p : Addr) (l : Bool) (s : ByteArray) (A : Option Addr) (n c : Nat) : Prop := w.cell? ⟨p.block, p.off, none⟩ = some (.bool l) ∧ w.cell? ⟨p.block, p.off + 1, none⟩ = some (.string s) ∧ w.cell? ⟨p.block, p.off + 2, none⟩ = some (.slice A n c)
set_option maxRecDepth 100000 in
set_option maxHeartbeats 1000000 in
theorem textG_any (i N c : Nat) (q off lb kb g : Nat) (l : Bool) (s : ByteArray) (A : Option Addr) (n c' : Nat) (E : Int) (w : World) (hi : i < N) (hN : N ≤ 1000) (hl : w.cell? ⟨lb, 0, none⟩ = some (.slice (some ⟨q, off, none⟩) N c)) (hk : Boxed w kb 57 (.func (.func 33) #[] #[.pointer (some ⟨g, 0, none⟩)]))
    (h0 : w.cell? ⟨q, off + i * 3, none⟩ = some (.bool l)) (h1 : w.cell? ⟨q, off + i * 3 + 1, none⟩ = some (.string s)) (h2 : w.cell? ⟨q, off + i * 3 + 2, none⟩ = some (.slice A n c')) (hg : Boxed w g 28 (.int .i64 E)) (hkg : kb ≠ g) :
    Calls Tryz.prog 34 #[.int .i64 (i : Int), .pointer (some ⟨lb, 0, none⟩), .pointer (some ⟨kb, 0, none⟩)] w fun e w' => e = .returned (.string (if l = false ∧ textE s.size 32 32 = 0 then s else ⟨#[]⟩)) ∧ Boxed w' g 28 (.int .i64 (firstE E (if l then 2 else textE s.size 32 32))) ∧ w.grownBy w' (some g) := by
  have hT := fun V => getText_any l s (.slice A n c') 32 32 V
  obtain ⟨S, hS⟩ : ∃ S, (if l = false ∧ textE s.size 32 32 = 0 then s else ⟨#[]⟩) = S := ⟨_, rfl⟩
  obtain ⟨F, hF⟩ : ∃ F, (if l then 2 else textE s.size 32 32) = F := ⟨_, rfl⟩
  rw [hS, hF] at hT ⊢
  have HT := Lib.hid hT
  have HK := Lib.hid hk; have HG := Lib.hid hg
  have q0 : (0 : Int) ≤ (i : Int) := by omega
  have q1 : (i : Int) < (N : Int) := by omega
  clear hT hS hF hk hg
  go_enter Tryz.func34, Tryz.ntmps34
  go_wp2_with fail
  refine (HT.out _).mono ?_
  rintro e w2 ⟨rfl, hg2⟩
  have hk2 := HK.out.kept hg2 (by simp)
  have hb2 := HG.out.kept hg2 (by simp)
  have k0 := hk2.cell
  have HG2 := Lib.hid hg2
  clear h0 h1 h2 hl hg2 HK HG HT
  go_wp2_with fail
  refine (keep_any g E F w2 hb2).mono ?_
  rintro e w3 ⟨rfl, hb3, hg3⟩
  have hG := grown_self (only_weak HG2.out (some g)) hg3 (fun k hk => .inl hk)
  clear hb2 hk2 k0 hg3
  go_wp2_with fail
  go_ret
  exact ⟨rfl, hb3, hG⟩
set_option maxRecDepth 100000 in
set_option maxHeartbeats 1000000 in
theorem numberG_any (i N c : Nat) (q off lb kb g : Nat) (l : Bool) (s : ByteArray) (A : Option Addr) (n c' : Nat) (E : Int) (w : World) (hi : i < N) (hN : N ≤ 1000) (hs : s.size ≤ 9223372036854775807) (hl : w.cell? ⟨lb, 0, none⟩ = some (.slice (some ⟨q, off, none⟩) N c)) (hk : Boxed w kb 57 (.func (.func 33) #[] #[.pointer (some ⟨g, 0, none⟩)]))
    (h0 : w.cell? ⟨q, off + i * 3, none⟩ = some (.bool l)) (h1 : w.cell? ⟨q, off + i * 3 + 1, none⟩ = some (.string s)) (h2 : w.cell? ⟨q, off + i * 3 + 2, none⟩ = some (.slice A n c')) (hg : Boxed w g 28 (.int .i64 E)) (hkg : kb ≠ g) :
    Calls Tryz.prog 36 #[.int .i64 (i : Int), .pointer (some ⟨lb, 0, none⟩), .pointer (some ⟨kb, 0, none⟩)] w fun e w' => e = .returned (.int .u64 (numV l s : Nat)) ∧ Boxed w' g 28 (.int .i64 (firstE E (numE l s))) ∧ w.grownBy w' (some g) := by
  have hT := fun V => getNumber_any l s (.slice A n c') hs V
  obtain ⟨S, hS⟩ : ∃ S, numV l s = S := ⟨_, rfl⟩
  obtain ⟨F, hF⟩ : ∃ F, numE l s = F := ⟨_, rfl⟩
  rw [hS, hF] at hT ⊢
  have HT := Lib.hid hT
  have HK := Lib.hid hk; have HG := Lib.hid hg
  have q0 : (0 : Int) ≤ (i : Int) := by omega
  have q1 : (i : Int) < (N : Int) := by omega
  clear hT hS hF hk hg
  go_enter Tryz.func36, Tryz.ntmps36
  go_wp2_with fail
  refine (HT.out _).mono ?_
  rintro e w2 ⟨rfl, hg2⟩
  have hk2 := HK.out.kept hg2 (by simp)
  have hb2 := HG.out.kept hg2 (by simp)
  have k0 := hk2.cell
  have HG2 := Lib.hid hg2
  clear h0 h1 h2 hl hg2 HK HG HT
  go_wp2_with fail
  refine (keep_any g E F w2 hb2).mono ?_
  rintro e w3 ⟨rfl, hb3, hg3⟩
  have hG := grown_self (only_weak HG2.out (some g)) hg3 (fun k hk => .inl hk)
  clear hb2 hk2 k0 hg3
  go_wp2_with fail
  go_ret
  exact ⟨rfl, hb3, hG⟩
end Go.Proofs.YtagjpbcmhaekpaaGreatDoor
/- Batches of one block: Get, where no row of five is read. -/
namespace Go.Proofs.YtagjpbcmhaekpaaGreatDoor
open Go.RowKit Go.Shelf
set_option linter.unusedVariables false
set_option linter.unusedSimpArgs false

abbrev sglZ : Array Value := #[.string ⟨#[]⟩, .int .u64 0, .string ⟨#[]⟩, .int .u64 0, .slice none 0 0]
theorem only_set5 {a W : World} {b : Nat} (h : a.grownBy W none) (hb : a.heap.size ≤ b) (x y z u v : Value) : a.grownBy (((((W.setCell ⟨b, 0, none⟩ x).setCell ⟨b, 1, none⟩ y).setCell ⟨b, 2, none⟩ z).setCell ⟨b, 3, none⟩ u).setCell ⟨b, 4, none⟩ v) none :=
  only_set (only_set (only_set (only_set (only_set h (p := ⟨b, 0, none⟩) hb x) (p := ⟨b, 1, none⟩) hb y) (p := ⟨b, 2, none⟩) hb z) (p := ⟨b, 3, none⟩) hb u) (p := ⟨b, 4, none⟩) hb v
theorem blk_set5 {W : World} {b : Nat} {t : TypeId} {p q r s c : Value} (h : Blk W b t #[p, q, r, s, c]) (x y z u v : Value) : Blk (((((W.setCell ⟨b, 0, none⟩ x).setCell ⟨b, 1, none⟩ y).setCell ⟨b, 2, none⟩ z).setCell ⟨b, 3, none⟩ u).setCell ⟨b, 4, none⟩ v) b t #[x, y, z, u, v] :=
  ((((h.set_ 0 x).set_ 1 y).set_ 2 z).set_ 3 u).set_ 4 v
theorem load_sgl {w : World} {g : Nat} {a b c d e : Value} (hg : Blk w g 25 #[a, b, c, d, e]) : (loadVar 25 ⟨g, 0, none⟩).run Tryz.prog w = .ok (.agg #[a, b, c, d, e]) w :=
  run_loadVar_row w g 25 25 #[a, b, c, d, e] (0, 0) _ hg Tryz.underlying25 rfl (by kernel_rfl)
/-- what Get answers -/
def SglEnd (l : List UInt8) (w : World) (e : Ending) (w' : World) : Prop :=
  ∃ v, e = .returned (.tuple #[.agg (sglC (getSB l) v), .int .i64 (getSE l)]) ∧ w'.ownsRow w.heap.size 9 1 v (getSB l).txs.length ((getSB l).txs.map Value.string) ∧ w.grownBy w' none
theorem SglEnd.bad {l : List UInt8} {w w' : World} {E : Int} (h : getSE l = E) (h0 : E ≠ 0) (hg : w.grownBy w' none) : SglEnd l w (.returned (.tuple #[.agg sglZ, .int .i64 E])) w' := by
  have hb : getSB l = Sgl.zero := getS_bad (by rw [h]; exact h0)
  refine ⟨.slice none 0 0, ?_, ?_, hg⟩
  · rw [hb, h]; rfl
  · rw [hb]; exact World.ownsRow_nil _ _ _ _
theorem getSg_none (w : World) : Calls Tryz.prog 13 #[.string ⟨#[]⟩] w (SglEnd [] w) := by
  have hE : getSE [] = 3 := rfl
  have HE := Lib.hid hE
  have hB := Blk.new w 25 sglZ
  have hG := only_alloc (World.grownBy.refl w none) (.cells sglZ 25)
  clear hE
  have HG := Lib.hid hG; have HB := Lib.hid hB
  clear hG hB
  go_enter Tryz.func13, Tryz.ntmps13
  go_wp2_with fail
  refine bodyPost_ret (results_ct (fn := Tryz.f13) rfl _ _ _ _ rfl (load_sgl HB.out)) rfl ?_
  exact SglEnd.bad HE.out (by decide) HG.out
theorem some_str {s : ByteArray} (h : s ≠ ⟨#[]⟩) : ∃ g0 : 0 < s.size, s.data.toList ≠ [] ∧ (s.toList == []) = false ∧ s.toList.isEmpty = false ∧ s.data.toList.getD 0 0 = s[0]'g0 := by
  have hl0 : s.data.toList ≠ [] := fun e => h (by cases s; simp_all)
  have g0 : 0 < s.size := by
    have := ba_len s
    cases hh : s.data.toList with
    | nil => exact absurd hh hl0
    | cons a b => rw [hh] at this; simp at this; omega
  refine ⟨g0, hl0, by rw [beq_eq_false_iff_ne, Lib.toList_data]; exact hl0, by rw [Lib.toList_data]; cases hh : s.data.toList with | nil => exact absurd hh hl0 | cons a b => rfl, ?_⟩
  have e2 : s.data[0]? = some (s[0]'g0) := Array.getElem?_eq_getElem g0
  rw [List.getD_eq_getElem?_getD, Array.getElem?_toList, e2]; rfl
theorem getSg_mark (s : ByteArray) (w : World) (h : s ≠ ⟨#[]⟩) (h1 : s.data.toList.getD 0 0 ≠ 0) : Calls Tryz.prog 13 #[.string s] w (SglEnd s.data.toList w) := by
  obtain ⟨g0, q0, q1, q2, q3⟩ := some_str h
  have hE : getSE s.data.toList = 9 := by unfold getSE; rw [if_neg q0, if_pos h1]
  have HE := Lib.hid hE
  have hB := Blk.new w 25 sglZ
  have hG := only_alloc (World.grownBy.refl w none) (.cells sglZ 25)
  have g1 : ((((s[0]'g0).toNat : Int)) != 0) = true := by
    rw [← q3]
    simp only [bne_iff_ne, ne_eq]
    intro e
    exact h1 (UInt8.toNat_inj.1 (by simpa using e))
  have HG := Lib.hid hG; have HB := Lib.hid hB
  clear hG hB hE h h1 q0 q3
  go_enter Tryz.func13, Tryz.ntmps13
  go_wp2_with fail
  refine bodyPost_ret (results_ct (fn := Tryz.f13) rfl _ _ _ _ rfl (load_sgl HB.out)) rfl ?_
  exact SglEnd.bad HE.out (by decide) HG.out
theorem drop1 (s : ByteArray) : (s.extract 1 s.size).data.toList = s.data.toList.drop 1 := by
  have := ba_len s
  rw [Lib.extract_data, ← this]
  simp [List.take_of_length_le]
set_option maxRecDepth 100000 in
set_option maxHeartbeats 2000000 in
theorem getSg_dec (s : ByteArray) (hs : s.size ≤ 9223372036854775807) (w : World) (h : s ≠ ⟨#[]⟩) (h1 : s.data.toList.getD 0 0 = 0) (E : Int) (hd : decodeF (s.data.toList.drop 1) = .error E) : Calls Tryz.prog 13 #[.string s] w (SglEnd s.data.toList w) := by
  obtain ⟨g0, q0, q1, q2, q3⟩ := some_str h
  have hE : getSE s.data.toList = if E = 0 then 3 else E := by unfold getSE; rw [if_neg q0, if_neg (by rw [h1]; simp), hd]
  have hB := Blk.new w 25 sglZ
  have hG := only_alloc (World.grownBy.refl w none) (.cells sglZ 25)
  have g1 : ((((s[0]'g0).toNat : Int)) != 0) = false := by
    rw [← q3, h1]; rfl
  have hz : (s.extract 1 s.size).size ≤ 9223372036854775807 := by simp; omega
  have hdec := fun V => decode_any (s.extract 1 s.size) V hz
  rw [drop1] at hdec
  have HD := Lib.hid hdec; have HDE := Lib.hid hd
  have HG := Lib.hid hG; have HB := Lib.hid hB; have HE := Lib.hid hE
  have g3 : (1 : Int) ≤ (s.size : Int) := by omega
  clear hG hB hE h h1 q0 q3 hdec hd hz
  go_enter Tryz.func13, Tryz.ntmps13
  go_upto_region 1 with (fail)
  obtain ⟨b, hb⟩ : ∃ b, w.heap.size = b := ⟨_, rfl⟩
  rw [hb] at HB ⊢
  generalize w.alloc (.cells #[.string ⟨#[]⟩, .int .u64 0, .string ⟨#[]⟩, .int .u64 0, .slice none 0 0] 25) = w1 at *
  go_wp2_with fail
  refine (HD.out _).mono ?_
  rintro e w2 ⟨lst, bb, sA, sn, sc, E', rfl, hg2, htail⟩
  have hEE := dec_err htail HDE.out
  subst hEE
  obtain ⟨_, hne⟩ : decodeF (s.data.toList.drop 1) = .error E' ∧ E' ≠ 0 := by
    rcases htail with ⟨x, k1, _⟩ | ⟨k1, k2, _⟩
    · rw [HDE.out] at k1; cases k1
    · exact ⟨k1, k2⟩
  have hB2 := HB.out.grown hg2 (by simp)
  have HG2 := Lib.hid (only_alloc (only_alloc (grown_self HG.out hg2 (by simp)) (.cells #[.bool lst, .string bb, .slice sA sn sc] 40)) (.cells #[.int .i64 E'] 28))
  have hlt := hB2.lt
  have hB3 := (hB2.alloc (.cells #[.bool lst, .string bb, .slice sA sn sc] 40)).alloc (.cells #[.int .i64 E'] 28)
  have hx := Boxed.new (w2.alloc (.cells #[.bool lst, .string bb, .slice sA sn sc] 40)) 28 (.int .i64 E')
  have e1 : (E' != 0) = true := by simpa using hne
  have HE2 := Lib.hid (HE.out.trans (if_neg hne)); have HNE := Lib.hid hne
  have HB3 := Lib.hid hB3
  clear hne htail hg2 hB2 hB3 HE HDE HD HG HB g1 g3
  go_upto_region 6 with (fail)
  rw [World.size_alloc] at hx
  obtain ⟨g, hg⟩ : ∃ g, w2.heap.size = g := ⟨_, rfl⟩
  rw [hg] at hx hlt ⊢
  have n1 : g + 1 ≠ b := by omega
  have n2 : b ≠ g + 1 := by omega
  have T2 := Lib.hid (blk_set5 HB3.out (.string ⟨#[]⟩) (.int .u64 0) (.string ⟨#[]⟩) (.int .u64 0) (.slice none 0 0))
  have hbw : w.heap.size ≤ b := by omega
  have T4 := Lib.hid (only_set5 HG2.out hbw (.string ⟨#[]⟩) (.int .u64 0) (.string ⟨#[]⟩) (.int .u64 0) (.slice none 0 0))
  generalize (w2.alloc (.cells #[.bool lst, .string bb, .slice sA sn sc] 40)).alloc (.cells #[.int .i64 E'] 28) = w3 at *
  have cx := hx.cell
  have fx := hx.frozen
  have c0 := HB3.out.cell 0; have c1 := HB3.out.cell 1; have c2 := HB3.out.cell 2; have c3 := HB3.out.cell 3; have c4 := HB3.out.cell 4
  have f0 := HB3.out.frozen 0; have f1 := HB3.out.frozen 1; have f2 := HB3.out.frozen 2; have f3 := HB3.out.frozen 3; have f4 := HB3.out.frozen 4
  simp only [List.getElem?_toArray, List.getElem?_cons_zero, List.getElem?_cons_succ] at c0 c1 c2 c3 c4
  go_wp2_with fail
  clear HB3 HG2 hlt hg hb hbw hx
  go_region
  all_goals go_wp2_with fail
  all_goals
    refine bodyPost_ret (results_ct (fn := Tryz.f13) rfl _ _ _ _ rfl (load_sgl (Blk.drew T2.out))) rfl ?_
    exact SglEnd.bad HE2.out HNE.out ⟨T4.out.os, T4.out.tape, T4.out.output, T4.out.size, T4.out.block⟩
end Go.Proofs.YtagjpbcmhaekpaaGreatDoor
/- Batches of one block: Get, where the item is no row of five. -/
namespace Go.Proofs.YtagjpbcmhaekpaaGreatDoor
open Go.RowKit Go.Shelf
set_option linter.unusedVariables false
set_option linter.unusedSimpArgs false

set_option maxRecDepth 100000 in
set_option maxHeartbeats 2000000 in
theorem getSg_list (s : ByteArray) (hs : s.size ≤ 9223372036854775807) (w : World) (h : s ≠ ⟨#[]⟩) (h1 : s.data.toList.getD 0 0 = 0) (x : Itm) (hd : decodeF (s.data.toList.drop 1) = .ok x) (hL : (if x.list then textE x.items.length 5 5 else 2) ≠ 0) : Calls Tryz.prog 13 #[.string s] w (SglEnd s.data.toList w) := by
  obtain ⟨g0, q0, q1, q2, q3⟩ := some_str h
  have hE : getSE s.data.toList = (if x.list then textE x.items.length 5 5 else 2) := by unfold getSE; rw [if_neg q0, if_neg (by rw [h1]; simp), hd]; exact if_pos hL
  have hB := Blk.new w 25 sglZ
  have hG := only_alloc (World.grownBy.refl w none) (.cells sglZ 25)
  have g1 : ((((s[0]'g0).toNat : Int)) != 0) = false := by
    rw [← q3, h1]; rfl
  have hz : (s.extract 1 s.size).size ≤ 9223372036854775807 := by simp; omega
  have hdec := fun V => decode_any (s.extract 1 s.size) V hz
  rw [drop1] at hdec
  have HD := Lib.hid hdec; have HDE := Lib.hid hd
  have HG := Lib.hid hG; have HB := Lib.hid hB; have HE := Lib.hid hE
  have g3 : (1 : Int) ≤ (s.size : Int) := by omega
  clear hG hB hE h h1 q0 q3 hdec hd hz
  go_enter Tryz.func13, Tryz.ntmps13
  go_upto_region 1 with (fail)
  obtain ⟨b, hb⟩ : ∃ b, w.heap.size = b := ⟨_, rfl⟩
  rw [hb] at HB ⊢
  generalize w.alloc (.cells #[.string ⟨#[]⟩, .int .u64 0, .string ⟨#[]⟩, .int .u64 0, .slice none 0 0] 25) = w1 at *
  go_wp2_with fail
  refine (HD.out _).mono ?_
  rintro e w2 ⟨lst, bb, sA, sn, sc, E', rfl, hg2, htail⟩
  obtain ⟨rfl, rfl, rfl, hsub⟩ := dec_ok htail HDE.out
  have hn : x.items.length = sn := hsub.row.1.symm
  rw [hn] at HE hL
  have hlist := fun V => getList_any x.list x.bytes sA sn sc 5 5 V
  obtain ⟨F, hF⟩ : ∃ F, (if x.list then textE sn 5 5 else 2) = F := ⟨_, rfl⟩
  obtain ⟨u, hu⟩ : ∃ u, (if x.list = true ∧ textE sn 5 5 = 0 then Value.slice sA sn sc else .slice none 0 0) = u := ⟨_, rfl⟩
  rw [hF] at HE hL hlist
  rw [hu] at hlist
  have HLI := Lib.hid hlist
  obtain ⟨A', n', c', rfl⟩ : ∃ A' n' c', u = .slice A' n' c' := by
    rw [← hu]; split
    · exact ⟨_, _, _, rfl⟩
    · exact ⟨_, _, _, rfl⟩
  generalize x.list = lst at *
  generalize x.bytes = bb at *
  have hB2 := HB.out.grown hg2 (by simp)
  have hlt := hB2.lt
  have HG2 := Lib.hid (only_alloc (only_alloc (grown_self HG.out hg2 (by simp)) (.cells #[.bool lst, .string bb, .slice sA sn sc] 40)) (.cells #[.int .i64 0] 28))
  have HB3 := Lib.hid ((hB2.alloc (.cells #[.bool lst, .string bb, .slice sA sn sc] 40)).alloc (.cells #[.int .i64 0] 28))
  have hx := Boxed.new (w2.alloc (.cells #[.bool lst, .string bb, .slice sA sn sc] 40)) 28 (.int .i64 0)
  have hi := (Blk.new w2 40 #[.bool lst, .string bb, .slice sA sn sc]).alloc (.cells #[.int .i64 0] 28)
  clear htail hsub hg2 hB2 HDE HD HG HB g1 g3 hlist hu hF hn
  go_upto_region 6 with (fail)
  rw [World.size_alloc] at hx
  obtain ⟨g, hg⟩ : ∃ g, w2.heap.size = g := ⟨_, rfl⟩
  rw [hg] at hx hlt hi ⊢
  clear hg
  generalize (w2.alloc (.cells #[.bool lst, .string bb, .slice sA sn sc] 40)).alloc (.cells #[.int .i64 0] 28) = w3 at *
  have cx := hx.cell
  have i0 := hi.cell 0; have i1 := hi.cell 1; have i2 := hi.cell 2
  simp only [List.getElem?_toArray, List.getElem?_cons_zero, List.getElem?_cons_succ] at i0 i1 i2
  go_wp2_with fail
  refine (HLI.out _).mono ?_
  rintro e w4 ⟨rfl, hg4⟩
  have HB4 := Lib.hid ((HB3.out.grown hg4 (by simp)).alloc (.cells #[.slice A' n' c'] 38))
  have HG4 := Lib.hid (only_alloc (grown_self HG2.out hg4 (by simp)) (.cells #[.slice A' n' c'] 38))
  have hx4 := (hx.kept hg4 (by simp)).alloc (.cells #[.slice A' n' c'] 38)
  have y0 := (hx.kept hg4 (by simp)).cell
  have y1 := (hx.kept hg4 (by simp)).frozen
  have hbw : w.heap.size ≤ b := by omega
  have T2 := Lib.hid (blk_set5 (HB4.out.far (p := ⟨g + 1, 0, none⟩) (by show b ≠ g + 1; omega) (.int .i64 F)) (.string ⟨#[]⟩) (.int .u64 0) (.string ⟨#[]⟩) (.int .u64 0) (.slice none 0 0))
  have T4 := Lib.hid (only_set5 (only_set HG4.out (p := ⟨g + 1, 0, none⟩) (by show w.heap.size ≤ g + 1; omega) (.int .i64 F)) hbw (.string ⟨#[]⟩) (.int .u64 0) (.string ⟨#[]⟩) (.int .u64 0) (.slice none 0 0))
  have e1 : (F != 0) = true := by simpa using hL
  have HL := Lib.hid hL
  have n1 : g + 1 ≠ b := by omega
  have n2 : b ≠ g + 1 := by omega
  clear hx cx i0 i1 i2 hi hlt hb hbw HLI HB3 HG2 hL hg4
  have HX5 := Lib.hid (hx4.set (.int .i64 F))
  have HB5 := Lib.hid (HB4.out.far (p := ⟨g + 1, 0, none⟩) n2 (.int .i64 F))
  have z0 := hx4.cell; have z1 := hx4.frozen
  go_upto_region 9 with (fail)
  obtain ⟨g4, hg4⟩ : ∃ g, w4.heap.size = g := ⟨_, rfl⟩
  rw [hg4]
  clear hg4 z0 z1 y0 y1
  generalize (w4.alloc (.cells #[.slice A' n' c'] 38)).setCell ⟨g + 1, 0, none⟩ (.int .i64 F) = w5 at *
  have cx := HX5.out.cell
  have fx := HX5.out.frozen
  have c0 := HB5.out.cell 0; have c1 := HB5.out.cell 1; have c2 := HB5.out.cell 2; have c3 := HB5.out.cell 3; have c4 := HB5.out.cell 4
  have f0 := HB5.out.frozen 0; have f1 := HB5.out.frozen 1; have f2 := HB5.out.frozen 2; have f3 := HB5.out.frozen 3; have f4 := HB5.out.frozen 4
  simp only [List.getElem?_toArray, List.getElem?_cons_zero, List.getElem?_cons_succ] at c0 c1 c2 c3 c4
  clear HB5 HX5 HB4 HG4 hx4
  go_wp2_with fail
  go_region
  all_goals go_wp2_with fail
  all_goals
    refine bodyPost_ret (results_ct (fn := Tryz.f13) rfl _ _ _ _ rfl (load_sgl (Blk.drew T2.out))) rfl ?_
    exact SglEnd.bad HE.out HL.out ⟨T4.out.os, T4.out.tape, T4.out.output, T4.out.size, T4.out.block⟩
end Go.Proofs.YtagjpbcmhaekpaaGreatDoor
/- Batches of one block: what stands while Get reads the five fields. -/
namespace Go.Proofs.YtagjpbcmhaekpaaGreatDoor
open Go.RowKit Go.Shelf
set_option linter.unusedVariables false
set_option linter.unusedSimpArgs false

theorem fieldsE_five (a b c d e : Itm) : fieldsE [a, b, c, d, e] = firstE (firstE (firstE (firstE (firstE 0 (tE a 32 32)) (numE b.list b.bytes)) (tE c 32 32)) (numE d.list d.bytes)) (gtE e.list e.items.length 32 1 4096 e.items) := by
  unfold fieldsE firstE
  by_cases h1 : tE a 32 32 = 0 <;> by_cases h2 : numE b.list b.bytes = 0 <;> by_cases h3 : tE c 32 32 = 0 <;> by_cases h4 : numE d.list d.bytes = 0 <;> simp [h1, h2, h3, h4]
theorem firstE_0 {E F : Int} (h : firstE E F = 0) : E = 0 ∧ F = 0 := by
  unfold firstE at h
  split at h
  · exact ⟨‹_›, h⟩
  · contradiction
/-- what stands -/
structure FldS (w : World) (b g g4 q off sc : Nat) (its : List Itm) (vs : List Value) (W : World) : Prop where
  res : Blk W b 25 sglZ
  lst : Boxed W g4 38 (.slice (some ⟨q, off, none⟩) 5 sc)
  kp : Boxed W (g4 + 1) 57 (.func (.func 33) #[] #[.pointer (some ⟨g + 1, 0, none⟩)])
  row : ∀ i, i < 5 → W.cell? ⟨q, off + i * 3, none⟩ = some (.bool (its.getD i Itm.none_).list) ∧ W.cell? ⟨q, off + i * 3 + 1, none⟩ = some (.string (its.getD i Itm.none_).bytes) ∧ W.cell? ⟨q, off + i * 3 + 2, none⟩ = some (vs.getD i undef)
  sub : ∀ i, i < 5 → SubV (fun k => k < g) W (its.getD i Itm.none_).items (vs.getD i undef)
  grow : w.grownBy W none
  hb : w.heap.size ≤ b
  hbg : b < g
  hg4 : g + 1 < g4
  hqg : q < g
  top : g4 + 1 < W.heap.size
variable {w W W' : World} {b g g4 q off sc : Nat} {its : List Itm} {vs : List Value}
theorem FldS.step (h : FldS w b g g4 q off sc its vs W) {r : Option Nat} (hg : W.grownBy W' r) (hr : ∀ k, r = some k → k = g + 1 ∨ g4 + 1 < k) : FldS w b g g4 q off sc its vs W' := by
  have hne : ∀ k, k ≤ g4 + 1 → k ≠ g + 1 → some k ≠ r := fun k hk hk2 e => by
    rcases hr k e.symm with h1 | h1 <;> omega
  have h1 := h.hb; have h2 := h.hbg; have h3 := h.hg4; have h4 := h.hqg; have h5 := h.top
  have hc : ∀ (p : Addr) (u : Value), p.block < g → W.cell? p = some u → W'.cell? p = some u := fun p u hp hu => hg.cell hu (hne _ (by omega) (by omega))
  refine ⟨h.res.grown hg (hne _ (by omega) (by omega)), h.lst.kept hg (hne _ (by omega) (by omega)), h.kp.kept hg (hne _ (by omega) (by omega)), fun i hi => ?_, fun i hi => ?_, grown_self h.grow hg (fun k hk => ?_), h1, h2, h3, h4, Nat.lt_of_lt_of_le h5 hg.size⟩
  · obtain ⟨r0, r1, r2⟩ := h.row i hi
    exact ⟨hc _ _ h4 r0, hc _ _ h4 r1, hc _ _ h4 r2⟩
  · exact (h.sub i hi).keep fun p hp u hu => hc p u hp hu
  · rcases hr k hk with h6 | h6
    · right; omega
    · right; omega
theorem subV_slice {S : Nat → Prop} {W : World} {xs : List Itm} {v : Value} (h : SubV S W xs v) : ∃ A c, v = .slice A xs.length c := by
  cases h with
  | mk xs A c vs hr hx => exact ⟨_, _, rfl⟩
theorem FldS.text (h : FldS w b g g4 q off sc its vs W) {E : Int} (hE : Boxed W (g + 1) 28 (.int .i64 E)) {i : Nat} (hi : i < 5) {y : Itm} (hy : its.getD i Itm.none_ = y) :
    Calls Tryz.prog 34 #[.int .i64 (i : Int), .pointer (some ⟨g4, 0, none⟩), .pointer (some ⟨g4 + 1, 0, none⟩)] W fun e w' => e = .returned (.string (if y.list = false ∧ textE y.bytes.size 32 32 = 0 then y.bytes else ⟨#[]⟩)) ∧ Boxed w' (g + 1) 28 (.int .i64 (firstE E (tE y 32 32))) ∧ W.grownBy w' (some (g + 1)) := by
  obtain ⟨r0, r1, r2⟩ := h.row i hi
  obtain ⟨A, c', hv⟩ := subV_slice (h.sub i hi)
  rw [hv] at r2
  rw [hy] at r0 r1
  have h3 := h.hg4
  exact textG_any i 5 sc q off g4 (g4 + 1) (g + 1) _ _ _ _ _ E W hi (by decide) h.lst.cell h.kp r0 r1 r2 hE (by omega)
theorem FldS.number (h : FldS w b g g4 q off sc its vs W) {E : Int} (hE : Boxed W (g + 1) 28 (.int .i64 E)) {i : Nat} (hi : i < 5) {y : Itm} (hy : its.getD i Itm.none_ = y) (hs : y.bytes.size ≤ 9223372036854775807) :
    Calls Tryz.prog 36 #[.int .i64 (i : Int), .pointer (some ⟨g4, 0, none⟩), .pointer (some ⟨g4 + 1, 0, none⟩)] W fun e w' => e = .returned (.int .u64 (numV y.list y.bytes : Nat)) ∧ Boxed w' (g + 1) 28 (.int .i64 (firstE E (numE y.list y.bytes))) ∧ W.grownBy w' (some (g + 1)) := by
  obtain ⟨r0, r1, r2⟩ := h.row i hi
  obtain ⟨A, c', hv⟩ := subV_slice (h.sub i hi)
  rw [hv] at r2
  rw [hy] at r0 r1
  have h3 := h.hg4
  exact numberG_any i 5 sc q off g4 (g4 + 1) (g + 1) _ _ _ _ _ E W hi (by decide) hs h.lst.cell h.kp r0 r1 r2 hE (by omega)
end Go.Proofs.YtagjpbcmhaekpaaGreatDoor
