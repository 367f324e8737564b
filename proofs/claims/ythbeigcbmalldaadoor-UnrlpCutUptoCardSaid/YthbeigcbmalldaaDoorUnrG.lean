/- One item more is read, and put behind those that were. -/
import Derived.Test.YthbeigcbmalldaaDoorUnrF
import Derived.Test.YthbeigcbmalldaaDoorPerm
import Derived.Test.YthbeigcbmalldaaDoorKeep
import Derived.Maps.AppendAt
namespace Go.Proofs.YthbeigcbmalldaaDoor
open Go.RowKit Go.Shelf
set_option linter.unusedSimpArgs false

/-- the blocks of a set lie as they lay; nothing is said to the outside -/
structure KeepsW (S : Nat → Prop) (W W' : World) : Prop where
  os : W'.os = W.os
  tape : W'.tape = W.tape
  output : W'.output = W.output
  size : W.heap.size ≤ W'.heap.size
  block : ∀ k, S k → W'.heap[k]? = W.heap[k]?
theorem item_info : (Tryd.prog.info? 24).map (fun i => (i.zero, i.size, i.bytes)) = some (some (.agg #[.bool false, .string .empty, .slice none 0 0]), 3, 48) := by kernel_rfl
theorem exec_load3 {W : World} {a : Act} {o : Oper} {b off : Nat} {x0 x1 x2 : Value} (x : Operand) (ho : o.op = .load 24 x) (hx : a.eval x = .pointer (some ⟨b, off, none⟩))
    (c0 : W.cell? ⟨b, off, none⟩ = some x0) (c1 : W.cell? ⟨b, off + 1, none⟩ = some x1) (c2 : W.cell? ⟨b, off + 2, none⟩ = some x2) :
    (execOp a.eval o).run Tryd.prog W = .ok (.value (.agg #[x0, x1, x2])) W := by
  have hagg := Tryd.isAgg24
  have hsz := Tryd.sizeOf24
  unfold execOp
  simp only [ho, hx]
  simp [go_sem, c0, c1, c2, hagg, hsz]
theorem exec_load1 {P : Program} {a : Act} {o : Oper} {W : World} (ty : TypeId) (x : Operand) (ho : o.op = .load ty x) (p : Addr) (hx : a.eval x = .pointer (some p)) (v : Value) (d : TypeDesc)
    (hu : P.underlying ty = some d) (hd : (match d with | .struct _ | .array _ _ => true | _ => false) = false) (hc : W.cell? p = some v) : (execOp a.eval o).run P W = .ok (.value v) W := by
  unfold execOp
  simp only [ho, hx, Instr.loadAt, Instr.sureAddr, Sem.run_bind, Sem.run_pure, Result.andThen_ok, load_cell hu hd hc]

theorem held_store {P : Program} {ops : Array Oper} {md : Region.Mode} {Q : Exit → Act → World → Prop} {S : World → Prop} {i fuel : Nat} {listed : Array Bool} {oi : Oper} {a : Act} {w w' : World} (hi : ops[i]? = some oi) (hw : Region.wanted oi (yielded ops a.tmps) = true) (hrun : (execOp a.eval oi).run P w = .ok .skip w') (hS : S w')
    (h : wpAnyH P md ops Q S fuel (listed.setIfInBounds i true) (a.put oi.dst undef) w') : wpOp P ops Q i (Behind P ops md Q S fuel listed i) a w := by
  unfold wpOp
  simp only [hi, hw, if_true]
  refine .inl ?_
  unfold Oper.wp
  rw [hrun]
  exact ⟨hS, h⟩
/-- an item is stored, cell by cell -/
theorem exec_store3 {W : World} {a : Act} {o : Oper} {g off : Nat} {cur : Array Value} {t : TypeId} {b0 : Bool} {s0 : ByteArray} {A : Option Addr} {n c : Nat} (x y : Operand) (ho : o.op = .store 24 x y) (hx : a.eval x = .pointer (some ⟨g, off, none⟩)) (hy : a.eval y = .agg #[.bool b0, .string s0, .slice A n c])
    (hb : Blk W g t cur) (hsz : off + 2 < cur.size) :
    (execOp a.eval o).run Tryd.prog W = .ok .skip (((W.setCell ⟨g, off, none⟩ (.bool b0)).setCell ⟨g, off + 1, none⟩ (.string s0)).setCell ⟨g, off + 2, none⟩ (.slice A n c)) := by
  have hsz' := Tryd.sizeOf24
  have c0 : W.cell? ⟨g, off, none⟩ = some cur[off] := by rw [hb.cell]; exact Array.getElem?_eq_getElem (by omega)
  have c1 : W.cell? ⟨g, off + 1, none⟩ = some cur[off + 1] := by rw [hb.cell]; exact Array.getElem?_eq_getElem (by omega)
  have c2 : W.cell? ⟨g, off + 2, none⟩ = some cur[off + 2] := by rw [hb.cell]; exact Array.getElem?_eq_getElem (by omega)
  have f0 := hb.frozen off; have f1 := hb.frozen (off + 1); have f2 := hb.frozen (off + 2)
  unfold execOp
  simp only [ho, hx, hy]
  simp [go_sem, c0, c1, c2, f0, f1, f2, hsz']
/-- the last item of an owned row is set -/
theorem own_last {W : World} {base g cap k : Nat} {cells : List Value} {z0 z1 z2 : Value} (x0 x1 x2 : Value) (hl : cells.length = k * 3) (h : W.ownsRow base 24 3 (.slice (some ⟨g, 0, none⟩) (k + 1) cap) (k + 1) (cells ++ [z0, z1, z2])) :
    ∃ cur, Blk W g 24 cur ∧ k * 3 + 2 < cur.size ∧ (((W.setCell ⟨g, k * 3, none⟩ x0).setCell ⟨g, k * 3 + 1, none⟩ x1).setCell ⟨g, k * 3 + 2, none⟩ x2).ownsRow base 24 3 (.slice (some ⟨g, 0, none⟩) (k + 1) cap) (k + 1) (cells ++ [x0, x1, x2]) := by
  rcases h.2 with ⟨hv, _⟩ | ⟨g', cap', cur, hv, hb, hh, hn, hc, hz, hx⟩
  · cases hv
  simp only [Value.slice.injEq, Option.some.injEq, Addr.mk.injEq] at hv
  obtain ⟨⟨rfl, _, _⟩, _, rfl⟩ := hv
  have hB : Blk W g 24 cur := hh
  have hsz : k * 3 + 2 < cur.size := by
    have : (k + 1) * 3 ≤ cap * 3 := Nat.mul_le_mul_right _ hn
    omega
  refine ⟨cur, hB, hsz, by simp [hl]; omega, .inr ⟨g, cap, _, rfl, hb, ((hB.set_ (k * 3) x0).set_ (k * 3 + 1) x1).set_ (k * 3 + 2) x2, hn, hc, by simpa using hz, ?_⟩⟩
  refine List.ext_getElem? fun j => ?_
  have hxj : ∀ j, j < (k + 1) * 3 → cur[j]? = (cells ++ [z0, z1, z2])[j]? := fun j hj => by rw [← hx, List.getElem?_take_of_lt hj]; simp
  by_cases hj : j < (k + 1) * 3
  · rw [List.getElem?_take_of_lt hj, Array.getElem?_toList, Array.getElem?_setIfInBounds, Array.getElem?_setIfInBounds, Array.getElem?_setIfInBounds]
    by_cases h1 : j < k * 3
    · rw [if_neg (by omega), if_neg (by omega), if_neg (by omega), hxj j hj, List.getElem?_append_left (by omega), List.getElem?_append_left (by omega)]
    · rw [List.getElem?_append_right (by omega), hl]
      obtain ⟨q, rfl⟩ : ∃ q, j = k * 3 + q := ⟨j - k * 3, by omega⟩
      rw [show k * 3 + q - k * 3 = q by omega]
      have hq : q = 0 ∨ q = 1 ∨ q = 2 := by omega
      rcases hq with rfl | rfl | rfl
      · rw [if_neg (by omega), if_neg (by omega), if_pos (by omega)]; simp; omega
      · rw [if_neg (by omega), if_pos (by omega)]; simp; omega
      · rw [if_pos (by omega)]; simp; omega
  · rw [List.getElem?_eq_none (by rw [List.length_take]; simp; omega), List.getElem?_eq_none (by simp [hl]; omega)]

theorem exec_append {P : Program} {a : Act} {o : Oper} {w w' : World} (x y : Operand) (t : TypeId) (ho : o.op = .call { callee := .builtin .append, args := #[x, y], argTypes := #[t, t] }) (v u v' : Value) (hx : a.eval x = v) (hy : a.eval y = u) (hr : (Builtin.append_ #[t, t] o.type #[v, u]).run P w = .ok v' w') : (execOp a.eval o).run P w = .ok (.value v') w' := by
  unfold execOp
  simp only [ho, resolve, invoke, builtin, Sem.run_bind, Sem.run_pure, Result.andThen_ok, List.map_toArray, List.map_cons, List.map_nil, hx, hy, hr]
theorem own_far {W : World} {base g size n cap : Nat} {e : TypeId} {xs : List Value} (h : W.ownsRow base e size (.slice (some ⟨g, 0, none⟩) n cap) n xs) {p : Addr} (hp : g ≠ p.block) (u : Value) : (W.setCell p u).ownsRow base e size (.slice (some ⟨g, 0, none⟩) n cap) n xs := by
  refine ⟨h.1, ?_⟩
  rcases h.2 with h1 | ⟨g', cap', cur, hv, hb, hh, rest⟩
  · exact .inl h1
  · refine .inr ⟨g', cap', cur, hv, hb, ?_, rest⟩
    have : g = g' := by injection hv with h1; injection h1 with h1; injection h1
    subst this
    exact (Below.heap_setCell W p u g hp).trans hh
theorem KeepsW.set {S : Nat → Prop} {W W' : World} (h : KeepsW S W W') {p : Addr} (hp : ¬ S p.block) (u : Value) : KeepsW S W (W'.setCell p u) :=
  ⟨h.os, h.tape, h.output, by simpa [World.setCell] using h.size, fun k hk => (Below.heap_setCell W' p u k (fun e => hp (e ▸ hk))).trans (h.block k hk)⟩
theorem exec_store1 {W : World} {a : Act} {o : Oper} {g off : Nat} {cur : Array Value} {t : TypeId} {A : Option Addr} {n c : Nat} (x y : Operand) (ho : o.op = .store 22 x y) (hx : a.eval x = .pointer (some ⟨g, off, none⟩)) (hy : a.eval y = .slice A n c)
    (hb : Blk W g t cur) (hsz : off < cur.size) : (execOp a.eval o).run Tryd.prog W = .ok .skip (W.setCell ⟨g, off, none⟩ (.slice A n c)) := by
  have c0 : W.cell? ⟨g, off, none⟩ = some cur[off] := by rw [hb.cell]; exact Array.getElem?_eq_getElem (by omega)
  have f0 := hb.frozen off
  have hu := Tryd.underlying22
  have hagg := Tryd.isAgg22
  unfold execOp
  simp only [ho, hx, hy]
  simp [go_sem, c0, f0]
theorem own_slice3 {w : World} {base : Nat} {e : TypeId} {size : Nat} {v : Value} {n : Nat} {xs : List Value} (h : w.ownsRow base e size v n xs) : ∃ A c, v = .slice A n c := by
  rcases h.2 with ⟨rfl, h0⟩ | ⟨g, cap, cur, rfl, _⟩
  · exact ⟨none, 0, by rw [h0]⟩
  · exact ⟨_, _, rfl⟩
theorem own_newB {w : World} {base : Nat} {e : TypeId} {size : Nat} {v : Value} {k : Nat} {xs : List Value} (h : w.ownsRow base e size v k xs) : v.ownBlock ≠ some w.heap.size := by
  rcases h.2 with ⟨rfl, _⟩ | ⟨g, cap, cur, rfl, _, hh, _⟩
  · simp [Value.ownBlock]
  · intro e'
    have : g = w.heap.size := by simpa [Value.ownBlock] using e'
    subst this
    have := (Array.getElem?_eq_some_iff.1 hh).1
    omega
theorem own_ltB {w : World} {base : Nat} {e : TypeId} {size : Nat} {v : Value} {k g : Nat} {xs : List Value} (h : w.ownsRow base e size v k xs) (hg : v.ownBlock = some g) : g < w.heap.size := by
  rcases h.2 with ⟨rfl, _⟩ | ⟨g', cap, cur, rfl, _, hh, _⟩
  · simp [Value.ownBlock] at hg
  · obtain rfl : g' = g := by simpa [Value.ownBlock] using hg
    exact (Array.getElem?_eq_some_iff.1 hh).1
theorem cell_three_new (W : World) (x0 x1 x2 : Value) (t : TypeId) : ∀ (j : Nat) (u : Value), [x0, x1, x2][j]? = some u → (W.alloc (.cells #[x0, x1, x2] t)).cell? ((⟨W.heap.size, 0, none⟩ : Addr).add j) = some u := by
  intro j u hj
  have hb := Blk.new W t #[x0, x1, x2]
  have := hb.cell j
  rw [Addr.add_mid, Nat.zero_add, this]
  simpa using hj

set_option maxRecDepth 100000 in
set_option maxHeartbeats 4000000 in
theorem read_any (r B8 B4 B7 base k : Nat) (s : ByteArray) (p : Int) (v : Value) (cells : List Value) (Post : Bool → ByteArray → Value → Int → World → Prop) (W : World)
    (b8 : Boxed W B8 47 (.func (.func 17) #[.pointer (some ⟨r, 0, none⟩)] #[])) (b4 : Boxed W B4 9 (.string s)) (b7 : Blk W B7 24 #[.bool true, .string .empty, v])
    (hown : W.ownsRow base 24 3 v k cells) (hr : r < base) (hB7 : B7 < base) (hr7 : r ≠ B7) (hbase : base ≤ W.heap.size) (hk : k ≤ 1000)
    (hit : Calls Tryd.prog 17 #[.pointer (some ⟨r, 0, none⟩), .string s, .int .i64 p] W fun e W1 => ∃ l b sA sn sc to, e = .returned (.tuple #[.agg #[.bool l, .string b, .slice sA sn sc], .int .i64 to]) ∧ W.grownBy W1 (some r) ∧ Post l b (.slice sA sn sc) to W1) :
    Calls Tryd.prog 33 #[.int .i64 p, .pointer (some ⟨B8, 0, none⟩), .pointer (some ⟨B4, 0, none⟩), .pointer (some ⟨B7, 0, none⟩)] W fun e W' => ∃ l b sv to W1 v', e = .returned (.int .i64 to) ∧ Post l b sv to W1 ∧ W.grownBy W1 (some r) ∧
      KeepsW (fun j => j < W1.heap.size ∧ j ≠ B7 ∧ v.ownBlock ≠ some j) W1 W' ∧ Blk W' B7 24 #[.bool true, .string .empty, v'] ∧ W'.ownsRow base 24 3 v' (k + 1) (cells ++ [.bool l, .string b, sv]) ∧ (v'.ownBlock = v.ownBlock ∨ ∃ g, v'.ownBlock = some g ∧ W1.heap.size ≤ g) := by
  have c8 := b8.cell; have c4 := b4.cell
  go_enter Tryd.func33, Tryd.ntmps33
  go_wp2_with fail
  refine hit.mono ?_
  rintro e W1 ⟨l, b, sA, sn, sc, to, rfl, hg, hpost⟩
  have d7 := b7.grown hg (by simp; omega)
  have down := hown.kept hg (.inr (by intro e; have := ownBlock_ge hown e; omega))
  have hz1 := hg.size
  obtain ⟨vA, vc, rfl⟩ := own_slice3 hown
  have hcl : cells.length = k * 3 := hown.1
  have HP := Lib.hid hpost
  clear c8 c4 b8 b4 b7 hown hit hpost
  go_wp2_with fail
  have bx := Blk.new W1 24 #[.bool l, .string b, .slice sA sn sc]
  have e7 := d7.alloc (.cells #[.bool l, .string b, .slice sA sn sc] 24)
  have hnb := own_newB down
  have eown := down.kept (only_alloc (World.grownBy.refl W1 none) (.cells #[.bool l, .string b, .slice sA sn sc] 24)) (by cases vA; exact .inl rfl; exact .inr (by simp [Value.ownBlock]))
  have hbw : Below W1.heap.size W1 (W1.alloc (.cells #[.bool l, .string b, .slice sA sn sc] 24)) := (Below.refl _ _).alloc (Nat.le_refl _) _
  have hz2 : (W1.alloc (.cells #[.bool l, .string b, .slice sA sn sc] 24)).heap.size = W1.heap.size + 1 := by simp
  have hlt : ∀ g, (Value.slice vA k vc).ownBlock = some g → base ≤ g ∧ g < W1.heap.size := fun g e => ⟨ownBlock_ge down e, own_ltB down e⟩
  generalize W1.alloc (.cells #[.bool l, .string b, .slice sA sn sc] 24) = W2 at *
  refine wp_region_held (S := fun W => Blk W W1.heap.size 24 #[.bool l, .string b, .slice sA sn sc]) (by kernel_rfl) ?_
  change wpAnyH _ _ _ _ _ _ _ _ W2.drew
  replace bx : Blk W2.drew W1.heap.size 24 #[.bool l, .string b, .slice sA sn sc] := bx
  replace e7 : Blk W2.drew B7 24 #[.bool true, .string .empty, .slice vA k vc] := e7
  replace eown : W2.drew.ownsRow base 24 3 (.slice vA k vc) k cells := eown
  replace hbw : Below W1.heap.size W1 W2.drew := ⟨hbw.os, hbw.tape, hbw.output, hbw.size, hbw.block⟩
  replace hz2 : W2.drew.heap.size = W1.heap.size + 1 := hz2
  generalize W2.drew = u0 at *
  clear d7 down
  obtain ⟨N1, hN1⟩ : ∃ N, W1.heap.size = N := ⟨_, rfl⟩
  rw [hN1] at bx hbw hz2 hnb hlt ⊢
  refine held_take (i := 0) (v := .pointer (some ⟨B7, 2, none⟩)) (some 15) rfl (by kernel_rfl) (by kernel_rfl) (by kernel_rfl) (fun _ _ _ h => h) rfl (Or.inl ⟨by rfl, fun W hW => by go_simp⟩) bx ?_
  simp only [Act.put, List.setIfInBounds_toArray, List.set_cons_zero, List.set_cons_succ]
  refine held_take (i := 2) (v := .agg #[.bool l, .string b, .slice sA sn sc]) (some 17) rfl (by kernel_rfl) (by kernel_rfl) (by kernel_rfl) (fun _ _ _ h => h) rfl (Or.inl ⟨by rfl, fun W hW => exec_load3 (.tmp 6) rfl rfl (Blk.cell hW 0) (Blk.cell hW 1) (Blk.cell hW 2)⟩) bx ?_
  simp only [Act.put, List.setIfInBounds_toArray, List.set_cons_zero, List.set_cons_succ]
  obtain ⟨i0, hi, hz0, hzs, hzb⟩ := info_parts item_info
  refine held_two (i := 1) (j := 4) (by kernel_rfl) ?_ ?_
  · refine held_value (some 16) rfl rfl (.slice vA k vc) (exec_load1 22 (.tmp 15) rfl _ rfl _ _ Tryd.underlying22 rfl (e7.cell 2)) rfl bx ?_
    simp only [Act.put, List.setIfInBounds_toArray, List.set_cons_zero, List.set_cons_succ]
    refine held_take (i := 3) (v := .int .i64 (k : Int)) (some 18) rfl (by kernel_rfl) (by kernel_rfl) (by kernel_rfl) (fun _ _ _ h => h) rfl (Or.inl ⟨by rfl, fun W hW => by go_simp⟩) bx ?_
    simp only [Act.put, List.setIfInBounds_toArray, List.set_cons_zero, List.set_cons_succ]
    refine held_one (i := 4) (by kernel_rfl) ?_
    refine held_value (some 19) rfl rfl (.slice (some ⟨u0.heap.size, 0, none⟩) 1 1) (by go_simp <;> rfl) rfl (bx.alloc (.cells #[.bool false, .string ⟨#[]⟩, .slice none 0 0] 24)) ?_
    simp only [Act.put, List.setIfInBounds_toArray, List.set_cons_zero, List.set_cons_succ]
    have by_ := bx.alloc (.cells #[.bool false, .string ⟨#[]⟩, .slice none 0 0] 24)
    have ey := e7.alloc (.cells #[.bool false, .string ⟨#[]⟩, .slice none 0 0] 24)
    obtain ⟨v', u2, hrun, hown', hgrow, hiff, hob⟩ := run_append_own_at (P := Tryd.prog) (u0.alloc (.cells #[.bool false, .string ⟨#[]⟩, .slice none 0 0] 24)) base 22 22 24 i0 _ 3 48 Tryd.underlying22 hi hz0 hzs hzb rfl (by decide) (.slice vA k vc) k cells (eown.kept (only_alloc (World.grownBy.refl u0 none) _) (by cases vA; exact .inl rfl; exact .inr (by simp [Value.ownBlock]))) ⟨u0.heap.size, 0, none⟩ 1 1 [.bool false, .string ⟨#[]⟩, .slice none 0 0] rfl (cell_three_new _ _ _ _ _) (by simp [Value.oneCell']) (by simp only [maxLen]; omega) (by omega) (by simp; omega)
    obtain ⟨g', cap', rfl⟩ := ownsRow_succ hown'
    obtain ⟨cur, hcur, hcs, hlast⟩ := own_last (.bool l) (.string b) (.slice sA sn sc) hcl hown'
    refine held_one (i := 5) (by kernel_rfl) ?_
    have hb2 : Blk u2 N1 24 #[.bool l, .string b, .slice sA sn sc] := by_.grown hgrow (by intro e; exact hnb e.symm)
    refine held_value (some 20) rfl rfl (.slice (some ⟨g', 0, none⟩) (k + 1) cap') (exec_append (.tmp 16) (.tmp 19) 22 rfl _ _ _ rfl rfl hrun) rfl hb2 ?_
    simp only [Act.put, List.setIfInBounds_toArray, List.set_cons_zero, List.set_cons_succ]
    refine held_take (i := 8) (v := .pointer (some ⟨B7, 2, none⟩)) (some 22) rfl (by kernel_rfl) (by kernel_rfl) (by kernel_rfl) (fun _ _ _ h => h) rfl (Or.inl ⟨by rfl, fun W hW => by go_simp⟩) hb2 ?_
    simp only [Act.put, List.setIfInBounds_toArray, List.set_cons_zero, List.set_cons_succ]
    refine held_take (i := 6) (v := .pointer (some ⟨g', k * 3, none⟩)) (some 21) rfl (by kernel_rfl) (by kernel_rfl) (by kernel_rfl) (fun _ _ _ h => h) rfl (Or.inl ⟨by rfl, fun W hW => by go_simp; intro hle; omega⟩) hb2 ?_
    simp only [Act.put, List.setIfInBounds_toArray, List.set_cons_zero, List.set_cons_succ]
    have hgb : base ≤ g' := ownBlock_ge hown' rfl
    have hgN : g' ≠ N1 := by
      rcases hob with e | e
      · intro e2
        exact hnb (e.symm.trans (by simp [Value.ownBlock, e2]))
      · simp [Value.ownBlock] at e; omega
    have hob2 : (Value.slice (some ⟨g', 0, none⟩) (k + 1) cap').ownBlock = (Value.slice vA k vc).ownBlock ∨ ∃ q, (Value.slice (some ⟨g', 0, none⟩) (k + 1) cap').ownBlock = some q ∧ N1 ≤ q := by
      rcases hob with e | e
      · exact .inl e
      · refine .inr ⟨_, e, ?_⟩
        simp; omega
    have e7u : Blk u2 B7 24 #[.bool true, .string .empty, .slice vA k vc] := ey.grown hgrow (by intro e; have := (hlt _ e.symm).1; omega)
    have hkw : KeepsW (fun j => j < N1 ∧ j ≠ B7 ∧ (Value.slice vA k vc).ownBlock ≠ some j) W1 u2 := by
      refine ⟨hgrow.os.trans hbw.os, hgrow.tape.trans hbw.tape, hgrow.output.trans hbw.output, ?_, fun j hj => ?_⟩
      · have := hgrow.size; simp at this; omega
      · rw [hgrow.block j (by simp; omega) (fun e => hj.2.2 e.symm), Below.heap_alloc _ _ _ (by omega)]
        exact hbw.block j hj.1
    have hgS : ¬ (g' < N1 ∧ g' ≠ B7 ∧ (Value.slice vA k vc).ownBlock ≠ some g') := by
      rintro ⟨a1, a2, a3⟩
      rcases hob with e | e
      · exact a3 (e.symm.trans rfl)
      · simp [Value.ownBlock] at e; omega
    refine held_two (i := 7) (j := 9) (by kernel_rfl) ?_ ?_
    · refine held_store rfl rfl (exec_store3 (.tmp 21) (.tmp 17) rfl rfl rfl hcur hcs) (((hb2.far (p := ⟨g', k * 3, none⟩) (Ne.symm hgN) _).far (p := ⟨g', k * 3 + 1, none⟩) (Ne.symm hgN) _).far (p := ⟨g', k * 3 + 2, none⟩) (Ne.symm hgN) _) ?_
      simp only [Act.put, List.setIfInBounds_toArray, List.set_cons_zero, List.set_cons_succ]
      have e7v := ((e7u.far (p := ⟨g', k * 3, none⟩) (by show B7 ≠ g'; omega) (.bool l)).far (p := ⟨g', k * 3 + 1, none⟩) (by show B7 ≠ g'; omega) (.string b)).far (p := ⟨g', k * 3 + 2, none⟩) (by show B7 ≠ g'; omega) (.slice sA sn sc)
      have hb3 := ((hb2.far (p := ⟨g', k * 3, none⟩) (Ne.symm hgN) (.bool l)).far (p := ⟨g', k * 3 + 1, none⟩) (Ne.symm hgN) (.string b)).far (p := ⟨g', k * 3 + 2, none⟩) (Ne.symm hgN) (.slice sA sn sc)
      have hk3 := ((hkw.set (p := ⟨g', k * 3, none⟩) hgS (.bool l)).set (p := ⟨g', k * 3 + 1, none⟩) hgS (.string b)).set (p := ⟨g', k * 3 + 2, none⟩) hgS (.slice sA sn sc)
      have hk4 := hk3.set (p := ⟨B7, 2, none⟩) (by rintro ⟨_, h, _⟩; exact h rfl) (.slice (some ⟨g', 0, none⟩) (k + 1) cap')
      have e7w := e7v.set_ 2 (.slice (some ⟨g', 0, none⟩) (k + 1) cap')
      simp only [List.setIfInBounds_toArray, List.set_cons_zero, List.set_cons_succ] at e7w
      have hl2 := own_far hlast (p := ⟨B7, 2, none⟩) (by show g' ≠ B7; omega) (.slice (some ⟨g', 0, none⟩) (k + 1) cap')
      refine held_one (i := 9) (by kernel_rfl) ?_
      refine held_store rfl rfl (exec_store1 (.tmp 22) (.tmp 20) rfl rfl rfl e7v (by simp)) (hb3.far (p := ⟨B7, 2, none⟩) (by show N1 ≠ B7; omega) _) ?_
      simp only [Act.put, List.setIfInBounds_toArray, List.set_cons_zero, List.set_cons_succ]
      refine wpAnyH_done (by kernel_rfl) ?_ _
      clear e7v hb3 hk3 hlast e7u hkw hown' hrun hgrow bx e7 eown hbw
      go_wp2_with fail
      go_ret
      exact ⟨l, b, .slice sA sn sc, to, W1, _, rfl, HP.out, hg, by rw [hN1]; exact hk4, e7w, hl2, by rw [hN1]; exact hob2⟩
    · have hown2 := own_far hown' (p := ⟨B7, 2, none⟩) (by show g' ≠ B7; omega) (.slice (some ⟨g', 0, none⟩) (k + 1) cap')
      have e7w := e7u.set_ 2 (.slice (some ⟨g', 0, none⟩) (k + 1) cap')
      simp only [List.setIfInBounds_toArray, List.set_cons_zero, List.set_cons_succ] at e7w
      have hb3 := hb2.far (p := ⟨B7, 2, none⟩) (by show N1 ≠ B7; omega) (.slice (some ⟨g', 0, none⟩) (k + 1) cap')
      have hk3 := hkw.set (p := ⟨B7, 2, none⟩) (by rintro ⟨_, h, _⟩; exact h rfl) (.slice (some ⟨g', 0, none⟩) (k + 1) cap')
      obtain ⟨cur2, hcur2, hcs2, hlast2⟩ := own_last (.bool l) (.string b) (.slice sA sn sc) hcl hown2
      refine held_store rfl rfl (exec_store1 (.tmp 22) (.tmp 20) rfl rfl rfl e7u (by simp)) hb3 ?_
      simp only [Act.put, List.setIfInBounds_toArray, List.set_cons_zero, List.set_cons_succ]
      refine held_one (i := 7) (by kernel_rfl) ?_
      have e7x := ((e7w.far (p := ⟨g', k * 3, none⟩) (by show B7 ≠ g'; omega) (.bool l)).far (p := ⟨g', k * 3 + 1, none⟩) (by show B7 ≠ g'; omega) (.string b)).far (p := ⟨g', k * 3 + 2, none⟩) (by show B7 ≠ g'; omega) (.slice sA sn sc)
      have hk4 := ((hk3.set (p := ⟨g', k * 3, none⟩) hgS (.bool l)).set (p := ⟨g', k * 3 + 1, none⟩) hgS (.string b)).set (p := ⟨g', k * 3 + 2, none⟩) hgS (.slice sA sn sc)
      refine held_store rfl rfl (exec_store3 (.tmp 21) (.tmp 17) rfl rfl rfl hcur2 hcs2) (((hb3.far (p := ⟨g', k * 3, none⟩) (Ne.symm hgN) _).far (p := ⟨g', k * 3 + 1, none⟩) (Ne.symm hgN) _).far (p := ⟨g', k * 3 + 2, none⟩) (Ne.symm hgN) _) ?_
      simp only [Act.put, List.setIfInBounds_toArray, List.set_cons_zero, List.set_cons_succ]
      refine wpAnyH_done (by kernel_rfl) ?_ _
      clear hb3 hk3 hlast e7u hkw hown' hown2 hrun hgrow bx e7 eown hbw
      go_wp2_with fail
      go_ret
      exact ⟨l, b, .slice sA sn sc, to, W1, _, rfl, HP.out, hg, by rw [hN1]; exact hk4, e7x, hlast2, by rw [hN1]; exact hob2⟩
  · refine held_value (some 19) rfl rfl (.slice (some ⟨u0.heap.size, 0, none⟩) 1 1) (by go_simp <;> rfl) rfl (bx.alloc (.cells #[.bool false, .string ⟨#[]⟩, .slice none 0 0] 24)) ?_
    simp only [Act.put, List.setIfInBounds_toArray, List.set_cons_zero, List.set_cons_succ]
    refine held_one (i := 1) (by kernel_rfl) ?_
    refine held_value (some 16) rfl rfl (.slice vA k vc) (exec_load1 22 (.tmp 15) rfl _ rfl _ _ Tryd.underlying22 rfl ((e7.alloc _).cell 2)) rfl (bx.alloc _) ?_
    simp only [Act.put, List.setIfInBounds_toArray, List.set_cons_zero, List.set_cons_succ]
    refine held_take (i := 3) (v := .int .i64 (k : Int)) (some 18) rfl (by kernel_rfl) (by kernel_rfl) (by kernel_rfl) (fun _ _ _ h => h) rfl (Or.inl ⟨by rfl, fun W hW => by go_simp⟩) (bx.alloc _) ?_
    simp only [Act.put, List.setIfInBounds_toArray, List.set_cons_zero, List.set_cons_succ]
    have by_ := bx.alloc (.cells #[.bool false, .string ⟨#[]⟩, .slice none 0 0] 24)
    have ey := e7.alloc (.cells #[.bool false, .string ⟨#[]⟩, .slice none 0 0] 24)
    obtain ⟨v', u2, hrun, hown', hgrow, hiff, hob⟩ := run_append_own_at (P := Tryd.prog) (u0.alloc (.cells #[.bool false, .string ⟨#[]⟩, .slice none 0 0] 24)) base 22 22 24 i0 _ 3 48 Tryd.underlying22 hi hz0 hzs hzb rfl (by decide) (.slice vA k vc) k cells (eown.kept (only_alloc (World.grownBy.refl u0 none) _) (by cases vA; exact .inl rfl; exact .inr (by simp [Value.ownBlock]))) ⟨u0.heap.size, 0, none⟩ 1 1 [.bool false, .string ⟨#[]⟩, .slice none 0 0] rfl (cell_three_new _ _ _ _ _) (by simp [Value.oneCell']) (by simp only [maxLen]; omega) (by omega) (by simp; omega)
    obtain ⟨g', cap', rfl⟩ := ownsRow_succ hown'
    obtain ⟨cur, hcur, hcs, hlast⟩ := own_last (.bool l) (.string b) (.slice sA sn sc) hcl hown'
    refine held_one (i := 5) (by kernel_rfl) ?_
    have hb2 : Blk u2 N1 24 #[.bool l, .string b, .slice sA sn sc] := by_.grown hgrow (by intro e; exact hnb e.symm)
    refine held_value (some 20) rfl rfl (.slice (some ⟨g', 0, none⟩) (k + 1) cap') (exec_append (.tmp 16) (.tmp 19) 22 rfl _ _ _ rfl rfl hrun) rfl hb2 ?_
    simp only [Act.put, List.setIfInBounds_toArray, List.set_cons_zero, List.set_cons_succ]
    refine held_take (i := 8) (v := .pointer (some ⟨B7, 2, none⟩)) (some 22) rfl (by kernel_rfl) (by kernel_rfl) (by kernel_rfl) (fun _ _ _ h => h) rfl (Or.inl ⟨by rfl, fun W hW => by go_simp⟩) hb2 ?_
    simp only [Act.put, List.setIfInBounds_toArray, List.set_cons_zero, List.set_cons_succ]
    refine held_take (i := 6) (v := .pointer (some ⟨g', k * 3, none⟩)) (some 21) rfl (by kernel_rfl) (by kernel_rfl) (by kernel_rfl) (fun _ _ _ h => h) rfl (Or.inl ⟨by rfl, fun W hW => by go_simp; intro hle; omega⟩) hb2 ?_
    simp only [Act.put, List.setIfInBounds_toArray, List.set_cons_zero, List.set_cons_succ]
    have hgb : base ≤ g' := ownBlock_ge hown' rfl
    have hgN : g' ≠ N1 := by
      rcases hob with e | e
      · intro e2
        exact hnb (e.symm.trans (by simp [Value.ownBlock, e2]))
      · simp [Value.ownBlock] at e; omega
    have hob2 : (Value.slice (some ⟨g', 0, none⟩) (k + 1) cap').ownBlock = (Value.slice vA k vc).ownBlock ∨ ∃ q, (Value.slice (some ⟨g', 0, none⟩) (k + 1) cap').ownBlock = some q ∧ N1 ≤ q := by
      rcases hob with e | e
      · exact .inl e
      · refine .inr ⟨_, e, ?_⟩
        simp; omega
    have e7u : Blk u2 B7 24 #[.bool true, .string .empty, .slice vA k vc] := ey.grown hgrow (by intro e; have := (hlt _ e.symm).1; omega)
    have hkw : KeepsW (fun j => j < N1 ∧ j ≠ B7 ∧ (Value.slice vA k vc).ownBlock ≠ some j) W1 u2 := by
      refine ⟨hgrow.os.trans hbw.os, hgrow.tape.trans hbw.tape, hgrow.output.trans hbw.output, ?_, fun j hj => ?_⟩
      · have := hgrow.size; simp at this; omega
      · rw [hgrow.block j (by simp; omega) (fun e => hj.2.2 e.symm), Below.heap_alloc _ _ _ (by omega)]
        exact hbw.block j hj.1
    have hgS : ¬ (g' < N1 ∧ g' ≠ B7 ∧ (Value.slice vA k vc).ownBlock ≠ some g') := by
      rintro ⟨a1, a2, a3⟩
      rcases hob with e | e
      · exact a3 (e.symm.trans rfl)
      · simp [Value.ownBlock] at e; omega
    refine held_two (i := 7) (j := 9) (by kernel_rfl) ?_ ?_
    · refine held_store rfl rfl (exec_store3 (.tmp 21) (.tmp 17) rfl rfl rfl hcur hcs) (((hb2.far (p := ⟨g', k * 3, none⟩) (Ne.symm hgN) _).far (p := ⟨g', k * 3 + 1, none⟩) (Ne.symm hgN) _).far (p := ⟨g', k * 3 + 2, none⟩) (Ne.symm hgN) _) ?_
      simp only [Act.put, List.setIfInBounds_toArray, List.set_cons_zero, List.set_cons_succ]
      have e7v := ((e7u.far (p := ⟨g', k * 3, none⟩) (by show B7 ≠ g'; omega) (.bool l)).far (p := ⟨g', k * 3 + 1, none⟩) (by show B7 ≠ g'; omega) (.string b)).far (p := ⟨g', k * 3 + 2, none⟩) (by show B7 ≠ g'; omega) (.slice sA sn sc)
      have hb3 := ((hb2.far (p := ⟨g', k * 3, none⟩) (Ne.symm hgN) (.bool l)).far (p := ⟨g', k * 3 + 1, none⟩) (Ne.symm hgN) (.string b)).far (p := ⟨g', k * 3 + 2, none⟩) (Ne.symm hgN) (.slice sA sn sc)
      have hk3 := ((hkw.set (p := ⟨g', k * 3, none⟩) hgS (.bool l)).set (p := ⟨g', k * 3 + 1, none⟩) hgS (.string b)).set (p := ⟨g', k * 3 + 2, none⟩) hgS (.slice sA sn sc)
      have hk4 := hk3.set (p := ⟨B7, 2, none⟩) (by rintro ⟨_, h, _⟩; exact h rfl) (.slice (some ⟨g', 0, none⟩) (k + 1) cap')
      have e7w := e7v.set_ 2 (.slice (some ⟨g', 0, none⟩) (k + 1) cap')
      simp only [List.setIfInBounds_toArray, List.set_cons_zero, List.set_cons_succ] at e7w
      have hl2 := own_far hlast (p := ⟨B7, 2, none⟩) (by show g' ≠ B7; omega) (.slice (some ⟨g', 0, none⟩) (k + 1) cap')
      refine held_one (i := 9) (by kernel_rfl) ?_
      refine held_store rfl rfl (exec_store1 (.tmp 22) (.tmp 20) rfl rfl rfl e7v (by simp)) (hb3.far (p := ⟨B7, 2, none⟩) (by show N1 ≠ B7; omega) _) ?_
      simp only [Act.put, List.setIfInBounds_toArray, List.set_cons_zero, List.set_cons_succ]
      refine wpAnyH_done (by kernel_rfl) ?_ _
      clear e7v hb3 hk3 hlast e7u hkw hown' hrun hgrow bx e7 eown hbw
      go_wp2_with fail
      go_ret
      exact ⟨l, b, .slice sA sn sc, to, W1, _, rfl, HP.out, hg, by rw [hN1]; exact hk4, e7w, hl2, by rw [hN1]; exact hob2⟩
    · have hown2 := own_far hown' (p := ⟨B7, 2, none⟩) (by show g' ≠ B7; omega) (.slice (some ⟨g', 0, none⟩) (k + 1) cap')
      have e7w := e7u.set_ 2 (.slice (some ⟨g', 0, none⟩) (k + 1) cap')
      simp only [List.setIfInBounds_toArray, List.set_cons_zero, List.set_cons_succ] at e7w
      have hb3 := hb2.far (p := ⟨B7, 2, none⟩) (by show N1 ≠ B7; omega) (.slice (some ⟨g', 0, none⟩) (k + 1) cap')
      have hk3 := hkw.set (p := ⟨B7, 2, none⟩) (by rintro ⟨_, h, _⟩; exact h rfl) (.slice (some ⟨g', 0, none⟩) (k + 1) cap')
      obtain ⟨cur2, hcur2, hcs2, hlast2⟩ := own_last (.bool l) (.string b) (.slice sA sn sc) hcl hown2
      refine held_store rfl rfl (exec_store1 (.tmp 22) (.tmp 20) rfl rfl rfl e7u (by simp)) hb3 ?_
      simp only [Act.put, List.setIfInBounds_toArray, List.set_cons_zero, List.set_cons_succ]
      refine held_one (i := 7) (by kernel_rfl) ?_
      have e7x := ((e7w.far (p := ⟨g', k * 3, none⟩) (by show B7 ≠ g'; omega) (.bool l)).far (p := ⟨g', k * 3 + 1, none⟩) (by show B7 ≠ g'; omega) (.string b)).far (p := ⟨g', k * 3 + 2, none⟩) (by show B7 ≠ g'; omega) (.slice sA sn sc)
      have hk4 := ((hk3.set (p := ⟨g', k * 3, none⟩) hgS (.bool l)).set (p := ⟨g', k * 3 + 1, none⟩) hgS (.string b)).set (p := ⟨g', k * 3 + 2, none⟩) hgS (.slice sA sn sc)
      refine held_store rfl rfl (exec_store3 (.tmp 21) (.tmp 17) rfl rfl rfl hcur2 hcs2) (((hb3.far (p := ⟨g', k * 3, none⟩) (Ne.symm hgN) _).far (p := ⟨g', k * 3 + 1, none⟩) (Ne.symm hgN) _).far (p := ⟨g', k * 3 + 2, none⟩) (Ne.symm hgN) _) ?_
      simp only [Act.put, List.setIfInBounds_toArray, List.set_cons_zero, List.set_cons_succ]
      refine wpAnyH_done (by kernel_rfl) ?_ _
      clear hb3 hk3 hlast e7u hkw hown' hown2 hrun hgrow bx e7 eown hbw
      go_wp2_with fail
      go_ret
      exact ⟨l, b, .slice sA sn sc, to, W1, _, rfl, HP.out, hg, by rw [hN1]; exact hk4, e7x, hlast2, by rw [hN1]; exact hob2⟩
end Go.Proofs.YthbeigcbmalldaaDoor
