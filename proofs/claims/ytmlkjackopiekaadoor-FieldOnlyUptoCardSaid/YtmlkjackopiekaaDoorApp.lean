/- Pieces for an append through a struct's field, in a region that draws. -/
import Derived.Test.YtmlkjackopiekaaDoorTree
import Derived.Test.YtmlkjackopiekaaDoorPerm
import Derived.Test.YtmlkjackopiekaaDoorRes
import Derived.Test.YtmlkjackopiekaaDoorBytes
import Derived.Maps.AppendAt
namespace Go.Proofs.YtmlkjackopiekaaDoor
open Go.RowKit Go.Shelf
set_option linter.unusedSimpArgs false
/-- the blocks of a set lie as they lay; nothing is said to the outside -/
structure KeepsW (S : Nat → Prop) (W W' : World) : Prop where
  os : W'.os = W.os
  tape : W'.tape = W.tape
  output : W'.output = W.output
  size : W.heap.size ≤ W'.heap.size
  block : ∀ k, S k → W'.heap[k]? = W.heap[k]?
theorem item_info : (Tryd.prog.info? 30).map (fun i => (i.zero, i.size, i.bytes)) = some (some (.agg #[.bool false, .string .empty, .slice none 0 0]), 3, 48) := by kernel_rfl
theorem exec_load3 {W : World} {a : Act} {o : Oper} {b off : Nat} {x0 x1 x2 : Value} (x : Operand) (ho : o.op = .load 30 x) (hx : a.eval x = .pointer (some ⟨b, off, none⟩))
    (c0 : W.cell? ⟨b, off, none⟩ = some x0) (c1 : W.cell? ⟨b, off + 1, none⟩ = some x1) (c2 : W.cell? ⟨b, off + 2, none⟩ = some x2) :
    (execOp a.eval o).run Tryd.prog W = .ok (.value (.agg #[x0, x1, x2])) W := by
  have hagg := Tryd.isAgg30
  have hsz := Tryd.sizeOf30
  unfold execOp
  simp only [ho, hx]
  simp [go_sem, c0, c1, c2, hagg, hsz]
theorem exec_load1 {P : Program} {a : Act} {o : Oper} {W : World} (ty : TypeId) (x : Operand) (ho : o.op = .load ty x) (p : Addr) (hx : a.eval x = .pointer (some p)) (v : Value) (d : TypeDesc)
    (hu : P.underlying ty = some d) (hd : (match d with | .struct _ | .array _ _ => true | _ => false) = false) (hc : W.cell? p = some v) : (execOp a.eval o).run P W = .ok (.value v) W := by
  unfold execOp
  simp only [ho, hx, Instr.loadAt, Instr.sureAddr, Sem.run_bind, Sem.run_pure, Result.andThen_ok, load_cell hu hd hc]

theorem held_store {P : Program} {ops : Array Oper} {md : Region.Mode} {Q : Exit → Act → World → Prop} {S : World → Prop} {i fuel : Nat} {listed : Array Bool} {oi : Oper} {a : Act} {w w' : World} (hi : ops[i]? = some oi) (hw : Region.wanted oi (yielded ops a.tmps) = true) (hrun : (execOp a.eval oi).run P w = .ok .skip w') (hS : S w')
    (h : wpAnyH P md ops Q S fuel (listed.setIfInBounds i true) (a.put oi.dst undef) w') : wpOp P ops Q i (Behind P ops md Q S fuel listed i) a w := by
  unfold wpOp
  simp only [hi, hw, if_true]
  refine .inl ?_
  unfold Oper.wp
  rw [hrun]
  exact ⟨hS, h⟩
/-- an item is stored, cell by cell -/
theorem exec_store3 {W : World} {a : Act} {o : Oper} {g off : Nat} {cur : Array Value} {t : TypeId} {b0 : Bool} {s0 : ByteArray} {A : Option Addr} {n c : Nat} (x y : Operand) (ho : o.op = .store 30 x y) (hx : a.eval x = .pointer (some ⟨g, off, none⟩)) (hy : a.eval y = .agg #[.bool b0, .string s0, .slice A n c])
    (hb : Blk W g t cur) (hsz : off + 2 < cur.size) :
    (execOp a.eval o).run Tryd.prog W = .ok .skip (((W.setCell ⟨g, off, none⟩ (.bool b0)).setCell ⟨g, off + 1, none⟩ (.string s0)).setCell ⟨g, off + 2, none⟩ (.slice A n c)) := by
  have hsz' := Tryd.sizeOf30
  have c0 : W.cell? ⟨g, off, none⟩ = some cur[off] := by rw [hb.cell]; exact Array.getElem?_eq_getElem (by omega)
  have c1 : W.cell? ⟨g, off + 1, none⟩ = some cur[off + 1] := by rw [hb.cell]; exact Array.getElem?_eq_getElem (by omega)
  have c2 : W.cell? ⟨g, off + 2, none⟩ = some cur[off + 2] := by rw [hb.cell]; exact Array.getElem?_eq_getElem (by omega)
  have f0 := hb.frozen off; have f1 := hb.frozen (off + 1); have f2 := hb.frozen (off + 2)
  unfold execOp
  simp only [ho, hx, hy]
  simp [go_sem, c0, c1, c2, f0, f1, f2, hsz']
/-- the last item of an owned row is set -/
theorem own_last {W : World} {base g cap k : Nat} {cells : List Value} {z0 z1 z2 : Value} (x0 x1 x2 : Value) (hl : cells.length = k * 3) (h : W.ownsRow base 30 3 (.slice (some ⟨g, 0, none⟩) (k + 1) cap) (k + 1) (cells ++ [z0, z1, z2])) :
    ∃ cur, Blk W g 30 cur ∧ k * 3 + 2 < cur.size ∧ (((W.setCell ⟨g, k * 3, none⟩ x0).setCell ⟨g, k * 3 + 1, none⟩ x1).setCell ⟨g, k * 3 + 2, none⟩ x2).ownsRow base 30 3 (.slice (some ⟨g, 0, none⟩) (k + 1) cap) (k + 1) (cells ++ [x0, x1, x2]) := by
  rcases h.2 with ⟨hv, _⟩ | ⟨g', cap', cur, hv, hb, hh, hn, hc, hz, hx⟩
  · cases hv
  simp only [Value.slice.injEq, Option.some.injEq, Addr.mk.injEq] at hv
  obtain ⟨⟨rfl, _, _⟩, _, rfl⟩ := hv
  have hB : Blk W g 30 cur := hh
  have hsz : k * 3 + 2 < cur.size := by
    have : (k + 1) * 3 ≤ cap * 3 := Nat.mul_le_mul_right _ hn
    omega
  refine ⟨cur, hB, hsz, by simp [hl]; omega, .inr ⟨g, cap, _, rfl, hb, ((hB.set_ (k * 3) x0).set_ (k * 3 + 1) x1).set_ (k * 3 + 2) x2, hn, hc, by simpa using hz, ?_⟩⟩
  refine List.ext_getElem? fun j => ?_
  have hxj : ∀ j, j < (k + 1) * 3 → cur[j]? = (cells ++ [z0, z1, z2])[j]? := fun j hj => by rw [← hx, List.getElem?_take_of_lt hj]; simp
  by_cases hj : j < (k + 1) * 3
  · rw [List.getElem?_take_of_lt hj, Array.getElem?_toList, Array.getElem?_setIfInBounds, Array.getElem?_setIfInBounds, Array.getElem?_setIfInBounds]
    by_cases h1 : j < k * 3
    · rw [if_neg (by omega), if_neg (by omega), if_neg (by omega), hxj j hj, List.getElem?_append_left (by omega), List.getElem?_append_left (by omega)]
    · rw [List.getElem?_append_right (by omega), hl]
      obtain ⟨q, rfl⟩ : ∃ q, j = k * 3 + q := ⟨j - k * 3, by omega⟩
      rw [show k * 3 + q - k * 3 = q by omega]
      have hq : q = 0 ∨ q = 1 ∨ q = 2 := by omega
      rcases hq with rfl | rfl | rfl
      · rw [if_neg (by omega), if_neg (by omega), if_pos (by omega)]; simp; omega
      · rw [if_neg (by omega), if_pos (by omega)]; simp; omega
      · rw [if_pos (by omega)]; simp; omega
  · rw [List.getElem?_eq_none (by rw [List.length_take]; simp; omega), List.getElem?_eq_none (by simp [hl]; omega)]

theorem exec_append {P : Program} {a : Act} {o : Oper} {w w' : World} (x y : Operand) (t : TypeId) (ho : o.op = .call { callee := .builtin .append, args := #[x, y], argTypes := #[t, t] }) (v u v' : Value) (hx : a.eval x = v) (hy : a.eval y = u) (hr : (Builtin.append_ #[t, t] o.type #[v, u]).run P w = .ok v' w') : (execOp a.eval o).run P w = .ok (.value v') w' := by
  unfold execOp
  simp only [ho, resolve, invoke, builtin, Sem.run_bind, Sem.run_pure, Result.andThen_ok, List.map_toArray, List.map_cons, List.map_nil, hx, hy, hr]
theorem own_far {W : World} {base g size n cap : Nat} {e : TypeId} {xs : List Value} (h : W.ownsRow base e size (.slice (some ⟨g, 0, none⟩) n cap) n xs) {p : Addr} (hp : g ≠ p.block) (u : Value) : (W.setCell p u).ownsRow base e size (.slice (some ⟨g, 0, none⟩) n cap) n xs := by
  refine ⟨h.1, ?_⟩
  rcases h.2 with h1 | ⟨g', cap', cur, hv, hb, hh, rest⟩
  · exact .inl h1
  · refine .inr ⟨g', cap', cur, hv, hb, ?_, rest⟩
    have : g = g' := by injection hv with h1; injection h1 with h1; injection h1
    subst this
    exact (Below.heap_setCell W p u g hp).trans hh
theorem KeepsW.set {S : Nat → Prop} {W W' : World} (h : KeepsW S W W') {p : Addr} (hp : ¬ S p.block) (u : Value) : KeepsW S W (W'.setCell p u) :=
  ⟨h.os, h.tape, h.output, by simpa [World.setCell] using h.size, fun k hk => (Below.heap_setCell W' p u k (fun e => hp (e ▸ hk))).trans (h.block k hk)⟩
theorem exec_store1 {W : World} {a : Act} {o : Oper} {g off : Nat} {cur : Array Value} {t : TypeId} {A : Option Addr} {n c : Nat} (x y : Operand) (ho : o.op = .store 28 x y) (hx : a.eval x = .pointer (some ⟨g, off, none⟩)) (hy : a.eval y = .slice A n c)
    (hb : Blk W g t cur) (hsz : off < cur.size) : (execOp a.eval o).run Tryd.prog W = .ok .skip (W.setCell ⟨g, off, none⟩ (.slice A n c)) := by
  have c0 : W.cell? ⟨g, off, none⟩ = some cur[off] := by rw [hb.cell]; exact Array.getElem?_eq_getElem (by omega)
  have f0 := hb.frozen off
  have hu := Tryd.underlying28
  have hagg := Tryd.isAgg28
  unfold execOp
  simp only [ho, hx, hy]
  simp [go_sem, c0, f0]
theorem own_slice3 {w : World} {base : Nat} {e : TypeId} {size : Nat} {v : Value} {n : Nat} {xs : List Value} (h : w.ownsRow base e size v n xs) : ∃ A c, v = .slice A n c := by
  rcases h.2 with ⟨rfl, h0⟩ | ⟨g, cap, cur, rfl, _⟩
  · exact ⟨none, 0, by rw [h0]⟩
  · exact ⟨_, _, rfl⟩
theorem own_newB {w : World} {base : Nat} {e : TypeId} {size : Nat} {v : Value} {k : Nat} {xs : List Value} (h : w.ownsRow base e size v k xs) : v.ownBlock ≠ some w.heap.size := by
  rcases h.2 with ⟨rfl, _⟩ | ⟨g, cap, cur, rfl, _, hh, _⟩
  · simp [Value.ownBlock]
  · intro e'
    have : g = w.heap.size := by simpa [Value.ownBlock] using e'
    subst this
    have := (Array.getElem?_eq_some_iff.1 hh).1
    omega
theorem own_ltB {w : World} {base : Nat} {e : TypeId} {size : Nat} {v : Value} {k g : Nat} {xs : List Value} (h : w.ownsRow base e size v k xs) (hg : v.ownBlock = some g) : g < w.heap.size := by
  rcases h.2 with ⟨rfl, _⟩ | ⟨g', cap, cur, rfl, _, hh, _⟩
  · simp [Value.ownBlock] at hg
  · obtain rfl : g' = g := by simpa [Value.ownBlock] using hg
    exact (Array.getElem?_eq_some_iff.1 hh).1
theorem cell_three_new (W : World) (x0 x1 x2 : Value) (t : TypeId) : ∀ (j : Nat) (u : Value), [x0, x1, x2][j]? = some u → (W.alloc (.cells #[x0, x1, x2] t)).cell? ((⟨W.heap.size, 0, none⟩ : Addr).add j) = some u := by
  intro j u hj
  have hb := Blk.new W t #[x0, x1, x2]
  have := hb.cell j
  rw [Addr.add_mid, Nat.zero_add, this]
  simpa using hj

/-- an item that is being made: its block, and its row so far -/
structure Held3 (w : World) (b3 : Nat) (v : Value) (k : Nat) (cells : List Value) (u : World) : Prop where
  blk : Blk u b3 30 #[.bool true, .string ⟨#[]⟩, v]
  own : u.ownsRow (b3 + 1) 30 3 v k cells
  grown : w.grownBy u none
  size : b3 + 1 ≤ u.heap.size
  low : w.heap.size ≤ b3
theorem Held3.kept {w u u' : World} {b3 k : Nat} {v : Value} {cells : List Value} (h : Held3 w b3 v k cells u) (hg : u.grownBy u' none) : Held3 w b3 v k cells u' := by
  obtain ⟨A, c, rfl⟩ := own_slice3 h.own
  refine ⟨h.blk.grown hg (by simp), h.own.kept hg (by cases A; exact .inl rfl; exact .inr (by simp [Value.ownBlock])), grown_self h.grown hg (by simp), ?_, h.low⟩
  have := hg.size; have := h.size; omega
theorem Held3.drew {w u : World} {b3 k : Nat} {v : Value} {cells : List Value} (h : Held3 w b3 v k cells u) : Held3 w b3 v k cells u.drew := h.kept (only_drew (World.grownBy.refl u none))
theorem Held3.drewN {w u : World} {b3 k : Nat} {v : Value} {cells : List Value} (h : Held3 w b3 v k cells u) (n : Nat) : Held3 w b3 v k cells (u.drewN n) := h.kept (only_drewN (World.grownBy.refl u none) n)
theorem Held3.put {w u u2 : World} {b3 k g' cap' : Nat} {v : Value} {cells news : List Value} (h : Held3 w b3 v k cells u) (hown : u2.ownsRow (b3 + 1) 30 3 (.slice (some ⟨g', 0, none⟩) (k + 1) cap') (k + 1) news) (hg : u.grownBy u2 v.ownBlock) :
    Held3 w b3 (.slice (some ⟨g', 0, none⟩) (k + 1) cap') (k + 1) news (u2.setCell ⟨b3, 2, none⟩ (.slice (some ⟨g', 0, none⟩) (k + 1) cap')) := by
  have hge : b3 + 1 ≤ g' := ownBlock_ge hown rfl
  have hb := (h.blk.grown hg (fun e => by have := ownBlock_ge h.own e.symm; omega)).set_ 2 (.slice (some ⟨g', 0, none⟩) (k + 1) cap')
  refine ⟨by simpa using hb, own_far hown (p := ⟨b3, 2, none⟩) (by show g' ≠ b3; omega) _, only_set (grown_self h.grown hg (fun j hj => .inr (by have := ownBlock_ge h.own hj; have := h.low; omega))) (p := ⟨b3, 2, none⟩) h.low _, ?_, h.low⟩
  have := hg.size; have := h.size; simp [World.setCell]; omega
end Go.Proofs.YtmlkjackopiekaaDoor
