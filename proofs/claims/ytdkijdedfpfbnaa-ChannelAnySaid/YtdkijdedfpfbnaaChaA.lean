/- Helpers of seat 15 (what the frames' own seat has in texts that this seat lacks). -/
import Derived.Test.YtdkijdedfpfbnaaFrmE
namespace Go.Proofs.Ytdkijdedfpfbnaa
open Go.RowKit Go.Shelf

theorem ba_ext {a b : ByteArray} (h : a.data.toList = b.data.toList) : a = b := by
  obtain ⟨⟨a⟩⟩ := a
  obtain ⟨⟨b⟩⟩ := b
  simp only at h
  rw [h]
theorem check_ok {f : Frm} (h : checkF f = 0) : f.id.size = 16 ∧ 0 ≤ f.num ∧ f.num ≤ 65535 ∧ f.data.size ≤ 4096 := by
  unfold checkF at h
  split at h
  · cases h
  · split at h
    · cases h
    · omega
theorem check_is (f : Frm) : checkF f = 0 ∨ checkF f = 2 ∨ checkF f = 5 := by unfold checkF; split <;> (try split) <;> simp
theorem own_slice4 {w : World} {base : Nat} {e : TypeId} {size : Nat} {v : Value} {n : Nat} {xs : List Value} (h : w.ownsRow base e size v n xs) : ∃ A c, v = .slice A n c := by
  rcases h.2 with ⟨rfl, h0⟩ | ⟨g, cap, cur, rfl, _⟩
  · exact ⟨none, 0, by rw [h0]⟩
  · exact ⟨_, _, rfl⟩
theorem frame_info : (Try.prog.info? 30).map (fun i => (i.zero, i.size, i.bytes)) = some (some (.agg #[.string .empty, .int .i64 0, .string .empty, .bool false]), 4, 48) := by kernel_rfl
theorem cell_four_new (W : World) (x0 x1 x2 x3 : Value) (t : TypeId) : ∀ (j : Nat) (u : Value), [x0, x1, x2, x3][j]? = some u → (W.alloc (.cells #[x0, x1, x2, x3] t)).cell? ((⟨W.heap.size, 0, none⟩ : Addr).add j) = some u := by
  intro j u hj
  have hb := Blk.new W t #[x0, x1, x2, x3]
  have := hb.cell j
  rw [Addr.add_mid, Nat.zero_add, this]
  simpa using hj
/-- what is carried from call to call -/
structure Car (w W : World) (b : Nat) (t : TypeId) (cs : Array Value) : Prop where
  below : Below w.heap.size w W
  blk : Blk W b t cs
theorem Car.step {w W W' : World} {b : Nat} {t : TypeId} {cs : Array Value} (h : Car w W b t cs) (hb : Below W.heap.size W W') : Car w W' b t cs := ⟨h.below.trans (hb.mono h.below.size), h.blk.below hb h.blk.lt⟩
structure CarR (W : World) (B size : Nat) (A : Option Addr) (n : Nat) (xs : List Value) : Prop where
  le : B ≤ W.heap.size
  reads : Reads W B size A n xs
theorem CarR.step {W W' : World} {B size : Nat} {A : Option Addr} {n : Nat} {xs : List Value} (h : CarR W B size A n xs) (hb : Below W.heap.size W W') : CarR W' B size A n xs := ⟨Nat.le_trans h.le hb.size, h.reads.below (hb.mono h.le)⟩
theorem Below.then {w W W' : World} (h : Below w.heap.size w W) (k : Below W.heap.size W W') : Below w.heap.size w W' := h.trans (k.mono h.size)
theorem Below.then_grown {w W W' : World} (h : Below w.heap.size w W) (k : W.grownBy W' none) : Below w.heap.size w W' := Below.then h (below_of_grown k)
theorem reads_blkN {w : World} {b B : Nat} {t : TypeId} {cs : Array Value} (h : Blk w b t cs) (hB : b < B) (n size : Nat) (hn : cs.size = n * size) : Reads w B size (some ⟨b, 0, none⟩) n cs.toList := by
  refine ⟨by simp [hn], fun _ => ⟨⟨b, 0, none⟩, rfl, hB, fun j u hu => ?_⟩⟩
  have e : (⟨b, 0, none⟩ : Addr).add j = ⟨b, j, none⟩ := by
    unfold Addr.add
    by_cases hj : j = 0
    · subst hj; simp
    · simp [hj]
  rw [e, h.cell]
  simpa using hu
theorem frames_cells (xs : List Frm) : ∀ u ∈ framesV xs, u.oneCell' = true := by
  intro u hu
  unfold framesV at hu
  obtain ⟨f, _, hu⟩ := List.mem_flatMap.1 hu
  simp only [Frm.cells, List.mem_cons, List.not_mem_nil, or_false] at hu
  rcases hu with rfl | rfl | rfl | rfl <;> rfl
theorem framesV_append (xs ys : List Frm) : framesV (xs ++ ys) = framesV xs ++ framesV ys := List.flatMap_append
theorem own_emptyF (w : World) : (w.alloc (.cells #[] 30)).ownsRow w.heap.size 30 4 (.slice (some ⟨w.heap.size, 0, none⟩) 0 0) 0 [] :=
  ⟨rfl, .inr ⟨w.heap.size, 0, #[], rfl, Nat.le_refl _, heap_alloc_new w _, Nat.le_refl _, by simp only [maxLen]; omega, rfl, rfl⟩⟩
theorem only_weak {a w : World} (h : a.grownBy w none) (row : Option Nat) : a.grownBy w row := ⟨h.os, h.tape, h.output, h.size, fun i hi _ => h.block i hi (by simp)⟩
theorem own_cap {w : World} {base : Nat} {e : TypeId} {size : Nat} {A : Option Addr} {c k : Nat} {xs : List Value} (h : w.ownsRow base e size (.slice A k c) k xs) : k ≤ c := by
  rcases h.2 with ⟨hv, hk⟩ | ⟨g, cap, cur, hv, _, _, hn, _⟩
  · injection hv; omega
  · injection hv; omega
theorem ownsRow_below {w w' : World} {base : Nat} {e : TypeId} {size : Nat} {v : Value} {k : Nat} {xs : List Value} (h : w.ownsRow base e size v k xs) (hb : Below w.heap.size w w') : w'.ownsRow base e size v k xs := by
  refine h.kept (only_of_below hb none) ?_
  rcases h.2 with ⟨rfl, _⟩ | ⟨g, cap, cur, rfl, _⟩
  · exact .inl rfl
  · exact .inr (by simp [Value.ownBlock])

/-! loads in a region that draws, over a class of worlds -/
section
variable {P : Program} {ops : Array Oper} {C : World → Prop} {Q : Act → Prop} {a : Act} {o : Oper} {rest : List Oper}
theorem exec_load1 {W : World} (ty : TypeId) (x : Operand) (ho : o.op = .load ty x) (p : Addr) (hx : a.eval x = .pointer (some p)) (v : Value) (d : TypeDesc)
    (hu : P.underlying ty = some d) (hd : (match d with | .struct _ | .array _ _ => true | _ => false) = false) (hc : W.cell? p = some v) : (execOp a.eval o).run P W = .ok (.value v) W := by
  unfold execOp
  simp only [ho, hx, Instr.loadAt, Instr.sureAddr, Sem.run_bind, Sem.run_pure, Result.andThen_ok, load_cell hu hd hc]
theorem wpQuiet_load (v : Value) (ty : TypeId) (x : Operand) (p : Addr) (d : TypeDesc) (ho : o.op = .load ty x) (hw : Region.wanted o (yielded ops a.tmps) = true) (hx : a.eval x = .pointer (some p))
    (hu : P.underlying ty = some d) (hd : (match d with | .struct _ | .array _ _ => true | _ => false) = false) (hc : ∀ W, C W → W.cell? p = some v) (hk : wpQuiet P ops C Q rest (a.put o.dst v)) : wpQuiet P ops C Q (o :: rest) a :=
  wpQuiet_value hw v (fun W hW => exec_load1 ty x ho p hx v d hu hd (hc W hW)) hk
theorem wpQuiet_loadrow (cs : Array Value) (ty : TypeId) (x : Operand) (g : Nat) (d : TypeDesc) (ho : o.op = .load ty x) (hw : Region.wanted o (yielded ops a.tmps) = true) (hx : a.eval x = .pointer (some ⟨g, 0, none⟩))
    (hu : P.underlying ty = some d) (hd : (match d with | .struct _ | .array _ _ => true | _ => false) = true) (hi : (P.info? ty).map (·.size) = some cs.size) (hc : ∀ W, C W → Blk W g ty cs) (hk : wpQuiet P ops C Q rest (a.put o.dst (.agg cs))) : wpQuiet P ops C Q (o :: rest) a :=
  wpQuiet_value hw (.agg cs) (fun W hW => exec_load_row ty x ho g hx ty cs d (hc W hW) hu hd hi) hk
end
theorem exec_load4 {W : World} {a : Act} {o : Oper} {b off : Nat} {x0 x1 x2 x3 : Value} (x : Operand) (ho : o.op = .load 30 x) (hx : a.eval x = .pointer (some ⟨b, off, none⟩))
    (c0 : W.cell? ⟨b, off, none⟩ = some x0) (c1 : W.cell? ⟨b, off + 1, none⟩ = some x1) (c2 : W.cell? ⟨b, off + 2, none⟩ = some x2) (c3 : W.cell? ⟨b, off + 3, none⟩ = some x3) :
    (execOp a.eval o).run Try.prog W = .ok (.value (.agg #[x0, x1, x2, x3])) W := by
  have hagg := Try.isAgg30
  have hsz := Try.sizeOf30
  unfold execOp
  simp only [ho, hx]
  simp [go_sem, c0, c1, c2, c3, hagg, hsz]
end Go.Proofs.Ytdkijdedfpfbnaa
