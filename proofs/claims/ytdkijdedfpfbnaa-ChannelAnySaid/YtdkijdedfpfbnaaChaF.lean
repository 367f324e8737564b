/- slices.Clone and slices.Insert of frames, the library's own text. -/
import Derived.Test.YtdkijdedfpfbnaaChaE
import Derived.Test.YtdkijdedfpfbnaaRow
import Derived.Lib.AppendZerosOnto
import Derived.Lib.Overlaps
import Derived.Lib.SliceRun
import Derived.Laws.IdiomCopy
import Derived.Laws.NewBlocks
import Derived.Deep.RegionLaw
namespace Go.Proofs.Ytdkijdedfpfbnaa
open Go.RowKit Go.Shelf

section
variable {P : Program}
theorem run_copy_cellsN (w : World) (dT sT ty elem : TypeId) (size b o dLen dCap : Nat) (a : Addr) (sLen sCap : Nat) (cs : List Value)
    (hu : P.underlying dT = some (.slice elem)) (hs : (P.info? elem).map (·.size) = some size) (hn : cs.length = Nat.min sLen dLen * size)
    (hsrc : ∀ j v, cs[j]? = some v → w.cell? (a.add j) = some v) (hc : ∀ j, j < cs.length → (w.cell? ⟨b, o + j, none⟩).isSome = true) (hf : ∀ j, j < cs.length → w.frozen? ⟨b, o + j, none⟩ = false) (h1 : ∀ v ∈ cs, v.oneCell' = true) :
    (Builtin.copy_ #[dT, sT] ty #[.slice (some ⟨b, o, none⟩) dLen dCap, .slice (some a) sLen sCap]).run P w = .ok (goInt (Nat.min sLen dLen)) (w.setCells b o cs) := by
  have hl := run_loadCells_list (P := P) w a cs hsrc
  have hst := run_storeCells_cells (P := P) b o cs 0 w (by simpa using hc) (by simpa using hf) h1
  cases hq : P.info? elem with
  | none => simp [hq] at hs
  | some i =>
    have hi : i.size = size := by simpa [hq] using hs
    simp [Builtin.copy_, run_underlying hu, Builtin.lenOf, Builtin.firstCells, sizeOf, typeInfo, hq, hi, ← hn, hl, hst]
theorem wp_copy_runI (w : World) {o : Oper} {a : Act} {K : Act → World → Prop} {Q : Exit → Act → World → Prop} (d s : Operand) (t t' : TypeId)
    (ho : o.op = .call { callee := .builtin .copy, args := #[d, s], argTypes := #[t, t'] }) (v u : Value) (hd : a.eval d = v) (hs : a.eval s = u) {v' : Value} {w' : World}
    (hr : (Builtin.copy_ #[t, t'] o.type #[v, u]).run P w = .ok v' w') (h : K (a.put o.dst v') w') : o.wp P a w K Q := by
  unfold Oper.wp execOp
  simp only [ho, resolve, invoke, builtin, Sem.run_bind, Sem.run_pure, Result.andThen_ok, List.map_toArray, List.map_cons, List.map_nil, hd, hs, hr]
  exact h
theorem wpList_copy_runI (w : World) {ops : Array Oper} {rest : List Oper} {o : Oper} {a : Act} {Q : Exit → Act → World → Prop} (hgd : o.guard = none) (d s : Operand) (t t' : TypeId)
    (ho : o.op = .call { callee := .builtin .copy, args := #[d, s], argTypes := #[t, t'] }) (v u : Value) (hd : a.eval d = v) (hs : a.eval s = u) {v' : Value} {w' : World}
    (hr : (Builtin.copy_ #[t, t'] o.type #[v, u]).run P w = .ok v' w') (h : wpList P ops Q rest (a.put o.dst v') w') : wpList P ops Q (o :: rest) a w :=
  wpList_plain hgd fun _ hK => wp_copy_runI w d s t t' ho v u hd hs hr (hK _ _ h)
theorem step_copy_runI {ops : Array Oper} {o : Oper} {a : Act} {w : World} {K : Act → World → Prop} {Q : Exit → Act → World → Prop} {E : Prop}
    (hg : o.guard = none) (d x : Operand) (dT sT : TypeId) (hop : o.op = Op.call { callee := Callee.builtin Builtin.copy, args := #[d, x], argTypes := #[dT, sT] })
    (v u : Value) (hd : a.eval d = v) (hx : a.eval x = u) {v' : Value} {w' : World} (hr : (Builtin.copy_ #[dT, sT] o.type #[v, u]).run P w = .ok v' w') (hK : K (a.put o.dst v') w') :
    if Region.wanted o (yielded ops a.tmps) = true then Oper.wp P o a w K Q else E := by
  have hw : Region.wanted o (yielded ops a.tmps) = true := by simp [Region.wanted, hg]
  rw [if_pos hw]
  unfold Oper.wp
  simp [execOp, hop, resolve, invoke, builtin, hd, hx, hr, Result.andThen]
  exact hK
end

set_option maxRecDepth 100000 in
set_option maxHeartbeats 1000000 in
theorem clone_any (B : Nat) (A : Option Addr) (n c : Nat) (xs : List Frm) (w : World) (hB : B ≤ w.heap.size) (h : Reads w B 4 A n (framesV xs)) (hn : n ≤ 1000000) :
    Calls Try.prog 27 #[.slice A n c] w fun e w' => ∃ A' c', e = .returned (.slice A' n c') ∧ w'.ownsRow w.heap.size 30 4 (.slice A' n c') n (framesV xs) ∧ w.grownBy w' none := by
  obtain ⟨i0, hi, hz0, hz1, hz2⟩ := info_parts frame_info
  have heq := fun W => Lib.run_eql_slice_nil (P := Try.prog) W 23 30 A n c 0 0 Try.underlying23
  go_enter Try.func27, Try.ntmps27
  cases A with
  | none =>
    have hn0 : n = 0 := by
      rcases Nat.eq_zero_or_pos n with h0 | h0
      · exact h0
      · obtain ⟨ad, h, _⟩ := h.2 h0; cases h
    subst hn0
    have hx : framesV xs = [] := List.eq_nil_of_length_eq_zero (by have := h.1; simpa using this)
    have HX := Lib.hid hx
    clear hx
    go_wp2_with fail
    go_ret
    exact ⟨none, 0, rfl, by rw [HX.out]; exact World.ownsRow_nil _ _ _ _, World.grownBy.refl _ _⟩
  | some ad =>
    have o1 := own_emptyF w
    have hr2 := h.alloc hB (.cells #[] 30)
    go_wp2_with (at_builtin; refine wpList_append_any _ rfl _ _ 23 rfl w.heap.size 30 i0 (.agg #[.string .empty, .int .i64 0, .string .empty, .bool false]) 4 48 Try.underlying23 hi hz0 hz1 hz2 rfl (by decide) _ _ _ rfl o1 B (some ad) n c (framesV xs) rfl hr2 (frames_cells xs) (by simp only [maxLen]; omega) (by omega) (by simp) ?_; intro v3 w3 hown3 hgrow3 _; refine veiled ?_)
    refine ⟨?_⟩
    have hg3 : w.grownBy w3 none := grown_self (only_alloc (World.grownBy.refl w none) _) hgrow3 (fun k hk => .inr (own_ge o1 hk))
    rw [List.nil_append, Nat.zero_add] at hown3
    obtain ⟨A3, c3, rfl⟩ := own_slice4 hown3
    clear o1 hr2 hgrow3
    go_wp2_with fail
    go_ret
    exact ⟨A3, c3, rfl, hown3, hg3⟩
end Go.Proofs.Ytdkijdedfpfbnaa
