/- Whole rows of cells, in a walk: built, stored, loaded, returned. Of whatever program. -/
import Derived.Test.YtdkijdedfpfbnaaRound
import Derived.Deep.MidRow
import Derived.Laws.Tables
import Derived.Laws.Rows
import Derived.Great.Ranges
namespace Go.Proofs.Ytdkijdedfpfbnaa
open Go.RowKit Go.Shelf

section
variable {w W a₀ : World} {g g' : Nat} {t : TypeId} {cs cs' : Array Value}
theorem blk_setCells (g : Nat) (t : TypeId) : ∀ (vs : List Value) (o : Nat) (w : World) (cs : Array Value), Blk w g t cs →
    ∃ cs', Blk (w.setCells g o vs) g t cs' ∧ cs'.size = cs.size ∧ ∀ j, j < cs.size → cs'[j]? = if o ≤ j ∧ j < o + vs.length then vs[j - o]? else cs[j]?
  | [], o, w, cs, h => ⟨cs, h, rfl, fun j _ => by rw [if_neg (by simp)]⟩
  | v :: r, o, w, cs, h => by
    obtain ⟨cs', h1, h2, h3⟩ := blk_setCells g t r (o + 1) _ _ (h.set_ o v)
    refine ⟨cs', h1, by simpa using h2, fun j hj => ?_⟩
    rw [h3 j (by simpa using hj)]
    by_cases e : o = j
    · subst e
      rw [if_neg (by omega), if_pos (by simp)]
      simp [hj]
    · by_cases e2 : o + 1 ≤ j ∧ j < o + 1 + r.length
      · rw [if_pos e2, if_pos (by simp; omega)]
        obtain ⟨k, rfl⟩ : ∃ k, j = o + 1 + k := ⟨j - (o + 1), by omega⟩
        rw [show o + 1 + k - (o + 1) = k by omega, show o + 1 + k - o = k + 1 by omega]
        simp
      · rw [if_neg e2, if_neg (by simp; omega)]
        rw [Array.getElem?_setIfInBounds, if_neg e]
theorem Blk.setAll (h : Blk w g t cs) (hs : cs'.size = cs.size) : Blk (w.setCells g 0 cs'.toList) g t cs' := by
  obtain ⟨c, h1, h2, h3⟩ := blk_setCells g t cs'.toList 0 w cs h
  have e : c = cs' := by
    refine Array.ext_getElem? fun j => ?_
    by_cases hj : j < cs.size
    · rw [h3 j hj, if_pos (by simp; omega)]; simp
    · rw [Array.getElem?_eq_none (by omega), Array.getElem?_eq_none (by omega)]
  rwa [e] at h1
theorem Blk.setAll_far (hne : g ≠ g') : ∀ (vs : List Value) (o : Nat) (w : World), Blk w g t cs → Blk (w.setCells g' o vs) g t cs
  | [], _, _, h => h
  | v :: r, o, _, h => Blk.setAll_far hne r (o + 1) _ (h.far (p := ⟨g', o, none⟩) hne v)
theorem only_setCells {row : Option Nat} (hg : row = some g ∨ a₀.heap.size ≤ g) : ∀ (vs : List Value) (o : Nat) (w : World), a₀.grownBy w row → a₀.grownBy (w.setCells g o vs) row
  | [], _, _, h => h
  | v :: r, o, _, h => only_setCells hg r (o + 1) _ ⟨h.os, h.tape, h.output, by simpa [World.setCell] using h.size, fun i hi hne => (Below.heap_setCell _ ⟨g, o, none⟩ v i (by
      rintro rfl
      rcases hg with hg | hg
      · exact hne hg.symm
      · exact absurd hi (by simpa using hg))).trans (h.block i hi hne)⟩
theorem size_setCells_ (g : Nat) : ∀ (vs : List Value) (o : Nat) (w : World), (w.setCells g o vs).heap.size = w.heap.size
  | [], _, _ => rfl
  | v :: r, o, w => by rw [World.setCells, size_setCells_ g r]; simp [World.setCell]
theorem obj_setCells (hne : g' ≠ g) : ∀ (vs : List Value) (o : Nat) (w : World), (w.setCells g o vs).heap[g']? = w.heap[g']?
  | [], _, _ => rfl
  | v :: r, o, w => by rw [World.setCells, obj_setCells hne r]; exact heap_setCell_other _ _ _ _ hne
theorem there_blk (h : Blk w g t cs) : w.there g 0 cs.size := fun j hj => ⟨by rw [h.cell]; simp; omega, h.frozen _⟩
theorem there_blk' (h : Blk w g t cs) {n : Nat} (hn : n = cs.size) : w.there g 0 n := hn ▸ there_blk h
end

section
variable {P : Program}
theorem wpList_build {ops : Array Oper} {rest : List Oper} {o : Oper} {a : Act} {w : World} {Q : Exit → Act → World → Prop} (hgd : o.guard = none) (t : TypeId) (parts : Array (Nat × Operand)) (cells : Array Value) (ho : o.op = .build t parts)
    (hf : P.built t (parts.map fun (i, x) => (i, a.eval x)).toList = some cells)
    (h : wpList P ops Q rest (a.put o.dst (.agg cells)) w) : wpList P ops Q (o :: rest) a w :=
  wpList_plain hgd fun _ hK => wp_build t parts ho (by rw [hf]; rfl) (by rw [hf]; exact hK _ _ h)

theorem run_index_arr (w : World) (t e : TypeId) (n : Nat) (cs : Array Value) (k : Nat) (v : Value) (d : TypeDesc) (hu : P.underlying t = some (.array n e)) (hk : k < n) (hs : (P.info? e).map (·.size) = some 1)
    (hd : P.underlying e = some d) (hnd : d.isRow = false) (hv : cs[k]? = some v) : (Instr.index t (.agg cs) (.int .i64 (k : Int))).run P w = .ok v w := by
  cases hq : P.info? e with
  | none => simp [hq] at hs
  | some i =>
    have hs' : i.size = 1 := by simpa [hq] using hs
    have hagg : (isAgg e).run P w = .ok false w := by
      unfold isAgg
      rw [Sem.run_bind, run_underlying hd w]
      cases d <;> simp_all
    simp [Instr.index, asIntOf, run_underlying hu, hk, sizeOf, typeInfo, hq, hs', part, hagg, hv]
theorem wpList_index {ops : Array Oper} {rest : List Oper} {o : Oper} {a : Act} {w : World} {Q : Exit → Act → World → Prop} (hgd : o.guard = none) (t e : TypeId) (n : Nat) (x y : Operand) (ho : o.op = .index t x y)
    (cs : Array Value) (k : Nat) (v : Value) (d : TypeDesc) (hx : a.eval x = .agg cs) (hy : a.eval y = .int .i64 (k : Int)) (hu : P.underlying t = some (.array n e)) (hk : k < n) (hs : (P.info? e).map (·.size) = some 1)
    (hd : P.underlying e = some d) (hnd : d.isRow = false) (hv : cs[k]? = some v)
    (h : wpList P ops Q rest (a.put o.dst v) w) : wpList P ops Q (o :: rest) a w :=
  wpList_plain hgd fun _ hK => by
    unfold Oper.wp execOp
    simp only [ho, hx, hy, Sem.run_bind, run_index_arr w t e n cs k v d hu hk hs hd hnd hv, Result.andThen_ok]
    exact hK _ _ h

/-- a region without a draw, in a round -/
theorem wpIn_list_round {n r id : Nat} {Q : Exit → Act → World → Prop} {a : Act} {w : World} {l : List Oper} (hd : noDefer l = true) (hQ : ∀ a w, ¬ Q .outgrown a w)
    (h : wpList P l.toArray Q l a w) : (Code.region id l.toArray false).wpIn (Fence.wide.inRound r) n P Q a w :=
  wpIn_region (wpOpsIn_round (by simpa using hd) hQ _ _ _ (by
    rw [List.range_eq_range', ← Array.length_toList, wpOps_eq_wpList l.toArray.toList 0 (by simp)]; simpa using h))
theorem wpIn_list {n id : Nat} {Q : Exit → Act → World → Prop} {a : Act} {w : World} {l : List Oper}
    (h : wpList P l.toArray Q l a w) : (Code.region id l.toArray false).wpIn Fence.wide n P Q a w := wpIn_wide.2 (wp_region_lit h)
end
end Go.Proofs.Ytdkijdedfpfbnaa
