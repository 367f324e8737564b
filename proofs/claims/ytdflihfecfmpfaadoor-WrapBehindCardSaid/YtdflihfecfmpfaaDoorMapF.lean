/- A map of two entries that a call makes itself, whose keys are numbers: made, looked up. Of whatever program. -/
import Derived.Test.YtdflihfecfmpfaaDoorKeep
import Derived.MapKept
import Derived.RangeFuncRecord
namespace Go.Proofs.YtdflihfecfmpfaaDoor
open Go.RowKit Go.Shelf
set_option linter.unusedVariables false
set_option linter.unusedSimpArgs false
section
variable {P : Program}
theorem run_mapPut {mty kt et : TypeId} {d : TypeDesc} {r clock : Nat} {es : Array MapEntry} {key val : Value} {w : World} (hm : P.underlying mty = some (.map kt et)) (hk : P.underlying kt = some d) (hkey : MapKept.IsKey d key) (hb : w.heap[r]? = some (.map es clock)) (hf : Instr.findNow d key es.toList 0 = some none) :
    (Instr.mapUpdate mty (.map (some r)) key val).run P w = .ok () (w.putObj r (.map (es.push { key := key, val := val, born := clock }) (clock + 1))) := by
  have hc : (Instr.checkKey false 10000 kt key).run P w = .ok () w := MapKept.run_checkKey hk hkey false 9999
  simp [Instr.mapUpdate, run_underlying hm, MapKept.run_getObj_map hb, hc, MapKept.run_findKey hk hf, MapKept.run_setObj_map _ hb, Result.andThen, World.putObj]
theorem run_mapGet {mty kt et : TypeId} {d : TypeDesc} {r clock i : Nat} {es : Array MapEntry} {key val : Value} {w : World} (hm : P.underlying mty = some (.map kt et)) (hk : P.underlying kt = some d) (hkey : MapKept.IsKey d key) (hb : w.heap[r]? = some (.map es clock)) (hf : Instr.findNow d key es.toList 0 = some (some (i, val))) :
    (Instr.lookup mty (.map (some r)) key false).run P w = .ok val w := by
  have hc : (Instr.checkKey es.isEmpty 10000 kt key).run P w = .ok () w := MapKept.run_checkKey hk hkey _ 9999
  simp [Instr.lookup, run_underlying hm, MapKept.run_getObj_map hb, hc, MapKept.run_findKey hk hf, Result.andThen]
/-- a map of two -/
theorem map_two {mty kt et : TypeId} (hm : P.underlying mty = some (.map kt et)) (hk : P.underlying kt = some (.int .i64)) (p q : Int) (hpq : p ≠ q) (f g : Value) (w : World) : ∃ w2 w3,
    (Instr.mapUpdate mty (.map (some w.heap.size)) (.int .i64 p) f).run P (w.alloc (.map #[] 0)) = .ok () w2 ∧ (Instr.mapUpdate mty (.map (some w.heap.size)) (.int .i64 q) g).run P w2 = .ok () w3 ∧
    Below w.heap.size w w3 ∧ w3.heap.size = w.heap.size + 1 ∧ (∀ V : World, V.heap[w.heap.size]? = w3.heap[w.heap.size]? → (Instr.lookup mty (.map (some w.heap.size)) (.int .i64 p) false).run P V = .ok f V ∧ (Instr.lookup mty (.map (some w.heap.size)) (.int .i64 q) false).run P V = .ok g V) := by
  have h1 : (w.alloc (.map #[] 0)).heap[w.heap.size]? = some (.map #[] 0) := World.alloc_heap_new w _
  have hz1 : (w.alloc (.map #[] 0)).heap.size = w.heap.size + 1 := by simp
  have e1 := run_mapPut (val := f) hm hk (key := .int .i64 p) (by simp [MapKept.IsKey]) h1 rfl
  have hb1 : Below w.heap.size w (w.alloc (.map #[] 0)) := (Below.refl _ w).alloc (Nat.le_refl _) _
  generalize w.alloc (.map #[] 0) = w1 at *
  obtain ⟨w2, hw2⟩ : ∃ w2, w1.putObj w.heap.size (.map ((#[] : Array MapEntry).push { key := .int .i64 p, val := f, born := 0 }) (0 + 1)) = w2 := ⟨_, rfl⟩
  rw [hw2] at e1
  have h2 : w2.heap[w.heap.size]? = some (.map ((#[] : Array MapEntry).push { key := .int .i64 p, val := f, born := 0 }) (0 + 1)) := by rw [← hw2]; exact World.putObj_heap_same (by omega)
  have n1 : Instr.findNow (.int .i64) (.int .i64 q) ((#[] : Array MapEntry).push { key := .int .i64 p, val := f, born := 0 }).toList 0 = some none := by
    have : (q == p) = false := by rw [beq_eq_false_iff_ne]; exact fun e => hpq e.symm
    simp [Instr.findNow, Instr.sameNow, this]
  have e2 := run_mapPut (val := g) hm hk (key := .int .i64 q) (by simp [MapKept.IsKey]) h2 n1
  obtain ⟨w3, hw3⟩ : ∃ w3, w2.putObj w.heap.size (.map (((#[] : Array MapEntry).push { key := .int .i64 p, val := f, born := 0 }).push { key := .int .i64 q, val := g, born := 0 + 1 }) (0 + 1 + 1)) = w3 := ⟨_, rfl⟩
  rw [hw3] at e2
  have hz2 : w2.heap.size = w.heap.size + 1 := by rw [← hw2, ← hz1]; simp [World.putObj]
  have h3 : w3.heap[w.heap.size]? = some (.map (((#[] : Array MapEntry).push { key := .int .i64 p, val := f, born := 0 }).push { key := .int .i64 q, val := g, born := 0 + 1 }) (0 + 1 + 1)) := by rw [← hw3]; exact World.putObj_heap_same (by omega)
  refine ⟨w2, w3, e1, e2, ?_, by rw [← hw3, ← hz2]; simp [World.putObj], fun V hV => ?_⟩
  · have k1 : Below w.heap.size w1 w2 := by
      rw [← hw2]; exact ⟨rfl, rfl, rfl, by simp [World.putObj], fun k hk => World.putObj_heap_other (by omega)⟩
    have k2 : Below w.heap.size w2 w3 := by
      rw [← hw3]; exact ⟨rfl, rfl, rfl, by simp [World.putObj], fun k hk => World.putObj_heap_other (by omega)⟩
    exact (hb1.trans k1).trans k2
  · have hV := hV.trans h3
    refine ⟨run_mapGet (i := 0) hm hk (by simp [MapKept.IsKey]) hV ?_, run_mapGet (i := 1) hm hk (by simp [MapKept.IsKey]) hV ?_⟩
    · simp [Instr.findNow, Instr.sameNow]
    · have : (q == p) = false := by rw [beq_eq_false_iff_ne]; exact fun e => hpq e.symm
      simp [Instr.findNow, Instr.sameNow, this]
end
end Go.Proofs.YtdflihfecfmpfaaDoor
