/- strings.Builder: WriteByte, of a builder that a call has made itself. -/
import Derived.Test.YtdflihfecfmpfaaDoorBuilder
import Derived.Test.YtdflihfecfmpfaaDoorBytes
namespace Go.Proofs.YtdflihfecfmpfaaDoor
open Go.RowKit Go.Shelf
set_option linter.unusedVariables false
set_option linter.unusedSimpArgs false

set_option maxRecDepth 100000 in
set_option maxHeartbeats 1000000 in
theorem writeByte_any (B b : Nat) (l : List UInt8) (c : UInt8) (w : World) (h : Lib.IsBuilder 40 5 B b (Lib.byteCells l) w) (hlen : l.length + 1 ≤ 140737488355328) (hBw : B ≤ w.heap.size) :
    Calls Tryd.prog 18 #[.pointer (some ⟨b, 0, none⟩), .int .u8 (c.toNat : Int)] w fun e w' => e = .returned .nilIface ∧ (Lib.IsBuilder 40 5 B b (Lib.byteCells (l ++ [c])) w' ∧ Below B w w') := by
  obtain ⟨i0, z0, hi, hz0, hz1, hz2, hz3⟩ := byte_info
  have hcl : (Lib.byteCells l).length = l.length := by simp [Lib.byteCells]
  go_enter Tryd.func18, Tryd.ntmps18
  go_wp2_with fail
  refine (copyCheck_any B b _ _ h).mono ?_
  rintro e w1 ⟨rfl, h1, hb1⟩
  obtain ⟨hB, v, hbk, hown, hne⟩ := h1
  have c0 : w1.cell? ⟨b, 0, none⟩ = some (.pointer (some ⟨b, 0, none⟩)) := by rw [Lib.cell_of_heap hbk]; rfl
  have c1 : w1.cell? ⟨b, 1, none⟩ = some v := by rw [Lib.cell_of_heap hbk]; rfl
  have hlt : b < w1.heap.size := by
    rcases Nat.lt_or_ge b w1.heap.size with h' | h'
    · exact h'
    · simp [Array.getElem?_eq_none h'] at hbk
  have hs1 := hb1.size
  rw [hcl] at hown
  go_wp2_with (at_builtin; refine wpList_append_own _ rfl _ _ 38 rfl B 5 i0 z0 1 1 Tryd.underlying38 hi hz0 hz1 hz2 hz3 (by decide) _ _ _ rfl (hown.alloc _) ⟨w1.heap.size, 0, none⟩ 1 1 [.int .u8 (c.toNat : Int)] rfl rfl (cell_one_new _ _ _) (by simp [Value.oneCell']) (by simp only [maxLen]; omega) (by omega) (by simp; omega) ?_; intro v' w2 hown' hgrow _; obtain ⟨g', cap', rfl⟩ := ownsRow_succ hown'; have hb2 : w2.heap[b]? = some (.cells #[.pointer (some ⟨b, 0, none⟩), v] 40 (0, 0)) := (hgrow.block b (by simp; omega) (fun e => hne e.symm)).trans ((Below.heap_alloc _ _ _ hlt).trans hbk); have d1 : w2.cell? ⟨b, 1, none⟩ = some v := (Lib.cell_of_heap hb2 1).trans rfl; have f1 : w2.frozen? ⟨b, 1, none⟩ = false := Lib.frozen_of_heap hb2 1)
  have hbw : Below B w w2 := (hb1.alloc (by omega) _).grown hgrow (by simp; omega) (fun k hk => (hown.lt k hk).1)
  clear hgrow hb1
  go_wp2
  go_ret
  refine ⟨rfl, .inr ?_, hbw.setCell (p := ⟨b, 1, none⟩) hB _⟩
  refine Lib.BuilderAt.put hB hb2 (bs' := Lib.byteCells (l ++ [c])) ?_ (by decide)
  have e1 : Lib.byteCells (l ++ [c]) = Lib.byteCells l ++ [.int .u8 (c.toNat : Int)] := by rw [byteCells_append]; rfl
  have e2 : (Lib.byteCells (l ++ [c])).length = l.length + 1 := by simp [Lib.byteCells]
  rw [e2, e1]
  exact hown'
end Go.Proofs.YtdflihfecfmpfaaDoor
