/- A slice of bools that came in, as 'Reads'. -/
import Derived.Test.YtdeeclmmfhppgaaOpen
import Derived.Deep.Grids
namespace Go.Proofs.Ytdeeclmmfhppgaa
open Go.ChangeShapes Go.WideShapes Go.RowKit Go.Deep
variable {H : Type} {enc : TypeId × Value → H} {P : Program} {w : World} {base : Nat} {held : Bool}

theorem reads_of_bools {t e : TypeId} {fuel : Nat} {v : Value} {x : DataW H × List MemPlace} (ht : P.underlying t = some (.slice e)) (he : P.underlying e = some .bool) (hc : P.cellsOf e = 1)
    (h : DataW.trod enc P w base (fun _ => true) held fuel t [v] = some x) :
    ∃ (A : Option Addr) (n c : Nat) (xs : List Bool), v = .slice A n c ∧ Reads w w.heap.size 1 A n (xs.map Value.bool) ∧ n ≤ maxLen ∧ xs.length = n ∧ n ≤ c := by
  rcases open_bools ht he hc h with ⟨hcs, _⟩ | ⟨a, len, cap, B, hcs, _, hl, hm, _, hcell⟩
  · simp only [List.cons.injEq, and_true] at hcs
    exact ⟨none, 0, 0, [], hcs, Reads.none_, by simp [maxLen], rfl, by omega⟩
  · simp only [List.cons.injEq, and_true] at hcs
    refine ⟨some a, len, cap, (List.range len).map B, hcs, ⟨by simp, fun hn => ⟨a, rfl, ?_, fun j u hu => ?_⟩⟩, by omega, by simp, hl⟩
    · have := World.block_lt_of_cell? w _ (hcell 0 (by omega))
      rwa [block_of_add] at this
    · rw [List.getElem?_map, List.getElem?_map, Option.map_map] at hu
      have hj : j < len := by
        rcases Nat.lt_or_ge j len with hj | hj
        · exact hj
        · rw [List.getElem?_eq_none (by simpa using hj)] at hu; cases hu
      rw [List.getElem?_range hj] at hu
      have := hcell j (by omega)
      simp at hu
      subst hu
      simpa using this
end Go.Proofs.Ytdeeclmmfhppgaa
