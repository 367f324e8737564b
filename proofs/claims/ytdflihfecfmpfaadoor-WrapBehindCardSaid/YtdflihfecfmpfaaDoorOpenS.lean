/- A slice of strings that came in, as 'Reads'; a word that came in. -/
import Derived.Test.YtdflihfecfmpfaaDoorOpen
import Derived.Deep.Strs
namespace Go.Proofs.YtdflihfecfmpfaaDoor
open Go.ChangeShapes Go.WideShapes Go.ChangeAt Go.RowKit Go.Deep Go.Joins
set_option linter.constructorNameAsVariable false
section
variable {H : Type} {enc : TypeId × Value → H} {P : Program} {w : World} {base : Nat} {held : Bool}
theorem reads_of_strs {t e : TypeId} {fuel : Nat} {v : Value} {x : DataW H × List MemPlace} (ht : P.underlying t = some (.slice e)) (he : P.underlying e = some .string) (hc : P.cellsOf e = 1)
    (h : DataW.trod enc P w base (fun _ => true) held fuel t [v] = some x) :
    ∃ (A : Option Addr) (n c : Nat) (xs : List ByteArray), v = .slice A n c ∧ Reads w w.heap.size 1 A n (xs.map Value.string) ∧ (∀ x ∈ xs, x.size ≤ 9223372036854775807) ∧ n ≤ 9223372036854775807 ∧ xs.length = n ∧ n ≤ c := by
  rcases open_strs ht he hc h with ⟨hcs, _⟩ | ⟨a, len, cap, m, B, hcs, _, hl, hm, hmm, _, hcell⟩
  · simp only [List.cons.injEq, and_true] at hcs
    exact ⟨none, 0, 0, [], hcs, Reads.none_, by simp, by omega, rfl, by omega⟩
  · simp only [List.cons.injEq, and_true] at hcs
    simp only [if_true] at hmm
    have hmL : maxLen = 9223372036854775807 := by decide
    refine ⟨some a, len, cap, (List.range len).map B, hcs, ⟨by simp, fun hn => ⟨a, rfl, ?_, fun j u hu => ?_⟩⟩, fun x hx => ?_, by omega, by simp, hl⟩
    · have := World.block_lt_of_cell? w _ (hcell 0 (by omega)).1
      rwa [block_of_add] at this
    · rw [List.getElem?_map, List.getElem?_map, Option.map_map] at hu
      have hj : j < len := by
        rcases Nat.lt_or_ge j len with hj | hj
        · exact hj
        · rw [List.getElem?_eq_none (by simpa using hj)] at hu; cases hu
      rw [List.getElem?_range hj] at hu
      have := (hcell j (by omega)).1
      simp at hu
      subst hu
      simpa using this
    · obtain ⟨i, hi, rfl⟩ := List.mem_map.1 hx
      have := (hcell i (by have := List.mem_range.1 hi; omega)).2
      omega
end
section
variable {H : Type} {enc : TypeId × Value → H} {w : World} {base : Nat} {held : Bool}
theorem open_word {r : Reach} {b0 : Nat} {v : Value} {d : DataW H} {ps : List MemPlace} {spare : Nat → Bool} (hval : Value.okWide Tryd.prog w r b0 93 v) (hd : DataW.Trod enc Tryd.prog w base spare held 93 v d ps) :
    ∃ a0 a1 a2 a3 : Nat, a0 < 18446744073709551616 ∧ a1 < 18446744073709551616 ∧ a2 < 18446744073709551616 ∧ a3 < 18446744073709551616 ∧ v = .agg #[.int .u64 (a0 : Int), .int .u64 (a1 : Int), .int .u64 (a2 : Int), .int .u64 (a3 : Int)] := by
  have ht := Tryd.underlying93
  have he := Tryd.underlying47
  have hce : Tryd.prog.cellsOf 47 = 1 := by kernel_rfl
  have hct : Tryd.prog.cellsOf 93 = 4 := by kernel_rfl
  simp only [Value.okWide, ht] at hval
  obtain ⟨cs, rfl, hsz, _⟩ := hval
  obtain ⟨fuel, hf⟩ := hd
  obtain ⟨xs, m, _, _, hl, hxl, hat⟩ := DataW.trod_array ht hf
  have hcl : cs.size = 4 := hsz.trans hct
  have key : ∀ i, i < 4 → ∃ x : Nat, x < 18446744073709551616 ∧ cs[i]? = some (.int .u64 (x : Int)) := by
    intro i hi
    have h1 := hat i hi
    have hone : ((Value.agg cs).cells.toList.drop (i * Tryd.prog.cellsOf 47)).take (Tryd.prog.cellsOf 47) = [cs[i]'(by omega)] := by
      rw [hce, Nat.mul_one]
      show (cs.toList.drop i).take 1 = _
      rw [List.drop_eq_getElem_cons (by simp; omega)]
      rfl
    have hx : xs[i]? = some (xs[i]'(by omega)) := List.getElem?_eq_getElem (by omega)
    rw [hone, hx] at h1
    obtain ⟨k, hk, _, hw⟩ := DataW.trod_int he h1
    have hwf := wf_u64 hw
    obtain ⟨z, rfl⟩ := Int.eq_ofNat_of_zero_le hwf.1
    refine ⟨z, by omega, ?_⟩
    rw [Array.getElem?_eq_getElem (by omega)]
    simp only [List.cons.injEq, and_true] at hk
    rw [hk]
  obtain ⟨a0, l0, e0⟩ := key 0 (by omega)
  obtain ⟨a1, l1, e1⟩ := key 1 (by omega)
  obtain ⟨a2, l2, e2⟩ := key 2 (by omega)
  obtain ⟨a3, l3, e3⟩ := key 3 (by omega)
  have hcs : cs = #[.int .u64 (a0 : Int), .int .u64 (a1 : Int), .int .u64 (a2 : Int), .int .u64 (a3 : Int)] := by
    clear key hat l0 l1 l2 l3
    refine Array.ext_getElem? fun i => ?_
    match i with
    | 0 => rw [e0]; rfl
    | 1 => rw [e1]; rfl
    | 2 => rw [e2]; rfl
    | 3 => rw [e3]; rfl
    | i + 4 => rw [Array.getElem?_eq_none (by omega)]; rfl
  exact ⟨a0, a1, a2, a3, l0, l1, l2, l3, by rw [hcs]⟩
end
end Go.Proofs.YtdflihfecfmpfaaDoor
