/- An array of 64-bit numbers that came in, as lanes. -/
import Derived.Test.YtihkbhogapopdaaKecV
import Derived.Test.YtihkbhogapopdaaOpen
namespace Go.Proofs.Ytihkbhogapopdaa
open Go.ChangeShapes Go.WideShapes Go.ChangeAt Go.RowKit Go.Deep Go.Joins
section
variable {H : Type} {enc : TypeId × Value → H} {P : Program} {w : World} {base : Nat} {spare : Nat → Bool} {held : Bool}
theorem open_u64s {r : Reach} {b0 n : Nat} {t e : TypeId} {v : Value} {d : DataW H} {ps : List MemPlace} (ht : P.underlying t = some (.array n e)) (he : P.underlying e = some (.int .u64)) (hce : P.cellsOf e = 1) (hct : P.cellsOf t = n)
    (hval : Value.okWide P w r b0 t v) (hd : DataW.Trod enc P w base spare held t v d ps) : ∃ xs : List (BitVec 64), xs.length = n ∧ v = .agg (xs.map u64v).toArray := by
  simp only [Value.okWide, ht] at hval
  obtain ⟨cs, rfl, hsz, _⟩ := hval
  obtain ⟨fuel, hf⟩ := hd
  obtain ⟨xs, m, _, _, hl, hxl, hat⟩ := DataW.trod_array ht hf
  have hcl : cs.size = n := hsz.trans hct
  have key : ∀ i, i < n → ∃ x : BitVec 64, cs[i]? = some (u64v x) := by
    intro i hi
    have h1 := hat i hi
    have hone : ((Value.agg cs).cells.toList.drop (i * P.cellsOf e)).take (P.cellsOf e) = [cs[i]'(by omega)] := by
      rw [hce, Nat.mul_one]
      show (cs.toList.drop i).take 1 = _
      rw [List.drop_eq_getElem_cons (by simp; omega)]
      rfl
    have hx : xs[i]? = some (xs[i]'(by omega)) := List.getElem?_eq_getElem (by omega)
    rw [hone, hx] at h1
    obtain ⟨k, hk, _, hw⟩ := DataW.trod_int he h1
    have hwf := wf_u64 hw
    refine ⟨BitVec.ofInt 64 k, ?_⟩
    rw [Array.getElem?_eq_getElem (by omega)]
    simp only [List.cons.injEq, and_true] at hk
    rw [hk]
    unfold u64v
    congr 2
    obtain ⟨z, rfl⟩ := Int.eq_ofNat_of_zero_le hwf.1
    rw [BitVec.ofInt_natCast, BitVec.toNat_ofNat, Nat.mod_eq_of_lt (by omega)]
  refine ⟨(List.range n).map fun i => ((cs[i]?).bind fun v => match v with | .int _ k => some (BitVec.ofInt 64 k) | _ => none).getD 0, by simp, ?_⟩
  congr 1
  refine Array.ext_getElem? fun i => ?_
  by_cases hi : i < n
  · obtain ⟨x, hx⟩ := key i hi
    have hxx : (((cs[i]?).bind fun v => match v with | .int _ k => some (BitVec.ofInt 64 k) | _ => none).getD 0 : BitVec 64) = x := by
      rw [hx]
      show BitVec.ofInt 64 (x.toNat : Int) = x
      exact ofInt_toNat x
    rw [hx, List.getElem?_toArray, List.getElem?_map, List.getElem?_map, List.getElem?_range hi]
    simp only [Option.map_some]
    rw [hxx]
  · rw [Array.getElem?_eq_none (by omega), Array.getElem?_eq_none (by simp; omega)]
end
end Go.Proofs.Ytihkbhogapopdaa
