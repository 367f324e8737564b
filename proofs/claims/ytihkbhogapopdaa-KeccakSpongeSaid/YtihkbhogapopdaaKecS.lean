/- The fixed facts of layer 3's statements: the permutation at nought, the sums of two texts, reckoned; two blocks of lanes, held against each other. -/
import Derived.Test.YtihkbhogapopdaaKecR
import Derived.Test.YtihkbhogapopdaaClass
namespace Go.Proofs.Ytihkbhogapopdaa
open Go.RowKit Go.Shelf

theorem perm_zero : (permuteK (List.replicate 25 0)).getD 0 0 = 0xF1258F7940E1DDE7#64 := by decide +kernel
theorem sum_none : sumL [] = [0xc5, 0xd2, 0x46, 0x01, 0x86, 0xf7, 0x23, 0x3c, 0x92, 0x7e, 0x7d, 0xb2, 0xdc, 0xc7, 0x03, 0xc0, 0xe5, 0x00, 0xb6, 0x53, 0xca, 0x82, 0x27, 0x3b, 0x7b, 0xfa, 0xd8, 0x04, 0x5d, 0x85, 0xa4, 0x70] := by decide +kernel
theorem sum_abc : sumL [97, 98, 99] = [0x4e, 0x03, 0x65, 0x7a, 0xea, 0x45, 0xa9, 0x4f, 0xc7, 0xd4, 0x7b, 0xa8, 0x26, 0xc8, 0xd6, 0x67, 0xc0, 0xd1, 0xe6, 0xe3, 0x3a, 0x64, 0xa0, 0x36, 0xec, 0x44, 0xf5, 0x8f, 0xa1, 0x2d, 0x6c, 0x45] := by decide +kernel

theorem all_range_eq64 : ∀ (xs ys : List (BitVec 64)), xs.length = ys.length → ((List.range xs.length).all fun i => xs.getD i 0 == ys.getD i 0) = (xs == ys)
  | [], [], _ => rfl
  | x :: xs, y :: ys, h => by
    have ih := all_range_eq64 xs ys (by simpa using h)
    rw [List.length_cons, List.range_succ_eq_map, List.all_cons, List.all_map]
    simp only [List.getD_cons_zero, Function.comp_def, List.getD_cons_succ, ih]
    simp [List.cons_beq_cons]
  | [], _ :: _, h => by simp at h
  | _ :: _, [], h => by simp at h

section
variable {P : Program} (w : World)
theorem run_equalIn_u64s (d : Nat) (t e : TypeId) (n : Nat) (ht : P.underlying t = some (.array n e)) (he : P.underlying e = some (.int .u64)) (hsz : ∀ w, (sizeOf e).run P w = .ok 1 w)
    (xs ys : List (BitVec 64)) (hx : xs.length = n) (hy : ys.length = n) :
    (Op.equalIn (d + 2) t (.agg (xs.map u64v).toArray) (.agg (ys.map u64v).toArray)).run P w = .ok (xs == ys) w := by
  rw [← all_range_eq64 xs ys (hx.trans hy.symm), hx, List.range_eq_range', Op.equalIn]
  simp only [Sem.run_bind, run_underlying ht, Result.andThen_ok, hsz, Std.Legacy.Range.forIn_eq_forIn_range', Std.Legacy.Range.size, Nat.sub_zero, Nat.add_sub_cancel, Nat.div_one]
  have hl : ∀ i ∈ List.range' 0 n 1, i < n := fun i hi => by simpa using (List.mem_range'_1.1 hi).2
  generalize List.range' 0 n 1 = l at hl ⊢
  induction l with
  | nil => simp
  | cons i l ih =>
    have hi : i < n := hl i (by simp)
    have px : (part e (xs.map u64v).toArray (i * 1)).run P w = .ok (u64v (xs.getD i 0)) w := by
      simp [part, isAgg, run_underlying he, List.getD, List.getElem?_eq_getElem (show i < xs.length by omega)]
    have py : (part e (ys.map u64v).toArray (i * 1)).run P w = .ok (u64v (ys.getD i 0)) w := by
      simp [part, isAgg, run_underlying he, List.getD, List.getElem?_eq_getElem (show i < ys.length by omega)]
    have pe : (Op.equalIn (d + 1) e (u64v (xs.getD i 0)) (u64v (ys.getD i 0))).run P w = .ok (xs.getD i 0 == ys.getD i 0) w := by
      rw [u64v, u64v, run_equalIn_int w d e .u64 .u64 _ _ he]
      congr 1
      rw [Bool.eq_iff_iff]
      simp [← BitVec.toNat_inj]
      omega
    simp only [List.forIn_cons, Sem.run_bind, px, py, pe, Result.andThen_ok, List.all_cons]
    cases hb : (xs.getD i 0 == ys.getD i 0)
    · simp
    · simp only [Bool.not_true, Bool.false_eq_true, if_false, Sem.run_pure, Result.andThen_ok, Bool.true_and]
      exact ih fun j hj => hl j (by simp [hj])
theorem run_eql_u64s (t e : TypeId) (n : Nat) (ht : P.underlying t = some (.array n e)) (he : P.underlying e = some (.int .u64)) (hsz : ∀ w, (sizeOf e).run P w = .ok 1 w)
    (xs ys : List (BitVec 64)) (hx : xs.length = n) (hy : ys.length = n) :
    (binOp .eql t (.agg (xs.map u64v).toArray) (.agg (ys.map u64v).toArray)).run P w = .ok (.bool (xs == ys)) w := by
  rw [run_eql_struct, run_equalIn_u64s w 9998 t e n ht he hsz xs ys hx hy]
  rfl
end
theorem size_u64 (w : World) : (sizeOf 22).run Try.prog w = .ok 1 w := by kernel_rfl

end Go.Proofs.Ytihkbhogapopdaa
