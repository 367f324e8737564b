/- Two words compared; a small word (word.Small); a number of bytes (num.Unbe). -/
import Derived.Test.YtmlkjackopiekaaDoorPrs
import Derived.Test.YtmlkjackopiekaaDoorClass
import Derived.Laws.StructEq
namespace Go.Proofs.YtmlkjackopiekaaDoor
open Go.RowKit Go.Shelf
set_option linter.unusedVariables false
set_option linter.unusedSimpArgs false

def wv (x : Nat) : Value := .int .u64 (x : Int)
theorem all_range_eqN : ∀ (xs ys : List Nat), xs.length = ys.length → ((List.range xs.length).all fun i => xs.getD i 0 == ys.getD i 0) = (xs == ys)
  | [], [], _ => rfl
  | x :: xs, y :: ys, h => by
    have ih := all_range_eqN xs ys (by simpa using h)
    rw [List.length_cons, List.range_succ_eq_map, List.all_cons, List.all_map]
    simp only [List.getD_cons_zero, Function.comp_def, List.getD_cons_succ, ih]
    simp [List.cons_beq_cons]
  | [], _ :: _, h => by simp at h
  | _ :: _, [], h => by simp at h
section
variable {P : Program} (w : World)
theorem run_equalIn_words (d : Nat) (t e : TypeId) (n : Nat) (ht : P.underlying t = some (.array n e)) (he : P.underlying e = some (.int .u64)) (hsz : ∀ w, (sizeOf e).run P w = .ok 1 w)
    (xs ys : List Nat) (hx : xs.length = n) (hy : ys.length = n) :
    (Op.equalIn (d + 2) t (.agg (xs.map wv).toArray) (.agg (ys.map wv).toArray)).run P w = .ok (xs == ys) w := by
  rw [← all_range_eqN xs ys (hx.trans hy.symm), hx, List.range_eq_range', Op.equalIn]
  simp only [Sem.run_bind, run_underlying ht, Result.andThen_ok, hsz, Std.Legacy.Range.forIn_eq_forIn_range', Std.Legacy.Range.size, Nat.sub_zero, Nat.add_sub_cancel, Nat.div_one]
  have hl : ∀ i ∈ List.range' 0 n 1, i < n := fun i hi => by simpa using (List.mem_range'_1.1 hi).2
  generalize List.range' 0 n 1 = l at hl ⊢
  induction l with
  | nil => simp
  | cons i l ih =>
    have hi : i < n := hl i (by simp)
    have px : (part e (xs.map wv).toArray (i * 1)).run P w = .ok (wv (xs.getD i 0)) w := by
      simp [part, isAgg, run_underlying he, List.getD, List.getElem?_eq_getElem (show i < xs.length by omega)]
    have py : (part e (ys.map wv).toArray (i * 1)).run P w = .ok (wv (ys.getD i 0)) w := by
      simp [part, isAgg, run_underlying he, List.getD, List.getElem?_eq_getElem (show i < ys.length by omega)]
    have pe : (Op.equalIn (d + 1) e (wv (xs.getD i 0)) (wv (ys.getD i 0))).run P w = .ok (xs.getD i 0 == ys.getD i 0) w := by
      rw [wv, wv, run_equalIn_int w d e .u64 .u64 _ _ he]
      congr 1
      rw [Bool.eq_iff_iff]
      simp
      omega
    simp only [List.forIn_cons, Sem.run_bind, px, py, pe, Result.andThen_ok, List.all_cons]
    cases hb : (xs.getD i 0 == ys.getD i 0)
    · simp
    · simp only [Bool.not_true, Bool.false_eq_true, if_false, Sem.run_pure, Result.andThen_ok, Bool.true_and]
      exact ih fun j hj => hl j (by simp [hj])
end
theorem size_u64w (w : World) : (sizeOf 22).run Tryd.prog w = .ok 1 w := by kernel_rfl
/-- a word is itself -/
theorem eq_word (a b c d : Nat) (w : World) : (Op.equalIn 10000 24 (.agg #[.int .u64 (a : Int), .int .u64 (b : Int), .int .u64 (c : Int), .int .u64 (d : Int)]) (.agg #[.int .u64 (a : Int), .int .u64 (b : Int), .int .u64 (c : Int), .int .u64 (d : Int)])).run Tryd.prog w = .ok true w := by
  have := run_equalIn_words (P := Tryd.prog) w 9998 24 22 4 (by kernel_rfl) (by kernel_rfl) size_u64w [a, b, c, d] [a, b, c, d] rfl rfl
  rw [beq_self_eq_true] at this
  exact this

theorem exec_loadW {W : World} {a : Act} {o : Oper} {b off : Nat} {x0 x1 x2 x3 : Value} (x : Operand) (ho : o.op = .load 24 x) (hx : a.eval x = .pointer (some ⟨b, off, none⟩))
    (c0 : W.cell? ⟨b, off, none⟩ = some x0) (c1 : W.cell? ⟨b, off + 1, none⟩ = some x1) (c2 : W.cell? ⟨b, off + 2, none⟩ = some x2) (c3 : W.cell? ⟨b, off + 3, none⟩ = some x3) :
    (execOp a.eval o).run Tryd.prog W = .ok (.value (.agg #[x0, x1, x2, x3])) W := by
  have hagg := Tryd.isAgg24
  have hsz := Tryd.sizeOf24
  unfold execOp
  simp only [ho, hx]
  simp [go_sem, c0, c1, c2, c3, hagg, hsz]
section
variable {P : Program} {ops : Array Oper} {C : World → Prop} {Q : Act → Prop} {a : Act} {o : Oper} {rest : List Oper}
theorem wpQuiet_loadW (v : Value) (ty : TypeId) (x : Operand) (p : Addr) (d : TypeDesc) (ho : o.op = .load ty x) (hw : Region.wanted o (yielded ops a.tmps) = true) (hx : a.eval x = .pointer (some p))
    (hu : P.underlying ty = some d) (hd : (match d with | .struct _ | .array _ _ => true | _ => false) = false) (hc : ∀ W, C W → W.cell? p = some v) (hk : wpQuiet P ops C Q rest (a.put o.dst v)) : wpQuiet P ops C Q (o :: rest) a :=
  wpQuiet_value hw v (fun W hW => by
    unfold execOp
    simp only [ho, hx, Instr.loadAt, Instr.sureAddr, Sem.run_bind, Sem.run_pure, Result.andThen_ok, load_cell hu hd (hc W hW)]) hk
end

theorem exec_neqW {W : World} {a : Act} {o : Oper} (x y : Operand) (t : TypeId) (ho : o.op = .binOp .neq 24 x y t) {u v : Array Value} (hx : a.eval x = .agg u) (hy : a.eval y = .agg v) {r : Bool}
    (he : (Op.equalIn 10000 24 (.agg u) (.agg v)).run Tryd.prog W = .ok r W) : (execOp a.eval o).run Tryd.prog W = .ok (.value (.bool (!r))) W := by
  unfold execOp
  simp only [ho, hx, hy]
  simp [go_sem, run_neq_struct, he]

set_option maxRecDepth 100000 in
set_option maxHeartbeats 1000000 in
theorem small_any (n : Nat) (w : World) :
    Calls Tryd.prog 55 #[.agg #[.int .u64 (n : Int), .int .u64 0, .int .u64 0, .int .u64 0]] w fun e w' => e = .returned (.tuple #[.int .u64 (n : Int), .bool true]) ∧ w.grownBy w' none := by
  have hB := Blk.new w 24 #[.int .u64 (n : Int), .int .u64 0, .int .u64 0, .int .u64 0]
  have hG := only_alloc (World.grownBy.refl w none) (.cells #[.int .u64 (n : Int), .int .u64 0, .int .u64 0, .int .u64 0] 24)
  have hEq := fun W => eq_word n 0 0 0 W
  have HOf := Lib.hid (fun V => of_any n V)
  go_enter Tryd.func55, Tryd.ntmps55
  go_upto_region 1 with (fail)
  obtain ⟨b, hb⟩ : ∃ b, w.heap.size = b := ⟨_, rfl⟩
  rw [hb] at hB ⊢
  generalize w.alloc (.cells #[.int .u64 (n : Int), .int .u64 0, .int .u64 0, .int .u64 0] 24) = W1 at *
  have c0 := hB.cell 0; have c1 := hB.cell 1; have c2 := hB.cell 2; have c3 := hB.cell 3
  simp only [List.getElem?_toArray, List.getElem?_cons_zero, List.getElem?_cons_succ] at c0 c1 c2 c3
  have hC0 : (fun V => Below W1.heap.size W1 V) W1.drew := ⟨rfl, rfl, rfl, Nat.le_refl _, fun _ _ => rfl⟩
  refine wp_region_class (fun V => Below W1.heap.size W1 V) (by kernel_rfl) (by kernel_rfl) hC0 ?_
  have hcc := class_const hC0
  have hlb := hB.lt
  have hr0 : ∀ V, Below W1.heap.size W1 V → V.cell? ⟨b, 0, none⟩ = some (.int .u64 (n : Int)) := fun V hV => (hV.cell (p := ⟨b, 0, none⟩) hlb).trans c0
  have hr1 : ∀ V, Below W1.heap.size W1 V → V.cell? ⟨b, 1, none⟩ = some (.int .u64 0) := fun V hV => (hV.cell (p := ⟨b, 1, none⟩) hlb).trans c1
  have hr2 : ∀ V, Below W1.heap.size W1 V → V.cell? ⟨b, 2, none⟩ = some (.int .u64 0) := fun V hV => (hV.cell (p := ⟨b, 2, none⟩) hlb).trans c2
  have hr3 : ∀ V, Below W1.heap.size W1 V → V.cell? ⟨b, 3, none⟩ = some (.int .u64 0) := fun V hV => (hV.cell (p := ⟨b, 3, none⟩) hlb).trans c3
  clear c1 c2 c3
  (try simp only [Act.put])
  refine wpQuiet_value rfl (.agg #[.int .u64 (n : Int), .int .u64 0, .int .u64 0, .int .u64 0]) (fun V hV => exec_loadW _ rfl rfl (hr0 V hV) (hr1 V hV) (hr2 V hV) (hr3 V hV)) ?_
  simp only [Act.put, List.setIfInBounds_toArray, List.set_cons_zero, List.set_cons_succ]
  go_big_quiet_step (fail)
  refine wpQuiet_loadW _ 22 _ ⟨b, 0, none⟩ _ rfl rfl rfl Tryd.underlying22 rfl hr0 ?_
  simp only [Act.put, List.setIfInBounds_toArray, List.set_cons_zero, List.set_cons_succ]
  refine wpQuiet_enter rfl (.agg #[.int .u64 (n : Int), .int .u64 ((0 : Nat) : Int), .int .u64 ((0 : Nat) : Int), .int .u64 ((0 : Nat) : Int)]) 51 #[.int .u64 (n : Int)] (fun V hV => exec_call1 _ (.tmp 6) _ rfl _ rfl rfl) (fun V hV => (HOf.out V).mono fun e w' ⟨he, hgg⟩ => ⟨he, below_of_grown (grown_self (grown_of_below hV) hgg (by simp))⟩) ?_
  simp only [Act.put, List.setIfInBounds_toArray, List.set_cons_zero, List.set_cons_succ]
  refine wpQuiet_value rfl (.bool (!true)) (fun V hV => exec_neqW _ _ _ rfl rfl rfl (hEq V)) ?_
  simp only [Act.put, List.setIfInBounds_toArray, List.set_cons_zero, List.set_cons_succ, Bool.not_true]
  refine wpQuiet_nil ?_
  intro w8 hw8
  have HG8 := Lib.hid (grown_self hG (grown_of_below hw8) (by simp))
  have c0' := hr0 w8 hw8
  clear hcc hC0 hr0 hr1 hr2 hr3 hw8 c0 hEq
  go_wp2_with fail
  go_ret2
  exact ⟨rfl, HG8.out⟩

/-- a number's bytes, read -/
def unbeE (l : List UInt8) : Int := if 8 < l.length then 5 else parseE l
def unbeN (l : List UInt8) : Nat := if 8 < l.length then 0 else parseP l 0
theorem parseC_short {l : List UInt8} (h : l.length ≤ 8) : parseC l = #[.int .u64 (parseP l 0 : Nat), .int .u64 0, .int .u64 0, .int .u64 0] := by
  have hlt : beV l < 2 ^ 64 := Nat.lt_of_lt_of_le (beV_lt l) (by rw [show (2 : Nat) ^ 64 = 256 ^ 8 from rfl]; exact Nat.pow_le_pow_right (by omega) h)
  have key : ∀ q, 1 ≤ q → parseP l q = 0 := fun q hq => by
    unfold parseP
    split
    · unfold wp
      rw [Nat.div_eq_of_lt (Nat.lt_of_lt_of_le hlt (Nat.pow_le_pow_right (by omega) (by omega)))]
    · rfl
  unfold parseC
  rw [key 1 (by omega), key 2 (by omega), key 3 (by omega)]; rfl

set_option maxRecDepth 100000 in
set_option maxHeartbeats 1000000 in
theorem unbe_any (S : ByteArray) (hs : S.size ≤ 9223372036854775807) (w : World) :
    Calls Tryd.prog 36 #[.string S] w fun e w' => e = .returned (.tuple #[.int .u64 (unbeN S.data.toList : Nat), .int .i64 (unbeE S.data.toList)]) ∧ w.grownBy w' none := by
  have hlz : S.data.toList.length = S.size := Array.length_toList
  by_cases h1 : 8 < S.size
  · have d1 : (8 : Int) < (S.size : Int) := by omega
    rw [show unbeN S.data.toList = 0 from if_pos (by omega), show unbeE S.data.toList = 5 from if_pos (by omega)]
    clear hlz h1
    go_enter Tryd.func36, Tryd.ntmps36
    go_wp2_with fail
    go_ret2
    exact ⟨rfl, World.grownBy.refl _ _⟩
  · have d1 : decide ((8 : Int) < (S.size : Int)) = false := decide_eq_false (by omega)
    rw [show unbeN S.data.toList = parseP S.data.toList 0 from if_neg (by omega), show unbeE S.data.toList = parseE S.data.toList from if_neg (by omega)]
    have hp := fun V => parse_any S hs V
    rw [parseC_short (by omega)] at hp
    generalize parseP S.data.toList 0 = n at *
    generalize parseE S.data.toList = E at *
    have HP := Lib.hid hp
    have HSm := Lib.hid (fun V => small_any n V)
    clear hp hlz h1
    go_enter Tryd.func36, Tryd.ntmps36
    go_wp2_with fail
    refine (HP.out _).mono ?_
    rintro e w2 ⟨rfl, hg2⟩
    have hB := Blk.new w2 24 #[.int .u64 (n : Int), .int .u64 0, .int .u64 0, .int .u64 0]
    have hG := Lib.hid (only_alloc hg2 (.cells #[.int .u64 (n : Int), .int .u64 0, .int .u64 0, .int .u64 0] 24))
    clear hg2 HP
    go_upto_region 4 with (fail)
    obtain ⟨b, hb⟩ : ∃ b, w2.heap.size = b := ⟨_, rfl⟩
    rw [hb] at hB ⊢
    clear hb
    generalize w2.alloc (.cells #[.int .u64 (n : Int), .int .u64 0, .int .u64 0, .int .u64 0] 24) = W1 at *
    have c0 := hB.cell 0; have c1 := hB.cell 1; have c2 := hB.cell 2; have c3 := hB.cell 3
    simp only [List.getElem?_toArray, List.getElem?_cons_zero, List.getElem?_cons_succ] at c0 c1 c2 c3
    go_wp2_with fail
    refine (HSm.out _).mono ?_
    rintro e w3 ⟨rfl, hg3⟩
    have HG := Lib.hid (grown_self hG.out hg3 (by simp))
    clear hg3 c0 c1 c2 c3 hB
    go_wp2_with fail
    go_ret2
    exact ⟨rfl, HG.out⟩
end Go.Proofs.YtmlkjackopiekaaDoor
