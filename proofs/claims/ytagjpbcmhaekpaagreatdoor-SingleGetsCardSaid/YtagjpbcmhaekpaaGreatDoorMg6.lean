/- Merged: WEq, FldA, FldB, FldC, FldD, FldE, FldL, App. -/
import Derived.Test.YtagjpbcmhaekpaaGreatDoorMg5
import Derived.Laws.StructEq
import Derived.Maps.AppendAt
/- Two words compared; a small word (word.Small); a number of bytes (num.Unbe). -/
namespace Go.Proofs.YtagjpbcmhaekpaaGreatDoor
open Go.RowKit Go.Shelf
set_option linter.unusedVariables false
set_option linter.unusedSimpArgs false

def wv (x : Nat) : Value := .int .u64 (x : Int)
theorem all_range_eqN : ∀ (xs ys : List Nat), xs.length = ys.length → ((List.range xs.length).all fun i => xs.getD i 0 == ys.getD i 0) = (xs == ys)
  | [], [], _ => rfl
  | x :: xs, y :: ys, h => by
    have ih := all_range_eqN xs ys (by simpa using h)
    rw [List.length_cons, List.range_succ_eq_map, List.all_cons, List.all_map]
    simp only [List.getD_cons_zero, Function.comp_def, List.getD_cons_succ, ih]
    simp [List.cons_beq_cons]
  | [], _ :: _, h => by simp at h
  | _ :: _, [], h => by simp at h
section
variable {P : Program} (w : World)
theorem run_equalIn_words (d : Nat) (t e : TypeId) (n : Nat) (ht : P.underlying t = some (.array n e)) (he : P.underlying e = some (.int .u64)) (hsz : ∀ w, (sizeOf e).run P w = .ok 1 w)
    (xs ys : List Nat) (hx : xs.length = n) (hy : ys.length = n) :
    (Op.equalIn (d + 2) t (.agg (xs.map wv).toArray) (.agg (ys.map wv).toArray)).run P w = .ok (xs == ys) w := by
  rw [← all_range_eqN xs ys (hx.trans hy.symm), hx, List.range_eq_range', Op.equalIn]
  simp only [Sem.run_bind, run_underlying ht, Result.andThen_ok, hsz, Std.Legacy.Range.forIn_eq_forIn_range', Std.Legacy.Range.size, Nat.sub_zero, Nat.add_sub_cancel, Nat.div_one]
  have hl : ∀ i ∈ List.range' 0 n 1, i < n := fun i hi => by simpa using (List.mem_range'_1.1 hi).2
  generalize List.range' 0 n 1 = l at hl ⊢
  induction l with
  | nil => simp
  | cons i l ih =>
    have hi : i < n := hl i (by simp)
    have px : (part e (xs.map wv).toArray (i * 1)).run P w = .ok (wv (xs.getD i 0)) w := by
      simp [part, isAgg, run_underlying he, List.getD, List.getElem?_eq_getElem (show i < xs.length by omega)]
    have py : (part e (ys.map wv).toArray (i * 1)).run P w = .ok (wv (ys.getD i 0)) w := by
      simp [part, isAgg, run_underlying he, List.getD, List.getElem?_eq_getElem (show i < ys.length by omega)]
    have pe : (Op.equalIn (d + 1) e (wv (xs.getD i 0)) (wv (ys.getD i 0))).run P w = .ok (xs.getD i 0 == ys.getD i 0) w := by
      rw [wv, wv, run_equalIn_int w d e .u64 .u64 _ _ he]
      congr 1
      rw [Bool.eq_iff_iff]
      simp
      omega
    simp only [List.forIn_cons, Sem.run_bind, px, py, pe, Result.andThen_ok, List.all_cons]
    cases hb : (xs.getD i 0 == ys.getD i 0)
    · simp
    · simp only [Bool.not_true, Bool.false_eq_true, if_false, Sem.run_pure, Result.andThen_ok, Bool.true_and]
      exact ih fun j hj => hl j (by simp [hj])
end
theorem size_u64w (w : World) : (sizeOf 22).run Tryz.prog w = .ok 1 w := by kernel_rfl
/-- a word is itself -/
theorem eq_word (a b c d : Nat) (w : World) : (Op.equalIn 10000 103 (.agg #[.int .u64 (a : Int), .int .u64 (b : Int), .int .u64 (c : Int), .int .u64 (d : Int)]) (.agg #[.int .u64 (a : Int), .int .u64 (b : Int), .int .u64 (c : Int), .int .u64 (d : Int)])).run Tryz.prog w = .ok true w := by
  have := run_equalIn_words (P := Tryz.prog) w 9998 103 22 4 (by kernel_rfl) (by kernel_rfl) size_u64w [a, b, c, d] [a, b, c, d] rfl rfl
  rw [beq_self_eq_true] at this
  exact this

theorem exec_loadW {W : World} {a : Act} {o : Oper} {b off : Nat} {x0 x1 x2 x3 : Value} (x : Operand) (ho : o.op = .load 103 x) (hx : a.eval x = .pointer (some ⟨b, off, none⟩))
    (c0 : W.cell? ⟨b, off, none⟩ = some x0) (c1 : W.cell? ⟨b, off + 1, none⟩ = some x1) (c2 : W.cell? ⟨b, off + 2, none⟩ = some x2) (c3 : W.cell? ⟨b, off + 3, none⟩ = some x3) :
    (execOp a.eval o).run Tryz.prog W = .ok (.value (.agg #[x0, x1, x2, x3])) W := by
  have hagg := Tryz.isAgg103
  have hsz := Tryz.sizeOf103
  unfold execOp
  simp only [ho, hx]
  simp [go_sem, c0, c1, c2, c3, hagg, hsz]
section
variable {P : Program} {ops : Array Oper} {C : World → Prop} {Q : Act → Prop} {a : Act} {o : Oper} {rest : List Oper}
theorem wpQuiet_loadW (v : Value) (ty : TypeId) (x : Operand) (p : Addr) (d : TypeDesc) (ho : o.op = .load ty x) (hw : Region.wanted o (yielded ops a.tmps) = true) (hx : a.eval x = .pointer (some p))
    (hu : P.underlying ty = some d) (hd : (match d with | .struct _ | .array _ _ => true | _ => false) = false) (hc : ∀ W, C W → W.cell? p = some v) (hk : wpQuiet P ops C Q rest (a.put o.dst v)) : wpQuiet P ops C Q (o :: rest) a :=
  wpQuiet_value hw v (fun W hW => by
    unfold execOp
    simp only [ho, hx, Instr.loadAt, Instr.sureAddr, Sem.run_bind, Sem.run_pure, Result.andThen_ok, load_cell hu hd (hc W hW)]) hk
end

theorem exec_neqW {W : World} {a : Act} {o : Oper} (x y : Operand) (t : TypeId) (ho : o.op = .binOp .neq 103 x y t) {u v : Array Value} (hx : a.eval x = .agg u) (hy : a.eval y = .agg v) {r : Bool}
    (he : (Op.equalIn 10000 103 (.agg u) (.agg v)).run Tryz.prog W = .ok r W) : (execOp a.eval o).run Tryz.prog W = .ok (.value (.bool (!r))) W := by
  unfold execOp
  simp only [ho, hx, hy]
  simp [go_sem, run_neq_struct, he]

set_option maxRecDepth 100000 in
set_option maxHeartbeats 1000000 in
theorem small_any (n : Nat) (w : World) :
    Calls Tryz.prog 74 #[.agg #[.int .u64 (n : Int), .int .u64 0, .int .u64 0, .int .u64 0]] w fun e w' => e = .returned (.tuple #[.int .u64 (n : Int), .bool true]) ∧ w.grownBy w' none := by
  have hB := Blk.new w 103 #[.int .u64 (n : Int), .int .u64 0, .int .u64 0, .int .u64 0]
  have hG := only_alloc (World.grownBy.refl w none) (.cells #[.int .u64 (n : Int), .int .u64 0, .int .u64 0, .int .u64 0] 103)
  have hEq := fun W => eq_word n 0 0 0 W
  have HOf := Lib.hid (fun V => of_any n V)
  go_enter Tryz.func74, Tryz.ntmps74
  go_upto_region 1 with (fail)
  obtain ⟨b, hb⟩ : ∃ b, w.heap.size = b := ⟨_, rfl⟩
  rw [hb] at hB ⊢
  generalize w.alloc (.cells #[.int .u64 (n : Int), .int .u64 0, .int .u64 0, .int .u64 0] 103) = W1 at *
  have c0 := hB.cell 0; have c1 := hB.cell 1; have c2 := hB.cell 2; have c3 := hB.cell 3
  simp only [List.getElem?_toArray, List.getElem?_cons_zero, List.getElem?_cons_succ] at c0 c1 c2 c3
  have hC0 : (fun V => Below W1.heap.size W1 V) W1.drew := ⟨rfl, rfl, rfl, Nat.le_refl _, fun _ _ => rfl⟩
  refine wp_region_class (fun V => Below W1.heap.size W1 V) (by kernel_rfl) (by kernel_rfl) hC0 ?_
  have hcc := class_const hC0
  have hlb := hB.lt
  have hr0 : ∀ V, Below W1.heap.size W1 V → V.cell? ⟨b, 0, none⟩ = some (.int .u64 (n : Int)) := fun V hV => (hV.cell (p := ⟨b, 0, none⟩) hlb).trans c0
  have hr1 : ∀ V, Below W1.heap.size W1 V → V.cell? ⟨b, 1, none⟩ = some (.int .u64 0) := fun V hV => (hV.cell (p := ⟨b, 1, none⟩) hlb).trans c1
  have hr2 : ∀ V, Below W1.heap.size W1 V → V.cell? ⟨b, 2, none⟩ = some (.int .u64 0) := fun V hV => (hV.cell (p := ⟨b, 2, none⟩) hlb).trans c2
  have hr3 : ∀ V, Below W1.heap.size W1 V → V.cell? ⟨b, 3, none⟩ = some (.int .u64 0) := fun V hV => (hV.cell (p := ⟨b, 3, none⟩) hlb).trans c3
  clear c1 c2 c3
  (try simp only [Act.put])
  refine wpQuiet_value rfl (.agg #[.int .u64 (n : Int), .int .u64 0, .int .u64 0, .int .u64 0]) (fun V hV => exec_loadW _ rfl rfl (hr0 V hV) (hr1 V hV) (hr2 V hV) (hr3 V hV)) ?_
  simp only [Act.put, List.setIfInBounds_toArray, List.set_cons_zero, List.set_cons_succ]
  go_big_quiet_step (fail)
  refine wpQuiet_loadW _ 22 _ ⟨b, 0, none⟩ _ rfl rfl rfl Tryz.underlying22 rfl hr0 ?_
  simp only [Act.put, List.setIfInBounds_toArray, List.set_cons_zero, List.set_cons_succ]
  refine wpQuiet_enter rfl (.agg #[.int .u64 (n : Int), .int .u64 ((0 : Nat) : Int), .int .u64 ((0 : Nat) : Int), .int .u64 ((0 : Nat) : Int)]) 69 #[.int .u64 (n : Int)] (fun V hV => exec_call1 _ (.tmp 6) _ rfl _ rfl rfl) (fun V hV => (HOf.out V).mono fun e w' ⟨he, hgg⟩ => ⟨he, below_of_grown (grown_self (grown_of_below hV) hgg (by simp))⟩) ?_
  simp only [Act.put, List.setIfInBounds_toArray, List.set_cons_zero, List.set_cons_succ]
  refine wpQuiet_value rfl (.bool (!true)) (fun V hV => exec_neqW _ _ _ rfl rfl rfl (hEq V)) ?_
  simp only [Act.put, List.setIfInBounds_toArray, List.set_cons_zero, List.set_cons_succ, Bool.not_true]
  refine wpQuiet_nil ?_
  intro w8 hw8
  have HG8 := Lib.hid (grown_self hG (grown_of_below hw8) (by simp))
  have c0' := hr0 w8 hw8
  clear hcc hC0 hr0 hr1 hr2 hr3 hw8 c0 hEq
  go_wp2_with fail
  go_ret2
  exact ⟨rfl, HG8.out⟩

/-- a number's bytes, read -/
def unbeE (l : List UInt8) : Int := if 8 < l.length then 5 else parseE l
def unbeN (l : List UInt8) : Nat := if 8 < l.length then 0 else parseP l 0
theorem parseC_short {l : List UInt8} (h : l.length ≤ 8) : parseC l = #[.int .u64 (parseP l 0 : Nat), .int .u64 0, .int .u64 0, .int .u64 0] := by
  have hlt : beV l < 2 ^ 64 := Nat.lt_of_lt_of_le (beV_lt l) (by rw [show (2 : Nat) ^ 64 = 256 ^ 8 from rfl]; exact Nat.pow_le_pow_right (by omega) h)
  have key : ∀ q, 1 ≤ q → parseP l q = 0 := fun q hq => by
    unfold parseP
    split
    · unfold wp
      rw [Nat.div_eq_of_lt (Nat.lt_of_lt_of_le hlt (Nat.pow_le_pow_right (by omega) (by omega)))]
    · rfl
  unfold parseC
  rw [key 1 (by omega), key 2 (by omega), key 3 (by omega)]; rfl

set_option maxRecDepth 100000 in
set_option maxHeartbeats 1000000 in
theorem unbe_any (S : ByteArray) (hs : S.size ≤ 9223372036854775807) (w : World) :
    Calls Tryz.prog 57 #[.string S] w fun e w' => e = .returned (.tuple #[.int .u64 (unbeN S.data.toList : Nat), .int .i64 (unbeE S.data.toList)]) ∧ w.grownBy w' none := by
  have hlz : S.data.toList.length = S.size := Array.length_toList
  by_cases h1 : 8 < S.size
  · have d1 : (8 : Int) < (S.size : Int) := by omega
    rw [show unbeN S.data.toList = 0 from if_pos (by omega), show unbeE S.data.toList = 5 from if_pos (by omega)]
    clear hlz h1
    go_enter Tryz.func57, Tryz.ntmps57
    go_wp2_with fail
    go_ret2
    exact ⟨rfl, World.grownBy.refl _ _⟩
  · have d1 : decide ((8 : Int) < (S.size : Int)) = false := decide_eq_false (by omega)
    rw [show unbeN S.data.toList = parseP S.data.toList 0 from if_neg (by omega), show unbeE S.data.toList = parseE S.data.toList from if_neg (by omega)]
    have hp := fun V => parse_any S hs V
    rw [parseC_short (by omega)] at hp
    generalize parseP S.data.toList 0 = n at *
    generalize parseE S.data.toList = E at *
    have HP := Lib.hid hp
    have HSm := Lib.hid (fun V => small_any n V)
    clear hp hlz h1
    go_enter Tryz.func57, Tryz.ntmps57
    go_wp2_with fail
    refine (HP.out _).mono ?_
    rintro e w2 ⟨rfl, hg2⟩
    have hB := Blk.new w2 103 #[.int .u64 (n : Int), .int .u64 0, .int .u64 0, .int .u64 0]
    have hG := Lib.hid (only_alloc hg2 (.cells #[.int .u64 (n : Int), .int .u64 0, .int .u64 0, .int .u64 0] 103))
    clear hg2 HP
    go_upto_region 4 with (fail)
    obtain ⟨b, hb⟩ : ∃ b, w2.heap.size = b := ⟨_, rfl⟩
    rw [hb] at hB ⊢
    clear hb
    generalize w2.alloc (.cells #[.int .u64 (n : Int), .int .u64 0, .int .u64 0, .int .u64 0] 103) = W1 at *
    have c0 := hB.cell 0; have c1 := hB.cell 1; have c2 := hB.cell 2; have c3 := hB.cell 3
    simp only [List.getElem?_toArray, List.getElem?_cons_zero, List.getElem?_cons_succ] at c0 c1 c2 c3
    go_wp2_with fail
    refine (HSm.out _).mono ?_
    rintro e w3 ⟨rfl, hg3⟩
    have HG := Lib.hid (grown_self hG.out hg3 (by simp))
    clear hg3 c0 c1 c2 c3 hB
    go_wp2_with fail
    go_ret2
    exact ⟨rfl, HG.out⟩
end Go.Proofs.YtagjpbcmhaekpaaGreatDoor
/- A number, a word, bytes as an item; an item's number. -/
namespace Go.Proofs.YtagjpbcmhaekpaaGreatDoor
open Go.RowKit Go.Shelf
set_option linter.unusedVariables false
set_option linter.unusedSimpArgs false

theorem load_itemF {w : World} {g : Nat} {a b c : Value} (hg : Blk w g 40 #[a, b, c]) : (loadVar 40 ⟨g, 0, none⟩).run Tryz.prog w = .ok (.agg #[a, b, c]) w :=
  run_loadVar_row w g 40 40 _ (0, 0) _ hg Tryz.underlying40 rfl (by kernel_rfl)

set_option maxRecDepth 100000 in
theorem text_any (s : ByteArray) (w : World) :
    Calls Tryz.prog 17 #[.string s] w fun e w' => e = .returned (.agg #[.bool false, .string s, .slice none 0 0]) ∧ w.grownBy w' none := by
  have hB := Blk.new w 40 #[.bool false, .string s, .slice none 0 0]
  have hG := only_alloc (World.grownBy.refl w none) (.cells #[.bool false, .string s, .slice none 0 0] 40)
  go_enter Tryz.func17, Tryz.ntmps17
  go_wp2_with fail
  refine bodyPost_ret (results_cell1 (fn := Tryz.f17) rfl _ _ _ _ rfl (load_itemF hB)) rfl ?_
  exact ⟨rfl, hG⟩

set_option maxRecDepth 100000 in
theorem within_any (n a b : Int) (w : World) :
    Calls Tryz.prog 53 #[.int .i64 n, .int .i64 a, .int .i64 b] w fun e w' => e = .returned (.int .i64 (if n < a then 3 else if b < n then 5 else 0)) ∧ w' = w := by
  by_cases h1 : n < a
  · rw [if_pos h1]
    go_enter Tryz.func53, Tryz.ntmps53
    go_wp2_with fail
    go_ret
    exact ⟨rfl, rfl⟩
  · rw [if_neg h1]
    have d1 : decide (n < a) = false := decide_eq_false h1
    by_cases h2 : b < n
    · rw [if_pos h2]
      clear h1
      go_enter Tryz.func53, Tryz.ntmps53
      go_wp2_with fail
      go_ret
      exact ⟨rfl, rfl⟩
    · rw [if_neg h2]
      have d2 : decide (b < n) = false := decide_eq_false h2
      clear h1 h2
      go_enter Tryz.func53, Tryz.ntmps53
      go_wp2_with fail
      go_ret
      exact ⟨rfl, rfl⟩

/-- an item's number -/
def numE (l : Bool) (s : ByteArray) : Int := if l then 2 else unbeE s.data.toList
def numV (l : Bool) (s : ByteArray) : Nat := if numE l s = 0 then unbeN s.data.toList else 0

set_option maxRecDepth 100000 in
set_option maxHeartbeats 1000000 in
theorem ofNumber_any (l : Bool) (s : ByteArray) (sv : Value) (hs : s.size ≤ 9223372036854775807) (w : World) :
    Calls Tryz.prog 56 #[.agg #[.bool l, .string s, sv], .func (Fn.func 57) #[] #[]] w fun e w' => e = .returned (.tuple #[.int .u64 (numV l s : Nat), .int .i64 (numE l s)]) ∧ w.grownBy w' none := by
  have hB := Blk.new w 40 #[.bool l, .string s, sv]
  have hG := only_alloc (World.grownBy.refl w none) (.cells #[.bool l, .string s, sv] 40)
  have hU := fun V => unbe_any s hs V
  cases l with
  | true =>
    have HG := Lib.hid hG
    rw [show numV true s = 0 from if_neg (by show ¬ (2 : Int) = 0; decide), show numE true s = 2 from rfl]
    clear hU hG
    go_enter Tryz.func56, Tryz.ntmps56
    go_upto_region 1 with (fail)
    obtain ⟨b, hb⟩ : ∃ b, w.heap.size = b := ⟨_, rfl⟩
    rw [hb] at hB ⊢
    generalize w.alloc (.cells #[.bool true, .string s, sv] 40) = W1 at *
    have c0 := hB.cell 0
    simp only [List.getElem?_toArray, List.getElem?_cons_zero, List.getElem?_cons_succ] at c0
    go_wp2_with fail
    go_ret2
    exact ⟨rfl, HG.out⟩
  | false =>
    obtain ⟨E, hE⟩ : ∃ E, unbeE s.data.toList = E := ⟨_, rfl⟩
    obtain ⟨n, hn⟩ : ∃ n, unbeN s.data.toList = n := ⟨_, rfl⟩
    have e1 : numE false s = E := hE
    have e2 : numV false s = if E = 0 then n else 0 := by unfold numV; rw [e1, hn]
    obtain ⟨m, hm⟩ : ∃ m, (if E = 0 then n else 0) = m := ⟨_, rfl⟩
    rw [e1, e2, hm]
    rw [hE, hn] at hU
    have HU := Lib.hid hU; have HG := Lib.hid hG; have HM := Lib.hid hm
    clear hU hG e1 e2 hE hn hm
    go_enter Tryz.func56, Tryz.ntmps56
    go_upto_region 1 with (fail)
    obtain ⟨b, hb⟩ : ∃ b, w.heap.size = b := ⟨_, rfl⟩
    rw [hb] at hB ⊢
    generalize w.alloc (.cells #[.bool false, .string s, sv] 40) = W1 at *
    have c0 := hB.cell 0; have c1 := hB.cell 1
    simp only [List.getElem?_toArray, List.getElem?_cons_zero, List.getElem?_cons_succ] at c0 c1
    go_wp2_with fail
    refine (HU.out _).mono ?_
    rintro e w3 ⟨rfl, hg3⟩
    have HG3 := Lib.hid (grown_self HG.out hg3 (by simp))
    clear hg3 c0 c1 hB
    by_cases h0 : E = 0
    · subst h0
      obtain rfl : n = m := HM.out
      clear HM
      go_wp2_with fail
      go_ret2
      exact ⟨rfl, HG3.out⟩
    · have g1 : (E != 0) = true := by simpa using h0
      obtain rfl : 0 = m := by have := HM.out; rwa [if_neg h0] at this
      clear HM
      go_wp2_with fail
      go_ret2
      exact ⟨rfl, HG3.out⟩

set_option maxRecDepth 100000 in
set_option maxHeartbeats 1000000 in
theorem getNumber_any (l : Bool) (s : ByteArray) (sv : Value) (hs : s.size ≤ 9223372036854775807) (w : World) :
    Calls Tryz.prog 37 #[.agg #[.bool l, .string s, sv]] w fun e w' => e = .returned (.tuple #[.int .u64 (numV l s : Nat), .int .i64 (numE l s)]) ∧ w.grownBy w' none := by
  have hB := Blk.new w 40 #[.bool l, .string s, sv]
  have HG := Lib.hid (only_alloc (World.grownBy.refl w none) (.cells #[.bool l, .string s, sv] 40))
  have HO := Lib.hid (fun V => ofNumber_any l s sv hs V)
  generalize numV l s = n at *
  generalize numE l s = E at *
  go_enter Tryz.func37, Tryz.ntmps37
  go_wp2_with fail
  refine (HO.out _).mono ?_
  rintro e w3 ⟨rfl, hg3⟩
  have HG3 := Lib.hid (grown_self HG.out hg3 (by simp))
  clear hg3
  go_wp2_with fail
  go_ret2
  exact ⟨rfl, HG3.out⟩

set_option maxRecDepth 100000 in
set_option maxHeartbeats 1000000 in
theorem number_any (n : Nat) (hn : n < 18446744073709551616) (w : World) :
    Calls Tryz.prog 18 #[.int .u64 (n : Int)] w fun e w' => e = .returned (.agg #[.bool false, .string ⟨(beN n).toArray⟩, .slice none 0 0]) ∧ w.grownBy w' none := by
  have hB := Blk.new w 40 #[.bool false, .string ⟨#[]⟩, .slice none 0 0]
  have HG := Lib.hid (only_alloc (World.grownBy.refl w none) (.cells #[.bool false, .string ⟨#[]⟩, .slice none 0 0] 40))
  have hbe := fun V => be_any n hn V
  obtain ⟨t, ht⟩ : ∃ t : ByteArray, (⟨(beN n).toArray⟩ : ByteArray) = t := ⟨_, rfl⟩
  rw [ht] at hbe ⊢
  have HBe := Lib.hid hbe
  clear hbe ht
  go_enter Tryz.func18, Tryz.ntmps18
  go_upto_region 1 with (fail)
  obtain ⟨b, hb⟩ : ∃ b, w.heap.size = b := ⟨_, rfl⟩
  have HW := Lib.hid hb
  rw [hb] at hB ⊢
  clear hb
  generalize w.alloc (.cells #[.bool false, .string ⟨#[]⟩, .slice none 0 0] 40) = W1 at *
  go_wp2_with fail
  refine (HBe.out _).mono ?_
  rintro e w3 ⟨rfl, hg3⟩
  have hB := hB.grown hg3 (by simp)
  have HG3 := Lib.hid (grown_self HG.out hg3 (by simp))
  clear hg3
  go_wp2_with fail
  refine (text_any t _).mono ?_
  rintro e w4 ⟨rfl, hg4⟩
  have hB := hB.grown hg4 (by simp)
  have hG4 := grown_self HG3.out hg4 (by simp)
  have hle : w.heap.size ≤ b := by have := HW.out; omega
  have HG5 := Lib.hid (only_set (only_set (only_set hG4 (p := ⟨b, 0, none⟩) hle (.bool false)) (p := ⟨b, 1, none⟩) hle (.string t)) (p := ⟨b, 2, none⟩) hle (.slice none 0 0))
  have HB5 := Lib.hid (((hB.set_ 0 (.bool false)).set_ 1 (.string t)).set_ 2 (.slice none 0 0))
  have c0 := hB.cell 0; have c1 := hB.cell 1; have c2 := hB.cell 2
  have d0 := hB.frozen 0; have d1 := hB.frozen 1; have d2 := hB.frozen 2
  simp only [List.getElem?_toArray, List.getElem?_cons_zero, List.getElem?_cons_succ] at c0 c1 c2
  clear hg4 hG4 hB hle
  go_wp2_with fail
  refine bodyPost_ret (results_cell1 (fn := Tryz.f18) rfl _ _ _ _ rfl (load_itemF HB5.out)) rfl ?_
  exact ⟨rfl, HG5.out⟩
end Go.Proofs.YtagjpbcmhaekpaaGreatDoor
/- Yes or no, an address, bytes of an item; a list. -/
namespace Go.Proofs.YtagjpbcmhaekpaaGreatDoor
open Go.RowKit Go.Shelf
set_option linter.unusedVariables false
set_option linter.unusedSimpArgs false

def yesS (v : Bool) : ByteArray := if v then ⟨#[1]⟩ else ⟨#[]⟩
def yesE (s : ByteArray) : Int := if s = ⟨#[]⟩ ∨ s = ⟨#[1]⟩ then 0 else 2
def yesV (s : ByteArray) : Bool := s = ⟨#[1]⟩
theorem str_eqT {a b : ByteArray} (h : a = b) : (a.toList == b.toList) = true := by rw [h]; simp
theorem isE_of {a : ByteArray} (h : a ≠ ⟨#[]⟩) : a.toList.isEmpty = false ∧ (a.toList == []) = false ∧ (a.toList != []) = true := by
  have h0 : a.toList ≠ [] := fun e => h (ba_ext (by rw [← Lib.toList_data, e]))
  refine ⟨?_, by simpa using h0, by simpa using h0⟩
  cases hq : a.toList with
  | nil => exact absurd hq h0
  | cons x l => rfl
def addrE (s : ByteArray) : Int := if s = ⟨#[]⟩ ∨ s.size = 20 then 0 else 2
def addrV (s : ByteArray) : ByteArray := if addrE s = 0 then s else ⟨#[]⟩
set_option maxRecDepth 100000 in
theorem list_any (sv : Value) (hsv : ∃ A n c, sv = .slice A n c) (w : World) :
    Calls Tryz.prog 16 #[sv] w fun e w' => e = .returned (.agg #[.bool true, .string ⟨#[]⟩, sv]) ∧ w.grownBy w' none := by
  obtain ⟨A, n, c, rfl⟩ := hsv
  have hB := Blk.new w 40 #[.bool true, .string ⟨#[]⟩, .slice A n c]
  have hG := only_alloc (World.grownBy.refl w none) (.cells #[.bool true, .string ⟨#[]⟩, .slice A n c] 40)
  go_enter Tryz.func16, Tryz.ntmps16
  go_wp2_with fail
  refine bodyPost_ret (results_cell1 (fn := Tryz.f16) rfl _ _ _ _ rfl (load_itemF hB)) rfl ?_
  exact ⟨rfl, hG⟩
end Go.Proofs.YtagjpbcmhaekpaaGreatDoor
/- An item's yes or no, its address, its bytes. -/
namespace Go.Proofs.YtagjpbcmhaekpaaGreatDoor
open Go.RowKit Go.Shelf
set_option linter.unusedVariables false
set_option linter.unusedSimpArgs false

set_option maxRecDepth 100000 in
set_option maxHeartbeats 1000000 in
theorem ofText_any (p q : Addr) (l : Bool) (s : ByteArray) (sv : Value) (w : World) (E : Int) (v : ByteArray) (hU : ∀ W, w.grownBy W none → Calls Tryz.prog 55 #[.string s, .pointer (some p), .pointer (some q)] W fun e w' => e = .returned (.tuple #[.string v, .int .i64 E]) ∧ w' = W) :
    Calls Tryz.prog 54 #[.agg #[.bool l, .string s, sv], .func (Fn.func 55) #[] #[.pointer (some p), .pointer (some q)]] w fun e w' => e = .returned (.tuple #[.string (if l = false ∧ E = 0 then v else ⟨#[]⟩), .int .i64 (if l then 2 else E)]) ∧ w.grownBy w' none := by
  have hB := Blk.new w 40 #[.bool l, .string s, sv]
  have hG := only_alloc (World.grownBy.refl w none) (.cells #[.bool l, .string s, sv] 40)
  have HU := Lib.hid hU; have HG := Lib.hid hG
  clear hU hG
  obtain ⟨m, hm⟩ : ∃ m, (if l = false ∧ E = 0 then v else ⟨#[]⟩) = m := ⟨_, rfl⟩
  rw [hm]
  have HM := Lib.hid hm
  clear hm
  cases l with
  | true =>
    obtain rfl : ⟨#[]⟩ = m := HM.out
    rw [show (if true = true then (2 : Int) else E) = 2 from rfl]
    clear HU HM
    go_enter Tryz.func54, Tryz.ntmps54
    go_upto_region 1 with (fail)
    obtain ⟨b, hb⟩ : ∃ b, w.heap.size = b := ⟨_, rfl⟩
    rw [hb] at hB ⊢
    generalize w.alloc (.cells #[.bool true, .string s, sv] 40) = W1 at *
    have c0 := hB.cell 0
    simp only [List.getElem?_toArray, List.getElem?_cons_zero, List.getElem?_cons_succ] at c0
    go_wp2_with fail
    go_ret2
    exact ⟨rfl, HG.out⟩
  | false =>
    rw [show (if false = true then (2 : Int) else E) = E from rfl]
    go_enter Tryz.func54, Tryz.ntmps54
    go_upto_region 1 with (fail)
    obtain ⟨b, hb⟩ : ∃ b, w.heap.size = b := ⟨_, rfl⟩
    rw [hb] at hB ⊢
    generalize w.alloc (.cells #[.bool false, .string s, sv] 40) = W1 at *
    have c0 := hB.cell 0; have c1 := hB.cell 1
    simp only [List.getElem?_toArray, List.getElem?_cons_zero, List.getElem?_cons_succ] at c0 c1
    go_wp2_with fail
    refine (HU.out _ HG.out).mono ?_
    rintro e w3 ⟨rfl, hw3⟩
    rw [hw3]
    clear hw3 c0 c1 hB HU
    by_cases h0 : E = 0
    · subst h0
      obtain rfl : v = m := HM.out
      clear HM
      go_wp2_with fail
      go_ret2
      exact ⟨rfl, HG.out⟩
    · have g1 : (E != 0) = true := by simpa using h0
      obtain rfl : ⟨#[]⟩ = m := by have := HM.out; rwa [if_neg (fun h => h0 h.2)] at this
      clear HM
      go_wp2_with fail
      go_ret2
      exact ⟨rfl, HG.out⟩
def textE (n : Nat) (least most : Int) : Int := if (n : Int) < least then 3 else if most < (n : Int) then 5 else 0
set_option maxRecDepth 100000 in
set_option maxHeartbeats 1000000 in
theorem getText1_any (s : ByteArray) (ga gb : Nat) (least most : Int) (W : World) (h1 : W.cell? ⟨ga, 0, none⟩ = some (.int .i64 least)) (h2 : W.cell? ⟨gb, 0, none⟩ = some (.int .i64 most)) :
    Calls Tryz.prog 55 #[.string s, .pointer (some ⟨ga, 0, none⟩), .pointer (some ⟨gb, 0, none⟩)] W fun e w' => e = .returned (.tuple #[.string s, .int .i64 (textE s.size least most)]) ∧ w' = W := by
  have hw := fun V => within_any (s.size : Int) least most V
  obtain ⟨E, hE⟩ : ∃ E, textE s.size least most = E := ⟨_, rfl⟩
  unfold textE at hE
  rw [hE] at hw
  rw [show textE s.size least most = E from hE]
  have HW := Lib.hid hw
  clear hw hE
  go_enter Tryz.func55, Tryz.ntmps55
  go_wp2_with fail
  refine (HW.out _).mono ?_
  rintro e w3 ⟨rfl, hw3⟩
  rw [hw3]
  clear hw3
  go_wp2_with fail
  go_ret2
  exact ⟨rfl, rfl⟩
set_option maxRecDepth 100000 in
set_option maxHeartbeats 1000000 in
theorem getText_any (l : Bool) (s : ByteArray) (sv : Value) (least most : Int) (w : World) :
    Calls Tryz.prog 35 #[.agg #[.bool l, .string s, sv], .int .i64 least, .int .i64 most] w fun e w' => e = .returned (.tuple #[.string (if l = false ∧ textE s.size least most = 0 then s else ⟨#[]⟩), .int .i64 (if l then 2 else textE s.size least most)]) ∧ w.grownBy w' none := by
  have hG := only_alloc (only_alloc (only_alloc (World.grownBy.refl w none) (.cells #[.bool l, .string s, sv] 40)) (.cells #[.int .i64 least] 3)) (.cells #[.int .i64 most] 3)
  have hB1 := Blk.new (w.alloc (.cells #[.bool l, .string s, sv] 40)) 3 #[.int .i64 least]
  have hB1 := hB1.alloc (.cells #[.int .i64 most] 3)
  have hB2 := Blk.new ((w.alloc (.cells #[.bool l, .string s, sv] 40)).alloc (.cells #[.int .i64 least] 3)) 3 #[.int .i64 most]
  rw [World.size_alloc] at hB1
  rw [World.size_alloc, World.size_alloc] at hB2
  have ho := fun V (hV1 : Blk V (w.heap.size + 1) 3 #[.int .i64 least]) (hV2 : Blk V (w.heap.size + 1 + 1) 3 #[.int .i64 most]) => ofText_any ⟨w.heap.size + 1, 0, none⟩ ⟨w.heap.size + 1 + 1, 0, none⟩ l s sv V (textE s.size least most) s (fun U hU => getText1_any s (w.heap.size + 1) (w.heap.size + 1 + 1) least most U ((hV1.grown hU (by simp)).cell 0) ((hV2.grown hU (by simp)).cell 0))
  obtain ⟨m, hm⟩ : ∃ m, (if l = false ∧ textE s.size least most = 0 then s else ⟨#[]⟩) = m := ⟨_, rfl⟩
  obtain ⟨q, hq⟩ : ∃ q, (if l then 2 else textE s.size least most) = q := ⟨_, rfl⟩
  rw [hm, hq] at ho
  rw [hm, hq]
  have HO := Lib.hid (ho _ hB1 hB2)
  have HG := Lib.hid hG
  clear ho hm hq hB1 hB2 hG
  go_enter Tryz.func35, Tryz.ntmps35
  go_wp2_with fail
  refine HO.out.mono ?_
  rintro e w3 ⟨rfl, hg3⟩
  have HG3 := Lib.hid (grown_self HG.out hg3 (by simp))
  clear hg3 HO
  go_wp2_with fail
  go_ret2
  exact ⟨rfl, HG3.out⟩
end Go.Proofs.YtagjpbcmhaekpaaGreatDoor
/- A word as an item, and read again; a list's items. -/
namespace Go.Proofs.YtagjpbcmhaekpaaGreatDoor
open Go.RowKit Go.Shelf
set_option linter.unusedVariables false
set_option linter.unusedSimpArgs false

abbrev wZ : Array Value := #[.int .u64 0, .int .u64 0, .int .u64 0, .int .u64 0]
theorem only_set4 {a W : World} {b : Nat} (h : a.grownBy W none) (hb : a.heap.size ≤ b) (x y z u : Value) : a.grownBy ((((W.setCell ⟨b, 0, none⟩ x).setCell ⟨b, 1, none⟩ y).setCell ⟨b, 2, none⟩ z).setCell ⟨b, 3, none⟩ u) none :=
  only_set (only_set (only_set (only_set h (p := ⟨b, 0, none⟩) hb x) (p := ⟨b, 1, none⟩) hb y) (p := ⟨b, 2, none⟩) hb z) (p := ⟨b, 3, none⟩) hb u
theorem blk_set4 {W : World} {b : Nat} {t : TypeId} {p q r s : Value} (h : Blk W b t #[p, q, r, s]) (x y z u : Value) : Blk ((((W.setCell ⟨b, 0, none⟩ x).setCell ⟨b, 1, none⟩ y).setCell ⟨b, 2, none⟩ z).setCell ⟨b, 3, none⟩ u) b t #[x, y, z, u] :=
  (((h.set_ 0 x).set_ 1 y).set_ 2 z).set_ 3 u

set_option maxRecDepth 100000 in
set_option maxHeartbeats 1000000 in
theorem getList_any (l : Bool) (s : ByteArray) (A : Option Addr) (n c : Nat) (least most : Int) (w : World) :
    Calls Tryz.prog 32 #[.agg #[.bool l, .string s, .slice A n c], .int .i64 least, .int .i64 most] w fun e w' => e = .returned (.tuple #[if l = true ∧ textE n least most = 0 then .slice A n c else .slice none 0 0, .int .i64 (if l then textE n least most else 2)]) ∧ w.grownBy w' none := by
  have hB := Blk.new w 40 #[.bool l, .string s, .slice A n c]
  have HG := Lib.hid (only_alloc (World.grownBy.refl w none) (.cells #[.bool l, .string s, .slice A n c] 40))
  cases l with
  | false =>
    rw [show (if false = true ∧ textE n least most = 0 then Value.slice A n c else .slice none 0 0) = .slice none 0 0 from if_neg (by simp), show (if false = true then textE n least most else 2) = 2 from rfl]
    go_enter Tryz.func32, Tryz.ntmps32
    go_upto_region 1 with (fail)
    obtain ⟨b, hb⟩ : ∃ b, w.heap.size = b := ⟨_, rfl⟩
    rw [hb] at hB ⊢
    generalize w.alloc (.cells #[.bool false, .string s, .slice A n c] 40) = W1 at *
    have c0 := hB.cell 0
    simp only [List.getElem?_toArray, List.getElem?_cons_zero, List.getElem?_cons_succ] at c0
    go_wp2_with fail
    go_ret2
    exact ⟨rfl, HG.out⟩
  | true =>
    have hw := fun V => within_any (n : Int) least most V
    obtain ⟨E, hE⟩ : ∃ E, textE n least most = E := ⟨_, rfl⟩
    rw [show (if true = true then textE n least most else 2) = textE n least most from rfl, hE]
    obtain ⟨m, hm⟩ : ∃ m, (if true = true ∧ E = 0 then Value.slice A n c else .slice none 0 0) = m := ⟨_, rfl⟩
    rw [hm]
    unfold textE at hE
    rw [hE] at hw
    have HW := Lib.hid hw; have HM := Lib.hid hm
    clear hw hm hE
    go_enter Tryz.func32, Tryz.ntmps32
    go_upto_region 1 with (fail)
    obtain ⟨b, hb⟩ : ∃ b, w.heap.size = b := ⟨_, rfl⟩
    rw [hb] at hB ⊢
    generalize w.alloc (.cells #[.bool true, .string s, .slice A n c] 40) = W1 at *
    have c0 := hB.cell 0; have c2 := hB.cell 2
    simp only [List.getElem?_toArray, List.getElem?_cons_zero, List.getElem?_cons_succ] at c0 c2
    go_wp2_with fail
    refine (HW.out _).mono ?_
    rintro e w3 ⟨rfl, hw3⟩
    rw [hw3]
    clear hw3
    by_cases h0 : E = 0
    · subst h0
      have hm : Value.slice A n c = m := HM.out
      clear HM
      go_wp2_with fail
      go_ret2
      exact ⟨by rw [← hm]; rfl, HG.out⟩
    · have g1 : (E != 0) = true := by simpa using h0
      have hm : Hid (Value.slice none 0 0 = m) := Lib.hid (by have := HM.out; rwa [if_neg (fun h => h0 h.2)] at this)
      clear HM
      go_wp2_with fail
      go_ret2
      exact ⟨by rw [← hm.out]; rfl, HG.out⟩

end Go.Proofs.YtagjpbcmhaekpaaGreatDoor
/- A word as an item, and read again. -/
namespace Go.Proofs.YtagjpbcmhaekpaaGreatDoor
open Go.RowKit Go.Shelf
set_option linter.unusedVariables false
set_option linter.unusedSimpArgs false

/-- an item's word -/
def wordE (l : Bool) (s : ByteArray) : Int := if l then 2 else parseE s.data.toList
def wordP (l : Bool) (s : ByteArray) (q : Nat) : Nat := if l then 0 else parseP s.data.toList q

end Go.Proofs.YtagjpbcmhaekpaaGreatDoor
/- What is written is read again; what is read is written just so: plain laws of fields. -/
namespace Go.Proofs.YtagjpbcmhaekpaaGreatDoor
open Go.RowKit Go.Shelf
set_option linter.unusedVariables false
set_option linter.unusedSimpArgs false

theorem numE_false (s : ByteArray) : numE false s = unbeE s.data.toList := rfl
theorem wordE_false (s : ByteArray) : wordE false s = parseE s.data.toList := rfl
theorem wordP_false (s : ByteArray) (q : Nat) : wordP false s q = parseP s.data.toList q := rfl
theorem number_back (n : Nat) (hn : n < 18446744073709551616) (b : ByteArray) (hb : b.data.toList = beN n) : numE false b = 0 ∧ numV false b = n := by
  have hlen := beN_len8 n hn
  have h256 : n < 256 ^ 32 := Nat.lt_of_lt_of_le hn (by decide)
  obtain ⟨p1, p2⟩ := parse_beN n h256
  have p2 := p2 0
  have hw : wp n 0 = n := by
    unfold wp
    rw [Nat.mul_zero, Nat.pow_zero, Nat.div_one]
    exact Nat.mod_eq_of_lt hn
  rw [hw] at p2
  rw [← hb] at hlen p1 p2
  have h1 : numE false b = 0 := by
    rw [numE_false]; unfold unbeE; rw [if_neg (by omega), p1]
  refine ⟨h1, ?_⟩
  unfold numV
  rw [if_pos h1]
  unfold unbeN
  rw [if_neg (by omega), p2]
theorem word_back (a0 a1 a2 a3 : Nat) (h0 : a0 < 18446744073709551616) (h1 : a1 < 18446744073709551616) (h2 : a2 < 18446744073709551616) (h3 : a3 < 18446744073709551616) (b : ByteArray) (hb : b.data.toList = beN (wordN a0 a1 a2 a3)) :
    wordE false b = 0 ∧ wordP false b 0 = a0 ∧ wordP false b 1 = a1 ∧ wordP false b 2 = a2 ∧ wordP false b 3 = a3 := by
  obtain ⟨p1, p2⟩ := parse_beN _ (word_lt a0 a1 a2 a3 h0 h1 h2 h3)
  obtain ⟨w0, w1, w2, w3⟩ := wp_word a0 a1 a2 a3 h0 h1 h2 h3
  have q0 := p2 0; have q1 := p2 1; have q2 := p2 2; have q3 := p2 3
  rw [w0] at q0; rw [w1] at q1; rw [w2] at q2; rw [w3] at q3
  rw [← hb] at p1 q0 q1 q2 q3
  exact ⟨by rw [wordE_false]; exact p1, by rw [wordP_false]; exact q0, by rw [wordP_false]; exact q1, by rw [wordP_false]; exact q2, by rw [wordP_false]; exact q3⟩
theorem yes_back (v : Bool) : yesE (yesS v) = 0 ∧ yesV (yesS v) = v := by
  cases v
  · exact ⟨if_pos (.inl rfl), decide_eq_false (by intro e; injection e with e; cases e)⟩
  · exact ⟨if_pos (.inr rfl), decide_eq_true rfl⟩
theorem text_back6 (n : Nat) : textE n n n = 0 := by unfold textE; rw [if_neg (by omega), if_neg (by omega)]
theorem number_only {l : Bool} {s : ByteArray} (h : numE l s = 0) : l = false ∧ beN (numV l s) = s.data.toList := by
  cases l with
  | true => exact absurd h (by show ¬ (2 : Int) = 0; decide)
  | false =>
    refine ⟨rfl, ?_⟩
    have hV : numV false s = unbeN s.data.toList := if_pos h
    have h : unbeE s.data.toList = 0 := h
    unfold unbeE at h
    split at h
    · cases h
    rename_i h1
    have hN : unbeN s.data.toList = parseP s.data.toList 0 := if_neg h1
    have hC := parseC_short (l := s.data.toList) (by omega)
    unfold parseC at hC
    simp only [Array.mk.injEq, List.cons.injEq, Value.int.injEq, true_and, and_true] at hC
    have ho := parse_only h
    rw [show parseP s.data.toList 1 = 0 by omega, show parseP s.data.toList 2 = 0 by omega, show parseP s.data.toList 3 = 0 by omega] at ho
    rw [hV, hN]
    have e : wordN (parseP s.data.toList 0) 0 0 0 = parseP s.data.toList 0 := by unfold wordN; omega
    rw [e] at ho
    exact ho
theorem word_only {l : Bool} {s : ByteArray} (h : wordE l s = 0) : l = false ∧ beN (wordN (wordP l s 0) (wordP l s 1) (wordP l s 2) (wordP l s 3)) = s.data.toList := by
  cases l with
  | true => exact absurd h (by show ¬ (2 : Int) = 0; decide)
  | false =>
    rw [wordE_false] at h
    rw [wordP_false, wordP_false, wordP_false, wordP_false]
    exact ⟨rfl, parse_only h⟩
theorem yes_only {s : ByteArray} (h : yesE s = 0) : yesS (yesV s) = s := by
  unfold yesE at h
  split at h
  · rename_i h1
    rcases h1 with e | e
    · subst e; rw [show yesV ⟨#[]⟩ = false from decide_eq_false (by intro e; injection e with e; cases e)]; rfl
    · subst e; rw [show yesV ⟨#[1]⟩ = true from decide_eq_true rfl]; rfl
  · cases h
end Go.Proofs.YtagjpbcmhaekpaaGreatDoor
/- Pieces for an append through a struct's field, in a region that draws. -/
namespace Go.Proofs.YtagjpbcmhaekpaaGreatDoor
open Go.RowKit Go.Shelf
set_option linter.unusedSimpArgs false
/-- the blocks of a set lie as they lay; nothing is said to the outside -/
structure KeepsW (S : Nat → Prop) (W W' : World) : Prop where
  os : W'.os = W.os
  tape : W'.tape = W.tape
  output : W'.output = W.output
  size : W.heap.size ≤ W'.heap.size
  block : ∀ k, S k → W'.heap[k]? = W.heap[k]?
theorem item_info : (Tryz.prog.info? 40).map (fun i => (i.zero, i.size, i.bytes)) = some (some (.agg #[.bool false, .string .empty, .slice none 0 0]), 3, 48) := by kernel_rfl
theorem exec_load3 {W : World} {a : Act} {o : Oper} {b off : Nat} {x0 x1 x2 : Value} (x : Operand) (ho : o.op = .load 40 x) (hx : a.eval x = .pointer (some ⟨b, off, none⟩))
    (c0 : W.cell? ⟨b, off, none⟩ = some x0) (c1 : W.cell? ⟨b, off + 1, none⟩ = some x1) (c2 : W.cell? ⟨b, off + 2, none⟩ = some x2) :
    (execOp a.eval o).run Tryz.prog W = .ok (.value (.agg #[x0, x1, x2])) W := by
  have hagg := Tryz.isAgg40
  have hsz := Tryz.sizeOf40
  unfold execOp
  simp only [ho, hx]
  simp [go_sem, c0, c1, c2, hagg, hsz]
theorem exec_load1 {P : Program} {a : Act} {o : Oper} {W : World} (ty : TypeId) (x : Operand) (ho : o.op = .load ty x) (p : Addr) (hx : a.eval x = .pointer (some p)) (v : Value) (d : TypeDesc)
    (hu : P.underlying ty = some d) (hd : (match d with | .struct _ | .array _ _ => true | _ => false) = false) (hc : W.cell? p = some v) : (execOp a.eval o).run P W = .ok (.value v) W := by
  unfold execOp
  simp only [ho, hx, Instr.loadAt, Instr.sureAddr, Sem.run_bind, Sem.run_pure, Result.andThen_ok, load_cell hu hd hc]

theorem held_store {P : Program} {ops : Array Oper} {md : Region.Mode} {Q : Exit → Act → World → Prop} {S : World → Prop} {i fuel : Nat} {listed : Array Bool} {oi : Oper} {a : Act} {w w' : World} (hi : ops[i]? = some oi) (hw : Region.wanted oi (yielded ops a.tmps) = true) (hrun : (execOp a.eval oi).run P w = .ok .skip w') (hS : S w')
    (h : wpAnyH P md ops Q S fuel (listed.setIfInBounds i true) (a.put oi.dst undef) w') : wpOp P ops Q i (Behind P ops md Q S fuel listed i) a w := by
  unfold wpOp
  simp only [hi, hw, if_true]
  refine .inl ?_
  unfold Oper.wp
  rw [hrun]
  exact ⟨hS, h⟩
/-- an item is stored, cell by cell -/
theorem exec_store3 {W : World} {a : Act} {o : Oper} {g off : Nat} {cur : Array Value} {t : TypeId} {b0 : Bool} {s0 : ByteArray} {A : Option Addr} {n c : Nat} (x y : Operand) (ho : o.op = .store 40 x y) (hx : a.eval x = .pointer (some ⟨g, off, none⟩)) (hy : a.eval y = .agg #[.bool b0, .string s0, .slice A n c])
    (hb : Blk W g t cur) (hsz : off + 2 < cur.size) :
    (execOp a.eval o).run Tryz.prog W = .ok .skip (((W.setCell ⟨g, off, none⟩ (.bool b0)).setCell ⟨g, off + 1, none⟩ (.string s0)).setCell ⟨g, off + 2, none⟩ (.slice A n c)) := by
  have hsz' := Tryz.sizeOf40
  have c0 : W.cell? ⟨g, off, none⟩ = some cur[off] := by rw [hb.cell]; exact Array.getElem?_eq_getElem (by omega)
  have c1 : W.cell? ⟨g, off + 1, none⟩ = some cur[off + 1] := by rw [hb.cell]; exact Array.getElem?_eq_getElem (by omega)
  have c2 : W.cell? ⟨g, off + 2, none⟩ = some cur[off + 2] := by rw [hb.cell]; exact Array.getElem?_eq_getElem (by omega)
  have f0 := hb.frozen off; have f1 := hb.frozen (off + 1); have f2 := hb.frozen (off + 2)
  unfold execOp
  simp only [ho, hx, hy]
  simp [go_sem, c0, c1, c2, f0, f1, f2, hsz']
/-- the last item of an owned row is set -/
theorem own_last {W : World} {base g cap k : Nat} {cells : List Value} {z0 z1 z2 : Value} (x0 x1 x2 : Value) (hl : cells.length = k * 3) (h : W.ownsRow base 40 3 (.slice (some ⟨g, 0, none⟩) (k + 1) cap) (k + 1) (cells ++ [z0, z1, z2])) :
    ∃ cur, Blk W g 40 cur ∧ k * 3 + 2 < cur.size ∧ (((W.setCell ⟨g, k * 3, none⟩ x0).setCell ⟨g, k * 3 + 1, none⟩ x1).setCell ⟨g, k * 3 + 2, none⟩ x2).ownsRow base 40 3 (.slice (some ⟨g, 0, none⟩) (k + 1) cap) (k + 1) (cells ++ [x0, x1, x2]) := by
  rcases h.2 with ⟨hv, _⟩ | ⟨g', cap', cur, hv, hb, hh, hn, hc, hz, hx⟩
  · cases hv
  simp only [Value.slice.injEq, Option.some.injEq, Addr.mk.injEq] at hv
  obtain ⟨⟨rfl, _, _⟩, _, rfl⟩ := hv
  have hB : Blk W g 40 cur := hh
  have hsz : k * 3 + 2 < cur.size := by
    have : (k + 1) * 3 ≤ cap * 3 := Nat.mul_le_mul_right _ hn
    omega
  refine ⟨cur, hB, hsz, by simp [hl]; omega, .inr ⟨g, cap, _, rfl, hb, ((hB.set_ (k * 3) x0).set_ (k * 3 + 1) x1).set_ (k * 3 + 2) x2, hn, hc, by simpa using hz, ?_⟩⟩
  refine List.ext_getElem? fun j => ?_
  have hxj : ∀ j, j < (k + 1) * 3 → cur[j]? = (cells ++ [z0, z1, z2])[j]? := fun j hj => by rw [← hx, List.getElem?_take_of_lt hj]; simp
  by_cases hj : j < (k + 1) * 3
  · rw [List.getElem?_take_of_lt hj, Array.getElem?_toList, Array.getElem?_setIfInBounds, Array.getElem?_setIfInBounds, Array.getElem?_setIfInBounds]
    by_cases h1 : j < k * 3
    · rw [if_neg (by omega), if_neg (by omega), if_neg (by omega), hxj j hj, List.getElem?_append_left (by omega), List.getElem?_append_left (by omega)]
    · rw [List.getElem?_append_right (by omega), hl]
      obtain ⟨q, rfl⟩ : ∃ q, j = k * 3 + q := ⟨j - k * 3, by omega⟩
      rw [show k * 3 + q - k * 3 = q by omega]
      have hq : q = 0 ∨ q = 1 ∨ q = 2 := by omega
      rcases hq with rfl | rfl | rfl
      · rw [if_neg (by omega), if_neg (by omega), if_pos (by omega)]; simp; omega
      · rw [if_neg (by omega), if_pos (by omega)]; simp; omega
      · rw [if_pos (by omega)]; simp; omega
  · rw [List.getElem?_eq_none (by rw [List.length_take]; simp; omega), List.getElem?_eq_none (by simp [hl]; omega)]

theorem exec_append {P : Program} {a : Act} {o : Oper} {w w' : World} (x y : Operand) (t : TypeId) (ho : o.op = .call { callee := .builtin .append, args := #[x, y], argTypes := #[t, t] }) (v u v' : Value) (hx : a.eval x = v) (hy : a.eval y = u) (hr : (Builtin.append_ #[t, t] o.type #[v, u]).run P w = .ok v' w') : (execOp a.eval o).run P w = .ok (.value v') w' := by
  unfold execOp
  simp only [ho, resolve, invoke, builtin, Sem.run_bind, Sem.run_pure, Result.andThen_ok, List.map_toArray, List.map_cons, List.map_nil, hx, hy, hr]
theorem own_far {W : World} {base g size n cap : Nat} {e : TypeId} {xs : List Value} (h : W.ownsRow base e size (.slice (some ⟨g, 0, none⟩) n cap) n xs) {p : Addr} (hp : g ≠ p.block) (u : Value) : (W.setCell p u).ownsRow base e size (.slice (some ⟨g, 0, none⟩) n cap) n xs := by
  refine ⟨h.1, ?_⟩
  rcases h.2 with h1 | ⟨g', cap', cur, hv, hb, hh, rest⟩
  · exact .inl h1
  · refine .inr ⟨g', cap', cur, hv, hb, ?_, rest⟩
    have : g = g' := by injection hv with h1; injection h1 with h1; injection h1
    subst this
    exact (Below.heap_setCell W p u g hp).trans hh
theorem KeepsW.set {S : Nat → Prop} {W W' : World} (h : KeepsW S W W') {p : Addr} (hp : ¬ S p.block) (u : Value) : KeepsW S W (W'.setCell p u) :=
  ⟨h.os, h.tape, h.output, by simpa [World.setCell] using h.size, fun k hk => (Below.heap_setCell W' p u k (fun e => hp (e ▸ hk))).trans (h.block k hk)⟩
theorem exec_store1 {W : World} {a : Act} {o : Oper} {g off : Nat} {cur : Array Value} {t : TypeId} {A : Option Addr} {n c : Nat} (x y : Operand) (ho : o.op = .store 38 x y) (hx : a.eval x = .pointer (some ⟨g, off, none⟩)) (hy : a.eval y = .slice A n c)
    (hb : Blk W g t cur) (hsz : off < cur.size) : (execOp a.eval o).run Tryz.prog W = .ok .skip (W.setCell ⟨g, off, none⟩ (.slice A n c)) := by
  have c0 : W.cell? ⟨g, off, none⟩ = some cur[off] := by rw [hb.cell]; exact Array.getElem?_eq_getElem (by omega)
  have f0 := hb.frozen off
  have hu := Tryz.underlying38
  have hagg := Tryz.isAgg38
  unfold execOp
  simp only [ho, hx, hy]
  simp [go_sem, c0, f0]
theorem own_slice3 {w : World} {base : Nat} {e : TypeId} {size : Nat} {v : Value} {n : Nat} {xs : List Value} (h : w.ownsRow base e size v n xs) : ∃ A c, v = .slice A n c := by
  rcases h.2 with ⟨rfl, h0⟩ | ⟨g, cap, cur, rfl, _⟩
  · exact ⟨none, 0, by rw [h0]⟩
  · exact ⟨_, _, rfl⟩
theorem own_newB {w : World} {base : Nat} {e : TypeId} {size : Nat} {v : Value} {k : Nat} {xs : List Value} (h : w.ownsRow base e size v k xs) : v.ownBlock ≠ some w.heap.size := by
  rcases h.2 with ⟨rfl, _⟩ | ⟨g, cap, cur, rfl, _, hh, _⟩
  · simp [Value.ownBlock]
  · intro e'
    have : g = w.heap.size := by simpa [Value.ownBlock] using e'
    subst this
    have := (Array.getElem?_eq_some_iff.1 hh).1
    omega
theorem own_ltB {w : World} {base : Nat} {e : TypeId} {size : Nat} {v : Value} {k g : Nat} {xs : List Value} (h : w.ownsRow base e size v k xs) (hg : v.ownBlock = some g) : g < w.heap.size := by
  rcases h.2 with ⟨rfl, _⟩ | ⟨g', cap, cur, rfl, _, hh, _⟩
  · simp [Value.ownBlock] at hg
  · obtain rfl : g' = g := by simpa [Value.ownBlock] using hg
    exact (Array.getElem?_eq_some_iff.1 hh).1
theorem cell_three_new (W : World) (x0 x1 x2 : Value) (t : TypeId) : ∀ (j : Nat) (u : Value), [x0, x1, x2][j]? = some u → (W.alloc (.cells #[x0, x1, x2] t)).cell? ((⟨W.heap.size, 0, none⟩ : Addr).add j) = some u := by
  intro j u hj
  have hb := Blk.new W t #[x0, x1, x2]
  have := hb.cell j
  rw [Addr.add_mid, Nat.zero_add, this]
  simpa using hj

/-- an item that is being made: its block, and its row so far -/
structure Held3 (w : World) (b3 : Nat) (v : Value) (k : Nat) (cells : List Value) (u : World) : Prop where
  blk : Blk u b3 40 #[.bool true, .string ⟨#[]⟩, v]
  own : u.ownsRow (b3 + 1) 40 3 v k cells
  grown : w.grownBy u none
  size : b3 + 1 ≤ u.heap.size
  low : w.heap.size ≤ b3
theorem Held3.kept {w u u' : World} {b3 k : Nat} {v : Value} {cells : List Value} (h : Held3 w b3 v k cells u) (hg : u.grownBy u' none) : Held3 w b3 v k cells u' := by
  obtain ⟨A, c, rfl⟩ := own_slice3 h.own
  refine ⟨h.blk.grown hg (by simp), h.own.kept hg (by cases A; exact .inl rfl; exact .inr (by simp [Value.ownBlock])), grown_self h.grown hg (by simp), ?_, h.low⟩
  have := hg.size; have := h.size; omega
theorem Held3.drew {w u : World} {b3 k : Nat} {v : Value} {cells : List Value} (h : Held3 w b3 v k cells u) : Held3 w b3 v k cells u.drew := h.kept (only_drew (World.grownBy.refl u none))
theorem Held3.drewN {w u : World} {b3 k : Nat} {v : Value} {cells : List Value} (h : Held3 w b3 v k cells u) (n : Nat) : Held3 w b3 v k cells (u.drewN n) := h.kept (only_drewN (World.grownBy.refl u none) n)
theorem Held3.put {w u u2 : World} {b3 k g' cap' : Nat} {v : Value} {cells news : List Value} (h : Held3 w b3 v k cells u) (hown : u2.ownsRow (b3 + 1) 40 3 (.slice (some ⟨g', 0, none⟩) (k + 1) cap') (k + 1) news) (hg : u.grownBy u2 v.ownBlock) :
    Held3 w b3 (.slice (some ⟨g', 0, none⟩) (k + 1) cap') (k + 1) news (u2.setCell ⟨b3, 2, none⟩ (.slice (some ⟨g', 0, none⟩) (k + 1) cap')) := by
  have hge : b3 + 1 ≤ g' := ownBlock_ge hown rfl
  have hb := (h.blk.grown hg (fun e => by have := ownBlock_ge h.own e.symm; omega)).set_ 2 (.slice (some ⟨g', 0, none⟩) (k + 1) cap')
  refine ⟨by simpa using hb, own_far hown (p := ⟨b3, 2, none⟩) (by show g' ≠ b3; omega) _, only_set (grown_self h.grown hg (fun j hj => .inr (by have := ownBlock_ge h.own hj; have := h.low; omega))) (p := ⟨b3, 2, none⟩) h.low _, ?_, h.low⟩
  have := hg.size; have := h.size; simp [World.setCell]; omega
end Go.Proofs.YtagjpbcmhaekpaaGreatDoor
