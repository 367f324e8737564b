/- Merged: FldC, FldD, FldE, FldL, App, FldT, FldV. -/
import Derived.Test.YtagjpbcmhaekpaaDoorMg5
import Derived.Maps.AppendAt
/- An item's yes or no, its address, its bytes. -/
namespace Go.Proofs.YtagjpbcmhaekpaaDoor
open Go.RowKit Go.Shelf
set_option linter.unusedVariables false
set_option linter.unusedSimpArgs false

set_option maxRecDepth 100000 in
set_option maxHeartbeats 1000000 in
theorem ofText_any (p q : Addr) (l : Bool) (s : ByteArray) (sv : Value) (w : World) (E : Int) (v : ByteArray) (hU : ∀ W, w.grownBy W none → Calls Tryd.prog 38 #[.string s, .pointer (some p), .pointer (some q)] W fun e w' => e = .returned (.tuple #[.string v, .int .i64 E]) ∧ w' = W) :
    Calls Tryd.prog 37 #[.agg #[.bool l, .string s, sv], .func (Fn.func 38) #[] #[.pointer (some p), .pointer (some q)]] w fun e w' => e = .returned (.tuple #[.string (if l = false ∧ E = 0 then v else ⟨#[]⟩), .int .i64 (if l then 2 else E)]) ∧ w.grownBy w' none := by
  have hB := Blk.new w 41 #[.bool l, .string s, sv]
  have hG := only_alloc (World.grownBy.refl w none) (.cells #[.bool l, .string s, sv] 41)
  have HU := Lib.hid hU; have HG := Lib.hid hG
  clear hU hG
  obtain ⟨m, hm⟩ : ∃ m, (if l = false ∧ E = 0 then v else ⟨#[]⟩) = m := ⟨_, rfl⟩
  rw [hm]
  have HM := Lib.hid hm
  clear hm
  cases l with
  | true =>
    obtain rfl : ⟨#[]⟩ = m := HM.out
    rw [show (if true = true then (2 : Int) else E) = 2 from rfl]
    clear HU HM
    go_enter Tryd.func37, Tryd.ntmps37
    go_upto_region 1 with (fail)
    obtain ⟨b, hb⟩ : ∃ b, w.heap.size = b := ⟨_, rfl⟩
    rw [hb] at hB ⊢
    generalize w.alloc (.cells #[.bool true, .string s, sv] 41) = W1 at *
    have c0 := hB.cell 0
    simp only [List.getElem?_toArray, List.getElem?_cons_zero, List.getElem?_cons_succ] at c0
    go_wp2_with fail
    go_ret2
    exact ⟨rfl, HG.out⟩
  | false =>
    rw [show (if false = true then (2 : Int) else E) = E from rfl]
    go_enter Tryd.func37, Tryd.ntmps37
    go_upto_region 1 with (fail)
    obtain ⟨b, hb⟩ : ∃ b, w.heap.size = b := ⟨_, rfl⟩
    rw [hb] at hB ⊢
    generalize w.alloc (.cells #[.bool false, .string s, sv] 41) = W1 at *
    have c0 := hB.cell 0; have c1 := hB.cell 1
    simp only [List.getElem?_toArray, List.getElem?_cons_zero, List.getElem?_cons_succ] at c0 c1
    go_wp2_with fail
    refine (HU.out _ HG.out).mono ?_
    rintro e w3 ⟨rfl, hw3⟩
    rw [hw3]
    clear hw3 c0 c1 hB HU
    by_cases h0 : E = 0
    · subst h0
      obtain rfl : v = m := HM.out
      clear HM
      go_wp2_with fail
      go_ret2
      exact ⟨rfl, HG.out⟩
    · have g1 : (E != 0) = true := by simpa using h0
      obtain rfl : ⟨#[]⟩ = m := by have := HM.out; rwa [if_neg (fun h => h0 h.2)] at this
      clear HM
      go_wp2_with fail
      go_ret2
      exact ⟨rfl, HG.out⟩
def textE (n : Nat) (least most : Int) : Int := if (n : Int) < least then 3 else if most < (n : Int) then 5 else 0
set_option maxRecDepth 100000 in
set_option maxHeartbeats 1000000 in
theorem getText1_any (s : ByteArray) (ga gb : Nat) (least most : Int) (W : World) (h1 : W.cell? ⟨ga, 0, none⟩ = some (.int .i64 least)) (h2 : W.cell? ⟨gb, 0, none⟩ = some (.int .i64 most)) :
    Calls Tryd.prog 38 #[.string s, .pointer (some ⟨ga, 0, none⟩), .pointer (some ⟨gb, 0, none⟩)] W fun e w' => e = .returned (.tuple #[.string s, .int .i64 (textE s.size least most)]) ∧ w' = W := by
  have hw := fun V => within_any (s.size : Int) least most V
  obtain ⟨E, hE⟩ : ∃ E, textE s.size least most = E := ⟨_, rfl⟩
  unfold textE at hE
  rw [hE] at hw
  rw [show textE s.size least most = E from hE]
  have HW := Lib.hid hw
  clear hw hE
  go_enter Tryd.func38, Tryd.ntmps38
  go_wp2_with fail
  refine (HW.out _).mono ?_
  rintro e w3 ⟨rfl, hw3⟩
  rw [hw3]
  clear hw3
  go_wp2_with fail
  go_ret2
  exact ⟨rfl, rfl⟩
set_option maxRecDepth 100000 in
set_option maxHeartbeats 1000000 in
theorem getText_any (l : Bool) (s : ByteArray) (sv : Value) (least most : Int) (w : World) :
    Calls Tryd.prog 24 #[.agg #[.bool l, .string s, sv], .int .i64 least, .int .i64 most] w fun e w' => e = .returned (.tuple #[.string (if l = false ∧ textE s.size least most = 0 then s else ⟨#[]⟩), .int .i64 (if l then 2 else textE s.size least most)]) ∧ w.grownBy w' none := by
  have hG := only_alloc (only_alloc (only_alloc (World.grownBy.refl w none) (.cells #[.bool l, .string s, sv] 41)) (.cells #[.int .i64 least] 3)) (.cells #[.int .i64 most] 3)
  have hB1 := Blk.new (w.alloc (.cells #[.bool l, .string s, sv] 41)) 3 #[.int .i64 least]
  have hB1 := hB1.alloc (.cells #[.int .i64 most] 3)
  have hB2 := Blk.new ((w.alloc (.cells #[.bool l, .string s, sv] 41)).alloc (.cells #[.int .i64 least] 3)) 3 #[.int .i64 most]
  rw [World.size_alloc] at hB1
  rw [World.size_alloc, World.size_alloc] at hB2
  have ho := fun V (hV1 : Blk V (w.heap.size + 1) 3 #[.int .i64 least]) (hV2 : Blk V (w.heap.size + 1 + 1) 3 #[.int .i64 most]) => ofText_any ⟨w.heap.size + 1, 0, none⟩ ⟨w.heap.size + 1 + 1, 0, none⟩ l s sv V (textE s.size least most) s (fun U hU => getText1_any s (w.heap.size + 1) (w.heap.size + 1 + 1) least most U ((hV1.grown hU (by simp)).cell 0) ((hV2.grown hU (by simp)).cell 0))
  obtain ⟨m, hm⟩ : ∃ m, (if l = false ∧ textE s.size least most = 0 then s else ⟨#[]⟩) = m := ⟨_, rfl⟩
  obtain ⟨q, hq⟩ : ∃ q, (if l then 2 else textE s.size least most) = q := ⟨_, rfl⟩
  rw [hm, hq] at ho
  rw [hm, hq]
  have HO := Lib.hid (ho _ hB1 hB2)
  have HG := Lib.hid hG
  clear ho hm hq hB1 hB2 hG
  go_enter Tryd.func24, Tryd.ntmps24
  go_wp2_with fail
  refine HO.out.mono ?_
  rintro e w3 ⟨rfl, hg3⟩
  have HG3 := Lib.hid (grown_self HG.out hg3 (by simp))
  clear hg3 HO
  go_wp2_with fail
  go_ret2
  exact ⟨rfl, HG3.out⟩
end Go.Proofs.YtagjpbcmhaekpaaDoor
/- A word as an item, and read again; a list's items. -/
namespace Go.Proofs.YtagjpbcmhaekpaaDoor
open Go.RowKit Go.Shelf
set_option linter.unusedVariables false
set_option linter.unusedSimpArgs false

abbrev wZ : Array Value := #[.int .u64 0, .int .u64 0, .int .u64 0, .int .u64 0]
theorem only_set4 {a W : World} {b : Nat} (h : a.grownBy W none) (hb : a.heap.size ≤ b) (x y z u : Value) : a.grownBy ((((W.setCell ⟨b, 0, none⟩ x).setCell ⟨b, 1, none⟩ y).setCell ⟨b, 2, none⟩ z).setCell ⟨b, 3, none⟩ u) none :=
  only_set (only_set (only_set (only_set h (p := ⟨b, 0, none⟩) hb x) (p := ⟨b, 1, none⟩) hb y) (p := ⟨b, 2, none⟩) hb z) (p := ⟨b, 3, none⟩) hb u
theorem blk_set4 {W : World} {b : Nat} {t : TypeId} {p q r s : Value} (h : Blk W b t #[p, q, r, s]) (x y z u : Value) : Blk ((((W.setCell ⟨b, 0, none⟩ x).setCell ⟨b, 1, none⟩ y).setCell ⟨b, 2, none⟩ z).setCell ⟨b, 3, none⟩ u) b t #[x, y, z, u] :=
  (((h.set_ 0 x).set_ 1 y).set_ 2 z).set_ 3 u

set_option maxRecDepth 100000 in
set_option maxHeartbeats 1000000 in
theorem getList_any (l : Bool) (s : ByteArray) (A : Option Addr) (n c : Nat) (least most : Int) (w : World) :
    Calls Tryd.prog 21 #[.agg #[.bool l, .string s, .slice A n c], .int .i64 least, .int .i64 most] w fun e w' => e = .returned (.tuple #[if l = true ∧ textE n least most = 0 then .slice A n c else .slice none 0 0, .int .i64 (if l then textE n least most else 2)]) ∧ w.grownBy w' none := by
  have hB := Blk.new w 41 #[.bool l, .string s, .slice A n c]
  have HG := Lib.hid (only_alloc (World.grownBy.refl w none) (.cells #[.bool l, .string s, .slice A n c] 41))
  cases l with
  | false =>
    rw [show (if false = true ∧ textE n least most = 0 then Value.slice A n c else .slice none 0 0) = .slice none 0 0 from if_neg (by simp), show (if false = true then textE n least most else 2) = 2 from rfl]
    go_enter Tryd.func21, Tryd.ntmps21
    go_upto_region 1 with (fail)
    obtain ⟨b, hb⟩ : ∃ b, w.heap.size = b := ⟨_, rfl⟩
    rw [hb] at hB ⊢
    generalize w.alloc (.cells #[.bool false, .string s, .slice A n c] 41) = W1 at *
    have c0 := hB.cell 0
    simp only [List.getElem?_toArray, List.getElem?_cons_zero, List.getElem?_cons_succ] at c0
    go_wp2_with fail
    go_ret2
    exact ⟨rfl, HG.out⟩
  | true =>
    have hw := fun V => within_any (n : Int) least most V
    obtain ⟨E, hE⟩ : ∃ E, textE n least most = E := ⟨_, rfl⟩
    rw [show (if true = true then textE n least most else 2) = textE n least most from rfl, hE]
    obtain ⟨m, hm⟩ : ∃ m, (if true = true ∧ E = 0 then Value.slice A n c else .slice none 0 0) = m := ⟨_, rfl⟩
    rw [hm]
    unfold textE at hE
    rw [hE] at hw
    have HW := Lib.hid hw; have HM := Lib.hid hm
    clear hw hm hE
    go_enter Tryd.func21, Tryd.ntmps21
    go_upto_region 1 with (fail)
    obtain ⟨b, hb⟩ : ∃ b, w.heap.size = b := ⟨_, rfl⟩
    rw [hb] at hB ⊢
    generalize w.alloc (.cells #[.bool true, .string s, .slice A n c] 41) = W1 at *
    have c0 := hB.cell 0; have c2 := hB.cell 2
    simp only [List.getElem?_toArray, List.getElem?_cons_zero, List.getElem?_cons_succ] at c0 c2
    go_wp2_with fail
    refine (HW.out _).mono ?_
    rintro e w3 ⟨rfl, hw3⟩
    rw [hw3]
    clear hw3
    by_cases h0 : E = 0
    · subst h0
      have hm : Value.slice A n c = m := HM.out
      clear HM
      go_wp2_with fail
      go_ret2
      exact ⟨by rw [← hm]; rfl, HG.out⟩
    · have g1 : (E != 0) = true := by simpa using h0
      have hm : Hid (Value.slice none 0 0 = m) := Lib.hid (by have := HM.out; rwa [if_neg (fun h => h0 h.2)] at this)
      clear HM
      go_wp2_with fail
      go_ret2
      exact ⟨by rw [← hm.out]; rfl, HG.out⟩

end Go.Proofs.YtagjpbcmhaekpaaDoor
/- A word as an item, and read again. -/
namespace Go.Proofs.YtagjpbcmhaekpaaDoor
open Go.RowKit Go.Shelf
set_option linter.unusedVariables false
set_option linter.unusedSimpArgs false

/-- an item's word -/
def wordE (l : Bool) (s : ByteArray) : Int := if l then 2 else parseE s.data.toList
def wordP (l : Bool) (s : ByteArray) (q : Nat) : Nat := if l then 0 else parseP s.data.toList q

end Go.Proofs.YtagjpbcmhaekpaaDoor
/- What is written is read again; what is read is written just so: plain laws of fields. -/
namespace Go.Proofs.YtagjpbcmhaekpaaDoor
open Go.RowKit Go.Shelf
set_option linter.unusedVariables false
set_option linter.unusedSimpArgs false

theorem numE_false (s : ByteArray) : numE false s = unbeE s.data.toList := rfl
theorem wordE_false (s : ByteArray) : wordE false s = parseE s.data.toList := rfl
theorem wordP_false (s : ByteArray) (q : Nat) : wordP false s q = parseP s.data.toList q := rfl
theorem number_back (n : Nat) (hn : n < 18446744073709551616) (b : ByteArray) (hb : b.data.toList = beN n) : numE false b = 0 ∧ numV false b = n := by
  have hlen := beN_len8 n hn
  have h256 : n < 256 ^ 32 := Nat.lt_of_lt_of_le hn (by decide)
  obtain ⟨p1, p2⟩ := parse_beN n h256
  have p2 := p2 0
  have hw : wp n 0 = n := by
    unfold wp
    rw [Nat.mul_zero, Nat.pow_zero, Nat.div_one]
    exact Nat.mod_eq_of_lt hn
  rw [hw] at p2
  rw [← hb] at hlen p1 p2
  have h1 : numE false b = 0 := by
    rw [numE_false]; unfold unbeE; rw [if_neg (by omega), p1]
  refine ⟨h1, ?_⟩
  unfold numV
  rw [if_pos h1]
  unfold unbeN
  rw [if_neg (by omega), p2]
theorem word_back (a0 a1 a2 a3 : Nat) (h0 : a0 < 18446744073709551616) (h1 : a1 < 18446744073709551616) (h2 : a2 < 18446744073709551616) (h3 : a3 < 18446744073709551616) (b : ByteArray) (hb : b.data.toList = beN (wordN a0 a1 a2 a3)) :
    wordE false b = 0 ∧ wordP false b 0 = a0 ∧ wordP false b 1 = a1 ∧ wordP false b 2 = a2 ∧ wordP false b 3 = a3 := by
  obtain ⟨p1, p2⟩ := parse_beN _ (word_lt a0 a1 a2 a3 h0 h1 h2 h3)
  obtain ⟨w0, w1, w2, w3⟩ := wp_word a0 a1 a2 a3 h0 h1 h2 h3
  have q0 := p2 0; have q1 := p2 1; have q2 := p2 2; have q3 := p2 3
  rw [w0] at q0; rw [w1] at q1; rw [w2] at q2; rw [w3] at q3
  rw [← hb] at p1 q0 q1 q2 q3
  exact ⟨by rw [wordE_false]; exact p1, by rw [wordP_false]; exact q0, by rw [wordP_false]; exact q1, by rw [wordP_false]; exact q2, by rw [wordP_false]; exact q3⟩
theorem yes_back (v : Bool) : yesE (yesS v) = 0 ∧ yesV (yesS v) = v := by
  cases v
  · exact ⟨if_pos (.inl rfl), decide_eq_false (by intro e; injection e with e; cases e)⟩
  · exact ⟨if_pos (.inr rfl), decide_eq_true rfl⟩
theorem text_back6 (n : Nat) : textE n n n = 0 := by unfold textE; rw [if_neg (by omega), if_neg (by omega)]
theorem number_only {l : Bool} {s : ByteArray} (h : numE l s = 0) : l = false ∧ beN (numV l s) = s.data.toList := by
  cases l with
  | true => exact absurd h (by show ¬ (2 : Int) = 0; decide)
  | false =>
    refine ⟨rfl, ?_⟩
    have hV : numV false s = unbeN s.data.toList := if_pos h
    have h : unbeE s.data.toList = 0 := h
    unfold unbeE at h
    split at h
    · cases h
    rename_i h1
    have hN : unbeN s.data.toList = parseP s.data.toList 0 := if_neg h1
    have hC := parseC_short (l := s.data.toList) (by omega)
    unfold parseC at hC
    simp only [Array.mk.injEq, List.cons.injEq, Value.int.injEq, true_and, and_true] at hC
    have ho := parse_only h
    rw [show parseP s.data.toList 1 = 0 by omega, show parseP s.data.toList 2 = 0 by omega, show parseP s.data.toList 3 = 0 by omega] at ho
    rw [hV, hN]
    have e : wordN (parseP s.data.toList 0) 0 0 0 = parseP s.data.toList 0 := by unfold wordN; omega
    rw [e] at ho
    exact ho
theorem word_only {l : Bool} {s : ByteArray} (h : wordE l s = 0) : l = false ∧ beN (wordN (wordP l s 0) (wordP l s 1) (wordP l s 2) (wordP l s 3)) = s.data.toList := by
  cases l with
  | true => exact absurd h (by show ¬ (2 : Int) = 0; decide)
  | false =>
    rw [wordE_false] at h
    rw [wordP_false, wordP_false, wordP_false, wordP_false]
    exact ⟨rfl, parse_only h⟩
theorem yes_only {s : ByteArray} (h : yesE s = 0) : yesS (yesV s) = s := by
  unfold yesE at h
  split at h
  · rename_i h1
    rcases h1 with e | e
    · subst e; rw [show yesV ⟨#[]⟩ = false from decide_eq_false (by intro e; injection e with e; cases e)]; rfl
    · subst e; rw [show yesV ⟨#[1]⟩ = true from decide_eq_true rfl]; rfl
  · cases h
end Go.Proofs.YtagjpbcmhaekpaaDoor
/- Pieces for an append through a struct's field, in a region that draws. -/
namespace Go.Proofs.YtagjpbcmhaekpaaDoor
open Go.RowKit Go.Shelf
set_option linter.unusedSimpArgs false
/-- the blocks of a set lie as they lay; nothing is said to the outside -/
structure KeepsW (S : Nat → Prop) (W W' : World) : Prop where
  os : W'.os = W.os
  tape : W'.tape = W.tape
  output : W'.output = W.output
  size : W.heap.size ≤ W'.heap.size
  block : ∀ k, S k → W'.heap[k]? = W.heap[k]?
theorem item_info : (Tryd.prog.info? 41).map (fun i => (i.zero, i.size, i.bytes)) = some (some (.agg #[.bool false, .string .empty, .slice none 0 0]), 3, 48) := by kernel_rfl
theorem exec_load3 {W : World} {a : Act} {o : Oper} {b off : Nat} {x0 x1 x2 : Value} (x : Operand) (ho : o.op = .load 41 x) (hx : a.eval x = .pointer (some ⟨b, off, none⟩))
    (c0 : W.cell? ⟨b, off, none⟩ = some x0) (c1 : W.cell? ⟨b, off + 1, none⟩ = some x1) (c2 : W.cell? ⟨b, off + 2, none⟩ = some x2) :
    (execOp a.eval o).run Tryd.prog W = .ok (.value (.agg #[x0, x1, x2])) W := by
  have hagg := Tryd.isAgg41
  have hsz := Tryd.sizeOf41
  unfold execOp
  simp only [ho, hx]
  simp [go_sem, c0, c1, c2, hagg, hsz]
theorem exec_load1 {P : Program} {a : Act} {o : Oper} {W : World} (ty : TypeId) (x : Operand) (ho : o.op = .load ty x) (p : Addr) (hx : a.eval x = .pointer (some p)) (v : Value) (d : TypeDesc)
    (hu : P.underlying ty = some d) (hd : (match d with | .struct _ | .array _ _ => true | _ => false) = false) (hc : W.cell? p = some v) : (execOp a.eval o).run P W = .ok (.value v) W := by
  unfold execOp
  simp only [ho, hx, Instr.loadAt, Instr.sureAddr, Sem.run_bind, Sem.run_pure, Result.andThen_ok, load_cell hu hd hc]

theorem held_store {P : Program} {ops : Array Oper} {md : Region.Mode} {Q : Exit → Act → World → Prop} {S : World → Prop} {i fuel : Nat} {listed : Array Bool} {oi : Oper} {a : Act} {w w' : World} (hi : ops[i]? = some oi) (hw : Region.wanted oi (yielded ops a.tmps) = true) (hrun : (execOp a.eval oi).run P w = .ok .skip w') (hS : S w')
    (h : wpAnyH P md ops Q S fuel (listed.setIfInBounds i true) (a.put oi.dst undef) w') : wpOp P ops Q i (Behind P ops md Q S fuel listed i) a w := by
  unfold wpOp
  simp only [hi, hw, if_true]
  refine .inl ?_
  unfold Oper.wp
  rw [hrun]
  exact ⟨hS, h⟩
/-- an item is stored, cell by cell -/
theorem exec_store3 {W : World} {a : Act} {o : Oper} {g off : Nat} {cur : Array Value} {t : TypeId} {b0 : Bool} {s0 : ByteArray} {A : Option Addr} {n c : Nat} (x y : Operand) (ho : o.op = .store 41 x y) (hx : a.eval x = .pointer (some ⟨g, off, none⟩)) (hy : a.eval y = .agg #[.bool b0, .string s0, .slice A n c])
    (hb : Blk W g t cur) (hsz : off + 2 < cur.size) :
    (execOp a.eval o).run Tryd.prog W = .ok .skip (((W.setCell ⟨g, off, none⟩ (.bool b0)).setCell ⟨g, off + 1, none⟩ (.string s0)).setCell ⟨g, off + 2, none⟩ (.slice A n c)) := by
  have hsz' := Tryd.sizeOf41
  have c0 : W.cell? ⟨g, off, none⟩ = some cur[off] := by rw [hb.cell]; exact Array.getElem?_eq_getElem (by omega)
  have c1 : W.cell? ⟨g, off + 1, none⟩ = some cur[off + 1] := by rw [hb.cell]; exact Array.getElem?_eq_getElem (by omega)
  have c2 : W.cell? ⟨g, off + 2, none⟩ = some cur[off + 2] := by rw [hb.cell]; exact Array.getElem?_eq_getElem (by omega)
  have f0 := hb.frozen off; have f1 := hb.frozen (off + 1); have f2 := hb.frozen (off + 2)
  unfold execOp
  simp only [ho, hx, hy]
  simp [go_sem, c0, c1, c2, f0, f1, f2, hsz']
/-- the last item of an owned row is set -/
theorem own_last {W : World} {base g cap k : Nat} {cells : List Value} {z0 z1 z2 : Value} (x0 x1 x2 : Value) (hl : cells.length = k * 3) (h : W.ownsRow base 41 3 (.slice (some ⟨g, 0, none⟩) (k + 1) cap) (k + 1) (cells ++ [z0, z1, z2])) :
    ∃ cur, Blk W g 41 cur ∧ k * 3 + 2 < cur.size ∧ (((W.setCell ⟨g, k * 3, none⟩ x0).setCell ⟨g, k * 3 + 1, none⟩ x1).setCell ⟨g, k * 3 + 2, none⟩ x2).ownsRow base 41 3 (.slice (some ⟨g, 0, none⟩) (k + 1) cap) (k + 1) (cells ++ [x0, x1, x2]) := by
  rcases h.2 with ⟨hv, _⟩ | ⟨g', cap', cur, hv, hb, hh, hn, hc, hz, hx⟩
  · cases hv
  simp only [Value.slice.injEq, Option.some.injEq, Addr.mk.injEq] at hv
  obtain ⟨⟨rfl, _, _⟩, _, rfl⟩ := hv
  have hB : Blk W g 41 cur := hh
  have hsz : k * 3 + 2 < cur.size := by
    have : (k + 1) * 3 ≤ cap * 3 := Nat.mul_le_mul_right _ hn
    omega
  refine ⟨cur, hB, hsz, by simp [hl]; omega, .inr ⟨g, cap, _, rfl, hb, ((hB.set_ (k * 3) x0).set_ (k * 3 + 1) x1).set_ (k * 3 + 2) x2, hn, hc, by simpa using hz, ?_⟩⟩
  refine List.ext_getElem? fun j => ?_
  have hxj : ∀ j, j < (k + 1) * 3 → cur[j]? = (cells ++ [z0, z1, z2])[j]? := fun j hj => by rw [← hx, List.getElem?_take_of_lt hj]; simp
  by_cases hj : j < (k + 1) * 3
  · rw [List.getElem?_take_of_lt hj, Array.getElem?_toList, Array.getElem?_setIfInBounds, Array.getElem?_setIfInBounds, Array.getElem?_setIfInBounds]
    by_cases h1 : j < k * 3
    · rw [if_neg (by omega), if_neg (by omega), if_neg (by omega), hxj j hj, List.getElem?_append_left (by omega), List.getElem?_append_left (by omega)]
    · rw [List.getElem?_append_right (by omega), hl]
      obtain ⟨q, rfl⟩ : ∃ q, j = k * 3 + q := ⟨j - k * 3, by omega⟩
      rw [show k * 3 + q - k * 3 = q by omega]
      have hq : q = 0 ∨ q = 1 ∨ q = 2 := by omega
      rcases hq with rfl | rfl | rfl
      · rw [if_neg (by omega), if_neg (by omega), if_pos (by omega)]; simp; omega
      · rw [if_neg (by omega), if_pos (by omega)]; simp; omega
      · rw [if_pos (by omega)]; simp; omega
  · rw [List.getElem?_eq_none (by rw [List.length_take]; simp; omega), List.getElem?_eq_none (by simp [hl]; omega)]

theorem exec_append {P : Program} {a : Act} {o : Oper} {w w' : World} (x y : Operand) (t : TypeId) (ho : o.op = .call { callee := .builtin .append, args := #[x, y], argTypes := #[t, t] }) (v u v' : Value) (hx : a.eval x = v) (hy : a.eval y = u) (hr : (Builtin.append_ #[t, t] o.type #[v, u]).run P w = .ok v' w') : (execOp a.eval o).run P w = .ok (.value v') w' := by
  unfold execOp
  simp only [ho, resolve, invoke, builtin, Sem.run_bind, Sem.run_pure, Result.andThen_ok, List.map_toArray, List.map_cons, List.map_nil, hx, hy, hr]
theorem own_far {W : World} {base g size n cap : Nat} {e : TypeId} {xs : List Value} (h : W.ownsRow base e size (.slice (some ⟨g, 0, none⟩) n cap) n xs) {p : Addr} (hp : g ≠ p.block) (u : Value) : (W.setCell p u).ownsRow base e size (.slice (some ⟨g, 0, none⟩) n cap) n xs := by
  refine ⟨h.1, ?_⟩
  rcases h.2 with h1 | ⟨g', cap', cur, hv, hb, hh, rest⟩
  · exact .inl h1
  · refine .inr ⟨g', cap', cur, hv, hb, ?_, rest⟩
    have : g = g' := by injection hv with h1; injection h1 with h1; injection h1
    subst this
    exact (Below.heap_setCell W p u g hp).trans hh
theorem KeepsW.set {S : Nat → Prop} {W W' : World} (h : KeepsW S W W') {p : Addr} (hp : ¬ S p.block) (u : Value) : KeepsW S W (W'.setCell p u) :=
  ⟨h.os, h.tape, h.output, by simpa [World.setCell] using h.size, fun k hk => (Below.heap_setCell W' p u k (fun e => hp (e ▸ hk))).trans (h.block k hk)⟩
theorem exec_store1 {W : World} {a : Act} {o : Oper} {g off : Nat} {cur : Array Value} {t : TypeId} {A : Option Addr} {n c : Nat} (x y : Operand) (ho : o.op = .store 39 x y) (hx : a.eval x = .pointer (some ⟨g, off, none⟩)) (hy : a.eval y = .slice A n c)
    (hb : Blk W g t cur) (hsz : off < cur.size) : (execOp a.eval o).run Tryd.prog W = .ok .skip (W.setCell ⟨g, off, none⟩ (.slice A n c)) := by
  have c0 : W.cell? ⟨g, off, none⟩ = some cur[off] := by rw [hb.cell]; exact Array.getElem?_eq_getElem (by omega)
  have f0 := hb.frozen off
  have hu := Tryd.underlying39
  have hagg := Tryd.isAgg39
  unfold execOp
  simp only [ho, hx, hy]
  simp [go_sem, c0, f0]
theorem own_slice3 {w : World} {base : Nat} {e : TypeId} {size : Nat} {v : Value} {n : Nat} {xs : List Value} (h : w.ownsRow base e size v n xs) : ∃ A c, v = .slice A n c := by
  rcases h.2 with ⟨rfl, h0⟩ | ⟨g, cap, cur, rfl, _⟩
  · exact ⟨none, 0, by rw [h0]⟩
  · exact ⟨_, _, rfl⟩
theorem own_newB {w : World} {base : Nat} {e : TypeId} {size : Nat} {v : Value} {k : Nat} {xs : List Value} (h : w.ownsRow base e size v k xs) : v.ownBlock ≠ some w.heap.size := by
  rcases h.2 with ⟨rfl, _⟩ | ⟨g, cap, cur, rfl, _, hh, _⟩
  · simp [Value.ownBlock]
  · intro e'
    have : g = w.heap.size := by simpa [Value.ownBlock] using e'
    subst this
    have := (Array.getElem?_eq_some_iff.1 hh).1
    omega
theorem own_ltB {w : World} {base : Nat} {e : TypeId} {size : Nat} {v : Value} {k g : Nat} {xs : List Value} (h : w.ownsRow base e size v k xs) (hg : v.ownBlock = some g) : g < w.heap.size := by
  rcases h.2 with ⟨rfl, _⟩ | ⟨g', cap, cur, rfl, _, hh, _⟩
  · simp [Value.ownBlock] at hg
  · obtain rfl : g' = g := by simpa [Value.ownBlock] using hg
    exact (Array.getElem?_eq_some_iff.1 hh).1
theorem cell_three_new (W : World) (x0 x1 x2 : Value) (t : TypeId) : ∀ (j : Nat) (u : Value), [x0, x1, x2][j]? = some u → (W.alloc (.cells #[x0, x1, x2] t)).cell? ((⟨W.heap.size, 0, none⟩ : Addr).add j) = some u := by
  intro j u hj
  have hb := Blk.new W t #[x0, x1, x2]
  have := hb.cell j
  rw [Addr.add_mid, Nat.zero_add, this]
  simpa using hj

/-- an item that is being made: its block, and its row so far -/
structure Held3 (w : World) (b3 : Nat) (v : Value) (k : Nat) (cells : List Value) (u : World) : Prop where
  blk : Blk u b3 41 #[.bool true, .string ⟨#[]⟩, v]
  own : u.ownsRow (b3 + 1) 41 3 v k cells
  grown : w.grownBy u none
  size : b3 + 1 ≤ u.heap.size
  low : w.heap.size ≤ b3
theorem Held3.kept {w u u' : World} {b3 k : Nat} {v : Value} {cells : List Value} (h : Held3 w b3 v k cells u) (hg : u.grownBy u' none) : Held3 w b3 v k cells u' := by
  obtain ⟨A, c, rfl⟩ := own_slice3 h.own
  refine ⟨h.blk.grown hg (by simp), h.own.kept hg (by cases A; exact .inl rfl; exact .inr (by simp [Value.ownBlock])), grown_self h.grown hg (by simp), ?_, h.low⟩
  have := hg.size; have := h.size; omega
theorem Held3.drew {w u : World} {b3 k : Nat} {v : Value} {cells : List Value} (h : Held3 w b3 v k cells u) : Held3 w b3 v k cells u.drew := h.kept (only_drew (World.grownBy.refl u none))
theorem Held3.drewN {w u : World} {b3 k : Nat} {v : Value} {cells : List Value} (h : Held3 w b3 v k cells u) (n : Nat) : Held3 w b3 v k cells (u.drewN n) := h.kept (only_drewN (World.grownBy.refl u none) n)
theorem Held3.put {w u u2 : World} {b3 k g' cap' : Nat} {v : Value} {cells news : List Value} (h : Held3 w b3 v k cells u) (hown : u2.ownsRow (b3 + 1) 41 3 (.slice (some ⟨g', 0, none⟩) (k + 1) cap') (k + 1) news) (hg : u.grownBy u2 v.ownBlock) :
    Held3 w b3 (.slice (some ⟨g', 0, none⟩) (k + 1) cap') (k + 1) news (u2.setCell ⟨b3, 2, none⟩ (.slice (some ⟨g', 0, none⟩) (k + 1) cap')) := by
  have hge : b3 + 1 ≤ g' := ownBlock_ge hown rfl
  have hb := (h.blk.grown hg (fun e => by have := ownBlock_ge h.own e.symm; omega)).set_ 2 (.slice (some ⟨g', 0, none⟩) (k + 1) cap')
  refine ⟨by simpa using hb, own_far hown (p := ⟨b3, 2, none⟩) (by show g' ≠ b3; omega) _, only_set (grown_self h.grown hg (fun j hj => .inr (by have := ownBlock_ge h.own hj; have := h.low; omega))) (p := ⟨b3, 2, none⟩) h.low _, ?_, h.low⟩
  have := hg.size; have := h.size; simp [World.setCell]; omega
end Go.Proofs.YtagjpbcmhaekpaaDoor
/- A row of texts as an item. -/
namespace Go.Proofs.YtagjpbcmhaekpaaDoor
open Go.RowKit Go.Shelf
set_option linter.unusedVariables false
set_option linter.unusedSimpArgs false

/-- a text as an item -/
abbrev txt (s : ByteArray) : Itm := .mk false s []
def txtV (xs : List ByteArray) : List Value := xs.flatMap fun s => [.bool false, .string s, .slice none 0 0]
theorem txtV_snoc (xs : List ByteArray) (s : ByteArray) : txtV (xs ++ [s]) = txtV xs ++ [.bool false, .string s, .slice none 0 0] := by simp [txtV]
theorem txtV_len (xs : List ByteArray) : (txtV xs).length = xs.length * 3 := by
  induction xs with
  | nil => rfl
  | cons x xs ih => rw [show txtV (x :: xs) = [.bool false, .string x, .slice none 0 0] ++ txtV xs from rfl, List.length_append, ih]; simp; omega

theorem txtV_items (xs : List ByteArray) : txtV xs = itemsV (xs.map txt) (List.replicate xs.length (.slice none 0 0)) := by
  induction xs with
  | nil => rfl
  | cons x xs ih =>
    rw [show txtV (x :: xs) = [.bool false, .string x, .slice none 0 0] ++ txtV xs from rfl, ih]
    rfl
theorem txt_sub {u : World} {base k c : Nat} {A : Option Addr} {xs : List ByteArray} (hl : xs.length = k) (h : u.ownsRow base 41 3 (.slice A k c) k (txtV xs)) : SubV (fun g => base ≤ g) u (xs.map txt) (.slice A k c) := by
  subst hl
  rw [txtV_items] at h
  have hlen : (xs.map txt).length = xs.length := by simp
  rw [← hlen] at h ⊢
  refine SubV.of_own (by simp) h (fun i hi => ?_) (fun g hg => ownBlock_ge h hg)
  have hi' : i < xs.length := by simpa using hi
  have h1 : ((xs.map txt).getD i Itm.none_).items = [] := by
    rw [List.getD_eq_getElem?_getD, List.getElem?_map, List.getElem?_eq_getElem hi']; rfl
  have h2 : (List.replicate (xs.map txt).length (Value.slice none 0 0)).getD i undef = .slice none 0 0 := by
    rw [List.getD_eq_getElem?_getD, List.getElem?_replicate, if_pos hi]; rfl
  rw [h1, h2]
  exact .mk [] none 0 [] (fun h => by cases h) (fun i h => by cases h)
theorem sub_set3 {S : Nat → Prop} {W : World} {xs : List Itm} {v : Value} {g : Nat} (h : SubV S W xs v) (hg : ¬ S g) (x y z : Value) : SubV S (((W.setCell ⟨g, 0, none⟩ x).setCell ⟨g, 1, none⟩ y).setCell ⟨g, 2, none⟩ z) xs v := by
  refine h.keep fun p hp u hu => ?_
  have hne : g ≠ p.block := fun e => hg (e ▸ hp)
  rw [World.cell?_setCell_far _ _ _ _ hne, World.cell?_setCell_far _ _ _ _ hne, World.cell?_setCell_far _ _ _ _ hne]
  exact hu

set_option maxRecDepth 100000 in
set_option maxHeartbeats 2000000 in
theorem texts_any (B : Nat) (A : Option Addr) (n c : Nat) (xs : List ByteArray) (w : World) (h : Reads w B 1 A n (xs.map Value.string)) (hB : B ≤ w.heap.size) (hn : n ≤ 1000) :
    Calls Tryd.prog 16 #[.slice A n c] w fun e w' => ∃ A' c', e = .returned (.agg #[.bool true, .string ⟨#[]⟩, .slice A' n c']) ∧ SubV (fun g => w.heap.size ≤ g) w' (xs.map txt) (.slice A' n c') ∧ w.grownBy w' none := by
  have hl : xs.length = n := by have := h.1; simpa using this
  have hRB := Blk.new w 41 #[.bool false, .string ⟨#[]⟩, .slice none 0 0]
  have hG := only_alloc (World.grownBy.refl w none) (.cells #[.bool false, .string ⟨#[]⟩, .slice none 0 0] 41)
  go_enter Tryd.func16, Tryd.ntmps16
  go_upto_region 1 with (fail)
  obtain ⟨b, hb⟩ : ∃ b, w.heap.size = b := ⟨_, rfl⟩
  have HW := Lib.hid hb
  rw [hb] at hRB ⊢
  have hz : (w.alloc (.cells #[.bool false, .string ⟨#[]⟩, .slice none 0 0] 41)).heap.size = b + 1 := by simp [hb]
  have h := h.alloc hB (.cells #[.bool false, .string ⟨#[]⟩, .slice none 0 0] 41)
  generalize w.alloc (.cells #[.bool false, .string ⟨#[]⟩, .slice none 0 0] 41) = W1 at *
  go_wp2_with fail
  refine (list_any _ ⟨_, _, _, rfl⟩ _).mono ?_
  rintro e w3 ⟨rfl, hg3⟩
  obtain ⟨b3, hb3⟩ : ∃ b, w3.heap.size = b := ⟨_, rfl⟩
  have hz3 := hg3.size
  have K0 : Held3 w3 b3 (.slice none 0 0) 0 (txtV (xs.take 0)) (w3.alloc (.cells #[.bool true, .string ⟨#[]⟩, .slice none 0 0] 41)) := by
    refine ⟨?_, World.ownsRow_nil _ _ _ _, only_alloc (World.grownBy.refl w3 none) _, by simp; omega, by omega⟩
    have := Blk.new w3 41 #[.bool true, .string ⟨#[]⟩, .slice none 0 0]
    rwa [hb3] at this
  have h := h.grown hg3 (by have := HW.out; omega) (by simp)
  have h0 := Lib.hid h
  have HL := Lib.hid hl
  have HB : Hid (B ≤ w3.heap.size) := Lib.hid (by have := HW.out; omega)
  have HRB := Lib.hid (hRB.grown hg3 (by simp))
  have HG := Lib.hid (grown_self hG hg3 (by simp))
  have h := h.alloc HB.out (.cells #[.bool true, .string ⟨#[]⟩, .slice none 0 0] 41)
  have HS : Hid (w.heap.size ≤ b3) := Lib.hid (by have := HW.out; omega)
  have HZB : Hid (b + 1 ≤ b3) := Lib.hid (by omega)
  clear hG hg3 hl hB hRB
  go_upto_region 2 with (fail)
  generalize w3.alloc (.cells #[.bool true, .string ⟨#[]⟩, .slice none 0 0] 41) = W4 at *
  clear hz hz3 hb3
  go_wp2_with fail
  go_loopw [9] (fun i wr => ∃ (k : Nat) (v : Value), i = .int .i64 k ∧ k ≤ n ∧ Held3 w3 b3 v k (txtV (xs.take k)) wr) (fun i _ => n - (intOf i).toNat)
  case atStart => exact ⟨0, _, rfl, by omega, K0⟩
  case round =>
    clear K0 h
    obtain ⟨k, v, rfl, hk, K0⟩ := hrel
    have h := h0.out.grown K0.grown HB.out (by simp)
    by_cases hlt : k < n
    · obtain ⟨g, off, rfl, hg, hc⟩ := Reads.vals Value.string .empty h hlt
      have c0 := hc k hlt
      have q1 : (k : Int) < (n : Int) := by omega
      have hTK : txtV (xs.take k) ++ [.bool false, .string (xs.getD k .empty), .slice none 0 0] = txtV (xs.take (k + 1)) := by
        rw [← txtV_snoc, List.take_add_one, List.getElem?_eq_getElem (by have := HL.out; omega), List.getD_eq_getElem?_getD, List.getElem?_eq_getElem (by have := HL.out; omega)]
        rfl
      obtain ⟨s, hs⟩ : ∃ s, xs.getD k .empty = s := ⟨_, rfl⟩
      rw [hs] at c0 hTK
      have HTK := Lib.hid hTK
      have H0 := Lib.hid h0.out
      clear h hc hs h0 hTK
      obtain ⟨vA, vc, rfl⟩ := own_slice3 K0.own
      go_wp2_with fail
      refine wp_region_held (S := fun _ => True) (by kernel_rfl) ?_
      change wpAnyH _ _ _ _ _ _ _ _ wr.drew
      replace K0 := K0.drew
      generalize wr.drew = u0 at *
      clear c0
      refine held_take (i := 0) (v := .pointer (some ⟨b3, 2, none⟩)) (some 13) rfl (by kernel_rfl) (by kernel_rfl) (by kernel_rfl) (fun _ _ _ h => h) rfl (Or.inl ⟨by rfl, fun W hW => by go_simp⟩) trivial ?_
      simp only [Act.put, List.setIfInBounds_toArray, List.set_cons_zero, List.set_cons_succ]
      refine held_take (i := 2) (v := .string s) (some 15) rfl (by kernel_rfl) (by kernel_rfl) (by kernel_rfl) (fun _ _ _ h => h) rfl (Or.inl ⟨by rfl, fun W hW => by go_simp⟩) trivial ?_
      simp only [Act.put, List.setIfInBounds_toArray, List.set_cons_zero, List.set_cons_succ]
      refine held_two (i := 1) (j := 3) (by kernel_rfl) ?_ ?_
      · refine held_value (some 14) rfl rfl (.slice vA k vc) (exec_load1 39 (.tmp 13) rfl _ rfl _ _ Tryd.underlying39 rfl (K0.blk.cell 2)) rfl trivial ?_
        simp only [Act.put, List.setIfInBounds_toArray, List.set_cons_zero, List.set_cons_succ]
        refine held_one (i := 3) (by kernel_rfl) ?_
        refine held_enter (some 16) rfl rfl 14 #[.string s] (exec_call1 14 (.tmp 15) _ rfl _ rfl rfl) rfl ((text_any s _).mono ?_)
        rintro e u1 ⟨rfl, hgc⟩
        have K1 := K0.kept hgc
        refine ⟨_, rfl, trivial, ?_⟩
        simp only [Act.put, List.setIfInBounds_toArray, List.set_cons_zero, List.set_cons_succ]
        refine held_one (i := 4) (by kernel_rfl) ?_
        refine held_value (some 17) rfl rfl (.slice (some ⟨u1.heap.size, 0, none⟩) 1 1) (by go_simp <;> rfl) rfl trivial ?_
        simp only [Act.put, List.setIfInBounds_toArray, List.set_cons_zero, List.set_cons_succ]
        have K2 := K1.kept (only_alloc (World.grownBy.refl u1 none) (.cells #[.bool false, .string s, .slice none 0 0] 41))
        obtain ⟨i0, hi, hz0, hzs, hzb⟩ := info_parts item_info
        obtain ⟨v', u2, hrun, hown', hgrow, hiff, hob⟩ := run_append_own_at (P := Tryd.prog) (u1.alloc (.cells #[.bool false, .string s, .slice none 0 0] 41)) (b3 + 1) 39 39 41 i0 _ 3 48 Tryd.underlying39 hi hz0 hzs hzb rfl (by decide) (.slice vA k vc) k (txtV (xs.take k)) K2.own ⟨u1.heap.size, 0, none⟩ 1 1 [.bool false, .string s, .slice none 0 0] rfl (cell_three_new _ _ _ _ _) (by simp [Value.oneCell']) (by simp only [maxLen]; omega) (by omega) K2.size
        obtain ⟨g', cap', rfl⟩ := ownsRow_succ hown'
        have K3 := K2.put hown' hgrow
        refine held_one (i := 5) (by kernel_rfl) ?_
        refine held_value (some 18) rfl rfl (.slice (some ⟨g', 0, none⟩) (k + 1) cap') (exec_append (.tmp 14) (.tmp 17) 39 rfl _ _ _ rfl rfl hrun) rfl trivial ?_
        simp only [Act.put, List.setIfInBounds_toArray, List.set_cons_zero, List.set_cons_succ]
        refine held_one (i := 6) (by kernel_rfl) ?_
        refine held_value (some 19) rfl rfl (.pointer (some ⟨b3, 2, none⟩)) (by go_simp <;> rfl) rfl trivial ?_
        simp only [Act.put, List.setIfInBounds_toArray, List.set_cons_zero, List.set_cons_succ]
        refine held_one (i := 7) (by kernel_rfl) ?_
        refine held_store rfl rfl (exec_store1 (.tmp 19) (.tmp 18) rfl rfl rfl (K2.blk.grown hgrow (fun e => by have := ownBlock_ge K2.own e.symm; omega)) (by simp)) trivial ?_
        simp only [Act.put, List.setIfInBounds_toArray, List.set_cons_zero, List.set_cons_succ]
        refine wpAnyH_done (by kernel_rfl) ?_ _
        rw [HTK.out] at K3
        clear hrun hown' hgrow hob K2 hiff
        go_wp2_with fail
        go_roundw
        case rel => exact ⟨k + 1, _, by go_num, by omega, K3⟩
        case measure => simp [intOf]; omega
      · refine held_enter (some 16) rfl rfl 14 #[.string s] (exec_call1 14 (.tmp 15) _ rfl _ rfl rfl) rfl ((text_any s _).mono ?_)
        rintro e u1 ⟨rfl, hgc⟩
        have K1 := K0.kept hgc
        refine ⟨_, rfl, trivial, ?_⟩
        simp only [Act.put, List.setIfInBounds_toArray, List.set_cons_zero, List.set_cons_succ]
        refine held_two (i := 1) (j := 4) (by kernel_rfl) ?_ ?_
        · refine held_value (some 14) rfl rfl (.slice vA k vc) (exec_load1 39 (.tmp 13) rfl _ rfl _ _ Tryd.underlying39 rfl (K1.blk.cell 2)) rfl trivial ?_
          simp only [Act.put, List.setIfInBounds_toArray, List.set_cons_zero, List.set_cons_succ]
          refine held_one (i := 4) (by kernel_rfl) ?_
          refine held_value (some 17) rfl rfl (.slice (some ⟨u1.heap.size, 0, none⟩) 1 1) (by go_simp <;> rfl) rfl trivial ?_
          simp only [Act.put, List.setIfInBounds_toArray, List.set_cons_zero, List.set_cons_succ]
          have K2 := K1.kept (only_alloc (World.grownBy.refl u1 none) (.cells #[.bool false, .string s, .slice none 0 0] 41))
          obtain ⟨i0, hi, hz0, hzs, hzb⟩ := info_parts item_info
          obtain ⟨v', u2, hrun, hown', hgrow, hiff, hob⟩ := run_append_own_at (P := Tryd.prog) (u1.alloc (.cells #[.bool false, .string s, .slice none 0 0] 41)) (b3 + 1) 39 39 41 i0 _ 3 48 Tryd.underlying39 hi hz0 hzs hzb rfl (by decide) (.slice vA k vc) k (txtV (xs.take k)) K2.own ⟨u1.heap.size, 0, none⟩ 1 1 [.bool false, .string s, .slice none 0 0] rfl (cell_three_new _ _ _ _ _) (by simp [Value.oneCell']) (by simp only [maxLen]; omega) (by omega) K2.size
          obtain ⟨g', cap', rfl⟩ := ownsRow_succ hown'
          have K3 := K2.put hown' hgrow
          refine held_one (i := 5) (by kernel_rfl) ?_
          refine held_value (some 18) rfl rfl (.slice (some ⟨g', 0, none⟩) (k + 1) cap') (exec_append (.tmp 14) (.tmp 17) 39 rfl _ _ _ rfl rfl hrun) rfl trivial ?_
          simp only [Act.put, List.setIfInBounds_toArray, List.set_cons_zero, List.set_cons_succ]
          refine held_one (i := 6) (by kernel_rfl) ?_
          refine held_value (some 19) rfl rfl (.pointer (some ⟨b3, 2, none⟩)) (by go_simp <;> rfl) rfl trivial ?_
          simp only [Act.put, List.setIfInBounds_toArray, List.set_cons_zero, List.set_cons_succ]
          refine held_one (i := 7) (by kernel_rfl) ?_
          refine held_store rfl rfl (exec_store1 (.tmp 19) (.tmp 18) rfl rfl rfl (K2.blk.grown hgrow (fun e => by have := ownBlock_ge K2.own e.symm; omega)) (by simp)) trivial ?_
          simp only [Act.put, List.setIfInBounds_toArray, List.set_cons_zero, List.set_cons_succ]
          refine wpAnyH_done (by kernel_rfl) ?_ _
          rw [HTK.out] at K3
          clear hrun hown' hgrow hob K2 hiff
          go_wp2_with fail
          go_roundw
          case rel => exact ⟨k + 1, _, by go_num, by omega, K3⟩
          case measure => simp [intOf]; omega
        · refine held_value (some 17) rfl rfl (.slice (some ⟨u1.heap.size, 0, none⟩) 1 1) (by go_simp <;> rfl) rfl trivial ?_
          simp only [Act.put, List.setIfInBounds_toArray, List.set_cons_zero, List.set_cons_succ]
          have K2 := K1.kept (only_alloc (World.grownBy.refl u1 none) (.cells #[.bool false, .string s, .slice none 0 0] 41))
          refine held_one (i := 1) (by kernel_rfl) ?_
          refine held_value (some 14) rfl rfl (.slice vA k vc) (exec_load1 39 (.tmp 13) rfl _ rfl _ _ Tryd.underlying39 rfl (K2.blk.cell 2)) rfl trivial ?_
          simp only [Act.put, List.setIfInBounds_toArray, List.set_cons_zero, List.set_cons_succ]
          obtain ⟨i0, hi, hz0, hzs, hzb⟩ := info_parts item_info
          obtain ⟨v', u2, hrun, hown', hgrow, hiff, hob⟩ := run_append_own_at (P := Tryd.prog) (u1.alloc (.cells #[.bool false, .string s, .slice none 0 0] 41)) (b3 + 1) 39 39 41 i0 _ 3 48 Tryd.underlying39 hi hz0 hzs hzb rfl (by decide) (.slice vA k vc) k (txtV (xs.take k)) K2.own ⟨u1.heap.size, 0, none⟩ 1 1 [.bool false, .string s, .slice none 0 0] rfl (cell_three_new _ _ _ _ _) (by simp [Value.oneCell']) (by simp only [maxLen]; omega) (by omega) K2.size
          obtain ⟨g', cap', rfl⟩ := ownsRow_succ hown'
          have K3 := K2.put hown' hgrow
          refine held_one (i := 5) (by kernel_rfl) ?_
          refine held_value (some 18) rfl rfl (.slice (some ⟨g', 0, none⟩) (k + 1) cap') (exec_append (.tmp 14) (.tmp 17) 39 rfl _ _ _ rfl rfl hrun) rfl trivial ?_
          simp only [Act.put, List.setIfInBounds_toArray, List.set_cons_zero, List.set_cons_succ]
          refine held_one (i := 6) (by kernel_rfl) ?_
          refine held_value (some 19) rfl rfl (.pointer (some ⟨b3, 2, none⟩)) (by go_simp <;> rfl) rfl trivial ?_
          simp only [Act.put, List.setIfInBounds_toArray, List.set_cons_zero, List.set_cons_succ]
          refine held_one (i := 7) (by kernel_rfl) ?_
          refine held_store rfl rfl (exec_store1 (.tmp 19) (.tmp 18) rfl rfl rfl (K2.blk.grown hgrow (fun e => by have := ownBlock_ge K2.own e.symm; omega)) (by simp)) trivial ?_
          simp only [Act.put, List.setIfInBounds_toArray, List.set_cons_zero, List.set_cons_succ]
          refine wpAnyH_done (by kernel_rfl) ?_ _
          rw [HTK.out] at K3
          clear hrun hown' hgrow hob K2 hiff
          go_wp2_with fail
          go_roundw
          case rel => exact ⟨k + 1, _, by go_num, by omega, K3⟩
          case measure => simp [intOf]; omega

    · obtain rfl : k = n := by omega
      have hfin : decide ((k : Int) < (k : Int)) = false := by simp
      clear h h0
      have hRB := HRB.out.grown K0.grown (by simp)
      obtain ⟨vA, vc, rfl⟩ := own_slice3 K0.own
      have hle : w.heap.size ≤ b := by have := HW.out; omega
      have hb3 : b + 1 ≤ b3 := by have := HZB.out; omega
      have ht : xs.take k = xs := List.take_of_length_le (by have := HL.out; omega)
      have hS := txt_sub HL.out (ht ▸ K0.own)
      have HS5 := Lib.hid (SubV.weak (sub_set3 (g := b) hS (by omega) (.bool true) (.string ⟨#[]⟩) (.slice vA k vc)) (fun g (hg : b3 + 1 ≤ g) => (show w.heap.size ≤ g by omega)))
      have HG5 := Lib.hid (only_set (only_set (only_set (grown_self HG.out K0.grown (by simp)) (p := ⟨b, 0, none⟩) hle (.bool true)) (p := ⟨b, 1, none⟩) hle (.string ⟨#[]⟩)) (p := ⟨b, 2, none⟩) hle (.slice vA k vc))
      have HB5 := Lib.hid (((hRB.set_ 0 (.bool true)).set_ 1 (.string ⟨#[]⟩)).set_ 2 (.slice vA k vc))
      have c0 := hRB.cell 0; have c1 := hRB.cell 1; have c2 := hRB.cell 2
      have d0 := hRB.frozen 0; have d1 := hRB.frozen 1; have d2 := hRB.frozen 2
      have e0 := K0.blk.cell 0; have e1 := K0.blk.cell 1; have e2 := K0.blk.cell 2
      simp only [List.getElem?_toArray, List.getElem?_cons_zero, List.getElem?_cons_succ] at c0 c1 c2 e0 e1 e2
      clear K0 hle hb3 ht hS hRB hk hlt
      go_wp2_with fail
      refine bodyPost_ret (results_cell1 (fn := Tryd.f16) rfl _ _ _ _ rfl (load_itemF HB5.out)) rfl ?_
      exact ⟨_, _, rfl, HS5.out, HG5.out⟩
end Go.Proofs.YtagjpbcmhaekpaaDoor
/- A list's texts, read. -/
namespace Go.Proofs.YtagjpbcmhaekpaaDoor
open Go.RowKit Go.Shelf
set_option linter.unusedVariables false
set_option linter.unusedSimpArgs false

theorem SubV.grown {S : Nat → Prop} {W W' : World} {xs : List Itm} {v : Value} (h : SubV S W xs v) (hg : W.grownBy W' none) : SubV S W' xs v := h.keep fun p _ u hu => hg.cell hu (by simp)
/-- why an item is no text -/
def tE (y : Itm) (least most : Int) : Int := if y.list then 2 else textE y.bytes.size least most
/-- why a row has an item that is no text -/
def gtxE : List Itm → Int → Int → Int
  | [], _, _ => 0
  | y :: ys, least, most => if tE y least most ≠ 0 then tE y least most else gtxE ys least most
/-- the items of a list that may be -/
def gtYs (l : Bool) (n : Nat) (many : Int) (ys : List Itm) : List Itm := if l = true ∧ textE n 0 many = 0 then ys else []
def gtE (l : Bool) (n : Nat) (many least most : Int) (ys : List Itm) : Int :=
  if gtxE (gtYs l n many ys) least most ≠ 0 then gtxE (gtYs l n many ys) least most else if l then textE n 0 many else 2
def gtR (E : Int) (ys : List Itm) : List Itm := if E = 0 then ys else []
theorem gtxE_snoc (ys : List Itm) (y : Itm) (a b : Int) (h : gtxE ys a b = 0) : gtxE (ys ++ [y]) a b = tE y a b := by
  induction ys with
  | nil => show (if tE y a b ≠ 0 then tE y a b else 0) = _; split <;> simp_all
  | cons x xs ih =>
    have hx : tE x a b = 0 := by
      by_cases h1 : tE x a b = 0
      · exact h1
      · rw [gtxE, if_pos h1] at h; exact absurd h h1
    rw [gtxE, if_neg (by simp [hx])] at h
    rw [List.cons_append, gtxE, if_neg (by simp [hx]), ih h]
theorem gtxE_err (ys zs : List Itm) (a b : Int) (h : gtxE ys a b ≠ 0) : gtxE (ys ++ zs) a b = gtxE ys a b := by
  induction ys with
  | nil => exact absurd rfl h
  | cons x xs ih =>
    by_cases h1 : tE x a b = 0
    · rw [gtxE, if_neg (by simp [h1])] at h
      rw [List.cons_append, gtxE, gtxE, if_neg (by simp [h1]), if_neg (by simp [h1]), ih h]
    · rw [List.cons_append, gtxE, gtxE, if_pos h1, if_pos h1]
theorem string_info : (Tryd.prog.info? 9).map (fun i => (i.zero, i.size, i.bytes)) = some (some (.string .empty), 1, 16) := by kernel_rfl

theorem own_lower {w : World} {base base' size n : Nat} {e : TypeId} {v : Value} {xs : List Value} (h : w.ownsRow base e size v n xs) (hb : base' ≤ base) : w.ownsRow base' e size v n xs := by
  refine ⟨h.1, ?_⟩
  rcases h.2 with h1 | ⟨g, cap, cur, hv, hg, rest⟩
  · exact .inl h1
  · exact .inr ⟨g, cap, cur, hv, by omega, rest⟩
set_option maxRecDepth 100000 in
set_option maxHeartbeats 400000 in
theorem getTexts_any (l : Bool) (s : ByteArray) (A : Option Addr) (n c : Nat) (ys : List Itm) (many least most : Int) (w : World) (hS : SubV (fun g => g < w.heap.size) w ys (.slice A n c)) (hn : n ≤ 100000) :
    Calls Tryd.prog 27 #[.agg #[.bool l, .string s, .slice A n c], .int .i64 many, .int .i64 least, .int .i64 most] w fun e w' => ∃ (v : Value) (xs : List Itm), e = .returned (.tuple #[v, .int .i64 (gtE l n many least most ys)]) ∧ w'.ownsRow w.heap.size 9 1 v xs.length (xs.map fun y => Value.string y.bytes) ∧ xs = gtR (gtE l n many least most ys) ys ∧ w.grownBy w' none := by
  have hB := Blk.new w 41 #[.bool l, .string s, .slice A n c]
  have hG := only_alloc (World.grownBy.refl w none) (.cells #[.bool l, .string s, .slice A n c] 41)
  have hz : (w.alloc (.cells #[.bool l, .string s, .slice A n c] 41)).heap.size = w.heap.size + 1 := by simp
  have HNL := Lib.hid hS.row.1
  have hS := hS.grown hG
  have HI := Lib.hid string_info
  go_enter Tryd.func27, Tryd.ntmps27
  go_upto_region 1 with (fail)
  obtain ⟨b, hb⟩ : ∃ b, w.heap.size = b := ⟨_, rfl⟩
  have HW := Lib.hid hb
  rw [hb] at hB hz ⊢
  generalize w.alloc (.cells #[.bool l, .string s, .slice A n c] 41) = W1 at *
  have c0 := hB.cell 0; have c1 := hB.cell 1; have c2 := hB.cell 2
  simp only [List.getElem?_toArray, List.getElem?_cons_zero, List.getElem?_cons_succ] at c0 c1 c2
  go_wp2_with fail
  refine (getList_any l s A n c 0 many _).mono ?_
  rintro e w3 ⟨rfl, hg3⟩
  have hlv : ∃ A' N c', (if l = true ∧ textE n 0 many = 0 then Value.slice A n c else .slice none 0 0) = .slice A' N c' ∧ SubV (fun g => g < w.heap.size) w3 (gtYs l n many ys) (.slice A' N c') ∧ N = (gtYs l n many ys).length ∧ N ≤ 100000 := by
    unfold gtYs
    by_cases hL : l = true ∧ textE n 0 many = 0
    · rw [if_pos hL, if_pos hL]
      exact ⟨A, n, c, rfl, hS.grown hg3, HNL.out, hn⟩
    · rw [if_neg hL, if_neg hL]
      exact ⟨none, 0, 0, rfl, .mk [] none 0 [] (fun h => by cases h) (fun i h => by cases h), rfl, by omega⟩
  have HGE : Hid (gtE l n many least most ys = if gtxE (gtYs l n many ys) least most ≠ 0 then gtxE (gtYs l n many ys) least most else if l then textE n 0 many else 2) := Lib.hid rfl
  have hlink : gtE l n many least most ys = 0 → gtYs l n many ys = ys := by
    intro h0
    unfold gtE at h0
    unfold gtYs at h0 ⊢
    by_cases hL : l = true ∧ textE n 0 many = 0
    · rw [if_pos hL]
    · rw [if_neg hL] at h0
      rw [show gtxE [] least most = 0 from rfl, if_neg (by simp)] at h0
      cases l with
      | false => simp at h0
      | true => exact absurd ⟨rfl, by simpa using h0⟩ hL
  have hlink2 : (if l = true then textE n 0 many else 2) ≠ 0 → gtYs l n many ys = [] := by
    intro h0
    unfold gtYs
    rw [if_neg]
    rintro ⟨rfl, h1⟩
    rw [if_pos rfl] at h0
    exact h0 h1
  obtain ⟨A', N, c', hv, hS', hN, hNn⟩ := hlv
  rw [hv]
  generalize hE1 : (if l = true then textE n 0 many else 2) = e1 at *
  generalize gtYs l n many ys = zs at *
  obtain ⟨E, hE⟩ : ∃ E, gtE l n many least most ys = E := ⟨_, rfl⟩
  rw [hE] at HGE hlink
  have HE := Lib.hid hE
  have HL := Lib.hid hlink
  have HL2 := Lib.hid hlink2
  have HN := Lib.hid hN
  have hle3 : b + 1 ≤ w3.heap.size := by have := hg3.size; omega
  have HG3 := Lib.hid (grown_self hG hg3 (by simp))
  have H3 := Lib.hid hS'
  have HB3 := Lib.hid hle3
  obtain ⟨b3, hb3⟩ : ∃ b, w3.heap.size = b := ⟨_, rfl⟩
  have HE3 := Lib.hid hb3
  obtain ⟨i0, hi, hz0, hzs, hzb⟩ := info_parts string_info
  clear hb3 hE hb hlink hlink2 hv hE1 c0 c1 c2 hB hG hS hS' hg3 hN hz hle3
  go_wp2_with fail
  go_loopw [12, 25] (fun v i wr => ∃ k : Nat, i = .int .i64 k ∧ k ≤ N ∧ gtxE (zs.take k) least most = 0 ∧ wr.ownsRow b3 9 1 v k ((zs.take k).map fun y => Value.string y.bytes) ∧ w3.grownBy wr none) (fun _ i _ => N - (intOf i).toNat)
  case atStart => exact ⟨0, rfl, by omega, rfl, World.ownsRow_nil _ _ _ _, World.grownBy.refl _ _⟩
  case round =>
    obtain ⟨k, rfl, hk, hx, hO, hG⟩ := hrel
    have hsz : b3 ≤ wr.heap.size := by have := hG.size; have := HE3.out; omega
    by_cases hlt : k < N
    · obtain ⟨vs, hvs, hrow⟩ := (H3.out.grown hG).row.2
      have hkz : k < zs.length := by have := HN.out; omega
      obtain ⟨g, off, rfl, hgS, hc⟩ := hrow (by omega)
      obtain ⟨c0, c1, c2⟩ := hc k hkz
      have hzk : zs[k]? = some (zs.getD k Itm.none_) := by rw [List.getD_eq_getElem?_getD, List.getElem?_eq_getElem hkz]; rfl
      have htk : zs.take (k + 1) = zs.take k ++ [zs.getD k Itm.none_] := by rw [List.take_add_one, hzk]; rfl
      have q1 : (k : Int) < (N : Int) := by omega
      obtain ⟨iA, ic, hyv⟩ := (hvs k hkz).slice
      rw [hyv] at c2
      generalize (zs.getD k Itm.none_).items.length = iN at *
      generalize zs.getD k Itm.none_ = y at *
      obtain ⟨yl, yb, yi⟩ := y
      have HTK := Lib.hid htk
      have HX := Lib.hid hx
      clear hyv hc hrow hvs hzk htk hx hkz hgS
      obtain ⟨oA, oc, rfl⟩ := own_slice3 hO
      simp only [Itm.list, Itm.bytes] at c0 c1
      obtain ⟨b14, hb14⟩ : ∃ b, wr.heap.size = b := ⟨_, rfl⟩
      have hB14 := Blk.new wr 41 #[.bool yl, .string yb, .slice iA iN ic]
      have hO := hO.alloc (.cells #[.bool yl, .string yb, .slice iA iN ic] 41)
      have hG := only_alloc hG (.cells #[.bool yl, .string yb, .slice iA iN ic] 41)
      have hsz : b3 ≤ (wr.alloc (.cells #[.bool yl, .string yb, .slice iA iN ic] 41)).heap.size := by simp; omega
      rw [hb14] at hB14
      go_upto_region 6 with (fail)
      generalize wr.alloc (.cells #[.bool yl, .string yb, .slice iA iN ic] 41) = W5 at *
      clear c0 c1 c2
      have c0 := hB14.cell 0; have c1 := hB14.cell 1; have c2 := hB14.cell 2
      simp only [List.getElem?_toArray, List.getElem?_cons_zero, List.getElem?_cons_succ] at c0 c1 c2
      clear hb14 hB14
      go_wp2_with fail
      refine (getText_any yl yb (.slice iA iN ic) least most _).mono ?_
      rintro e w6 ⟨rfl, hg6⟩
      have hO := hO.kept hg6 (by cases oA; exact .inl rfl; exact .inr (by simp [Value.ownBlock]))
      have hsz6 := hg6.size
      have hG := grown_self hG hg6 (by simp)
      clear c0 c1 c2
      have HTE : Hid (tE (.mk yl yb yi) least most = if yl = true then 2 else textE yb.size least most) := Lib.hid rfl
      generalize hEE : (if yl = true then 2 else textE yb.size least most) = ee at *
      by_cases h0 : ee = 0
      · have hl0 : yl = false ∧ textE yb.size least most = 0 := by
          cases yl with
          | true => rw [if_pos rfl] at hEE; omega
          | false => rw [if_neg (by simp)] at hEE; exact ⟨rfl, hEE.trans h0⟩
        rw [if_pos hl0]
        have h0' : (ee != 0) = false := by simp [h0]
        clear hEE hl0
        subst h0
        go_wp2_with (at_builtin; refine wpList_append_own _ rfl _ _ 23 rfl b3 9 i0 _ 1 16 Tryd.underlying23 hi hz0 hzs hzb rfl (by decide) _ _ _ rfl (hO.alloc _) ⟨w6.heap.size, 0, none⟩ 1 1 [.string yb] rfl rfl (cell_one_new _ _ _) (by simp [Value.oneCell']) (by simp only [maxLen]; omega) (by omega) (by simp; omega) ?_; intro v' w7 hown7 hgrow _)
        refine ⟨⟨k + 1, by go_num, by omega, ?_, ?_, ?_⟩, by simp [intOf]; omega⟩
        · rw [HTK.out, gtxE_snoc _ _ _ _ HX.out]; exact HTE.out
        · rw [HTK.out, List.map_append]; exact hown7
        · exact grown_self (only_alloc hG _) hgrow (fun j hj => .inr (by have := own_ge hO hj; have := HE3.out; omega))
      · have hl0 : ¬ (yl = false ∧ textE yb.size least most = 0) := by
          rintro ⟨rfl, h1⟩
          rw [if_neg (by simp)] at hEE; exact h0 (hEE.symm.trans h1)
        rw [if_neg hl0]
        have h0' : (ee != 0) = true := by simp [h0]
        clear hEE hl0
        go_wp2_with fail
        refine bodyPost_ret (results_tmp2 rfl _ _ _) rfl ?_
        have hee : gtxE zs least most = ee := by
          have h1 : gtxE (zs.take (k + 1)) least most = ee := by rw [HTK.out, gtxE_snoc _ _ _ _ HX.out]; exact HTE.out
          rw [← List.take_append_drop (k + 1) zs, gtxE_err _ _ _ _ (by rw [h1]; exact h0), h1]
        have hEv : E = ee := by rw [HGE.out, hee, if_pos h0]
        have hEE := HE.out.trans hEv
        exact ⟨_, [], by rw [hEE]; rfl, World.ownsRow_nil _ _ _ _, by rw [hEE]; exact (if_neg h0).symm, grown_self HG3.out hG (by simp)⟩
    · obtain rfl : k = N := by omega
      have hfin : decide ((k : Int) < (k : Int)) = false := by simp
      go_wp2_with fail
      refine bodyPost_ret (results_tmp2 rfl _ _ _) rfl ?_
      have ht : zs.take k = zs := List.take_of_length_le (by have := HN.out; omega)
      rw [ht] at hx hO
      have hEv : E = e1 := by rw [HGE.out, hx, if_neg (by simp)]
      have hEE := HE.out.trans hEv
      have hzl : zs = if e1 = 0 then ys else [] := by
        by_cases h1 : e1 = 0
        · rw [if_pos h1, HL.out (hEv.trans h1)]
        · rw [if_neg h1, HL2.out h1]
      have hzk : zs.length = k := HN.out.symm
      exact ⟨_, zs, by rw [hEE]; rfl, by rw [hzk]; exact own_lower hO (by have := HE3.out; have := HG3.out.size; omega), by rw [hEE]; exact hzl, grown_self HG3.out hG (by simp)⟩
end Go.Proofs.YtagjpbcmhaekpaaDoor
