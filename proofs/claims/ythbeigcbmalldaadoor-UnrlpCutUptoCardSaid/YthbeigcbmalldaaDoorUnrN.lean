/- One item: an error of the head. -/
import Derived.Test.YthbeigcbmalldaaDoorUnrM
import Derived.Deep.DeepCutAuto
namespace Go.Proofs.YthbeigcbmalldaaDoor
open Go.RowKit Go.Shelf
set_option linter.unusedVariables false

/-- the guard of the depth does not hold, in one of three ways -/
theorem guard_no {s : ByteArray} {a k : Nat} (ha : a ≤ s.size) (h : ¬ (a < s.size ∧ 192 ≤ headC s.data.toList a ∧ k = 0)) :
    (decide ((a : Int) < (s.size : Int)) = false ∧ decide (a < s.size) = false) ∨
    (((a : Int) < (s.size : Int)) ∧ (∀ V, (Instr.index 9 (.string s) (.int .i64 (a : Int))).run Tryd.prog V = .ok (.int .u8 ((headC s.data.toList a : Nat) : Int)) V) ∧ decide ((192 : Int) ≤ ((headC s.data.toList a : Nat) : Int)) = false) ∨
    (((a : Int) < (s.size : Int)) ∧ (∀ V, (Instr.index 9 (.string s) (.int .i64 (a : Int))).run Tryd.prog V = .ok (.int .u8 ((headC s.data.toList a : Nat) : Int)) V) ∧ decide ((192 : Int) ≤ ((headC s.data.toList a : Nat) : Int)) = true ∧ decide ((12 : Int) ≤ ((12 - k : Nat) : Int)) = false) := by
  have hlz : s.data.toList.length = s.size := ba_len s
  by_cases h1 : a < s.size
  · have hid := fun V => idx_str s a (s.data.toList.getD a 0) (at_getD 0 (by omega)) V
    change ∀ V, (Instr.index 9 (.string s) (.int .i64 (a : Int))).run Tryd.prog V = .ok (.int .u8 ((headC s.data.toList a : Nat) : Int)) V at hid
    by_cases h2 : 192 ≤ headC s.data.toList a
    · exact .inr (.inr ⟨by omega, hid, decide_eq_true (by omega), decide_eq_false (by omega)⟩)
    · exact .inr (.inl ⟨by omega, hid, decide_eq_false (by omega)⟩)
  · exact .inl ⟨decide_eq_false (by omega), decide_eq_false h1⟩

set_option maxRecDepth 100000 in
set_option maxHeartbeats 600000 in
theorem item_bad (k : Nat) (s : ByteArray) (a r : Nat) (W : World) (hs : s.size ≤ 65536) (ha : a ≤ s.size) (hr : Blk W r 45 #[.int .i64 ((12 - k : Nat) : Int), .int .i64 0])
    (h1 : ¬ (a < s.size ∧ 192 ≤ headC s.data.toList a ∧ k = 0)) (he : lookE s.data.toList (a : Int) ≠ 0) :
    Calls Tryd.prog 17 #[.pointer (some ⟨r, 0, none⟩), .string s, .int .i64 (a : Int)] W fun e W1 => ∃ l b sA sn sc tq, e = .returned (.tuple #[.agg #[.bool l, .string b, .slice sA sn sc], .int .i64 tq]) ∧ W.grownBy W1 (some r) ∧ ItemTail k s.data.toList a r W l b (.slice sA sn sc) tq W1 := by
  have hlz : s.data.toList.length = s.size := ba_len s
  have hlk := fun V => look_any s (a : Int) (by omega) V
  have hrl := hr.lt
  have hG := guard_no ha h1
  have hi := item_err (k := k) (by rw [hlz]; exact h1) he
  obtain ⟨b1, b2, b3⟩ := look_bad rfl he
  rw [b1, b2, b3] at hlk
  have HI := Lib.hid hi
  have hxA := Blk.new W 24 #[.bool false, .string ⟨#[]⟩, .slice none 0 0]
  have hrA := hr.alloc (.cells #[.bool false, .string ⟨#[]⟩, .slice none 0 0] 24)
  have hGA : W.grownBy (W.alloc (.cells #[.bool false, .string ⟨#[]⟩, .slice none 0 0] 24)) none := only_alloc (World.grownBy.refl _ _) _
  have k1 := (hr.alloc (.cells #[.bool false, .string ⟨#[]⟩, .slice none 0 0] 24)).cell 0
  simp only [List.getElem?_toArray, List.getElem?_cons_zero] at k1
  clear hi b1 b2 b3 h1 hlz
  generalize lookE s.data.toList (a : Int) = E at *
  generalize headC s.data.toList a = c at *
  have e1 : (E != 0) = true := by simpa using he
  have HE := Lib.hid he
  clear he
  rcases hG with ⟨d1, d1'⟩ | ⟨d1, hid, d2⟩ | ⟨d1, hid, d2, d3⟩
  all_goals
    go_enter Tryd.func17, Tryd.ntmps17
    go_wp2_with fail
    refine (hlk _).mono ?_
    rintro e w2 ⟨rfl, hg⟩
    have y0 := hxA.grown hg (by simp)
    have y1 := hrA.grown hg (by simp)
    have hG2 := only_weak (grown_self hGA hg (by simp)) (some r)
    have z0 := y0.alloc (.cells #[.int .i64 0, .int .i64 0, .bool false] 49)
    have z1 := y1.alloc (.cells #[.int .i64 0, .int .i64 0, .bool false] 49)
    have hG3 := only_alloc hG2 (.cells #[.int .i64 0, .int .i64 0, .bool false] 49)
    clear hxA hrA hGA hg hlk hG2 y0 y1 k1 hr
    go_upto_region 6 with (fail)
    generalize w2.alloc (.cells #[.int .i64 0, .int .i64 0, .bool false] 49) = w3 at *
    have r1 := z1.cell 1; have rf := z1.frozen 1
    have t0 := z0.far (p := ⟨r, 1, none⟩) (by show W.heap.size ≠ r; omega) (.int .i64 E)
    have t1 := z1.set_ 1 (.int .i64 E)
    have tG : W.grownBy (w3.setCell ⟨r, 1, none⟩ (.int .i64 E)) (some r) := grown_self hG3 (set_grown w3 r 1 (.int .i64 E)) (fun q e => .inl e)
    simp only [List.setIfInBounds_toArray, List.set_cons_zero, List.set_cons_succ, List.getElem?_toArray, List.getElem?_cons_zero, List.getElem?_cons_succ] at t1 r1
    clear z0 z1 hG3
    go_upto_region 7 with (fail)
    clear r1 rf
    generalize w3.setCell ⟨r, 1, none⟩ (.int .i64 E) = w4 at *
    have c0 := t0.cell 0; have c1 := t0.cell 1; have c2 := t0.cell 2
    have f0 := t0.frozen 0; have f1 := t0.frozen 1; have f2 := t0.frozen 2
    simp only [List.getElem?_toArray, List.getElem?_cons_zero, List.getElem?_cons_succ] at c0 c1 c2
    have t2 := blk_set3 t0 (.bool false) (.string ⟨#[]⟩) (.slice none 0 0)
    have t3 := ((t1.far (p := ⟨W.heap.size, 0, none⟩) (by show r ≠ W.heap.size; omega) (.bool false)).far (p := ⟨W.heap.size, 1, none⟩) (by show r ≠ W.heap.size; omega) (.string ⟨#[]⟩)).far (p := ⟨W.heap.size, 2, none⟩) (by show r ≠ W.heap.size; omega) (.slice none 0 0)
    have t4 := only_set3 tG (g := W.heap.size) (Nat.le_refl _) (.bool false) (.string ⟨#[]⟩) (.slice none 0 0)
    have T2 := Lib.hid t2; have T3 := Lib.hid t3; have T4 := Lib.hid t4
    clear t0 t1 t2 t3 t4 tG
    go_wp2_with fail
    refine bodyPost_ret (results_ct (fn := Tryd.f17) rfl _ _ _ _ rfl (load_item T2.out)) rfl ?_
    exact ⟨false, ⟨#[]⟩, none, 0, 0, (a : Int), rfl, T4.out, .inr ⟨E, HI.out, HE.out, T3.out⟩⟩
set_option maxRecDepth 100000 in
set_option maxHeartbeats 600000 in
theorem item_deep (s : ByteArray) (a r : Nat) (W : World) (hs : s.size ≤ 65536) (h2 : a < s.size) (h3 : 192 ≤ headC s.data.toList a) (hr : Blk W r 45 #[.int .i64 ((12 - 0 : Nat) : Int), .int .i64 0]) :
    Calls Tryd.prog 17 #[.pointer (some ⟨r, 0, none⟩), .string s, .int .i64 (a : Int)] W fun e W1 => ∃ l b sA sn sc tq, e = .returned (.tuple #[.agg #[.bool l, .string b, .slice sA sn sc], .int .i64 tq]) ∧ W.grownBy W1 (some r) ∧ ItemTail 0 s.data.toList a r W l b (.slice sA sn sc) tq W1 := by
  have hlz : s.data.toList.length = s.size := ba_len s
  have hr0 := hr.cell 0; have hr1 := hr.cell 1; have hf1 := hr.frozen 1
  simp only [List.getElem?_toArray, List.getElem?_cons_zero, List.getElem?_cons_succ] at hr0 hr1
  have hrl := hr.lt
  have hi : itemF 0 s.data.toList a = .error 7 := by
    show itemG none s.data.toList a = .error 7
    unfold itemG; rw [if_pos ⟨by omega, h3, rfl⟩]
  have hid := fun V => idx_str s a (s.data.toList.getD a 0) (at_getD 0 (by omega)) V
  change ∀ V, (Instr.index 9 (.string s) (.int .i64 (a : Int))).run Tryd.prog V = .ok (.int .u8 ((headC s.data.toList a : Nat) : Int)) V at hid
  have HI := Lib.hid hi
  generalize headC s.data.toList a = c at *
  have d1 : (a : Int) < (s.size : Int) := by omega
  have d2 : (192 : Int) ≤ (c : Int) := by omega
  clear hi
  go_enter Tryd.func17, Tryd.ntmps17
  go_wp2_with fail
  have hxb := Blk.new (W.setCell ⟨r, 1, none⟩ (.int .i64 7)) 24 #[.bool false, .string ⟨#[]⟩, .slice none 0 0]
  rw [show (W.setCell ⟨r, 1, none⟩ (.int .i64 7)).heap.size = W.heap.size by simp [World.setCell]] at hxb
  have hrx := (hr.set_ 1 (.int .i64 7)).alloc (.cells #[.bool false, .string ⟨#[]⟩, .slice none 0 0] 24)
  simp only [List.setIfInBounds_toArray, List.set_cons_zero, List.set_cons_succ] at hrx
  have hgx := only_alloc (set_grown W r 1 (.int .i64 7)) (.cells #[.bool false, .string ⟨#[]⟩, .slice none 0 0] 24)
  refine bodyPost_ret (results_ct (fn := Tryd.f17) rfl _ _ _ _ rfl (load_item hxb)) rfl ?_
  exact ⟨false, ⟨#[]⟩, none, 0, 0, (a : Int), rfl, hgx, .inr ⟨7, HI.out, by decide, hrx⟩⟩
end Go.Proofs.YthbeigcbmalldaaDoor
