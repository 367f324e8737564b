/- One item: a list. -/
import Derived.Test.YthbeigcbmalldaaDoorUnrO
namespace Go.Proofs.YthbeigcbmalldaaDoor
open Go.RowKit Go.Shelf
set_option linter.unusedVariables false
set_option linter.unusedSimpArgs false

theorem exec_call3 {P : Program} {a : Act} {o : Oper} {W : World} (f : FuncId) (x y z : Operand) (ts : Array TypeId) (ho : o.op = .call { callee := .value (.func f), args := #[x, y, z], argTypes := ts }) (v u t : Value) (hx : a.eval x = v) (hy : a.eval y = u) (hz : a.eval z = t)
    (hf : (callFunc f #[v, u, t]).run P W = .ok (.enter f #[v, u, t]) W) : (execOp a.eval o).run P W = .ok (.enter f #[v, u, t]) W := by
  have he : a.eval (.func f) = .func (.func f) #[] #[] := rfl
  unfold execOp
  generalize a.eval = ev at *
  simp only [ho]
  simp [resolve, invoke, go_sem, hx, hy, hz, he, hf]

theorem ba_take {s : ByteArray} {N : Nat} : (s.extract 0 N).data.toList = s.data.toList.take N := by
  rw [Lib.extract_data]; simp

set_option maxRecDepth 100000 in
set_option maxHeartbeats 1000000 in
theorem item_sub (k : Nat) (hk : k ≤ 11) (hC : ItemC k) (s : ByteArray) (a r : Nat) (W : World) (hs : s.size ≤ 65536) (ha : a ≤ s.size) (hr : Blk W r 45 #[.int .i64 ((12 - (k + 1) : Nat) : Int), .int .i64 0])
    (he : lookE s.data.toList (a : Int) = 0) (hl : lookL s.data.toList (a : Int) = true) :
    Calls Tryd.prog 17 #[.pointer (some ⟨r, 0, none⟩), .string s, .int .i64 (a : Int)] W fun e W1 => ∃ l b sA sn sc tq, e = .returned (.tuple #[.agg #[.bool l, .string b, .slice sA sn sc], .int .i64 tq]) ∧ W.grownBy W1 (some r) ∧ ItemTail (k + 1) s.data.toList a r W l b (.slice sA sn sc) tq W1 := by
  have hlz : s.data.toList.length = s.size := ba_len s
  have hlk := fun V => look_any s (a : Int) (by omega) V
  have hrl := hr.lt
  have hG := guard_no (k := k + 1) ha (by omega)
  have hi := item_list (k := k) he hl
  obtain ⟨b0, b1, b2, b3, b4, b5⟩ := look_ok he
  rw [hl] at b5
  have b6 : 192 ≤ headC s.data.toList a := by simpa using b5.symm
  rw [hl, he] at hlk
  have hxA := Blk.new W 24 #[.bool false, .string ⟨#[]⟩, .slice none 0 0]
  have hrA := hr.alloc (.cells #[.bool false, .string ⟨#[]⟩, .slice none 0 0] 24)
  have hGA : W.grownBy (W.alloc (.cells #[.bool false, .string ⟨#[]⟩, .slice none 0 0] 24)) none := only_alloc (World.grownBy.refl _ _) _
  have k1 := (hr.alloc (.cells #[.bool false, .string ⟨#[]⟩, .slice none 0 0] 24)).cell 0
  simp only [List.getElem?_toArray, List.getElem?_cons_zero] at k1
  have hcalls := fun V (hV : Blk V r 45 #[.int .i64 ((11 - k : Nat) : Int), .int .i64 0]) => items_any k hk hC (s.extract 0 (lookFrom s.data.toList (a : Int) + lookN s.data.toList (a : Int))) (lookFrom s.data.toList (a : Int)) r V (by simp; omega) hV
  rw [hlz] at b1
  have hex : (s.extract 0 (lookFrom s.data.toList (a : Int) + lookN s.data.toList (a : Int))).size = lookFrom s.data.toList (a : Int) + lookN s.data.toList (a : Int) := by simp; omega
  rw [ba_take, hex] at hcalls
  have hd : (12 - (k + 1) : Nat) = 11 - k := by omega
  rw [hd] at hr hrA hG k1
  clear he hl b5 hex hd
  generalize lookFrom s.data.toList (a : Int) = F at *
  generalize lookN s.data.toList (a : Int) = N at *
  generalize hR : itemsF (itemF k (s.data.toList.take (F + N))) (F + N) 513 0 F = R at *
  have HI := Lib.hid hi
  have HC := Lib.hid hcalls
  clear hi hcalls hR
  have v1 : IntKind.i64.wrap ((F : Int) + (N : Int)) = (F : Int) + (N : Int) := IntWalk.i64_in _ (by omega)
  rcases hG with ⟨d1, d1'⟩ | ⟨d1, hid, d2⟩ | ⟨d1, hid, d2, d3⟩
  · exfalso; simp at d1'; omega
  · exfalso; simp at d2; omega
  generalize headC s.data.toList a = c at *
  go_enter Tryd.func17, Tryd.ntmps17
  go_wp2_with fail
  refine (hlk _).mono ?_
  rintro e w2 ⟨rfl, hg⟩
  have y0 := hxA.grown hg (by simp)
  have y1 := hrA.grown hg (by simp)
  have hG2 := only_weak (grown_self hGA hg (by simp)) (some r)
  have z0 := y0.alloc (.cells #[.int .i64 (F : Int), .int .i64 (N : Int), .bool true] 49)
  have z1 := y1.alloc (.cells #[.int .i64 (F : Int), .int .i64 (N : Int), .bool true] 49)
  have z2 := Blk.new w2 49 #[.int .i64 (F : Int), .int .i64 (N : Int), .bool true]
  have hG3 := only_alloc hG2 (.cells #[.int .i64 (F : Int), .int .i64 (N : Int), .bool true] 49)
  have hz2 : W.heap.size < w2.heap.size := by have := hg.size; simp at this; omega
  clear hxA hrA hGA hg hlk hG2 y0 y1 k1 hr
  go_upto_region 8 with (fail)
  generalize w2.alloc (.cells #[.int .i64 (F : Int), .int .i64 (N : Int), .bool true] 49) = w3 at *
  have r0 := z2.cell 0; have r1 := z2.cell 1; have r2 := z2.cell 2
  simp only [List.getElem?_toArray, List.getElem?_cons_zero, List.getElem?_cons_succ] at r0 r1 r2
  go_upto_region 11 with (fail)
  generalize w2.heap.size = b2 at *
  clear r0 r1 r2
  refine wp_region_held (S := fun V => Blk V b2 49 #[.int .i64 (F : Int), .int .i64 (N : Int), .bool true]) (by kernel_rfl) ?_
  change wpAnyH _ _ _ _ _ _ _ _ w3.drew
  replace z0 : Blk w3.drew W.heap.size 24 #[.bool false, .string ⟨#[]⟩, .slice none 0 0] := z0
  replace z1 : Blk w3.drew r 45 #[.int .i64 ((11 - k : Nat) : Int), .int .i64 0] := z1
  replace z2 : Blk w3.drew b2 49 #[.int .i64 (F : Int), .int .i64 (N : Int), .bool true] := z2
  replace hG3 : W.grownBy w3.drew (some r) := ⟨hG3.os, hG3.tape, hG3.output, hG3.size, hG3.block⟩
  generalize w3.drew = u0 at *
  refine held_take (i := 0) (v := .pointer (some ⟨r, 0, none⟩)) (some 62) rfl (by kernel_rfl) (by kernel_rfl) (by kernel_rfl) (fun _ _ _ h => h) rfl (Or.inl ⟨by rfl, fun V hV => by go_simp⟩) z2 ?_
  simp only [Act.put, List.setIfInBounds_toArray, List.set_cons_zero, List.set_cons_succ]
  refine held_take (i := 1) (v := .string s) (some 63) rfl (by kernel_rfl) (by kernel_rfl) (by kernel_rfl) (fun _ _ _ h => h) rfl (Or.inl ⟨by rfl, fun V hV => by go_simp⟩) z2 ?_
  simp only [Act.put, List.setIfInBounds_toArray, List.set_cons_zero, List.set_cons_succ]
  refine held_take (i := 2) (v := .int .i64 ((F : Int) + (N : Int))) (some 64) rfl (by kernel_rfl) (by kernel_rfl) (by kernel_rfl) (fun _ _ _ h => h) rfl (Or.inl ⟨by rfl, fun V hV => by go_simp⟩) z2 ?_
  simp only [Act.put, List.setIfInBounds_toArray, List.set_cons_zero, List.set_cons_succ]
  refine held_take (i := 3) (v := .string (s.extract 0 (F + N))) (some 65) rfl (by kernel_rfl) (by kernel_rfl) (by kernel_rfl) (fun _ _ _ h => h) rfl (Or.inl ⟨by rfl, fun V hV => by go_simp; rw [if_pos ⟨by omega, by omega⟩, show ((F : Int) + (N : Int)).toNat = F + N by omega]⟩) z2 ?_
  simp only [Act.put, List.setIfInBounds_toArray, List.set_cons_zero, List.set_cons_succ]
  refine held_take (i := 4) (v := .pointer (some ⟨b2, 0, none⟩)) (some 66) rfl (by kernel_rfl) (by kernel_rfl) (by kernel_rfl) (fun _ _ _ h => h) rfl (Or.inl ⟨by rfl, fun V hV => by go_simp⟩) z2 ?_
  simp only [Act.put, List.setIfInBounds_toArray, List.set_cons_zero, List.set_cons_succ]
  refine held_take (i := 5) (v := .int .i64 (F : Int)) (some 67) rfl (by kernel_rfl) (by kernel_rfl) (by kernel_rfl) (fun _ _ _ h => h) rfl (Or.inl ⟨by rfl, fun V hV => exec_load1 3 (.tmp 66) rfl _ rfl _ _ Tryd.underlying3 rfl (hV.cell 0)⟩) z2 ?_
  simp only [Act.put, List.setIfInBounds_toArray, List.set_cons_zero, List.set_cons_succ]
  refine held_take (i := 7) (v := .int .i64 ((F : Int) + (N : Int))) (some 69) rfl (by kernel_rfl) (by kernel_rfl) (by kernel_rfl) (fun _ _ _ h => h) rfl (Or.inl ⟨by rfl, fun V hV => by go_simp⟩) z2 ?_
  simp only [Act.put, List.setIfInBounds_toArray, List.set_cons_zero, List.set_cons_succ]
  refine held_one (i := 6) (by kernel_rfl) ?_
  refine held_enter (some 68) rfl rfl 27 #[.pointer (some ⟨r, 0, none⟩), .string (s.extract 0 (F + N)), .int .i64 (F : Int)] (exec_call3 _ (.tmp 62) (.tmp 65) (.tmp 67) _ rfl _ _ _ rfl rfl rfl rfl) rfl ?_
  refine (HC.out u0 z1).mono ?_
  rintro e w4 ⟨sA, sn, sc, rfl, hg, hpost⟩
  have z2' := z2.grown hg (by simp; omega)
  have z0' := z0.grown hg (by simp; omega)
  refine ⟨_, rfl, z2', ?_⟩
  simp only [Act.put, List.setIfInBounds_toArray, List.set_cons_zero, List.set_cons_succ]
  have t2 := blk_set3 z0' (.bool true) (.string .empty) (.slice sA sn sc)
  have t4 := only_set3 (grown_self hG3 hg (fun q e => .inl e)) (g := W.heap.size) (Nat.le_refl _) (.bool true) (.string .empty) (.slice sA sn sc)
  have t5 := ((z2'.far (p := ⟨W.heap.size, 0, none⟩) (by show b2 ≠ W.heap.size; omega) (.bool true)).far (p := ⟨W.heap.size, 1, none⟩) (by show b2 ≠ W.heap.size; omega) (.string .empty)).far (p := ⟨W.heap.size, 2, none⟩) (by show b2 ≠ W.heap.size; omega) (.slice sA sn sc)
  refine held_one (i := 8) (by kernel_rfl) ?_
  refine held_store rfl rfl (exec_store3 (.tmp 6) (.tmp 68) rfl rfl rfl z0' (by simp)) t5 ?_
  simp only [Act.put, List.setIfInBounds_toArray, List.set_cons_zero, List.set_cons_succ]
  refine held_one (i := 9) (by kernel_rfl) ?_
  refine held_value (some 7) rfl rfl (.int .i64 ((F : Int) + (N : Int))) (by go_simp) rfl t5 ?_
  simp only [Act.put, List.setIfInBounds_toArray, List.set_cons_zero, List.set_cons_succ]
  refine wpAnyH_done (by kernel_rfl) ?_ _
  have T2 := Lib.hid t2; have T4 := Lib.hid t4
  have st : Stays (fun g => g = W.heap.size) w4 (((w4.setCell ⟨W.heap.size, 0, none⟩ (.bool true)).setCell ⟨W.heap.size, 1, none⟩ (.string .empty)).setCell ⟨W.heap.size, 2, none⟩ (.slice sA sn sc)) := by
    intro g o ho _ hx
    exact (Below.heap_setCell _ _ _ g hx).trans ((Below.heap_setCell _ _ _ g hx).trans ((Below.heap_setCell _ _ _ g hx).trans ho))
  have hsz := z2.lt
  have HP : Hid (ItemTail (k + 1) s.data.toList a r W true .empty (.slice sA sn sc) ((F : Int) + (N : Int)) (((w4.setCell ⟨W.heap.size, 0, none⟩ (.bool true)).setCell ⟨W.heap.size, 1, none⟩ (.string .empty)).setCell ⟨W.heap.size, 2, none⟩ (.slice sA sn sc))) := by
    refine Lib.hid ?_
    have e12 : (12 - (k + 1) : Nat) = 11 - k := by omega
    unfold ItemTail
    rw [e12]
    rcases hpost with ⟨xs, h1, h2, h3⟩ | ⟨E, h1, h2, h3⟩
    · refine .inl ⟨_, _, by rw [HI.out, h1], by simp, rfl, rfl, st.blk h2 (by omega), ?_⟩
      exact (st.sub (h3.weak (S' := fun g => u0.heap.size ≤ g) fun g h => h) (by intro g h e; omega)).weak fun g h => by omega
    · exact .inr ⟨E, by rw [HI.out, h1], h2, st.blk h3 (by omega)⟩
  clear t2 t4 t5 z2' z0' z0 z1 z2 hG3 hg hpost st
  go_wp2_with fail
  refine bodyPost_ret (results_ct (fn := Tryd.f17) rfl _ _ _ _ rfl (load_item T2.out)) rfl ?_
  exact .inr ⟨.empty, sA, sn, sc, (F : Int) + (N : Int), rfl, T4.out, HP.out⟩

/-- THE CONTRACT OF AN ITEM'S READER, at every depth -/
theorem item_any (k : Nat) (hk : k ≤ 12) : ItemC k := by
  induction k with
  | zero =>
    intro s a r W hs ha hr
    have hlz : s.data.toList.length = s.size := ba_len s
    by_cases h1 : a < s.size ∧ 192 ≤ headC s.data.toList a
    · exact item_deep s a r W hs h1.1 h1.2 hr
    · by_cases he : lookE s.data.toList (a : Int) = 0
      · refine item_txt 0 s a r W hs ha hr (by rintro ⟨h2, h3, _⟩; exact h1 ⟨h2, h3⟩) he ?_
        obtain ⟨b0, _, _, _, _, b5⟩ := look_ok he
        rw [b5]
        exact decide_eq_false (fun h => h1 ⟨by omega, h⟩)
      · exact item_bad 0 s a r W hs ha hr (by rintro ⟨h2, h3, _⟩; exact h1 ⟨h2, h3⟩) he
  | succ k ih =>
    intro s a r W hs ha hr
    by_cases he : lookE s.data.toList (a : Int) = 0
    · by_cases hl : lookL s.data.toList (a : Int) = true
      · exact item_sub k (by omega) (ih (by omega)) s a r W hs ha hr he hl
      · exact item_txt (k + 1) s a r W hs ha hr (by omega) he (by simpa using hl)
    · exact item_bad (k + 1) s a r W hs ha hr (by omega) he
end Go.Proofs.YthbeigcbmalldaaDoor
