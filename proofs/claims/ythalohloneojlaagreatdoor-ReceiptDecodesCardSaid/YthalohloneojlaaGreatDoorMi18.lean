/- Merged: UnrP, UnrQ, UnrR, UnrS0, TSame, UnrU, RcpJ0. -/
import Derived.Test.YthalohloneojlaaGreatDoorMi2
import Derived.Test.YthalohloneojlaaGreatDoorMi4
import Derived.Test.YthalohloneojlaaGreatDoorMi7
import Derived.Test.YthalohloneojlaaGreatDoorMi17
import Derived.Deep.DeepCutAuto
/- One item: a list. -/
namespace Go.Proofs.YthalohloneojlaaGreatDoor
open Go.RowKit Go.Shelf
set_option linter.unusedVariables false
set_option linter.unusedSimpArgs false

theorem exec_call3 {P : Program} {a : Act} {o : Oper} {W : World} (f : FuncId) (x y z : Operand) (ts : Array TypeId) (ho : o.op = .call { callee := .value (.func f), args := #[x, y, z], argTypes := ts }) (v u t : Value) (hx : a.eval x = v) (hy : a.eval y = u) (hz : a.eval z = t)
    (hf : (callFunc f #[v, u, t]).run P W = .ok (.enter f #[v, u, t]) W) : (execOp a.eval o).run P W = .ok (.enter f #[v, u, t]) W := by
  have he : a.eval (.func f) = .func (.func f) #[] #[] := rfl
  unfold execOp
  generalize a.eval = ev at *
  simp only [ho]
  simp [resolve, invoke, go_sem, hx, hy, hz, he, hf]

theorem ba_take {s : ByteArray} {N : Nat} : (s.extract 0 N).data.toList = s.data.toList.take N := by
  rw [Lib.extract_data]; simp

set_option maxRecDepth 100000 in
set_option maxHeartbeats 1000000 in
theorem item_sub (k : Nat) (hk : k ≤ 11) (hC : ItemC k) (s : ByteArray) (a r : Nat) (W : World) (hs : s.size ≤ 65536) (ha : a ≤ s.size) (hr : Blk W r 95 #[.int .i64 ((12 - (k + 1) : Nat) : Int), .int .i64 0])
    (he : lookE s.data.toList (a : Int) = 0) (hl : lookL s.data.toList (a : Int) = true) :
    Calls Tryz.prog 59 #[.pointer (some ⟨r, 0, none⟩), .string s, .int .i64 (a : Int)] W fun e W1 => ∃ l b sA sn sc tq, e = .returned (.tuple #[.agg #[.bool l, .string b, .slice sA sn sc], .int .i64 tq]) ∧ W.grownBy W1 (some r) ∧ ItemTail (k + 1) s.data.toList a r W l b (.slice sA sn sc) tq W1 := by
  have hlz : s.data.toList.length = s.size := ba_len s
  have hlk := fun V => look_any s (a : Int) (by omega) V
  have hrl := hr.lt
  have hG := guard_no (k := k + 1) ha (by omega)
  have hi := item_list (k := k) he hl
  obtain ⟨b0, b1, b2, b3, b4, b5⟩ := look_ok he
  rw [hl] at b5
  have b6 : 192 ≤ headC s.data.toList a := by simpa using b5.symm
  rw [hl, he] at hlk
  have hxA := Blk.new W 45 #[.bool false, .string ⟨#[]⟩, .slice none 0 0]
  have hrA := hr.alloc (.cells #[.bool false, .string ⟨#[]⟩, .slice none 0 0] 45)
  have hGA : W.grownBy (W.alloc (.cells #[.bool false, .string ⟨#[]⟩, .slice none 0 0] 45)) none := only_alloc (World.grownBy.refl _ _) _
  have k1 := (hr.alloc (.cells #[.bool false, .string ⟨#[]⟩, .slice none 0 0] 45)).cell 0
  simp only [List.getElem?_toArray, List.getElem?_cons_zero] at k1
  have hcalls := fun V (hV : Blk V r 95 #[.int .i64 ((11 - k : Nat) : Int), .int .i64 0]) => items_any k hk hC (s.extract 0 (lookFrom s.data.toList (a : Int) + lookN s.data.toList (a : Int))) (lookFrom s.data.toList (a : Int)) r V (by simp; omega) hV
  rw [hlz] at b1
  have hex : (s.extract 0 (lookFrom s.data.toList (a : Int) + lookN s.data.toList (a : Int))).size = lookFrom s.data.toList (a : Int) + lookN s.data.toList (a : Int) := by simp; omega
  rw [ba_take, hex] at hcalls
  have hd : (12 - (k + 1) : Nat) = 11 - k := by omega
  rw [hd] at hr hrA hG k1
  clear he hl b5 hex hd
  generalize lookFrom s.data.toList (a : Int) = F at *
  generalize lookN s.data.toList (a : Int) = N at *
  generalize hR : itemsF (itemF k (s.data.toList.take (F + N))) (F + N) 513 0 F = R at *
  have HI := Lib.hid hi
  have HC := Lib.hid hcalls
  clear hi hcalls hR
  have v1 : IntKind.i64.wrap ((F : Int) + (N : Int)) = (F : Int) + (N : Int) := IntWalk.i64_in _ (by omega)
  rcases hG with ⟨d1, d1'⟩ | ⟨d1, hid, d2⟩ | ⟨d1, hid, d2, d3⟩
  · exfalso; simp at d1'; omega
  · exfalso; simp at d2; omega
  generalize headC s.data.toList a = c at *
  go_enter Tryz.func59, Tryz.ntmps59
  go_wp2_with fail
  refine (hlk _).mono ?_
  rintro e w2 ⟨rfl, hg⟩
  have y0 := hxA.grown hg (by simp)
  have y1 := hrA.grown hg (by simp)
  have hG2 := only_weak (grown_self hGA hg (by simp)) (some r)
  have z0 := y0.alloc (.cells #[.int .i64 (F : Int), .int .i64 (N : Int), .bool true] 153)
  have z1 := y1.alloc (.cells #[.int .i64 (F : Int), .int .i64 (N : Int), .bool true] 153)
  have z2 := Blk.new w2 153 #[.int .i64 (F : Int), .int .i64 (N : Int), .bool true]
  have hG3 := only_alloc hG2 (.cells #[.int .i64 (F : Int), .int .i64 (N : Int), .bool true] 153)
  have hz2 : W.heap.size < w2.heap.size := by have := hg.size; simp at this; omega
  clear hxA hrA hGA hg hlk hG2 y0 y1 k1 hr
  go_upto_region 8 with (fail)
  generalize w2.alloc (.cells #[.int .i64 (F : Int), .int .i64 (N : Int), .bool true] 153) = w3 at *
  have r0 := z2.cell 0; have r1 := z2.cell 1; have r2 := z2.cell 2
  simp only [List.getElem?_toArray, List.getElem?_cons_zero, List.getElem?_cons_succ] at r0 r1 r2
  go_upto_region 11 with (fail)
  generalize w2.heap.size = b2 at *
  clear r0 r1 r2
  refine wp_region_held (S := fun V => Blk V b2 153 #[.int .i64 (F : Int), .int .i64 (N : Int), .bool true]) (by kernel_rfl) ?_
  change wpAnyH _ _ _ _ _ _ _ _ w3.drew
  replace z0 : Blk w3.drew W.heap.size 45 #[.bool false, .string ⟨#[]⟩, .slice none 0 0] := z0
  replace z1 : Blk w3.drew r 95 #[.int .i64 ((11 - k : Nat) : Int), .int .i64 0] := z1
  replace z2 : Blk w3.drew b2 153 #[.int .i64 (F : Int), .int .i64 (N : Int), .bool true] := z2
  replace hG3 : W.grownBy w3.drew (some r) := ⟨hG3.os, hG3.tape, hG3.output, hG3.size, hG3.block⟩
  generalize w3.drew = u0 at *
  refine held_take (i := 0) (v := .pointer (some ⟨r, 0, none⟩)) (some 62) rfl (by kernel_rfl) (by kernel_rfl) (by kernel_rfl) (fun _ _ _ h => h) rfl (Or.inl ⟨by rfl, fun V hV => by go_simp⟩) z2 ?_
  simp only [Act.put, List.setIfInBounds_toArray, List.set_cons_zero, List.set_cons_succ]
  refine held_take (i := 1) (v := .string s) (some 63) rfl (by kernel_rfl) (by kernel_rfl) (by kernel_rfl) (fun _ _ _ h => h) rfl (Or.inl ⟨by rfl, fun V hV => by go_simp⟩) z2 ?_
  simp only [Act.put, List.setIfInBounds_toArray, List.set_cons_zero, List.set_cons_succ]
  refine held_take (i := 2) (v := .int .i64 ((F : Int) + (N : Int))) (some 64) rfl (by kernel_rfl) (by kernel_rfl) (by kernel_rfl) (fun _ _ _ h => h) rfl (Or.inl ⟨by rfl, fun V hV => by go_simp⟩) z2 ?_
  simp only [Act.put, List.setIfInBounds_toArray, List.set_cons_zero, List.set_cons_succ]
  refine held_take (i := 3) (v := .string (s.extract 0 (F + N))) (some 65) rfl (by kernel_rfl) (by kernel_rfl) (by kernel_rfl) (fun _ _ _ h => h) rfl (Or.inl ⟨by rfl, fun V hV => by go_simp; rw [if_pos ⟨by omega, by omega⟩, show ((F : Int) + (N : Int)).toNat = F + N by omega]⟩) z2 ?_
  simp only [Act.put, List.setIfInBounds_toArray, List.set_cons_zero, List.set_cons_succ]
  refine held_take (i := 4) (v := .pointer (some ⟨b2, 0, none⟩)) (some 66) rfl (by kernel_rfl) (by kernel_rfl) (by kernel_rfl) (fun _ _ _ h => h) rfl (Or.inl ⟨by rfl, fun V hV => by go_simp⟩) z2 ?_
  simp only [Act.put, List.setIfInBounds_toArray, List.set_cons_zero, List.set_cons_succ]
  refine held_take (i := 5) (v := .int .i64 (F : Int)) (some 67) rfl (by kernel_rfl) (by kernel_rfl) (by kernel_rfl) (fun _ _ _ h => h) rfl (Or.inl ⟨by rfl, fun V hV => exec_load1 3 (.tmp 66) rfl _ rfl _ _ Tryz.underlying3 rfl (hV.cell 0)⟩) z2 ?_
  simp only [Act.put, List.setIfInBounds_toArray, List.set_cons_zero, List.set_cons_succ]
  refine held_take (i := 7) (v := .int .i64 ((F : Int) + (N : Int))) (some 69) rfl (by kernel_rfl) (by kernel_rfl) (by kernel_rfl) (fun _ _ _ h => h) rfl (Or.inl ⟨by rfl, fun V hV => by go_simp⟩) z2 ?_
  simp only [Act.put, List.setIfInBounds_toArray, List.set_cons_zero, List.set_cons_succ]
  refine held_one (i := 6) (by kernel_rfl) ?_
  refine held_enter (some 68) rfl rfl 96 #[.pointer (some ⟨r, 0, none⟩), .string (s.extract 0 (F + N)), .int .i64 (F : Int)] (exec_call3 _ (.tmp 62) (.tmp 65) (.tmp 67) _ rfl _ _ _ rfl rfl rfl rfl) rfl ?_
  refine (HC.out u0 z1).mono ?_
  rintro e w4 ⟨sA, sn, sc, rfl, hg, hpost⟩
  have z2' := z2.grown hg (by simp; omega)
  have z0' := z0.grown hg (by simp; omega)
  refine ⟨_, rfl, z2', ?_⟩
  simp only [Act.put, List.setIfInBounds_toArray, List.set_cons_zero, List.set_cons_succ]
  have t2 := blk_set3 z0' (.bool true) (.string .empty) (.slice sA sn sc)
  have t4 := only_set3 (grown_self hG3 hg (fun q e => .inl e)) (g := W.heap.size) (Nat.le_refl _) (.bool true) (.string .empty) (.slice sA sn sc)
  have t5 := ((z2'.far (p := ⟨W.heap.size, 0, none⟩) (by show b2 ≠ W.heap.size; omega) (.bool true)).far (p := ⟨W.heap.size, 1, none⟩) (by show b2 ≠ W.heap.size; omega) (.string .empty)).far (p := ⟨W.heap.size, 2, none⟩) (by show b2 ≠ W.heap.size; omega) (.slice sA sn sc)
  refine held_one (i := 8) (by kernel_rfl) ?_
  refine held_store rfl rfl (exec_store3 (.tmp 6) (.tmp 68) rfl rfl rfl z0' (by simp)) t5 ?_
  simp only [Act.put, List.setIfInBounds_toArray, List.set_cons_zero, List.set_cons_succ]
  refine held_one (i := 9) (by kernel_rfl) ?_
  refine held_value (some 7) rfl rfl (.int .i64 ((F : Int) + (N : Int))) (by go_simp) rfl t5 ?_
  simp only [Act.put, List.setIfInBounds_toArray, List.set_cons_zero, List.set_cons_succ]
  refine wpAnyH_done (by kernel_rfl) ?_ _
  have T2 := Lib.hid t2; have T4 := Lib.hid t4
  have st : Stays (fun g => g = W.heap.size) w4 (((w4.setCell ⟨W.heap.size, 0, none⟩ (.bool true)).setCell ⟨W.heap.size, 1, none⟩ (.string .empty)).setCell ⟨W.heap.size, 2, none⟩ (.slice sA sn sc)) := by
    intro g o ho _ hx
    exact (Below.heap_setCell _ _ _ g hx).trans ((Below.heap_setCell _ _ _ g hx).trans ((Below.heap_setCell _ _ _ g hx).trans ho))
  have hsz := z2.lt
  have HP : Hid (ItemTail (k + 1) s.data.toList a r W true .empty (.slice sA sn sc) ((F : Int) + (N : Int)) (((w4.setCell ⟨W.heap.size, 0, none⟩ (.bool true)).setCell ⟨W.heap.size, 1, none⟩ (.string .empty)).setCell ⟨W.heap.size, 2, none⟩ (.slice sA sn sc))) := by
    refine Lib.hid ?_
    have e12 : (12 - (k + 1) : Nat) = 11 - k := by omega
    unfold ItemTail
    rw [e12]
    rcases hpost with ⟨xs, h1, h2, h3⟩ | ⟨E, h1, h2, h3⟩
    · refine .inl ⟨_, _, by rw [HI.out, h1], by simp, rfl, rfl, st.blk h2 (by omega), ?_⟩
      exact (st.sub (h3.weak (S' := fun g => u0.heap.size ≤ g) fun g h => h) (by intro g h e; omega)).weak fun g h => by omega
    · exact .inr ⟨E, by rw [HI.out, h1], h2, st.blk h3 (by omega)⟩
  clear t2 t4 t5 z2' z0' z0 z1 z2 hG3 hg hpost st
  go_wp2_with fail
  refine bodyPost_ret (results_ct (fn := Tryz.f59) rfl _ _ _ _ rfl (load_item T2.out)) rfl ?_
  exact .inr ⟨.empty, sA, sn, sc, (F : Int) + (N : Int), rfl, T4.out, HP.out⟩

/-- THE CONTRACT OF AN ITEM'S READER, at every depth -/
theorem item_any (k : Nat) (hk : k ≤ 12) : ItemC k := by
  induction k with
  | zero =>
    intro s a r W hs ha hr
    have hlz : s.data.toList.length = s.size := ba_len s
    by_cases h1 : a < s.size ∧ 192 ≤ headC s.data.toList a
    · exact item_deep s a r W hs h1.1 h1.2 hr
    · by_cases he : lookE s.data.toList (a : Int) = 0
      · refine item_txt 0 s a r W hs ha hr (by rintro ⟨h2, h3, _⟩; exact h1 ⟨h2, h3⟩) he ?_
        obtain ⟨b0, _, _, _, _, b5⟩ := look_ok he
        rw [b5]
        exact decide_eq_false (fun h => h1 ⟨by omega, h⟩)
      · exact item_bad 0 s a r W hs ha hr (by rintro ⟨h2, h3, _⟩; exact h1 ⟨h2, h3⟩) he
  | succ k ih =>
    intro s a r W hs ha hr
    by_cases he : lookE s.data.toList (a : Int) = 0
    · by_cases hl : lookL s.data.toList (a : Int) = true
      · exact item_sub k (by omega) (ih (by omega)) s a r W hs ha hr he hl
      · exact item_txt (k + 1) s a r W hs ha hr (by omega) he (by simpa using hl)
    · exact item_bad (k + 1) s a r W hs ha hr (by omega) he
end Go.Proofs.YthalohloneojlaaGreatDoor
/- The item of bytes (Decode). -/
namespace Go.Proofs.YthalohloneojlaaGreatDoor
open Go.RowKit Go.Shelf
set_option linter.unusedVariables false
set_option linter.unusedSimpArgs false

/-- the item of bytes, as Decode has it -/
def decodeF (l : List UInt8) : Except Int Itm :=
  if 65536 < l.length then .error 5 else match itemF 12 l 0 with
    | .error e => .error e
    | .ok (x, q) => if q < l.length then .error 4 else .ok x
/-- what Decode answers -/
def DecTail (l : List UInt8) (W : World) (lst : Bool) (b : ByteArray) (sv : Value) (E : Int) (W1 : World) : Prop :=
  (∃ x, decodeF l = .ok x ∧ E = 0 ∧ lst = x.list ∧ b = x.bytes ∧ SubV (fun g => W.heap.size ≤ g) W1 x.items sv) ∨
  (decodeF l = .error E ∧ E ≠ 0 ∧ lst = false ∧ b = ⟨#[]⟩ ∧ sv = .slice none 0 0)
def DecEnd (l : List UInt8) (W : World) (e : Ending) (W1 : World) : Prop :=
  ∃ lst b sA sn sc E, e = .returned (.tuple #[.agg #[.bool lst, .string b, .slice sA sn sc], .int .i64 E]) ∧ W.grownBy W1 none ∧ DecTail l W lst b (.slice sA sn sc) E W1

set_option maxRecDepth 100000 in
set_option maxHeartbeats 600000 in
theorem decode_long (s : ByteArray) (W : World) (hs : 65536 < s.size) (hs2 : s.size ≤ 9223372036854775807) :
    Calls Tryz.prog 39 #[.string s] W (DecEnd s.data.toList W) := by
  have hd : Hid (decodeF s.data.toList = .error 5) := Lib.hid (by unfold decodeF; rw [if_pos (by rw [ba_len]; exact hs)])
  have d1 : (65536 : Int) < (s.size : Int) := by omega
  have hxA := Blk.new W 45 #[.bool false, .string ⟨#[]⟩, .slice none 0 0]
  have hGA : W.grownBy (W.alloc (.cells #[.bool false, .string ⟨#[]⟩, .slice none 0 0] 45)) none := only_alloc (World.grownBy.refl _ _) _
  go_enter Tryz.func39, Tryz.ntmps39
  go_wp2_with fail
  refine bodyPost_ret (results_ct (fn := Tryz.f39) rfl _ _ _ _ rfl (load_item hxA)) rfl ?_
  exact ⟨_, _, _, _, _, _, rfl, hGA, .inr ⟨hd.out, by decide, rfl, rfl, rfl⟩⟩

set_option maxRecDepth 100000 in
set_option maxHeartbeats 600000 in
theorem decode_short (s : ByteArray) (W : World) (hs : s.size ≤ 65536) :
    Calls Tryz.prog 39 #[.string s] W (DecEnd s.data.toList W) := by
  have hlz : s.data.toList.length = s.size := ba_len s
  have d1 : decide ((65536 : Int) < (s.size : Int)) = false := decide_eq_false (by omega)
  have hxA := Blk.new W 45 #[.bool false, .string ⟨#[]⟩, .slice none 0 0]
  have hGA : W.grownBy (W.alloc (.cells #[.bool false, .string ⟨#[]⟩, .slice none 0 0] 45)) none := only_alloc (World.grownBy.refl _ _) _
  have hit := fun V (h : Blk V (W.heap.size + 1) 95 #[.int .i64 0, .int .i64 0]) => item_any 12 (by decide) s 0 (W.heap.size + 1) V hs (by omega) h
  have HIT := Lib.hid hit
  clear hit
  go_enter Tryz.func39, Tryz.ntmps39
  go_wp2_with fail
  have hrB := Blk.new (W.alloc (.cells #[.bool false, .string ⟨#[]⟩, .slice none 0 0] 45)) 95 #[.int .i64 0, .int .i64 0]
  rw [World.size_alloc] at hrB
  have hxB := hxA.alloc (.cells #[.int .i64 0, .int .i64 0] 95)
  have hGB := only_alloc hGA (.cells #[.int .i64 0, .int .i64 0] 95)
  refine (HIT.out _ hrB).mono ?_
  rintro e w4 ⟨l, b, sA, sn, sc, tq, rfl, hg, hpost⟩
  have hxC := hxB.grown hg (by simp)
  have hGC := grown_self hGB hg (fun q e => .inr (by injection e; omega))
  have hz4 := hg.size
  simp only [World.size_alloc] at hz4
  have e12 : (12 - 12 : Nat) = 0 := rfl
  unfold ItemTail at hpost
  rw [e12, Int.ofNat_zero] at hpost
  have hnew := Blk.new w4 45 #[.bool l, .string b, .slice sA sn sc]
  have hxD := hxC.alloc (.cells #[.bool l, .string b, .slice sA sn sc] 45)
  have hGD := only_alloc hGC (.cells #[.bool l, .string b, .slice sA sn sc] 45)
  have hlt : W.heap.size + 1 < w4.heap.size := by omega
  have hz5 : (w4.alloc (.cells #[.bool l, .string b, .slice sA sn sc] 45)).heap.size = w4.heap.size + 1 := by simp
  have hz2 : W.heap.size ≤ ((W.alloc (.cells #[.bool false, .string ⟨#[]⟩, .slice none 0 0] 45)).alloc (.cells #[.int .i64 0, .int .i64 0] 95)).heap.size := by simp; omega
  rcases hpost with ⟨x, q, h1, rfl, rfl, rfl, h2, h3⟩ | ⟨E, h1, h2, h3⟩
  · have hrD := h2.alloc (.cells #[.bool x.list, .string x.bytes, .slice sA sn sc] 45)
    have hsub := h3.keep (W' := w4.alloc (.cells #[.bool x.list, .string x.bytes, .slice sA sn sc] 45)) (fun p hp u hu => by rw [World.cell?_alloc_lt w4 _ p (World.block_lt_of_cell? w4 p hu)]; exact hu)
    have hsub := hsub.weak (S' := fun g => W.heap.size + 2 ≤ g) (fun g hg' => by simpa using hg')
    have hne : w4.heap.size ≠ W.heap.size := by omega
    clear hxA hxB hxC hrB hGA hGB hGC hg h2 h3 HIT
    go_upto_region 5 with (fail)
    generalize w4.alloc (.cells #[.bool x.list, .string x.bytes, .slice sA sn sc] 45) = w5 at *
    have c1 := hrD.cell 1
    simp only [List.getElem?_toArray, List.getElem?_cons_zero, List.getElem?_cons_succ] at c1
    by_cases hq : q < s.size
    · have hd : Hid (decodeF s.data.toList = .error 4) := Lib.hid (by unfold decodeF; rw [if_neg (by omega), h1]; exact if_pos (by omega))
      have d2 : (q : Int) < (s.size : Int) := by omega
      have c0 := hxD.cell 0; have c2 := hxD.cell 1; have c3 := hxD.cell 2
      have f0 := hxD.frozen 0; have f1 := hxD.frozen 1; have f2 := hxD.frozen 2
      simp only [List.getElem?_toArray, List.getElem?_cons_zero, List.getElem?_cons_succ] at c0 c2 c3
      have t2 := blk_set3 hxD (.bool false) (.string ⟨#[]⟩) (.slice none 0 0)
      have t4 := only_set3 hGD (g := W.heap.size) (Nat.le_refl _) (.bool false) (.string ⟨#[]⟩) (.slice none 0 0)
      have T2 := Lib.hid t2; have T4 := Lib.hid t4
      clear t2 t4 hxD hGD hrD hnew h1 hsub
      go_wp2_with fail
      refine bodyPost_ret (results_ct (fn := Tryz.f39) rfl _ _ _ _ rfl (load_item T2.out)) rfl ?_
      exact ⟨_, _, _, _, _, _, rfl, T4.out, .inr ⟨hd.out, by decide, rfl, rfl, rfl⟩⟩
    · have hd : Hid (decodeF s.data.toList = .ok x) := Lib.hid (by unfold decodeF; rw [if_neg (by omega), h1]; exact if_neg (by omega))
      have d2 : decide ((q : Int) < (s.size : Int)) = false := decide_eq_false (by omega)
      have d3 : decide (q < s.size) = false := decide_eq_false hq
      go_upto_region 9 with (fail)
      have c0 := hxD.cell 0; have c2 := hxD.cell 1; have c3 := hxD.cell 2
      have f0 := hxD.frozen 0; have f1 := hxD.frozen 1; have f2 := hxD.frozen 2
      have l0 := hnew.cell 0; have l2 := hnew.cell 1; have l3 := hnew.cell 2
      simp only [List.getElem?_toArray, List.getElem?_cons_zero, List.getElem?_cons_succ] at c0 c2 c3 l0 l2 l3
      have t2 := blk_set3 hxD (.bool x.list) (.string x.bytes) (.slice sA sn sc)
      have t4 := only_set3 hGD (g := W.heap.size) (Nat.le_refl _) (.bool x.list) (.string x.bytes) (.slice sA sn sc)
      have t5 := (hsub.keep (W' := ((w5.setCell ⟨W.heap.size, 0, none⟩ (.bool x.list)).setCell ⟨W.heap.size, 1, none⟩ (.string x.bytes)).setCell ⟨W.heap.size, 2, none⟩ (.slice sA sn sc)) (fun p hp u hu => by
        rw [World.cell?_setCell_other _ _ _ _ (by intro e; subst e; have hp' : W.heap.size + 2 ≤ W.heap.size := hp; omega), World.cell?_setCell_other _ _ _ _ (by intro e; subst e; have hp' : W.heap.size + 2 ≤ W.heap.size := hp; omega), World.cell?_setCell_other _ _ _ _ (by intro e; subst e; have hp' : W.heap.size + 2 ≤ W.heap.size := hp; omega)]; exact hu)).weak (S' := fun g => W.heap.size ≤ g) (fun g hg' => by omega)
      have T2 := Lib.hid t2; have T4 := Lib.hid t4; have T5 := Lib.hid t5
      clear t2 t4 t5 hxD hGD hrD hnew h1 hsub
      go_wp2_with fail
      refine bodyPost_ret (results_ct (fn := Tryz.f39) rfl _ _ _ _ rfl (load_item T2.out)) rfl ?_
      exact ⟨_, _, _, _, _, _, rfl, T4.out, .inl ⟨x, hd.out, rfl, rfl, rfl, T5.out⟩⟩
  · have hd : Hid (decodeF s.data.toList = .error E) := Lib.hid (by unfold decodeF; rw [if_neg (by omega), h1])
    have hrD := h3.alloc (.cells #[.bool l, .string b, .slice sA sn sc] 45)
    have e1 : (E != 0) = true := by simpa using h2
    have HE := Lib.hid h2
    clear hxA hxB hxC hrB hGA hGB hGC hg h3 h2 HIT
    go_upto_region 5 with (fail)
    generalize w4.alloc (.cells #[.bool l, .string b, .slice sA sn sc] 45) = w5 at *
    have c1 := hrD.cell 1
    have c0 := hxD.cell 0; have c2 := hxD.cell 1; have c3 := hxD.cell 2
    have f0 := hxD.frozen 0; have f1 := hxD.frozen 1; have f2 := hxD.frozen 2
    simp only [List.getElem?_toArray, List.getElem?_cons_zero, List.getElem?_cons_succ] at c0 c2 c3 c1
    have t2 := blk_set3 hxD (.bool false) (.string ⟨#[]⟩) (.slice none 0 0)
    have t4 := only_set3 hGD (g := W.heap.size) (Nat.le_refl _) (.bool false) (.string ⟨#[]⟩) (.slice none 0 0)
    have T2 := Lib.hid t2; have T4 := Lib.hid t4
    clear t2 t4 hxD hGD hrD hnew h1
    go_upto_region 6 with (fail)
    go_region
    all_goals go_wp2_with fail
    all_goals
      refine bodyPost_ret (results_ct (fn := Tryz.f39) rfl _ _ _ _ rfl (load_item (Blk.drew T2.out))) rfl ?_
      exact ⟨_, _, _, _, _, _, rfl, ⟨T4.out.os, T4.out.tape, T4.out.output, T4.out.size, T4.out.block⟩, .inr ⟨hd.out, HE.out, rfl, rfl, rfl⟩⟩

theorem decode_any (s : ByteArray) (W : World) (hs : s.size ≤ 9223372036854775807) : Calls Tryz.prog 39 #[.string s] W (DecEnd s.data.toList W) := by
  rcases Nat.lt_or_ge 65536 s.size with h | h
  · exact decode_long s W h hs
  · exact decode_short s W h
end Go.Proofs.YthalohloneojlaaGreatDoor
/- The fixed facts (works), and what a head tells of an item (UnrlpHeads). -/
namespace Go.Proofs.YthalohloneojlaaGreatDoor
open Go.RowKit Go.Shelf
set_option linter.unusedVariables false
set_option linter.unusedSimpArgs false

theorem dec_err {l : List UInt8} {W W1 : World} {lst : Bool} {b : ByteArray} {sv : Value} {E e : Int} (h : DecTail l W lst b sv E W1) (hd : decodeF l = .error e) : E = e := by
  rcases h with ⟨x, h1, _⟩ | ⟨h1, _⟩
  · rw [hd] at h1; cases h1
  · rw [hd] at h1; injection h1 with h1; exact h1.symm
theorem dec_ok {l : List UInt8} {W W1 : World} {lst : Bool} {b : ByteArray} {sv : Value} {E : Int} {x : Itm} (h : DecTail l W lst b sv E W1) (hd : decodeF l = .ok x) : E = 0 ∧ lst = x.list ∧ b = x.bytes ∧ SubV (fun g => W.heap.size ≤ g) W1 x.items sv := by
  rcases h with ⟨y, h1, h2⟩ | ⟨h1, _⟩
  · rw [hd] at h1; injection h1 with h1; subst h1; exact h2
  · rw [hd] at h1; cases h1
theorem works1 : decodeF [129, 5] = .error 8 := by rfl
theorem works2 : decodeF [194, 1] = .error 3 := by rfl
theorem works3 : decodeF [194, 1, 192] = .ok (.mk true .empty [.mk false ⟨#[1]⟩ [], .mk true .empty []]) := by rfl
theorem works4 : decodeF [1, 2] = .error 4 := by rfl

end Go.Proofs.YthalohloneojlaaGreatDoor
/- What is read without fault begins with a head: plain laws. -/
namespace Go.Proofs.YthalohloneojlaaGreatDoor
open Go.RowKit Go.Shelf
set_option linter.unusedVariables false
set_option linter.unusedSimpArgs false

theorem item_ok {k : Nat} {l : List UInt8} {a q : Nat} {x : Itm} (h : itemF k l a = .ok (x, q)) : lookE l (a : Int) = 0 ∧ x.list = lookL l (a : Int) ∧ q = lookFrom l (a : Int) + lookN l (a : Int) := by
  have key : ∀ sub, itemG sub l a = .ok (x, q) → lookE l (a : Int) = 0 ∧ x.list = lookL l (a : Int) ∧ q = lookFrom l (a : Int) + lookN l (a : Int) := by
    intro sub h
    unfold itemG at h
    split at h
    · cases h
    split at h
    · cases h
    rename_i h2
    have h2 : lookE l (a : Int) = 0 := by simpa using h2
    split at h
    · rename_i h3
      injection h with h; injection h with h4 h5
      subst h4
      exact ⟨h2, by rw [h3]; rfl, h5.symm⟩
    rename_i h3
    split at h
    · cases h
    · split at h
      · cases h
      · injection h with h; injection h with h4 h5
        subst h4
        exact ⟨h2, by rw [show lookL l (a : Int) = true by simpa using h3]; rfl, h5.symm⟩
  cases k with
  | zero => exact key none h
  | succ k => exact key _ h
theorem decode_head {l : List UInt8} {x : Itm} (h : decodeF l = .ok x) : lookE l 0 = 0 ∧ x.list = lookL l 0 ∧ lookFrom l 0 + lookN l 0 = l.length := by
  unfold decodeF at h
  split at h
  · cases h
  · split at h
    · cases h
    · rename_i y q hi
      split at h
      · cases h
      · rename_i hq
        injection h with h; subst h
        obtain ⟨h1, h2, h3⟩ := item_ok hi
        have h4 := (look_ok h1).2.1
        simp only [Int.ofNat_zero] at h1 h2 h3 h4
        exact ⟨h1, h2, by omega⟩
theorem look_nonneg {l : List UInt8} {i : Int} (h : lookE l i = 0) : 0 ≤ i := by
  unfold lookE at h
  split at h
  · cases h
  · omega
end Go.Proofs.YthalohloneojlaaGreatDoor
/- Two items compared (rlp.Same). -/
namespace Go.Proofs.YthalohloneojlaaGreatDoor
open Go.RowKit Go.Shelf
set_option linter.unusedVariables false
set_option linter.unusedSimpArgs false

noncomputable section
open Classical

end
end Go.Proofs.YthalohloneojlaaGreatDoor
/- What is read at a place hangs on its own bytes alone: plain laws. -/
namespace Go.Proofs.YthalohloneojlaaGreatDoor
open Go.RowKit Go.Shelf
set_option linter.unusedVariables false
set_option linter.unusedSimpArgs false

def Agree (l : List UInt8) (a : Nat) (l' : List UInt8) (a' n : Nat) : Prop := ∀ j, j < n → l'[a' + j]? = l[a + j]?
theorem Agree.take {l l' : List UInt8} {a a' n : Nat} (h : Agree l a l' a' n) {m1 m2 : Nat} (hm : m1 + m2 ≤ n) : (l'.drop (a' + m1)).take m2 = (l.drop (a + m1)).take m2 := by
  apply List.ext_getElem?
  intro i
  rw [List.getElem?_take, List.getElem?_take]
  split
  · rw [List.getElem?_drop, List.getElem?_drop]
    have := h (m1 + i) (by omega)
    rw [← Nat.add_assoc, ← Nat.add_assoc] at this
    exact this
  · rfl
theorem Agree.head {l l' : List UInt8} {a a' n : Nat} (h : Agree l a l' a' n) {m : Nat} (hm : m < n) : headC l' (a' + m) = headC l (a + m) := by
  unfold headC
  rw [List.getD_eq_getElem?_getD, List.getD_eq_getElem?_getD, h m hm]
theorem Agree.size {l l' : List UInt8} {a a' n : Nat} (h : Agree l a l' a' n) (h0 : 0 < n) (hn : a + n ≤ l.length) : a' + n ≤ l'.length := by
  have := h (n - 1) (by omega)
  rw [List.getElem?_eq_getElem (l := l) (by omega)] at this
  have := (List.getElem?_eq_some_iff.1 this).1
  omega
theorem look_shift {l l' : List UInt8} {a a' : Nat} (h : lookE l (a : Int) = 0) (hag : Agree l a l' a' (lookFrom l (a : Int) + lookN l (a : Int) - a)) :
    lookE l' (a' : Int) = 0 ∧ lookFrom l' (a' : Int) = a' + (lookFrom l (a : Int) - a) ∧ lookN l' (a' : Int) = lookN l (a : Int) ∧ lookL l' (a' : Int) = lookL l (a : Int) := by
  obtain ⟨b0, b1, b2, b3, b4, b5⟩ := look_ok h
  have e1 : lookFrom l (a : Int) = rawFrom l a := by unfold lookFrom; rw [if_pos h, Int.toNat_natCast]
  have e2 : lookN l (a : Int) = rawN l a := by unfold lookN; rw [if_pos h, Int.toNat_natCast]
  rw [e1, e2] at hag b1 b3
  rw [e1] at b2
  have hsz := hag.size (by omega) (by omega)
  have hc : headC l' a' = headC l a := hag.head (m := 0) (by omega)
  have hl : lookE l (a : Int) = 0 := h
  unfold lookE at h
  split at h
  · cases h
  split at h
  · cases h
  rw [Int.toNat_natCast] at h
  split at h
  · rename_i g; exact absurd h g
  rename_i g3
  split at h
  · cases h
  rename_i g4
  split at h
  · cases h
  rename_i g5
  have g3 : rawE l a = 0 := by simpa using g3
  have key : rawE l' a' = 0 ∧ rawFrom l' a' = a' + (rawFrom l a - a) ∧ rawN l' a' = rawN l a := by
    unfold rawE rawFrom rawN at *
    rw [hc]
    split
    · rename_i c1; simp only [if_pos c1] at *; exact ⟨trivial, by omega, trivial⟩
    · rename_i c1
      simp only [if_neg c1] at *
      split
      · rename_i c2; simp only [if_pos c2] at *; exact ⟨trivial, by omega, trivial⟩
      · rename_i c2
        simp only [if_neg c2] at *
        generalize hm : (headC l a - 128) % 64 - 55 = m at *
        have hlB : lenB l' a' m = lenB l a m := by
          unfold lenB
          rw [hag.take (m1 := 1) (m2 := m) (by omega)]
        have hb : headC l' (a' + 1) = headC l (a + 1) := hag.head (m := 1) (by omega)
        unfold headC at hb
        refine ⟨?_, by omega, hlB⟩
        unfold lengthE at g3 ⊢
        rw [hlB, hb]
        split at g3
        · cases g3
        rename_i q1
        split at g3
        · cases g3
        rename_i q2
        split at g3
        · cases g3
        rename_i q3
        rw [if_neg q1, if_neg (by omega), if_neg q3]
  obtain ⟨k1, k2, k3⟩ := key
  have hE : lookE l' (a' : Int) = 0 := by
    unfold lookE
    rw [if_neg (by omega), if_neg (by omega), Int.toNat_natCast, if_neg (by rw [k1]; simp), if_neg (by omega), if_neg]
    rintro ⟨q1, q2⟩
    rw [hc] at q1
    have hb : headC l' (a' + 1) = headC l (a + 1) := hag.head (m := 1) (by
      unfold rawFrom rawN
      rw [q1]; simp; omega)
    exact g5 ⟨q1, by rw [← hb]; exact q2⟩
  refine ⟨hE, ?_, ?_, ?_⟩
  · unfold lookFrom; rw [if_pos hE, if_pos hl, Int.toNat_natCast, Int.toNat_natCast]; exact k2
  · unfold lookN; rw [if_pos hE, if_pos hl, Int.toNat_natCast, Int.toNat_natCast]; exact k3
  · unfold lookL; rw [if_pos hE, if_pos hl, Int.toNat_natCast, Int.toNat_natCast, hc]

/-- items, moved -/
theorem items_shift {rd rd' : Nat → Except Int (Itm × Nat)} {en d d' : Nat} (hd : d ≤ en)
    (hrd : ∀ p x q, d ≤ p → p < en → rd p = .ok (x, q) → d ≤ q ∧ rd' (p - d + d') = .ok (x, q - d + d')) (f : Nat) : ∀ (i p : Nat) (xs : List Itm), d ≤ p → itemsF rd en f i p = .ok xs → itemsF rd' (en - d + d') f i (p - d + d') = .ok xs := by
  induction f with
  | zero => intro i p xs _ h; cases h
  | succ f ih =>
    intro i p xs hp h
    unfold itemsF at h ⊢
    by_cases h1 : p < en
    · rw [if_pos h1] at h
      rw [if_pos (by omega)]
      by_cases h2 : 512 ≤ i
      · rw [if_pos h2] at h; cases h
      · rw [if_neg h2] at h ⊢
        split at h
        · cases h
        · rename_i x q hx
          obtain ⟨hq, hx'⟩ := hrd p x q hp h1 hx
          rw [hx']
          split at h
          · cases h
          · rename_i ys hys
            have := ih (i + 1) q ys hq hys
            show (match itemsF rd' (en - d + d') f (i + 1) (q - d + d') with | .error e => _ | .ok ys => _) = _
            rw [this]
            exact h
    · rw [if_neg h1] at h
      rw [if_neg (by omega)]
      exact h

theorem item_shift : ∀ (k k' : Nat), k ≤ k' → ∀ {l l' : List UInt8} {a a' q : Nat} {x : Itm}, itemF k l a = .ok (x, q) → Agree l a l' a' (q - a) → itemF k' l' a' = .ok (x, q - a + a') := by
  intro k
  induction k with
  | zero =>
    intro k' hk l l' a a' q x h hag
    obtain ⟨h1, h2, h3⟩ := item_ok h
    subst h3
    obtain ⟨b0, b1, b2, b3, b4, b5⟩ := look_ok h1
    obtain ⟨s1, s2, s3, s4⟩ := look_shift h1 hag
    have h : itemG none l a = _ := h
    unfold itemG at h
    rw [if_neg (by rintro hh; rw [if_pos hh] at h; cases h), if_neg (by simpa using h1)] at h
    split at h
    · rename_i hl
      injection h with h; injection h with h _
      rw [item_bytes (by rintro ⟨_, g, _⟩; rw [hl] at s4; rw [(look_ok s1).2.2.2.2.2] at s4; simp at s4; omega) s1 (by rw [s4, hl]), s2, s3, ← h]
      have := hag.take (m1 := lookFrom l (a : Int) - a) (m2 := lookN l (a : Int)) (by omega)
      rw [show a + (lookFrom l (a : Int) - a) = lookFrom l (a : Int) by omega] at this
      rw [this, show a' + (lookFrom l (a : Int) - a) + lookN l (a : Int) = lookFrom l (a : Int) + lookN l (a : Int) - a + a' by omega]
    · cases h
  | succ k ih =>
    intro k' hk l l' a a' q x h hag
    obtain ⟨k', rfl⟩ : ∃ j, k' = j + 1 := ⟨k' - 1, by omega⟩
    obtain ⟨h1, h2, h3⟩ := item_ok h
    subst h3
    obtain ⟨b0, b1, b2, b3, b4, b5⟩ := look_ok h1
    obtain ⟨s1, s2, s3, s4⟩ := look_shift h1 hag
    have hsz := hag.size (by omega) (by omega)
    cases hl : lookL l (a : Int) with
    | false =>
      rw [item_bytes (by rintro ⟨_, _, g⟩; cases g) h1 hl] at h
      injection h with h; injection h with h _
      rw [item_bytes (by rintro ⟨_, _, g⟩; cases g) s1 (by rw [s4, hl]), s2, s3, ← h]
      have := hag.take (m1 := lookFrom l (a : Int) - a) (m2 := lookN l (a : Int)) (by omega)
      rw [show a + (lookFrom l (a : Int) - a) = lookFrom l (a : Int) by omega] at this
      rw [this, show a' + (lookFrom l (a : Int) - a) + lookN l (a : Int) = lookFrom l (a : Int) + lookN l (a : Int) - a + a' by omega]
    | true =>
      rw [item_list h1 hl] at h
      rw [item_list s1 (by rw [s4, hl]), s2, s3]
      generalize lookFrom l (a : Int) = F at *
      generalize lookN l (a : Int) = N at *
      have e1 : a' + (F - a) + N = F + N - a + a' := by omega
      have e2 : a' + (F - a) = F - a + a' := by omega
      rw [e1, e2]
      split at h
      · cases h
      · rename_i xs hxs
        injection h with h; injection h with h _
        have := items_shift (rd := itemF k (l.take (F + N))) (rd' := itemF k' (l'.take (F + N - a + a'))) (en := F + N) (d := a) (d' := a') (by omega) (fun p y q hp hpe hy => by
          obtain ⟨g1, g2, g3⟩ := item_ok hy
          obtain ⟨c0, c1, c2, c3, _, _⟩ := look_ok g1
          rw [← g3] at c1 c3
          rw [List.length_take] at c1
          refine ⟨by omega, ?_⟩
          rw [ih k' (by omega) hy (l' := l'.take (F + N - a + a')) (a' := p - a + a') (fun j hj => ?_), show q - p + (p - a + a') = q - a + a' by omega]
          rw [List.getElem?_take_of_lt (by omega), List.getElem?_take_of_lt (by omega)]
          have := hag (p - a + j) (by omega)
          rw [show a' + (p - a + j) = p - a + a' + j by omega, show a + (p - a + j) = p + j by omega] at this
          exact this) 513 0 F xs b2 hxs
        rw [this, ← h]

/-- the item's own bytes, decoded -/
theorem decode_part {l : List UInt8} {p q : Nat} {x : Itm} (hl : l.length ≤ 65536) (h : itemF 11 l p = .ok (x, q)) : decodeF ((l.drop p).take (q - p)) = .ok x := by
  obtain ⟨h1, h2, h3⟩ := item_ok h
  obtain ⟨b0, b1, b2, b3, b4, b5⟩ := look_ok h1
  rw [← h3] at b1 b3
  have hz : ((l.drop p).take (q - p)).length = q - p := by rw [List.length_take, List.length_drop]; omega
  unfold decodeF
  rw [if_neg (by rw [hz]; omega), item_shift 11 12 (by omega) h (l' := (l.drop p).take (q - p)) (a' := 0) (fun j hj => by rw [Nat.zero_add, List.getElem?_take_of_lt hj, List.getElem?_drop])]
  show (if q - p + 0 < _ then _ else _) = _
  rw [if_neg (by rw [hz]; omega)]

/-- the items of a list, one behind the other -/
theorem items_next {rd : Nat → Except Int (Itm × Nat)} {en f i p : Nat} {x : Itm} {xs : List Itm} (h : itemsF rd en f i p = .ok (x :: xs)) : p < en ∧ ∃ q, rd p = .ok (x, q) ∧ itemsF rd en (f - 1) (i + 1) q = .ok xs := by
  cases f with
  | zero => cases h
  | succ f =>
    unfold itemsF at h
    by_cases h1 : p < en
    · rw [if_pos h1] at h
      by_cases h2 : 512 ≤ i
      · rw [if_pos h2] at h; cases h
      · rw [if_neg h2] at h
        split at h
        · cases h
        · rename_i y q hy
          split at h
          · cases h
          · rename_i ys hys
            injection h with h; injection h with h3 h4
            subst h3; subst h4
            exact ⟨h1, q, hy, hys⟩
    · rw [if_neg h1] at h; injection h with h; cases h
theorem items_last {rd : Nat → Except Int (Itm × Nat)} {en f i p : Nat} (h : itemsF rd en f i p = .ok []) : ¬ p < en := by
  cases f with
  | zero => cases h
  | succ f =>
    unfold itemsF at h
    intro h1
    rw [if_pos h1] at h
    by_cases h2 : 512 ≤ i
    · rw [if_pos h2] at h; cases h
    · rw [if_neg h2] at h
      split at h
      · cases h
      · split at h
        · cases h
        · injection h with h; cases h
theorem items_len {rd : Nat → Except Int (Itm × Nat)} {en : Nat} (f : Nat) : ∀ {i p : Nat} {xs : List Itm}, itemsF rd en f i p = .ok xs → xs.length ≤ f := by
  induction f with
  | zero => intro i p xs h; cases h
  | succ f ih =>
    intro i p xs h
    cases xs with
    | nil => simp
    | cons x xs =>
      obtain ⟨_, q, _, h2⟩ := items_next h
      have := ih h2
      simp only [List.length_cons]
      omega
/-- what a list is made of -/
theorem decode_list {l : List UInt8} {x : Itm} (h : decodeF l = .ok x) (hx : x.list = true) : l.length ≤ 65536 ∧ lookE l 0 = 0 ∧ lookL l 0 = true ∧ lookFrom l 0 + lookN l 0 = l.length ∧ itemsF (itemF 11 l) l.length 513 0 (lookFrom l 0) = .ok x.items := by
  obtain ⟨h1, h2, h3⟩ := decode_head h
  rw [hx] at h2
  unfold decodeF at h
  split at h
  · cases h
  rename_i hl
  split at h
  · cases h
  · rename_i y q hi
    split at h
    · cases h
    · injection h with h; subst h
      rw [item_list (l := l) (a := 0) (by simpa using h1) (by simpa using h2.symm)] at hi
      simp only [Int.ofNat_zero, h3, List.take_length] at hi
      split at hi
      · cases hi
      · rename_i xs hxs
        injection hi with hi; injection hi with hi _
        subst hi
        exact ⟨by omega, h1, h2.symm, h3, hxs⟩

/-- what is read may be compared -/
theorem items_okF {rd : Nat → Except Int (Itm × Nat)} {en : Nat} (hrd : ∀ p x q, rd p = .ok (x, q) → x.Ok) (f : Nat) : ∀ {i p : Nat} {xs : List Itm}, itemsF rd en f i p = .ok xs → ∀ j, j < xs.length → (xs.getD j Itm.none_).Ok := by
  induction f with
  | zero => intro i p xs h; cases h
  | succ f ih =>
    intro i p xs h j hj
    cases xs with
    | nil => cases hj
    | cons x xs =>
      obtain ⟨_, q, h1, h2⟩ := items_next h
      cases j with
      | zero => exact hrd p x q h1
      | succ j => exact ih h2 j (by simpa using hj)
theorem itemF_okF : ∀ (k : Nat) {l : List UInt8} {a q : Nat} {x : Itm}, l.length ≤ 65536 → itemF k l a = .ok (x, q) → x.Ok := by
  intro k
  induction k with
  | zero =>
    intro l a q x hl h
    obtain ⟨h1, h2, h3⟩ := item_ok h
    have h : itemG none l a = _ := h
    unfold itemG at h
    rw [if_neg (by rintro hh; rw [if_pos hh] at h; cases h), if_neg (by simpa using h1)] at h
    split at h
    · injection h with h; injection h with h _
      rw [← h]
      refine .mk _ _ _ ?_ (by simp) (fun i hi => by cases hi)
      show ((l.drop _).take _).toArray.size ≤ _
      simp; omega
    · cases h
  | succ k ih =>
    intro l a q x hl h
    obtain ⟨h1, h2, h3⟩ := item_ok h
    cases hL : lookL l (a : Int) with
    | false =>
      rw [item_bytes (by rintro ⟨_, _, g⟩; cases g) h1 hL] at h
      injection h with h; injection h with h _
      rw [← h]
      refine .mk _ _ _ ?_ (by simp) (fun i hi => by cases hi)
      show ((l.drop _).take _).toArray.size ≤ _
      simp; omega
    | true =>
      rw [item_list h1 hL] at h
      split at h
      · cases h
      · rename_i xs hxs
        injection h with h; injection h with h _
        rw [← h]
        have := items_len _ hxs
        exact .mk _ _ _ (by simp) (by omega) (items_okF (fun p y q hy => ih (by rw [List.length_take]; omega) hy) _ hxs)
theorem decode_okF {l : List UInt8} {x : Itm} (h : decodeF l = .ok x) : x.Ok := by
  unfold decodeF at h
  split at h
  · cases h
  rename_i hl
  split at h
  · cases h
  · rename_i y q hi
    split at h
    · cases h
    · injection h with h; subst h
      exact itemF_okF 12 (by omega) hi
end Go.Proofs.YthalohloneojlaaGreatDoor
/- Receipts: what Decode answers. -/
namespace Go.Proofs.YthalohloneojlaaGreatDoor
open Go.RowKit Go.Shelf
set_option linter.unusedVariables false
set_option linter.unusedSimpArgs false

def mostR (k : Int) : Int := if k = 126 then 5 else 3
/-- the receipt of an item -/
def itemR (k : Int) (x : Itm) : Int × Rcp :=
  if rowE 3 (mostR k) x ≠ 0 then (rowE 3 (mostR k) x, Rcp.zero) else if ofE 0 (rowL 3 (mostR k) x) ≠ 0 then (ofE 0 (rowL 3 (mostR k) x), Rcp.zero) else (0, ofX k (rowL 3 (mostR k) x))
def bodyR (k : Int) (l : List UInt8) : Int × Rcp :=
  match decodeF l with
  | .error e => (if e = 0 then 3 else e, Rcp.zero)
  | .ok x => itemR k x
/-- the receipt of bytes, and what is wrong -/
def getR (l : List UInt8) : Int × Rcp :=
  if l = [] then (3, Rcp.zero)
  else if (l.getD 0 0).toNat < 192 then (if (l.getD 0 0).toNat = 0 ∨ isKind ((l.getD 0 0).toNat : Int) = false then (9, Rcp.zero) else bodyR ((l.getD 0 0).toNat : Int) (l.drop 1))
  else bodyR 0 l
def RcEnd (G : Int × Rcp) (w : World) (e : Ending) (w' : World) : Prop :=
  ∃ A n c, e = .returned (.tuple #[.agg (rcpC G.2 (.slice A n c)), .int .i64 G.1]) ∧ LogsR w'.heap.size w' G.2.logs A n ∧ w.grownBy w' none
theorem RcEnd.bad {G : Int × Rcp} {w w' : World} {E : Int} (h : G = (E, Rcp.zero)) (hg : w.grownBy w' none) : RcEnd G w (.returned (.tuple #[.agg #[.int .i64 0, .bool false, .int .u64 0, .slice none 0 0, .bool false, .int .u64 0, .int .u64 0], .int .i64 E])) w' := by
  subst h
  exact ⟨none, 0, 0, rfl, ⟨rfl, fun h => by omega⟩, hg⟩
theorem only_set7 {a w : World} {b : Nat} (h : a.grownBy w none) (hb : a.heap.size ≤ b) (x0 x1 x2 x3 x4 x5 x6 : Value) : a.grownBy (set7 w b x0 x1 x2 x3 x4 x5 x6) none :=
  only_set (only_set (only_set (only_set (only_set (only_set (only_set h (p := ⟨b, 0, none⟩) hb x0) (p := ⟨b, 1, none⟩) hb x1) (p := ⟨b, 2, none⟩) hb x2) (p := ⟨b, 3, none⟩) hb x3) (p := ⟨b, 4, none⟩) hb x4) (p := ⟨b, 5, none⟩) hb x5) (p := ⟨b, 6, none⟩) hb x6
theorem blk_set7 {w : World} {b : Nat} {z0 z1 z2 z3 z4 z5 z6 : Value} (h : Blk w b 25 #[z0, z1, z2, z3, z4, z5, z6]) (x0 x1 x2 x3 x4 x5 x6 : Value) : Blk (set7 w b x0 x1 x2 x3 x4 x5 x6) b 25 #[x0, x1, x2, x3, x4, x5, x6] := by
  simpa [set7] using ((((((h.set_ 0 x0).set_ 1 x1).set_ 2 x2).set_ 3 x3).set_ 4 x4).set_ 5 x5).set_ 6 x6
theorem LogsS.set7 {S : Nat → Prop} {W : World} {ls : List LogV} {A : Option Addr} {n b : Nat} (h : LogsS S W ls A n) (hb : ¬ S b) (x0 x1 x2 x3 x4 x5 x6 : Value) : LogsS S (set7 W b x0 x1 x2 x3 x4 x5 x6) ls A n :=
  h.keep fun p hp u hu => by
    have hne : b ≠ p.block := fun e => hb (e ▸ hp)
    unfold Go.Proofs.YthalohloneojlaaGreatDoor.set7
    rw [World.cell?_setCell_far _ _ _ _ hne, World.cell?_setCell_far _ _ _ _ hne, World.cell?_setCell_far _ _ _ _ hne, World.cell?_setCell_far _ _ _ _ hne, World.cell?_setCell_far _ _ _ _ hne, World.cell?_setCell_far _ _ _ _ hne, World.cell?_setCell_far _ _ _ _ hne]
    exact hu
theorem rowL_sz {x : Itm} (h : x.Ok) (lo hi : Int) : ∀ y ∈ rowL lo hi x, y.bytes.size ≤ 9223372036854775807 := by
  intro y hy
  unfold rowL at hy
  split at hy
  · obtain ⟨i, hi, rfl⟩ := List.getElem_of_mem hy
    have := (h.get i hi).bytes
    rw [List.getD_eq_getElem?_getD, List.getElem?_eq_getElem hi] at this
    exact this
  · cases hy
end Go.Proofs.YthalohloneojlaaGreatDoor
