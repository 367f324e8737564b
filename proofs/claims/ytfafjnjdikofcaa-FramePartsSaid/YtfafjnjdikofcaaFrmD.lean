/- The document's bytes of a frame. -/
import Derived.Test.YtfafjnjdikofcaaFrmC
import Derived.Test.YtfafjnjdikofcaaPerm
namespace Go.Proofs.Ytfafjnjdikofcaa
set_option linter.unusedSimpArgs false
open Go.RowKit Go.Shelf

theorem highRB_any (n : Nat) (k : Int) (hk : k = 2 ∨ k = 4) (w : World) :
    Calls Try.prog 25 #[.int .i64 (n : Int), .int .i64 k] w fun e w' => e = .returned (.string (highB n k)) ∧ w.grownBy w' none := by
  rcases hk with rfl | rfl
  · exact high_any n 2 (by omega) w
  · exact high_any n 4 (by omega) w

theorem cell_new1 {W W' : World} {v : Value} {t : TypeId} (hg : (W.alloc (.cells #[v] t)).grownBy W' none) : W'.cell? ⟨W.heap.size, 0, none⟩ = some v :=
  (World.cell?_of_block (hg.block W.heap.size (by simp) (by simp))).trans (cell_one_new W v t 0 v rfl)
theorem cell_new1d {W W' : World} {v : Value} {t : TypeId} (hg : (W.drew.alloc (.cells #[v] t)).grownBy W' none) : W'.cell? ⟨W.heap.size, 0, none⟩ = some v := cell_new1 (W := W.drew) hg
theorem cell_on {W W' : World} {g : Nat} {v : Value} (hx : W.cell? ⟨g, 0, none⟩ = some v) (hg : W.grownBy W' none) : W'.cell? ⟨g, 0, none⟩ = some v :=
  (World.cell?_of_block (hg.block g (World.block_lt_of_cell? W _ hx) (by simp))).trans hx

def oneB (c : UInt8) : ByteArray := ⟨#[c]⟩
theorem conv1 (c : UInt8) {W : World} {g : Nat} (h : W.cell? ⟨g, 0, none⟩ = some (.int .u8 (c.toNat : Int))) : (convert 43 9 (.slice (some ⟨g, 0, none⟩) 1 1)).run Try.prog W = .ok (.string (oneB c)) W := by
  have := run_convert_bytes_back (P := Try.prog) W 43 9 5 ⟨g, 0, none⟩ 1 [c] (by kernel_rfl) (by kernel_rfl) (by kernel_rfl) (fun j hj => by
    have hj0 : j = 0 := by simpa using hj
    subst hj0
    exact h)
  exact this
theorem conv1_new (c : UInt8) (W : World) : (convert 43 9 (.slice (some ⟨W.heap.size, 0, none⟩) 1 1)).run Try.prog (W.alloc (.cells #[.int .u8 (c.toNat : Int)] 5)) = .ok (.string (oneB c)) (W.alloc (.cells #[.int .u8 (c.toNat : Int)] 5)) := conv1 c (cell_one_new W _ _ 0 _ rfl)

theorem exec_conv {P : Program} {a : Act} {o : Oper} {W : World} (t u : TypeId) (x : Operand) (ho : o.op = .convert t u x) (v : Value) {r : Value} (hx : a.eval x = v) (hr : (convert t u v).run P W = .ok r W) : (execOp a.eval o).run P W = .ok (.value r) W := by
  unfold execOp
  generalize a.eval = ev at *
  simp only [ho]
  simp [go_sem, hx, hr]

set_option maxRecDepth 100000 in
set_option maxHeartbeats 1000000 in
theorem bytesR_any (f : Frm) (hf : checkF f = 0) (w : World) :
    Calls Try.prog 21 #[.agg #[.string f.id, .int .i64 f.num, .string f.data, .bool f.last]] w fun e w' => e = .returned (.string ⟨(bytesF f).toArray⟩) ∧ w.grownBy w' none := by
  obtain ⟨id, num, data, last⟩ := f
  obtain ⟨k1, k2, k3, k4⟩ := check_ok hf
  replace k1 : id.size = 16 := k1
  replace k2 : 0 ≤ num := k2
  replace k3 : num ≤ 65535 := k3
  replace k4 : data.size ≤ 4096 := k4
  obtain ⟨m, rfl⟩ := Int.eq_ofNat_of_zero_le k2
  obtain ⟨L, hL⟩ : ∃ l : ByteArray, (⟨(bytesF ⟨id, m, data, last⟩).toArray⟩ : ByteArray) = l := ⟨_, rfl⟩
  rw [hL]
  have HL := Lib.hid hL
  clear hL hf
  have hB := Blk.new w 24 #[.string id, .int .i64 m, .string data, .bool last]
  have hG : w.grownBy (w.alloc (.cells #[.string id, .int .i64 m, .string data, .bool last] 24)) none := only_alloc (World.grownBy.refl _ _) _
  have hlt := hB.lt
  have c0 := hB.cell 0
  have c1 := hB.cell 1
  have c2 := hB.cell 2
  have c3 := hB.cell 3
  simp only [List.getElem?_toArray, List.getElem?_cons_zero, List.getElem?_cons_succ] at c0 c1 c2 c3
  go_enter Try.func21, Try.ntmps21
  cases last
  · go_wp2_with fail
    generalize w.alloc (.cells #[.string id, .int .i64 m, .string data, .bool false] 24) = w2 at *
    have hS0 : BoxS w w.heap.size (.string id) (.int .i64 m) (.string data) w2.drew := BoxS.drew ⟨c0, c1, c2, hlt, hG⟩
    have hR : id ++ highB m 2 ++ highB data.size 4 ++ data ++ oneB 0 = L := by rw [← HL.out]; exact ba_ext (by simp [bytesF, highB, oneB, lastB])
    have HR := Lib.hid hR
    have z2 : (highB m 2).size = 2 := by rw [← ba_len]; exact highL_len m 2
    have z4 : (highB data.size 4).size = 4 := by rw [← ba_len]; exact highL_len _ 4
    have z5 : (id ++ highB m 2).size = 18 := by rw [ByteArray.size_append]; omega
    have z6 : (id ++ highB m 2 ++ highB data.size 4).size = 22 := by rw [ByteArray.size_append]; omega
    have z7 : (id ++ highB m 2 ++ highB data.size 4 ++ data).size = 22 + data.size := by rw [ByteArray.size_append]; omega
    have hcv := fun W g h => conv1 0 (W := W) (g := g) h
    simp only [UInt8.toNat_zero, Int.cast_ofNat_Int] at hcv
    clear hB c0 c1 c2 c3 hlt hG k2 k3 hR HL
    refine wp_region_held (S := BoxS w w.heap.size (.string id) (.int .i64 m) (.string data)) (by kernel_rfl) ?_
    change wpAnyH _ _ _ _ _ _ _ _ w2.drew
    generalize w2.drew = u0 at *
    refine held_take (i := 0) (v := .pointer (some ⟨w.heap.size, 0, none⟩)) (some 6) rfl (by kernel_rfl) (by kernel_rfl) (by kernel_rfl) (fun _ _ _ h => h) rfl (Or.inl ⟨by rfl, fun W hW => by go_simp⟩) hS0 ?_
    simp only [Act.put, List.setIfInBounds_toArray, List.set_cons_zero, List.set_cons_succ]
    refine held_take (i := 1) (v := .string id) (some 7) rfl (by kernel_rfl) (by kernel_rfl) (by kernel_rfl) (fun _ _ _ h => h) rfl (Or.inl ⟨by rfl, fun W hW => by (obtain ⟨h0, h1, h2, _, _⟩ := hW; go_simp)⟩) hS0 ?_
    simp only [Act.put, List.setIfInBounds_toArray, List.set_cons_zero, List.set_cons_succ]
    refine held_take (i := 2) (v := .pointer (some ⟨w.heap.size, 1, none⟩)) (some 8) rfl (by kernel_rfl) (by kernel_rfl) (by kernel_rfl) (fun _ _ _ h => h) rfl (Or.inl ⟨by rfl, fun W hW => by go_simp⟩) hS0 ?_
    simp only [Act.put, List.setIfInBounds_toArray, List.set_cons_zero, List.set_cons_succ]
    refine held_take (i := 3) (v := .int .i64 m) (some 9) rfl (by kernel_rfl) (by kernel_rfl) (by kernel_rfl) (fun _ _ _ h => h) rfl (Or.inl ⟨by rfl, fun W hW => by (obtain ⟨h0, h1, h2, _, _⟩ := hW; go_simp)⟩) hS0 ?_
    simp only [Act.put, List.setIfInBounds_toArray, List.set_cons_zero, List.set_cons_succ]
    refine held_take (i := 6) (v := .pointer (some ⟨w.heap.size, 2, none⟩)) (some 12) rfl (by kernel_rfl) (by kernel_rfl) (by kernel_rfl) (fun _ _ _ h => h) rfl (Or.inl ⟨by rfl, fun W hW => by go_simp⟩) hS0 ?_
    simp only [Act.put, List.setIfInBounds_toArray, List.set_cons_zero, List.set_cons_succ]
    refine held_take (i := 7) (v := .string data) (some 13) rfl (by kernel_rfl) (by kernel_rfl) (by kernel_rfl) (fun _ _ _ h => h) rfl (Or.inl ⟨by rfl, fun W hW => by (obtain ⟨h0, h1, h2, _, _⟩ := hW; go_simp)⟩) hS0 ?_
    simp only [Act.put, List.setIfInBounds_toArray, List.set_cons_zero, List.set_cons_succ]
    refine held_take (i := 8) (v := .int .i64 data.size) (some 14) rfl (by kernel_rfl) (by kernel_rfl) (by kernel_rfl) (fun _ _ _ h => h) rfl (Or.inl ⟨by rfl, fun W hW => by go_simp⟩) hS0 ?_
    simp only [Act.put, List.setIfInBounds_toArray, List.set_cons_zero, List.set_cons_succ]
    refine held_take (i := 11) (v := .pointer (some ⟨w.heap.size, 2, none⟩)) (some 17) rfl (by kernel_rfl) (by kernel_rfl) (by kernel_rfl) (fun _ _ _ h => h) rfl (Or.inl ⟨by rfl, fun W hW => by go_simp⟩) hS0 ?_
    simp only [Act.put, List.setIfInBounds_toArray, List.set_cons_zero, List.set_cons_succ]
    refine held_take (i := 12) (v := .string data) (some 18) rfl (by kernel_rfl) (by kernel_rfl) (by kernel_rfl) (fun _ _ _ h => h) rfl (Or.inl ⟨by rfl, fun W hW => by (obtain ⟨h0, h1, h2, _, _⟩ := hW; go_simp)⟩) hS0 ?_
    simp only [Act.put, List.setIfInBounds_toArray, List.set_cons_zero, List.set_cons_succ]
    refine held_take (i := 14) (v := .int .u8 0) (some 20) rfl (by kernel_rfl) (by kernel_rfl) (by kernel_rfl) (fun _ _ _ h => h) rfl (Or.inl ⟨by rfl, fun W hW => by go_simp⟩) hS0 ?_
    simp only [Act.put, List.setIfInBounds_toArray, List.set_cons_zero, List.set_cons_succ]
    refine held_two (i := 4) (j := 15) (by kernel_rfl) ?_ ?_
    · refine held_enter (some 10) rfl rfl 25 #[.int .i64 (m : Nat), .int .i64 2] (exec_call2 _ (.tmp 9) (.const (.int .i64 2)) _ rfl _ _ rfl rfl (enters_of Try.func25 (by kernel_rfl) rfl _ _)) rfl ((highRB_any m 2 (.inl rfl) _).mono ?_)
      rintro e v1 ⟨rfl, hg⟩
      have hs1 := BoxS.grown hS0 hg
      refine ⟨_, rfl, hs1, ?_⟩
      clear hg
      simp only [Act.put, List.setIfInBounds_toArray, List.set_cons_zero, List.set_cons_succ]
      refine held_take (i := 5) (v := .string (id ++ highB m 2)) (some 11) rfl (by kernel_rfl) (by kernel_rfl) (by kernel_rfl) (fun _ _ _ h => h) rfl (Or.inl ⟨by rfl, fun W hW => exec_addstr _ _ (.tmp 7) (.tmp 10) rfl id (highB m 2) rfl rfl (by rw [z2]; omega)⟩) hs1 ?_
      simp only [Act.put, List.setIfInBounds_toArray, List.set_cons_zero, List.set_cons_succ]
      refine held_two (i := 9) (j := 15) (by kernel_rfl) ?_ ?_
      · refine held_enter (some 15) rfl rfl 25 #[.int .i64 (data.size : Nat), .int .i64 4] (exec_call2 _ (.tmp 14) (.const (.int .i64 4)) _ rfl _ _ rfl rfl (enters_of Try.func25 (by kernel_rfl) rfl _ _)) rfl ((highRB_any data.size 4 (.inr rfl) _).mono ?_)
        rintro e v2 ⟨rfl, hg⟩
        have hs2 := BoxS.grown hs1 hg
        refine ⟨_, rfl, hs2, ?_⟩
        clear hg
        simp only [Act.put, List.setIfInBounds_toArray, List.set_cons_zero, List.set_cons_succ]
        refine held_take (i := 10) (v := .string (id ++ highB m 2 ++ highB data.size 4)) (some 16) rfl (by kernel_rfl) (by kernel_rfl) (by kernel_rfl) (fun _ _ _ h => h) rfl (Or.inl ⟨by rfl, fun W hW => exec_addstr _ _ (.tmp 11) (.tmp 15) rfl (id ++ highB m 2) (highB data.size 4) rfl rfl (by rw [z5, z4]; omega)⟩) hs2 ?_
        simp only [Act.put, List.setIfInBounds_toArray, List.set_cons_zero, List.set_cons_succ]
        refine held_take (i := 13) (v := .string (id ++ highB m 2 ++ highB data.size 4 ++ data)) (some 19) rfl (by kernel_rfl) (by kernel_rfl) (by kernel_rfl) (fun _ _ _ h => h) rfl (Or.inl ⟨by rfl, fun W hW => exec_addstr _ _ (.tmp 16) (.tmp 18) rfl (id ++ highB m 2 ++ highB data.size 4) data rfl rfl (by rw [z6]; omega)⟩) hs2 ?_
        simp only [Act.put, List.setIfInBounds_toArray, List.set_cons_zero, List.set_cons_succ]
        refine held_one (i := 15) (by kernel_rfl) ?_
        refine held_value (some 21) rfl rfl (.slice (some ⟨v2.heap.size, 0, none⟩) 1 1) (by go_simp <;> rfl) rfl (BoxS.alloc hs2 (.cells #[.int .u8 0] 5)) ?_
        have hs3 := BoxS.alloc hs2 (.cells #[.int .u8 0] 5)
        have hx3 := cell_one_new v2 (.int .u8 0) 5 0 _ rfl
        generalize v2.alloc (.cells #[.int .u8 0] 5) = v3 at *
        generalize v2.heap.size = g at *
        simp only [Act.put, List.setIfInBounds_toArray, List.set_cons_zero, List.set_cons_succ]
        refine held_one (i := 16) (by kernel_rfl) ?_
        refine held_value (some 22) rfl rfl (.string (oneB 0)) (exec_conv _ _ (.tmp 21) rfl _ rfl (hcv _ _ hx3)) rfl hs3 ?_
        simp only [Act.put, List.setIfInBounds_toArray, List.set_cons_zero, List.set_cons_succ]
        refine held_take (i := 17) (v := .string (id ++ highB m 2 ++ highB data.size 4 ++ data ++ oneB 0)) (some 23) rfl (by kernel_rfl) (by kernel_rfl) (by kernel_rfl) (fun _ _ _ h => h) rfl (Or.inl ⟨by rfl, fun W hW => exec_addstr _ _ (.tmp 19) (.tmp 22) rfl (id ++ highB m 2 ++ highB data.size 4 ++ data) (oneB 0) rfl rfl (by rw [z7]; show _ + 1 ≤ _; omega)⟩) hs3 ?_
        simp only [Act.put, List.setIfInBounds_toArray, List.set_cons_zero, List.set_cons_succ]
        refine held_take (i := 18) (v := .string (id ++ highB m 2 ++ highB data.size 4 ++ data ++ oneB 0)) (some 2) rfl (by kernel_rfl) (by kernel_rfl) (by kernel_rfl) (fun _ _ _ h => h) rfl (Or.inl ⟨by rfl, fun W hW => by go_simp⟩) hs3 ?_
        simp only [Act.put, List.setIfInBounds_toArray, List.set_cons_zero, List.set_cons_succ]
        refine wpAnyH_done (by kernel_rfl) ?_ _
        have hH := hs3.2.2.2.2
        rw [HR.out]
        clear hcv hS0 hs3
        go_wp2_with fail
        go_ret
        exact ⟨rfl, hH⟩
      · refine held_value (some 21) rfl rfl (.slice (some ⟨v1.heap.size, 0, none⟩) 1 1) (by go_simp <;> rfl) rfl (BoxS.alloc hs1 (.cells #[.int .u8 0] 5)) ?_
        have hs5 := BoxS.alloc hs1 (.cells #[.int .u8 0] 5)
        have hx5 := cell_one_new v1 (.int .u8 0) 5 0 _ rfl
        generalize v1.alloc (.cells #[.int .u8 0] 5) = v5 at *
        generalize v1.heap.size = g at *
        simp only [Act.put, List.setIfInBounds_toArray, List.set_cons_zero, List.set_cons_succ]
        refine held_two (i := 9) (j := 16) (by kernel_rfl) ?_ ?_
        · refine held_enter (some 15) rfl rfl 25 #[.int .i64 (data.size : Nat), .int .i64 4] (exec_call2 _ (.tmp 14) (.const (.int .i64 4)) _ rfl _ _ rfl rfl (enters_of Try.func25 (by kernel_rfl) rfl _ _)) rfl ((highRB_any data.size 4 (.inr rfl) _).mono ?_)
          rintro e v6 ⟨rfl, hg⟩
          have hs6 := BoxS.grown hs5 hg
          have hx6 := cell_on hx5 hg
          refine ⟨_, rfl, hs6, ?_⟩
          clear hg
          simp only [Act.put, List.setIfInBounds_toArray, List.set_cons_zero, List.set_cons_succ]
          refine held_take (i := 10) (v := .string (id ++ highB m 2 ++ highB data.size 4)) (some 16) rfl (by kernel_rfl) (by kernel_rfl) (by kernel_rfl) (fun _ _ _ h => h) rfl (Or.inl ⟨by rfl, fun W hW => exec_addstr _ _ (.tmp 11) (.tmp 15) rfl (id ++ highB m 2) (highB data.size 4) rfl rfl (by rw [z5, z4]; omega)⟩) hs6 ?_
          simp only [Act.put, List.setIfInBounds_toArray, List.set_cons_zero, List.set_cons_succ]
          refine held_take (i := 13) (v := .string (id ++ highB m 2 ++ highB data.size 4 ++ data)) (some 19) rfl (by kernel_rfl) (by kernel_rfl) (by kernel_rfl) (fun _ _ _ h => h) rfl (Or.inl ⟨by rfl, fun W hW => exec_addstr _ _ (.tmp 16) (.tmp 18) rfl (id ++ highB m 2 ++ highB data.size 4) data rfl rfl (by rw [z6]; omega)⟩) hs6 ?_
          simp only [Act.put, List.setIfInBounds_toArray, List.set_cons_zero, List.set_cons_succ]
          refine held_one (i := 16) (by kernel_rfl) ?_
          refine held_value (some 22) rfl rfl (.string (oneB 0)) (exec_conv _ _ (.tmp 21) rfl _ rfl (hcv _ _ hx6)) rfl hs6 ?_
          simp only [Act.put, List.setIfInBounds_toArray, List.set_cons_zero, List.set_cons_succ]
          refine held_take (i := 17) (v := .string (id ++ highB m 2 ++ highB data.size 4 ++ data ++ oneB 0)) (some 23) rfl (by kernel_rfl) (by kernel_rfl) (by kernel_rfl) (fun _ _ _ h => h) rfl (Or.inl ⟨by rfl, fun W hW => exec_addstr _ _ (.tmp 19) (.tmp 22) rfl (id ++ highB m 2 ++ highB data.size 4 ++ data) (oneB 0) rfl rfl (by rw [z7]; show _ + 1 ≤ _; omega)⟩) hs6 ?_
          simp only [Act.put, List.setIfInBounds_toArray, List.set_cons_zero, List.set_cons_succ]
          refine held_take (i := 18) (v := .string (id ++ highB m 2 ++ highB data.size 4 ++ data ++ oneB 0)) (some 2) rfl (by kernel_rfl) (by kernel_rfl) (by kernel_rfl) (fun _ _ _ h => h) rfl (Or.inl ⟨by rfl, fun W hW => by go_simp⟩) hs6 ?_
          simp only [Act.put, List.setIfInBounds_toArray, List.set_cons_zero, List.set_cons_succ]
          refine wpAnyH_done (by kernel_rfl) ?_ _
          have hH := hs6.2.2.2.2
          rw [HR.out]
          clear hcv hS0 hs6
          go_wp2_with fail
          go_ret
          exact ⟨rfl, hH⟩
        · refine held_value (some 22) rfl rfl (.string (oneB 0)) (exec_conv _ _ (.tmp 21) rfl _ rfl (hcv _ _ hx5)) rfl hs5 ?_
          simp only [Act.put, List.setIfInBounds_toArray, List.set_cons_zero, List.set_cons_succ]
          refine held_one (i := 9) (by kernel_rfl) ?_
          refine held_enter (some 15) rfl rfl 25 #[.int .i64 (data.size : Nat), .int .i64 4] (exec_call2 _ (.tmp 14) (.const (.int .i64 4)) _ rfl _ _ rfl rfl (enters_of Try.func25 (by kernel_rfl) rfl _ _)) rfl ((highRB_any data.size 4 (.inr rfl) _).mono ?_)
          rintro e v9 ⟨rfl, hg⟩
          have hs9 := BoxS.grown hs5 hg
          have hx9 := cell_on hx5 hg
          refine ⟨_, rfl, hs9, ?_⟩
          clear hg
          simp only [Act.put, List.setIfInBounds_toArray, List.set_cons_zero, List.set_cons_succ]
          refine held_take (i := 10) (v := .string (id ++ highB m 2 ++ highB data.size 4)) (some 16) rfl (by kernel_rfl) (by kernel_rfl) (by kernel_rfl) (fun _ _ _ h => h) rfl (Or.inl ⟨by rfl, fun W hW => exec_addstr _ _ (.tmp 11) (.tmp 15) rfl (id ++ highB m 2) (highB data.size 4) rfl rfl (by rw [z5, z4]; omega)⟩) hs9 ?_
          simp only [Act.put, List.setIfInBounds_toArray, List.set_cons_zero, List.set_cons_succ]
          refine held_take (i := 13) (v := .string (id ++ highB m 2 ++ highB data.size 4 ++ data)) (some 19) rfl (by kernel_rfl) (by kernel_rfl) (by kernel_rfl) (fun _ _ _ h => h) rfl (Or.inl ⟨by rfl, fun W hW => exec_addstr _ _ (.tmp 16) (.tmp 18) rfl (id ++ highB m 2 ++ highB data.size 4) data rfl rfl (by rw [z6]; omega)⟩) hs9 ?_
          simp only [Act.put, List.setIfInBounds_toArray, List.set_cons_zero, List.set_cons_succ]
          refine held_take (i := 17) (v := .string (id ++ highB m 2 ++ highB data.size 4 ++ data ++ oneB 0)) (some 23) rfl (by kernel_rfl) (by kernel_rfl) (by kernel_rfl) (fun _ _ _ h => h) rfl (Or.inl ⟨by rfl, fun W hW => exec_addstr _ _ (.tmp 19) (.tmp 22) rfl (id ++ highB m 2 ++ highB data.size 4 ++ data) (oneB 0) rfl rfl (by rw [z7]; show _ + 1 ≤ _; omega)⟩) hs9 ?_
          simp only [Act.put, List.setIfInBounds_toArray, List.set_cons_zero, List.set_cons_succ]
          refine held_take (i := 18) (v := .string (id ++ highB m 2 ++ highB data.size 4 ++ data ++ oneB 0)) (some 2) rfl (by kernel_rfl) (by kernel_rfl) (by kernel_rfl) (fun _ _ _ h => h) rfl (Or.inl ⟨by rfl, fun W hW => by go_simp⟩) hs9 ?_
          simp only [Act.put, List.setIfInBounds_toArray, List.set_cons_zero, List.set_cons_succ]
          refine wpAnyH_done (by kernel_rfl) ?_ _
          have hH := hs9.2.2.2.2
          rw [HR.out]
          clear hcv hS0 hs9
          go_wp2_with fail
          go_ret
          exact ⟨rfl, hH⟩
    · refine held_value (some 21) rfl rfl (.slice (some ⟨u0.heap.size, 0, none⟩) 1 1) (by go_simp <;> rfl) rfl (BoxS.alloc hS0 (.cells #[.int .u8 0] 5)) ?_
      have hs10 := BoxS.alloc hS0 (.cells #[.int .u8 0] 5)
      have hx10 := cell_one_new u0 (.int .u8 0) 5 0 _ rfl
      generalize u0.alloc (.cells #[.int .u8 0] 5) = v10 at *
      generalize u0.heap.size = g at *
      simp only [Act.put, List.setIfInBounds_toArray, List.set_cons_zero, List.set_cons_succ]
      refine held_two (i := 4) (j := 16) (by kernel_rfl) ?_ ?_
      · refine held_enter (some 10) rfl rfl 25 #[.int .i64 (m : Nat), .int .i64 2] (exec_call2 _ (.tmp 9) (.const (.int .i64 2)) _ rfl _ _ rfl rfl (enters_of Try.func25 (by kernel_rfl) rfl _ _)) rfl ((highRB_any m 2 (.inl rfl) _).mono ?_)
        rintro e v11 ⟨rfl, hg⟩
        have hs11 := BoxS.grown hs10 hg
        have hx11 := cell_on hx10 hg
        refine ⟨_, rfl, hs11, ?_⟩
        clear hg
        simp only [Act.put, List.setIfInBounds_toArray, List.set_cons_zero, List.set_cons_succ]
        refine held_take (i := 5) (v := .string (id ++ highB m 2)) (some 11) rfl (by kernel_rfl) (by kernel_rfl) (by kernel_rfl) (fun _ _ _ h => h) rfl (Or.inl ⟨by rfl, fun W hW => exec_addstr _ _ (.tmp 7) (.tmp 10) rfl id (highB m 2) rfl rfl (by rw [z2]; omega)⟩) hs11 ?_
        simp only [Act.put, List.setIfInBounds_toArray, List.set_cons_zero, List.set_cons_succ]
        refine held_two (i := 9) (j := 16) (by kernel_rfl) ?_ ?_
        · refine held_enter (some 15) rfl rfl 25 #[.int .i64 (data.size : Nat), .int .i64 4] (exec_call2 _ (.tmp 14) (.const (.int .i64 4)) _ rfl _ _ rfl rfl (enters_of Try.func25 (by kernel_rfl) rfl _ _)) rfl ((highRB_any data.size 4 (.inr rfl) _).mono ?_)
          rintro e v12 ⟨rfl, hg⟩
          have hs12 := BoxS.grown hs11 hg
          have hx12 := cell_on hx11 hg
          refine ⟨_, rfl, hs12, ?_⟩
          clear hg
          simp only [Act.put, List.setIfInBounds_toArray, List.set_cons_zero, List.set_cons_succ]
          refine held_take (i := 10) (v := .string (id ++ highB m 2 ++ highB data.size 4)) (some 16) rfl (by kernel_rfl) (by kernel_rfl) (by kernel_rfl) (fun _ _ _ h => h) rfl (Or.inl ⟨by rfl, fun W hW => exec_addstr _ _ (.tmp 11) (.tmp 15) rfl (id ++ highB m 2) (highB data.size 4) rfl rfl (by rw [z5, z4]; omega)⟩) hs12 ?_
          simp only [Act.put, List.setIfInBounds_toArray, List.set_cons_zero, List.set_cons_succ]
          refine held_take (i := 13) (v := .string (id ++ highB m 2 ++ highB data.size 4 ++ data)) (some 19) rfl (by kernel_rfl) (by kernel_rfl) (by kernel_rfl) (fun _ _ _ h => h) rfl (Or.inl ⟨by rfl, fun W hW => exec_addstr _ _ (.tmp 16) (.tmp 18) rfl (id ++ highB m 2 ++ highB data.size 4) data rfl rfl (by rw [z6]; omega)⟩) hs12 ?_
          simp only [Act.put, List.setIfInBounds_toArray, List.set_cons_zero, List.set_cons_succ]
          refine held_one (i := 16) (by kernel_rfl) ?_
          refine held_value (some 22) rfl rfl (.string (oneB 0)) (exec_conv _ _ (.tmp 21) rfl _ rfl (hcv _ _ hx12)) rfl hs12 ?_
          simp only [Act.put, List.setIfInBounds_toArray, List.set_cons_zero, List.set_cons_succ]
          refine held_take (i := 17) (v := .string (id ++ highB m 2 ++ highB data.size 4 ++ data ++ oneB 0)) (some 23) rfl (by kernel_rfl) (by kernel_rfl) (by kernel_rfl) (fun _ _ _ h => h) rfl (Or.inl ⟨by rfl, fun W hW => exec_addstr _ _ (.tmp 19) (.tmp 22) rfl (id ++ highB m 2 ++ highB data.size 4 ++ data) (oneB 0) rfl rfl (by rw [z7]; show _ + 1 ≤ _; omega)⟩) hs12 ?_
          simp only [Act.put, List.setIfInBounds_toArray, List.set_cons_zero, List.set_cons_succ]
          refine held_take (i := 18) (v := .string (id ++ highB m 2 ++ highB data.size 4 ++ data ++ oneB 0)) (some 2) rfl (by kernel_rfl) (by kernel_rfl) (by kernel_rfl) (fun _ _ _ h => h) rfl (Or.inl ⟨by rfl, fun W hW => by go_simp⟩) hs12 ?_
          simp only [Act.put, List.setIfInBounds_toArray, List.set_cons_zero, List.set_cons_succ]
          refine wpAnyH_done (by kernel_rfl) ?_ _
          have hH := hs12.2.2.2.2
          rw [HR.out]
          clear hcv hS0 hs12
          go_wp2_with fail
          go_ret
          exact ⟨rfl, hH⟩
        · refine held_value (some 22) rfl rfl (.string (oneB 0)) (exec_conv _ _ (.tmp 21) rfl _ rfl (hcv _ _ hx11)) rfl hs11 ?_
          simp only [Act.put, List.setIfInBounds_toArray, List.set_cons_zero, List.set_cons_succ]
          refine held_one (i := 9) (by kernel_rfl) ?_
          refine held_enter (some 15) rfl rfl 25 #[.int .i64 (data.size : Nat), .int .i64 4] (exec_call2 _ (.tmp 14) (.const (.int .i64 4)) _ rfl _ _ rfl rfl (enters_of Try.func25 (by kernel_rfl) rfl _ _)) rfl ((highRB_any data.size 4 (.inr rfl) _).mono ?_)
          rintro e v15 ⟨rfl, hg⟩
          have hs15 := BoxS.grown hs11 hg
          have hx15 := cell_on hx11 hg
          refine ⟨_, rfl, hs15, ?_⟩
          clear hg
          simp only [Act.put, List.setIfInBounds_toArray, List.set_cons_zero, List.set_cons_succ]
          refine held_take (i := 10) (v := .string (id ++ highB m 2 ++ highB data.size 4)) (some 16) rfl (by kernel_rfl) (by kernel_rfl) (by kernel_rfl) (fun _ _ _ h => h) rfl (Or.inl ⟨by rfl, fun W hW => exec_addstr _ _ (.tmp 11) (.tmp 15) rfl (id ++ highB m 2) (highB data.size 4) rfl rfl (by rw [z5, z4]; omega)⟩) hs15 ?_
          simp only [Act.put, List.setIfInBounds_toArray, List.set_cons_zero, List.set_cons_succ]
          refine held_take (i := 13) (v := .string (id ++ highB m 2 ++ highB data.size 4 ++ data)) (some 19) rfl (by kernel_rfl) (by kernel_rfl) (by kernel_rfl) (fun _ _ _ h => h) rfl (Or.inl ⟨by rfl, fun W hW => exec_addstr _ _ (.tmp 16) (.tmp 18) rfl (id ++ highB m 2 ++ highB data.size 4) data rfl rfl (by rw [z6]; omega)⟩) hs15 ?_
          simp only [Act.put, List.setIfInBounds_toArray, List.set_cons_zero, List.set_cons_succ]
          refine held_take (i := 17) (v := .string (id ++ highB m 2 ++ highB data.size 4 ++ data ++ oneB 0)) (some 23) rfl (by kernel_rfl) (by kernel_rfl) (by kernel_rfl) (fun _ _ _ h => h) rfl (Or.inl ⟨by rfl, fun W hW => exec_addstr _ _ (.tmp 19) (.tmp 22) rfl (id ++ highB m 2 ++ highB data.size 4 ++ data) (oneB 0) rfl rfl (by rw [z7]; show _ + 1 ≤ _; omega)⟩) hs15 ?_
          simp only [Act.put, List.setIfInBounds_toArray, List.set_cons_zero, List.set_cons_succ]
          refine held_take (i := 18) (v := .string (id ++ highB m 2 ++ highB data.size 4 ++ data ++ oneB 0)) (some 2) rfl (by kernel_rfl) (by kernel_rfl) (by kernel_rfl) (fun _ _ _ h => h) rfl (Or.inl ⟨by rfl, fun W hW => by go_simp⟩) hs15 ?_
          simp only [Act.put, List.setIfInBounds_toArray, List.set_cons_zero, List.set_cons_succ]
          refine wpAnyH_done (by kernel_rfl) ?_ _
          have hH := hs15.2.2.2.2
          rw [HR.out]
          clear hcv hS0 hs15
          go_wp2_with fail
          go_ret
          exact ⟨rfl, hH⟩
      · refine held_value (some 22) rfl rfl (.string (oneB 0)) (exec_conv _ _ (.tmp 21) rfl _ rfl (hcv _ _ hx10)) rfl hs10 ?_
        simp only [Act.put, List.setIfInBounds_toArray, List.set_cons_zero, List.set_cons_succ]
        refine held_one (i := 4) (by kernel_rfl) ?_
        refine held_enter (some 10) rfl rfl 25 #[.int .i64 (m : Nat), .int .i64 2] (exec_call2 _ (.tmp 9) (.const (.int .i64 2)) _ rfl _ _ rfl rfl (enters_of Try.func25 (by kernel_rfl) rfl _ _)) rfl ((highRB_any m 2 (.inl rfl) _).mono ?_)
        rintro e v17 ⟨rfl, hg⟩
        have hs17 := BoxS.grown hs10 hg
        have hx17 := cell_on hx10 hg
        refine ⟨_, rfl, hs17, ?_⟩
        clear hg
        simp only [Act.put, List.setIfInBounds_toArray, List.set_cons_zero, List.set_cons_succ]
        refine held_take (i := 5) (v := .string (id ++ highB m 2)) (some 11) rfl (by kernel_rfl) (by kernel_rfl) (by kernel_rfl) (fun _ _ _ h => h) rfl (Or.inl ⟨by rfl, fun W hW => exec_addstr _ _ (.tmp 7) (.tmp 10) rfl id (highB m 2) rfl rfl (by rw [z2]; omega)⟩) hs17 ?_
        simp only [Act.put, List.setIfInBounds_toArray, List.set_cons_zero, List.set_cons_succ]
        refine held_one (i := 9) (by kernel_rfl) ?_
        refine held_enter (some 15) rfl rfl 25 #[.int .i64 (data.size : Nat), .int .i64 4] (exec_call2 _ (.tmp 14) (.const (.int .i64 4)) _ rfl _ _ rfl rfl (enters_of Try.func25 (by kernel_rfl) rfl _ _)) rfl ((highRB_any data.size 4 (.inr rfl) _).mono ?_)
        rintro e v18 ⟨rfl, hg⟩
        have hs18 := BoxS.grown hs17 hg
        have hx18 := cell_on hx17 hg
        refine ⟨_, rfl, hs18, ?_⟩
        clear hg
        simp only [Act.put, List.setIfInBounds_toArray, List.set_cons_zero, List.set_cons_succ]
        refine held_take (i := 10) (v := .string (id ++ highB m 2 ++ highB data.size 4)) (some 16) rfl (by kernel_rfl) (by kernel_rfl) (by kernel_rfl) (fun _ _ _ h => h) rfl (Or.inl ⟨by rfl, fun W hW => exec_addstr _ _ (.tmp 11) (.tmp 15) rfl (id ++ highB m 2) (highB data.size 4) rfl rfl (by rw [z5, z4]; omega)⟩) hs18 ?_
        simp only [Act.put, List.setIfInBounds_toArray, List.set_cons_zero, List.set_cons_succ]
        refine held_take (i := 13) (v := .string (id ++ highB m 2 ++ highB data.size 4 ++ data)) (some 19) rfl (by kernel_rfl) (by kernel_rfl) (by kernel_rfl) (fun _ _ _ h => h) rfl (Or.inl ⟨by rfl, fun W hW => exec_addstr _ _ (.tmp 16) (.tmp 18) rfl (id ++ highB m 2 ++ highB data.size 4) data rfl rfl (by rw [z6]; omega)⟩) hs18 ?_
        simp only [Act.put, List.setIfInBounds_toArray, List.set_cons_zero, List.set_cons_succ]
        refine held_take (i := 17) (v := .string (id ++ highB m 2 ++ highB data.size 4 ++ data ++ oneB 0)) (some 23) rfl (by kernel_rfl) (by kernel_rfl) (by kernel_rfl) (fun _ _ _ h => h) rfl (Or.inl ⟨by rfl, fun W hW => exec_addstr _ _ (.tmp 19) (.tmp 22) rfl (id ++ highB m 2 ++ highB data.size 4 ++ data) (oneB 0) rfl rfl (by rw [z7]; show _ + 1 ≤ _; omega)⟩) hs18 ?_
        simp only [Act.put, List.setIfInBounds_toArray, List.set_cons_zero, List.set_cons_succ]
        refine held_take (i := 18) (v := .string (id ++ highB m 2 ++ highB data.size 4 ++ data ++ oneB 0)) (some 2) rfl (by kernel_rfl) (by kernel_rfl) (by kernel_rfl) (fun _ _ _ h => h) rfl (Or.inl ⟨by rfl, fun W hW => by go_simp⟩) hs18 ?_
        simp only [Act.put, List.setIfInBounds_toArray, List.set_cons_zero, List.set_cons_succ]
        refine wpAnyH_done (by kernel_rfl) ?_ _
        have hH := hs18.2.2.2.2
        rw [HR.out]
        clear hcv hS0 hs18
        go_wp2_with fail
        go_ret
        exact ⟨rfl, hH⟩
  · go_wp2_with fail
    generalize w.alloc (.cells #[.string id, .int .i64 m, .string data, .bool true] 24) = w2 at *
    have hS0 : BoxS w w.heap.size (.string id) (.int .i64 m) (.string data) w2.drew := BoxS.drew ⟨c0, c1, c2, hlt, hG⟩
    have hR : id ++ highB m 2 ++ highB data.size 4 ++ data ++ oneB 1 = L := by rw [← HL.out]; exact ba_ext (by simp [bytesF, highB, oneB, lastB])
    have HR := Lib.hid hR
    have z2 : (highB m 2).size = 2 := by rw [← ba_len]; exact highL_len m 2
    have z4 : (highB data.size 4).size = 4 := by rw [← ba_len]; exact highL_len _ 4
    have z5 : (id ++ highB m 2).size = 18 := by rw [ByteArray.size_append]; omega
    have z6 : (id ++ highB m 2 ++ highB data.size 4).size = 22 := by rw [ByteArray.size_append]; omega
    have z7 : (id ++ highB m 2 ++ highB data.size 4 ++ data).size = 22 + data.size := by rw [ByteArray.size_append]; omega
    have hcv := fun W g h => conv1 1 (W := W) (g := g) h
    simp only [UInt8.toNat_one, Int.cast_ofNat_Int] at hcv
    clear hB c0 c1 c2 c3 hlt hG k2 k3 hR HL
    refine wp_region_held (S := BoxS w w.heap.size (.string id) (.int .i64 m) (.string data)) (by kernel_rfl) ?_
    change wpAnyH _ _ _ _ _ _ _ _ w2.drew
    generalize w2.drew = u0 at *
    refine held_take (i := 0) (v := .pointer (some ⟨w.heap.size, 0, none⟩)) (some 6) rfl (by kernel_rfl) (by kernel_rfl) (by kernel_rfl) (fun _ _ _ h => h) rfl (Or.inl ⟨by rfl, fun W hW => by go_simp⟩) hS0 ?_
    simp only [Act.put, List.setIfInBounds_toArray, List.set_cons_zero, List.set_cons_succ]
    refine held_take (i := 1) (v := .string id) (some 7) rfl (by kernel_rfl) (by kernel_rfl) (by kernel_rfl) (fun _ _ _ h => h) rfl (Or.inl ⟨by rfl, fun W hW => by (obtain ⟨h0, h1, h2, _, _⟩ := hW; go_simp)⟩) hS0 ?_
    simp only [Act.put, List.setIfInBounds_toArray, List.set_cons_zero, List.set_cons_succ]
    refine held_take (i := 2) (v := .pointer (some ⟨w.heap.size, 1, none⟩)) (some 8) rfl (by kernel_rfl) (by kernel_rfl) (by kernel_rfl) (fun _ _ _ h => h) rfl (Or.inl ⟨by rfl, fun W hW => by go_simp⟩) hS0 ?_
    simp only [Act.put, List.setIfInBounds_toArray, List.set_cons_zero, List.set_cons_succ]
    refine held_take (i := 3) (v := .int .i64 m) (some 9) rfl (by kernel_rfl) (by kernel_rfl) (by kernel_rfl) (fun _ _ _ h => h) rfl (Or.inl ⟨by rfl, fun W hW => by (obtain ⟨h0, h1, h2, _, _⟩ := hW; go_simp)⟩) hS0 ?_
    simp only [Act.put, List.setIfInBounds_toArray, List.set_cons_zero, List.set_cons_succ]
    refine held_take (i := 6) (v := .pointer (some ⟨w.heap.size, 2, none⟩)) (some 12) rfl (by kernel_rfl) (by kernel_rfl) (by kernel_rfl) (fun _ _ _ h => h) rfl (Or.inl ⟨by rfl, fun W hW => by go_simp⟩) hS0 ?_
    simp only [Act.put, List.setIfInBounds_toArray, List.set_cons_zero, List.set_cons_succ]
    refine held_take (i := 7) (v := .string data) (some 13) rfl (by kernel_rfl) (by kernel_rfl) (by kernel_rfl) (fun _ _ _ h => h) rfl (Or.inl ⟨by rfl, fun W hW => by (obtain ⟨h0, h1, h2, _, _⟩ := hW; go_simp)⟩) hS0 ?_
    simp only [Act.put, List.setIfInBounds_toArray, List.set_cons_zero, List.set_cons_succ]
    refine held_take (i := 8) (v := .int .i64 data.size) (some 14) rfl (by kernel_rfl) (by kernel_rfl) (by kernel_rfl) (fun _ _ _ h => h) rfl (Or.inl ⟨by rfl, fun W hW => by go_simp⟩) hS0 ?_
    simp only [Act.put, List.setIfInBounds_toArray, List.set_cons_zero, List.set_cons_succ]
    refine held_take (i := 11) (v := .pointer (some ⟨w.heap.size, 2, none⟩)) (some 17) rfl (by kernel_rfl) (by kernel_rfl) (by kernel_rfl) (fun _ _ _ h => h) rfl (Or.inl ⟨by rfl, fun W hW => by go_simp⟩) hS0 ?_
    simp only [Act.put, List.setIfInBounds_toArray, List.set_cons_zero, List.set_cons_succ]
    refine held_take (i := 12) (v := .string data) (some 18) rfl (by kernel_rfl) (by kernel_rfl) (by kernel_rfl) (fun _ _ _ h => h) rfl (Or.inl ⟨by rfl, fun W hW => by (obtain ⟨h0, h1, h2, _, _⟩ := hW; go_simp)⟩) hS0 ?_
    simp only [Act.put, List.setIfInBounds_toArray, List.set_cons_zero, List.set_cons_succ]
    refine held_take (i := 14) (v := .int .u8 1) (some 20) rfl (by kernel_rfl) (by kernel_rfl) (by kernel_rfl) (fun _ _ _ h => h) rfl (Or.inl ⟨by rfl, fun W hW => by go_simp⟩) hS0 ?_
    simp only [Act.put, List.setIfInBounds_toArray, List.set_cons_zero, List.set_cons_succ]
    refine held_two (i := 4) (j := 15) (by kernel_rfl) ?_ ?_
    · refine held_enter (some 10) rfl rfl 25 #[.int .i64 (m : Nat), .int .i64 2] (exec_call2 _ (.tmp 9) (.const (.int .i64 2)) _ rfl _ _ rfl rfl (enters_of Try.func25 (by kernel_rfl) rfl _ _)) rfl ((highRB_any m 2 (.inl rfl) _).mono ?_)
      rintro e v1 ⟨rfl, hg⟩
      have hs1 := BoxS.grown hS0 hg
      refine ⟨_, rfl, hs1, ?_⟩
      clear hg
      simp only [Act.put, List.setIfInBounds_toArray, List.set_cons_zero, List.set_cons_succ]
      refine held_take (i := 5) (v := .string (id ++ highB m 2)) (some 11) rfl (by kernel_rfl) (by kernel_rfl) (by kernel_rfl) (fun _ _ _ h => h) rfl (Or.inl ⟨by rfl, fun W hW => exec_addstr _ _ (.tmp 7) (.tmp 10) rfl id (highB m 2) rfl rfl (by rw [z2]; omega)⟩) hs1 ?_
      simp only [Act.put, List.setIfInBounds_toArray, List.set_cons_zero, List.set_cons_succ]
      refine held_two (i := 9) (j := 15) (by kernel_rfl) ?_ ?_
      · refine held_enter (some 15) rfl rfl 25 #[.int .i64 (data.size : Nat), .int .i64 4] (exec_call2 _ (.tmp 14) (.const (.int .i64 4)) _ rfl _ _ rfl rfl (enters_of Try.func25 (by kernel_rfl) rfl _ _)) rfl ((highRB_any data.size 4 (.inr rfl) _).mono ?_)
        rintro e v2 ⟨rfl, hg⟩
        have hs2 := BoxS.grown hs1 hg
        refine ⟨_, rfl, hs2, ?_⟩
        clear hg
        simp only [Act.put, List.setIfInBounds_toArray, List.set_cons_zero, List.set_cons_succ]
        refine held_take (i := 10) (v := .string (id ++ highB m 2 ++ highB data.size 4)) (some 16) rfl (by kernel_rfl) (by kernel_rfl) (by kernel_rfl) (fun _ _ _ h => h) rfl (Or.inl ⟨by rfl, fun W hW => exec_addstr _ _ (.tmp 11) (.tmp 15) rfl (id ++ highB m 2) (highB data.size 4) rfl rfl (by rw [z5, z4]; omega)⟩) hs2 ?_
        simp only [Act.put, List.setIfInBounds_toArray, List.set_cons_zero, List.set_cons_succ]
        refine held_take (i := 13) (v := .string (id ++ highB m 2 ++ highB data.size 4 ++ data)) (some 19) rfl (by kernel_rfl) (by kernel_rfl) (by kernel_rfl) (fun _ _ _ h => h) rfl (Or.inl ⟨by rfl, fun W hW => exec_addstr _ _ (.tmp 16) (.tmp 18) rfl (id ++ highB m 2 ++ highB data.size 4) data rfl rfl (by rw [z6]; omega)⟩) hs2 ?_
        simp only [Act.put, List.setIfInBounds_toArray, List.set_cons_zero, List.set_cons_succ]
        refine held_one (i := 15) (by kernel_rfl) ?_
        refine held_value (some 21) rfl rfl (.slice (some ⟨v2.heap.size, 0, none⟩) 1 1) (by go_simp <;> rfl) rfl (BoxS.alloc hs2 (.cells #[.int .u8 1] 5)) ?_
        have hs3 := BoxS.alloc hs2 (.cells #[.int .u8 1] 5)
        have hx3 := cell_one_new v2 (.int .u8 1) 5 0 _ rfl
        generalize v2.alloc (.cells #[.int .u8 1] 5) = v3 at *
        generalize v2.heap.size = g at *
        simp only [Act.put, List.setIfInBounds_toArray, List.set_cons_zero, List.set_cons_succ]
        refine held_one (i := 16) (by kernel_rfl) ?_
        refine held_value (some 22) rfl rfl (.string (oneB 1)) (exec_conv _ _ (.tmp 21) rfl _ rfl (hcv _ _ hx3)) rfl hs3 ?_
        simp only [Act.put, List.setIfInBounds_toArray, List.set_cons_zero, List.set_cons_succ]
        refine held_take (i := 17) (v := .string (id ++ highB m 2 ++ highB data.size 4 ++ data ++ oneB 1)) (some 23) rfl (by kernel_rfl) (by kernel_rfl) (by kernel_rfl) (fun _ _ _ h => h) rfl (Or.inl ⟨by rfl, fun W hW => exec_addstr _ _ (.tmp 19) (.tmp 22) rfl (id ++ highB m 2 ++ highB data.size 4 ++ data) (oneB 1) rfl rfl (by rw [z7]; show _ + 1 ≤ _; omega)⟩) hs3 ?_
        simp only [Act.put, List.setIfInBounds_toArray, List.set_cons_zero, List.set_cons_succ]
        refine held_take (i := 18) (v := .string (id ++ highB m 2 ++ highB data.size 4 ++ data ++ oneB 1)) (some 2) rfl (by kernel_rfl) (by kernel_rfl) (by kernel_rfl) (fun _ _ _ h => h) rfl (Or.inl ⟨by rfl, fun W hW => by go_simp⟩) hs3 ?_
        simp only [Act.put, List.setIfInBounds_toArray, List.set_cons_zero, List.set_cons_succ]
        refine wpAnyH_done (by kernel_rfl) ?_ _
        have hH := hs3.2.2.2.2
        rw [HR.out]
        clear hcv hS0 hs3
        go_wp2_with fail
        go_ret
        exact ⟨rfl, hH⟩
      · refine held_value (some 21) rfl rfl (.slice (some ⟨v1.heap.size, 0, none⟩) 1 1) (by go_simp <;> rfl) rfl (BoxS.alloc hs1 (.cells #[.int .u8 1] 5)) ?_
        have hs5 := BoxS.alloc hs1 (.cells #[.int .u8 1] 5)
        have hx5 := cell_one_new v1 (.int .u8 1) 5 0 _ rfl
        generalize v1.alloc (.cells #[.int .u8 1] 5) = v5 at *
        generalize v1.heap.size = g at *
        simp only [Act.put, List.setIfInBounds_toArray, List.set_cons_zero, List.set_cons_succ]
        refine held_two (i := 9) (j := 16) (by kernel_rfl) ?_ ?_
        · refine held_enter (some 15) rfl rfl 25 #[.int .i64 (data.size : Nat), .int .i64 4] (exec_call2 _ (.tmp 14) (.const (.int .i64 4)) _ rfl _ _ rfl rfl (enters_of Try.func25 (by kernel_rfl) rfl _ _)) rfl ((highRB_any data.size 4 (.inr rfl) _).mono ?_)
          rintro e v6 ⟨rfl, hg⟩
          have hs6 := BoxS.grown hs5 hg
          have hx6 := cell_on hx5 hg
          refine ⟨_, rfl, hs6, ?_⟩
          clear hg
          simp only [Act.put, List.setIfInBounds_toArray, List.set_cons_zero, List.set_cons_succ]
          refine held_take (i := 10) (v := .string (id ++ highB m 2 ++ highB data.size 4)) (some 16) rfl (by kernel_rfl) (by kernel_rfl) (by kernel_rfl) (fun _ _ _ h => h) rfl (Or.inl ⟨by rfl, fun W hW => exec_addstr _ _ (.tmp 11) (.tmp 15) rfl (id ++ highB m 2) (highB data.size 4) rfl rfl (by rw [z5, z4]; omega)⟩) hs6 ?_
          simp only [Act.put, List.setIfInBounds_toArray, List.set_cons_zero, List.set_cons_succ]
          refine held_take (i := 13) (v := .string (id ++ highB m 2 ++ highB data.size 4 ++ data)) (some 19) rfl (by kernel_rfl) (by kernel_rfl) (by kernel_rfl) (fun _ _ _ h => h) rfl (Or.inl ⟨by rfl, fun W hW => exec_addstr _ _ (.tmp 16) (.tmp 18) rfl (id ++ highB m 2 ++ highB data.size 4) data rfl rfl (by rw [z6]; omega)⟩) hs6 ?_
          simp only [Act.put, List.setIfInBounds_toArray, List.set_cons_zero, List.set_cons_succ]
          refine held_one (i := 16) (by kernel_rfl) ?_
          refine held_value (some 22) rfl rfl (.string (oneB 1)) (exec_conv _ _ (.tmp 21) rfl _ rfl (hcv _ _ hx6)) rfl hs6 ?_
          simp only [Act.put, List.setIfInBounds_toArray, List.set_cons_zero, List.set_cons_succ]
          refine held_take (i := 17) (v := .string (id ++ highB m 2 ++ highB data.size 4 ++ data ++ oneB 1)) (some 23) rfl (by kernel_rfl) (by kernel_rfl) (by kernel_rfl) (fun _ _ _ h => h) rfl (Or.inl ⟨by rfl, fun W hW => exec_addstr _ _ (.tmp 19) (.tmp 22) rfl (id ++ highB m 2 ++ highB data.size 4 ++ data) (oneB 1) rfl rfl (by rw [z7]; show _ + 1 ≤ _; omega)⟩) hs6 ?_
          simp only [Act.put, List.setIfInBounds_toArray, List.set_cons_zero, List.set_cons_succ]
          refine held_take (i := 18) (v := .string (id ++ highB m 2 ++ highB data.size 4 ++ data ++ oneB 1)) (some 2) rfl (by kernel_rfl) (by kernel_rfl) (by kernel_rfl) (fun _ _ _ h => h) rfl (Or.inl ⟨by rfl, fun W hW => by go_simp⟩) hs6 ?_
          simp only [Act.put, List.setIfInBounds_toArray, List.set_cons_zero, List.set_cons_succ]
          refine wpAnyH_done (by kernel_rfl) ?_ _
          have hH := hs6.2.2.2.2
          rw [HR.out]
          clear hcv hS0 hs6
          go_wp2_with fail
          go_ret
          exact ⟨rfl, hH⟩
        · refine held_value (some 22) rfl rfl (.string (oneB 1)) (exec_conv _ _ (.tmp 21) rfl _ rfl (hcv _ _ hx5)) rfl hs5 ?_
          simp only [Act.put, List.setIfInBounds_toArray, List.set_cons_zero, List.set_cons_succ]
          refine held_one (i := 9) (by kernel_rfl) ?_
          refine held_enter (some 15) rfl rfl 25 #[.int .i64 (data.size : Nat), .int .i64 4] (exec_call2 _ (.tmp 14) (.const (.int .i64 4)) _ rfl _ _ rfl rfl (enters_of Try.func25 (by kernel_rfl) rfl _ _)) rfl ((highRB_any data.size 4 (.inr rfl) _).mono ?_)
          rintro e v9 ⟨rfl, hg⟩
          have hs9 := BoxS.grown hs5 hg
          have hx9 := cell_on hx5 hg
          refine ⟨_, rfl, hs9, ?_⟩
          clear hg
          simp only [Act.put, List.setIfInBounds_toArray, List.set_cons_zero, List.set_cons_succ]
          refine held_take (i := 10) (v := .string (id ++ highB m 2 ++ highB data.size 4)) (some 16) rfl (by kernel_rfl) (by kernel_rfl) (by kernel_rfl) (fun _ _ _ h => h) rfl (Or.inl ⟨by rfl, fun W hW => exec_addstr _ _ (.tmp 11) (.tmp 15) rfl (id ++ highB m 2) (highB data.size 4) rfl rfl (by rw [z5, z4]; omega)⟩) hs9 ?_
          simp only [Act.put, List.setIfInBounds_toArray, List.set_cons_zero, List.set_cons_succ]
          refine held_take (i := 13) (v := .string (id ++ highB m 2 ++ highB data.size 4 ++ data)) (some 19) rfl (by kernel_rfl) (by kernel_rfl) (by kernel_rfl) (fun _ _ _ h => h) rfl (Or.inl ⟨by rfl, fun W hW => exec_addstr _ _ (.tmp 16) (.tmp 18) rfl (id ++ highB m 2 ++ highB data.size 4) data rfl rfl (by rw [z6]; omega)⟩) hs9 ?_
          simp only [Act.put, List.setIfInBounds_toArray, List.set_cons_zero, List.set_cons_succ]
          refine held_take (i := 17) (v := .string (id ++ highB m 2 ++ highB data.size 4 ++ data ++ oneB 1)) (some 23) rfl (by kernel_rfl) (by kernel_rfl) (by kernel_rfl) (fun _ _ _ h => h) rfl (Or.inl ⟨by rfl, fun W hW => exec_addstr _ _ (.tmp 19) (.tmp 22) rfl (id ++ highB m 2 ++ highB data.size 4 ++ data) (oneB 1) rfl rfl (by rw [z7]; show _ + 1 ≤ _; omega)⟩) hs9 ?_
          simp only [Act.put, List.setIfInBounds_toArray, List.set_cons_zero, List.set_cons_succ]
          refine held_take (i := 18) (v := .string (id ++ highB m 2 ++ highB data.size 4 ++ data ++ oneB 1)) (some 2) rfl (by kernel_rfl) (by kernel_rfl) (by kernel_rfl) (fun _ _ _ h => h) rfl (Or.inl ⟨by rfl, fun W hW => by go_simp⟩) hs9 ?_
          simp only [Act.put, List.setIfInBounds_toArray, List.set_cons_zero, List.set_cons_succ]
          refine wpAnyH_done (by kernel_rfl) ?_ _
          have hH := hs9.2.2.2.2
          rw [HR.out]
          clear hcv hS0 hs9
          go_wp2_with fail
          go_ret
          exact ⟨rfl, hH⟩
    · refine held_value (some 21) rfl rfl (.slice (some ⟨u0.heap.size, 0, none⟩) 1 1) (by go_simp <;> rfl) rfl (BoxS.alloc hS0 (.cells #[.int .u8 1] 5)) ?_
      have hs10 := BoxS.alloc hS0 (.cells #[.int .u8 1] 5)
      have hx10 := cell_one_new u0 (.int .u8 1) 5 0 _ rfl
      generalize u0.alloc (.cells #[.int .u8 1] 5) = v10 at *
      generalize u0.heap.size = g at *
      simp only [Act.put, List.setIfInBounds_toArray, List.set_cons_zero, List.set_cons_succ]
      refine held_two (i := 4) (j := 16) (by kernel_rfl) ?_ ?_
      · refine held_enter (some 10) rfl rfl 25 #[.int .i64 (m : Nat), .int .i64 2] (exec_call2 _ (.tmp 9) (.const (.int .i64 2)) _ rfl _ _ rfl rfl (enters_of Try.func25 (by kernel_rfl) rfl _ _)) rfl ((highRB_any m 2 (.inl rfl) _).mono ?_)
        rintro e v11 ⟨rfl, hg⟩
        have hs11 := BoxS.grown hs10 hg
        have hx11 := cell_on hx10 hg
        refine ⟨_, rfl, hs11, ?_⟩
        clear hg
        simp only [Act.put, List.setIfInBounds_toArray, List.set_cons_zero, List.set_cons_succ]
        refine held_take (i := 5) (v := .string (id ++ highB m 2)) (some 11) rfl (by kernel_rfl) (by kernel_rfl) (by kernel_rfl) (fun _ _ _ h => h) rfl (Or.inl ⟨by rfl, fun W hW => exec_addstr _ _ (.tmp 7) (.tmp 10) rfl id (highB m 2) rfl rfl (by rw [z2]; omega)⟩) hs11 ?_
        simp only [Act.put, List.setIfInBounds_toArray, List.set_cons_zero, List.set_cons_succ]
        refine held_two (i := 9) (j := 16) (by kernel_rfl) ?_ ?_
        · refine held_enter (some 15) rfl rfl 25 #[.int .i64 (data.size : Nat), .int .i64 4] (exec_call2 _ (.tmp 14) (.const (.int .i64 4)) _ rfl _ _ rfl rfl (enters_of Try.func25 (by kernel_rfl) rfl _ _)) rfl ((highRB_any data.size 4 (.inr rfl) _).mono ?_)
          rintro e v12 ⟨rfl, hg⟩
          have hs12 := BoxS.grown hs11 hg
          have hx12 := cell_on hx11 hg
          refine ⟨_, rfl, hs12, ?_⟩
          clear hg
          simp only [Act.put, List.setIfInBounds_toArray, List.set_cons_zero, List.set_cons_succ]
          refine held_take (i := 10) (v := .string (id ++ highB m 2 ++ highB data.size 4)) (some 16) rfl (by kernel_rfl) (by kernel_rfl) (by kernel_rfl) (fun _ _ _ h => h) rfl (Or.inl ⟨by rfl, fun W hW => exec_addstr _ _ (.tmp 11) (.tmp 15) rfl (id ++ highB m 2) (highB data.size 4) rfl rfl (by rw [z5, z4]; omega)⟩) hs12 ?_
          simp only [Act.put, List.setIfInBounds_toArray, List.set_cons_zero, List.set_cons_succ]
          refine held_take (i := 13) (v := .string (id ++ highB m 2 ++ highB data.size 4 ++ data)) (some 19) rfl (by kernel_rfl) (by kernel_rfl) (by kernel_rfl) (fun _ _ _ h => h) rfl (Or.inl ⟨by rfl, fun W hW => exec_addstr _ _ (.tmp 16) (.tmp 18) rfl (id ++ highB m 2 ++ highB data.size 4) data rfl rfl (by rw [z6]; omega)⟩) hs12 ?_
          simp only [Act.put, List.setIfInBounds_toArray, List.set_cons_zero, List.set_cons_succ]
          refine held_one (i := 16) (by kernel_rfl) ?_
          refine held_value (some 22) rfl rfl (.string (oneB 1)) (exec_conv _ _ (.tmp 21) rfl _ rfl (hcv _ _ hx12)) rfl hs12 ?_
          simp only [Act.put, List.setIfInBounds_toArray, List.set_cons_zero, List.set_cons_succ]
          refine held_take (i := 17) (v := .string (id ++ highB m 2 ++ highB data.size 4 ++ data ++ oneB 1)) (some 23) rfl (by kernel_rfl) (by kernel_rfl) (by kernel_rfl) (fun _ _ _ h => h) rfl (Or.inl ⟨by rfl, fun W hW => exec_addstr _ _ (.tmp 19) (.tmp 22) rfl (id ++ highB m 2 ++ highB data.size 4 ++ data) (oneB 1) rfl rfl (by rw [z7]; show _ + 1 ≤ _; omega)⟩) hs12 ?_
          simp only [Act.put, List.setIfInBounds_toArray, List.set_cons_zero, List.set_cons_succ]
          refine held_take (i := 18) (v := .string (id ++ highB m 2 ++ highB data.size 4 ++ data ++ oneB 1)) (some 2) rfl (by kernel_rfl) (by kernel_rfl) (by kernel_rfl) (fun _ _ _ h => h) rfl (Or.inl ⟨by rfl, fun W hW => by go_simp⟩) hs12 ?_
          simp only [Act.put, List.setIfInBounds_toArray, List.set_cons_zero, List.set_cons_succ]
          refine wpAnyH_done (by kernel_rfl) ?_ _
          have hH := hs12.2.2.2.2
          rw [HR.out]
          clear hcv hS0 hs12
          go_wp2_with fail
          go_ret
          exact ⟨rfl, hH⟩
        · refine held_value (some 22) rfl rfl (.string (oneB 1)) (exec_conv _ _ (.tmp 21) rfl _ rfl (hcv _ _ hx11)) rfl hs11 ?_
          simp only [Act.put, List.setIfInBounds_toArray, List.set_cons_zero, List.set_cons_succ]
          refine held_one (i := 9) (by kernel_rfl) ?_
          refine held_enter (some 15) rfl rfl 25 #[.int .i64 (data.size : Nat), .int .i64 4] (exec_call2 _ (.tmp 14) (.const (.int .i64 4)) _ rfl _ _ rfl rfl (enters_of Try.func25 (by kernel_rfl) rfl _ _)) rfl ((highRB_any data.size 4 (.inr rfl) _).mono ?_)
          rintro e v15 ⟨rfl, hg⟩
          have hs15 := BoxS.grown hs11 hg
          have hx15 := cell_on hx11 hg
          refine ⟨_, rfl, hs15, ?_⟩
          clear hg
          simp only [Act.put, List.setIfInBounds_toArray, List.set_cons_zero, List.set_cons_succ]
          refine held_take (i := 10) (v := .string (id ++ highB m 2 ++ highB data.size 4)) (some 16) rfl (by kernel_rfl) (by kernel_rfl) (by kernel_rfl) (fun _ _ _ h => h) rfl (Or.inl ⟨by rfl, fun W hW => exec_addstr _ _ (.tmp 11) (.tmp 15) rfl (id ++ highB m 2) (highB data.size 4) rfl rfl (by rw [z5, z4]; omega)⟩) hs15 ?_
          simp only [Act.put, List.setIfInBounds_toArray, List.set_cons_zero, List.set_cons_succ]
          refine held_take (i := 13) (v := .string (id ++ highB m 2 ++ highB data.size 4 ++ data)) (some 19) rfl (by kernel_rfl) (by kernel_rfl) (by kernel_rfl) (fun _ _ _ h => h) rfl (Or.inl ⟨by rfl, fun W hW => exec_addstr _ _ (.tmp 16) (.tmp 18) rfl (id ++ highB m 2 ++ highB data.size 4) data rfl rfl (by rw [z6]; omega)⟩) hs15 ?_
          simp only [Act.put, List.setIfInBounds_toArray, List.set_cons_zero, List.set_cons_succ]
          refine held_take (i := 17) (v := .string (id ++ highB m 2 ++ highB data.size 4 ++ data ++ oneB 1)) (some 23) rfl (by kernel_rfl) (by kernel_rfl) (by kernel_rfl) (fun _ _ _ h => h) rfl (Or.inl ⟨by rfl, fun W hW => exec_addstr _ _ (.tmp 19) (.tmp 22) rfl (id ++ highB m 2 ++ highB data.size 4 ++ data) (oneB 1) rfl rfl (by rw [z7]; show _ + 1 ≤ _; omega)⟩) hs15 ?_
          simp only [Act.put, List.setIfInBounds_toArray, List.set_cons_zero, List.set_cons_succ]
          refine held_take (i := 18) (v := .string (id ++ highB m 2 ++ highB data.size 4 ++ data ++ oneB 1)) (some 2) rfl (by kernel_rfl) (by kernel_rfl) (by kernel_rfl) (fun _ _ _ h => h) rfl (Or.inl ⟨by rfl, fun W hW => by go_simp⟩) hs15 ?_
          simp only [Act.put, List.setIfInBounds_toArray, List.set_cons_zero, List.set_cons_succ]
          refine wpAnyH_done (by kernel_rfl) ?_ _
          have hH := hs15.2.2.2.2
          rw [HR.out]
          clear hcv hS0 hs15
          go_wp2_with fail
          go_ret
          exact ⟨rfl, hH⟩
      · refine held_value (some 22) rfl rfl (.string (oneB 1)) (exec_conv _ _ (.tmp 21) rfl _ rfl (hcv _ _ hx10)) rfl hs10 ?_
        simp only [Act.put, List.setIfInBounds_toArray, List.set_cons_zero, List.set_cons_succ]
        refine held_one (i := 4) (by kernel_rfl) ?_
        refine held_enter (some 10) rfl rfl 25 #[.int .i64 (m : Nat), .int .i64 2] (exec_call2 _ (.tmp 9) (.const (.int .i64 2)) _ rfl _ _ rfl rfl (enters_of Try.func25 (by kernel_rfl) rfl _ _)) rfl ((highRB_any m 2 (.inl rfl) _).mono ?_)
        rintro e v17 ⟨rfl, hg⟩
        have hs17 := BoxS.grown hs10 hg
        have hx17 := cell_on hx10 hg
        refine ⟨_, rfl, hs17, ?_⟩
        clear hg
        simp only [Act.put, List.setIfInBounds_toArray, List.set_cons_zero, List.set_cons_succ]
        refine held_take (i := 5) (v := .string (id ++ highB m 2)) (some 11) rfl (by kernel_rfl) (by kernel_rfl) (by kernel_rfl) (fun _ _ _ h => h) rfl (Or.inl ⟨by rfl, fun W hW => exec_addstr _ _ (.tmp 7) (.tmp 10) rfl id (highB m 2) rfl rfl (by rw [z2]; omega)⟩) hs17 ?_
        simp only [Act.put, List.setIfInBounds_toArray, List.set_cons_zero, List.set_cons_succ]
        refine held_one (i := 9) (by kernel_rfl) ?_
        refine held_enter (some 15) rfl rfl 25 #[.int .i64 (data.size : Nat), .int .i64 4] (exec_call2 _ (.tmp 14) (.const (.int .i64 4)) _ rfl _ _ rfl rfl (enters_of Try.func25 (by kernel_rfl) rfl _ _)) rfl ((highRB_any data.size 4 (.inr rfl) _).mono ?_)
        rintro e v18 ⟨rfl, hg⟩
        have hs18 := BoxS.grown hs17 hg
        have hx18 := cell_on hx17 hg
        refine ⟨_, rfl, hs18, ?_⟩
        clear hg
        simp only [Act.put, List.setIfInBounds_toArray, List.set_cons_zero, List.set_cons_succ]
        refine held_take (i := 10) (v := .string (id ++ highB m 2 ++ highB data.size 4)) (some 16) rfl (by kernel_rfl) (by kernel_rfl) (by kernel_rfl) (fun _ _ _ h => h) rfl (Or.inl ⟨by rfl, fun W hW => exec_addstr _ _ (.tmp 11) (.tmp 15) rfl (id ++ highB m 2) (highB data.size 4) rfl rfl (by rw [z5, z4]; omega)⟩) hs18 ?_
        simp only [Act.put, List.setIfInBounds_toArray, List.set_cons_zero, List.set_cons_succ]
        refine held_take (i := 13) (v := .string (id ++ highB m 2 ++ highB data.size 4 ++ data)) (some 19) rfl (by kernel_rfl) (by kernel_rfl) (by kernel_rfl) (fun _ _ _ h => h) rfl (Or.inl ⟨by rfl, fun W hW => exec_addstr _ _ (.tmp 16) (.tmp 18) rfl (id ++ highB m 2 ++ highB data.size 4) data rfl rfl (by rw [z6]; omega)⟩) hs18 ?_
        simp only [Act.put, List.setIfInBounds_toArray, List.set_cons_zero, List.set_cons_succ]
        refine held_take (i := 17) (v := .string (id ++ highB m 2 ++ highB data.size 4 ++ data ++ oneB 1)) (some 23) rfl (by kernel_rfl) (by kernel_rfl) (by kernel_rfl) (fun _ _ _ h => h) rfl (Or.inl ⟨by rfl, fun W hW => exec_addstr _ _ (.tmp 19) (.tmp 22) rfl (id ++ highB m 2 ++ highB data.size 4 ++ data) (oneB 1) rfl rfl (by rw [z7]; show _ + 1 ≤ _; omega)⟩) hs18 ?_
        simp only [Act.put, List.setIfInBounds_toArray, List.set_cons_zero, List.set_cons_succ]
        refine held_take (i := 18) (v := .string (id ++ highB m 2 ++ highB data.size 4 ++ data ++ oneB 1)) (some 2) rfl (by kernel_rfl) (by kernel_rfl) (by kernel_rfl) (fun _ _ _ h => h) rfl (Or.inl ⟨by rfl, fun W hW => by go_simp⟩) hs18 ?_
        simp only [Act.put, List.setIfInBounds_toArray, List.set_cons_zero, List.set_cons_succ]
        refine wpAnyH_done (by kernel_rfl) ?_ _
        have hH := hs18.2.2.2.2
        rw [HR.out]
        clear hcv hS0 hs18
        go_wp2_with fail
        go_ret
        exact ⟨rfl, hH⟩
end Go.Proofs.Ytfafjnjdikofcaa
