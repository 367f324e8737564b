/- Wrappers, the document's: Put of the version that is counted.  Printed by wip/genWrpU.py -/
import Derived.Test.YtdflihfecfmpfaaDoorWrpT
namespace Go.Proofs.YtdflihfecfmpfaaDoor
open Go.RowKit Go.Shelf
set_option linter.unusedVariables false
set_option linter.unusedSimpArgs false

theorem exec_convW {P : Program} {a : Act} {o : Oper} {W : World} (t u : TypeId) (x : Operand) (ho : o.op = .convert t u x) (v r : Value) (hx : a.eval x = v) (h : (convert t u v).run P W = .ok r W) : (execOp a.eval o).run P W = .ok (.value r) W := by
  unfold execOp
  generalize a.eval = ev at *
  simp only [ho]
  simp [go_sem, hx, h]
set_option maxRecDepth 100000 in
set_option maxHeartbeats 4000000 in
theorem wputR_2 (B : Nat) (A : Option Addr) (n c : Nat) (xs : List ByteArray) (w : World) (hB : B ≤ w.heap.size) (h : Reads w B 1 A n (xs.map Value.string)) (hn : n ≤ 9223372036854775807) (hs : ∀ x ∈ xs, x.size ≤ 9223372036854775807) (hE : checkW 2 xs = 0) :
    Calls Tryd.prog 12 #[.int .i64 2, .slice A n c] w fun e w' => e = .returned (.tuple #[.string ⟨(putL 2 xs).toArray⟩, .int .i64 0]) ∧ w.grownBy w' none := by
  have hl : xs.length = n := by have := h.1; simpa using this
  have HL := Lib.hid hl
  have HC := Lib.hid (wcheckR_any 2 B A n c xs w h hn hs)
  have HR := Lib.hid h; have HB := Lib.hid hB
  obtain ⟨-, k0, k64, kx, ks⟩ := checkW_0.1 hE
  have kx2 : ∀ x ∈ xs, 2 ≤ x.size ∧ x.size ≤ 32768 := fun x hx => longE_0.1 (kx x hx)
  have HX := Lib.hid kx2
  have H64 := Lib.hid (show n ≤ 64 by omega)
  rw [hE] at HC
  obtain ⟨L, hL⟩ : ∃ L, putL 2 xs = L := ⟨_, rfl⟩
  rw [hL]
  have HLL := Lib.hid hL
  have HF := Lib.hid (fun k => flat_take (v := 2) HL.out H64.out (fun x hx => (HX.out x hx).2) k)
  have HVL := Lib.hid (show (varL n).length ≤ 10 from varF_len 10 n)
  have v1 : IntKind.u64.wrap (n : Int) = (n : Int) := wrap_nat64 (by have := H64.out; omega)
  have hvar := fun V => varR_any n (by have := H64.out; omega) V
  obtain ⟨vn, hvn⟩ : ∃ vn, varL n = vn := ⟨_, rfl⟩
  rw [hvn] at hvar HVL
  have HVN := Lib.hid hvn
  have HVAR := Lib.hid hvar
  clear hE h hs k0 k64 kx ks kx2 hL hl hB hn hvn hvar
  go_enter Tryd.func12, Tryd.ntmps12
  go_wp2_with fail
  refine HC.out.mono ?_
  rintro e w1 ⟨rfl, hw1⟩
  rw [hw1]
  clear HC hw1
  go_upto_region 6 with (fail)
  refine wp_region_held (S := fun W => Below w.heap.size w W) (by kernel_rfl) ?_
  change wpAnyH _ _ _ _ _ _ _ _ w.drew
  have hS0 : Below w.heap.size w w.drew := ⟨rfl, rfl, rfl, Nat.le_refl _, fun _ _ => rfl⟩
  generalize w.drew = u0 at *
  refine held_take (i := 2) (v := .slice A n c) (some 19) rfl (by kernel_rfl) (by kernel_rfl) (by kernel_rfl) (fun _ _ _ h => h) rfl (Or.inl ⟨by rfl, fun W hW => exec_move (.tmp 1) rfl _ rfl⟩) hS0 ?_
  simp only [Act.put, List.setIfInBounds_toArray, List.set_cons_zero, List.set_cons_succ]
  refine held_take (i := 3) (v := .int .i64 (n : Int)) (some 20) rfl (by kernel_rfl) (by kernel_rfl) (by kernel_rfl) (fun _ _ _ h => h) rfl (Or.inl ⟨by rfl, fun W hW => by go_simp⟩) hS0 ?_
  simp only [Act.put, List.setIfInBounds_toArray, List.set_cons_zero, List.set_cons_succ]
  refine held_take (i := 4) (v := .int .u64 (n : Int)) (some 21) rfl (by kernel_rfl) (by kernel_rfl) (by kernel_rfl) (fun _ _ _ h => h) rfl (Or.inl ⟨by rfl, fun W hW => by go_simp⟩) hS0 ?_
  simp only [Act.put, List.setIfInBounds_toArray, List.set_cons_zero, List.set_cons_succ]
  refine held_two (i := 0) (j := 5) (by kernel_rfl) ?_ ?_
  · have hA1 : Below w.heap.size w (u0.alloc (.cells #[.int .u8 2] 5)) := hS0.alloc hS0.size _
    refine held_value (some 17) rfl rfl (.slice (some ⟨u0.heap.size, 0, none⟩) 1 1) (w' := u0.alloc (.cells #[.int .u8 2] 5)) (by go_simp <;> rfl) rfl hA1 ?_
    simp only [Act.put, List.setIfInBounds_toArray, List.set_cons_zero, List.set_cons_succ]
    have hown : (u0.alloc (.cells #[.int .u8 2] 5)).ownsRow u0.heap.size 5 1 (.slice (some ⟨u0.heap.size, 0, none⟩) 1 1) 1 (u8s [2]) := own_new1 u0 2
    refine held_two (i := 1) (j := 5) (by kernel_rfl) ?_ ?_
    · refine held_value (some 18) rfl rfl (.string ⟨#[2]⟩) (w' := u0.alloc (.cells #[.int .u8 2] 5)) (exec_convW _ _ (.tmp 17) rfl _ _ rfl (conv_own hown)) rfl hA1 ?_
      simp only [Act.put, List.setIfInBounds_toArray, List.set_cons_zero, List.set_cons_succ]
      generalize u0.alloc (.cells #[.int .u8 2] 5) = u1 at *
      refine held_one (i := 5) (by kernel_rfl) ?_
      refine held_enter (some 22) rfl rfl 23 #[.int .u64 (n : Int)] (exec_call1 _ (.tmp 21) _ rfl _ rfl (enters_of Tryd.func23 (by kernel_rfl) rfl _ _)) rfl ((HVAR.out u1).mono ?_)
      rintro e u2 ⟨rfl, hg2⟩
      have hA2 : Below w.heap.size w u2 := hA1.trans ((below_of_grown hg2).mono hA1.size)
      refine ⟨_, rfl, hA2, ?_⟩
      simp only [Act.put, List.setIfInBounds_toArray, List.set_cons_zero, List.set_cons_succ]
      refine held_one (i := 6) (by kernel_rfl) ?_
      refine held_value (some 23) rfl rfl (.string (⟨#[2]⟩ ++ ⟨vn.toArray⟩)) (w' := u2) (exec_addstr _ _ _ _ rfl _ _ rfl rfl (by have h1 := ba_sz vn; have := HVL.out; show 1 + (⟨vn.toArray⟩ : ByteArray).size ≤ _; omega)) rfl hA2 ?_
      simp only [Act.put, List.setIfInBounds_toArray, List.set_cons_zero, List.set_cons_succ]
      refine held_one (i := 7) (by kernel_rfl) ?_
      refine held_value (some 7) rfl rfl (.string (⟨#[2]⟩ ++ ⟨vn.toArray⟩)) (w' := u2) (by go_simp) rfl hA2 ?_
      simp only [Act.put, List.setIfInBounds_toArray, List.set_cons_zero, List.set_cons_succ]
      refine wpAnyH_done (by kernel_rfl) ?_ _
      have HG := Lib.hid (grown_of_below hA2)
      rw [show (⟨#[2]⟩ : ByteArray) ++ ⟨vn.toArray⟩ = ⟨(2 :: vn).toArray⟩ from ba_cat [2] vn]
      clear hA1 hA2 hown hg2 hS0
      go_wp2_with fail
      go_loopw [7, 8] (fun v i wr => ∃ k : Nat, i = .int .i64 k ∧ v = .string ⟨(2 :: vn ++ (xs.take k).flatMap (partW 2)).toArray⟩ ∧ k ≤ n ∧ w.grownBy wr none) (fun _ i _ => n - (intOf i).toNat)
      case atStart => exact ⟨0, rfl, by rw [List.take_zero, List.flatMap_nil, List.append_nil], by omega, HG.out⟩
      case round =>
        obtain ⟨k, rfl, rfl, hk, hg⟩ := hrel
        have HG := Lib.hid hg
        by_cases hlt : k < n
        · have q1 : decide ((k : Int) < (n : Int)) = true := by simp; omega
          have hR2 := HR.out.grown hg HB.out (by simp)
          obtain ⟨g, off, rfl, hq, hc⟩ := Reads.vals Value.string .empty hR2 hlt
          have c0 := hc k hlt
          have hgw : g < wr.heap.size := Nat.lt_of_lt_of_le hq (Nat.le_trans HB.out hg.size)
          have hmem := getD_mem (xs := xs) (k := k) (by have := HL.out; omega)
          obtain ⟨x, hx⟩ : ∃ x, xs.getD k .empty = x := ⟨_, rfl⟩
          rw [hx] at c0 hmem
          have hx2 := HX.out x hmem
          have hfk := HF.out k
          have hsn : (xs.take (k + 1)).flatMap (partW 2) = (xs.take k).flatMap (partW 2) ++ (varL x.size ++ x.data.toList) := by rw [flat_snoc (by have := HL.out; omega), hx]; rfl
          have hvx := fun V => varR_any x.size (by omega) V
          have hvl : (varL x.size).length ≤ 10 := varF_len 10 x.size
          have v2 : IntKind.u64.wrap (x.size : Int) = (x.size : Int) := wrap_nat64 (by omega)
          obtain ⟨vx, hvxx⟩ : ∃ vx, varL x.size = vx := ⟨_, rfl⟩
          obtain ⟨Tk, hTk⟩ : ∃ T, 2 :: vn ++ (xs.take k).flatMap (partW 2) = T := ⟨_, rfl⟩
          have hTl : Tk.length ≤ 3000000 := by rw [← hTk]; have := HVL.out; simp only [List.cons_append, List.length_cons, List.length_append]; omega
          rw [hvxx] at hvx hvl hsn
          have hsn2 : 2 :: vn ++ (xs.take (k + 1)).flatMap (partW 2) = Tk ++ vx ++ x.data.toList := by rw [hsn, ← hTk]; simp [List.append_assoc]
          rw [hTk]
          have HVX := Lib.hid hvx
          have HSN := Lib.hid hsn2
          have HVL2 := Lib.hid hvl; have HTL := Lib.hid hTl; have HX2 := Lib.hid hx2
          have hn64 := H64.out
          clear hc hx hmem hfk hsn hsn2 hx2 hTk hg hvx hvl hTl hvxx hR2
          go_upto_region 11 with (fail)
          have hC0 : (fun V => Below wr.heap.size wr V) wr.drew := ⟨rfl, rfl, rfl, Nat.le_refl _, fun _ _ => rfl⟩
          refine wp_region_class (fun V => Below wr.heap.size wr V) (by kernel_rfl) (by kernel_rfl) hC0 ?_
          have hcc := class_const hC0
          have hr0 : ∀ V, Below wr.heap.size wr V → V.cell? ⟨g, off + k, none⟩ = some (.string x) := fun V hV => (hV.cell (p := ⟨g, off + k, none⟩) hgw).trans c0
          have k0 : (0 : Int) ≤ (k : Int) := by omega
          have k1 : (k : Int) < (n : Int) := by omega
          clear c0 hgw
          (try simp only [Act.put])
          (repeat go_big_quiet_step (fail))
          refine wpQuiet_loadW (.string x) _ _ ⟨g, off + k, none⟩ _ rfl rfl rfl Tryd.underlying9 rfl hr0 ?_
          simp only [Act.put, List.setIfInBounds_toArray, List.set_cons_zero, List.set_cons_succ]
          (repeat go_big_quiet_step (fail))
          refine quiet_callW (.string ⟨vx.toArray⟩) 23 #[.int .u64 (x.size : Int)] rfl (fun V => exec_call1 _ (.tmp 38) _ rfl _ rfl rfl) (fun V hV => HVX.out V) ?_
          simp only [Act.put, List.setIfInBounds_toArray, List.set_cons_zero, List.set_cons_succ]
          refine wpQuiet_value rfl (.string (⟨Tk.toArray⟩ ++ ⟨vx.toArray⟩)) (fun V hV => exec_addstr _ _ _ _ rfl _ _ rfl rfl (by rw [ba_sz, ba_sz]; have := HVL2.out; have := HTL.out; omega)) ?_
          simp only [Act.put, List.setIfInBounds_toArray, List.set_cons_zero, List.set_cons_succ]
          rw [ba_cat]
          (repeat go_big_quiet_step (fail))
          refine wpQuiet_loadW (.string x) _ _ ⟨g, off + k, none⟩ _ rfl rfl rfl Tryd.underlying9 rfl hr0 ?_
          simp only [Act.put, List.setIfInBounds_toArray, List.set_cons_zero, List.set_cons_succ]
          refine wpQuiet_value rfl (.string (⟨(Tk ++ vx).toArray⟩ ++ x)) (fun V hV => exec_addstr _ _ _ _ rfl _ _ rfl rfl (by rw [ba_sz, List.length_append]; have := HVL2.out; have := HTL.out; have := HX2.out; omega)) ?_
          simp only [Act.put, List.setIfInBounds_toArray, List.set_cons_zero, List.set_cons_succ]
          rw [ba_cat']
          (repeat go_big_quiet_step (fail))
          refine wpQuiet_nil ?_
          intro w3 hw3
          have hg3 := grown_of_below hw3
          have HG := Lib.hid (grown_self HG.out hg3 (by simp))
          clear hcc hC0 hr0 hw3 hg3 k0 k1
          go_wp2_with fail
          exact ⟨⟨k + 1, by go_num, by rw [HSN.out], by omega, HG.out⟩, by simp [intOf]; omega⟩
        · have q1 : decide ((k : Int) < (n : Int)) = false := by simp; omega
          have HE : Hid (2 :: vn ++ (xs.take k).flatMap (partW 2) = L) := Lib.hid (by
            rw [List.take_of_length_le (by have := HL.out; omega), ← HLL.out, ← HVN.out, ← HL.out]; rfl)
          rw [HE.out]
          clear hg
          go_wp2_with fail
          go_ret2
          exact ⟨rfl, HG.out⟩
    · refine held_enter (some 22) rfl rfl 23 #[.int .u64 (n : Int)] (exec_call1 _ (.tmp 21) _ rfl _ rfl (enters_of Tryd.func23 (by kernel_rfl) rfl _ _)) rfl ((HVAR.out (u0.alloc (.cells #[.int .u8 2] 5))).mono ?_)
      rintro e u2 ⟨rfl, hg2⟩
      have hA2 : Below w.heap.size w u2 := hA1.trans ((below_of_grown hg2).mono hA1.size)
      have hown2 := own_grownW hown hg2
      clear hown hg2 hA1
      refine ⟨_, rfl, hA2, ?_⟩
      simp only [Act.put, List.setIfInBounds_toArray, List.set_cons_zero, List.set_cons_succ]
      refine held_one (i := 1) (by kernel_rfl) ?_
      refine held_value (some 18) rfl rfl (.string ⟨#[2]⟩) (w' := u2) (exec_convW _ _ (.tmp 17) rfl _ _ rfl (conv_own hown2)) rfl hA2 ?_
      simp only [Act.put, List.setIfInBounds_toArray, List.set_cons_zero, List.set_cons_succ]
      refine held_one (i := 6) (by kernel_rfl) ?_
      refine held_value (some 23) rfl rfl (.string (⟨#[2]⟩ ++ ⟨vn.toArray⟩)) (w' := u2) (exec_addstr _ _ _ _ rfl _ _ rfl rfl (by have h1 := ba_sz vn; have := HVL.out; show 1 + (⟨vn.toArray⟩ : ByteArray).size ≤ _; omega)) rfl hA2 ?_
      simp only [Act.put, List.setIfInBounds_toArray, List.set_cons_zero, List.set_cons_succ]
      refine held_one (i := 7) (by kernel_rfl) ?_
      refine held_value (some 7) rfl rfl (.string (⟨#[2]⟩ ++ ⟨vn.toArray⟩)) (w' := u2) (by go_simp) rfl hA2 ?_
      simp only [Act.put, List.setIfInBounds_toArray, List.set_cons_zero, List.set_cons_succ]
      refine wpAnyH_done (by kernel_rfl) ?_ _
      have HG := Lib.hid (grown_of_below hA2)
      rw [show (⟨#[2]⟩ : ByteArray) ++ ⟨vn.toArray⟩ = ⟨(2 :: vn).toArray⟩ from ba_cat [2] vn]
      clear hA2 hown2 hS0
      go_wp2_with fail
      go_loopw [7, 8] (fun v i wr => ∃ k : Nat, i = .int .i64 k ∧ v = .string ⟨(2 :: vn ++ (xs.take k).flatMap (partW 2)).toArray⟩ ∧ k ≤ n ∧ w.grownBy wr none) (fun _ i _ => n - (intOf i).toNat)
      case atStart => exact ⟨0, rfl, by rw [List.take_zero, List.flatMap_nil, List.append_nil], by omega, HG.out⟩
      case round =>
        obtain ⟨k, rfl, rfl, hk, hg⟩ := hrel
        have HG := Lib.hid hg
        by_cases hlt : k < n
        · have q1 : decide ((k : Int) < (n : Int)) = true := by simp; omega
          have hR2 := HR.out.grown hg HB.out (by simp)
          obtain ⟨g, off, rfl, hq, hc⟩ := Reads.vals Value.string .empty hR2 hlt
          have c0 := hc k hlt
          have hgw : g < wr.heap.size := Nat.lt_of_lt_of_le hq (Nat.le_trans HB.out hg.size)
          have hmem := getD_mem (xs := xs) (k := k) (by have := HL.out; omega)
          obtain ⟨x, hx⟩ : ∃ x, xs.getD k .empty = x := ⟨_, rfl⟩
          rw [hx] at c0 hmem
          have hx2 := HX.out x hmem
          have hfk := HF.out k
          have hsn : (xs.take (k + 1)).flatMap (partW 2) = (xs.take k).flatMap (partW 2) ++ (varL x.size ++ x.data.toList) := by rw [flat_snoc (by have := HL.out; omega), hx]; rfl
          have hvx := fun V => varR_any x.size (by omega) V
          have hvl : (varL x.size).length ≤ 10 := varF_len 10 x.size
          have v2 : IntKind.u64.wrap (x.size : Int) = (x.size : Int) := wrap_nat64 (by omega)
          obtain ⟨vx, hvxx⟩ : ∃ vx, varL x.size = vx := ⟨_, rfl⟩
          obtain ⟨Tk, hTk⟩ : ∃ T, 2 :: vn ++ (xs.take k).flatMap (partW 2) = T := ⟨_, rfl⟩
          have hTl : Tk.length ≤ 3000000 := by rw [← hTk]; have := HVL.out; simp only [List.cons_append, List.length_cons, List.length_append]; omega
          rw [hvxx] at hvx hvl hsn
          have hsn2 : 2 :: vn ++ (xs.take (k + 1)).flatMap (partW 2) = Tk ++ vx ++ x.data.toList := by rw [hsn, ← hTk]; simp [List.append_assoc]
          rw [hTk]
          have HVX := Lib.hid hvx
          have HSN := Lib.hid hsn2
          have HVL2 := Lib.hid hvl; have HTL := Lib.hid hTl; have HX2 := Lib.hid hx2
          have hn64 := H64.out
          clear hc hx hmem hfk hsn hsn2 hx2 hTk hg hvx hvl hTl hvxx hR2
          go_upto_region 11 with (fail)
          have hC0 : (fun V => Below wr.heap.size wr V) wr.drew := ⟨rfl, rfl, rfl, Nat.le_refl _, fun _ _ => rfl⟩
          refine wp_region_class (fun V => Below wr.heap.size wr V) (by kernel_rfl) (by kernel_rfl) hC0 ?_
          have hcc := class_const hC0
          have hr0 : ∀ V, Below wr.heap.size wr V → V.cell? ⟨g, off + k, none⟩ = some (.string x) := fun V hV => (hV.cell (p := ⟨g, off + k, none⟩) hgw).trans c0
          have k0 : (0 : Int) ≤ (k : Int) := by omega
          have k1 : (k : Int) < (n : Int) := by omega
          clear c0 hgw
          (try simp only [Act.put])
          (repeat go_big_quiet_step (fail))
          refine wpQuiet_loadW (.string x) _ _ ⟨g, off + k, none⟩ _ rfl rfl rfl Tryd.underlying9 rfl hr0 ?_
          simp only [Act.put, List.setIfInBounds_toArray, List.set_cons_zero, List.set_cons_succ]
          (repeat go_big_quiet_step (fail))
          refine quiet_callW (.string ⟨vx.toArray⟩) 23 #[.int .u64 (x.size : Int)] rfl (fun V => exec_call1 _ (.tmp 38) _ rfl _ rfl rfl) (fun V hV => HVX.out V) ?_
          simp only [Act.put, List.setIfInBounds_toArray, List.set_cons_zero, List.set_cons_succ]
          refine wpQuiet_value rfl (.string (⟨Tk.toArray⟩ ++ ⟨vx.toArray⟩)) (fun V hV => exec_addstr _ _ _ _ rfl _ _ rfl rfl (by rw [ba_sz, ba_sz]; have := HVL2.out; have := HTL.out; omega)) ?_
          simp only [Act.put, List.setIfInBounds_toArray, List.set_cons_zero, List.set_cons_succ]
          rw [ba_cat]
          (repeat go_big_quiet_step (fail))
          refine wpQuiet_loadW (.string x) _ _ ⟨g, off + k, none⟩ _ rfl rfl rfl Tryd.underlying9 rfl hr0 ?_
          simp only [Act.put, List.setIfInBounds_toArray, List.set_cons_zero, List.set_cons_succ]
          refine wpQuiet_value rfl (.string (⟨(Tk ++ vx).toArray⟩ ++ x)) (fun V hV => exec_addstr _ _ _ _ rfl _ _ rfl rfl (by rw [ba_sz, List.length_append]; have := HVL2.out; have := HTL.out; have := HX2.out; omega)) ?_
          simp only [Act.put, List.setIfInBounds_toArray, List.set_cons_zero, List.set_cons_succ]
          rw [ba_cat']
          (repeat go_big_quiet_step (fail))
          refine wpQuiet_nil ?_
          intro w3 hw3
          have hg3 := grown_of_below hw3
          have HG := Lib.hid (grown_self HG.out hg3 (by simp))
          clear hcc hC0 hr0 hw3 hg3 k0 k1
          go_wp2_with fail
          exact ⟨⟨k + 1, by go_num, by rw [HSN.out], by omega, HG.out⟩, by simp [intOf]; omega⟩
        · have q1 : decide ((k : Int) < (n : Int)) = false := by simp; omega
          have HE : Hid (2 :: vn ++ (xs.take k).flatMap (partW 2) = L) := Lib.hid (by
            rw [List.take_of_length_le (by have := HL.out; omega), ← HLL.out, ← HVN.out, ← HL.out]; rfl)
          rw [HE.out]
          clear hg
          go_wp2_with fail
          go_ret2
          exact ⟨rfl, HG.out⟩
  · refine held_enter (some 22) rfl rfl 23 #[.int .u64 (n : Int)] (exec_call1 _ (.tmp 21) _ rfl _ rfl (enters_of Tryd.func23 (by kernel_rfl) rfl _ _)) rfl ((HVAR.out u0).mono ?_)
    rintro e u2 ⟨rfl, hg2⟩
    have hA2 : Below w.heap.size w u2 := hS0.trans ((below_of_grown hg2).mono hS0.size)
    refine ⟨_, rfl, hA2, ?_⟩
    simp only [Act.put, List.setIfInBounds_toArray, List.set_cons_zero, List.set_cons_succ]
    have hA3 : Below w.heap.size w (u2.alloc (.cells #[.int .u8 2] 5)) := hA2.alloc hA2.size _
    refine held_one (i := 0) (by kernel_rfl) ?_
    refine held_value (some 17) rfl rfl (.slice (some ⟨u2.heap.size, 0, none⟩) 1 1) (w' := u2.alloc (.cells #[.int .u8 2] 5)) (by go_simp <;> rfl) rfl hA3 ?_
    simp only [Act.put, List.setIfInBounds_toArray, List.set_cons_zero, List.set_cons_succ]
    have hown : (u2.alloc (.cells #[.int .u8 2] 5)).ownsRow u2.heap.size 5 1 (.slice (some ⟨u2.heap.size, 0, none⟩) 1 1) 1 (u8s [2]) := own_new1 u2 2
    refine held_one (i := 1) (by kernel_rfl) ?_
    refine held_value (some 18) rfl rfl (.string ⟨#[2]⟩) (w' := u2.alloc (.cells #[.int .u8 2] 5)) (exec_convW _ _ (.tmp 17) rfl _ _ rfl (conv_own hown)) rfl hA3 ?_
    simp only [Act.put, List.setIfInBounds_toArray, List.set_cons_zero, List.set_cons_succ]
    generalize u2.alloc (.cells #[.int .u8 2] 5) = u3 at *
    refine held_one (i := 6) (by kernel_rfl) ?_
    refine held_value (some 23) rfl rfl (.string (⟨#[2]⟩ ++ ⟨vn.toArray⟩)) (w' := u3) (exec_addstr _ _ _ _ rfl _ _ rfl rfl (by have h1 := ba_sz vn; have := HVL.out; show 1 + (⟨vn.toArray⟩ : ByteArray).size ≤ _; omega)) rfl hA3 ?_
    simp only [Act.put, List.setIfInBounds_toArray, List.set_cons_zero, List.set_cons_succ]
    refine held_one (i := 7) (by kernel_rfl) ?_
    refine held_value (some 7) rfl rfl (.string (⟨#[2]⟩ ++ ⟨vn.toArray⟩)) (w' := u3) (by go_simp) rfl hA3 ?_
    simp only [Act.put, List.setIfInBounds_toArray, List.set_cons_zero, List.set_cons_succ]
    refine wpAnyH_done (by kernel_rfl) ?_ _
    have HG := Lib.hid (grown_of_below hA3)
    rw [show (⟨#[2]⟩ : ByteArray) ++ ⟨vn.toArray⟩ = ⟨(2 :: vn).toArray⟩ from ba_cat [2] vn]
    clear hA2 hA3 hown hg2 hS0
    go_wp2_with fail
    go_loopw [7, 8] (fun v i wr => ∃ k : Nat, i = .int .i64 k ∧ v = .string ⟨(2 :: vn ++ (xs.take k).flatMap (partW 2)).toArray⟩ ∧ k ≤ n ∧ w.grownBy wr none) (fun _ i _ => n - (intOf i).toNat)
    case atStart => exact ⟨0, rfl, by rw [List.take_zero, List.flatMap_nil, List.append_nil], by omega, HG.out⟩
    case round =>
      obtain ⟨k, rfl, rfl, hk, hg⟩ := hrel
      have HG := Lib.hid hg
      by_cases hlt : k < n
      · have q1 : decide ((k : Int) < (n : Int)) = true := by simp; omega
        have hR2 := HR.out.grown hg HB.out (by simp)
        obtain ⟨g, off, rfl, hq, hc⟩ := Reads.vals Value.string .empty hR2 hlt
        have c0 := hc k hlt
        have hgw : g < wr.heap.size := Nat.lt_of_lt_of_le hq (Nat.le_trans HB.out hg.size)
        have hmem := getD_mem (xs := xs) (k := k) (by have := HL.out; omega)
        obtain ⟨x, hx⟩ : ∃ x, xs.getD k .empty = x := ⟨_, rfl⟩
        rw [hx] at c0 hmem
        have hx2 := HX.out x hmem
        have hfk := HF.out k
        have hsn : (xs.take (k + 1)).flatMap (partW 2) = (xs.take k).flatMap (partW 2) ++ (varL x.size ++ x.data.toList) := by rw [flat_snoc (by have := HL.out; omega), hx]; rfl
        have hvx := fun V => varR_any x.size (by omega) V
        have hvl : (varL x.size).length ≤ 10 := varF_len 10 x.size
        have v2 : IntKind.u64.wrap (x.size : Int) = (x.size : Int) := wrap_nat64 (by omega)
        obtain ⟨vx, hvxx⟩ : ∃ vx, varL x.size = vx := ⟨_, rfl⟩
        obtain ⟨Tk, hTk⟩ : ∃ T, 2 :: vn ++ (xs.take k).flatMap (partW 2) = T := ⟨_, rfl⟩
        have hTl : Tk.length ≤ 3000000 := by rw [← hTk]; have := HVL.out; simp only [List.cons_append, List.length_cons, List.length_append]; omega
        rw [hvxx] at hvx hvl hsn
        have hsn2 : 2 :: vn ++ (xs.take (k + 1)).flatMap (partW 2) = Tk ++ vx ++ x.data.toList := by rw [hsn, ← hTk]; simp [List.append_assoc]
        rw [hTk]
        have HVX := Lib.hid hvx
        have HSN := Lib.hid hsn2
        have HVL2 := Lib.hid hvl; have HTL := Lib.hid hTl; have HX2 := Lib.hid hx2
        have hn64 := H64.out
        clear hc hx hmem hfk hsn hsn2 hx2 hTk hg hvx hvl hTl hvxx hR2
        go_upto_region 11 with (fail)
        have hC0 : (fun V => Below wr.heap.size wr V) wr.drew := ⟨rfl, rfl, rfl, Nat.le_refl _, fun _ _ => rfl⟩
        refine wp_region_class (fun V => Below wr.heap.size wr V) (by kernel_rfl) (by kernel_rfl) hC0 ?_
        have hcc := class_const hC0
        have hr0 : ∀ V, Below wr.heap.size wr V → V.cell? ⟨g, off + k, none⟩ = some (.string x) := fun V hV => (hV.cell (p := ⟨g, off + k, none⟩) hgw).trans c0
        have k0 : (0 : Int) ≤ (k : Int) := by omega
        have k1 : (k : Int) < (n : Int) := by omega
        clear c0 hgw
        (try simp only [Act.put])
        (repeat go_big_quiet_step (fail))
        refine wpQuiet_loadW (.string x) _ _ ⟨g, off + k, none⟩ _ rfl rfl rfl Tryd.underlying9 rfl hr0 ?_
        simp only [Act.put, List.setIfInBounds_toArray, List.set_cons_zero, List.set_cons_succ]
        (repeat go_big_quiet_step (fail))
        refine quiet_callW (.string ⟨vx.toArray⟩) 23 #[.int .u64 (x.size : Int)] rfl (fun V => exec_call1 _ (.tmp 38) _ rfl _ rfl rfl) (fun V hV => HVX.out V) ?_
        simp only [Act.put, List.setIfInBounds_toArray, List.set_cons_zero, List.set_cons_succ]
        refine wpQuiet_value rfl (.string (⟨Tk.toArray⟩ ++ ⟨vx.toArray⟩)) (fun V hV => exec_addstr _ _ _ _ rfl _ _ rfl rfl (by rw [ba_sz, ba_sz]; have := HVL2.out; have := HTL.out; omega)) ?_
        simp only [Act.put, List.setIfInBounds_toArray, List.set_cons_zero, List.set_cons_succ]
        rw [ba_cat]
        (repeat go_big_quiet_step (fail))
        refine wpQuiet_loadW (.string x) _ _ ⟨g, off + k, none⟩ _ rfl rfl rfl Tryd.underlying9 rfl hr0 ?_
        simp only [Act.put, List.setIfInBounds_toArray, List.set_cons_zero, List.set_cons_succ]
        refine wpQuiet_value rfl (.string (⟨(Tk ++ vx).toArray⟩ ++ x)) (fun V hV => exec_addstr _ _ _ _ rfl _ _ rfl rfl (by rw [ba_sz, List.length_append]; have := HVL2.out; have := HTL.out; have := HX2.out; omega)) ?_
        simp only [Act.put, List.setIfInBounds_toArray, List.set_cons_zero, List.set_cons_succ]
        rw [ba_cat']
        (repeat go_big_quiet_step (fail))
        refine wpQuiet_nil ?_
        intro w3 hw3
        have hg3 := grown_of_below hw3
        have HG := Lib.hid (grown_self HG.out hg3 (by simp))
        clear hcc hC0 hr0 hw3 hg3 k0 k1
        go_wp2_with fail
        exact ⟨⟨k + 1, by go_num, by rw [HSN.out], by omega, HG.out⟩, by simp [intOf]; omega⟩
      · have q1 : decide ((k : Int) < (n : Int)) = false := by simp; omega
        have HE : Hid (2 :: vn ++ (xs.take k).flatMap (partW 2) = L) := Lib.hid (by
          rw [List.take_of_length_le (by have := HL.out; omega), ← HLL.out, ← HVN.out, ← HL.out]; rfl)
        rw [HE.out]
        clear hg
        go_wp2_with fail
        go_ret2
        exact ⟨rfl, HG.out⟩
theorem wputR_any (v : Int) (B : Nat) (A : Option Addr) (n c : Nat) (xs : List ByteArray) (w : World) (hB : B ≤ w.heap.size) (h : Reads w B 1 A n (xs.map Value.string)) (hn : n ≤ 9223372036854775807) (hs : ∀ x ∈ xs, x.size ≤ 9223372036854775807) :
    Calls Tryd.prog 12 #[.int .i64 v, .slice A n c] w fun e w' => e = .returned (.tuple #[.string ⟨(putW v xs).toArray⟩, .int .i64 (checkW v xs)]) ∧ w.grownBy w' none := by
  have HC := Lib.hid (wcheckR_any v B A n c xs w h hn hs)
  obtain ⟨E, hE⟩ : ∃ E, checkW v xs = E := ⟨_, rfl⟩
  by_cases h0 : E = 0
  · subst h0
    have hp : putW v xs = putL v xs := if_pos hE
    obtain ⟨hv, -⟩ := checkW_0.1 hE
    rw [hp, hE]
    rcases hv with rfl | rfl
    · exact wputR_0 B A n c xs w hB h hn hs hE
    · exact wputR_2 B A n c xs w hB h hn hs hE
  · have hp : putW v xs = [] := if_neg (by rw [hE]; exact h0)
    have e1 : (E != 0) = true := by simpa using h0
    rw [hE] at HC ⊢
    rw [hp]
    clear hp hE h0 h hs
    go_enter Tryd.func12, Tryd.ntmps12
    go_wp2_with fail
    refine HC.out.mono ?_
    rintro e w1 ⟨rfl, hw1⟩
    rw [hw1]
    clear HC hw1
    go_wp2_with fail
    go_ret2
    exact ⟨rfl, World.grownBy.refl _ _⟩
end Go.Proofs.YtdflihfecfmpfaaDoor
