/- KeccakPermutes, KeccakApart: what they answer. -/
import Derived.Test.YtihkbhogapopdaaKecU
namespace Go.Proofs.Ytihkbhogapopdaa
open Go.RowKit Go.Shelf

theorem exec_eql_u64s {W : World} {a : Act} {o : Oper} (x y : Operand) (ho : o.op = .binOp .eql 23 x y 23) (xs ys : List (BitVec 64)) (hx : a.eval x = .agg (xs.map u64v).toArray) (hy : a.eval y = .agg (ys.map u64v).toArray) (hxl : xs.length = 25) (hyl : ys.length = 25) :
    (execOp a.eval o).run Try.prog W = .ok (.value (.bool (xs == ys))) W := by
  have h1 := run_eqGuard_agg (P := Try.prog) W .eql 23 x y (xs.map u64v).toArray (ys.map u64v).toArray (by kernel_rfl)
  have h2 := run_eql_u64s (P := Try.prog) W 23 22 25 (by kernel_rfl) (by kernel_rfl) size_u64 xs ys hxl hyl
  unfold execOp
  simp only [ho, hx, hy, Sem.run_bind, h1, h2, Result.andThen_ok]
  rfl
theorem exec_call_arr {W : World} {a : Act} {o : Oper} (f : FuncId) (x : Operand) (ts : Array TypeId) (ho : o.op = .call { callee := .value (.func f), args := #[x], argTypes := ts }) (v : Value) (hx : a.eval x = v)
    (hf : (callFunc f #[v]).run Try.prog W = .ok (.enter f #[v]) W) : (execOp a.eval o).run Try.prog W = .ok (.enter f #[v]) W := exec_call1 f x ts ho v hx hf

/-- a class of worlds: two blocks lie as they lay, and nothing else that was there has turned -/
def Two (b c : Nat) (cs ds : Array Value) (w W : World) : Prop := Blk W b 23 cs ∧ Blk W c 23 ds ∧ w.grownBy W none
theorem Two.step {b c : Nat} {cs ds : Array Value} {w W W' : World} (h : Two b c cs ds w W) (hg : W.grownBy W' none) : Two b c cs ds w W' := ⟨h.1.grown hg (by simp), h.2.1.grown hg (by simp), grown_self h.2.2 hg (by simp)⟩

set_option maxRecDepth 100000 in
set_option maxHeartbeats 1000000 in
theorem permutes_law (a : List (BitVec 64)) (ha : a.length = 25) (w : World) :
    Calls Try.prog 3 #[.agg (a.map u64v).toArray] w fun e w' => e = .returned (.bool true) ∧ Below w.heap.size w w' := by
  go_enter Try.func3, Try.ntmps3
  have hcR := fun w => refPermute_any a ha w
  have hcP := fun w => permute_any a ha w
  obtain ⟨r, hr⟩ : ∃ r, permuteK a = r := ⟨_, rfl⟩
  have hrl : r.length = 25 := by rw [← hr, permute_len]; exact ha
  rw [hr] at hcR hcP
  obtain ⟨cs, hcs⟩ : ∃ cs, (a.map u64v).toArray = cs := ⟨_, rfl⟩
  obtain ⟨ds, hds⟩ : ∃ ds, (r.map u64v).toArray = ds := ⟨_, rfl⟩
  have hcsz : cs.size = 25 := by rw [← hcs]; simpa using ha
  have hdsz : ds.size = 25 := by rw [← hds]; simpa using hrl
  have hone : ds.all (·.oneCell') = true := by rw [← hds]; simp [u64v, Value.oneCell']
  rw [hcs] at hcR hcP ⊢
  rw [hds] at hcR hcP
  have HDS := Lib.hid hds
  clear hr hcs hds
  have hB := Blk.new w 23 cs
  have hG : w.grownBy (w.alloc (.cells cs 23)) none := only_alloc (World.grownBy.refl _ _) _
  refine wp_seq (wp_region_lit ?_)
  refine Go.Great.wpList_boxTo rfl 23 _ rfl _ rfl w.heap.size rfl cs rfl ?_
  generalize w.alloc (.cells cs 23) = w1 at *
  refine wpList_step fun K hK => ?_
  go_simp
  refine hK _ _ (wpList_nil ?_)
  clear hK K
  repeat go_step
  refine (works_any _).mono ?_
  rintro e w2 ⟨rfl, hg2⟩
  simp only []
  go_at_K
  have hB2 := hB.grown hg2 (by simp)
  have hG2 := grown_self hG hg2 (by simp)
  repeat (first | refine wpList_load_row rfl 23 (.tmp 1) rfl w.heap.size rfl 23 cs _ (.array 25 22) hB2 (by kernel_rfl) (by kernel_rfl) (by rw [hcsz]; kernel_rfl) (veiled ?_) | go_step)
  refine ⟨?_⟩
  refine wpList_step fun K hK => ?_
  go_simp
  refine (hcR _).mono ?_
  rintro e w3 ⟨rfl, hg3⟩
  go_simp
  refine hK _ _ ?_
  clear hK K
  refine wpList_step fun K hK => ?_
  go_simp
  refine hK _ _ ?_
  clear hK K
  have hB3 := (hB2.grown hg3 (by simp)).alloc (.cells #[.int .u64 0, .int .u64 0, .int .u64 0, .int .u64 0, .int .u64 0, .int .u64 0, .int .u64 0, .int .u64 0, .int .u64 0, .int .u64 0, .int .u64 0, .int .u64 0, .int .u64 0, .int .u64 0, .int .u64 0, .int .u64 0, .int .u64 0, .int .u64 0, .int .u64 0, .int .u64 0, .int .u64 0, .int .u64 0, .int .u64 0, .int .u64 0, .int .u64 0] 23)
  have hG3 := only_alloc (grown_self hG2 hg3 (by simp)) (.cells #[.int .u64 0, .int .u64 0, .int .u64 0, .int .u64 0, .int .u64 0, .int .u64 0, .int .u64 0, .int .u64 0, .int .u64 0, .int .u64 0, .int .u64 0, .int .u64 0, .int .u64 0, .int .u64 0, .int .u64 0, .int .u64 0, .int .u64 0, .int .u64 0, .int .u64 0, .int .u64 0, .int .u64 0, .int .u64 0, .int .u64 0, .int .u64 0, .int .u64 0] 23)
  have hN := Blk.new w3 23 #[.int .u64 0, .int .u64 0, .int .u64 0, .int .u64 0, .int .u64 0, .int .u64 0, .int .u64 0, .int .u64 0, .int .u64 0, .int .u64 0, .int .u64 0, .int .u64 0, .int .u64 0, .int .u64 0, .int .u64 0, .int .u64 0, .int .u64 0, .int .u64 0, .int .u64 0, .int .u64 0, .int .u64 0, .int .u64 0, .int .u64 0, .int .u64 0, .int .u64 0]
  have hz3 : w.heap.size < w3.heap.size := by have := (hB2.grown hg3 (by simp)).lt; omega
  refine wpList_store_mid rfl 23 _ _ rfl w3.heap.size 0 ds rfl rfl (there_blk' hN hdsz) (by rw [hdsz]; kernel_rfl) hone ?_
  have hN4 := hN.setAll (cs' := ds) hdsz
  have hB4 : Blk ((w3.alloc (.cells #[.int .u64 0, .int .u64 0, .int .u64 0, .int .u64 0, .int .u64 0, .int .u64 0, .int .u64 0, .int .u64 0, .int .u64 0, .int .u64 0, .int .u64 0, .int .u64 0, .int .u64 0, .int .u64 0, .int .u64 0, .int .u64 0, .int .u64 0, .int .u64 0, .int .u64 0, .int .u64 0, .int .u64 0, .int .u64 0, .int .u64 0, .int .u64 0, .int .u64 0] 23)).setCells w3.heap.size 0 ds.toList) w.heap.size 23 cs := Blk.setAll_far (by omega) _ _ _ hB3
  have hG4 : w.grownBy ((w3.alloc (.cells #[.int .u64 0, .int .u64 0, .int .u64 0, .int .u64 0, .int .u64 0, .int .u64 0, .int .u64 0, .int .u64 0, .int .u64 0, .int .u64 0, .int .u64 0, .int .u64 0, .int .u64 0, .int .u64 0, .int .u64 0, .int .u64 0, .int .u64 0, .int .u64 0, .int .u64 0, .int .u64 0, .int .u64 0, .int .u64 0, .int .u64 0, .int .u64 0, .int .u64 0] 23)).setCells w3.heap.size 0 ds.toList) none := only_setCells (.inr (by omega)) _ _ _ hG3
  generalize (w3.alloc (.cells #[.int .u64 0, .int .u64 0, .int .u64 0, .int .u64 0, .int .u64 0, .int .u64 0, .int .u64 0, .int .u64 0, .int .u64 0, .int .u64 0, .int .u64 0, .int .u64 0, .int .u64 0, .int .u64 0, .int .u64 0, .int .u64 0, .int .u64 0, .int .u64 0, .int .u64 0, .int .u64 0, .int .u64 0, .int .u64 0, .int .u64 0, .int .u64 0, .int .u64 0] 23)).setCells w3.heap.size 0 ds.toList = w4 at *
  generalize w3.heap.size = c at *
  clear hB hG hB2 hG2 hB3 hG3 hN hg2 hg3
  refine wpList_nil ?_
  generalize hb : w.heap.size = b at *
  repeat go_step
  have hC0 : Two b c cs ds w4 w4.drew := ⟨hB4.drew, hN4.drew, ⟨rfl, rfl, rfl, Nat.le_refl _, fun _ _ _ => rfl⟩⟩
  refine wp_region_class (Two b c cs ds w4) (by kernel_rfl) (by kernel_rfl) hC0 ?_
  have hcc := class_const hC0
  clear hC0
  simp only [Act.put]
  repeat go_big_quiet_step (fail)
  refine wpQuiet_value rfl (.agg cs) (fun W hW => exec_load_row 23 (.tmp 1) rfl b rfl 23 cs (.array 25 22) hW.1 (by kernel_rfl) (by kernel_rfl) (by rw [hcsz]; kernel_rfl)) ?_
  refine wpQuiet_enter rfl (.agg ds) 10 #[.agg cs] (fun W hW => exec_call1 _ (.tmp 12) _ rfl _ rfl (enters_of Try.func10 (by kernel_rfl) rfl _ W)) (fun W hW => (hcP W).mono fun e w' ⟨he, hg⟩ => ⟨he, hW.step hg⟩) ?_
  refine wpQuiet_value rfl (.agg ds) (fun W hW => exec_load_row 23 (.tmp 4) rfl c rfl 23 ds (.array 25 22) hW.2.1 (by kernel_rfl) (by kernel_rfl) (by rw [hdsz]; kernel_rfl)) ?_
  refine wpQuiet_value rfl (.bool (r == r)) (fun W hW => exec_eql_u64s (.tmp 13) (.tmp 14) rfl r r (by rw [HDS.out]; rfl) (by rw [HDS.out]; rfl) hrl hrl) ?_
  simp only [Act.put, List.setIfInBounds_toArray, List.set_cons_zero, List.set_cons_succ, beq_self_eq_true]
  repeat go_big_quiet_step (fail)
  refine wpQuiet_nil ?_
  intro w' hw'
  repeat go_step
  go_ret
  have hbl := below_of_grown (grown_self hG4 hw'.2.2 (by simp))
  exact ⟨rfl, by first | exact hbl | rwa [hb] at hbl⟩

theorem exec_eql_bool {W : World} {a : Act} {o : Oper} (x y : Operand) (ho : o.op = .binOp .eql 4 x y 4) (p q : Bool) (hx : a.eval x = .bool p) (hy : a.eval y = .bool q) :
    (execOp a.eval o).run Try.prog W = .ok (.value (.bool (p == q))) W := by
  have h1 : (eqGuard .eql 4 x y (.bool p) (.bool q)).run Try.prog W = .ok () W := by simp [eqGuard]
  have h2 : (binOp .eql 4 (.bool p) (.bool q)).run Try.prog W = .ok (.bool (p == q)) W := by
    have := run_equalIn_bool (P := Try.prog) W 9999 4 p q (by kernel_rfl)
    simp only [binOp]
    simp [Op.equal, Op.maxDepth, this]
  unfold execOp
  simp only [ho, hx, hy, Sem.run_bind, h1, h2, Result.andThen_ok]
  rfl

set_option maxRecDepth 100000 in
set_option maxHeartbeats 1000000 in
theorem apart_law (x y : List (BitVec 64)) (hx : x.length = 25) (hy : y.length = 25) (w : World) :
    Calls Try.prog 5 #[.agg (x.map u64v).toArray, .agg (y.map u64v).toArray] w fun e w' => e = .returned (.bool true) ∧ Below w.heap.size w w' := by
  have hinj : ((permuteK x == permuteK y) == (x == y)) = true := by
    rw [beq_iff_eq, Bool.eq_iff_iff, beq_iff_eq, beq_iff_eq]
    exact ⟨fun h => permute_inj x y hx hy h, fun h => by rw [h]⟩
  have hcX := fun w => permute_any x hx w
  have hcY := fun w => permute_any y hy w
  obtain ⟨r, hr⟩ : ∃ r, permuteK x = r := ⟨_, rfl⟩
  have hrl : r.length = 25 := by rw [← hr, permute_len]; exact hx
  obtain ⟨q, hq⟩ : ∃ r, permuteK y = r := ⟨_, rfl⟩
  have hql : q.length = 25 := by rw [← hq, permute_len]; exact hy
  rw [hr, hq] at hinj
  rw [hr] at hcX
  rw [hq] at hcY
  obtain ⟨cs, hcs⟩ : ∃ cs, (x.map u64v).toArray = cs := ⟨_, rfl⟩
  obtain ⟨ds, hds⟩ : ∃ ds, (y.map u64v).toArray = ds := ⟨_, rfl⟩
  have hcsz : cs.size = 25 := by rw [← hcs]; simpa using hx
  have hdsz : ds.size = 25 := by rw [← hds]; simpa using hy
  rw [hcs] at hcX ⊢
  rw [hds] at hcY ⊢
  have HCS := Lib.hid hcs
  have HDS := Lib.hid hds
  have HI := Lib.hid hinj
  clear hr hq hcs hds hinj
  go_enter Try.func5, Try.ntmps5
  have hB := (Blk.new w 23 cs).alloc (.cells ds 23)
  have hD := Blk.new (w.alloc (.cells cs 23)) 23 ds
  rw [World.size_alloc] at hD
  have hG : w.grownBy ((w.alloc (.cells cs 23)).alloc (.cells ds 23)) none := only_alloc (only_alloc (World.grownBy.refl _ _) _) _
  refine wp_seq (wp_region_lit ?_)
  refine Go.Great.wpList_boxTo rfl 23 _ rfl _ rfl w.heap.size rfl cs rfl ?_
  refine Go.Great.wpList_boxTo rfl 23 _ rfl _ rfl (w.heap.size + 1) (by simp) ds rfl ?_
  generalize (w.alloc (.cells cs 23)).alloc (.cells ds 23) = w1 at *
  refine wpList_step fun K hK => ?_
  go_simp
  refine hK _ _ (wpList_nil ?_)
  clear hK K
  repeat go_step
  refine (works_any _).mono ?_
  rintro e w2 ⟨rfl, hg2⟩
  simp only []
  go_at_K
  have hB2 := hB.grown hg2 (by simp)
  have hD2 := hD.grown hg2 (by simp)
  have hG2 := grown_self hG hg2 (by simp)
  clear hB hD hG hg2
  generalize hb : w.heap.size = b at *
  repeat go_step
  have hC0 : Two b (b + 1) cs ds w2 w2.drew := ⟨hB2.drew, hD2.drew, ⟨rfl, rfl, rfl, Nat.le_refl _, fun _ _ _ => rfl⟩⟩
  refine wp_region_class (Two b (b + 1) cs ds w2) (by kernel_rfl) (by kernel_rfl) hC0 ?_
  have hcc := class_const hC0
  clear hC0
  try simp only [Act.put]
  repeat go_big_quiet_step (fail)
  refine wpQuiet_value rfl (.agg cs) (fun W hW => exec_load_row 23 (.tmp 2) rfl b rfl 23 cs (.array 25 22) hW.1 (by kernel_rfl) (by kernel_rfl) (by rw [hcsz]; kernel_rfl)) ?_
  simp only [Act.put, List.setIfInBounds_toArray, List.set_cons_zero, List.set_cons_succ]
  refine wpQuiet_enter rfl (.agg (r.map u64v).toArray) 10 #[.agg cs] (fun W hW => exec_call1 _ (.tmp 11) _ rfl _ rfl (enters_of Try.func10 (by kernel_rfl) rfl _ W)) (fun W hW => (hcX W).mono fun e w' ⟨he, hg⟩ => ⟨he, hW.step hg⟩) ?_
  simp only [Act.put, List.setIfInBounds_toArray, List.set_cons_zero, List.set_cons_succ]
  refine wpQuiet_value rfl (.agg ds) (fun W hW => exec_load_row 23 (.tmp 3) rfl (b + 1) rfl 23 ds (.array 25 22) hW.2.1 (by kernel_rfl) (by kernel_rfl) (by rw [hdsz]; kernel_rfl)) ?_
  simp only [Act.put, List.setIfInBounds_toArray, List.set_cons_zero, List.set_cons_succ]
  refine wpQuiet_enter rfl (.agg (q.map u64v).toArray) 10 #[.agg ds] (fun W hW => exec_call1 _ (.tmp 13) _ rfl _ rfl (enters_of Try.func10 (by kernel_rfl) rfl _ W)) (fun W hW => (hcY W).mono fun e w' ⟨he, hg⟩ => ⟨he, hW.step hg⟩) ?_
  simp only [Act.put, List.setIfInBounds_toArray, List.set_cons_zero, List.set_cons_succ]
  refine wpQuiet_value rfl (.bool (r == q)) (fun W hW => exec_eql_u64s (.tmp 12) (.tmp 14) rfl r q rfl rfl hrl hql) ?_
  simp only [Act.put, List.setIfInBounds_toArray, List.set_cons_zero, List.set_cons_succ]
  refine wpQuiet_value rfl (.agg cs) (fun W hW => exec_load_row 23 (.tmp 2) rfl b rfl 23 cs (.array 25 22) hW.1 (by kernel_rfl) (by kernel_rfl) (by rw [hcsz]; kernel_rfl)) ?_
  simp only [Act.put, List.setIfInBounds_toArray, List.set_cons_zero, List.set_cons_succ]
  refine wpQuiet_value rfl (.agg ds) (fun W hW => exec_load_row 23 (.tmp 3) rfl (b + 1) rfl 23 ds (.array 25 22) hW.2.1 (by kernel_rfl) (by kernel_rfl) (by rw [hdsz]; kernel_rfl)) ?_
  simp only [Act.put, List.setIfInBounds_toArray, List.set_cons_zero, List.set_cons_succ]
  refine wpQuiet_value rfl (.bool (x == y)) (fun W hW => exec_eql_u64s (.tmp 16) (.tmp 17) rfl x y (by rw [HCS.out]; rfl) (by rw [HDS.out]; rfl) hx hy) ?_
  simp only [Act.put, List.setIfInBounds_toArray, List.set_cons_zero, List.set_cons_succ]
  refine wpQuiet_value rfl (.bool ((r == q) == (x == y))) (fun W hW => exec_eql_bool (.tmp 15) (.tmp 18) rfl (r == q) (x == y) rfl rfl) ?_
  rw [HI.out]
  simp only [Act.put, List.setIfInBounds_toArray, List.set_cons_zero, List.set_cons_succ]
  repeat go_big_quiet_step (fail)
  refine wpQuiet_nil ?_
  intro w' hw'
  repeat go_step
  go_ret
  have hbl := below_of_grown (grown_self hG2 hw'.2.2 (by simp))
  exact ⟨rfl, by first | exact hbl | rwa [hb] at hbl⟩
end Go.Proofs.Ytihkbhogapopdaa
