/- Merged: UnrG, UnrH, UnrI, UnrK, UnrL. -/
import Derived.Test.YtgclnikdkfpflaaGreatDoorMt1
import Derived.Test.YtgclnikdkfpflaaGreatDoorMt4
import Derived.Maps.AppendAt
namespace Go.Proofs.YtgclnikdkfpflaaGreatDoor
open Go.RowKit Go.Shelf
open List renaming set_cons_zero → jz, set_cons_succ → js, setIfInBounds_toArray → jb
set_option linter.unusedVariables false
set_option linter.unusedSimpArgs false
set_option maxRecDepth 100000
set_option maxHeartbeats 16000000
theorem read_any (r B8 B4 B7 base k : Nat) (s : ByteArray) (p : Int) (v : Value) (cells : List Value) (Post : Bool → ByteArray → Value → Int → World → Prop) (W : World)
  (b8 : Boxed W B8 195 (.func (.func 154) #[.pointer (some ⟨r, 0, none⟩)] #[])) (b4 : Boxed W B4 9 (.string s)) (b7 : Blk W B7 106 #[.bool true, .string .empty, v])
  (hown : W.ownsRow base 106 3 v k cells) (hr : r < base) (hB7 : B7 < base) (hr7 : r ≠ B7) (hbase : base ≤ W.heap.size) (hk : k ≤ 1000)
  (hit : Calls Tryz.prog 154 #[.pointer (some ⟨r, 0, none⟩), .string s, .int .i64 p] W fun e W1 => ∃ l b sA sn sc tz, e = .returned (.tuple #[.agg #[.bool l, .string b, .slice sA sn sc], .int .i64 tz]) ∧ W.grownBy W1 (some r) ∧ Post l b (.slice sA sn sc) tz W1) :
  Calls Tryz.prog 191 #[.int .i64 p, .pointer (some ⟨B8, 0, none⟩), .pointer (some ⟨B4, 0, none⟩), .pointer (some ⟨B7, 0, none⟩)] W fun e W' => ∃ l b sv tz W1 v', e = .returned (.int .i64 tz) ∧ Post l b sv tz W1 ∧ W.grownBy W1 (some r) ∧
   KeepsW (fun j => j < W1.heap.size ∧ j ≠ B7 ∧ v.ownBlock ≠ some j) W1 W' ∧ Blk W' B7 106 #[.bool true, .string .empty, v'] ∧ W'.ownsRow base 106 3 v' (k + 1) (cells ++ [.bool l, .string b, sv]) ∧ (v'.ownBlock = v.ownBlock ∨ ∃ g, v'.ownBlock = some g ∧ W1.heap.size ≤ g) := by
 have c8 := b8.cell; have c4 := b4.cell
 go_enter Tryz.func191, Tryz.ntmps191
 go_wp2_with fail
 refine hit.mono ?_
 rintro e W1 ⟨l, b, sA, sn, sc, tz, rfl, hg, hpost⟩
 have d7 := b7.grown hg (by simp; omega)
 have down := hown.kept hg (.inr (by intro e; have := ownBlock_ge hown e; omega))
 have hz1 := hg.size
 obtain ⟨vA, vc, rfl⟩ := own_slice3 hown
 have hcl : cells.length = k * 3 := hown.1
 have HP := Lib.hid hpost
 clear c8 c4 b8 b4 b7 hown hit hpost
 go_wp2_with fail
 have bx := Blk.new W1 106 #[.bool l, .string b, .slice sA sn sc]
 have e7 := d7.alloc (.cells #[.bool l, .string b, .slice sA sn sc] 106)
 have hnb := own_newB down
 have eown := down.kept (only_alloc (World.grownBy.refl W1 none) (.cells #[.bool l, .string b, .slice sA sn sc] 106)) (by cases vA; exact .inl rfl; exact .inr (by simp [Value.ownBlock]))
 have hbw : Below W1.heap.size W1 (W1.alloc (.cells #[.bool l, .string b, .slice sA sn sc] 106)) := (Below.refl _ _).alloc (Nat.le_refl _) _
 have hz2 : (W1.alloc (.cells #[.bool l, .string b, .slice sA sn sc] 106)).heap.size = W1.heap.size + 1 := by simp
 have hlt : ∀ g, (Value.slice vA k vc).ownBlock = some g → base ≤ g ∧ g < W1.heap.size := fun g e => ⟨ownBlock_ge down e, own_ltB down e⟩
 generalize W1.alloc (.cells #[.bool l, .string b, .slice sA sn sc] 106) = W2 at *
 refine wp_region_held (S := fun W => Blk W W1.heap.size 106 #[.bool l, .string b, .slice sA sn sc]) (by kernel_rfl) ?_
 change wpAnyH _ _ _ _ _ _ _ _ W2.drew
 replace bx : Blk W2.drew W1.heap.size 106 #[.bool l, .string b, .slice sA sn sc] := bx
 replace e7 : Blk W2.drew B7 106 #[.bool true, .string .empty, .slice vA k vc] := e7
 replace eown : W2.drew.ownsRow base 106 3 (.slice vA k vc) k cells := eown
 replace hbw : Below W1.heap.size W1 W2.drew := ⟨hbw.os, hbw.tape, hbw.output, hbw.size, hbw.block⟩
 replace hz2 : W2.drew.heap.size = W1.heap.size + 1 := hz2
 generalize W2.drew = u0 at *
 clear d7 down
 obtain ⟨N1, hN1⟩ : ∃ N, W1.heap.size = N := ⟨_, rfl⟩
 rw [hN1] at bx hbw hz2 hnb hlt ⊢
 refine zt 0 (.pointer (some ⟨B7, 2, none⟩)) (some 15) rfl (fun W hW => by go_simp) bx ?_
 simp only [Act.put, jb, jz, js]
 refine zt 2 (.agg #[.bool l, .string b, .slice sA sn sc]) (some 17) rfl (fun W hW => exec_load3 (.tmp 6) rfl rfl (Blk.cell hW 0) (Blk.cell hW 1) (Blk.cell hW 2)) bx ?_
 simp only [Act.put, jb, jz, js]
 obtain ⟨i0, hi, hz0, hzs, hzb⟩ := info_parts item_info
 refine held_two (i := 1) (j := 4) (by kernel_rfl) ?_ ?_
 ·refine held_value (some 16) rfl rfl (.slice vA k vc) (exec_load1 104 (.tmp 15) rfl _ rfl _ _ Tryz.underlying104 rfl (e7.cell 2)) rfl bx ?_
  simp only [Act.put, jb, jz, js]
  refine zt 3 (.int .i64 (k : Int)) (some 18) rfl (fun W hW => by go_simp) bx ?_
  simp only [Act.put, jb, jz, js]
  refine held_one (i := 4) (by kernel_rfl) ?_
  refine held_value (some 19) rfl rfl (.slice (some ⟨u0.heap.size, 0, none⟩) 1 1) (by go_simp <;> rfl) rfl (bx.alloc (.cells #[.bool false, .string ⟨#[]⟩, .slice none 0 0] 106)) ?_
  simp only [Act.put, jb, jz, js]
  have by_ := bx.alloc (.cells #[.bool false, .string ⟨#[]⟩, .slice none 0 0] 106)
  have ey := e7.alloc (.cells #[.bool false, .string ⟨#[]⟩, .slice none 0 0] 106)
  obtain ⟨v', u2, hrun, hown', hgrow, hiff, hob⟩ := run_append_own_at (P := Tryz.prog) (u0.alloc (.cells #[.bool false, .string ⟨#[]⟩, .slice none 0 0] 106)) base 104 104 106 i0 _ 3 48 Tryz.underlying104 hi hz0 hzs hzb rfl (by decide) (.slice vA k vc) k cells (eown.kept (only_alloc (World.grownBy.refl u0 none) _) (by cases vA; exact .inl rfl; exact .inr (by simp [Value.ownBlock]))) ⟨u0.heap.size, 0, none⟩ 1 1 [.bool false, .string ⟨#[]⟩, .slice none 0 0] rfl (cell_three_new _ _ _ _ _) (by simp [Value.oneCell']) (by simp only [maxLen]; omega) (by omega) (by simp; omega)
  obtain ⟨g', cap', rfl⟩ := ownsRow_succ hown'
  obtain ⟨cur, hcur, hcs, hlast⟩ := own_last (.bool l) (.string b) (.slice sA sn sc) hcl hown'
  refine held_one (i := 5) (by kernel_rfl) ?_
  have hb2 : Blk u2 N1 106 #[.bool l, .string b, .slice sA sn sc] := by_.grown hgrow (by intro e; exact hnb e.symm)
  refine held_value (some 20) rfl rfl (.slice (some ⟨g', 0, none⟩) (k + 1) cap') (exec_append (.tmp 16) (.tmp 19) 104 rfl _ _ _ rfl rfl hrun) rfl hb2 ?_
  simp only [Act.put, jb, jz, js]
  refine zt 8 (.pointer (some ⟨B7, 2, none⟩)) (some 22) rfl (fun W hW => by go_simp) hb2 ?_
  simp only [Act.put, jb, jz, js]
  refine zt 6 (.pointer (some ⟨g', k * 3, none⟩)) (some 21) rfl (fun W hW => by go_simp; intro hle; omega) hb2 ?_
  simp only [Act.put, jb, jz, js]
  have hgb : base ≤ g' := ownBlock_ge hown' rfl
  have hgN : g' ≠ N1 := by
   rcases hob with e | e
   ·intro e2
    exact hnb (e.symm.trans (by simp [Value.ownBlock, e2]))
   ·simp [Value.ownBlock] at e; omega
  have hob2 : (Value.slice (some ⟨g', 0, none⟩) (k + 1) cap').ownBlock = (Value.slice vA k vc).ownBlock ∨ ∃ q, (Value.slice (some ⟨g', 0, none⟩) (k + 1) cap').ownBlock = some q ∧ N1 ≤ q := by
   rcases hob with e | e
   ·exact .inl e
   ·refine .inr ⟨_, e, ?_⟩
    simp; omega
  have e7u : Blk u2 B7 106 #[.bool true, .string .empty, .slice vA k vc] := ey.grown hgrow (by intro e; have := (hlt _ e.symm).1; omega)
  have hkw : KeepsW (fun j => j < N1 ∧ j ≠ B7 ∧ (Value.slice vA k vc).ownBlock ≠ some j) W1 u2 := by
   refine ⟨hgrow.os.trans hbw.os, hgrow.tape.trans hbw.tape, hgrow.output.trans hbw.output, ?_, fun j hj => ?_⟩
   ·have := hgrow.size; simp at this; omega
   ·rw [hgrow.block j (by simp; omega) (fun e => hj.2.2 e.symm), Below.heap_alloc _ _ _ (by omega)]
    exact hbw.block j hj.1
  have hgS : ¬ (g' < N1 ∧ g' ≠ B7 ∧ (Value.slice vA k vc).ownBlock ≠ some g') := by
   rintro ⟨a1, a2, a3⟩
   rcases hob with e | e
   ·exact a3 (e.symm.trans rfl)
   ·simp [Value.ownBlock] at e; omega
  refine held_two (i := 7) (j := 9) (by kernel_rfl) ?_ ?_
  ·refine held_store rfl rfl (exec_store3 (.tmp 21) (.tmp 17) rfl rfl rfl hcur hcs) (((hb2.far (p := ⟨g', k * 3, none⟩) (Ne.symm hgN) _).far (p := ⟨g', k * 3 + 1, none⟩) (Ne.symm hgN) _).far (p := ⟨g', k * 3 + 2, none⟩) (Ne.symm hgN) _) ?_
   simp only [Act.put, jb, jz, js]
   have e7v := ((e7u.far (p := ⟨g', k * 3, none⟩) (by show B7 ≠ g'; omega) (.bool l)).far (p := ⟨g', k * 3 + 1, none⟩) (by show B7 ≠ g'; omega) (.string b)).far (p := ⟨g', k * 3 + 2, none⟩) (by show B7 ≠ g'; omega) (.slice sA sn sc)
   have hb3 := ((hb2.far (p := ⟨g', k * 3, none⟩) (Ne.symm hgN) (.bool l)).far (p := ⟨g', k * 3 + 1, none⟩) (Ne.symm hgN) (.string b)).far (p := ⟨g', k * 3 + 2, none⟩) (Ne.symm hgN) (.slice sA sn sc)
   have hk3 := ((hkw.set (p := ⟨g', k * 3, none⟩) hgS (.bool l)).set (p := ⟨g', k * 3 + 1, none⟩) hgS (.string b)).set (p := ⟨g', k * 3 + 2, none⟩) hgS (.slice sA sn sc)
   have hk4 := hk3.set (p := ⟨B7, 2, none⟩) (by rintro ⟨_, h, _⟩; exact h rfl) (.slice (some ⟨g', 0, none⟩) (k + 1) cap')
   have e7w := e7v.set_ 2 (.slice (some ⟨g', 0, none⟩) (k + 1) cap')
   simp only [List.setIfInBounds_toArray, List.set_cons_zero, List.set_cons_succ] at e7w
   have hl2 := own_far hlast (p := ⟨B7, 2, none⟩) (by show g' ≠ B7; omega) (.slice (some ⟨g', 0, none⟩) (k + 1) cap')
   refine held_one (i := 9) (by kernel_rfl) ?_
   refine held_store rfl rfl (exec_store1 (.tmp 22) (.tmp 20) rfl rfl rfl e7v (by simp)) (hb3.far (p := ⟨B7, 2, none⟩) (by show N1 ≠ B7; omega) _) ?_
   simp only [Act.put, jb, jz, js]
   refine wpAnyH_done (by kernel_rfl) ?_ _
   clear e7v hb3 hk3 hlast e7u hkw hown' hrun hgrow bx e7 eown hbw
   go_wp2_with fail
   go_ret
   exact ⟨l, b, .slice sA sn sc, tz, W1, _, rfl, HP.out, hg, by rw [hN1]; exact hk4, e7w, hl2, by rw [hN1]; exact hob2⟩
  ·have hown2 := own_far hown' (p := ⟨B7, 2, none⟩) (by show g' ≠ B7; omega) (.slice (some ⟨g', 0, none⟩) (k + 1) cap')
   have e7w := e7u.set_ 2 (.slice (some ⟨g', 0, none⟩) (k + 1) cap')
   simp only [List.setIfInBounds_toArray, List.set_cons_zero, List.set_cons_succ] at e7w
   have hb3 := hb2.far (p := ⟨B7, 2, none⟩) (by show N1 ≠ B7; omega) (.slice (some ⟨g', 0, none⟩) (k + 1) cap')
   have hk3 := hkw.set (p := ⟨B7, 2, none⟩) (by rintro ⟨_, h, _⟩; exact h rfl) (.slice (some ⟨g', 0, none⟩) (k + 1) cap')
   obtain ⟨cur2, hcur2, hcs2, hlast2⟩ := own_last (.bool l) (.string b) (.slice sA sn sc) hcl hown2
   refine held_store rfl rfl (exec_store1 (.tmp 22) (.tmp 20) rfl rfl rfl e7u (by simp)) hb3 ?_
   simp only [Act.put, jb, jz, js]
   refine held_one (i := 7) (by kernel_rfl) ?_
   have e7x := ((e7w.far (p := ⟨g', k * 3, none⟩) (by show B7 ≠ g'; omega) (.bool l)).far (p := ⟨g', k * 3 + 1, none⟩) (by show B7 ≠ g'; omega) (.string b)).far (p := ⟨g', k * 3 + 2, none⟩) (by show B7 ≠ g'; omega) (.slice sA sn sc)
   have hk4 := ((hk3.set (p := ⟨g', k * 3, none⟩) hgS (.bool l)).set (p := ⟨g', k * 3 + 1, none⟩) hgS (.string b)).set (p := ⟨g', k * 3 + 2, none⟩) hgS (.slice sA sn sc)
   refine held_store rfl rfl (exec_store3 (.tmp 21) (.tmp 17) rfl rfl rfl hcur2 hcs2) (((hb3.far (p := ⟨g', k * 3, none⟩) (Ne.symm hgN) _).far (p := ⟨g', k * 3 + 1, none⟩) (Ne.symm hgN) _).far (p := ⟨g', k * 3 + 2, none⟩) (Ne.symm hgN) _) ?_
   simp only [Act.put, jb, jz, js]
   refine wpAnyH_done (by kernel_rfl) ?_ _
   clear hb3 hk3 hlast e7u hkw hown' hown2 hrun hgrow bx e7 eown hbw
   go_wp2_with fail
   go_ret
   exact ⟨l, b, .slice sA sn sc, tz, W1, _, rfl, HP.out, hg, by rw [hN1]; exact hk4, e7x, hlast2, by rw [hN1]; exact hob2⟩
 ·refine held_value (some 19) rfl rfl (.slice (some ⟨u0.heap.size, 0, none⟩) 1 1) (by go_simp <;> rfl) rfl (bx.alloc (.cells #[.bool false, .string ⟨#[]⟩, .slice none 0 0] 106)) ?_
  simp only [Act.put, jb, jz, js]
  refine held_one (i := 1) (by kernel_rfl) ?_
  refine held_value (some 16) rfl rfl (.slice vA k vc) (exec_load1 104 (.tmp 15) rfl _ rfl _ _ Tryz.underlying104 rfl ((e7.alloc _).cell 2)) rfl (bx.alloc _) ?_
  simp only [Act.put, jb, jz, js]
  refine zt 3 (.int .i64 (k : Int)) (some 18) rfl (fun W hW => by go_simp) (bx.alloc _) ?_
  simp only [Act.put, jb, jz, js]
  have by_ := bx.alloc (.cells #[.bool false, .string ⟨#[]⟩, .slice none 0 0] 106)
  have ey := e7.alloc (.cells #[.bool false, .string ⟨#[]⟩, .slice none 0 0] 106)
  obtain ⟨v', u2, hrun, hown', hgrow, hiff, hob⟩ := run_append_own_at (P := Tryz.prog) (u0.alloc (.cells #[.bool false, .string ⟨#[]⟩, .slice none 0 0] 106)) base 104 104 106 i0 _ 3 48 Tryz.underlying104 hi hz0 hzs hzb rfl (by decide) (.slice vA k vc) k cells (eown.kept (only_alloc (World.grownBy.refl u0 none) _) (by cases vA; exact .inl rfl; exact .inr (by simp [Value.ownBlock]))) ⟨u0.heap.size, 0, none⟩ 1 1 [.bool false, .string ⟨#[]⟩, .slice none 0 0] rfl (cell_three_new _ _ _ _ _) (by simp [Value.oneCell']) (by simp only [maxLen]; omega) (by omega) (by simp; omega)
  obtain ⟨g', cap', rfl⟩ := ownsRow_succ hown'
  obtain ⟨cur, hcur, hcs, hlast⟩ := own_last (.bool l) (.string b) (.slice sA sn sc) hcl hown'
  refine held_one (i := 5) (by kernel_rfl) ?_
  have hb2 : Blk u2 N1 106 #[.bool l, .string b, .slice sA sn sc] := by_.grown hgrow (by intro e; exact hnb e.symm)
  refine held_value (some 20) rfl rfl (.slice (some ⟨g', 0, none⟩) (k + 1) cap') (exec_append (.tmp 16) (.tmp 19) 104 rfl _ _ _ rfl rfl hrun) rfl hb2 ?_
  simp only [Act.put, jb, jz, js]
  refine zt 8 (.pointer (some ⟨B7, 2, none⟩)) (some 22) rfl (fun W hW => by go_simp) hb2 ?_
  simp only [Act.put, jb, jz, js]
  refine zt 6 (.pointer (some ⟨g', k * 3, none⟩)) (some 21) rfl (fun W hW => by go_simp; intro hle; omega) hb2 ?_
  simp only [Act.put, jb, jz, js]
  have hgb : base ≤ g' := ownBlock_ge hown' rfl
  have hgN : g' ≠ N1 := by
   rcases hob with e | e
   ·intro e2
    exact hnb (e.symm.trans (by simp [Value.ownBlock, e2]))
   ·simp [Value.ownBlock] at e; omega
  have hob2 : (Value.slice (some ⟨g', 0, none⟩) (k + 1) cap').ownBlock = (Value.slice vA k vc).ownBlock ∨ ∃ q, (Value.slice (some ⟨g', 0, none⟩) (k + 1) cap').ownBlock = some q ∧ N1 ≤ q := by
   rcases hob with e | e
   ·exact .inl e
   ·refine .inr ⟨_, e, ?_⟩
    simp; omega
  have e7u : Blk u2 B7 106 #[.bool true, .string .empty, .slice vA k vc] := ey.grown hgrow (by intro e; have := (hlt _ e.symm).1; omega)
  have hkw : KeepsW (fun j => j < N1 ∧ j ≠ B7 ∧ (Value.slice vA k vc).ownBlock ≠ some j) W1 u2 := by
   refine ⟨hgrow.os.trans hbw.os, hgrow.tape.trans hbw.tape, hgrow.output.trans hbw.output, ?_, fun j hj => ?_⟩
   ·have := hgrow.size; simp at this; omega
   ·rw [hgrow.block j (by simp; omega) (fun e => hj.2.2 e.symm), Below.heap_alloc _ _ _ (by omega)]
    exact hbw.block j hj.1
  have hgS : ¬ (g' < N1 ∧ g' ≠ B7 ∧ (Value.slice vA k vc).ownBlock ≠ some g') := by
   rintro ⟨a1, a2, a3⟩
   rcases hob with e | e
   ·exact a3 (e.symm.trans rfl)
   ·simp [Value.ownBlock] at e; omega
  refine held_two (i := 7) (j := 9) (by kernel_rfl) ?_ ?_
  ·refine held_store rfl rfl (exec_store3 (.tmp 21) (.tmp 17) rfl rfl rfl hcur hcs) (((hb2.far (p := ⟨g', k * 3, none⟩) (Ne.symm hgN) _).far (p := ⟨g', k * 3 + 1, none⟩) (Ne.symm hgN) _).far (p := ⟨g', k * 3 + 2, none⟩) (Ne.symm hgN) _) ?_
   simp only [Act.put, jb, jz, js]
   have e7v := ((e7u.far (p := ⟨g', k * 3, none⟩) (by show B7 ≠ g'; omega) (.bool l)).far (p := ⟨g', k * 3 + 1, none⟩) (by show B7 ≠ g'; omega) (.string b)).far (p := ⟨g', k * 3 + 2, none⟩) (by show B7 ≠ g'; omega) (.slice sA sn sc)
   have hb3 := ((hb2.far (p := ⟨g', k * 3, none⟩) (Ne.symm hgN) (.bool l)).far (p := ⟨g', k * 3 + 1, none⟩) (Ne.symm hgN) (.string b)).far (p := ⟨g', k * 3 + 2, none⟩) (Ne.symm hgN) (.slice sA sn sc)
   have hk3 := ((hkw.set (p := ⟨g', k * 3, none⟩) hgS (.bool l)).set (p := ⟨g', k * 3 + 1, none⟩) hgS (.string b)).set (p := ⟨g', k * 3 + 2, none⟩) hgS (.slice sA sn sc)
   have hk4 := hk3.set (p := ⟨B7, 2, none⟩) (by rintro ⟨_, h, _⟩; exact h rfl) (.slice (some ⟨g', 0, none⟩) (k + 1) cap')
   have e7w := e7v.set_ 2 (.slice (some ⟨g', 0, none⟩) (k + 1) cap')
   simp only [List.setIfInBounds_toArray, List.set_cons_zero, List.set_cons_succ] at e7w
   have hl2 := own_far hlast (p := ⟨B7, 2, none⟩) (by show g' ≠ B7; omega) (.slice (some ⟨g', 0, none⟩) (k + 1) cap')
   refine held_one (i := 9) (by kernel_rfl) ?_
   refine held_store rfl rfl (exec_store1 (.tmp 22) (.tmp 20) rfl rfl rfl e7v (by simp)) (hb3.far (p := ⟨B7, 2, none⟩) (by show N1 ≠ B7; omega) _) ?_
   simp only [Act.put, jb, jz, js]
   refine wpAnyH_done (by kernel_rfl) ?_ _
   clear e7v hb3 hk3 hlast e7u hkw hown' hrun hgrow bx e7 eown hbw
   go_wp2_with fail
   go_ret
   exact ⟨l, b, .slice sA sn sc, tz, W1, _, rfl, HP.out, hg, by rw [hN1]; exact hk4, e7w, hl2, by rw [hN1]; exact hob2⟩
  ·have hown2 := own_far hown' (p := ⟨B7, 2, none⟩) (by show g' ≠ B7; omega) (.slice (some ⟨g', 0, none⟩) (k + 1) cap')
   have e7w := e7u.set_ 2 (.slice (some ⟨g', 0, none⟩) (k + 1) cap')
   simp only [List.setIfInBounds_toArray, List.set_cons_zero, List.set_cons_succ] at e7w
   have hb3 := hb2.far (p := ⟨B7, 2, none⟩) (by show N1 ≠ B7; omega) (.slice (some ⟨g', 0, none⟩) (k + 1) cap')
   have hk3 := hkw.set (p := ⟨B7, 2, none⟩) (by rintro ⟨_, h, _⟩; exact h rfl) (.slice (some ⟨g', 0, none⟩) (k + 1) cap')
   obtain ⟨cur2, hcur2, hcs2, hlast2⟩ := own_last (.bool l) (.string b) (.slice sA sn sc) hcl hown2
   refine held_store rfl rfl (exec_store1 (.tmp 22) (.tmp 20) rfl rfl rfl e7u (by simp)) hb3 ?_
   simp only [Act.put, jb, jz, js]
   refine held_one (i := 7) (by kernel_rfl) ?_
   have e7x := ((e7w.far (p := ⟨g', k * 3, none⟩) (by show B7 ≠ g'; omega) (.bool l)).far (p := ⟨g', k * 3 + 1, none⟩) (by show B7 ≠ g'; omega) (.string b)).far (p := ⟨g', k * 3 + 2, none⟩) (by show B7 ≠ g'; omega) (.slice sA sn sc)
   have hk4 := ((hk3.set (p := ⟨g', k * 3, none⟩) hgS (.bool l)).set (p := ⟨g', k * 3 + 1, none⟩) hgS (.string b)).set (p := ⟨g', k * 3 + 2, none⟩) hgS (.slice sA sn sc)
   refine held_store rfl rfl (exec_store3 (.tmp 21) (.tmp 17) rfl rfl rfl hcur2 hcs2) (((hb3.far (p := ⟨g', k * 3, none⟩) (Ne.symm hgN) _).far (p := ⟨g', k * 3 + 1, none⟩) (Ne.symm hgN) _).far (p := ⟨g', k * 3 + 2, none⟩) (Ne.symm hgN) _) ?_
   simp only [Act.put, jb, jz, js]
   refine wpAnyH_done (by kernel_rfl) ?_ _
   clear hb3 hk3 hlast e7u hkw hown' hown2 hrun hgrow bx e7 eown hbw
   go_wp2_with fail
   go_ret
   exact ⟨l, b, .slice sA sn sc, tz, W1, _, rfl, HP.out, hg, by rw [hN1]; exact hk4, e7x, hlast2, by rw [hN1]; exact hob2⟩
attribute [local go_sem] Oper.semAt_some
def ItemTail (k : Nat) (l : List UInt8) (a r : Nat) (W : World) (lst : Bool) (b : ByteArray) (sv : Value) (tz : Int) (W1 : World) : Prop :=
 (∃ x to', itemF k l a = .ok (x, to') ∧ tz = (to' : Int) ∧ lst = x.list ∧ b = x.bytes ∧ Blk W1 r 193 #[.int .i64 ((12 - k : Nat) : Int), .int .i64 0] ∧ SubV (fun g => W.heap.size ≤ g) W1 x.items sv) ∨
 (∃ E, itemF k l a = .error E ∧ E ≠ 0 ∧ Blk W1 r 193 #[.int .i64 ((12 - k : Nat) : Int), .int .i64 E])
def ItemC (k : Nat) : Prop := ∀ (s : ByteArray) (a r : Nat) (W : World), s.size ≤ 65536 → a ≤ s.size → Blk W r 193 #[.int .i64 ((12 - k : Nat) : Int), .int .i64 0] →
 Calls Tryz.prog 154 #[.pointer (some ⟨r, 0, none⟩), .string s, .int .i64 (a : Int)] W fun e W1 => ∃ l b sA sn sc tz, e = .returned (.tuple #[.agg #[.bool l, .string b, .slice sA sn sc], .int .i64 tz]) ∧ W.grownBy W1 (some r) ∧ ItemTail k s.data.toList a r W l b (.slice sA sn sc) tz W1
theorem places_any (F en : Int) (x0 x1 x2 : Value) (w : World) : Calls Tryz.prog 192 #[.int .i64 F, .int .i64 en, .func (.func 191) #[] #[x0, x1, x2]] w fun e w' => e = .returned (.func (.func 201) #[] #[.pointer (some ⟨w.heap.size, 0, none⟩), .pointer (some ⟨w.heap.size + 1, 0, none⟩), .pointer (some ⟨w.heap.size + 1 + 1, 0, none⟩)]) ∧
  w' = ((w.alloc (.cells #[.int .i64 F] 3)).alloc (.cells #[.int .i64 en] 3)).alloc (.cells #[.func (.func 191) #[] #[x0, x1, x2]] 92) := by
 go_enter Tryz.func192, Tryz.ntmps192
 go_wp2_with fail
 go_ret
 exact ⟨rfl, rfl⟩
def Stays (X : Nat → Prop) (W W' : World) : Prop := ∀ (g : Nat) (o : Obj), W.heap[g]? = some o → o.isCells = true → ¬ X g → W'.heap[g]? = some o
theorem Stays.of_grown {W W' : World} {row : Option Nat} (hg : W.grownBy W' row) (hr : ∀ r, row = some r → ∃ o : Obj, W.heap[r]? = some o ∧ o.isCells = false) : Stays (fun _ => False) W W' := by
 intro g o ho hc _
 refine (hg.block g (Array.getElem?_eq_some_iff.1 ho).1 (fun e => ?_)).trans ho
 obtain ⟨o', h1, h2⟩ := hr g e.symm
 rw [ho] at h1
 injection h1 with h1
 rw [h1] at hc
 rw [hc] at h2
 cases h2
theorem Stays.blk {X : Nat → Prop} {W W' : World} (h : Stays X W W') {g : Nat} {t : TypeId} {cs : Array Value} (hb : Blk W g t cs) (hx : ¬ X g) : Blk W' g t cs := h g _ hb rfl hx
theorem Stays.boxed {X : Nat → Prop} {W W' : World} (h : Stays X W W') {g : Nat} {t : TypeId} {v : Value} (hb : Boxed W g t v) (hx : ¬ X g) : Boxed W' g t v := h g _ hb rfl hx
theorem Stays.cell {X : Nat → Prop} {W W' : World} (h : Stays X W W') {p : Addr} {u : Value} (hc : W.cell? p = some u) (hx : ¬ X p.block) : W'.cell? p = some u := by
 obtain ⟨o, ho, hoc⟩ := cells_of_cell hc
 have := h p.block o ho hoc hx
 rw [← hc]
 exact World.cell?_of_block (w := W) (this.trans ho.symm)
theorem Stays.sub {X : Nat → Prop} {W W' : World} (h : Stays X W W') {S : Nat → Prop} {xs : List Itm} {v : Value} (hs : SubV S W xs v) (hx : ∀ g, S g → ¬ X g) : SubV S W' xs v := hs.keep fun _ hp _ hu => h.cell hu (hx _ hp)
theorem Stays.own {X : Nat → Prop} {W W' : World} (h : Stays X W W') {base : Nat} {e : TypeId} {size : Nat} {v : Value} {n : Nat} {xs : List Value} (ho : W.ownsRow base e size v n xs) (hx : ∀ g, v.ownBlock = some g → ¬ X g) : W'.ownsRow base e size v n xs := by
 refine ⟨ho.1, ?_⟩
 rcases ho.2 with h1 | ⟨g, cap, cur, rfl, hb, hh, rest⟩
 ·exact .inl h1
 ·exact .inr ⟨g, cap, cur, rfl, hb, h g _ hh rfl (hx g rfl), rest⟩
structure IB (w : World) (b r : Nat) (s : ByteArray) (W : World) : Prop where
 hg : w.grownBy W (some r)
 q0 : Boxed W b 191 (.pointer (some ⟨r, 0, none⟩))
 q1 : Boxed W (b + 1) 9 (.string s)
 q2 : Blk W (b + 2) 106 #[.bool false, .string ⟨#[]⟩, .slice none 0 0]
 q4 : Boxed W (b + 4) 195 (.func (.func 154) #[.pointer (some ⟨r, 0, none⟩)] #[])
 q6 : Boxed W (b + 6) 3 (.int .i64 (s.size : Int))
 q7 : Boxed W (b + 7) 92 (.func (.func 191) #[] #[.pointer (some ⟨b + 4, 0, none⟩), .pointer (some ⟨b + 1, 0, none⟩), .pointer (some ⟨b + 3, 0, none⟩)])
def prepR (xs : List Itm) : Except Int (List Itm) → Except Int (List Itm)
 | .error e => .error e
 | .ok ys => .ok (xs ++ ys)
def IOk (rd : Nat → Except Int (Itm × Nat)) (en F b : Nat) (v : Value) (i : Nat) (p : Int) (W : World) : Prop :=
 ∃ (p' : Nat) (xs : List Itm) (vs : List Value), p = (p' : Int) ∧ xs.length = i ∧ vs.length = i ∧ W.ownsRow (b + 8) 106 3 v i (itemsV xs vs) ∧ (∀ j, j < i → SubV (fun g => b + 8 ≤ g ∧ v.ownBlock ≠ some g) W (xs.getD j Itm.none_).items (vs.getD j undef)) ∧
  itemsF rd en 513 0 F = prepR xs (itemsF rd en (513 - i) i p')
def II (w : World) (b r : Nat) (s : ByteArray) (k F : Nat) (i : Nat) (p : Int) (W : World) : Prop :=
 IB w b r s W ∧ Boxed W (b + 5) 3 (.int .i64 p) ∧ i ≤ 512 ∧ ∃ (E : Int) (A : Option Addr) (n c : Nat), Blk W (b + 3) 106 #[.bool true, .string ⟨#[]⟩, .slice A n c] ∧ Blk W r 193 #[.int .i64 ((12 - k : Nat) : Int), .int .i64 E] ∧
  ((E = 0 ∧ IOk (itemF k s.data.toList) s.size F b (.slice A n c) i p W) ∨ (E ≠ 0 ∧ itemsF (itemF k s.data.toList) s.size 513 0 F = .error E))
def II2 (w : World) (b r : Nat) (s : ByteArray) (k F : Nat) (i : Nat) (p : Int) (W : World) : Prop :=
 IB w b r s W ∧ Boxed W (b + 5) 3 (.int .i64 p) ∧ i < 512 ∧ p < (s.size : Int) ∧ ∃ (A : Option Addr) (n c : Nat), Blk W (b + 3) 106 #[.bool true, .string ⟨#[]⟩, .slice A n c] ∧ Blk W r 193 #[.int .i64 ((12 - k : Nat) : Int), .int .i64 0] ∧
  IOk (itemF k s.data.toList) s.size F b (.slice A n c) i p W
def IX (w : World) (b r : Nat) (s : ByteArray) (k F ex : Nat) (c : Code) (W : World) : Prop :=
 c = .exit ex ∧ IB w b r s W ∧ ∃ (E : Int) (A : Option Addr) (n cp : Nat), E ≠ 0 ∧ Blk W (b + 3) 106 #[.bool true, .string ⟨#[]⟩, .slice A n cp] ∧ Blk W r 193 #[.int .i64 ((12 - k : Nat) : Int), .int .i64 E] ∧
  itemsF (itemF k s.data.toList) s.size 513 0 F = .error E
theorem IB.stays {w : World} {b r : Nat} {s : ByteArray} {W W' : World} (h : IB w b r s W) {X : Nat → Prop} (hs : Stays X W W') (hg : w.grownBy W' (some r)) (hx : ∀ g, b ≤ g → g ≤ b + 7 → g ≠ b + 3 → g ≠ b + 5 → ¬ X g) : IB w b r s W' :=
 ⟨hg, hs.boxed h.q0 (hx _ (by omega) (by omega) (by omega) (by omega)), hs.boxed h.q1 (hx _ (by omega) (by omega) (by omega) (by omega)), hs.blk h.q2 (hx _ (by omega) (by omega) (by omega) (by omega)), hs.boxed h.q4 (hx _ (by omega) (by omega) (by omega) (by omega)), hs.boxed h.q6 (hx _ (by omega) (by omega) (by omega) (by omega)), hs.boxed h.q7 (hx _ (by omega) (by omega) (by omega) (by omega))⟩
theorem IOk.stays {rd : Nat → Except Int (Itm × Nat)} {en F b : Nat} {v : Value} {i : Nat} {p : Int} {W W' : World} (h : IOk rd en F b v i p W) (hs : Stays (fun _ => False) W W') : IOk rd en F b v i p W' := by
 obtain ⟨p', xs, vs, h1, h2, h3, h4, h5, h6⟩ := h
 exact ⟨p', xs, vs, h1, h2, h3, hs.own h4 (fun _ _ => id), fun j hj => hs.sub (h5 j hj) (fun _ _ => id), h6⟩
theorem stays_own {w : World} {r B : Nat} (hB : w.heap.size ≤ B) {W W' : World} {row : Option Nat} (h : w.grownBy W (some r)) (hg : W.grownBy W' row) (hr : ∀ q, row = some q → B ≤ q ∧ ∃ o : Obj, W.heap[q]? = some o ∧ o.isCells = false) : Stays (fun _ => False) W W' ∧ w.grownBy W' (some r) :=
 ⟨Stays.of_grown hg (fun q e => (hr q e).2), grown_self h hg (fun q e => .inr (Nat.le_trans hB (hr q e).1))⟩
theorem II.own {w : World} {b r : Nat} {s : ByteArray} {k F B : Nat} (hB : w.heap.size ≤ B) : OwnFrom B (fun x : Nat × Int => II w b r s k F x.1 x.2) := by
 rintro ⟨i, p⟩ W W' row ⟨h1, h2, h3, E, A, n, c, h4, h5, h6⟩ hg hr
 obtain ⟨hs, hw⟩ := stays_own hB h1.hg hg hr
 refine ⟨h1.stays hs hw (fun _ _ _ _ _ => id), hs.boxed h2 id, h3, E, A, n, c, hs.blk h4 id, hs.blk h5 id, ?_⟩
 rcases h6 with ⟨e, h6⟩ | h6
 ·exact .inl ⟨e, h6.stays hs⟩
 ·exact .inr h6
theorem II2.own {w : World} {b r : Nat} {s : ByteArray} {k F B : Nat} (hB : w.heap.size ≤ B) : OwnFrom B (fun x : Nat × Int => II2 w b r s k F x.1 x.2) := by
 rintro ⟨i, p⟩ W W' row ⟨h1, h2, h3, h3', A, n, c, h4, h5, h6⟩ hg hr
 obtain ⟨hs, hw⟩ := stays_own hB h1.hg hg hr
 exact ⟨h1.stays hs hw (fun _ _ _ _ _ => id), hs.boxed h2 id, h3, h3', A, n, c, hs.blk h4 id, hs.blk h5 id, h6.stays hs⟩
theorem IX.own {w : World} {b r : Nat} {s : ByteArray} {k F ex B : Nat} (hB : w.heap.size ≤ B) (c : Code) : OwnFrom B (fun _ : Unit => IX w b r s k F ex c) := by
 rintro _ W W' row ⟨h0, h1, E, A, n, cp, hE, h4, h5, h6⟩ hg hr
 obtain ⟨hs, hw⟩ := stays_own hB h1.hg hg hr
 exact ⟨h0, h1.stays hs hw (fun _ _ _ _ _ => id), E, A, n, cp, hE, hs.blk h4 id, hs.blk h5 id, h6⟩
theorem itemsF_err {rd : Nat → Except Int (Itm × Nat)} {en F i p : Nat} {xs : List Itm} {E : Int} (hi : i < 512) (hp : p < en) (h : itemsF rd en 513 0 F = prepR xs (itemsF rd en (513 - i) i p)) (he : rd p = .error E) : itemsF rd en 513 0 F = .error E := by
 rw [h, show 513 - i = (512 - i) + 1 by omega, itemsF, if_pos hp, if_neg (by omega), he]
 rfl
theorem itemsF_ok {rd : Nat → Except Int (Itm × Nat)} {en F i p q : Nat} {xs : List Itm} {x : Itm} (hi : i < 512) (hp : p < en) (h : itemsF rd en 513 0 F = prepR xs (itemsF rd en (513 - i) i p)) (he : rd p = .ok (x, q)) : itemsF rd en 513 0 F = prepR (xs ++ [x]) (itemsF rd en (513 - (i + 1)) (i + 1) q) := by
 rw [h, show 513 - i = (513 - (i + 1)) + 1 by omega, itemsF, if_pos hp, if_neg (by omega), he]
 show prepR xs (match itemsF rd en (513 - (i + 1)) (i + 1) q with | .error e => .error e | .ok ys => .ok (x :: ys)) = _
 cases itemsF rd en (513 - (i + 1)) (i + 1) q with
 | error e => rfl
 | ok ys => simp [prepR]
theorem itemsF_many {rd : Nat → Except Int (Itm × Nat)} {en F p : Nat} {xs : List Itm} (hp : p < en) (h : itemsF rd en 513 0 F = prepR xs (itemsF rd en (513 - 512) 512 p)) : itemsF rd en 513 0 F = .error 5 := by
 rw [h, show 513 - 512 = 0 + 1 from rfl, itemsF, if_pos hp, if_pos (by omega)]
 rfl
theorem itemsF_end {rd : Nat → Except Int (Itm × Nat)} {en F i p : Nat} {xs : List Itm} (hi : i ≤ 512) (hp : ¬ p < en) (h : itemsF rd en 513 0 F = prepR xs (itemsF rd en (513 - i) i p)) : itemsF rd en 513 0 F = .ok xs := by
 rw [h, show 513 - i = (512 - i) + 1 by omega, itemsF, if_neg hp]
 simp [prepR]
theorem read_step {w : World} {b r : Nat} {s : ByteArray} {k F i : Nat} {p : Int} {W : World} (hC : ItemC k) (hs : s.size ≤ 65536) (hb : w.heap.size = b) (hrb : r < b) (d : Nat) (h : II2 w b r s k F i p W) :
  Calls Tryz.prog 191 #[.int .i64 p, .pointer (some ⟨b + 4, 0, none⟩), .pointer (some ⟨b + 1, 0, none⟩), .pointer (some ⟨b + 3, 0, none⟩)] W fun e W' => ∃ p', e = .returned (.int .i64 p') ∧ Boxed W' (b + 5) 3 (.int .i64 p) ∧ KeepsFrom d W W' ∧ II w b r s k F (i + 1) p' (W'.setCell ⟨b + 5, 0, none⟩ (.int .i64 p')) := by
 obtain ⟨h1, h2, h3, h3', A, n, c, h4, h5, p', xs, vs, rfl, hx, hv, hown, hsub, hspec⟩ := h
 have hsz : b + 7 < W.heap.size := h1.q7.lt
 have hpe : p' < s.size := by omega
 have hown' := hown
 obtain ⟨A', c', hsl⟩ := own_slice3 hown
 obtain ⟨rfl, rfl, rfl⟩ : A = A' ∧ n = i ∧ c = c' := by simpa using hsl
 have hlt : ∀ g, (Value.slice A n c).ownBlock = some g → b + 8 ≤ g ∧ g < W.heap.size := fun g e => ⟨ownBlock_ge hown e, own_ltB hown e⟩
 refine (read_any r (b + 4) (b + 1) (b + 3) (b + 8) n s (p' : Int) (.slice A n c) (itemsV xs vs) (ItemTail k s.data.toList p' r W) W h1.q4 h1.q1 h4 hown (by omega) (by omega) (by omega) (by omega) (by omega) (hC s p' r W hs (by omega) h5)).mono ?_
 rintro e W' ⟨l, b', sv, tz, W1, v', rfl, hpost, hg, hkw, hB7, hown2, hob⟩
 have hz1 := hg.size
 obtain ⟨g', cap', rfl⟩ := ownsRow_succ hown2
 have hgb : b + 8 ≤ g' := ownBlock_ge hown2 rfl
 have keep : ∀ g, g < W.heap.size → g ≠ r → g ≠ b + 3 → (Value.slice A n c).ownBlock ≠ some g → W'.heap[g]? = W.heap[g]? := fun g hg1 hg2 hg3 hg4 =>
  (hkw.block g ⟨by omega, hg3, hg4⟩).trans (hg.block g hg1 (by simpa using hg2))
 have hbx : Boxed W' (b + 5) 3 (.int .i64 (p' : Int)) := (keep (b + 5) (by omega) (by omega) (by omega) (fun e => by have := (hlt _ e).1; omega)).trans h2
 refine ⟨tz, rfl, hbx, ⟨Nat.le_trans hz1 hkw.size, fun g o _ ho hc => ?_⟩, ?_⟩
 ·refine (keep g (Array.getElem?_eq_some_iff.1 ho).1 ?_ ?_ ?_).trans ho
  ·rintro rfl; rw [show W.heap[g]? = _ from h5] at ho; cases ho; cases hc
  ·rintro rfl; rw [show W.heap[b + 3]? = _ from h4] at ho; cases ho; cases hc
  ·intro e
   rcases hown.2 with ⟨hv1, _⟩ | ⟨q, cap, cur, hv1, _, hh, _⟩
   ·rw [hv1] at e; cases e
   ·rw [hv1] at e
    have : q = g := by simpa [Value.ownBlock] using e
    subst this
    rw [hh] at ho; cases ho; cases hc
 have hst : Stays (fun g => g = r ∨ g = b + 3 ∨ g = b + 5 ∨ (Value.slice A n c).ownBlock = some g) W (W'.setCell ⟨b + 5, 0, none⟩ (.int .i64 tz)) := by
  intro g o ho _ hx
  have hx' : g ≠ r ∧ g ≠ b + 3 ∧ g ≠ b + 5 ∧ (Value.slice A n c).ownBlock ≠ some g := ⟨fun e => hx (.inl e), fun e => hx (.inr (.inl e)), fun e => hx (.inr (.inr (.inl e))), fun e => hx (.inr (.inr (.inr e)))⟩
  exact (Below.heap_setCell W' ⟨b + 5, 0, none⟩ _ g (by show g ≠ b + 5; exact hx'.2.2.1)).trans ((keep g (Array.getElem?_eq_some_iff.1 ho).1 hx'.1 hx'.2.1 hx'.2.2.2).trans ho)
 have hst1 : Stays (fun g => g = b + 3 ∨ g = b + 5 ∨ (Value.slice A n c).ownBlock = some g) W1 (W'.setCell ⟨b + 5, 0, none⟩ (.int .i64 tz)) := by
  intro g o ho _ hx
  have hx' : g ≠ b + 3 ∧ g ≠ b + 5 ∧ (Value.slice A n c).ownBlock ≠ some g := ⟨fun e => hx (.inl e), fun e => hx (.inr (.inl e)), fun e => hx (.inr (.inr e))⟩
  exact (Below.heap_setCell W' ⟨b + 5, 0, none⟩ _ g (by show g ≠ b + 5; exact hx'.2.1)).trans ((hkw.block g ⟨(Array.getElem?_eq_some_iff.1 ho).1, hx'.1, hx'.2.2⟩).trans ho)
 have hgw : w.grownBy (W'.setCell ⟨b + 5, 0, none⟩ (.int .i64 tz)) (some r) := by
  have h0 := h1.hg
  refine ⟨(hkw.os.trans hg.os).trans h0.os, (hkw.tape.trans hg.tape).trans h0.tape, (hkw.output.trans hg.output).trans h0.output, ?_, fun g hg1 hg2 => ?_⟩
  ·have := h0.size; have := hkw.size
   simp [World.setCell]; omega
  ·have hgr : g ≠ r := by simpa using hg2
   exact (Below.heap_setCell W' ⟨b + 5, 0, none⟩ _ g (by show g ≠ b + 5; omega)).trans ((keep g (by omega) hgr (by omega) (fun e => by have := (hlt _ e).1; omega)).trans (h0.block g hg1 hg2))
 have hown3 := own_far hown2 (p := ⟨b + 5, 0, none⟩) (by show g' ≠ b + 5; omega) (.int .i64 tz)
 have hb7 := hB7.far (p := ⟨b + 5, 0, none⟩) (by show b + 3 ≠ b + 5; omega) (.int .i64 tz)
 have hIB := h1.stays hst hgw (fun g g1 g2 g3 g4 => by
  rintro (e | e | e | e)
  ·omega
  ·exact g3 e
  ·exact g4 e
  ·have := (hlt _ e).1; omega)
 have hnr : ¬ (r = b + 3 ∨ r = b + 5 ∨ (Value.slice A n c).ownBlock = some r) := by
  rintro (e | e | e)
  ·omega
  ·omega
  ·have := (hlt _ e).1; omega
 rcases hpost with ⟨x, q, hi, rfl, rfl, rfl, hbr, hxs⟩ | ⟨E, hi, hE, hbr⟩
 ·refine ⟨hIB, hbx.set _, by omega, 0, _, _, _, hb7, hst1.blk hbr hnr, .inl ⟨rfl, q, xs ++ [x], vs ++ [sv], rfl, by simp [hx], by simp [hv], ?_, fun j hj => ?_, itemsF_ok h3 hpe hspec hi⟩⟩
  ·rw [itemsV_snoc xs vs (by omega)]; exact hown3
  ·have hvo : ∀ g, g < W1.heap.size → (Value.slice A n c).ownBlock ≠ some g → (Value.slice (some ⟨g', 0, none⟩) (n + 1) cap').ownBlock ≠ some g := by
    intro g hg1 hg2 e
    rcases hob with e2 | ⟨y, e2, hy⟩
    ·exact hg2 (e2.symm.trans e)
    ·rw [e2] at e; injection e with e; omega
   by_cases hjn : j < n
   ·rw [List.getD_eq_getElem?_getD, List.getElem?_append_left (by omega), ← List.getD_eq_getElem?_getD, List.getD_eq_getElem?_getD (l := vs ++ [sv]), List.getElem?_append_left (by omega), ← List.getD_eq_getElem?_getD]
    refine (hst.sub (hsub j hjn).lt (fun g hS => ?_)).weak fun g hS => ⟨hS.1.1, hvo g (by omega) hS.1.2⟩
    rintro (e | e | e | e)
    ·omega
    ·omega
    ·omega
    ·exact hS.1.2 e
   ·obtain rfl : j = n := by omega
    rw [List.getD_eq_getElem?_getD, List.getElem?_append_right (by omega), List.getD_eq_getElem?_getD (l := vs ++ [sv]), List.getElem?_append_right (by omega), hx, hv, Nat.sub_self]
    have hno : ∀ g, W.heap.size ≤ g → (Value.slice A j c).ownBlock ≠ some g := fun g hg1 e => by have := (hlt _ e).2; omega
    refine (hst1.sub hxs.lt (fun g hS => ?_)).weak fun g hS => ⟨by omega, hvo g hS.2 (hno g hS.1)⟩
    rintro (e | e | e)
    ·omega
    ·omega
    ·exact hno g hS.1 e
 ·exact ⟨hIB, hbx.set _, by omega, E, _, _, _, hb7, hst1.blk hbr hnr, .inr ⟨hE, itemsF_err h3 hpe hspec hi⟩⟩
attribute [local go_sem] Oper.semAt_some
theorem load_item {w : World} {g : Nat} {a b c : Value} (hg : Blk w g 106 #[a, b, c]) : (loadVar 106 ⟨g, 0, none⟩).run Tryz.prog w = .ok (.agg #[a, b, c]) w :=
 run_loadVar_row w g 106 106 _ (0, 0) _ hg Tryz.underlying106 rfl (by kernel_rfl)
theorem deep_down (n : Nat) (u : FrameMode) (W : World) (b r k : Nat) (E : Int) (hk : k ≤ 11) (q0 : Boxed W b 191 (.pointer (some ⟨r, 0, none⟩))) (hr : Blk W r 193 #[.int .i64 ((12 - k : Nat) : Int), .int .i64 E]) :
  CallsDIn Fence.wide n Tryz.prog 190 #[.pointer (some ⟨b, 0, none⟩)] u W fun e u' W' => u' = u ∧ (∃ v, e = .returned v) ∧ W' = W.setCell ⟨r, 0, none⟩ (.int .i64 ((11 - k : Nat) : Int)) := by
 refine callsDIn_of_wp (R := fun e W' => (∃ v, e = .returned v) ∧ W' = W.setCell ⟨r, 0, none⟩ (.int .i64 ((11 - k : Nat) : Int))) Tryz.func190 rfl trivial ?_ rfl
 simp only [Tryz.ntmps190, List.size_toArray, List.length_cons, List.length_nil, Nat.reduceAdd, Nat.reduceSub, Array.replicate_succ, Array.replicate_zero, List.push_toArray, List.append_toArray, List.nil_append, List.cons_append]
 have c0 := q0.cell
 have c1 := hr.cell 0; have f1 := hr.frozen 0
 simp only [List.getElem?_toArray, List.getElem?_cons_zero] at c1
 have v1 : IntKind.i64.wrap (((12 - k : Nat) : Int) - 1) = ((11 - k : Nat) : Int) := by rw [IntWalk.i64_in _ (by omega)]; omega
 have v2 : ((12 - k : Nat) : Int) - 1 = ((11 - k : Nat) : Int) := by omega
 gi_wp2_with fail
 go_end0
 exact ⟨⟨_, rfl⟩, rfl⟩
theorem items_leave {R : Ending → World → Prop} {W : World} {tmps : Array Value} {D b r k : Nat} {E : Int} {A : Option Addr} {n c : Nat} (hk : k ≤ 11) (hrb : r < b) (hD : b + 8 ≤ D) (htm : tmps.getD 6 undef = .pointer (some ⟨b + 2, 0, none⟩))
  (q0 : Boxed W b 191 (.pointer (some ⟨r, 0, none⟩))) (q2 : Blk W (b + 2) 106 #[.bool true, .string ⟨#[]⟩, .slice A n c]) (hr : Blk W r 193 #[.int .i64 ((12 - k : Nat) : Int), .int .i64 E]) (hK : W.heap[D]? = some (.deferred (some [])))
  (hR : ∀ W', Blk W' r 193 #[.int .i64 ((11 - k : Nat) : Int), .int .i64 E] → KeepsW (fun j => j ≠ r ∧ j ≠ D) W W' → R (.returned (.agg #[.bool true, .string ⟨#[]⟩, .slice A n c])) W') :
  LeavesInM Fence.wide 6 Tryz.prog Tryz.f174 tmps R [{ target := .collected D, args := #[] }, { target := .fn (.func 190) #[.pointer (some ⟨b, 0, none⟩)], args := #[] }] .returning W := by
 refine ⟨by simp, .inl ⟨_, _, rfl, run_takeDeferred hK, ?_⟩⟩
 obtain ⟨V, hV⟩ : ∃ V, W.putObj D (.deferred none) = V := ⟨_, rfl⟩
 have hg : W.grownBy V (some D) := by rw [← hV]; exact grownBy_putObj' W D _
 have hne : ∀ g, g < D → some g ≠ some D := fun g h e => by injection e with e; omega
 have q0' : Boxed V b 191 (.pointer (some ⟨r, 0, none⟩)) := q0.kept hg (by simp; omega)
 have q2' := q2.grown hg (hne (b + 2) (by omega))
 have hr' := hr.grown hg (hne r (by omega))
 rw [hV]
 refine ⟨by simp, .inr ⟨fun _ => by omega, .func 190, #[.pointer (some ⟨b, 0, none⟩)], 190, #[.pointer (some ⟨b, 0, none⟩)], rfl, ?_, fun _ _ => trivial, ?_⟩⟩
 ·simp [invoke, go_sem]
 ·refine (deep_down (6 - 1) .returning V b r k E hk q0' hr').mono ?_
  rintro e u' W' ⟨rfl, ⟨v, rfl⟩, rfl⟩
  have q2w := q2'.far (p := ⟨r, 0, none⟩) (by show b + 2 ≠ r; omega) (.int .i64 ((11 - k : Nat) : Int))
  have hrw := hr'.set_ 0 (.int .i64 ((11 - k : Nat) : Int))
  simp only [List.setIfInBounds_toArray, List.set_cons_zero] at hrw
  refine ⟨_, results_cell1 rfl _ _ _ _ htm (load_item q2w), hR _ hrw ⟨hg.os, hg.tape, hg.output, by simpa [World.setCell] using hg.size, fun j hj => ?_⟩⟩
  exact (Below.heap_setCell V ⟨r, 0, none⟩ _ j hj.1).trans (by rw [← hV]; exact World.putObj_heap_other hj.2)
theorem items_close {w : World} {b r : Nat} {s : ByteArray} {k F i D : Nat} {p E : Int} {W W' : World} {A : Option Addr} {n c : Nat} (hb : w.heap.size = b) (hrb : r < b) (hD : b + 8 ≤ D) (h1 : IB w b r s W) (hdo : W.heap[D]? = some (.deferred (some [])))
  (hE : (E = 0 ∧ IOk (itemF k s.data.toList) s.size F b (.slice A n c) i p W ∧ i ≤ 512 ∧ (s.size : Int) ≤ p) ∨ (E ≠ 0 ∧ itemsF (itemF k s.data.toList) s.size 513 0 F = .error E))
  (hkw : KeepsW (fun j => j ≠ r ∧ j ≠ D ∧ j ≠ b + 2) W W') (hbr : Blk W' r 193 #[.int .i64 ((11 - k : Nat) : Int), .int .i64 E]) :
  ∃ sA sn sc, Ending.returned (.agg #[.bool true, .string ⟨#[]⟩, .slice A n c]) = Ending.returned (.agg #[.bool true, .string .empty, .slice sA sn sc]) ∧ w.grownBy W' (some r) ∧
   ((∃ xs, itemsF (itemF k s.data.toList) s.size 513 0 F = .ok xs ∧ Blk W' r 193 #[.int .i64 ((11 - k : Nat) : Int), .int .i64 0] ∧ SubV (fun g => w.heap.size ≤ g) W' xs (.slice sA sn sc)) ∨
    (∃ E, itemsF (itemF k s.data.toList) s.size 513 0 F = .error E ∧ E ≠ 0 ∧ Blk W' r 193 #[.int .i64 ((11 - k : Nat) : Int), .int .i64 E])) := by
 have h0 := h1.hg
 refine ⟨A, n, c, rfl, ⟨hkw.os.trans h0.os, hkw.tape.trans h0.tape, hkw.output.trans h0.output, Nat.le_trans h0.size hkw.size, fun g g1 g2 => (hkw.block g ⟨by simpa using g2, by omega, by omega⟩).trans (h0.block g g1 g2)⟩, ?_⟩
 rcases hE with ⟨rfl, ⟨p', xs, vs, rfl, hx, hv, hown, hsub, hspec⟩, hi, hp⟩ | ⟨hE, hspec⟩
 ·refine .inl ⟨xs, itemsF_end hi (by omega) hspec, hbr, ?_⟩
  have hst : Stays (fun g => g = r ∨ g = b + 2) W W' := by
   intro g o ho hc hxx
   refine (hkw.block g ⟨fun e => hxx (.inl e), ?_, fun e => hxx (.inr e)⟩).trans ho
   rintro rfl
   rw [hdo] at ho; cases ho; cases hc
  obtain ⟨A', c', hsl⟩ := own_slice3 hown
  obtain ⟨rfl, rfl, rfl⟩ : A = A' ∧ n = i ∧ c = c' := by simpa using hsl
  subst hx
  refine SubV.of_own (base := b + 8) (by omega) (hst.own hown fun g hg => ?_) (fun j hj => (hst.sub (hsub j hj) fun g hS => ?_).weak fun g hS => ?_) fun g hg => ?_
  ·have := ownBlock_ge hown hg
   rintro (e | e) <;> omega
  ·rintro (e | e) <;> omega
  ·omega
  ·have := ownBlock_ge hown hg
   omega
 ·exact .inr ⟨E, hspec, hE, hbr⟩
end Go.Proofs.YtgclnikdkfpflaaGreatDoor
