/- Merged: CoL, CoM, Var, RowB, BitsP. -/
import Derived.Test.YtgclnikdkfpflaaGreatDoorMt1
import Derived.Test.YtgclnikdkfpflaaGreatDoorMt2
import Derived.Test.YtgclnikdkfpflaaGreatDoorMt9
import Derived.Test.YtgclnikdkfpflaaGreatDoorMt11
import Derived.Test.YtgclnikdkfpflaaGreatDoorMt12
namespace Go.Proofs.YtgclnikdkfpflaaGreatDoor
open Go.RowKit Go.Shelf
open List renaming set_cons_zero → jz, set_cons_succ → js, setIfInBounds_toArray → jb
set_option linter.unusedVariables false
set_option linter.unusedSimpArgs false
set_option maxRecDepth 100000
set_option maxHeartbeats 16000000
section
variable {P : Program}
theorem wpList_enter {ops : Array Oper} {rest : List Oper} {op : Oper} {a : Act} {w : World} {Q : Exit → Act → World → Prop} (hgd : op.guard = none) (f : FuncId) (args : Array Value) (h : (execOp a.eval op).run P w = .ok (.enter f args) w)
  (hc : Calls P f args w fun e w' => ∃ v, e = .returned v ∧ wpList P ops Q rest (a.put op.dst v) w') : wpList P ops Q (op :: rest) a w :=
 wpList_plain hgd fun K hK => by
  unfold Oper.wp
  rw [h]
  refine hc.mono fun e w' he => ?_
  obtain ⟨v, rfl, hk⟩ := he
  exact hK _ _ hk
theorem exec_moveC {a : Act} {o : Oper} {W : World} (x : Operand) (ho : o.op = .move x) (v : Value) (hx : a.eval x = v) : (execOp a.eval o).run P W = .ok (.value v) W := by
 unfold execOp
 simp only [ho, hx]
 rfl
end
theorem zm {P : Program} {ops : Array Oper} {rest : List Oper} {op : Oper} {a : Act} {w : World} {Q : Exit → Act → World → Prop} (n : Nat) (v : Value) (hx : a.eval (.tmp n) = v) (hk : wpList P ops Q rest (a.put op.dst v) w) (hg : op.guard = none := by rfl) (ho : op.op = .move (.tmp n) := by rfl) : wpList P ops Q (op :: rest) a w :=
 wpList_value hg v (exec_moveC (.tmp n) ho v hx) hk
theorem infoB : (Tryz.prog.info? 4).map (fun i => (i.zero, i.size, i.bytes)) = some (some (.bool false), 1, 1) := by kernel_rfl
theorem infoN : (Tryz.prog.info? 23).map (fun i => (i.zero, i.size, i.bytes)) = some (some (.int .u64 0), 1, 8) := by kernel_rfl
theorem infoS : (Tryz.prog.info? 9).map (fun i => (i.zero, i.size, i.bytes)) = some (some (.string .empty), 1, 16) := by kernel_rfl
def colL {α : Type} (vf : TxV → α) (pf : TxV → Bool) (ls : List TxV) : List α := (ls.filter pf).map vf
theorem colL_succ {α : Type} (vf : TxV → α) (pf : TxV → Bool) (ls : List TxV) (k : Nat) (hk : k < ls.length) (x : TxV) (hx : ls.getD k TxV.zero = x) : colL vf pf (ls.take (k + 1)) = if pf x = true then colL vf pf (ls.take k) ++ [vf x] else colL vf pf (ls.take k) := by
 unfold colL
 rw [List.getD_eq_getElem?_getD, List.getElem?_eq_getElem hk] at hx
 rw [List.take_add_one, List.getElem?_eq_getElem hk, List.filter_append, List.map_append]
 have hx : ls[k] = x := hx
 rw [hx]
 by_cases h : pf x = true
 ·rw [if_pos h]; simp [h]
 ·rw [if_neg h]; simp [h]
theorem colL_len {α : Type} (vf : TxV → α) (pf : TxV → Bool) (ls : List TxV) (k : Nat) : (colL vf pf (ls.take k)).length ≤ k := by
 unfold colL
 rw [List.length_map]
 exact Nat.le_trans (List.length_filter_le _ _) (by simp; omega)
theorem columnB_any (f : FuncId) (vf : TxV → Bool) (pf : TxV → Bool) (hf : ∀ (V : World) (v : Value), (callFunc f #[v]).run Tryz.prog V = .ok (.enter f #[v]) V) (B : Nat) (A : Option Addr) (n c : Nat) (ls : List TxV) (w : World) (h : TxsR B w ls A n) (hB : B ≤ w.heap.size) (hn : n ≤ 100000)
  (hF : ∀ x ∈ ls, ∀ sa sb (V : World), TxIn B V x sa sb → B ≤ V.heap.size → Calls Tryz.prog f #[.agg (txC x sa sb)] V fun e w' => e = .returned (.tuple #[Value.bool (vf x), .bool (pf x)]) ∧ V.grownBy w' none) :
  Calls Tryz.prog 22 #[.slice A n c, .func (.func f) #[] #[]] w fun e w' => ∃ v, e = .returned v ∧ w'.ownsRow w.heap.size 4 1 v (colL vf pf ls).length ((colL vf pf ls).map (Value.bool)) ∧ w.grownBy w' none := by
 have HH := Lib.hid h; have HB := Lib.hid hB; have HL := Lib.hid h.1; have HF := Lib.hid hF; have HFF := Lib.hid hf
 obtain ⟨i0, hi, hz0, hz1, hz2⟩ := info_parts infoB
 clear h hB hF hf
 go_enter Tryz.func22, Tryz.ntmps22
 go_wp2_with fail
 go_loopw [5, 12] (fun v i wr => ∃ k : Nat, i = .int .i64 k ∧ k ≤ n ∧ wr.ownsRow w.heap.size 4 1 v (colL vf pf (ls.take k)).length ((colL vf pf (ls.take k)).map (Value.bool)) ∧ w.grownBy wr none) (fun _ i _ => n - (intOf i).toNat)
 case atStart => exact ⟨0, rfl, by omega, World.ownsRow_nil _ _ _ _, World.grownBy.refl _ _⟩
 case round =>
  obtain ⟨k, rfl, hk, hown, hg⟩ := hrel
  obtain ⟨A', cc, rfl, _⟩ := own_slice hown
  have HGG := Lib.hid hg
  by_cases hlt : k < n
  ·obtain ⟨g, off, sa, sb, x, rfl, hx, mx, hcx, hin⟩ := (HH.out.grown hg HB.out).at_ hlt
   obtain ⟨⟨pa, xa, rfl, hacc⟩, ⟨pb, xb, rfl, haut⟩, la, lb⟩ := id hin
   have hlen := colL_len vf pf ls k
   have hnx := colL_succ vf pf ls k (by rw [HL.out]; exact hlt) x hx
   obtain ⟨ys, hys⟩ : ∃ ys, colL vf pf (ls.take k) = ys := ⟨_, rfl⟩
   rw [hys] at hown hnx hlen ⊢
   have q1 : (k : Int) < (n : Int) := by omega
   have q2 : (0 : Int) ≤ (k : Int) := by omega
   have hB2 := Nat.le_trans HB.out hg.size
   have HCX := Lib.hid hcx
   have HNX := Lib.hid hnx
   have HCALL := Lib.hid (fun (V : World) (hV : wr.grownBy V none) => HF.out x mx (.slice pa x.acc.length xa) (.slice pb x.auths.length xb) V (hin.grown hV hB2) (Nat.le_trans hB2 hV.size))
   have HONE1 := Lib.hid (txC_one x pa pb x.acc.length xa x.auths.length xb)
   have HSZ := Lib.hid (show (txC x (.slice pa x.acc.length xa) (.slice pb x.auths.length xb)).size = 36 from rfl)
   clear hx hg hcx hin hacc haut la lb mx hB2 hnx hys
   go_upto_region 4 with (fail)
   refine wp_region_list ?_
   iterate 3 go_step
   refine wp_load_mid 42 (.tmp 14) rfl g (off + k * 36) rfl (txL x (.slice pa x.acc.length xa) (.slice pb x.auths.length xb)) _ HCX.out Tryz.underlying42 rfl (by kernel_rfl) ?_
   clear HCX
   rw [show (txL x (.slice pa x.acc.length xa) (.slice pb x.auths.length xb)).toArray = txC x (.slice pa x.acc.length xa) (.slice pb x.auths.length xb) from rfl]
   generalize txC x (.slice pa x.acc.length xa) (.slice pb x.auths.length xb) = ct at *
   have hga := only_alloc (World.grownBy.refl wr none) (.cells ct 42)
   have hbk := Blk.new wr 42 ct
   iterate 5 go_step
   refine wp_store_row 42 (.tmp 7) (.tmp 15) rfl wr.heap.size ct rfl rfl 42 txZ (Blk.new wr _ txZ) ((show (Tryz.prog.info? 42).map (·.size) = some 36 by kernel_rfl).trans (congrArg some HSZ.out.symm)) (by rw [HSZ.out]; rfl) HONE1.out ?_
   rw [World.setRow_alloc_new]
   obtain ⟨g6, hg6⟩ : ∃ g, wr.heap.size = g := ⟨_, rfl⟩
   rw [hg6] at hbk ⊢
   clear hg6
   have HGA := Lib.hid hga
   have HCALL2 := Lib.hid (HCALL.out _ hga)
   have hown1 := hown.kept hga (Classical.em _)
   generalize wr.alloc (.cells ct 42) = w5 at *
   have HBK := Lib.hid hbk
   clear hga hbk HCALL HONE1 hown
   go_upto_region 5 with (fail)
   refine wp_region_list ?_
   refine zm 1 (.func (.func f) #[] #[]) rfl ?_
   simp only [Act.put, jb, jz, js]
   refine wpList_value rfl (.agg ct) (exec_load_rowT rfl rfl 42 ct _ HBK.out Tryz.underlying42 rfl ((show (Tryz.prog.info? 42).map (·.size) = some 36 by kernel_rfl).trans (congrArg some HSZ.out.symm))) ?_
   simp only [Act.put, jb, jz, js]
   refine wpList_enter rfl f #[.agg ct] (exec_callv1 f (.tmp 17) (.tmp 18) _ rfl rfl _ rfl (HFF.out _ _)) (HCALL2.out.mono ?_)
   rintro e w6 ⟨rfl, hg6⟩
   refine ⟨_, rfl, ?_⟩
   simp only [Act.put, jb, jz, js]
   have hown2 := hown1.kept hg6 (Classical.em _)
   have HG6 := Lib.hid (grown_self (grown_self HGG.out HGA.out (by simp)) hg6 (by simp))
   obtain ⟨vx, hvx⟩ : ∃ v, vf x = v := ⟨_, rfl⟩
   obtain ⟨b, hb⟩ : ∃ b, pf x = b := ⟨_, rfl⟩
   rw [hvx, hb]
   rw [hvx, hb] at HNX
   clear hg6 HCALL2 HGA hown1 hvx hb HBK
   have hsz2 := HG6.out.size
   cases b with
   | true =>
    go_wp2_with (at_builtin; refine wpList_append_own _ rfl _ _ 47 rfl w.heap.size 4 i0 (.bool false) 1 1 Tryz.underlying47 hi hz0 hz1 hz2 rfl (by decide) _ _ _ rfl (hown2.alloc _) ⟨w6.heap.size, 0, none⟩ 1 1 [Value.bool vx] rfl rfl (cell_one_new _ _ _) (by simp [Value.oneCell']) (by simp only [maxLen]; omega) (by omega) (by simp; omega) ?_; intro v' w8 hown4 hgrow _)
    obtain ⟨g', cap', rfl⟩ := ownsRow_succ hown4
    have hg8 : w.grownBy w8 none := grown_self (only_alloc HG6.out _) hgrow (fun j hj => .inr (own_ge hown2 hj))
    go_wp2_with fail
    go_roundw
    case rel => exact ⟨k + 1, by go_num, by omega, by rw [HNX.out, if_pos rfl]; simpa using hown4, hg8⟩
    case measure => simp [intOf]; omega
   | false =>
    go_wp2_with fail
    go_roundw
    case rel => exact ⟨k + 1, by go_num, by omega, by rw [HNX.out, if_neg (by simp)]; exact hown2, HG6.out⟩
    case measure => simp [intOf]; omega
  ·obtain rfl : k = n := by omega
   have ht : ls.take k = ls := List.take_of_length_le (by have := HL.out; omega)
   rw [ht] at hown
   have hfin : decide ((k : Int) < (k : Int)) = false := by simp
   rw [ht]
   have HOW := Lib.hid hown
   clear hown hg ht
   go_wp2_with fail
   go_ret
   exact ⟨_, rfl, HOW.out, HGG.out⟩
theorem columnS_any (f : FuncId) (vf : TxV → ByteArray) (pf : TxV → Bool) (hf : ∀ (V : World) (v : Value), (callFunc f #[v]).run Tryz.prog V = .ok (.enter f #[v]) V) (B : Nat) (A : Option Addr) (n c : Nat) (ls : List TxV) (w : World) (h : TxsR B w ls A n) (hB : B ≤ w.heap.size) (hn : n ≤ 100000)
  (hF : ∀ x ∈ ls, ∀ sa sb (V : World), TxIn B V x sa sb → B ≤ V.heap.size → Calls Tryz.prog f #[.agg (txC x sa sb)] V fun e w' => e = .returned (.tuple #[Value.string (vf x), .bool (pf x)]) ∧ V.grownBy w' none) :
  Calls Tryz.prog 28 #[.slice A n c, .func (.func f) #[] #[]] w fun e w' => ∃ v, e = .returned v ∧ w'.ownsRow w.heap.size 9 1 v (colL vf pf ls).length ((colL vf pf ls).map (Value.string)) ∧ w.grownBy w' none := by
 have HH := Lib.hid h; have HB := Lib.hid hB; have HL := Lib.hid h.1; have HF := Lib.hid hF; have HFF := Lib.hid hf
 obtain ⟨i0, hi, hz0, hz1, hz2⟩ := info_parts infoS
 clear h hB hF hf
 go_enter Tryz.func28, Tryz.ntmps28
 go_wp2_with fail
 go_loopw [5, 12] (fun v i wr => ∃ k : Nat, i = .int .i64 k ∧ k ≤ n ∧ wr.ownsRow w.heap.size 9 1 v (colL vf pf (ls.take k)).length ((colL vf pf (ls.take k)).map (Value.string)) ∧ w.grownBy wr none) (fun _ i _ => n - (intOf i).toNat)
 case atStart => exact ⟨0, rfl, by omega, World.ownsRow_nil _ _ _ _, World.grownBy.refl _ _⟩
 case round =>
  obtain ⟨k, rfl, hk, hown, hg⟩ := hrel
  obtain ⟨A', cc, rfl, _⟩ := own_slice hown
  have HGG := Lib.hid hg
  by_cases hlt : k < n
  ·obtain ⟨g, off, sa, sb, x, rfl, hx, mx, hcx, hin⟩ := (HH.out.grown hg HB.out).at_ hlt
   obtain ⟨⟨pa, xa, rfl, hacc⟩, ⟨pb, xb, rfl, haut⟩, la, lb⟩ := id hin
   have hlen := colL_len vf pf ls k
   have hnx := colL_succ vf pf ls k (by rw [HL.out]; exact hlt) x hx
   obtain ⟨ys, hys⟩ : ∃ ys, colL vf pf (ls.take k) = ys := ⟨_, rfl⟩
   rw [hys] at hown hnx hlen ⊢
   have q1 : (k : Int) < (n : Int) := by omega
   have q2 : (0 : Int) ≤ (k : Int) := by omega
   have hB2 := Nat.le_trans HB.out hg.size
   have HCX := Lib.hid hcx
   have HNX := Lib.hid hnx
   have HCALL := Lib.hid (fun (V : World) (hV : wr.grownBy V none) => HF.out x mx (.slice pa x.acc.length xa) (.slice pb x.auths.length xb) V (hin.grown hV hB2) (Nat.le_trans hB2 hV.size))
   have HONE1 := Lib.hid (txC_one x pa pb x.acc.length xa x.auths.length xb)
   have HSZ := Lib.hid (show (txC x (.slice pa x.acc.length xa) (.slice pb x.auths.length xb)).size = 36 from rfl)
   clear hx hg hcx hin hacc haut la lb mx hB2 hnx hys
   go_upto_region 4 with (fail)
   refine wp_region_list ?_
   iterate 3 go_step
   refine wp_load_mid 42 (.tmp 14) rfl g (off + k * 36) rfl (txL x (.slice pa x.acc.length xa) (.slice pb x.auths.length xb)) _ HCX.out Tryz.underlying42 rfl (by kernel_rfl) ?_
   clear HCX
   rw [show (txL x (.slice pa x.acc.length xa) (.slice pb x.auths.length xb)).toArray = txC x (.slice pa x.acc.length xa) (.slice pb x.auths.length xb) from rfl]
   generalize txC x (.slice pa x.acc.length xa) (.slice pb x.auths.length xb) = ct at *
   have hga := only_alloc (World.grownBy.refl wr none) (.cells ct 42)
   have hbk := Blk.new wr 42 ct
   iterate 5 go_step
   refine wp_store_row 42 (.tmp 7) (.tmp 15) rfl wr.heap.size ct rfl rfl 42 txZ (Blk.new wr _ txZ) ((show (Tryz.prog.info? 42).map (·.size) = some 36 by kernel_rfl).trans (congrArg some HSZ.out.symm)) (by rw [HSZ.out]; rfl) HONE1.out ?_
   rw [World.setRow_alloc_new]
   obtain ⟨g6, hg6⟩ : ∃ g, wr.heap.size = g := ⟨_, rfl⟩
   rw [hg6] at hbk ⊢
   clear hg6
   have HGA := Lib.hid hga
   have HCALL2 := Lib.hid (HCALL.out _ hga)
   have hown1 := hown.kept hga (Classical.em _)
   generalize wr.alloc (.cells ct 42) = w5 at *
   have HBK := Lib.hid hbk
   clear hga hbk HCALL HONE1 hown
   go_upto_region 5 with (fail)
   refine wp_region_list ?_
   refine zm 1 (.func (.func f) #[] #[]) rfl ?_
   simp only [Act.put, jb, jz, js]
   refine wpList_value rfl (.agg ct) (exec_load_rowT rfl rfl 42 ct _ HBK.out Tryz.underlying42 rfl ((show (Tryz.prog.info? 42).map (·.size) = some 36 by kernel_rfl).trans (congrArg some HSZ.out.symm))) ?_
   simp only [Act.put, jb, jz, js]
   refine wpList_enter rfl f #[.agg ct] (exec_callv1 f (.tmp 17) (.tmp 18) _ rfl rfl _ rfl (HFF.out _ _)) (HCALL2.out.mono ?_)
   rintro e w6 ⟨rfl, hg6⟩
   refine ⟨_, rfl, ?_⟩
   simp only [Act.put, jb, jz, js]
   have hown2 := hown1.kept hg6 (Classical.em _)
   have HG6 := Lib.hid (grown_self (grown_self HGG.out HGA.out (by simp)) hg6 (by simp))
   obtain ⟨vx, hvx⟩ : ∃ v, vf x = v := ⟨_, rfl⟩
   obtain ⟨b, hb⟩ : ∃ b, pf x = b := ⟨_, rfl⟩
   rw [hvx, hb]
   rw [hvx, hb] at HNX
   clear hg6 HCALL2 HGA hown1 hvx hb HBK
   have hsz2 := HG6.out.size
   cases b with
   | true =>
    go_wp2_with (at_builtin; refine wpList_append_own _ rfl _ _ 57 rfl w.heap.size 9 i0 (.string .empty) 1 16 Tryz.underlying57 hi hz0 hz1 hz2 rfl (by decide) _ _ _ rfl (hown2.alloc _) ⟨w6.heap.size, 0, none⟩ 1 1 [Value.string vx] rfl rfl (cell_one_new _ _ _) (by simp [Value.oneCell']) (by simp only [maxLen]; omega) (by omega) (by simp; omega) ?_; intro v' w8 hown4 hgrow _)
    obtain ⟨g', cap', rfl⟩ := ownsRow_succ hown4
    have hg8 : w.grownBy w8 none := grown_self (only_alloc HG6.out _) hgrow (fun j hj => .inr (own_ge hown2 hj))
    go_wp2_with fail
    go_roundw
    case rel => exact ⟨k + 1, by go_num, by omega, by rw [HNX.out, if_pos rfl]; simpa using hown4, hg8⟩
    case measure => simp [intOf]; omega
   | false =>
    go_wp2_with fail
    go_roundw
    case rel => exact ⟨k + 1, by go_num, by omega, by rw [HNX.out, if_neg (by simp)]; exact hown2, HG6.out⟩
    case measure => simp [intOf]; omega
  ·obtain rfl : k = n := by omega
   have ht : ls.take k = ls := List.take_of_length_le (by have := HL.out; omega)
   rw [ht] at hown
   have hfin : decide ((k : Int) < (k : Int)) = false := by simp
   rw [ht]
   have HOW := Lib.hid hown
   clear hown hg ht
   go_wp2_with fail
   go_ret
   exact ⟨_, rfl, HOW.out, HGG.out⟩
theorem columnN_any (f : FuncId) (vf : TxV → Int) (pf : TxV → Bool) (hf : ∀ (V : World) (v : Value), (callFunc f #[v]).run Tryz.prog V = .ok (.enter f #[v]) V) (B : Nat) (A : Option Addr) (n c : Nat) (ls : List TxV) (w : World) (h : TxsR B w ls A n) (hB : B ≤ w.heap.size) (hn : n ≤ 100000)
  (hF : ∀ x ∈ ls, ∀ sa sb (V : World), TxIn B V x sa sb → B ≤ V.heap.size → Calls Tryz.prog f #[.agg (txC x sa sb)] V fun e w' => e = .returned (.tuple #[Value.int .u64 (vf x), .bool (pf x)]) ∧ V.grownBy w' none) :
  Calls Tryz.prog 25 #[.slice A n c, .func (.func f) #[] #[]] w fun e w' => ∃ v, e = .returned v ∧ w'.ownsRow w.heap.size 23 1 v (colL vf pf ls).length ((colL vf pf ls).map (Value.int .u64)) ∧ w.grownBy w' none := by
 have HH := Lib.hid h; have HB := Lib.hid hB; have HL := Lib.hid h.1; have HF := Lib.hid hF; have HFF := Lib.hid hf
 obtain ⟨i0, hi, hz0, hz1, hz2⟩ := info_parts infoN
 clear h hB hF hf
 go_enter Tryz.func25, Tryz.ntmps25
 go_wp2_with fail
 go_loopw [5, 12] (fun v i wr => ∃ k : Nat, i = .int .i64 k ∧ k ≤ n ∧ wr.ownsRow w.heap.size 23 1 v (colL vf pf (ls.take k)).length ((colL vf pf (ls.take k)).map (Value.int .u64)) ∧ w.grownBy wr none) (fun _ i _ => n - (intOf i).toNat)
 case atStart => exact ⟨0, rfl, by omega, World.ownsRow_nil _ _ _ _, World.grownBy.refl _ _⟩
 case round =>
  obtain ⟨k, rfl, hk, hown, hg⟩ := hrel
  obtain ⟨A', cc, rfl, _⟩ := own_slice hown
  have HGG := Lib.hid hg
  by_cases hlt : k < n
  ·obtain ⟨g, off, sa, sb, x, rfl, hx, mx, hcx, hin⟩ := (HH.out.grown hg HB.out).at_ hlt
   obtain ⟨⟨pa, xa, rfl, hacc⟩, ⟨pb, xb, rfl, haut⟩, la, lb⟩ := id hin
   have hlen := colL_len vf pf ls k
   have hnx := colL_succ vf pf ls k (by rw [HL.out]; exact hlt) x hx
   obtain ⟨ys, hys⟩ : ∃ ys, colL vf pf (ls.take k) = ys := ⟨_, rfl⟩
   rw [hys] at hown hnx hlen ⊢
   have q1 : (k : Int) < (n : Int) := by omega
   have q2 : (0 : Int) ≤ (k : Int) := by omega
   have hB2 := Nat.le_trans HB.out hg.size
   have HCX := Lib.hid hcx
   have HNX := Lib.hid hnx
   have HCALL := Lib.hid (fun (V : World) (hV : wr.grownBy V none) => HF.out x mx (.slice pa x.acc.length xa) (.slice pb x.auths.length xb) V (hin.grown hV hB2) (Nat.le_trans hB2 hV.size))
   have HONE1 := Lib.hid (txC_one x pa pb x.acc.length xa x.auths.length xb)
   have HSZ := Lib.hid (show (txC x (.slice pa x.acc.length xa) (.slice pb x.auths.length xb)).size = 36 from rfl)
   clear hx hg hcx hin hacc haut la lb mx hB2 hnx hys
   go_upto_region 4 with (fail)
   refine wp_region_list ?_
   iterate 3 go_step
   refine wp_load_mid 42 (.tmp 14) rfl g (off + k * 36) rfl (txL x (.slice pa x.acc.length xa) (.slice pb x.auths.length xb)) _ HCX.out Tryz.underlying42 rfl (by kernel_rfl) ?_
   clear HCX
   rw [show (txL x (.slice pa x.acc.length xa) (.slice pb x.auths.length xb)).toArray = txC x (.slice pa x.acc.length xa) (.slice pb x.auths.length xb) from rfl]
   generalize txC x (.slice pa x.acc.length xa) (.slice pb x.auths.length xb) = ct at *
   have hga := only_alloc (World.grownBy.refl wr none) (.cells ct 42)
   have hbk := Blk.new wr 42 ct
   iterate 5 go_step
   refine wp_store_row 42 (.tmp 7) (.tmp 15) rfl wr.heap.size ct rfl rfl 42 txZ (Blk.new wr _ txZ) ((show (Tryz.prog.info? 42).map (·.size) = some 36 by kernel_rfl).trans (congrArg some HSZ.out.symm)) (by rw [HSZ.out]; rfl) HONE1.out ?_
   rw [World.setRow_alloc_new]
   obtain ⟨g6, hg6⟩ : ∃ g, wr.heap.size = g := ⟨_, rfl⟩
   rw [hg6] at hbk ⊢
   clear hg6
   have HGA := Lib.hid hga
   have HCALL2 := Lib.hid (HCALL.out _ hga)
   have hown1 := hown.kept hga (Classical.em _)
   generalize wr.alloc (.cells ct 42) = w5 at *
   have HBK := Lib.hid hbk
   clear hga hbk HCALL HONE1 hown
   go_upto_region 5 with (fail)
   refine wp_region_list ?_
   refine zm 1 (.func (.func f) #[] #[]) rfl ?_
   simp only [Act.put, jb, jz, js]
   refine wpList_value rfl (.agg ct) (exec_load_rowT rfl rfl 42 ct _ HBK.out Tryz.underlying42 rfl ((show (Tryz.prog.info? 42).map (·.size) = some 36 by kernel_rfl).trans (congrArg some HSZ.out.symm))) ?_
   simp only [Act.put, jb, jz, js]
   refine wpList_enter rfl f #[.agg ct] (exec_callv1 f (.tmp 17) (.tmp 18) _ rfl rfl _ rfl (HFF.out _ _)) (HCALL2.out.mono ?_)
   rintro e w6 ⟨rfl, hg6⟩
   refine ⟨_, rfl, ?_⟩
   simp only [Act.put, jb, jz, js]
   have hown2 := hown1.kept hg6 (Classical.em _)
   have HG6 := Lib.hid (grown_self (grown_self HGG.out HGA.out (by simp)) hg6 (by simp))
   obtain ⟨vx, hvx⟩ : ∃ v, vf x = v := ⟨_, rfl⟩
   obtain ⟨b, hb⟩ : ∃ b, pf x = b := ⟨_, rfl⟩
   rw [hvx, hb]
   rw [hvx, hb] at HNX
   clear hg6 HCALL2 HGA hown1 hvx hb HBK
   have hsz2 := HG6.out.size
   cases b with
   | true =>
    go_wp2_with (at_builtin; refine wpList_append_own _ rfl _ _ 52 rfl w.heap.size 23 i0 (.int .u64 0) 1 8 Tryz.underlying52 hi hz0 hz1 hz2 rfl (by decide) _ _ _ rfl (hown2.alloc _) ⟨w6.heap.size, 0, none⟩ 1 1 [Value.int .u64 vx] rfl rfl (cell_one_new _ _ _) (by simp [Value.oneCell']) (by simp only [maxLen]; omega) (by omega) (by simp; omega) ?_; intro v' w8 hown4 hgrow _)
    obtain ⟨g', cap', rfl⟩ := ownsRow_succ hown4
    have hg8 : w.grownBy w8 none := grown_self (only_alloc HG6.out _) hgrow (fun j hj => .inr (own_ge hown2 hj))
    go_wp2_with fail
    go_roundw
    case rel => exact ⟨k + 1, by go_num, by omega, by rw [HNX.out, if_pos rfl]; simpa using hown4, hg8⟩
    case measure => simp [intOf]; omega
   | false =>
    go_wp2_with fail
    go_roundw
    case rel => exact ⟨k + 1, by go_num, by omega, by rw [HNX.out, if_neg (by simp)]; exact hown2, HG6.out⟩
    case measure => simp [intOf]; omega
  ·obtain rfl : k = n := by omega
   have ht : ls.take k = ls := List.take_of_length_le (by have := HL.out; omega)
   rw [ht] at hown
   have hfin : decide ((k : Int) < (k : Int)) = false := by simp
   rw [ht]
   have HOW := Lib.hid hown
   clear hown hg ht
   go_wp2_with fail
   go_ret
   exact ⟨_, rfl, HOW.out, HGG.out⟩
def tells (f : FuncId) (args : TxV → Value) (B : Nat) (ls : List TxV) : Prop := ∀ x ∈ ls, ∀ sa sb (V : World), TxIn B V x sa sb → B ≤ V.heap.size → Calls Tryz.prog f #[.agg (txC x sa sb)] V fun e w' => e = .returned (args x) ∧ V.grownBy w' none
theorem tell4_any (B : Nat) (ls : List TxV) : tells 30 (fun x => .tuple #[.bool (decide (x.dst.size = 0)), .bool true]) B ls := by
 intro x mx sa sb w h hB
 obtain ⟨⟨pa, xa, rfl, hacc⟩, ⟨pb, xb, rfl, haut⟩, la, lb⟩ := h
 obtain ⟨na, hna⟩ : ∃ n, x.acc.length = n := ⟨_, rfl⟩
 obtain ⟨nb, hnb⟩ : ∃ n, x.auths.length = n := ⟨_, rfl⟩
 rw [hna] at hacc la ⊢
 rw [hnb] at haut lb ⊢
 have hG := only_alloc (World.grownBy.refl w none) (.cells (txC x (.slice pa na xa) (.slice pb nb xb)) 42)
 have hb := Blk.new w 42 (txC x (.slice pa na xa) (.slice pb nb xb))
 have z : (txC x (.slice pa na xa) (.slice pb nb xb))[12]? = some (.string x.dst) := rfl
 have e3 : (x.dst.toList == []) = decide (x.dst.size = 0) := str_nil x.dst
 have e3i : x.dst.toList.isEmpty = decide (x.dst.size = 0) := by rw [← str_nil x.dst]; cases x.dst.toList <;> rfl
 show Calls _ _ _ _ fun e w' => e = .returned (.tuple #[.bool (decide (x.dst.size = 0)), .bool true]) ∧ w.grownBy w' none
 obtain ⟨dst, hd⟩ : ∃ d, x.dst = d := ⟨_, rfl⟩
 rw [hd] at z e3 e3i ⊢
 obtain ⟨d0, hd0⟩ : ∃ d0, decide (dst.size = 0) = d0 := ⟨_, rfl⟩
 rw [hd0] at e3 e3i ⊢
 clear hd hd0
 generalize (txC x (.slice pa na xa) (.slice pb nb xb)) = ct at *
 clear hacc haut la lb hB mx hna hnb
 go_enter Tryz.func30, Tryz.ntmps30
 go_upto_region 1 with (fail)
 obtain ⟨g, hg⟩ : ∃ g, w.heap.size = g := ⟨_, rfl⟩
 rw [hg] at hb ⊢
 clear hg
 have HG := Lib.hid hG
 clear hG
 generalize w.alloc (.cells ct 42) = w1 at *
 have c := (hb.cell 12).trans z
 clear hb z
 cases d0 <;>
 (go_wp2_with fail
  go_ret2
  exact ⟨rfl, HG.out⟩)
theorem tell5_any (B : Nat) (ls : List TxV) : tells 32 (fun x => .tuple #[.bool (decide (x.y = 1)), .bool true]) B ls := by
 intro x mx sa sb w h hB
 obtain ⟨⟨pa, xa, rfl, hacc⟩, ⟨pb, xb, rfl, haut⟩, la, lb⟩ := h
 obtain ⟨na, hna⟩ : ∃ n, x.acc.length = n := ⟨_, rfl⟩
 obtain ⟨nb, hnb⟩ : ∃ n, x.auths.length = n := ⟨_, rfl⟩
 rw [hna] at hacc la ⊢
 rw [hnb] at haut lb ⊢
 have hG := only_alloc (World.grownBy.refl w none) (.cells (txC x (.slice pa na xa) (.slice pb nb xb)) 42)
 have hb := Blk.new w 42 (txC x (.slice pa na xa) (.slice pb nb xb))
 have z : (txC x (.slice pa na xa) (.slice pb nb xb))[20]? = some (.int .u64 (x.y : Int)) := rfl
 have e3 : ((x.y : Int) == 1) = decide (x.y = 1) := beq_n x.y 1
 show Calls _ _ _ _ fun e w' => e = .returned (.tuple #[.bool (decide (x.y = 1)), .bool true]) ∧ w.grownBy w' none
 obtain ⟨y, hd⟩ : ∃ d, x.y = d := ⟨_, rfl⟩
 rw [hd] at z e3 ⊢
 obtain ⟨d0, hd0⟩ : ∃ d0, decide (y = 1) = d0 := ⟨_, rfl⟩
 rw [hd0] at e3 ⊢
 clear hd hd0
 generalize (txC x (.slice pa na xa) (.slice pb nb xb)) = ct at *
 clear hacc haut la lb hB mx hna hnb
 go_enter Tryz.func32, Tryz.ntmps32
 go_upto_region 1 with (fail)
 obtain ⟨g, hg⟩ : ∃ g, w.heap.size = g := ⟨_, rfl⟩
 rw [hg] at hb ⊢
 clear hg
 have HG := Lib.hid hG
 clear hG
 generalize w.alloc (.cells ct 42) = w1 at *
 have c := (hb.cell 20).trans z
 clear hb z
 cases d0 <;>
 (go_wp2_with fail
  go_ret2
  exact ⟨rfl, HG.out⟩)
theorem tell7_any (B : Nat) (ls : List TxV) : tells 37 (fun x => .tuple #[.string x.dst, .bool true]) B ls := by
 intro x mx sa sb w h hB
 obtain ⟨⟨pa, xa, rfl, hacc⟩, ⟨pb, xb, rfl, haut⟩, la, lb⟩ := h
 obtain ⟨na, hna⟩ : ∃ n, x.acc.length = n := ⟨_, rfl⟩
 obtain ⟨nb, hnb⟩ : ∃ n, x.auths.length = n := ⟨_, rfl⟩
 rw [hna] at hacc la ⊢
 rw [hnb] at haut lb ⊢
 have hG := only_alloc (World.grownBy.refl w none) (.cells (txC x (.slice pa na xa) (.slice pb nb xb)) 42)
 have hb := Blk.new w 42 (txC x (.slice pa na xa) (.slice pb nb xb))
 have z : (txC x (.slice pa na xa) (.slice pb nb xb))[12]? = some (.string x.dst) := rfl
 show Calls _ _ _ _ fun e w' => e = .returned (.tuple #[.string x.dst, .bool true]) ∧ w.grownBy w' none
 generalize x.dst = d at *
 generalize (txC x (.slice pa na xa) (.slice pb nb xb)) = ct at *
 clear hacc haut la lb hB mx hna hnb
 go_enter Tryz.func37, Tryz.ntmps37
 go_upto_region 1 with (fail)
 obtain ⟨g, hg⟩ : ∃ g, w.heap.size = g := ⟨_, rfl⟩
 rw [hg] at hb ⊢
 clear hg
 have HG := Lib.hid hG
 clear hG
 generalize w.alloc (.cells ct 42) = w1 at *
 have c := (hb.cell 12).trans z
 clear hb z
 go_wp2_with fail
 go_ret2
 exact ⟨rfl, HG.out⟩
theorem tell9_any (B : Nat) (ls : List TxV) : tells 42 (fun x => .tuple #[.int .u64 (x.nonce : Int), .bool true]) B ls := by
 intro x mx sa sb w h hB
 obtain ⟨⟨pa, xa, rfl, hacc⟩, ⟨pb, xb, rfl, haut⟩, la, lb⟩ := h
 obtain ⟨na, hna⟩ : ∃ n, x.acc.length = n := ⟨_, rfl⟩
 obtain ⟨nb, hnb⟩ : ∃ n, x.auths.length = n := ⟨_, rfl⟩
 rw [hna] at hacc la ⊢
 rw [hnb] at haut lb ⊢
 have hG := only_alloc (World.grownBy.refl w none) (.cells (txC x (.slice pa na xa) (.slice pb nb xb)) 42)
 have hb := Blk.new w 42 (txC x (.slice pa na xa) (.slice pb nb xb))
 have z : (txC x (.slice pa na xa) (.slice pb nb xb))[2]? = some (.int .u64 (x.nonce : Int)) := rfl
 show Calls _ _ _ _ fun e w' => e = .returned (.tuple #[.int .u64 (x.nonce : Int), .bool true]) ∧ w.grownBy w' none
 generalize x.nonce = d at *
 generalize (txC x (.slice pa na xa) (.slice pb nb xb)) = ct at *
 clear hacc haut la lb hB mx hna hnb
 go_enter Tryz.func42, Tryz.ntmps42
 go_upto_region 1 with (fail)
 obtain ⟨g, hg⟩ : ∃ g, w.heap.size = g := ⟨_, rfl⟩
 rw [hg] at hb ⊢
 clear hg
 have HG := Lib.hid hG
 clear hG
 generalize w.alloc (.cells ct 42) = w1 at *
 have c := (hb.cell 2).trans z
 clear hb z
 go_wp2_with fail
 go_ret2
 exact ⟨rfl, HG.out⟩
theorem tell10_any (B : Nat) (ls : List TxV) : tells 44 (fun x => .tuple #[.int .u64 (x.gas : Int), .bool true]) B ls := by
 intro x mx sa sb w h hB
 obtain ⟨⟨pa, xa, rfl, hacc⟩, ⟨pb, xb, rfl, haut⟩, la, lb⟩ := h
 obtain ⟨na, hna⟩ : ∃ n, x.acc.length = n := ⟨_, rfl⟩
 obtain ⟨nb, hnb⟩ : ∃ n, x.auths.length = n := ⟨_, rfl⟩
 rw [hna] at hacc la ⊢
 rw [hnb] at haut lb ⊢
 have hG := only_alloc (World.grownBy.refl w none) (.cells (txC x (.slice pa na xa) (.slice pb nb xb)) 42)
 have hb := Blk.new w 42 (txC x (.slice pa na xa) (.slice pb nb xb))
 have z : (txC x (.slice pa na xa) (.slice pb nb xb))[11]? = some (.int .u64 (x.gas : Int)) := rfl
 show Calls _ _ _ _ fun e w' => e = .returned (.tuple #[.int .u64 (x.gas : Int), .bool true]) ∧ w.grownBy w' none
 generalize x.gas = d at *
 generalize (txC x (.slice pa na xa) (.slice pb nb xb)) = ct at *
 clear hacc haut la lb hB mx hna hnb
 go_enter Tryz.func44, Tryz.ntmps44
 go_upto_region 1 with (fail)
 obtain ⟨g, hg⟩ : ∃ g, w.heap.size = g := ⟨_, rfl⟩
 rw [hg] at hb ⊢
 clear hg
 have HG := Lib.hid hG
 clear hG
 generalize w.alloc (.cells ct 42) = w1 at *
 have c := (hb.cell 11).trans z
 clear hb z
 go_wp2_with fail
 go_ret2
 exact ⟨rfl, HG.out⟩
theorem tell11_any (B : Nat) (ls : List TxV) : tells 46 (fun x => .tuple #[.bool (decide (x.chain ≠ 0)), .bool (decide (x.kind = 0))]) B ls := by
 intro x mx sa sb w h hB
 obtain ⟨⟨pa, xa, rfl, hacc⟩, ⟨pb, xb, rfl, haut⟩, la, lb⟩ := h
 obtain ⟨na, hna⟩ : ∃ n, x.acc.length = n := ⟨_, rfl⟩
 obtain ⟨nb, hnb⟩ : ∃ n, x.auths.length = n := ⟨_, rfl⟩
 rw [hna] at hacc la ⊢
 rw [hnb] at haut lb ⊢
 have hG := only_alloc (World.grownBy.refl w none) (.cells (txC x (.slice pa na xa) (.slice pb nb xb)) 42)
 have hb := Blk.new w 42 (txC x (.slice pa na xa) (.slice pb nb xb))
 have z0 : (txC x (.slice pa na xa) (.slice pb nb xb))[0]? = some (.int .i64 x.kind) := rfl
 have z1 : (txC x (.slice pa na xa) (.slice pb nb xb))[1]? = some (.int .u64 (x.chain : Int)) := rfl
 have e1 : ((x.chain : Int) != 0) = decide (x.chain ≠ 0) := by by_cases hh : x.chain = 0 <;> simp [hh]
 have e2 : (x.kind == 0) = decide (x.kind = 0) := by by_cases hh : x.kind = 0 <;> simp [hh]
 show Calls _ _ _ _ fun e w' => e = .returned (.tuple #[.bool (decide (x.chain ≠ 0)), .bool (decide (x.kind = 0))]) ∧ w.grownBy w' none
 obtain ⟨ch, hch⟩ : ∃ d, x.chain = d := ⟨_, rfl⟩
 obtain ⟨kd, hkd⟩ : ∃ d, x.kind = d := ⟨_, rfl⟩
 rw [hch] at z1 e1 ⊢
 rw [hkd] at z0 e2 ⊢
 obtain ⟨d1, hd1⟩ : ∃ d0, decide (ch ≠ 0) = d0 := ⟨_, rfl⟩
 obtain ⟨d2, hd2⟩ : ∃ d0, decide (kd = 0) = d0 := ⟨_, rfl⟩
 rw [hd1] at e1 ⊢
 rw [hd2] at e2 ⊢
 clear hch hkd hd1 hd2
 generalize (txC x (.slice pa na xa) (.slice pb nb xb)) = ct at *
 clear hacc haut la lb hB mx hna hnb
 go_enter Tryz.func46, Tryz.ntmps46
 go_upto_region 1 with (fail)
 obtain ⟨g, hg⟩ : ∃ g, w.heap.size = g := ⟨_, rfl⟩
 rw [hg] at hb ⊢
 clear hg
 have HG := Lib.hid hG
 clear hG
 generalize w.alloc (.cells ct 42) = w1 at *
 have c0 := (hb.cell 0).trans z0; have c1 := (hb.cell 1).trans z1
 clear hb z0 z1
 have HGD := Lib.hid (fun q => grown_self HG.out (grown_of_below (below_drewN (Below.refl w1.heap.size w1) q)) (by simp))
 cases d1 <;> cases d2 <;>
 (go_quiet (fail)
  go_wp2_with fail
  go_ret2
  exact ⟨rfl, HGD.out _⟩)
def fixN (p : Nat) : List UInt8 := fixL [wp p 0, wp p 1, wp p 2, wp p 3]
def sigT (x : TxV) : ByteArray := ⟨(fixN x.r ++ fixN x.s).toArray⟩
theorem fixedOf_any (p : Nat) (w : World) :
  Calls Tryz.prog 35 #[.agg #[.int .u64 (wp p 0 : Nat), .int .u64 (wp p 1 : Nat), .int .u64 (wp p 2 : Nat), .int .u64 (wp p 3 : Nat)]] w fun e w' => e = .returned (.string ⟨(fixN p).toArray⟩) ∧ w.grownBy w' none := fixed_any _ _ _ _ w
theorem tell6_any (B : Nat) (ls : List TxV) : tells 34 (fun x => .tuple #[.string (sigT x), .bool true]) B ls := by
 intro x mx sa sb w h hB
 obtain ⟨⟨pa, xa, rfl, hacc⟩, ⟨pb, xb, rfl, haut⟩, la, lb⟩ := h
 obtain ⟨na, hna⟩ : ∃ n, x.acc.length = n := ⟨_, rfl⟩
 obtain ⟨nb, hnb⟩ : ∃ n, x.auths.length = n := ⟨_, rfl⟩
 rw [hna] at hacc la ⊢
 rw [hnb] at haut lb ⊢
 have hG := only_alloc (World.grownBy.refl w none) (.cells (txC x (.slice pa na xa) (.slice pb nb xb)) 42)
 have hb := Blk.new w 42 (txC x (.slice pa na xa) (.slice pb nb xb))
 have zr0 : (txC x (.slice pa na xa) (.slice pb nb xb))[21]? = some (.int .u64 (wp x.r 0 : Nat)) := rfl
 have zr1 : (txC x (.slice pa na xa) (.slice pb nb xb))[22]? = some (.int .u64 (wp x.r 1 : Nat)) := rfl
 have zr2 : (txC x (.slice pa na xa) (.slice pb nb xb))[23]? = some (.int .u64 (wp x.r 2 : Nat)) := rfl
 have zr3 : (txC x (.slice pa na xa) (.slice pb nb xb))[24]? = some (.int .u64 (wp x.r 3 : Nat)) := rfl
 have zs0 : (txC x (.slice pa na xa) (.slice pb nb xb))[25]? = some (.int .u64 (wp x.s 0 : Nat)) := rfl
 have zs1 : (txC x (.slice pa na xa) (.slice pb nb xb))[26]? = some (.int .u64 (wp x.s 1 : Nat)) := rfl
 have zs2 : (txC x (.slice pa na xa) (.slice pb nb xb))[27]? = some (.int .u64 (wp x.s 2 : Nat)) := rfl
 have zs3 : (txC x (.slice pa na xa) (.slice pb nb xb))[28]? = some (.int .u64 (wp x.s 3 : Nat)) := rfl
 have hfr := fun V => fixedOf_any x.r V
 have hfs := fun V => fixedOf_any x.s V
 have hsg : sigT x = (⟨(fixN x.r).toArray⟩ : ByteArray) ++ ⟨(fixN x.s).toArray⟩ := by rw [ba_cat]; rfl
 have hlr : (fixN x.r).length = 32 := fixL_len _
 have hls : (fixN x.s).length = 32 := fixL_len _
 have hzr : (⟨(fixN x.r).toArray⟩ : ByteArray).size = 32 := (ba_sz _).trans hlr
 have hzs : (⟨(fixN x.s).toArray⟩ : ByteArray).size = 32 := (ba_sz _).trans hls
 show Calls _ _ _ _ fun e w' => e = .returned (.tuple #[.string (sigT x), .bool true]) ∧ w.grownBy w' none
 rw [hsg]
 generalize (⟨(fixN x.r).toArray⟩ : ByteArray) = p at *
 generalize (⟨(fixN x.s).toArray⟩ : ByteArray) = q at *
 generalize x.r = r at *
 generalize x.s = s at *
 generalize (txC x (.slice pa na xa) (.slice pb nb xb)) = ct at *
 have HFR := Lib.hid hfr; have HFS := Lib.hid hfs; have HZR := Lib.hid hzr; have HZS := Lib.hid hzs
 clear hacc haut la lb hB mx hna hnb hfr hfs hsg hlr hls hzr hzs
 go_enter Tryz.func34, Tryz.ntmps34
 go_upto_region 1 with (fail)
 obtain ⟨g, hg⟩ : ∃ g, w.heap.size = g := ⟨_, rfl⟩
 rw [hg] at hb ⊢
 clear hg
 have HG := Lib.hid hG
 clear hG
 have l1 := hb.lt
 rw [show g = g from rfl] at *
 generalize w.alloc (.cells ct 42) = w1 at *
 have HB := Lib.hid hb
 clear hb
 have hC0 : (fun V => Below w1.heap.size w1 V) w1.drew := ⟨rfl, rfl, rfl, Nat.le_refl _, fun _ _ => rfl⟩
 refine wp_region_class (fun V => Below w1.heap.size w1 V) (by kernel_rfl) (by kernel_rfl) hC0 ?_
 have hcc := class_const hC0
 (try simp only [Act.put])
 (repeat go_big_quiet_step (fail))
 refine wpQuiet_value rfl (.agg #[.int .u64 (wp r 0 : Nat), .int .u64 (wp r 1 : Nat), .int .u64 (wp r 2 : Nat), .int .u64 (wp r 3 : Nat)]) (fun V hV => exec_loadW _ rfl rfl (((HB.out.below hV l1).cell 21).trans zr0) (((HB.out.below hV l1).cell 22).trans zr1) (((HB.out.below hV l1).cell 23).trans zr2) (((HB.out.below hV l1).cell 24).trans zr3)) ?_
 simp only [Act.put, jb, jz, js]
 refine quiet_callW (.string p) 35 #[.agg #[.int .u64 (wp r 0 : Nat), .int .u64 (wp r 1 : Nat), .int .u64 (wp r 2 : Nat), .int .u64 (wp r 3 : Nat)]] rfl (fun V => exec_call1 _ (.tmp 5) _ rfl _ rfl (enters_of Tryz.func35 (by kernel_rfl) rfl _ _)) (fun V hV => HFR.out V) ?_
 simp only [Act.put, jb, jz, js]
 (repeat go_big_quiet_step (fail))
 refine wpQuiet_value rfl (.agg #[.int .u64 (wp s 0 : Nat), .int .u64 (wp s 1 : Nat), .int .u64 (wp s 2 : Nat), .int .u64 (wp s 3 : Nat)]) (fun V hV => exec_loadW _ rfl rfl (((HB.out.below hV l1).cell 25).trans zs0) (((HB.out.below hV l1).cell 26).trans zs1) (((HB.out.below hV l1).cell 27).trans zs2) (((HB.out.below hV l1).cell 28).trans zs3)) ?_
 simp only [Act.put, jb, jz, js]
 refine quiet_callW (.string q) 35 #[.agg #[.int .u64 (wp s 0 : Nat), .int .u64 (wp s 1 : Nat), .int .u64 (wp s 2 : Nat), .int .u64 (wp s 3 : Nat)]] rfl (fun V => exec_call1 _ (.tmp 8) _ rfl _ rfl (enters_of Tryz.func35 (by kernel_rfl) rfl _ _)) (fun V hV => HFS.out V) ?_
 simp only [Act.put, jb, jz, js]
 refine wpQuiet_value rfl (.string (p ++ q)) (fun V hV => exec_addstr _ _ (.tmp 6) (.tmp 9) rfl p q rfl rfl (by rw [HZR.out, HZS.out]; decide)) ?_
 simp only [Act.put, jb, jz, js]
 (repeat go_big_quiet_step (fail))
 refine wpQuiet_nil ?_
 intro w3 hw3
 have HG := Lib.hid (grown_self HG.out (grown_of_below hw3) (by simp))
 clear hcc hC0 hw3
 go_wp2_with fail
 go_ret2
 exact ⟨rfl, HG.out⟩
structure RestOk (x : TxV) : Prop where
 ok : x.Ok
 kind : x.kind = 0 ∨ x.kind = 1 ∨ x.kind = 2
 acc : x.acc.length ≤ 16
 keys : ∀ a ∈ x.acc, a.keys.length ≤ 1000
 wt : wtF (restI x) ≤ 1000000000
 len : (encB (restI x)).length ≤ 1000000000
def restT (x : TxV) : ByteArray := ⟨(restBy x).toArray⟩
theorem restOf_any (x : TxV) (hx : RestOk x) (B : Nat) (pa : Option Addr) (na xa : Nat) (pb : Option Addr) (nb xb : Nat) (w : World) (hac : AccR B w x.acc pa na) (hB : B ≤ w.heap.size) (hna : na ≤ 16) :
  Calls Tryz.prog 40 #[.agg (txC x (.slice pa na xa) (.slice pb nb xb))] w fun e w' => e = .returned (.string (restT x)) ∧ w.grownBy w' none := by
 obtain ⟨ok, kd, hacc, keys, wt, len⟩ := hx
 obtain ⟨kind, chain, nonce, tip, price, gas, dst, value, data, acc, auths, y, r, s, source, frm, mint, system⟩ := x
 rcases kd with h | h | h
 ·simp only at h; subst h
  exact rest0_any chain nonce tip price gas dst value data acc auths y r s source frm mint system B pa na xa pb nb xb w hac hB hna keys ok.value ok.tip ok.price wt len
 ·simp only at h; subst h
  exact rest1_any chain nonce tip price gas dst value data acc auths y r s source frm mint system B pa na xa pb nb xb w hac hB hna keys ok.value ok.tip ok.price wt len
 ·simp only at h; subst h
  exact rest2_any chain nonce tip price gas dst value data acc auths y r s source frm mint system B pa na xa pb nb xb w hac hB hna keys ok.value ok.tip ok.price wt len
theorem tell8_any (B : Nat) (ls : List TxV) (hR : ∀ x ∈ ls, RestOk x) : tells 39 (fun x => .tuple #[.string (restT x), .bool true]) B ls := by
 intro x mx sa sb w h hB
 obtain ⟨⟨pa, xa, rfl, hacc⟩, ⟨pb, xb, rfl, haut⟩, la, lb⟩ := h
 obtain ⟨na, hna⟩ : ∃ n, x.acc.length = n := ⟨_, rfl⟩
 obtain ⟨nb, hnb⟩ : ∃ n, x.auths.length = n := ⟨_, rfl⟩
 rw [hna] at hacc la ⊢
 rw [hnb] at haut lb ⊢
 have hG := only_alloc (World.grownBy.refl w none) (.cells (txC x (.slice pa na xa) (.slice pb nb xb)) 42)
 have hb := Blk.new w 42 (txC x (.slice pa na xa) (.slice pb nb xb))
 have hx := hR x mx
 have hac := hacc.grown hG hB
 have hcall := fun V (hV : (w.alloc (.cells (txC x (.slice pa na xa) (.slice pb nb xb)) 42)).grownBy V none) => restOf_any x hx B pa na xa pb nb xb V (hac.grown hV (Nat.le_trans hB hG.size)) (Nat.le_trans (Nat.le_trans hB hG.size) hV.size) (by rw [← hna]; exact hx.acc)
 have hsz : (txC x (.slice pa na xa) (.slice pb nb xb)).size = 36 := rfl
 show Calls _ _ _ _ fun e w' => e = .returned (.tuple #[.string (restT x), .bool true]) ∧ w.grownBy w' none
 generalize restT x = rt at *
 generalize (txC x (.slice pa na xa) (.slice pb nb xb)) = ct at *
 have HCALL := Lib.hid hcall; have HSZ := Lib.hid hsz
 clear hacc haut la lb hB mx hna hnb hx hac hcall hsz
 go_enter Tryz.func39, Tryz.ntmps39
 go_upto_region 1 with (fail)
 obtain ⟨g, hg⟩ : ∃ g, w.heap.size = g := ⟨_, rfl⟩
 rw [hg] at hb ⊢
 clear hg
 have HG := Lib.hid hG
 clear hG
 generalize w.alloc (.cells ct 42) = w1 at *
 refine wp_region_list ?_
 refine wpList_value rfl (.agg ct) (exec_load_rowT rfl rfl 42 ct _ hb Tryz.underlying42 rfl ((show (Tryz.prog.info? 42).map (·.size) = some 36 by kernel_rfl).trans (congrArg some HSZ.out.symm))) ?_
 simp only [Act.put, jb, jz, js]
 go_wp2_with fail
 refine (HCALL.out w1 (World.grownBy.refl _ _)).mono ?_
 rintro e w3 ⟨rfl, hg⟩
 have HG := Lib.hid (grown_self HG.out hg (by simp))
 clear hb hg
 go_wp2_with fail
 go_ret2
 exact ⟨rfl, HG.out⟩
def varF : Nat → Nat → List UInt8
 | 0, _ => []
 | f + 1, n => if n < 128 then [UInt8.ofNat n] else UInt8.ofNat (n % 128 + 128) :: varF f (n / 128)
def varL (n : Nat) : List UInt8 := varF 10 n
theorem varF_len : ∀ f n, (varF f n).length ≤ f
 | 0, _ => by simp [varF]
 | f + 1, n => by
  unfold varF
  split
  ·simp
  ·have := varF_len f (n / 128); simp; omega
theorem or128 : ∀ m : Fin 256, bits .or .u8 ((m.val : Nat) : Int) 128 = ((UInt8.ofNat (m.val % 128 + 128)).toNat : Int) := by decide +kernel
theorem var_any (n : Nat) (hn : n < 18446744073709551616) (w : World) :
  Calls Tryz.prog 69 #[.int .u64 (n : Int)] w fun e w' => e = .returned (.string ⟨(varL n).toArray⟩) ∧ w.grownBy w' none := by
 obtain ⟨i0, z0, hi, hz0, hz1, hz2, hz3⟩ := byte_info
 obtain ⟨L, hL⟩ : ∃ l, varL n = l := ⟨_, rfl⟩
 rw [hL]
 have HL := Lib.hid hL
 clear hL
 go_enter Tryz.func69, Tryz.ntmps69
 go_wp2_with fail
 go_loopw [0, 3] (fun x v wr => ∃ (m f : Nat) (pre : List UInt8), x = .int .u64 (m : Int) ∧ wr.ownsRow w.heap.size 5 1 v pre.length (u8s pre) ∧ w.grownBy wr none ∧ Hid (pre ++ varF (f + 1) m = L) ∧ Hid (m < 128 ^ (f + 1)) ∧ pre.length + f ≤ 9 ∧ m ≤ 18446744073709551615) (fun x _ _ => (intOf x).toNat)
 case atStart => exact ⟨n, 9, [], rfl, World.ownsRow_nil _ _ _ _, World.grownBy.refl _ _, HL.out, by show n < 128 ^ 10; omega, by simp, by omega⟩
 case round =>
  obtain ⟨m, f, pre, rfl, hown, hg, h1, h2, h3, h4⟩ := hrel
  have hsz := hg.size
  obtain ⟨A, cc, rfl, _⟩ := own_slice hown
  by_cases hlt : m < 128
  ·obtain ⟨c, hc⟩ : ∃ c, UInt8.ofNat m = c := ⟨_, rfl⟩
   have p1 : (m : Int) = (c.toNat : Int) := by rw [← hc]; simp; omega
   have HP1 := Lib.hid p1
   have hfin : L = pre ++ [c] := by
    rw [← h1.out, varF, if_pos hlt, hc]
   have HF := Lib.hid hfin
   clear hc hfin h1 h2 p1
   go_wp2_with (at_builtin; refine wpList_append_own _ rfl _ _ 43 rfl w.heap.size 5 i0 z0 1 1 Tryz.underlying43 hi hz0 hz1 hz2 hz3 (by decide) _ _ _ rfl (hown.alloc _) ⟨wr.heap.size, 0, none⟩ 1 1 [.int .u8 (m : Int)] rfl rfl (cell_one_new _ _ _) (by simp [Value.oneCell']) (by simp only [maxLen]; omega) (by omega) (by simp; omega) ?_; intro v' w4 hown4 hgrow _)
   have hown5 : w4.ownsRow w.heap.size 5 1 v' (pre.length + 1) (u8s (pre ++ [c])) := by rw [HP1.out] at hown4; simpa [u8s] using hown4
   have hcv := conv_own hown5
   obtain ⟨g', cap', rfl⟩ := ownsRow_succ hown5
   clear hown4 hown5
   have hg4 : w.grownBy w4 none := grown_self (only_alloc hg _) hgrow (fun j hj => .inr (own_ge hown hj))
   clear hgrow
   go_wp2_with fail
   rw [hcv]
   simp only [Result.andThen]
   rw [Oper.upon_value]
   go_wp2_with fail
   go_ret
   exact ⟨by rw [HF.out]; rfl, hg4⟩
  ·obtain ⟨c, hc⟩ : ∃ c, UInt8.ofNat (m % 128 + 128) = c := ⟨_, rfl⟩
   obtain ⟨q, hq⟩ : ∃ q, m % 256 = q := ⟨_, rfl⟩
   have p1 : (m : Int) % 256 = (q : Int) := by omega
   have p2 : bits .or .u8 (q : Int) 128 = (c.toNat : Int) := by
    have := or128 ⟨q, by omega⟩
    rw [← hc, show m % 128 = q % 128 by omega]
    exact this
   have HC := Lib.hid hc
   clear hc hq
   go_wp2_with (at_builtin; refine wpList_append_own _ rfl _ _ 43 rfl w.heap.size 5 i0 z0 1 1 Tryz.underlying43 hi hz0 hz1 hz2 hz3 (by decide) _ _ _ rfl (hown.alloc _) ⟨wr.heap.size, 0, none⟩ 1 1 [.int .u8 (c.toNat : Int)] rfl rfl (cell_one_new _ _ _) (by simp [Value.oneCell']) (by simp only [maxLen]; omega) (by omega) (by simp; omega) ?_; intro v' w4 hown4 hgrow _)
   obtain ⟨g', cap', rfl⟩ := ownsRow_succ hown4
   have hown5 : w4.ownsRow w.heap.size 5 1 (.slice (some ⟨g', 0, none⟩) (pre ++ [c]).length cap') (pre ++ [c]).length (u8s (pre ++ [c])) := by simpa [u8s] using hown4
   have hg4 : w.grownBy w4 none := grown_self (only_alloc hg _) hgrow (fun j hj => .inr (own_ge hown hj))
   have hf1 : 1 ≤ f := by
    rcases Nat.eq_zero_or_pos f with h0 | h0
    ·have := h2.out; rw [h0] at this; omega
    ·exact h0
   obtain ⟨f', rfl⟩ : ∃ f', f = f' + 1 := ⟨f - 1, by omega⟩
   have hst : (pre ++ [c]) ++ varF (f' + 1) (m / 128) = L := by
    rw [← h1.out]
    conv => rhs; rw [varF, if_neg hlt, HC.out]
    simp
   have hpw : m / 128 < 128 ^ (f' + 1) := by
    have := h2.out
    rw [Nat.pow_succ] at this
    exact Nat.div_lt_of_lt_mul (by rw [Nat.mul_comm]; exact this)
   have HS := Lib.hid hst; have HP := Lib.hid hpw
   clear hst hpw hown4 hgrow p1 p2 h1 h2 hown
   go_wp2_with fail
   refine ⟨⟨m / 128, f', pre ++ [c], by simp, by simpa using hown5, hg4, HS.out, HP.out, by simp; omega, by omega⟩, by simp [intOf]; omega⟩
theorem BuilderAt.grown_ {T e : TypeId} {B b : Nat} {p : Value} {bs : List Value} {w w' : World} (h : Lib.BuilderAt T e B b p bs w) (hg : w.grownBy w' none) : Lib.BuilderAt T e B b p bs w' := by
 have hlt := h.lt
 obtain ⟨hB, v, hb, hown, hne⟩ := h
 exact ⟨hB, v, (hg.block b hlt (by simp)).trans hb, hown.kept hg (Classical.em _), hne⟩
theorem IsBuilder.grown_ {T e : TypeId} {B b : Nat} {bs : List Value} {w w' : World} (h : Lib.IsBuilder T e B b bs w) (hg : w.grownBy w' none) : Lib.IsBuilder T e B b bs w' := h.elim (fun h => .inl (BuilderAt.grown_ h hg)) (fun h => .inr (BuilderAt.grown_ h hg))
def rowL (xs : List Int) : List UInt8 := xs.flatMap fun x => varL x.toNat
theorem rowL_snoc (xs : List Int) (x : Int) : rowL (xs ++ [x]) = rowL xs ++ varL x.toNat := by simp [rowL]
theorem rowL_len (xs : List Int) : (rowL xs).length ≤ 10 * xs.length := by
 unfold rowL
 induction xs with
 | nil => simp
 | cons x xs ih =>
  have := varF_len 10 x.toNat
  simp only [List.flatMap_cons, List.length_append, List.length_cons]
  unfold varL at *
  omega
theorem take_next {α : Type} [Inhabited α] (xs : List α) (k : Nat) (hk : k < xs.length) (d : α) : xs.take (k + 1) = xs.take k ++ [xs.getD k d] := by
 rw [List.take_succ_eq_append_getElem hk, List.getD_eq_getElem?_getD, List.getElem?_eq_getElem hk]; rfl
theorem row_any (B : Nat) (A : Option Addr) (n c : Nat) (xs : List Int) (w : World) (hB : B ≤ w.heap.size) (h : Reads w B 1 A n (xs.map (Value.int .u64))) (hwf : ∀ x ∈ xs, 0 ≤ x ∧ x ≤ 18446744073709551615) (hn : n ≤ 100000) :
  Calls Tryz.prog 24 #[.slice A n c] w fun e w' => e = .returned (.string ⟨(rowL xs).toArray⟩) ∧ Below w.heap.size w w' := by
 have hl : xs.length = n := by simpa using h.1
 have HL := Lib.hid hl; clear hl
 go_enter Tryz.func24, Tryz.ntmps24
 have b0 := builder_new w
 have hb0 : Below w.heap.size w (w.alloc (.cells #[.pointer none, .slice none 0 0] 96)) := (Below.refl _ w).alloc (Nat.le_refl _) _
 go_wp2_with fail
 generalize w.alloc (.cells #[.pointer none, .slice none 0 0] 96) = w1 at *
 go_loopw [8] (fun i wr => ∃ k : Nat, i = .int .i64 (k : Int) ∧ k ≤ n ∧ Lib.IsBuilder 96 5 w.heap.size w.heap.size (Lib.byteCells (rowL (xs.take k))) wr ∧ Below w.heap.size w wr) (fun i _ => n - (intOf i).toNat)
 case atStart => exact ⟨0, rfl, by omega, b0, hb0⟩
 case round =>
  clear b0 hb0
  obtain ⟨k, rfl, hk, hb, hbel⟩ := hrel
  have hsz := hbel.size
  by_cases hlt : k < n
  ·obtain ⟨b, off, rfl, hbb, hc⟩ := (h.below (hbel.mono hB)).ints hlt
   have hck := hc k hlt
   have hx := hwf (xs.getD k 0) (by rw [List.getD_eq_getElem?_getD, List.getElem?_eq_getElem (by have := HL.out; omega)]; exact List.getElem_mem _)
   have hst : rowL (xs.take (k + 1)) = rowL (xs.take k) ++ varL (xs.getD k 0).toNat := by rw [take_next xs k (by have := HL.out; omega) 0, rowL_snoc]
   have hlen := rowL_len (xs.take k)
   rw [List.length_take] at hlen
   generalize xs.getD k 0 = x at *
   obtain ⟨z, rfl⟩ := Int.eq_ofNat_of_zero_le hx.1
   rw [Int.toNat_natCast] at hst
   have hvl := varF_len 10 z
   obtain ⟨vb, hvb⟩ : ∃ v : ByteArray, (⟨(varL z).toArray⟩ : ByteArray) = v := ⟨_, rfl⟩
   have hvz : vb.size ≤ 10 := by rw [← hvb]; show (varL z).toArray.size ≤ 10; simpa [varL] using hvl
   have hvar := var_any z (by omega) wr
   rw [hvb] at hvar
   have hst2 : Lib.byteCells (rowL (xs.take (k + 1))) = Lib.byteCells (rowL (xs.take k)) ++ Lib.strCells vb := by rw [hst, byteCells_append, strCells_eq, ← hvb]
   have HS := Lib.hid hst2
   clear hst hst2 hvb hvl hc hx
   go_wp2_with fail
   refine hvar.mono ?_
   rintro e w2 ⟨rfl, hg2⟩
   have hb2 := IsBuilder.grown_ hb hg2
   have hbel2 : Below w.heap.size w w2 := hbel.trans ((below_of_grown hg2).mono hsz)
   clear hvar hb hg2 hck
   go_wp2_with fail
   refine (writeString_any w.heap.size w.heap.size _ vb w2 hb2 (by rw [Lib.byteCells_length]; omega) (by have := hbel2.size; omega)).mono ?_
   rintro e w3 ⟨rfl, hb3, hbel3⟩
   rw [← HS.out] at hb3
   have hbel4 : Below w.heap.size w w3 := hbel2.trans hbel3
   clear hb2 hbel2 hbel3 hbel
   go_wp2_with fail
   go_roundw
   case rel => exact ⟨k + 1, by simp, by omega, hb3, hbel4⟩
   case measure => simp [intOf]; omega
  ·have hk2 : k = n := by omega
   have ht : xs.take k = xs := List.take_of_length_le (by have := HL.out; omega)
   rw [ht] at hb
   have hfin : decide ((k : Int) < (n : Int)) = false := by simp; omega
   have hfin2 : decide (k < n) = false := by simp; omega
   clear ht hk2
   go_wp2_with fail
   refine (builderString_any w.heap.size w.heap.size _ wr hb (by omega)).mono ?_
   rintro e w2 ⟨rfl, hbel2⟩
   go_wp2_with fail
   go_ret
   exact ⟨rfl, hbel.trans hbel2⟩
def byte8 (f : Nat → Bool) : UInt8 := UInt8.ofNat ((f 0).toNat + 2 * (f 1).toNat + 4 * (f 2).toNat + 8 * (f 3).toNat + 16 * (f 4).toNat + 32 * (f 5).toNat + 64 * (f 6).toNat + 128 * (f 7).toNat)
def bitOf (x : UInt8) (r : Nat) : Bool := x.toNat / 2 ^ r % 2 == 1
theorem byte8_congr {f g : Nat → Bool} (h : ∀ r, r < 8 → f r = g r) : byte8 f = byte8 g := by
 unfold byte8
 rw [h 0 (by omega), h 1 (by omega), h 2 (by omega), h 3 (by omega), h 4 (by omega), h 5 (by omega), h 6 (by omega), h 7 (by omega)]
theorem byte8_false : byte8 (fun _ => false) = 0 := by decide
theorem bit_byte8_aux : ∀ b0 b1 b2 b3 b4 b5 b6 b7 : Bool,
  (fun x : UInt8 => bitOf x 0 = b0 ∧ bitOf x 1 = b1 ∧ bitOf x 2 = b2 ∧ bitOf x 3 = b3 ∧ bitOf x 4 = b4 ∧ bitOf x 5 = b5 ∧ bitOf x 6 = b6 ∧ bitOf x 7 = b7)
   (UInt8.ofNat (b0.toNat + 2 * b1.toNat + 4 * b2.toNat + 8 * b3.toNat + 16 * b4.toNat + 32 * b5.toNat + 64 * b6.toNat + 128 * b7.toNat)) := by decide +kernel
theorem bit_byte8 (f : Nat → Bool) (r : Nat) (h : r < 8) : bitOf (byte8 f) r = f r := by
 obtain ⟨h0, h1, h2, h3, h4, h5, h6, h7⟩ := bit_byte8_aux (f 0) (f 1) (f 2) (f 3) (f 4) (f 5) (f 6) (f 7)
 unfold byte8
 rcases r with _ | _ | _ | _ | _ | _ | _ | _ | r <;> first | assumption | omega
theorem byte8_bits_aux : ∀ x : Fin 256, byte8 (bitOf (UInt8.ofNat x.val)) = UInt8.ofNat x.val := by decide +kernel
theorem byte8_bits (x : UInt8) : byte8 (bitOf x) = x := by
 have := byte8_bits_aux ⟨x.toNat, x.toNat_lt⟩
 simpa using this
theorem byte8_set_aux : ∀ b0 b1 b2 b3 b4 b5 b6 b7 : Bool, ∀ r : Fin 8,
  (fun (f : Nat → Bool) => f r.val = false → byte8 (fun i => if i = r.val then true else f i) = byte8 f ||| UInt8.ofNat (2 ^ r.val) ∧ (byte8 f).toNat + 2 ^ r.val < 256 ∧ (byte8 f ||| UInt8.ofNat (2 ^ r.val)).toNat = (byte8 f).toNat + 2 ^ r.val)
   (fun i => match i with | 0 => b0 | 1 => b1 | 2 => b2 | 3 => b3 | 4 => b4 | 5 => b5 | 6 => b6 | _ => b7) := by decide +kernel
theorem byte8_set (f : Nat → Bool) (r : Nat) (h : r < 8) (hf : f r = false) :
  byte8 (fun i => if i = r then true else f i) = byte8 f ||| UInt8.ofNat (2 ^ r) ∧ (byte8 f).toNat + 2 ^ r < 256 ∧ (byte8 f ||| UInt8.ofNat (2 ^ r)).toNat = (byte8 f).toNat + 2 ^ r := by
 have k := byte8_set_aux (f 0) (f 1) (f 2) (f 3) (f 4) (f 5) (f 6) (f 7) ⟨r, h⟩
 obtain ⟨g, hg⟩ : ∃ g : Nat → Bool, (fun i => match i with | 0 => f 0 | 1 => f 1 | 2 => f 2 | 3 => f 3 | 4 => f 4 | 5 => f 5 | 6 => f 6 | _ => f 7 : Nat → Bool) = g := ⟨_, rfl⟩
 rw [hg] at k
 have hfg : ∀ i, i < 8 → f i = g i := by
  intro i hi
  rw [← hg]
  rcases i with _ | _ | _ | _ | _ | _ | _ | _ | i <;> first | rfl | omega
 have e1 : byte8 f = byte8 g := byte8_congr hfg
 have e2 : byte8 (fun i => if i = r then true else f i) = byte8 (fun i => if i = r then true else g i) := byte8_congr fun i hi => by
  by_cases e : i = r
  ·simp [e]
  ·simp [e, hfg i hi]
 rw [e1, e2]
 exact k (by show g r = false; rw [← hfg r h]; exact hf)
def packW (m : Nat) (l : List Bool) : List UInt8 := (List.range m).map fun j => byte8 fun r => l.getD (8 * (m - 1 - j) + r) false
def packL (l : List Bool) : List UInt8 := packW ((l.length + 7) / 8) l
theorem packW_len (m : Nat) (l : List Bool) : (packW m l).length = m := by simp [packW]
theorem packW_nil (m : Nat) : packW m [] = List.replicate m 0 := by
 apply List.ext_getElem (by simp [packW])
 intro i h1 h2
 simp [packW, byte8_false]
theorem packW_get (m : Nat) (l : List Bool) (j : Nat) (h : j < m) : (packW m l).getD j 0 = byte8 fun r => l.getD (8 * (m - 1 - j) + r) false := by
 rw [List.getD_eq_getElem?_getD, packW, List.getElem?_map, List.getElem?_range h]
 rfl
theorem getD_snoc (l : List Bool) (x : Bool) (i : Nat) : (l ++ [x]).getD i false = if i = l.length then x else l.getD i false := by
 rw [List.getD_eq_getElem?_getD, List.getD_eq_getElem?_getD]
 by_cases h : i < l.length
 ·rw [List.getElem?_append_left h, if_neg (by omega)]
 ·rw [List.getElem?_append_right (by omega)]
  by_cases e : i = l.length
  ·simp [e]
  ·rw [if_neg e, List.getElem?_eq_none (by simp; omega), List.getElem?_eq_none (by omega)]
theorem packW_false (m : Nat) (l : List Bool) : packW m (l ++ [false]) = packW m l := by
 unfold packW
 congr 1
 funext j
 congr 1
 funext r
 rw [getD_snoc]
 split
 ·rename_i h; rw [h, List.getD_eq_getElem?_getD, List.getElem?_eq_none (by omega)]; rfl
 ·rfl
theorem packW_true (m : Nat) (l : List Bool) (h : l.length / 8 < m) (v : UInt8) (hv : (packW m l).getD (m - 1 - l.length / 8) 0 = v) :
  packW m (l ++ [true]) = (packW m l).set (m - 1 - l.length / 8) (v ||| UInt8.ofNat (2 ^ (l.length % 8))) ∧ v.toNat + 2 ^ (l.length % 8) < 256 ∧ (v ||| UInt8.ofNat (2 ^ (l.length % 8))).toNat = v.toNat + 2 ^ (l.length % 8) := by
 obtain ⟨q, hq⟩ : ∃ q, l.length / 8 = q := ⟨_, rfl⟩
 obtain ⟨r0, hr0⟩ : ∃ r, l.length % 8 = r := ⟨_, rfl⟩
 rw [hq] at h hv ⊢
 rw [hr0]
 have hl : l.length = 8 * q + r0 := by omega
 rw [packW_get m l _ (by omega), show m - 1 - (m - 1 - q) = q by omega] at hv
 have key := byte8_set (fun r => l.getD (8 * q + r) false) r0 (by omega) (by show l.getD (8 * q + r0) false = false; rw [List.getD_eq_getElem?_getD, List.getElem?_eq_none (by omega)]; rfl)
 rw [hv] at key
 refine ⟨?_, key.2⟩
 rw [← key.1]
 apply List.ext_getElem (by simp [packW])
 intro j h1 h2
 have hj : j < m := by simpa [packW] using h1
 rw [List.getElem_set]
 have e1 : (packW m (l ++ [true]))[j] = byte8 fun r => (l ++ [true]).getD (8 * (m - 1 - j) + r) false := by simp [packW]
 have e2 : (packW m l)[j]'(by simpa [packW] using hj) = byte8 fun r => l.getD (8 * (m - 1 - j) + r) false := by simp [packW]
 rw [e1, e2]
 by_cases e : m - 1 - q = j
 ·rw [if_pos e]
  have : m - 1 - j = q := by omega
  rw [this]
  refine byte8_congr fun r hr => ?_
  rw [getD_snoc, hl]
  by_cases er : r = r0
  ·simp [er]
  ·rw [if_neg (by omega), if_neg er]
 ·rw [if_neg e]
  refine byte8_congr fun r hr => ?_
  rw [getD_snoc, if_neg (by omega)]
end Go.Proofs.YtgclnikdkfpflaaGreatDoor
