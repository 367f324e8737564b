/- Merged: CoD, HeldF, FldE, FldT. -/
import Derived.Test.YtgclnikdkfpflaaGreatDoorMt1
import Derived.Test.YtgclnikdkfpflaaGreatDoorMt3
import Derived.Test.YtgclnikdkfpflaaGreatDoorMt4
import Derived.Test.YtgclnikdkfpflaaGreatDoorMt7
namespace Go.Proofs.YtgclnikdkfpflaaGreatDoor
open Go.RowKit Go.Shelf
open List renaming set_cons_zero → jz, set_cons_succ → js, setIfInBounds_toArray → jb
set_option linter.unusedVariables false
set_option linter.unusedSimpArgs false
set_option maxRecDepth 100000
set_option maxHeartbeats 16000000
section
variable {P : Program}
theorem exec_load_mid {W : World} {a : Act} {o : Oper} {ty : TypeId} {x : Operand} {b off : Nat} (ho : o.op = .load ty x) (hx : a.eval x = .pointer (some ⟨b, off, none⟩)) (cs : List Value) (hc : W.rangeAt b off cs) (d : TypeDesc)
  (hu : P.underlying ty = some d) (hd : d.isRow = true) (hi : (P.info? ty).map (·.size) = some cs.length) : (execOp a.eval o).run P W = .ok (.value (.agg cs.toArray)) W := by
 unfold execOp
 simp only [ho, hx, Instr.loadAt, Instr.sureAddr, Sem.run_bind, Sem.run_pure, Result.andThen_ok, run_loadVar_mid W b off ty cs d hc hu hd hi]
end
theorem rangeAt_below {W V : World} {B g o : Nat} {cs : List Value} (h : W.rangeAt g o cs) (hV : Below B W V) (hg : g < B) : V.rangeAt g o cs := fun j v hv => (hV.cell (p := ⟨g, o + j, none⟩) hg).trans (h j v hv)
theorem exec_neA {a : Act} {o : Oper} {x y : Value} {r : Bool} (h : ∀ w, (Op.equalIn 10000 89 x y).run Tryz.prog w = .ok r w) (W : World) {p q : Operand} {u : TypeId} (ho : o.op = .binOp .neq 89 p q u) (hp : a.eval p = x) (hq : a.eval q = y) {xs ys : Array Value} (hx : x = .agg xs) (hy : y = .agg ys) :
  (execOp a.eval o).run Tryz.prog W = .ok (.value (.bool (!r))) W := by
 have hm : Tryz.prog.eqGuardType Tryz.prog.depth 89 = false := by kernel_rfl
 subst hx; subst hy
 have h1 := run_eqGuard_agg (P := Tryz.prog) W .neq 89 p q xs ys hm
 have h2 := run_neq_struct (P := Tryz.prog) W 89 xs ys
 rw [h W] at h2
 unfold execOp
 generalize a.eval = ev at *
 simp only [ho, hp, hq]
 generalize eqGuard .neq 89 p q (.agg xs) (.agg ys) = G at *
 generalize binOp .neq 89 (.agg xs) (.agg ys) = M at *
 simp [go_sem, h1, h2]
theorem rows_extG {α : Type} (d : α) {xs ys : List α} (h : xs.length = ys.length) (hi : ∀ i, i < xs.length → xs.getD i d = ys.getD i d) : xs = ys := by
 apply List.ext_getElem h
 intro i h1 h2
 have := hi i h1
 rwa [List.getD_eq_getElem?_getD, List.getD_eq_getElem?_getD, List.getElem?_eq_getElem h1, List.getElem?_eq_getElem h2] at this
def accC (x : AccV) (T : Option Addr) (tc : Nat) : Array Value := #[.string x.addr, .slice T x.keys.length tc]
theorem accPair_any (x y : AccV) (B B' : Nat) (T T' : Option Addr) (tc tc' : Nat) (w : World) (h : Reads w B 1 T x.keys.length (x.keys.map Value.string)) (h' : Reads w B' 1 T' y.keys.length (y.keys.map Value.string)) (hB : B ≤ w.heap.size) (hB' : B' ≤ w.heap.size) (hn : x.keys.length ≤ 9223372036854775807) (hm : y.keys.length ≤ 9223372036854775807) :
  Calls Tryz.prog 97 #[.agg (accC x T tc), .agg (accC y T' tc')] w fun e w' => e = .returned (.bool (decide (x = y))) ∧ w.grownBy w' none := by
 have hG := only_alloc (only_alloc (World.grownBy.refl w none) (.cells (accC x T tc) 82)) (.cells (accC y T' tc') 82)
 have hb1 := (Blk.new w 82 (accC x T tc)).alloc (.cells (accC y T' tc') 82)
 have hb2 := Blk.new (w.alloc (.cells (accC x T tc) 82)) 82 (accC y T' tc')
 rw [World.size_alloc] at hb2
 have hR := h.grown hG hB (by simp); have hR' := h'.grown hG hB' (by simp)
 obtain ⟨xa, xk⟩ := x
 obtain ⟨ya, yk⟩ := y
 simp only [accC] at *
 have hE : decide (AccV.mk xa xk = AccV.mk ya yk) = (decide (xa = ya) && decide (xk = yk)) := by simp
 rw [hE]
 obtain ⟨s, hs⟩ : ∃ s, decide (xk = yk) = s := ⟨_, rfl⟩
 rw [hs]
 have HSS := Lib.hid hs
 clear hs
 obtain ⟨n, hln⟩ : ∃ n, xk.length = n := ⟨_, rfl⟩
 obtain ⟨m, hlm⟩ : ∃ n, yk.length = n := ⟨_, rfl⟩
 rw [hln] at hb1 hb2 hR hR' hG hn ⊢
 rw [hlm] at hb1 hb2 hR hR' hG hm ⊢
 have HC := Lib.hid (fun V hV hV' => equalS_any B B' T T' n m tc tc' xk yk V hV hV' hn hm)
 have HR := Lib.hid hR; have HR' := Lib.hid hR'; have HG := Lib.hid hG
 clear h h' hB hB' hR hR' hG hE hln hlm hn hm
 go_enter Tryz.func97, Tryz.ntmps97
 go_upto_region 1 with (fail)
 obtain ⟨g, hg⟩ : ∃ g, w.heap.size = g := ⟨_, rfl⟩
 rw [hg] at hb1 hb2 ⊢
 clear hg
 generalize (w.alloc (.cells #[.string xa, .slice T n tc] 82)).alloc (.cells #[.string ya, .slice T' m tc'] 82) = w1 at *
 have c0 := hb1.cell 0; have c1 := hb1.cell 1; have d0 := hb2.cell 0; have d1 := hb2.cell 1
 simp only [List.getElem?_toArray, List.getElem?_cons_zero, List.getElem?_cons_succ] at c0 c1 d0 d1
 clear hb1 hb2
 by_cases ha : xa = ya
 ·subst ha
  have q : (xa.toList == xa.toList) = true := by simp
  go_wp2_with fail
  refine (HC.out _ HR.out HR'.out).mono ?_
  rintro e w2 ⟨rfl, hg⟩
  have HG := Lib.hid (grown_self HG.out hg (by simp))
  rw [HSS.out]
  clear c0 c1 d0 d1 hg q HSS
  go_wp2_with fail
  go_ret
  exact ⟨by simp, HG.out⟩
 ·have q : (xa.toList == ya.toList) = false := str_ne ha
  have HA := Lib.hid (decide_eq_false ha)
  clear ha
  go_wp2_with fail
  go_ret
  exact ⟨by rw [HA.out]; rfl, HG.out⟩
theorem accSame_any (B B' : Nat) (A A' : Option Addr) (n m c d : Nat) (xs ys : List AccV) (w : World) (h : AccR B w xs A n) (h' : AccR B' w ys A' m) (hB : B ≤ w.heap.size) (hB' : B' ≤ w.heap.size) (hn : n ≤ 9223372036854775807) (hm : m ≤ 9223372036854775807) :
  Calls Tryz.prog 99 #[.slice A n c, .slice A' m d, .func (.func 97) #[] #[]] w fun e w' => e = .returned (.bool (decide (xs = ys))) ∧ w.grownBy w' none := by
 have hl := h.1; have hl' := h'.1
 by_cases hnm : n = m
 ·subst hnm
  have HL := Lib.hid hl; have HL' := Lib.hid hl'
  have HH := Lib.hid h; have HH' := Lib.hid h'
  have HB := Lib.hid hB; have HB' := Lib.hid hB'
  have qe : ((n : Int) != (n : Int)) = false := by simp
  clear hl hl' h h' hB hB'
  go_enter Tryz.func99, Tryz.ntmps99
  go_wp2_with fail
  clear qe
  go_loopw [17] (fun i wr => ∃ k : Nat, i = .int .i64 k ∧ k ≤ n ∧ w.grownBy wr none ∧ Hid (∀ i : Nat, i < k → xs.getD i AccV.none_ = ys.getD i AccV.none_)) (fun i _ => n - (intOf i).toNat)
  case atStart => exact ⟨0, rfl, by omega, World.grownBy.refl _ _, Lib.hid (by intro i h1; omega)⟩
  case round =>
   obtain ⟨k, rfl, hk, hg, h2⟩ := hrel
   have h2' := Lib.hid h2.out
   have HGG := Lib.hid hg
   by_cases hlt : k < n
   ·obtain ⟨g, off, T, tc, x, rfl, hx, _, c0, c1, hT, hTn⟩ := (HH.out.grown hg HB.out).at_ hlt
    obtain ⟨g', off', T', tc', y, rfl, hy, _, d0, d1, hT', hTn'⟩ := (HH'.out.grown hg HB'.out).at_ hlt
    have q1 : (k : Int) < (n : Int) := by omega
    have HX := Lib.hid hx; have HY := Lib.hid hy
    have HCALL := Lib.hid (fun (V : World) (hV : wr.grownBy V none) => accPair_any x y B B' T T' tc tc' V (hT.grown hV (Nat.le_trans HB.out hg.size) (by simp)) (hT'.grown hV (Nat.le_trans HB'.out hg.size) (by simp)) (Nat.le_trans (Nat.le_trans HB.out hg.size) hV.size) (Nat.le_trans (Nat.le_trans HB'.out hg.size) hV.size) hTn hTn')
    clear h2 hx hy hT hT' hTn hTn'
    obtain ⟨r, hr⟩ : ∃ r, decide (x = y) = r := ⟨_, rfl⟩
    rw [hr] at HCALL
    have HRR := Lib.hid hr
    clear hr
    simp only [accC] at HCALL
    have hGa := only_alloc (World.grownBy.refl wr none) (.cells #[.string x.addr, .slice T x.keys.length tc] 82)
    have hGb := only_alloc hGa (.cells #[.string y.addr, .slice T' y.keys.length tc'] 82)
    have d0' := hGa.cell d0 (fun h => by cases h); have d1' := hGa.cell d1 (fun h => by cases h)
    go_wp2_with fail
    refine (HCALL.out _ hGb).mono ?_
    rintro e w2 ⟨rfl, hg2⟩
    have HG2 := Lib.hid (grown_self (grown_self HGG.out hGb (by simp)) hg2 (by simp))
    clear c0 c1 d0 d1 hg2 HCALL hGa hGb d0' d1' hg
    cases r with
    | true =>
     go_wp2_with fail
     refine ⟨⟨k + 1, by go_num, by omega, HG2.out, Lib.hid fun i hi => ?_⟩, by simp [intOf]; omega⟩
     by_cases hik : i = k
     ·rw [hik, HX.out, HY.out]; exact of_decide_eq_true HRR.out
     ·exact h2'.out i (by omega)
    | false =>
     go_wp2_with fail
     go_ret
     refine ⟨?_, HG2.out⟩
     rw [show decide (xs = ys) = false from decide_eq_false (fun e => of_decide_eq_false HRR.out (by rw [← HX.out, ← HY.out, e]))]
     rfl
   ·have he : xs = ys := rows_extG AccV.none_ (by rw [HL.out, HL'.out]) fun i hi => h2'.out i (by have := HL.out; omega)
    have HE := Lib.hid he
    have q0 : (n : Int) ≤ (k : Int) := by omega
    clear he h2 hg
    go_wp2_with fail
    go_ret
    exact ⟨by rw [decide_eq_true HE.out]; rfl, HGG.out⟩
 ·have hne : ¬ xs = ys := by rintro rfl; exact hnm (hl.symm.trans hl')
  have HE := Lib.hid hne
  have hb : ((n : Int) != (m : Int)) = true := by simp; omega
  clear hne hnm hl hl' h h' hB hB'
  go_enter Tryz.func99, Tryz.ntmps99
  go_wp2_with fail
  go_ret
  exact ⟨by rw [decide_eq_false HE.out]; rfl, World.grownBy.refl _ _⟩
theorem autSame_any (B B' : Nat) (A A' : Option Addr) (n m c d : Nat) (xs ys : List AutV) (w : World) (h : AutR B w xs A n) (h' : AutR B' w ys A' m) (hB : B ≤ w.heap.size) (hB' : B' ≤ w.heap.size) (hn : n ≤ 9223372036854775807) (hm : m ≤ 9223372036854775807) (ox : ∀ x ∈ xs, x.Ok) (oy : ∀ y ∈ ys, y.Ok) :
  Calls Tryz.prog 100 #[.slice A n c, .slice A' m d] w fun e w' => e = .returned (.bool (decide (xs = ys))) ∧ w.grownBy w' none := by
 have hl := h.1; have hl' := h'.1
 by_cases hnm : n = m
 ·subst hnm
  have HL := Lib.hid hl; have HL' := Lib.hid hl'
  have HH := Lib.hid h; have HH' := Lib.hid h'
  have HB := Lib.hid hB; have HB' := Lib.hid hB'
  have HOX := Lib.hid ox; have HOY := Lib.hid oy
  have qe : ((n : Int) != (n : Int)) = false := by simp
  clear hl hl' h h' hB hB' ox oy
  go_enter Tryz.func100, Tryz.ntmps100
  go_wp2_with fail
  clear qe
  go_loopw [13] (fun i wr => ∃ k : Nat, i = .int .i64 k ∧ k ≤ n ∧ w.grownBy wr none ∧ Hid (∀ i : Nat, i < k → xs.getD i AutV.none_ = ys.getD i AutV.none_)) (fun i _ => n - (intOf i).toNat)
  case atStart => exact ⟨0, rfl, by omega, World.grownBy.refl _ _, Lib.hid (by intro i h1; omega)⟩
  case round =>
   obtain ⟨k, rfl, hk, hg, h2⟩ := hrel
   have h2' := Lib.hid h2.out
   have HGG := Lib.hid hg
   by_cases hlt : k < n
   ·obtain ⟨g, off, x, rfl, hx, mx, hcx⟩ := (HH.out.grown hg).at_ hlt
    obtain ⟨g', off', y, rfl, hy, my, hcy⟩ := (HH'.out.grown hg).at_ hlt
    have lg : g < wr.heap.size := World.block_lt_of_cell? wr _ (hcx 0 _ rfl)
    have lg' : g' < wr.heap.size := World.block_lt_of_cell? wr _ (hcy 0 _ rfl)
    have q1 : (k : Int) < (n : Int) := by omega
    have q2 : (0 : Int) ≤ (k : Int) := by omega
    have HX := Lib.hid hx; have HY := Lib.hid hy
    have HEQ := Lib.hid (eq_aut (HOX.out x mx) (HOY.out y my))
    have HCX := Lib.hid hcx; have HCY := Lib.hid hcy
    rw [autB_eq] at HEQ
    obtain ⟨r, hr⟩ : ∃ r, decide (x = y) = r := ⟨_, rfl⟩
    rw [hr] at HEQ
    have HRR := Lib.hid hr
    clear h2 hx hy hr hcx hcy mx my hg
    go_upto_region 6 with (fail)
    have hC0 : (fun V => Below wr.heap.size wr V) wr.drew := ⟨rfl, rfl, rfl, Nat.le_refl _, fun _ _ => rfl⟩
    refine wp_region_class (fun V => Below wr.heap.size wr V) (by kernel_rfl) (by kernel_rfl) hC0 ?_
    have hcc := class_const hC0
    (try simp only [Act.put])
    (repeat go_big_quiet_step (fail))
    refine wpQuiet_value rfl (.agg (autL x).toArray) (fun V hV => exec_load_mid rfl rfl (autL x) (rangeAt_below HCX.out hV lg) _ Tryz.underlying89 rfl (by kernel_rfl)) ?_
    simp only [Act.put, jb, jz, js]
    (repeat go_big_quiet_step (fail))
    refine wpQuiet_value rfl (.agg (autL y).toArray) (fun V hV => exec_load_mid rfl rfl (autL y) (rangeAt_below HCY.out hV lg') _ Tryz.underlying89 rfl (by kernel_rfl)) ?_
    simp only [Act.put, jb, jz, js]
    refine wpQuiet_value rfl (.bool (!r)) (fun V hV => exec_neA HEQ.out V rfl rfl rfl rfl rfl) ?_
    simp only [Act.put, jb, jz, js]
    refine wpQuiet_nil ?_
    intro w3 hw3
    have HG2 := Lib.hid (grown_self HGG.out (grown_of_below hw3) (by simp))
    clear hcc hC0 hw3 HCX HCY lg lg'
    cases r with
    | true =>
     go_wp2_with fail
     refine ⟨⟨k + 1, by go_num, by omega, HG2.out, Lib.hid fun i hi => ?_⟩, by simp [intOf]; omega⟩
     by_cases hik : i = k
     ·rw [hik, HX.out, HY.out]; exact of_decide_eq_true HRR.out
     ·exact h2'.out i (by omega)
    | false =>
     go_wp2_with fail
     go_ret
     refine ⟨?_, HG2.out⟩
     rw [show decide (xs = ys) = false from decide_eq_false (fun e => of_decide_eq_false HRR.out (by rw [← HX.out, ← HY.out, e]))]
     rfl
   ·have he : xs = ys := rows_extG AutV.none_ (by rw [HL.out, HL'.out]) fun i hi => h2'.out i (by have := HL.out; omega)
    have HE := Lib.hid he
    have q0 : (n : Int) ≤ (k : Int) := by omega
    clear he h2 hg
    go_wp2_with fail
    go_ret
    exact ⟨by rw [decide_eq_true HE.out]; rfl, HGG.out⟩
 ·have hne : ¬ xs = ys := by rintro rfl; exact hnm (hl.symm.trans hl')
  have HE := Lib.hid hne
  have hb : ((n : Int) != (m : Int)) = true := by simp; omega
  clear hne hnm hl hl' h h' hB hB'
  go_enter Tryz.func100, Tryz.ntmps100
  go_wp2_with fail
  go_ret
  exact ⟨by rw [decide_eq_false HE.out]; rfl, World.grownBy.refl _ _⟩
theorem txSameC_any (a b : TxV) (B B' : Nat) (sa sb sa' sb' : Value) (w : World) (ha : TxIn B w a sa sb) (hb : TxIn B' w b sa' sb') (hB : B ≤ w.heap.size) (hB' : B' ≤ w.heap.size) (oa : a.Ok) (ob : b.Ok) :
  Calls Tryz.prog 59 #[.agg (txC a sa sb), .agg (txC b sa' sb')] w fun e w' => e = .returned (.bool (decide (a = b))) ∧ w.grownBy w' none := by
 have hG := only_alloc (only_alloc (World.grownBy.refl w none) (.cells (txC a sa sb) 42)) (.cells (txC b sa' sb') 42)
 have hb1 := (Blk.new w 42 (txC a sa sb)).alloc (.cells (txC b sa' sb') 42)
 have hb2 := Blk.new (w.alloc (.cells (txC a sa sb) 42)) 42 (txC b sa' sb')
 rw [World.size_alloc] at hb2
 have hA := ha.grown hG hB; have hA' := hb.grown hG hB'
 have hS := Nat.le_trans hB hG.size; have hS' := Nat.le_trans hB' hG.size
 obtain ⟨⟨p, c, rfl, acc⟩, ⟨p', c', rfl, aut⟩, la, lb⟩ := hA
 obtain ⟨⟨q, d, rfl, acc'⟩, ⟨q', d', rfl, aut'⟩, la', lb'⟩ := hA'
 rw [← restB_eq a b]
 obtain ⟨r1, hr1⟩ : ∃ r, decide (a.acc = b.acc) = r := ⟨_, rfl⟩
 obtain ⟨r2, hr2⟩ : ∃ r, decide (a.auths = b.auths) = r := ⟨_, rfl⟩
 obtain ⟨R, hR⟩ : ∃ R, restB a b = R := ⟨_, rfl⟩
 rw [hr1, hr2, hR]
 have HR1 := Lib.hid hr1; have HR2 := Lib.hid hr2
 have HO := Lib.hid (fun V => txRestC_any a (.slice p a.acc.length c) (.slice p' a.auths.length c') V); have HO' := Lib.hid (fun V => txRestC_any b (.slice q b.acc.length d) (.slice q' b.auths.length d') V)
 have HEQ := Lib.hid (eq_rest oa ob)
 rw [hR] at HEQ
 clear hr1 hr2 hR
 generalize hca : txC a (.slice p a.acc.length c) (.slice p' a.auths.length c') = ca at *
 generalize hcb : txC b (.slice q b.acc.length d) (.slice q' b.auths.length d') = cb at *
 have z1 : ca[18]? = some (.slice p a.acc.length c) := by rw [← hca]; rfl
 have z2 : ca[19]? = some (.slice p' a.auths.length c') := by rw [← hca]; rfl
 have z3 : cb[18]? = some (.slice q b.acc.length d) := by rw [← hcb]; rfl
 have z4 : cb[19]? = some (.slice q' b.auths.length d') := by rw [← hcb]; rfl
 have si : ca.size = 36 := by rw [← hca]; rfl
 have sj : cb.size = 36 := by rw [← hcb]; rfl
 have HACC := Lib.hid acc; have HACC' := Lib.hid acc'; have HAUT := Lib.hid aut; have HAUT' := Lib.hid aut'
 have HSI := Lib.hid hS; have HSJ := Lib.hid hS'; have HLA := Lib.hid la; have HLA' := Lib.hid la'; have HLB := Lib.hid lb; have HLB' := Lib.hid lb'
 have HOA := Lib.hid oa.auths; have HOB := Lib.hid ob.auths
 have HSZ := Lib.hid si; have HSZ' := Lib.hid sj
 have HG := Lib.hid hG
 clear hG ha hb hB hB' hS hS' acc acc' aut aut' la la' lb lb' oa ob hca hcb si sj
 go_enter Tryz.func59, Tryz.ntmps59
 go_upto_region 1 with (fail)
 obtain ⟨g, hg⟩ : ∃ g, w.heap.size = g := ⟨_, rfl⟩
 rw [hg] at hb1 hb2 ⊢
 clear hg
 generalize (w.alloc (.cells ca 42)).alloc (.cells cb 42) = w1 at *
 have c18 := (hb1.cell 18).trans z1; have c19 := (hb1.cell 19).trans z2
 have d18 := (hb2.cell 18).trans z3; have d19 := (hb2.cell 19).trans z4
 have HB1 := Lib.hid hb1; have HB2 := Lib.hid hb2
 clear hb1 hb2 z1 z2 z3 z4
 go_wp2_with fail
 refine (accSame_any B B' p q _ _ c d a.acc b.acc _ HACC.out HACC'.out HSI.out HSJ.out HLA.out HLA'.out).mono ?_
 rintro e w2 ⟨rfl, hg2⟩
 have HG := Lib.hid (grown_self HG.out hg2 (by simp))
 have HB1 := Lib.hid (HB1.out.grown hg2 (by simp)); have HB2 := Lib.hid (HB2.out.grown hg2 (by simp))
 have HAUT := Lib.hid (HAUT.out.grown hg2); have HAUT' := Lib.hid (HAUT'.out.grown hg2)
 have HSI := Lib.hid (Nat.le_trans HSI.out hg2.size); have HSJ := Lib.hid (Nat.le_trans HSJ.out hg2.size)
 replace c19 := hg2.cell c19 (by simp); replace d19 := hg2.cell d19 (by simp)
 clear c18 d18 hg2 HACC HACC'
 rw [HR1.out]
 clear HR1
 cases r1 with
 | false =>
  go_wp2_with fail
  go_ret
  exact ⟨by simp, HG.out⟩
 | true =>
 go_wp2_with fail
 refine (autSame_any B B' p' q' _ _ c' d' a.auths b.auths _ HAUT.out HAUT'.out HSI.out HSJ.out HLB.out HLB'.out HOA.out HOB.out).mono ?_
 rintro e w3 ⟨rfl, hg3⟩
 have HG := Lib.hid (grown_self HG.out hg3 (by simp))
 have HB1 := Lib.hid (HB1.out.grown hg3 (by simp)); have HB2 := Lib.hid (HB2.out.grown hg3 (by simp))
 clear c19 d19 hg3 HAUT HAUT' HSI HSJ
 rw [HR2.out]
 clear HR2
 cases r2 with
 | false =>
  go_wp2_with fail
  go_ret
  exact ⟨by simp, HG.out⟩
 | true =>
 obtain ⟨ra, hra⟩ : ∃ r, restC a = r := ⟨_, rfl⟩
 obtain ⟨rb, hrb⟩ : ∃ r, restC b = r := ⟨_, rfl⟩
 rw [hra] at HO HEQ
 rw [hrb] at HO' HEQ
 clear hra hrb
 go_upto_region 5 with (fail)
 have l1 := HB1.out.lt; have l2 := HB2.out.lt
 have hC0 : (fun V => Below w3.heap.size w3 V) w3.drew := ⟨rfl, rfl, rfl, Nat.le_refl _, fun _ _ => rfl⟩
 refine wp_region_class (fun V => Below w3.heap.size w3 V) (by kernel_rfl) (by kernel_rfl) hC0 ?_
 have hcc := class_const hC0
 (try simp only [Act.put])
 (repeat go_big_quiet_step (fail))
 refine wpQuiet_value rfl (.agg ca) (fun V hV => exec_load_rowT rfl rfl 42 ca _ (HB1.out.below hV l1) Tryz.underlying42 rfl ((show (Tryz.prog.info? 42).map (·.size) = some 36 by kernel_rfl).trans (congrArg some HSZ.out.symm))) ?_
 simp only [Act.put, jb, jz, js]
 refine quiet_callW (.agg ra) 101 #[.agg ca] rfl (fun V => exec_callv1 _ (.tmp 22) (.tmp 23) _ rfl rfl _ rfl (enters_of Tryz.func101 (by kernel_rfl) rfl _ _)) (fun V hV => HO.out V) ?_
 simp only [Act.put, jb, jz, js]
 (repeat go_big_quiet_step (fail))
 refine wpQuiet_value rfl (.agg cb) (fun V hV => exec_load_rowT rfl rfl 42 cb _ (HB2.out.below hV l2) Tryz.underlying42 rfl ((show (Tryz.prog.info? 42).map (·.size) = some 36 by kernel_rfl).trans (congrArg some HSZ'.out.symm))) ?_
 simp only [Act.put, jb, jz, js]
 refine quiet_callW (.agg rb) 101 #[.agg cb] rfl (fun V => exec_callv1 _ (.tmp 25) (.tmp 26) _ rfl rfl _ rfl (enters_of Tryz.func101 (by kernel_rfl) rfl _ _)) (fun V hV => HO'.out V) ?_
 simp only [Act.put, jb, jz, js]
 refine wpQuiet_value rfl (.bool R) (fun V hV => exec_eqR HEQ.out V rfl rfl rfl rfl rfl) ?_
 simp only [Act.put, jb, jz, js]
 (repeat go_big_quiet_step (fail))
 refine wpQuiet_nil ?_
 intro w4 hw4
 have HG := Lib.hid (grown_self HG.out (grown_of_below hw4) (by simp))
 clear hcc hC0 hw4
 go_wp2_with fail
 go_ret
 exact ⟨by simp, HG.out⟩
section
variable {P : Program} {ops : Array Oper} {Q : Exit → Act → World → Prop} {md : Region.Mode} {S : Bool → World → Prop} {s : Nat}
def wpAnyF (P : Program) (md : Region.Mode) (ops : Array Oper) (Q : Exit → Act → World → Prop) (S : Bool → World → Prop) (s : Nat) : Nat → Array Bool → Act → World → Prop
 | 0, listed, a, w => Region.ready md ops listed = [] ∧ Q .normal a w
 | fuel + 1, listed, a, w =>
  (Region.ready md ops listed = [] → Q .normal a w) ∧
  ∀ i ∈ Region.ready md ops listed, wpOp P ops Q i (fun a' w' => S ((listed.setIfInBounds i true).getD s false) w' ∧ wpAnyF P md ops Q S s fuel (listed.setIfInBounds i true) a' w') a w
theorem wpAny_of_F : ∀ (fuel : Nat) (listed : Array Bool) (a : Act) (w : World), wpAnyF P md ops Q S s fuel listed a w → wpAny P md ops Q fuel listed a w
 | 0, _, _, _, h => h
 | fuel + 1, _, _, _, h => ⟨h.1, fun i hi => wpOp_mono (fun a' w' h' => wpAny_of_F fuel _ a' w' h'.2) (h.2 i hi)⟩
theorem getD_set_s {listed : Array Bool} {i : Nat} (h : i ≠ s) : (listed.setIfInBounds i true).getD s false = listed.getD s false := by
 simp [Array.getElem?_setIfInBounds_ne h]
theorem wpAnyF_first {i : Nat} {oi : Oper} {v : Value} (hi : ops[i]? = some oi) (hsel : ∀ (j : Nat) (o : Oper) cs b, ops[j]? = some o → o.op ≠ .select cs b)
  (hQ : ∀ c a w, Q (.panic c) (a.put oi.dst v) w → Q (.panic c) a w) (his : i ≠ s) (hdep : ∀ os, ops[s]? = some os → ∃ e ∈ os.after, Region.binds md e = true ∧ e.on = i) :
  ∀ (fuel : Nat) (listed : Array Bool) (a : Act) (w : World),
   (∀ j oj, ops[j]? = some oj → j ≠ i → listed.getD j true = false → (∀ e ∈ oj.after, Region.binds md e = true → e.on ≠ i) → oi.apart ops oj = true) →
   i ∈ Region.ready md ops listed → YieldsIf P ops (S false) oi v a → listed.getD s false = false → S false w →
   wpAnyF P md ops Q S s fuel (listed.setIfInBounds i true) (a.put oi.dst v) w → wpAnyF P md ops Q S s (fuel + 1) listed a w := by
 have hjs : ∀ (listed : Array Bool), i ∈ Region.ready md ops listed → s ∉ Region.ready md ops listed := by
  intro listed hr hs
  obtain ⟨_, os, hos, hall⟩ := mem_ready.1 hs
  obtain ⟨e, he, hb, hon⟩ := hdep os hos
  have h1 := hall e he hb
  have h0 := (mem_ready.1 hr).1
  rw [hon] at h1
  rcases Nat.lt_or_ge i listed.size with h' | h'
  ·simp [h'] at h0 h1; rw [h0] at h1; cases h1
  ·simp [Array.getElem?_eq_none h'] at h1
 intro fuel
 induction fuel with
 | zero =>
  intro listed a w hfree hr hy hst hS H
  refine ⟨fun h => (by rw [h] at hr; cases hr), fun j hj => ?_⟩
  by_cases hji : j = i
  ·subst hji; exact hy.wpOp hi hS ⟨by rw [getD_set_s his, hst]; exact hS, H⟩
  ·have := ready_mono hj hji
   rw [H.1] at this
   cases this
 | succ fuel ih =>
  intro listed a w hfree hr hy hst hS H
  refine ⟨fun h => (by rw [h] at hr; cases hr), fun j hj => ?_⟩
  by_cases hji : j = i
  ·subst hji; exact hy.wpOp hi hS ⟨by rw [getD_set_s his, hst]; exact hS, H⟩
  ·have hjs' : j ≠ s := fun e => hjs listed hr (e ▸ hj)
   have h1 := H.2 j (ready_mono hj hji)
   obtain ⟨hjun, oj, hoj, hall⟩ := mem_ready.1 hj
   have hnot : ∀ e ∈ oj.after, Region.binds md e = true → e.on ≠ i := fun e he hb heq => by
    have h1 := hall e he hb
    have h0 := (mem_ready.1 hr).1
    rw [heq] at h1
    rcases Nat.lt_or_ge i listed.size with h' | h'
    ·simp [h'] at h0 h1; rw [h0] at h1; cases h1
    ·simp [Array.getElem?_eq_none h'] at h1
   have h2 := wpOp_putIf hoj (hfree j oj hoj hji hjun hnot) (fun cs b => hsel i oi cs b hi) (fun cs b => hsel j oj cs b hoj) hQ hy h1
   have hfree' : ∀ k ok, ops[k]? = some ok → k ≠ i → (listed.setIfInBounds j true).getD k true = false →
     (∀ e ∈ ok.after, Region.binds md e = true → e.on ≠ i) → oi.apart ops ok = true := fun k ok hk hki hun hno => by
    refine hfree k ok hk hki ?_ hno
    by_cases hjk : j = k
    ·subst hjk; exact hjun
    ·rw [getD_set_ne true hjk] at hun; exact hun
   have hst' : (listed.setIfInBounds j true).getD s false = false := by rw [getD_set_s hjs', hst]
   have hst2 : ((listed.setIfInBounds i true).setIfInBounds j true).getD s false = false := by rw [getD_set_s hjs', getD_set_s his, hst]
   refine wpOp_mono (fun a' w' h3 => ⟨by rw [hst']; have := h3.2.1; rwa [hst2] at this, ih (listed.setIfInBounds j true) a' w' hfree' (ready_mono hr (Ne.symm hji)) h3.1 hst' (by have := h3.2.1; rwa [hst2] at this) ?_⟩) h2
   rw [Array.setIfInBounds_comm _ _ hji]
   exact h3.2.2
abbrev BehindF (P : Program) (ops : Array Oper) (md : Region.Mode) (Q : Exit → Act → World → Prop) (S : Bool → World → Prop) (s : Nat) (fuel : Nat) (listed : Array Bool) (i : Nat) : Act → World → Prop := fun a' w' => S ((listed.setIfInBounds i true).getD s false) w' ∧ wpAnyF P md ops Q S s fuel (listed.setIfInBounds i true) a' w'
theorem f_take {i : Nat} {oi : Oper} {v : Value} {fuel : Nat} {listed : Array Bool} {a : Act} {w : World} (d : Option Tmp) (hi : ops[i]? = some oi)
  (hs : Region.noSelect ops = true) (hf : Region.free md ops listed i = true) (hr : (Region.ready md ops listed).contains i = true)
  (hdep : ((ops[s]?).map fun o => o.after.any fun e => Region.binds md e && e.on == i).getD false = true) (his : (i == s) = false) (hst : listed.getD s false = false)
  (hQ : ∀ c a w, Q (.panic c) (a.put oi.dst v) w → Q (.panic c) a w) (hd : oi.dst = d) (hy : YieldsIf P ops (S false) oi v a) (hS : S false w)
  (h : wpAnyF P md ops Q S s fuel (listed.setIfInBounds i true) (a.put d v) w) : wpAnyF P md ops Q S s (fuel + 1) listed a w := by
 subst hd
 refine wpAnyF_first hi (Region.noSelect_spec hs) hQ (by simpa using his) (fun os hos => ?_) fuel listed a w (Region.free_spec hi hf) (by simpa using hr) hy hst hS h
 rw [hos] at hdep
 simp only [Option.map_some, Option.getD_some] at hdep
 rw [← Array.any_toList, List.any_eq_true] at hdep
 obtain ⟨e, he, h2⟩ := hdep
 simp only [Bool.and_eq_true, beq_iff_eq] at h2
 exact ⟨e, by simpa using he, h2.1, h2.2⟩
theorem f_one {i fuel : Nat} {listed : Array Bool} {a : Act} {w : World} (hr : Region.ready md ops listed = [i]) (h : wpOp P ops Q i (BehindF P ops md Q S s fuel listed i) a w) : wpAnyF P md ops Q S s (fuel + 1) listed a w :=
 ⟨fun h0 => (by rw [hr] at h0; cases h0), by
  rw [hr]
  intro j hj
  obtain rfl : j = i := by simpa using hj
  exact h⟩
theorem f_value (d : Option Tmp) {i fuel : Nat} {listed : Array Bool} {oi : Oper} {a : Act} {w w' : World} (hi : ops[i]? = some oi) (hw : Region.wanted oi (yielded ops a.tmps) = true) (v : Value) (hrun : (execOp a.eval oi).run P w = .ok (.value v) w') (hd : oi.dst = d) (b : Bool) (hb : (listed.setIfInBounds i true).getD s false = b) (hS : S b w')
  (h : wpAnyF P md ops Q S s fuel (listed.setIfInBounds i true) (a.put d v) w') : wpOp P ops Q i (BehindF P ops md Q S s fuel listed i) a w := by
 subst hd; subst hb
 unfold wpOp
 simp only [hi, hw, if_true]
 refine .inl ?_
 unfold Oper.wp
 rw [hrun]
 exact ⟨hS, h⟩
theorem f_enter (d : Option Tmp) {i fuel : Nat} {listed : Array Bool} {oi : Oper} {a : Act} {w : World} (hi : ops[i]? = some oi) (hw : Region.wanted oi (yielded ops a.tmps) = true) (f : FuncId) (args : Array Value) (hrun : (execOp a.eval oi).run P w = .ok (.enter f args) w) (hd : oi.dst = d) (b : Bool) (hb : (listed.setIfInBounds i true).getD s false = b)
  (h : Calls P f args w fun e w' => ∃ v, e = .returned v ∧ S b w' ∧ wpAnyF P md ops Q S s fuel (listed.setIfInBounds i true) (a.put d v) w') : wpOp P ops Q i (BehindF P ops md Q S s fuel listed i) a w := by
 subst hd; subst hb
 unfold wpOp
 simp only [hi, hw, if_true]
 refine .inl ?_
 unfold Oper.wp
 rw [hrun]
 refine h.mono fun e w' he => ?_
 obtain ⟨v, rfl, hS, h⟩ := he
 exact ⟨hS, h⟩
theorem f_skip {i fuel : Nat} {listed : Array Bool} {oi : Oper} {a : Act} {w w' : World} (hi : ops[i]? = some oi) (hw : Region.wanted oi (yielded ops a.tmps) = true) (hd : oi.dst = none) (hrun : (execOp a.eval oi).run P w = .ok .skip w') (b : Bool) (hb : (listed.setIfInBounds i true).getD s false = b) (hS : S b w')
  (h : wpAnyF P md ops Q S s fuel (listed.setIfInBounds i true) a w') : wpOp P ops Q i (BehindF P ops md Q S s fuel listed i) a w := by
 subst hb
 unfold wpOp
 simp only [hi, hw, if_true]
 refine .inl ?_
 unfold Oper.wp
 rw [hrun]
 simp only [Oper.upon, hd, Act.put]
 exact ⟨hS, h⟩
theorem f_done {listed : Array Bool} {a : Act} {w : World} (hr : Region.ready md ops listed = []) (h : Q .normal a w) : ∀ fuel, wpAnyF P md ops Q S s fuel listed a w
 | 0 => ⟨hr, h⟩
 | _ + 1 => ⟨fun _ => h, by rw [hr]; simp⟩
theorem wp_region_f {id : Nat} {a : Act} {w : World} (s : Nat) (S : Bool → World → Prop) (hm : P.follows .mixedOrders = true)
  (h : wpAnyF P .any ops Q S s ops.size (Array.replicate ops.size false) a w.drew) : (Code.region id ops true).wp P Q a w :=
 wp_region_any hm (wpAny_of_F _ _ _ _ h)
end
def wordE (l : Bool) (s : ByteArray) : Int := if l then 2 else parseE s.data.toList
def wordP (l : Bool) (s : ByteArray) (q : Nat) : Nat := if l then 0 else parseP s.data.toList q
theorem getWord_any (l : Bool) (s : ByteArray) (sv : Value) (hs : s.size ≤ 9223372036854775807) (w : World) :
  Calls Tryz.prog 89 #[.agg #[.bool l, .string s, sv]] w fun e w' => e = .returned (.tuple #[.agg #[.int .u64 (wordP l s 0 : Nat), .int .u64 (wordP l s 1 : Nat), .int .u64 (wordP l s 2 : Nat), .int .u64 (wordP l s 3 : Nat)], .int .i64 (wordE l s)]) ∧ w.grownBy w' none := by
 have ho := fun V => ofWord_any l s sv (parseE s.data.toList) (wordP l s 0) (wordP l s 1) (wordP l s 2) (wordP l s 3) (fun h => by
   have key : ∀ q, wordP l s q = 0 := fun q => by
    unfold wordP
    rcases h with h | h
    ·split
     ·rfl
     ·exact if_neg h
    ·rw [h]; rfl
   exact ⟨key 0, key 1, key 2, key 3⟩) (fun h W => by
   have := parse_any s hs W
   subst h
   exact this) V
 rw [show (if l then (2 : Int) else parseE s.data.toList) = wordE l s from rfl] at ho
 have HO := Lib.hid ho
 clear ho
 generalize wordP l s 0 = a0 at *
 generalize wordP l s 1 = a1 at *
 generalize wordP l s 2 = a2 at *
 generalize wordP l s 3 = a3 at *
 generalize wordE l s = E at *
 have hB := (Blk.new w 106 #[.bool l, .string s, sv]).alloc (.cells wZ 38)
 have hR := Blk.new (w.alloc (.cells #[.bool l, .string s, sv] 106)) 38 wZ
 rw [World.size_alloc] at hR
 have hG := only_alloc (only_alloc (World.grownBy.refl w none) (.cells #[.bool l, .string s, sv] 106)) (.cells wZ 38)
 go_enter Tryz.func89, Tryz.ntmps89
 go_upto_region 1 with (fail)
 obtain ⟨b, hb⟩ : ∃ b, w.heap.size = b := ⟨_, rfl⟩
 have HWS := Lib.hid hb
 rw [hb] at hB hR ⊢
 clear hb
 generalize (w.alloc (.cells #[.bool l, .string s, sv] 106)).alloc (.cells wZ 38) = W1 at *
 have hle : w.heap.size ≤ b + 1 := by have := HWS.out; omega
 have c0 := hB.cell 0; have c1 := hB.cell 1; have c2 := hB.cell 2
 simp only [List.getElem?_toArray, List.getElem?_cons_zero, List.getElem?_cons_succ] at c0 c1 c2
 have HR := Lib.hid hR; have HG := Lib.hid hG
 clear hR hG hB
 go_wp2_with fail
 refine (HO.out _).mono ?_
 rintro e w3 ⟨rfl, hg3⟩
 have hR := HR.out.grown hg3 (by simp)
 have HB5 := Lib.hid (blk_set4 hR (.int .u64 (a0 : Int)) (.int .u64 (a1 : Int)) (.int .u64 (a2 : Int)) (.int .u64 (a3 : Int)))
 have HG5 := Lib.hid (only_set4 (grown_self HG.out hg3 (by simp)) hle (.int .u64 (a0 : Int)) (.int .u64 (a1 : Int)) (.int .u64 (a2 : Int)) (.int .u64 (a3 : Int)))
 have r0 := hR.cell 0; have r1 := hR.cell 1; have r2 := hR.cell 2; have r3 := hR.cell 3
 have f0 := hR.frozen 0; have f1 := hR.frozen 1; have f2 := hR.frozen 2; have f3 := hR.frozen 3
 simp only [List.getElem?_toArray, List.getElem?_cons_zero, List.getElem?_cons_succ] at r0 r1 r2 r3
 clear hg3 hR HR HG hle c0 c1 c2 HO
 go_wp2_with fail
 refine bodyPost_ret (results_cv (fn := Tryz.f89) rfl _ _ _ _ rfl (load_word HB5.out)) rfl ?_
 exact ⟨rfl, HG5.out⟩
theorem word_any (a0 a1 a2 a3 : Nat) (h0 : a0 < 18446744073709551616) (h1 : a1 < 18446744073709551616) (h2 : a2 < 18446744073709551616) (h3 : a3 < 18446744073709551616) (w : World) :
  Calls Tryz.prog 73 #[.agg #[.int .u64 (a0 : Int), .int .u64 (a1 : Int), .int .u64 (a2 : Int), .int .u64 (a3 : Int)]] w fun e w' => e = .returned (.agg #[.bool false, .string ⟨(beN (wordN a0 a1 a2 a3)).toArray⟩, .slice none 0 0]) ∧ w.grownBy w' none := by
 have hbe := fun V => wordBytes_any a0 a1 a2 a3 h0 h1 h2 h3 V
 obtain ⟨t, ht⟩ : ∃ t : ByteArray, (⟨(beN (wordN a0 a1 a2 a3)).toArray⟩ : ByteArray) = t := ⟨_, rfl⟩
 rw [ht] at hbe ⊢
 have HBe := Lib.hid hbe
 clear hbe ht h0 h1 h2 h3
 have hX := (Blk.new w 38 #[.int .u64 (a0 : Int), .int .u64 (a1 : Int), .int .u64 (a2 : Int), .int .u64 (a3 : Int)]).alloc (.cells #[.bool false, .string ⟨#[]⟩, .slice none 0 0] 106)
 have hB := Blk.new (w.alloc (.cells #[.int .u64 (a0 : Int), .int .u64 (a1 : Int), .int .u64 (a2 : Int), .int .u64 (a3 : Int)] 38)) 106 #[.bool false, .string ⟨#[]⟩, .slice none 0 0]
 rw [World.size_alloc] at hB
 have HG := Lib.hid (only_alloc (only_alloc (World.grownBy.refl w none) (.cells #[.int .u64 (a0 : Int), .int .u64 (a1 : Int), .int .u64 (a2 : Int), .int .u64 (a3 : Int)] 38)) (.cells #[.bool false, .string ⟨#[]⟩, .slice none 0 0] 106))
 go_enter Tryz.func73, Tryz.ntmps73
 go_upto_region 1 with (fail)
 obtain ⟨b, hb⟩ : ∃ b, w.heap.size = b := ⟨_, rfl⟩
 have HW := Lib.hid hb
 rw [hb] at hB hX ⊢
 clear hb
 generalize (w.alloc (.cells #[.int .u64 (a0 : Int), .int .u64 (a1 : Int), .int .u64 (a2 : Int), .int .u64 (a3 : Int)] 38)).alloc (.cells #[.bool false, .string ⟨#[]⟩, .slice none 0 0] 106) = W1 at *
 have x0 := hX.cell 0; have x1 := hX.cell 1; have x2 := hX.cell 2; have x3 := hX.cell 3
 simp only [List.getElem?_toArray, List.getElem?_cons_zero, List.getElem?_cons_succ] at x0 x1 x2 x3
 go_wp2_with fail
 refine (HBe.out _).mono ?_
 rintro e w3 ⟨rfl, hg3⟩
 have hB := hB.grown hg3 (by simp)
 have HG3 := Lib.hid (grown_self HG.out hg3 (by simp))
 clear hg3 x0 x1 x2 x3 hX
 go_wp2_with fail
 refine (text_any t _).mono ?_
 rintro e w4 ⟨rfl, hg4⟩
 have hB := hB.grown hg4 (by simp)
 have hG4 := grown_self HG3.out hg4 (by simp)
 have hle : w.heap.size ≤ b + 1 := by have := HW.out; omega
 have HG5 := Lib.hid (only_set (only_set (only_set hG4 (p := ⟨b + 1, 0, none⟩) hle (.bool false)) (p := ⟨b + 1, 1, none⟩) hle (.string t)) (p := ⟨b + 1, 2, none⟩) hle (.slice none 0 0))
 have HB5 := Lib.hid (((hB.set_ 0 (.bool false)).set_ 1 (.string t)).set_ 2 (.slice none 0 0))
 have c0 := hB.cell 0; have c1 := hB.cell 1; have c2 := hB.cell 2
 have d0 := hB.frozen 0; have d1 := hB.frozen 1; have d2 := hB.frozen 2
 simp only [List.getElem?_toArray, List.getElem?_cons_zero, List.getElem?_cons_succ] at c0 c1 c2
 clear hg4 hG4 hB hle
 go_wp2_with fail
 refine bodyPost_ret (results_cell1 (fn := Tryz.f73) rfl _ _ _ _ rfl (load_itemF HB5.out)) rfl ?_
 exact ⟨rfl, HG5.out⟩
abbrev txt (s : ByteArray) : Itm := .mk false s []
def txtV (xs : List ByteArray) : List Value := xs.flatMap fun s => [.bool false, .string s, .slice none 0 0]
theorem txtV_snoc (xs : List ByteArray) (s : ByteArray) : txtV (xs ++ [s]) = txtV xs ++ [.bool false, .string s, .slice none 0 0] := by simp [txtV]
theorem txtV_items (xs : List ByteArray) : txtV xs = itemsV (xs.map txt) (List.replicate xs.length (.slice none 0 0)) := by
 induction xs with
 | nil => rfl
 | cons x xs ih =>
  rw [show txtV (x :: xs) = [.bool false, .string x, .slice none 0 0] ++ txtV xs from rfl, ih]
  rfl
theorem txt_sub {u : World} {base k c : Nat} {A : Option Addr} {xs : List ByteArray} (hl : xs.length = k) (h : u.ownsRow base 106 3 (.slice A k c) k (txtV xs)) : SubV (fun g => base ≤ g) u (xs.map txt) (.slice A k c) := by
 subst hl
 rw [txtV_items] at h
 have hlen : (xs.map txt).length = xs.length := by simp
 rw [← hlen] at h ⊢
 refine SubV.of_own (by simp) h (fun i hi => ?_) (fun g hg => ownBlock_ge h hg)
 have hi' : i < xs.length := by simpa using hi
 have h1 : ((xs.map txt).getD i Itm.none_).items = [] := by
  rw [List.getD_eq_getElem?_getD, List.getElem?_map, List.getElem?_eq_getElem hi']; rfl
 have h2 : (List.replicate (xs.map txt).length (Value.slice none 0 0)).getD i undef = .slice none 0 0 := by
  rw [List.getD_eq_getElem?_getD, List.getElem?_replicate, if_pos hi]; rfl
 rw [h1, h2]
 exact .mk [] none 0 [] (fun h => by cases h) (fun i h => by cases h)
theorem sub_set3 {S : Nat → Prop} {W : World} {xs : List Itm} {v : Value} {g : Nat} (h : SubV S W xs v) (hg : ¬ S g) (x y z : Value) : SubV S (((W.setCell ⟨g, 0, none⟩ x).setCell ⟨g, 1, none⟩ y).setCell ⟨g, 2, none⟩ z) xs v := by
 refine h.keep fun p hp u hu => ?_
 have hne : g ≠ p.block := fun e => hg (e ▸ hp)
 rw [World.cell?_setCell_far _ _ _ _ hne, World.cell?_setCell_far _ _ _ _ hne, World.cell?_setCell_far _ _ _ _ hne]
 exact hu
theorem texts_any (B : Nat) (A : Option Addr) (n c : Nat) (xs : List ByteArray) (w : World) (h : Reads w B 1 A n (xs.map Value.string)) (hB : B ≤ w.heap.size) (hn : n ≤ 1000) :
  Calls Tryz.prog 111 #[.slice A n c] w fun e w' => ∃ A' c', e = .returned (.agg #[.bool true, .string ⟨#[]⟩, .slice A' n c']) ∧ SubV (fun g => w.heap.size ≤ g) w' (xs.map txt) (.slice A' n c') ∧ w.grownBy w' none := by
 have hl : xs.length = n := by have := h.1; simpa using this
 have hRB := Blk.new w 106 #[.bool false, .string ⟨#[]⟩, .slice none 0 0]
 have hG := only_alloc (World.grownBy.refl w none) (.cells #[.bool false, .string ⟨#[]⟩, .slice none 0 0] 106)
 go_enter Tryz.func111, Tryz.ntmps111
 go_upto_region 1 with (fail)
 obtain ⟨b, hb⟩ : ∃ b, w.heap.size = b := ⟨_, rfl⟩
 have HW := Lib.hid hb
 rw [hb] at hRB ⊢
 have hz : (w.alloc (.cells #[.bool false, .string ⟨#[]⟩, .slice none 0 0] 106)).heap.size = b + 1 := by simp [hb]
 have h := h.alloc hB (.cells #[.bool false, .string ⟨#[]⟩, .slice none 0 0] 106)
 generalize w.alloc (.cells #[.bool false, .string ⟨#[]⟩, .slice none 0 0] 106) = W1 at *
 go_wp2_with fail
 refine (list_any _ ⟨_, _, _, rfl⟩ _).mono ?_
 rintro e w3 ⟨rfl, hg3⟩
 obtain ⟨b3, hb3⟩ : ∃ b, w3.heap.size = b := ⟨_, rfl⟩
 have hz3 := hg3.size
 have K0 : Held3 w3 b3 (.slice none 0 0) 0 (txtV (xs.take 0)) (w3.alloc (.cells #[.bool true, .string ⟨#[]⟩, .slice none 0 0] 106)) := by
  refine ⟨?_, World.ownsRow_nil _ _ _ _, only_alloc (World.grownBy.refl w3 none) _, by simp; omega, by omega⟩
  have := Blk.new w3 106 #[.bool true, .string ⟨#[]⟩, .slice none 0 0]
  rwa [hb3] at this
 have h := h.grown hg3 (by have := HW.out; omega) (by simp)
 have h0 := Lib.hid h
 have HL := Lib.hid hl
 have HB : Hid (B ≤ w3.heap.size) := Lib.hid (by have := HW.out; omega)
 have HRB := Lib.hid (hRB.grown hg3 (by simp))
 have HG := Lib.hid (grown_self hG hg3 (by simp))
 have h := h.alloc HB.out (.cells #[.bool true, .string ⟨#[]⟩, .slice none 0 0] 106)
 have HS : Hid (w.heap.size ≤ b3) := Lib.hid (by have := HW.out; omega)
 have HZB : Hid (b + 1 ≤ b3) := Lib.hid (by omega)
 clear hG hg3 hl hB hRB
 go_upto_region 2 with (fail)
 generalize w3.alloc (.cells #[.bool true, .string ⟨#[]⟩, .slice none 0 0] 106) = W4 at *
 clear hz hz3 hb3
 go_wp2_with fail
 go_loopw [9] (fun i wr => ∃ (k : Nat) (v : Value), i = .int .i64 k ∧ k ≤ n ∧ Held3 w3 b3 v k (txtV (xs.take k)) wr) (fun i _ => n - (intOf i).toNat)
 case atStart => exact ⟨0, _, rfl, by omega, K0⟩
 case round =>
  clear K0 h
  obtain ⟨k, v, rfl, hk, K0⟩ := hrel
  have h := h0.out.grown K0.grown HB.out (by simp)
  by_cases hlt : k < n
  ·obtain ⟨g, off, rfl, hg, hc⟩ := Reads.vals Value.string .empty h hlt
   have c0 := hc k hlt
   have q1 : (k : Int) < (n : Int) := by omega
   have hTK : txtV (xs.take k) ++ [.bool false, .string (xs.getD k .empty), .slice none 0 0] = txtV (xs.take (k + 1)) := by
    rw [← txtV_snoc, List.take_add_one, List.getElem?_eq_getElem (by have := HL.out; omega), List.getD_eq_getElem?_getD, List.getElem?_eq_getElem (by have := HL.out; omega)]
    rfl
   obtain ⟨s, hs⟩ : ∃ s, xs.getD k .empty = s := ⟨_, rfl⟩
   rw [hs] at c0 hTK
   have HTK := Lib.hid hTK
   have H0 := Lib.hid h0.out
   clear h hc hs h0 hTK
   obtain ⟨vA, vc, rfl⟩ := own_slice3 K0.own
   go_wp2_with fail
   refine wp_region_held (S := fun _ => True) (by kernel_rfl) ?_
   change wpAnyH _ _ _ _ _ _ _ _ wr.drew
   replace K0 := K0.drew
   generalize wr.drew = u0 at *
   clear c0
   refine zt 0 (.pointer (some ⟨b3, 2, none⟩)) (some 13) rfl (fun W hW => by go_simp) trivial ?_
   simp only [Act.put, jb, jz, js]
   refine zt 2 (.string s) (some 15) rfl (fun W hW => by go_simp) trivial ?_
   simp only [Act.put, jb, jz, js]
   refine held_two (i := 1) (j := 3) (by kernel_rfl) ?_ ?_
   ·refine held_value (some 14) rfl rfl (.slice vA k vc) (exec_load1 104 (.tmp 13) rfl _ rfl _ _ Tryz.underlying104 rfl (K0.blk.cell 2)) rfl trivial ?_
    simp only [Act.put, jb, jz, js]
    refine held_one (i := 3) (by kernel_rfl) ?_
    refine held_enter (some 16) rfl rfl 74 #[.string s] (exec_call1 74 (.tmp 15) _ rfl _ rfl rfl) rfl ((text_any s _).mono ?_)
    rintro e u1 ⟨rfl, hgc⟩
    have K1 := K0.kept hgc
    refine ⟨_, rfl, trivial, ?_⟩
    simp only [Act.put, jb, jz, js]
    refine held_one (i := 4) (by kernel_rfl) ?_
    refine held_value (some 17) rfl rfl (.slice (some ⟨u1.heap.size, 0, none⟩) 1 1) (by go_simp <;> rfl) rfl trivial ?_
    simp only [Act.put, jb, jz, js]
    have K2 := K1.kept (only_alloc (World.grownBy.refl u1 none) (.cells #[.bool false, .string s, .slice none 0 0] 106))
    obtain ⟨i0, hi, hz0, hzs, hzb⟩ := info_parts item_info
    obtain ⟨v', u2, hrun, hown', hgrow, hiff, hob⟩ := run_append_own_at (P := Tryz.prog) (u1.alloc (.cells #[.bool false, .string s, .slice none 0 0] 106)) (b3 + 1) 104 104 106 i0 _ 3 48 Tryz.underlying104 hi hz0 hzs hzb rfl (by decide) (.slice vA k vc) k (txtV (xs.take k)) K2.own ⟨u1.heap.size, 0, none⟩ 1 1 [.bool false, .string s, .slice none 0 0] rfl (cell_three_new _ _ _ _ _) (by simp [Value.oneCell']) (by simp only [maxLen]; omega) (by omega) K2.size
    obtain ⟨g', cap', rfl⟩ := ownsRow_succ hown'
    have K3 := K2.put hown' hgrow
    refine held_one (i := 5) (by kernel_rfl) ?_
    refine held_value (some 18) rfl rfl (.slice (some ⟨g', 0, none⟩) (k + 1) cap') (exec_append (.tmp 14) (.tmp 17) 104 rfl _ _ _ rfl rfl hrun) rfl trivial ?_
    simp only [Act.put, jb, jz, js]
    refine held_one (i := 6) (by kernel_rfl) ?_
    refine held_value (some 19) rfl rfl (.pointer (some ⟨b3, 2, none⟩)) (by go_simp <;> rfl) rfl trivial ?_
    simp only [Act.put, jb, jz, js]
    refine held_one (i := 7) (by kernel_rfl) ?_
    refine held_store rfl rfl (exec_store1 (.tmp 19) (.tmp 18) rfl rfl rfl (K2.blk.grown hgrow (fun e => by have := ownBlock_ge K2.own e.symm; omega)) (by simp)) trivial ?_
    simp only [Act.put, jb, jz, js]
    refine wpAnyH_done (by kernel_rfl) ?_ _
    rw [HTK.out] at K3
    clear hrun hown' hgrow hob K2 hiff
    go_wp2_with fail
    go_roundw
    case rel => exact ⟨k + 1, _, by go_num, by omega, K3⟩
    case measure => simp [intOf]; omega
   ·refine held_enter (some 16) rfl rfl 74 #[.string s] (exec_call1 74 (.tmp 15) _ rfl _ rfl rfl) rfl ((text_any s _).mono ?_)
    rintro e u1 ⟨rfl, hgc⟩
    have K1 := K0.kept hgc
    refine ⟨_, rfl, trivial, ?_⟩
    simp only [Act.put, jb, jz, js]
    refine held_two (i := 1) (j := 4) (by kernel_rfl) ?_ ?_
    ·refine held_value (some 14) rfl rfl (.slice vA k vc) (exec_load1 104 (.tmp 13) rfl _ rfl _ _ Tryz.underlying104 rfl (K1.blk.cell 2)) rfl trivial ?_
     simp only [Act.put, jb, jz, js]
     refine held_one (i := 4) (by kernel_rfl) ?_
     refine held_value (some 17) rfl rfl (.slice (some ⟨u1.heap.size, 0, none⟩) 1 1) (by go_simp <;> rfl) rfl trivial ?_
     simp only [Act.put, jb, jz, js]
     have K2 := K1.kept (only_alloc (World.grownBy.refl u1 none) (.cells #[.bool false, .string s, .slice none 0 0] 106))
     obtain ⟨i0, hi, hz0, hzs, hzb⟩ := info_parts item_info
     obtain ⟨v', u2, hrun, hown', hgrow, hiff, hob⟩ := run_append_own_at (P := Tryz.prog) (u1.alloc (.cells #[.bool false, .string s, .slice none 0 0] 106)) (b3 + 1) 104 104 106 i0 _ 3 48 Tryz.underlying104 hi hz0 hzs hzb rfl (by decide) (.slice vA k vc) k (txtV (xs.take k)) K2.own ⟨u1.heap.size, 0, none⟩ 1 1 [.bool false, .string s, .slice none 0 0] rfl (cell_three_new _ _ _ _ _) (by simp [Value.oneCell']) (by simp only [maxLen]; omega) (by omega) K2.size
     obtain ⟨g', cap', rfl⟩ := ownsRow_succ hown'
     have K3 := K2.put hown' hgrow
     refine held_one (i := 5) (by kernel_rfl) ?_
     refine held_value (some 18) rfl rfl (.slice (some ⟨g', 0, none⟩) (k + 1) cap') (exec_append (.tmp 14) (.tmp 17) 104 rfl _ _ _ rfl rfl hrun) rfl trivial ?_
     simp only [Act.put, jb, jz, js]
     refine held_one (i := 6) (by kernel_rfl) ?_
     refine held_value (some 19) rfl rfl (.pointer (some ⟨b3, 2, none⟩)) (by go_simp <;> rfl) rfl trivial ?_
     simp only [Act.put, jb, jz, js]
     refine held_one (i := 7) (by kernel_rfl) ?_
     refine held_store rfl rfl (exec_store1 (.tmp 19) (.tmp 18) rfl rfl rfl (K2.blk.grown hgrow (fun e => by have := ownBlock_ge K2.own e.symm; omega)) (by simp)) trivial ?_
     simp only [Act.put, jb, jz, js]
     refine wpAnyH_done (by kernel_rfl) ?_ _
     rw [HTK.out] at K3
     clear hrun hown' hgrow hob K2 hiff
     go_wp2_with fail
     go_roundw
     case rel => exact ⟨k + 1, _, by go_num, by omega, K3⟩
     case measure => simp [intOf]; omega
    ·refine held_value (some 17) rfl rfl (.slice (some ⟨u1.heap.size, 0, none⟩) 1 1) (by go_simp <;> rfl) rfl trivial ?_
     simp only [Act.put, jb, jz, js]
     have K2 := K1.kept (only_alloc (World.grownBy.refl u1 none) (.cells #[.bool false, .string s, .slice none 0 0] 106))
     refine held_one (i := 1) (by kernel_rfl) ?_
     refine held_value (some 14) rfl rfl (.slice vA k vc) (exec_load1 104 (.tmp 13) rfl _ rfl _ _ Tryz.underlying104 rfl (K2.blk.cell 2)) rfl trivial ?_
     simp only [Act.put, jb, jz, js]
     obtain ⟨i0, hi, hz0, hzs, hzb⟩ := info_parts item_info
     obtain ⟨v', u2, hrun, hown', hgrow, hiff, hob⟩ := run_append_own_at (P := Tryz.prog) (u1.alloc (.cells #[.bool false, .string s, .slice none 0 0] 106)) (b3 + 1) 104 104 106 i0 _ 3 48 Tryz.underlying104 hi hz0 hzs hzb rfl (by decide) (.slice vA k vc) k (txtV (xs.take k)) K2.own ⟨u1.heap.size, 0, none⟩ 1 1 [.bool false, .string s, .slice none 0 0] rfl (cell_three_new _ _ _ _ _) (by simp [Value.oneCell']) (by simp only [maxLen]; omega) (by omega) K2.size
     obtain ⟨g', cap', rfl⟩ := ownsRow_succ hown'
     have K3 := K2.put hown' hgrow
     refine held_one (i := 5) (by kernel_rfl) ?_
     refine held_value (some 18) rfl rfl (.slice (some ⟨g', 0, none⟩) (k + 1) cap') (exec_append (.tmp 14) (.tmp 17) 104 rfl _ _ _ rfl rfl hrun) rfl trivial ?_
     simp only [Act.put, jb, jz, js]
     refine held_one (i := 6) (by kernel_rfl) ?_
     refine held_value (some 19) rfl rfl (.pointer (some ⟨b3, 2, none⟩)) (by go_simp <;> rfl) rfl trivial ?_
     simp only [Act.put, jb, jz, js]
     refine held_one (i := 7) (by kernel_rfl) ?_
     refine held_store rfl rfl (exec_store1 (.tmp 19) (.tmp 18) rfl rfl rfl (K2.blk.grown hgrow (fun e => by have := ownBlock_ge K2.own e.symm; omega)) (by simp)) trivial ?_
     simp only [Act.put, jb, jz, js]
     refine wpAnyH_done (by kernel_rfl) ?_ _
     rw [HTK.out] at K3
     clear hrun hown' hgrow hob K2 hiff
     go_wp2_with fail
     go_roundw
     case rel => exact ⟨k + 1, _, by go_num, by omega, K3⟩
     case measure => simp [intOf]; omega
  ·obtain rfl : k = n := by omega
   have hfin : decide ((k : Int) < (k : Int)) = false := by simp
   clear h h0
   have hRB := HRB.out.grown K0.grown (by simp)
   obtain ⟨vA, vc, rfl⟩ := own_slice3 K0.own
   have hle : w.heap.size ≤ b := by have := HW.out; omega
   have hb3 : b + 1 ≤ b3 := by have := HZB.out; omega
   have ht : xs.take k = xs := List.take_of_length_le (by have := HL.out; omega)
   have hS := txt_sub HL.out (ht ▸ K0.own)
   have HS5 := Lib.hid (SubV.weak (sub_set3 (g := b) hS (by omega) (.bool true) (.string ⟨#[]⟩) (.slice vA k vc)) (fun g (hg : b3 + 1 ≤ g) => (show w.heap.size ≤ g by omega)))
   have HG5 := Lib.hid (only_set (only_set (only_set (grown_self HG.out K0.grown (by simp)) (p := ⟨b, 0, none⟩) hle (.bool true)) (p := ⟨b, 1, none⟩) hle (.string ⟨#[]⟩)) (p := ⟨b, 2, none⟩) hle (.slice vA k vc))
   have HB5 := Lib.hid (((hRB.set_ 0 (.bool true)).set_ 1 (.string ⟨#[]⟩)).set_ 2 (.slice vA k vc))
   have c0 := hRB.cell 0; have c1 := hRB.cell 1; have c2 := hRB.cell 2
   have d0 := hRB.frozen 0; have d1 := hRB.frozen 1; have d2 := hRB.frozen 2
   have e0 := K0.blk.cell 0; have e1 := K0.blk.cell 1; have e2 := K0.blk.cell 2
   simp only [List.getElem?_toArray, List.getElem?_cons_zero, List.getElem?_cons_succ] at c0 c1 c2 e0 e1 e2
   clear K0 hle hb3 ht hS hRB hk hlt
   go_wp2_with fail
   refine bodyPost_ret (results_cell1 (fn := Tryz.f111) rfl _ _ _ _ rfl (load_itemF HB5.out)) rfl ?_
   exact ⟨_, _, rfl, HS5.out, HG5.out⟩
end Go.Proofs.YtgclnikdkfpflaaGreatDoor
