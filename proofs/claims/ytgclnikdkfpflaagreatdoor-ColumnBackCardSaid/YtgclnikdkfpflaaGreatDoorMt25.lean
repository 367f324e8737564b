/- Merged: TxtR, RtA, RtB0. -/
import Derived.Test.YtgclnikdkfpflaaGreatDoorMt1
import Derived.Test.YtgclnikdkfpflaaGreatDoorMt2
import Derived.Test.YtgclnikdkfpflaaGreatDoorMt12
import Derived.Test.YtgclnikdkfpflaaGreatDoorMt22
namespace Go.Proofs.YtgclnikdkfpflaaGreatDoor
open Go.RowKit Go.Shelf
open List renaming set_cons_zero → jz, set_cons_succ → js, setIfInBounds_toArray → jb
set_option linter.unusedVariables false
set_option linter.unusedSimpArgs false
set_option maxRecDepth 100000
set_option maxHeartbeats 16000000
theorem rows_ext {xs ys : List ByteArray} (h : xs.length = ys.length) (hi : ∀ i, i < xs.length → xs.getD i .empty = ys.getD i .empty) : xs = ys := by
 apply List.ext_getElem h
 intro i h1 h2
 have := hi i h1
 rwa [List.getD_eq_getElem?_getD, List.getD_eq_getElem?_getD, List.getElem?_eq_getElem h1, List.getElem?_eq_getElem h2] at this
theorem textsR_any (B B' : Nat) (A A' : Option Addr) (n m c d : Nat) (xs ys : List ByteArray) (w : World) (h : Reads w B 1 A n (xs.map Value.string)) (h' : Reads w B' 1 A' m (ys.map Value.string)) (hn : n ≤ 281474976710656) (hm : m ≤ 281474976710656) :
  Calls Tryz.prog 137 #[.slice A n c, .slice A' m d] w fun e w' => e = .returned (.bool (decide (xs = ys))) ∧ Below w.heap.size w w' := by
 have hl : xs.length = n := by have := h.1; simpa using this
 have hl' : ys.length = m := by have := h'.1; simpa using this
 by_cases hnm : n = m
 ·subst hnm
  have HL := Lib.hid hl; have HL' := Lib.hid hl'
  clear hl hl'
  go_enter Tryz.func137, Tryz.ntmps137
  go_wp2_with fail
  go_loopw [5] (fun i wr => ∃ k : Nat, i = .int .i64 k ∧ k ≤ n ∧ (∃ q, wr = w.drewN q) ∧ Hid (∀ i : Nat, i < k → xs.getD i .empty = ys.getD i .empty)) (fun i _ => n - (intOf i).toNat)
  case atStart => exact ⟨0, rfl, by omega, ⟨0, rfl⟩, Lib.hid (by intro i h1; omega)⟩
  case round =>
   obtain ⟨k, rfl, hk, ⟨q, rfl⟩, h2⟩ := hrel
   have h2' := Lib.hid h2.out
   by_cases hlt : k < n
   ·obtain ⟨g, off, rfl, hg, hc⟩ := Reads.vals Value.string .empty h hlt
    obtain ⟨g', off', rfl, hg', hc'⟩ := Reads.vals Value.string .empty h' hlt
    have c0 := hc k hlt; have d0 := hc' k hlt
    have q1 : (k : Int) < (n : Int) := by omega
    obtain ⟨x, hx⟩ : ∃ x, xs.getD k .empty = x := ⟨_, rfl⟩
    obtain ⟨y, hy⟩ : ∃ y, ys.getD k .empty = y := ⟨_, rfl⟩
    rw [hx] at c0
    rw [hy] at d0
    have HX := Lib.hid hx; have HY := Lib.hid hy
    clear h h' h2 hc hc' hx hy
    by_cases hxy : x = y
    ·have heq : (x.toList == y.toList) = true := by rw [hxy]; simp
     have hne : (x.toList != y.toList) = false := by rw [bne, heq]; rfl
     have HE := Lib.hid hxy
     clear hxy
     go_wp2_with fail
     go_quiet (fail)
     go_wp2_with fail
     refine ⟨⟨k + 1, by go_num, by omega, ⟨_, rfl⟩, Lib.hid fun i hi => ?_⟩, by simp [intOf]; omega⟩
     by_cases hik : i = k
     ·rw [hik, HX.out, HY.out, HE.out]
     ·exact h2'.out i (by omega)
    ·have heq := str_ne hxy
     have hne : (x.toList != y.toList) = true := by rw [bne, heq]; rfl
     have hf : decide (xs = ys) = false := decide_eq_false (fun e => hxy (by rw [← HX.out, ← HY.out, e]))
     have HF := Lib.hid hf
     clear hxy hf
     go_wp2_with fail
     go_quiet (fail)
     go_wp2_with fail
     go_ret
     exact ⟨by rw [HF.out]; rfl, below_drewN (below_drewN (Below.refl _ w) _) _⟩
   ·obtain rfl : k = n := by omega
    have hfin : decide ((k : Int) < (k : Int)) = false := by simp
    have heq : decide (xs = ys) = true := decide_eq_true (rows_ext (by rw [HL.out, HL'.out]) fun i hi => h2'.out i (by have := HL.out; omega))
    have HF := Lib.hid heq
    clear heq
    go_wp2_with fail
    go_ret
    exact ⟨by rw [HF.out]; rfl, below_drewN (Below.refl _ w) _⟩
 ·have g1 : ((n : Int) != (m : Int)) = true := by simp; omega
  have hf : decide (xs = ys) = false := decide_eq_false (fun e => hnm (by rw [← hl, ← hl', e]))
  rw [hf]
  clear hf hnm hl hl'
  go_enter Tryz.func137, Tryz.ntmps137
  go_wp2_with fail
  go_ret
  exact ⟨rfl, Below.refl _ w⟩
theorem below_then_grown {w W W' : World} (h : Below w.heap.size w W) (k : W.grownBy W' none) : Below w.heap.size w W' := below_of_grown (grown_self (grown_of_below h) k (by simp))
section
variable {P : Program} {ops : Array Oper} {o : Oper} {rest : List Oper} {C : World → Prop} {Q : Act → Prop} {a : Act}
theorem wpQuiet_lack (hw : Region.wanted o (yielded ops a.tmps) = false) (hk : wpQuiet P ops C Q rest (a.put o.dst undef)) : wpQuiet P ops C Q (o :: rest) a :=
 wpQuiet_step fun K hK => by rw [if_neg (by rw [hw]; decide)]; exact hK _ hk
end
theorem accSameR_any (B B' : Nat) (A A' : Option Addr) (n m c d : Nat) (xs ys : List AccV) (w : World) (h : AccR B w xs A n) (h' : AccR B' w ys A' m) (hB : B ≤ w.heap.size) (hB' : B' ≤ w.heap.size) (hn : n ≤ 9223372036854775807) (hm : m ≤ 9223372036854775807)
  (kx : ∀ x ∈ xs, x.keys.length ≤ 281474976710656) (ky : ∀ y ∈ ys, y.keys.length ≤ 281474976710656) :
  Calls Tryz.prog 95 #[.slice A n c, .slice A' m d] w fun e w' => e = .returned (.bool (decide (xs = ys))) ∧ w.grownBy w' none := by
 have hl := h.1; have hl' := h'.1
 by_cases hnm : n = m
 ·subst hnm
  have HL := Lib.hid hl; have HL' := Lib.hid hl'
  have HH := Lib.hid h; have HH' := Lib.hid h'
  have HB := Lib.hid hB; have HB' := Lib.hid hB'
  have HKX := Lib.hid kx; have HKY := Lib.hid ky
  have qe : ((n : Int) != (n : Int)) = false := by simp
  clear hl hl' h h' hB hB' kx ky
  go_enter Tryz.func95, Tryz.ntmps95
  go_wp2_with fail
  clear qe
  go_loopw [5] (fun i wr => ∃ k : Nat, i = .int .i64 k ∧ k ≤ n ∧ w.grownBy wr none ∧ Hid (∀ i : Nat, i < k → xs.getD i AccV.none_ = ys.getD i AccV.none_)) (fun i _ => n - (intOf i).toNat)
  case atStart => exact ⟨0, rfl, by omega, World.grownBy.refl _ _, Lib.hid (by intro i h1; omega)⟩
  case round =>
   obtain ⟨k, rfl, hk, hg, h2⟩ := hrel
   have h2' := Lib.hid h2.out
   have HGG := Lib.hid hg
   by_cases hlt : k < n
   ·obtain ⟨g, off, T, tc, x, rfl, hx, mx, c0, c1, hT, hTn⟩ := (HH.out.grown hg HB.out).at_ hlt
    obtain ⟨g', off', T', tc', y, rfl, hy, my, d0, d1, hT', hTn'⟩ := (HH'.out.grown hg HB'.out).at_ hlt
    have q1 : (k : Int) < (n : Int) := by omega
    have HX := Lib.hid hx; have HY := Lib.hid hy
    have hkx := HKX.out x mx; have hky := HKY.out y my
    have hds := only_drew (World.grownBy.refl wr none)
    have HCALL := Lib.hid (fun V hV => textsR_any B B' T T' x.keys.length y.keys.length tc tc' x.keys y.keys V (hT.grown (show wr.grownBy V none from hV) (Nat.le_trans HB.out hg.size) (by simp)) (hT'.grown hV (Nat.le_trans HB'.out hg.size) (by simp)) hkx hky)
    have C0 := Lib.hid c0; have D0 := Lib.hid d0
    clear h2 hx hy mx my hT hT' hTn hTn' hkx hky c0 d0
    obtain ⟨r, hr⟩ : ∃ r, decide (x.keys = y.keys) = r := ⟨_, rfl⟩
    rw [hr] at HCALL
    have HRR := Lib.hid hr
    clear hr
    go_upto_region 6 with (fail)
    have hC0 : (fun V => Below wr.heap.size wr V) wr.drew := ⟨rfl, rfl, rfl, Nat.le_refl _, fun _ _ => rfl⟩
    refine wp_region_class (fun V => Below wr.heap.size wr V) (by kernel_rfl) (by kernel_rfl) hC0 ?_
    (try simp only [Act.put])
    refine wpQuiet_value rfl (.slice (some ⟨g, off, none⟩) n c) (fun V hV => by go_simp) ?_
    simp only [Act.put, jb, jz, js]
    refine wpQuiet_value rfl (.int .i64 (k : Int)) (fun V hV => by go_simp) ?_
    simp only [Act.put, jb, jz, js]
    refine wpQuiet_value rfl (.pointer (some ⟨g, off + k * 2, none⟩)) (fun V hV => by go_simp <;> first | rfl | simp [Nat.mul_comm]) ?_
    simp only [Act.put, jb, jz, js]
    refine wpQuiet_value rfl (.pointer (some ⟨g, off + k * 2 + 1, none⟩)) (fun V hV => by go_simp <;> rfl) ?_
    simp only [Act.put, jb, jz, js]
    refine wpQuiet_value rfl (.slice T x.keys.length tc) (fun V hV => exec_loadC 57 (.tmp 21) rfl _ rfl _ _ Tryz.underlying57 rfl ((grown_of_below hV).cell c1 (by simp))) ?_
    simp only [Act.put, jb, jz, js]
    refine wpQuiet_value rfl (.slice (some ⟨g', off', none⟩) n d) (fun V hV => by go_simp) ?_
    simp only [Act.put, jb, jz, js]
    refine wpQuiet_value rfl (.int .i64 (k : Int)) (fun V hV => by go_simp) ?_
    simp only [Act.put, jb, jz, js]
    refine wpQuiet_value rfl (.pointer (some ⟨g', off' + k * 2, none⟩)) (fun V hV => by go_simp <;> first | rfl | simp [Nat.mul_comm]) ?_
    simp only [Act.put, jb, jz, js]
    refine wpQuiet_value rfl (.pointer (some ⟨g', off' + k * 2 + 1, none⟩)) (fun V hV => by go_simp <;> rfl) ?_
    simp only [Act.put, jb, jz, js]
    refine wpQuiet_value rfl (.slice T' y.keys.length tc') (fun V hV => exec_loadC 57 (.tmp 26) rfl _ rfl _ _ Tryz.underlying57 rfl ((grown_of_below hV).cell d1 (by simp))) ?_
    simp only [Act.put, jb, jz, js]
    refine wpQuiet_enter rfl (.bool r) 137 #[.slice T x.keys.length tc, .slice T' y.keys.length tc'] (fun V hV => exec_call2 _ (.tmp 22) (.tmp 27) _ rfl _ _ rfl rfl (enters_of Tryz.func137 (by kernel_rfl) rfl _ _)) (fun V hV => (HCALL.out V (grown_of_below hV)).mono fun e V' ⟨h1, h2⟩ => ⟨h1, below_then_grown hV (grown_of_below h2)⟩) ?_
    simp only [Act.put, jb, jz, js]
    refine wpQuiet_value rfl (.bool r) (fun V hV => by go_simp <;> rfl) ?_
    simp only [Act.put, jb, jz, js]
    refine wpQuiet_nil ?_
    intro w3 hw3
    have hg3 := grown_of_below hw3
    have HG3 := Lib.hid (grown_self HGG.out hg3 (by simp))
    have a0 := hg3.cell C0.out (by simp); have b0 := hg3.cell D0.out (by simp)
    clear hC0 hw3 hg3 c1 d1 HCALL hg C0 D0
    go_upto_region 7 with (fail)
    have hC0 : (fun V => Below w3.heap.size w3 V) w3.drew := ⟨rfl, rfl, rfl, Nat.le_refl _, fun _ _ => rfl⟩
    refine wp_region_class (fun V => Below w3.heap.size w3 V) (by kernel_rfl) (by kernel_rfl) hC0 ?_
    (try simp only [Act.put])
    refine wpQuiet_value rfl (.slice (some ⟨g, off, none⟩) n c) (fun V hV => by go_simp) ?_
    simp only [Act.put, jb, jz, js]
    refine wpQuiet_value rfl (.int .i64 (k : Int)) (fun V hV => by go_simp) ?_
    simp only [Act.put, jb, jz, js]
    refine wpQuiet_value rfl (.pointer (some ⟨g, off + k * 2, none⟩)) (fun V hV => by go_simp <;> first | rfl | simp [Nat.mul_comm]) ?_
    simp only [Act.put, jb, jz, js]
    refine wpQuiet_value rfl (.pointer (some ⟨g, off + k * 2, none⟩)) (fun V hV => by go_simp <;> rfl) ?_
    simp only [Act.put, jb, jz, js]
    refine wpQuiet_value rfl (.string x.addr) (fun V hV => exec_loadC 9 (.tmp 32) rfl _ rfl _ _ Tryz.underlying9 rfl ((grown_of_below hV).cell a0 (by simp))) ?_
    simp only [Act.put, jb, jz, js]
    refine wpQuiet_value rfl (.slice (some ⟨g', off', none⟩) n d) (fun V hV => by go_simp) ?_
    simp only [Act.put, jb, jz, js]
    refine wpQuiet_value rfl (.int .i64 (k : Int)) (fun V hV => by go_simp) ?_
    simp only [Act.put, jb, jz, js]
    refine wpQuiet_value rfl (.pointer (some ⟨g', off' + k * 2, none⟩)) (fun V hV => by go_simp <;> first | rfl | simp [Nat.mul_comm]) ?_
    simp only [Act.put, jb, jz, js]
    refine wpQuiet_value rfl (.pointer (some ⟨g', off' + k * 2, none⟩)) (fun V hV => by go_simp <;> rfl) ?_
    simp only [Act.put, jb, jz, js]
    refine wpQuiet_value rfl (.string y.addr) (fun V hV => exec_loadC 9 (.tmp 37) rfl _ rfl _ _ Tryz.underlying9 rfl ((grown_of_below hV).cell b0 (by simp))) ?_
    simp only [Act.put, jb, jz, js]
    obtain ⟨s, hs⟩ : ∃ s, decide (x.addr = y.addr) = s := ⟨_, rfl⟩
    have hne : (x.addr.toList == y.addr.toList) = s := by rw [beq_str, hs]
    have hE : decide (x = y) = (s && r) := by
     rw [← hs, ← HRR.out]; obtain ⟨xa, xk⟩ := x; obtain ⟨ya, yk⟩ := y; simp
    have HE := Lib.hid hE
    clear hs hE
    refine wpQuiet_value rfl (.bool (!s)) (fun V hV => by go_simp) ?_
    simp only [Act.put, jb, jz, js]
    refine wpQuiet_value rfl (.bool (!s)) (fun V hV => by go_simp <;> rfl) ?_
    simp only [Act.put, jb, jz, js]
    cases s with
    | false =>
     simp only [Bool.not_false]
     refine wpQuiet_lack rfl ?_
     simp only [Act.put, jb, jz, js]
     refine wpQuiet_lack rfl ?_
     simp only [Act.put, jb, jz, js]
     refine wpQuiet_value rfl (.bool true) (fun V hV => by go_simp <;> rfl) ?_
     simp only [Act.put, jb, jz, js]
     refine wpQuiet_nil ?_
     intro w4 hw4
     have HG4 := Lib.hid (grown_self HG3.out (grown_of_below hw4) (by simp))
     clear hC0 hw4 a0 b0 hne
     go_wp2_with fail
     go_ret
     refine ⟨?_, HG4.out⟩
     rw [show decide (xs = ys) = false from decide_eq_false (fun e => of_decide_eq_false (HE.out.trans (Bool.false_and _)) (by rw [← HX.out, ← HY.out, e]))]
     rfl
    | true =>
     simp only [Bool.not_true]
     refine wpQuiet_value rfl (.bool r) (fun V hV => by go_simp <;> rfl) ?_
     simp only [Act.put, jb, jz, js]
     refine wpQuiet_value rfl (.bool (!r)) (fun V hV => by go_simp <;> rfl) ?_
     simp only [Act.put, jb, jz, js]
     refine wpQuiet_value rfl (.bool (!r)) (fun V hV => by go_simp <;> rfl) ?_
     simp only [Act.put, jb, jz, js]
     refine wpQuiet_nil ?_
     intro w4 hw4
     have HG4 := Lib.hid (grown_self HG3.out (grown_of_below hw4) (by simp))
     clear hC0 hw4 a0 b0 hne
     cases r with
     | true =>
      simp only [Bool.not_true]
      go_wp2_with fail
      refine ⟨⟨k + 1, by go_num, by omega, HG4.out, Lib.hid fun i hi => ?_⟩, by simp [intOf]; omega⟩
      by_cases hik : i = k
      ·rw [hik, HX.out, HY.out]; exact of_decide_eq_true HE.out
      ·exact h2'.out i (by omega)
     | false =>
      simp only [Bool.not_false]
      go_wp2_with fail
      go_ret
      refine ⟨?_, HG4.out⟩
      rw [show decide (xs = ys) = false from decide_eq_false (fun e => of_decide_eq_false HE.out (by rw [← HX.out, ← HY.out, e]))]
      rfl
   ·have he : xs = ys := rows_extG AccV.none_ (by rw [HL.out, HL'.out]) fun i hi => h2'.out i (by have := HL.out; omega)
    have HE := Lib.hid he
    have q0 : (n : Int) ≤ (k : Int) := by omega
    clear he h2 hg
    go_wp2_with fail
    go_ret
    exact ⟨by rw [decide_eq_true HE.out]; rfl, HGG.out⟩
 ·have hne : ¬ xs = ys := by rintro rfl; exact hnm (hl.symm.trans hl')
  have HE := Lib.hid hne
  have hb : ((n : Int) != (m : Int)) = true := by simp; omega
  clear hne hnm hl hl' h h' hB hB' kx ky
  go_enter Tryz.func95, Tryz.ntmps95
  go_wp2_with fail
  go_ret
  exact ⟨by rw [decide_eq_false HE.out]; rfl, World.grownBy.refl _ _⟩
theorem autSameR_any (B B' : Nat) (A A' : Option Addr) (n m c d : Nat) (xs ys : List AutV) (w : World) (h : AutR B w xs A n) (h' : AutR B' w ys A' m) (hB : B ≤ w.heap.size) (hB' : B' ≤ w.heap.size) (hn : n ≤ 9223372036854775807) (hm : m ≤ 9223372036854775807) (ox : ∀ x ∈ xs, x.Ok) (oy : ∀ y ∈ ys, y.Ok) :
  Calls Tryz.prog 96 #[.slice A n c, .slice A' m d] w fun e w' => e = .returned (.bool (decide (xs = ys))) ∧ w.grownBy w' none := by
 have hl := h.1; have hl' := h'.1
 by_cases hnm : n = m
 ·subst hnm
  have HL := Lib.hid hl; have HL' := Lib.hid hl'
  have HH := Lib.hid h; have HH' := Lib.hid h'
  have HB := Lib.hid hB; have HB' := Lib.hid hB'
  have HOX := Lib.hid ox; have HOY := Lib.hid oy
  have qe : ((n : Int) != (n : Int)) = false := by simp
  clear hl hl' h h' hB hB' ox oy
  go_enter Tryz.func96, Tryz.ntmps96
  go_wp2_with fail
  clear qe
  go_loopw [5] (fun i wr => ∃ k : Nat, i = .int .i64 k ∧ k ≤ n ∧ w.grownBy wr none ∧ Hid (∀ i : Nat, i < k → xs.getD i AutV.none_ = ys.getD i AutV.none_)) (fun i _ => n - (intOf i).toNat)
  case atStart => exact ⟨0, rfl, by omega, World.grownBy.refl _ _, Lib.hid (by intro i h1; omega)⟩
  case round =>
   obtain ⟨k, rfl, hk, hg, h2⟩ := hrel
   have h2' := Lib.hid h2.out
   have HGG := Lib.hid hg
   by_cases hlt : k < n
   ·obtain ⟨g, off, x, rfl, hx, mx, hcx⟩ := (HH.out.grown hg).at_ hlt
    obtain ⟨g', off', y, rfl, hy, my, hcy⟩ := (HH'.out.grown hg).at_ hlt
    have lg : g < wr.heap.size := World.block_lt_of_cell? wr _ (hcx 0 _ rfl)
    have lg' : g' < wr.heap.size := World.block_lt_of_cell? wr _ (hcy 0 _ rfl)
    have q1 : (k : Int) < (n : Int) := by omega
    have q2 : (0 : Int) ≤ (k : Int) := by omega
    have HX := Lib.hid hx; have HY := Lib.hid hy
    have HEQ := Lib.hid (eq_aut (HOX.out x mx) (HOY.out y my))
    have HCX := Lib.hid hcx; have HCY := Lib.hid hcy
    rw [autB_eq] at HEQ
    obtain ⟨r, hr⟩ : ∃ r, decide (x = y) = r := ⟨_, rfl⟩
    rw [hr] at HEQ
    have HRR := Lib.hid hr
    clear h2 hx hy hr hcx hcy mx my hg
    go_upto_region 6 with (fail)
    have hC0 : (fun V => Below wr.heap.size wr V) wr.drew := ⟨rfl, rfl, rfl, Nat.le_refl _, fun _ _ => rfl⟩
    refine wp_region_class (fun V => Below wr.heap.size wr V) (by kernel_rfl) (by kernel_rfl) hC0 ?_
    have hcc := class_const hC0
    (try simp only [Act.put])
    (repeat go_big_quiet_step (fail))
    refine wpQuiet_value rfl (.agg (autL x).toArray) (fun V hV => exec_load_mid rfl rfl (autL x) (rangeAt_below HCX.out hV lg) _ Tryz.underlying89 rfl (by kernel_rfl)) ?_
    simp only [Act.put, jb, jz, js]
    (repeat go_big_quiet_step (fail))
    refine wpQuiet_value rfl (.agg (autL y).toArray) (fun V hV => exec_load_mid rfl rfl (autL y) (rangeAt_below HCY.out hV lg') _ Tryz.underlying89 rfl (by kernel_rfl)) ?_
    simp only [Act.put, jb, jz, js]
    refine wpQuiet_value rfl (.bool (!r)) (fun V hV => exec_neA HEQ.out V rfl rfl rfl rfl rfl) ?_
    simp only [Act.put, jb, jz, js]
    refine wpQuiet_nil ?_
    intro w3 hw3
    have HG2 := Lib.hid (grown_self HGG.out (grown_of_below hw3) (by simp))
    clear hcc hC0 hw3 HCX HCY lg lg'
    cases r with
    | true =>
     go_wp2_with fail
     refine ⟨⟨k + 1, by go_num, by omega, HG2.out, Lib.hid fun i hi => ?_⟩, by simp [intOf]; omega⟩
     by_cases hik : i = k
     ·rw [hik, HX.out, HY.out]; exact of_decide_eq_true HRR.out
     ·exact h2'.out i (by omega)
    | false =>
     go_wp2_with fail
     go_ret
     refine ⟨?_, HG2.out⟩
     rw [show decide (xs = ys) = false from decide_eq_false (fun e => of_decide_eq_false HRR.out (by rw [← HX.out, ← HY.out, e]))]
     rfl
   ·have he : xs = ys := rows_extG AutV.none_ (by rw [HL.out, HL'.out]) fun i hi => h2'.out i (by have := HL.out; omega)
    have HE := Lib.hid he
    have q0 : (n : Int) ≤ (k : Int) := by omega
    clear he h2 hg
    go_wp2_with fail
    go_ret
    exact ⟨by rw [decide_eq_true HE.out]; rfl, HGG.out⟩
 ·have hne : ¬ xs = ys := by rintro rfl; exact hnm (hl.symm.trans hl')
  have HE := Lib.hid hne
  have hb : ((n : Int) != (m : Int)) = true := by simp; omega
  clear hne hnm hl hl' h h' hB hB'
  go_enter Tryz.func96, Tryz.ntmps96
  go_wp2_with fail
  go_ret
  exact ⟨by rw [decide_eq_false HE.out]; rfl, World.grownBy.refl _ _⟩
section
variable {P : Program} {ops : Array Oper} {rest : List Oper} {Q : Exit → Act → World → Prop} {w : World}
theorem exec_pickC {a : Act} {o : Oper} {W : World} (c x y : Operand) (ho : o.op = .pick c x y) (b : Bool) (hc : a.eval c = .bool b) (v : Value) (hv : (if b then a.eval x else a.eval y) = v) : (execOp a.eval o).run P W = .ok (.value v) W := by
 unfold execOp
 generalize a.eval = ev at *
 subst hv
 cases b <;> simp [ho, hc, go_sem]
theorem exec_fa {a : Act} {o : Oper} {W : World} (T : TypeId) (x : Operand) (f : Nat) (ho : o.op = .fieldAddr T x f) (p q : Value) (hx : a.eval x = p) (hf : (Instr.fieldAt T p f).run P W = .ok q W) : (execOp a.eval o).run P W = .ok (.value q) W := by
 unfold execOp
 generalize a.eval = ev at *
 simp only [ho, hx]
 generalize Instr.fieldAt T p f = M at *
 simp [hf, go_sem]
theorem getD_set_ne (tm : Array Value) {i j : Nat} (v d : Value) (h : i ≠ j) : (tm.setIfInBounds i v).getD j d = tm.getD j d := by
 simp [Array.getD_eq_getD_getElem?, Array.getElem?_setIfInBounds_ne h]
theorem getD_set_eq (tm : Array Value) {i : Nat} (v d : Value) (h : i < tm.size) : (tm.setIfInBounds i v).getD i d = v := by
 simp [Array.getD_eq_getD_getElem?, Array.getElem?_setIfInBounds_self_of_lt h]
theorem wanted_of {o : Oper} {tm : Array Value} {gi t : Nat} {acc : Bool} (hg : o.guard = some (gi, true)) (hop : (ops[gi]?).bind (·.dst) = some t) (ht : tm[t]? = some (.bool acc)) : Region.wanted o (yielded ops tm) = acc := by
 unfold Region.wanted yielded
 simp only [hg, hop, Option.bind_some, ht]
 cases acc <;> rfl
theorem wpList_and {tm : Array Value} {df : List Deferred} {o0 o1 o2 o3 o4 o5 o6 : Oper} (gi t : Nat) (x0 : Operand) (acc r : Bool) (pa xa pb xb : Value)
  (hop : (ops[gi]?).bind (·.dst) = some t) (d0 : o0.dst = some t) (d1 : o1.dst = some (t + 1)) (d2 : o2.dst = some (t + 2)) (d3 : o3.dst = some (t + 3)) (d4 : o4.dst = some (t + 4)) (d5 : o5.dst = some (t + 5)) (d6 : o6.dst = some (t + 6))
  (g0 : o0.guard = none) (g1 : o1.guard = some (gi, true)) (g2 : o2.guard = some (gi, true)) (g3 : o3.guard = some (gi, true)) (g4 : o4.guard = some (gi, true)) (g5 : o5.guard = some (gi, true)) (g6 : o6.guard = none)
  (p0 : o0.op = .move x0) (p6 : o6.op = .pick (.tmp t) (.tmp (t + 5)) (.const (.bool false)))
  (hsz : t + 6 < tm.size) (hx0 : (Act.eval ⟨tm, df⟩ x0) = .bool acc)
  (h1 : ∀ tm' : Array Value, (∀ i, i < t → tm'.getD i undef = tm.getD i undef) → (execOp (Act.eval ⟨tm', df⟩) o1).run P w = .ok (.value pa) w)
  (h2 : ∀ tm' : Array Value, tm'.getD (t + 1) undef = pa → (execOp (Act.eval ⟨tm', df⟩) o2).run P w = .ok (.value xa) w)
  (h3 : ∀ tm' : Array Value, (∀ i, i < t → tm'.getD i undef = tm.getD i undef) → (execOp (Act.eval ⟨tm', df⟩) o3).run P w = .ok (.value pb) w)
  (h4 : ∀ tm' : Array Value, tm'.getD (t + 3) undef = pb → (execOp (Act.eval ⟨tm', df⟩) o4).run P w = .ok (.value xb) w)
  (h5 : ∀ tm' : Array Value, tm'.getD (t + 2) undef = xa → tm'.getD (t + 4) undef = xb → (execOp (Act.eval ⟨tm', df⟩) o5).run P w = .ok (.value (.bool r)) w)
  (h : ∀ x1 x2 x3 x4 x5, wpList P ops Q rest (((((((Act.mk tm df).put (some t) (.bool acc)).put (some (t + 1)) x1).put (some (t + 2)) x2).put (some (t + 3)) x3).put (some (t + 4)) x4).put (some (t + 5)) x5 |>.put (some (t + 6)) (.bool (acc && r))) w) :
  wpList P ops Q (o0 :: o1 :: o2 :: o3 :: o4 :: o5 :: o6 :: rest) ⟨tm, df⟩ w := by
 refine wpList_value g0 (.bool acc) (exec_moveC x0 p0 _ hx0) ?_
 rw [d0]
 have at_ : ∀ tm' : Array Value, tm'.size = tm.size → tm'.getD t undef = .bool acc → tm'[t]? = some (.bool acc) := fun tm' hs ht => by
  have hl : t < tm'.size := by omega
  rw [Array.getElem?_eq_getElem hl]
  simp only [Array.getD_eq_getD_getElem?, Array.getElem?_eq_getElem hl, Option.getD_some] at ht
  rw [ht]
 have e0 : ((tm.setIfInBounds t (.bool acc))).getD t undef = .bool acc := getD_set_eq _ _ _ (by omega)
 cases acc
 ·refine wpList_lack (wanted_of g1 hop (at_ _ (by simp [Act.put]) (by simpa [Act.put] using e0))) ?_
  rw [d1]
  refine wpList_lack (wanted_of g2 hop (at_ _ (by simp [Act.put]) (by simp only [Act.put]; rw [getD_set_ne _ _ _ (by omega)]; exact e0))) ?_
  rw [d2]
  refine wpList_lack (wanted_of g3 hop (at_ _ (by simp [Act.put]) (by simp only [Act.put]; rw [getD_set_ne _ _ _ (by omega), getD_set_ne _ _ _ (by omega)]; exact e0))) ?_
  rw [d3]
  refine wpList_lack (wanted_of g4 hop (at_ _ (by simp [Act.put]) (by simp only [Act.put]; rw [getD_set_ne _ _ _ (by omega), getD_set_ne _ _ _ (by omega), getD_set_ne _ _ _ (by omega)]; exact e0))) ?_
  rw [d4]
  refine wpList_lack (wanted_of g5 hop (at_ _ (by simp [Act.put]) (by simp only [Act.put]; rw [getD_set_ne _ _ _ (by omega), getD_set_ne _ _ _ (by omega), getD_set_ne _ _ _ (by omega), getD_set_ne _ _ _ (by omega)]; exact e0))) ?_
  rw [d5]
  refine wpList_value g6 (.bool (false && r)) (exec_pickC _ _ _ p6 false (by simp only [Act.put, Act.eval]; rw [getD_set_ne _ _ _ (by omega), getD_set_ne _ _ _ (by omega), getD_set_ne _ _ _ (by omega), getD_set_ne _ _ _ (by omega), getD_set_ne _ _ _ (by omega)]; exact e0) _ (by simp [Act.eval])) ?_
  rw [d6]
  exact h _ _ _ _ _
 ·have k0 : ∀ i, i < t → (tm.setIfInBounds t (.bool true)).getD i undef = tm.getD i undef := fun i hi => getD_set_ne _ _ _ (by omega)
  refine wpList_valueG (wanted_of g1 hop (at_ _ (by simp [Act.put]) (by simpa [Act.put] using e0))) pa (h1 _ (by simpa [Act.put] using k0)) ?_
  rw [d1]
  refine wpList_valueG (wanted_of g2 hop (at_ _ (by simp [Act.put]) (by simp only [Act.put]; rw [getD_set_ne _ _ _ (by omega)]; exact e0))) xa (h2 _ (by simp only [Act.put]; exact getD_set_eq _ _ _ (by simp; omega))) ?_
  rw [d2]
  refine wpList_valueG (wanted_of g3 hop (at_ _ (by simp [Act.put]) (by simp only [Act.put]; rw [getD_set_ne _ _ _ (by omega), getD_set_ne _ _ _ (by omega)]; exact e0))) pb (h3 _ (fun i hi => by simp only [Act.put]; rw [getD_set_ne _ _ _ (by omega), getD_set_ne _ _ _ (by omega)]; exact k0 i hi)) ?_
  rw [d3]
  refine wpList_valueG (wanted_of g4 hop (at_ _ (by simp [Act.put]) (by simp only [Act.put]; rw [getD_set_ne _ _ _ (by omega), getD_set_ne _ _ _ (by omega), getD_set_ne _ _ _ (by omega)]; exact e0))) xb (h4 _ (by simp only [Act.put]; exact getD_set_eq _ _ _ (by simp; omega))) ?_
  rw [d4]
  refine wpList_valueG (wanted_of g5 hop (at_ _ (by simp [Act.put]) (by simp only [Act.put]; rw [getD_set_ne _ _ _ (by omega), getD_set_ne _ _ _ (by omega), getD_set_ne _ _ _ (by omega), getD_set_ne _ _ _ (by omega)]; exact e0))) (.bool r) (h5 _ (by simp only [Act.put]; rw [getD_set_ne _ _ _ (by omega), getD_set_ne _ _ _ (by omega)]; exact getD_set_eq _ _ _ (by simp; omega)) (by simp only [Act.put]; exact getD_set_eq _ _ _ (by simp; omega))) ?_
  rw [d5]
  refine wpList_value g6 (.bool (true && r)) (exec_pickC _ _ _ p6 true (by simp only [Act.put, Act.eval]; rw [getD_set_ne _ _ _ (by omega), getD_set_ne _ _ _ (by omega), getD_set_ne _ _ _ (by omega), getD_set_ne _ _ _ (by omega), getD_set_ne _ _ _ (by omega)]; exact e0) _ (by simp only [Act.put, Act.eval, if_true]; rw [getD_set_eq _ _ _ (by simp; omega)]; simp)) ?_
  rw [d6]
  exact h _ _ _ _ _
end
end Go.Proofs.YtgclnikdkfpflaaGreatDoor
