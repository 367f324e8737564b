/- Merged: CgC, CgD, CgE, UnrP, UnrQ. -/
import Derived.Test.YtgclnikdkfpflaaGreatDoorMt1
import Derived.Test.YtgclnikdkfpflaaGreatDoorMt6
import Derived.Test.YtgclnikdkfpflaaGreatDoorMt7
import Derived.Test.YtgclnikdkfpflaaGreatDoorMt13
import Derived.Test.YtgclnikdkfpflaaGreatDoorMt16
namespace Go.Proofs.YtgclnikdkfpflaaGreatDoor
open Go.RowKit Go.Shelf
open List renaming set_cons_zero → jz, set_cons_succ → js, setIfInBounds_toArray → jb
set_option linter.unusedVariables false
set_option linter.unusedSimpArgs false
set_option maxRecDepth 100000
set_option maxHeartbeats 16000000
theorem exec_call3C {P : Program} {a : Act} {o : Oper} {W : World} (f : FuncId) (x y z : Operand) (ts : Array TypeId) (ho : o.op = .call { callee := .value (.func f), args := #[x, y, z], argTypes := ts }) (v u t : Value) (hx : a.eval x = v) (hy : a.eval y = u) (hz : a.eval z = t)
  (hf : (callFunc f #[v, u, t]).run P W = .ok (.enter f #[v, u, t]) W) : (execOp a.eval o).run P W = .ok (.enter f #[v, u, t]) W := by
 have he : a.eval (.func f) = .func (.func f) #[] #[] := rfl
 unfold execOp
 generalize a.eval = ev at *
 simp only [ho]
 simp [resolve, invoke, go_sem, hx, hy, hz, he, hf]
theorem own_setR {W : World} {base n c : Nat} {e : TypeId} {A : Option Addr} {xs : List Value} (h : W.ownsRow base e 1 (.slice A n c) n xs) {p : Addr} (hne : (Value.slice A n c).ownBlock ≠ some p.block) (u : Value) : (W.setCell p u).ownsRow base e 1 (.slice A n c) n xs := by
 have h' := h
 rcases h.2 with ⟨h1, h2⟩ | ⟨g, cap, cur, hv, hb, hg, rest⟩
 ·exact ⟨h.1, .inl ⟨h1, h2⟩⟩
 ·cases hv
  exact own_far h' (p := p) (fun e => hne (by simp [Value.ownBlock, e])) u
def nuE (s : ByteArray) (a n : Nat) (E : Int) : Int := if E = 0 then (unrowS s.data.toList a n).2.2 else E
def nuA (s : ByteArray) (a n : Nat) (E : Int) : Nat := if nuE s a n E = 0 then (unrowS s.data.toList a n).2.1 else a
def nuL (s : ByteArray) (a n : Nat) (E : Int) : List Int := if nuE s a n E = 0 then (unrowS s.data.toList a n).1 else List.replicate n 0
theorem numbersC_any (s : ByteArray) (a n : Nat) (E : Int) (r : Nat) (w : World) (h : Blk w r 67 (rdC s a E)) (hs : s.size ≤ 1000000000000) (ha : a ≤ s.size) (hn : n ≤ 4096) :
  Calls Tryz.prog 53 #[.pointer (some ⟨r, 0, none⟩), .int .i64 (n : Int)] w fun x w' => ∃ v, x = .returned v ∧ w'.ownsRow w.heap.size 23 1 v (nuL s a n E).length ((nuL s a n E).map (Value.int .u64)) ∧ Blk w' r 67 (rdC s (nuA s a n E) (nuE s a n E)) ∧ w.grownBy w' (some r) := by
 have hr := h.lt
 have HR := Lib.hid hr
 have hmk := fun V => makeN n (by omega) V
 have c2 := h.cell 2
 simp only [rdC, List.getElem?_toArray, List.getElem?_cons_zero, List.getElem?_cons_succ] at c2
 by_cases h0 : E = 0
 rotate_left
 ·have e1 : (E != 0) = true := by simpa using h0
  have t1 : nuE s a n E = E := if_neg h0
  have t2 : nuA s a n E = a := by unfold nuA; rw [t1, if_neg h0]
  have t3 : nuL s a n E = List.replicate n 0 := by unfold nuL; rw [t1, if_neg h0]
  rw [t1, t2, t3]
  have HOW := Lib.hid (own_rep (W := w) (t := 23) (base := w.heap.size) n (.int .u64 0) (by omega) (Nat.le_refl _))
  have HB := Lib.hid h
  clear h0 t1 t2 t3 h
  go_enter Tryz.func53, Tryz.ntmps53
  go_wp2_with fail
  go_ret
  exact ⟨_, rfl, by rw [List.length_replicate, List.map_replicate]; exact HOW.out, HB.out.alloc _, only_alloc (World.grownBy.refl w _) _⟩
 subst h0
 obtain ⟨L, hL⟩ : ∃ L, (unrowS s.data.toList a n).1 = L := ⟨_, rfl⟩
 obtain ⟨to_, hto⟩ : ∃ L, (unrowS s.data.toList a n).2.1 = L := ⟨_, rfl⟩
 obtain ⟨U, hU⟩ : ∃ L, (unrowS s.data.toList a n).2.2 = L := ⟨_, rfl⟩
 have t1 : nuE s a n 0 = U := by unfold nuE; rw [if_pos rfl, hU]
 have t2 : nuA s a n 0 = if U = 0 then to_ else a := by unfold nuA; rw [t1, hto]
 have t3 : nuL s a n 0 = if U = 0 then L else List.replicate n 0 := by unfold nuL; rw [t1, hL]
 have HUN := Lib.hid (fun V => unrow_any s a n hs V)
 rw [hL, hto, hU] at HUN
 obtain ⟨RA, hRA⟩ : ∃ x, nuA s a n 0 = x := ⟨_, rfl⟩
 obtain ⟨RL, hRL⟩ : ∃ x, nuL s a n 0 = x := ⟨_, rfl⟩
 rw [hRA] at t2
 rw [hRL] at t3
 have HRA := Lib.hid t2; have HRL := Lib.hid t3
 rw [t1, hRA, hRL]
 have HB := Lib.hid h
 clear h t1 t2 t3 hL hto hU hRA hRL
 go_enter Tryz.func53, Tryz.ntmps53
 go_upto_region 3 with (fail)
 clear c2
 refine wp_region_held (S := fun V => Blk V r 67 (rdC s a 0)) (by kernel_rfl) ?_
 change wpAnyH _ _ _ _ _ _ _ _ w.drew
 have hS0 : Blk w.drew r 67 (rdC s a 0) := HB.out
 have hg0 : w.grownBy w.drew none := only_drew (World.grownBy.refl w none)
 generalize w.drew = u0 at *
 refine zt 0 (.pointer (some ⟨r, 0, none⟩)) (some 16) rfl (fun W hW => by go_simp) hS0 ?_
 simp only [Act.put, jb, jz, js]
 refine zt 1 (.pointer (some ⟨r, 0, none⟩)) (some 17) rfl (fun W hW => by go_simp) hS0 ?_
 simp only [Act.put, jb, jz, js]
 refine zt 2 (.pointer (some ⟨r, 0, none⟩)) (some 18) rfl (fun W hW => by go_simp) hS0 ?_
 simp only [Act.put, jb, jz, js]
 refine zt 3 (.string s) (some 19) rfl (fun W hW => exec_loadC 9 (.tmp 18) rfl _ rfl _ _ Tryz.underlying9 rfl ((Blk.cell hW 0).trans rfl)) hS0 ?_
 simp only [Act.put, jb, jz, js]
 refine zt 4 (.pointer (some ⟨r, 0, none⟩)) (some 20) rfl (fun W hW => by go_simp) hS0 ?_
 simp only [Act.put, jb, jz, js]
 refine zt 5 (.pointer (some ⟨r, 0, none⟩)) (some 21) rfl (fun W hW => by go_simp) hS0 ?_
 simp only [Act.put, jb, jz, js]
 refine zt 6 (.pointer (some ⟨r, 1, none⟩)) (some 22) rfl (fun W hW => by go_simp) hS0 ?_
 simp only [Act.put, jb, jz, js]
 refine zt 7 (.int .i64 (a : Int)) (some 23) rfl (fun W hW => exec_loadC 3 (.tmp 22) rfl _ rfl _ _ Tryz.underlying3 rfl ((Blk.cell hW 1).trans rfl)) hS0 ?_
 simp only [Act.put, jb, jz, js]
 refine zt 8 (.int .i64 (n : Int)) (some 24) rfl (fun W hW => by go_simp) hS0 ?_
 simp only [Act.put, jb, jz, js]
 refine held_one (i := 9) (by kernel_rfl) ?_
 refine held_enter (some 25) rfl rfl 92 #[.string s, .int .i64 (a : Int), .int .i64 (n : Int)] (exec_call3C _ (.tmp 19) (.tmp 23) (.tmp 24) _ rfl _ _ _ rfl rfl rfl (enters_of Tryz.func92 (by kernel_rfl) rfl _ _)) rfl ((HUN.out u0).mono ?_)
 rintro e w3 ⟨v, rfl, hown, hb3⟩
 have hg3 := grown_of_below hb3
 obtain ⟨A', cc, rfl, _⟩ := own_slice hown
 obtain ⟨m, hm⟩ : ∃ k, L.length = k := ⟨_, rfl⟩
 rw [hm] at hown ⊢
 have HOWN := Lib.hid hown; have HM := Lib.hid hm
 have HG3 := Lib.hid (grown_self hg0 hg3 (by simp))
 have hZ : w.heap.size ≤ u0.heap.size := hg0.size
 have HZ := Lib.hid hZ
 have HZ3 := Lib.hid hg3.size
 replace hS0 := hS0.grown hg3 (by simp)
 refine ⟨_, rfl, hS0, ?_⟩
 simp only [Act.put, jb, jz, js]
 clear hown hb3 hg3 hm hZ hg0
 refine zt 10 (.tuple #[.slice A' m cc, .int .i64 (to_ : Int), .int .i64 U]) (some 15) rfl (fun W hW => exec_moveC (.tmp 25) rfl _ rfl) hS0 ?_
 simp only [Act.put, jb, jz, js]
 refine zt 11 (.slice A' m cc) (some 26) rfl (fun W hW => by go_simp) hS0 ?_
 simp only [Act.put, jb, jz, js]
 refine zt 12 (.int .i64 (to_ : Int)) (some 27) rfl (fun W hW => by go_simp) hS0 ?_
 simp only [Act.put, jb, jz, js]
 refine zt 13 (.int .i64 U) (some 28) rfl (fun W hW => by go_simp) hS0 ?_
 simp only [Act.put, jb, jz, js]
 refine zt 14 (.slice A' m cc) (some 5) rfl (fun W hW => by go_simp) hS0 ?_
 simp only [Act.put, jb, jz, js]
 refine zt 15 (.int .i64 (to_ : Int)) (some 6) rfl (fun W hW => by go_simp) hS0 ?_
 simp only [Act.put, jb, jz, js]
 refine zt 16 (.int .i64 U) (some 7) rfl (fun W hW => by go_simp) hS0 ?_
 simp only [Act.put, jb, jz, js]
 refine wpAnyH_done (by kernel_rfl) ?_ _
 have HB3 := Lib.hid hS0
 clear hS0
 go_wp2_with fail
 refine (keepC_any s a 0 U r w3 HB3.out).mono ?_
 rintro e w4 ⟨rfl, hb4, hg4⟩
 rw [show kE 0 U = U from if_pos rfl] at hb4 ⊢
 have hown4 := HOWN.out.kept hg4 (by right; intro e; have := ownBlock_ge HOWN.out e; have := HZ.out; have := HR.out; omega)
 have HOW4 := Lib.hid (own_lower hown4 HZ.out)
 have HB4 := Lib.hid hb4; have HG4 := Lib.hid (grown_self (grown_rowC HG3.out (some r)) hg4 (fun k hk => .inl hk))
 have HZ4 : Hid (w.heap.size ≤ w4.heap.size) := Lib.hid (Nat.le_trans HZ.out (Nat.le_trans HZ3.out hg4.size))
 clear hb4 hg4 hown4
 by_cases hu : U = 0
 ·subst hu
  obtain rfl : RA = to_ := by have := HRA.out; simpa using this
  obtain rfl : RL = L := by have := HRL.out; simpa using this
  have c1 := HB4.out.cell 1
  simp only [rdC, List.getElem?_toArray, List.getElem?_cons_zero, List.getElem?_cons_succ] at c1
  have f1 := HB4.out.frozen 1
  have HB5 := Lib.hid (HB4.out.set_ 1 (.int .i64 (RA : Int)))
  have HG5 := Lib.hid (only_setC HG4.out 1 (.int .i64 (RA : Int)))
  have HOW5 := Lib.hid (own_setR HOW4.out (p := ⟨r, 1, none⟩) (fun e => by have := ownBlock_ge HOW4.out (show _ = some r from e); have := HR.out; omega) (.int .i64 (RA : Int)))
  go_wp2_with fail
  go_ret
  exact ⟨_, rfl, by rw [HM.out]; exact HOW5.out, HB5.out, HG5.out⟩
 ·obtain rfl : RA = a := by have := HRA.out; rwa [if_neg hu] at this
  obtain rfl : RL = List.replicate n 0 := by have := HRL.out; rwa [if_neg hu] at this
  have HOW := Lib.hid (own_rep (W := w4) (t := 23) (base := w.heap.size) n (.int .u64 0) (by omega) HZ4.out)
  rw [decide_eq_false hu]
  have HU := Lib.hid hu
  clear hu
  go_wp2_with fail
  go_ret
  exact ⟨_, rfl, by rw [List.length_replicate, List.map_replicate]; exact HOW.out, HB4.out.alloc _, only_alloc HG4.out _⟩
theorem unfixedBad_any (S : ByteArray) (hS : S.size ≠ 32) (w : World) :
  Calls Tryz.prog 84 #[.string S] w fun e w' => e = .returned (.tuple #[.agg (wordC 0), .int .i64 2]) ∧ w.grownBy w' none := by
 have q : ((S.size : Int) != 32) = true := by simp; omega
 have hG := only_alloc (World.grownBy.refl w none) (.cells #[.int .u64 0, .int .u64 0, .int .u64 0, .int .u64 0] 38)
 have hb := Blk.new w 38 #[.int .u64 0, .int .u64 0, .int .u64 0, .int .u64 0]
 have HG := Lib.hid hG; have HB := Lib.hid hb
 clear hS hG hb
 go_enter Tryz.func84, Tryz.ntmps84
 go_wp2_with fail
 refine bodyPost_ret (results_cv (fn := Tryz.f84) rfl _ _ _ _ rfl (load_word HB.out)) rfl ?_
 exact ⟨by simp [wordC, wp_zero], HG.out⟩
def wdN (s : ByteArray) (a : Nat) (E : Int) : Nat := if tkE s a 32 E = 0 then beV (tkS s a 32 E).data.toList else 0
theorem wordC_any (s : ByteArray) (a : Nat) (E : Int) (r : Nat) (w : World) (h : Blk w r 67 (rdC s a E)) (hs : s.size ≤ 1000000000000) (ha : a ≤ s.size) :
  Calls Tryz.prog 51 #[.pointer (some ⟨r, 0, none⟩)] w fun x w' => x = .returned (.agg (wordC (wdN s a E))) ∧ Blk w' r 67 (rdC s (tkA s a 32 E) (tkE s a 32 E)) ∧ w.grownBy w' (some r) := by
 obtain ⟨N, hN⟩ : ∃ N, wdN s a E = N := ⟨_, rfl⟩
 have huf : ∃ UE : Int, ∀ V, Calls Tryz.prog 84 #[.string (tkS s a 32 E)] V fun e w' => e = .returned (.tuple #[.agg (wordC N), .int .i64 UE]) ∧ V.grownBy w' none := by
  by_cases ht : tkE s a 32 E = 0
  ·have hz : (tkS s a 32 E).size = 32 := by
    have hle : ¬ s.size < a + 32 := by
     intro hh
     unfold tkE at ht
     by_cases h0 : E = 0
     ·rw [if_pos h0, if_pos hh] at ht; cases ht
     ·rw [if_neg h0] at ht; exact h0 ht
    unfold tkS
    rw [if_pos ht, ByteArray.size_extract]; omega
   refine ⟨0, fun V => ?_⟩
   have hNN : N = beV (tkS s a 32 E).data.toList := by rw [← hN]; unfold wdN; rw [if_pos ht]
   rw [hNN]
   exact unfixed_any _ hz V
  ·have hz : (tkS s a 32 E).size ≠ 32 := by unfold tkS; rw [if_neg ht]; simp
   refine ⟨2, fun V => ?_⟩
   have hNN : N = 0 := by rw [← hN]; unfold wdN; rw [if_neg ht]
   rw [hNN]
   exact unfixedBad_any _ hz V
 obtain ⟨UE, huf⟩ := huf
 have hG0 := only_alloc (World.grownBy.refl w none) (.cells #[.int .u64 0, .int .u64 0, .int .u64 0, .int .u64 0] 38)
 have hR0 := Blk.new w 38 #[.int .u64 0, .int .u64 0, .int .u64 0, .int .u64 0]
 have hr := h.lt
 have HT := Lib.hid (takeC_any s a 32 E r _ (h.alloc (.cells #[.int .u64 0, .int .u64 0, .int .u64 0, .int .u64 0] 38)) hs ha (by omega))
 obtain ⟨T, hT⟩ : ∃ T, tkE s a 32 E = T := ⟨_, rfl⟩
 obtain ⟨A, hA⟩ : ∃ T, tkA s a 32 E = T := ⟨_, rfl⟩
 obtain ⟨p0, hp0⟩ : ∃ T, tkS s a 32 E = T := ⟨_, rfl⟩
 obtain ⟨tb, htb⟩ : ∃ b, decide (T = 0) = b := ⟨_, rfl⟩
 rw [hT, hA, hp0, htb] at HT
 rw [hp0] at huf
 rw [hT, hA, hN]
 have HUF := Lib.hid huf; have HG0 := Lib.hid (grown_rowC hG0 (some r)); have HR := Lib.hid hr
 clear h hs ha hT hA hp0 hN huf hG0 htb hr
 go_enter Tryz.func51, Tryz.ntmps51
 go_upto_region 1 with (fail)
 obtain ⟨b, hb⟩ : ∃ b, w.heap.size = b := ⟨_, rfl⟩
 have HW := Lib.hid hb
 rw [hb] at hR0 ⊢
 clear hb
 generalize w.alloc (.cells #[.int .u64 0, .int .u64 0, .int .u64 0, .int .u64 0] 38) = w1 at *
 have HR0 := Lib.hid hR0
 clear hR0
 go_wp2_with fail
 refine HT.out.mono ?_
 rintro e w2 ⟨rfl, hb2, hg2⟩
 have HB2 := Lib.hid hb2
 have HG2 := Lib.hid (grown_self HG0.out hg2 (fun k hk => .inl hk))
 have HR2 := Lib.hid (HR0.out.grown hg2 (fun e => by have := Option.some.inj e; have := HR.out; have := HW.out; omega))
 clear hb2 hg2 HT
 go_wp2_with fail
 refine (HUF.out w2).mono ?_
 rintro e w3 ⟨rfl, hg3⟩
 have HB3 := Lib.hid (HB2.out.grown hg3 (by simp))
 have HG3 := Lib.hid (grown_self HG2.out hg3 (by simp))
 have HR3 := Lib.hid (HR2.out.grown hg3 (by simp))
 clear hg3
 simp only [wordC]
 have hga := only_alloc (World.grownBy.refl w3 none) (.cells #[.int .u64 (wp N 0 : Nat), .int .u64 (wp N 1 : Nat), .int .u64 (wp N 2 : Nat), .int .u64 (wp N 3 : Nat)] 38)
 have hT5 := Blk.new w3 38 #[.int .u64 (wp N 0 : Nat), .int .u64 (wp N 1 : Nat), .int .u64 (wp N 2 : Nat), .int .u64 (wp N 3 : Nat)]
 go_upto_region 3 with (fail)
 obtain ⟨g5, hg5⟩ : ∃ b, w3.heap.size = b := ⟨_, rfl⟩
 rw [hg5] at hT5 ⊢
 clear hg5
 have HB4 := Lib.hid (HB3.out.grown hga (by simp)); have HG4 := Lib.hid (grown_self HG3.out hga (by simp)); have HR4 := Lib.hid (HR3.out.grown hga (by simp))
 generalize w3.alloc (.cells #[.int .u64 (wp N 0 : Nat), .int .u64 (wp N 1 : Nat), .int .u64 (wp N 2 : Nat), .int .u64 (wp N 3 : Nat)] 38) = w4 at *
 have x0 := hT5.cell 0; have x1 := hT5.cell 1; have x2 := hT5.cell 2; have x3 := hT5.cell 3
 have c0 := HR4.out.cell 0; have c1 := HR4.out.cell 1; have c2 := HR4.out.cell 2; have c3 := HR4.out.cell 3
 have d0 := HR4.out.frozen 0; have d1 := HR4.out.frozen 1; have d2 := HR4.out.frozen 2; have d3 := HR4.out.frozen 3
 simp only [List.getElem?_toArray, List.getElem?_cons_zero, List.getElem?_cons_succ] at c0 c1 c2 c3 x0 x1 x2 x3
 clear hga hT5
 generalize hv0 : ((wp N 0 : Nat) : Int) = v0 at *
 generalize hv1 : ((wp N 1 : Nat) : Int) = v1 at *
 generalize hv2 : ((wp N 2 : Nat) : Int) = v2 at *
 generalize hv3 : ((wp N 3 : Nat) : Int) = v3 at *
 have HV := Lib.hid (⟨hv0, hv1, hv2, hv3⟩ : _ ∧ _ ∧ _ ∧ _)
 clear hv0 hv1 hv2 hv3
 have HR5 := Lib.hid ((((HR4.out.set_ 0 (.int .u64 v0)).set_ 1 (.int .u64 v1)).set_ 2 (.int .u64 v2)).set_ 3 (.int .u64 v3))
 have hwb : w.heap.size ≤ b := by have := HW.out; omega
 have HG5 := Lib.hid (only_set (only_set (only_set (only_set HG4.out (p := ⟨b, 0, none⟩) hwb (.int .u64 v0)) (p := ⟨b, 1, none⟩) hwb (.int .u64 v1)) (p := ⟨b, 2, none⟩) hwb (.int .u64 v2)) (p := ⟨b, 3, none⟩) hwb (.int .u64 v3))
 have hbr : r ≠ b := by have := HR.out; have := HW.out; omega
 have HB5 := Lib.hid (blk_setO (blk_setO (blk_setO (blk_setO HB4.out hbr 0 (.int .u64 v0)) hbr 1 (.int .u64 v1)) hbr 2 (.int .u64 v2)) hbr 3 (.int .u64 v3))
 clear hwb hbr
 go_wp2_with fail
 refine bodyPost_ret (results_cell1 (fn := Tryz.f51) rfl _ _ _ _ rfl (load_word HR5.out)) rfl ?_
 refine ⟨?_, HB5.out, HG5.out⟩
 obtain ⟨hv0, hv1, hv2, hv3⟩ := HV.out
 unfold wordC
 rw [hv0, hv1, hv2, hv3]
def rwE (l : Bool) (n : Nat) (few many : Int) (E : Int) : Int := if E = 0 then (if l then textE n few many else 2) else E
theorem rowC_any (s : ByteArray) (a : Nat) (E : Int) (r : Nat) (l : Bool) (b : ByteArray) (A : Option Addr) (n c : Nat) (few many : Int) (w : World) (h : Blk w r 67 (rdC s a E)) :
  Calls Tryz.prog 86 #[.pointer (some ⟨r, 0, none⟩), .agg #[.bool l, .string b, .slice A n c], .int .i64 few, .int .i64 many] w fun x w' => x = .returned (if rwE l n few many E = 0 then .slice A n c else .slice none 0 0) ∧ Blk w' r 67 (rdC s a (rwE l n few many E)) ∧ w.grownBy w' (some r) := by
 have hga := only_alloc (World.grownBy.refl w none) (.cells #[.bool l, .string b, .slice A n c] 106)
 have hbx := Blk.new w 106 #[.bool l, .string b, .slice A n c]
 have h1 := h.alloc (.cells #[.bool l, .string b, .slice A n c] 106)
 have c2 := h1.cell 2
 simp only [rdC, List.getElem?_toArray, List.getElem?_cons_zero, List.getElem?_cons_succ] at c2
 by_cases h0 : E = 0
 rotate_left
 ·have e1 : (E != 0) = true := by simpa using h0
  have t1 : rwE l n few many E = E := if_neg h0
  rw [t1, if_neg h0]
  have HB := Lib.hid h1; have HG := Lib.hid (grown_rowC hga (some r))
  clear h0 t1 h1 hga h hbx
  go_enter Tryz.func86, Tryz.ntmps86
  go_upto_region 1 with (fail)
  generalize w.alloc (.cells #[.bool l, .string b, .slice A n c] 106) = w1 at *
  go_wp2_with fail
  go_ret
  exact ⟨rfl, HB.out, HG.out⟩
 subst h0
 obtain ⟨U, hU⟩ : ∃ U, (if l then textE n few many else 2) = U := ⟨_, rfl⟩
 have t1 : rwE l n few many 0 = U := by unfold rwE; rw [if_pos rfl, hU]
 have hv : (if l = true ∧ textE n few many = 0 then (Value.slice A n c) else .slice none 0 0) = if U = 0 then .slice A n c else .slice none 0 0 := by
  rw [← hU]
  cases l <;> simp
 rw [t1]
 have HGL := Lib.hid (fun V => getList_any l b A n c few many V)
 rw [hU] at HGL
 have hgl2 : ∃ A' n' c', (if U = 0 then Value.slice A n c else .slice none 0 0) = .slice A' n' c' := by split; exact ⟨_, _, _, rfl⟩; exact ⟨_, _, _, rfl⟩
 obtain ⟨A', n', c', hgl2⟩ := hgl2
 rw [hv, hgl2] at HGL
 rw [hgl2]
 have HB := Lib.hid h1; have HG := Lib.hid (grown_rowC hga (some r))
 clear h1 hga h t1 hv hgl2 hU
 go_enter Tryz.func86, Tryz.ntmps86
 go_upto_region 1 with (fail)
 obtain ⟨g, hg⟩ : ∃ b, w.heap.size = b := ⟨_, rfl⟩
 rw [hg] at hbx ⊢
 clear hg
 generalize w.alloc (.cells #[.bool l, .string b, .slice A n c] 106) = w1 at *
 have x0 := hbx.cell 0; have x1 := hbx.cell 1; have x2 := hbx.cell 2
 simp only [List.getElem?_toArray, List.getElem?_cons_zero, List.getElem?_cons_succ] at x0 x1 x2
 clear hbx
 go_wp2_with fail
 refine (HGL.out w1).mono ?_
 rintro e w2 ⟨rfl, hg2⟩
 have HB2 := Lib.hid (HB.out.grown hg2 (by simp)); have HG2 := Lib.hid (grown_self HG.out hg2 (by simp))
 clear hg2 x0 x1 x2 c2
 go_wp2_with fail
 refine (keepC_any s a 0 U r w2 HB2.out).mono ?_
 rintro e w3 ⟨rfl, hb3, hg3⟩
 rw [show kE 0 U = U from if_pos rfl] at hb3 ⊢
 have HB3 := Lib.hid hb3; have HG3 := Lib.hid (grown_self HG2.out hg3 (fun k hk => .inl hk))
 clear hb3 hg3
 go_wp2_with fail
 go_ret
 exact ⟨rfl, HB3.out, HG3.out⟩
def exE (l : Bool) (z n : Nat) (E : Int) : Int := kE E (if (l || decide (z ≠ n)) = true then 2 else 0)
theorem exactC_any (s : ByteArray) (a : Nat) (E : Int) (r : Nat) (l : Bool) (b : ByteArray) (A : Option Addr) (k c n : Nat) (w : World) (h : Blk w r 67 (rdC s a E)) :
  Calls Tryz.prog 130 #[.pointer (some ⟨r, 0, none⟩), .agg #[.bool l, .string b, .slice A k c], .int .i64 (n : Int)] w fun x w' => x = .returned (.string b) ∧ Blk w' r 67 (rdC s a (exE l b.size n E)) ∧ w.grownBy w' (some r) := by
 have hga := only_alloc (World.grownBy.refl w none) (.cells #[.bool l, .string b, .slice A k c] 106)
 have hbx := Blk.new w 106 #[.bool l, .string b, .slice A k c]
 have h1 := h.alloc (.cells #[.bool l, .string b, .slice A k c] 106)
 have e1 : ((b.size : Int) != (n : Int)) = decide (b.size ≠ n) := by rw [bne, beq_n]; by_cases hh : b.size = n <;> simp [hh]
 obtain ⟨d, hd⟩ : ∃ d, decide (b.size ≠ n) = d := ⟨_, rfl⟩
 have hx : exE l b.size n E = kE E (if (l || d) = true then 2 else 0) := by rw [← hd]; rfl
 rw [hd] at e1
 rw [hx]
 have HB := Lib.hid h1; have HG := Lib.hid (grown_rowC hga (some r))
 have hkk : kE E 0 = E := by unfold kE; split; exact (by assumption : E = 0).symm; rfl
 have HKK := Lib.hid hkk
 have HR := Lib.hid h.lt
 clear h h1 hga hd hx hkk
 go_enter Tryz.func130, Tryz.ntmps130
 go_upto_region 1 with (fail)
 obtain ⟨g, hg⟩ : ∃ b, w.heap.size = b := ⟨_, rfl⟩
 have HW := Lib.hid hg
 rw [hg] at hbx ⊢
 clear hg
 generalize w.alloc (.cells #[.bool l, .string b, .slice A k c] 106) = w1 at *
 have x0 := hbx.cell 0; have x1 := hbx.cell 1
 simp only [List.getElem?_toArray, List.getElem?_cons_zero, List.getElem?_cons_succ] at x0 x1
 have HX := Lib.hid hbx
 clear hbx
 cases l with
 | true =>
  go_wp2_with fail
  refine (keepC_any s a E 2 r w1 HB.out).mono ?_
  rintro e w2 ⟨rfl, hb2, hg2⟩
  have HB2 := Lib.hid hb2; have HG2 := Lib.hid (grown_self HG.out hg2 (fun k hk => .inl hk))
  have hrg : r ≠ g := by have := HR.out; have := HW.out; omega
  have x1 := (HX.out.grown hg2 (fun e => hrg (Option.some.inj e).symm)).cell 1
  simp only [List.getElem?_toArray, List.getElem?_cons_zero, List.getElem?_cons_succ] at x1
  clear hb2 hg2 hrg
  go_wp2_with fail
  go_ret
  exact ⟨rfl, HB2.out, HG2.out⟩
 | false =>
  cases d with
  | true =>
   go_wp2_with fail
   refine (keepC_any s a E 2 r w1 HB.out).mono ?_
   rintro e w2 ⟨rfl, hb2, hg2⟩
   have HB2 := Lib.hid hb2; have HG2 := Lib.hid (grown_self HG.out hg2 (fun k hk => .inl hk))
   have hrg : r ≠ g := by have := HR.out; have := HW.out; omega
   have x1 := (HX.out.grown hg2 (fun e => hrg (Option.some.inj e).symm)).cell 1
   simp only [List.getElem?_toArray, List.getElem?_cons_zero, List.getElem?_cons_succ] at x1
   clear hb2 hg2 e1 hrg
   go_wp2_with fail
   go_ret
   exact ⟨rfl, HB2.out, HG2.out⟩
  | false =>
   go_wp2_with fail
   go_ret
   exact ⟨rfl, by have := HB.out; rwa [← HKK.out] at this, HG.out⟩
def byt (s : ByteArray) (i : Nat) : Nat := (s.data.toList.getD i 0).toNat
theorem byt_lt (s : ByteArray) (i : Nat) : byt s i < 256 := (s.data.toList.getD i 0).toNat_lt
def kdE (s : ByteArray) (a : Nat) (E : Int) : Int :=
 if E ≠ 0 then E else if s.size < a + 1 then 3 else if 192 ≤ byt s a then 0 else if byt s a ≠ 1 ∧ byt s a ≠ 2 then 9 else if s.size < a + 2 then 3 else if byt s (a + 1) < 192 then 2 else 0
def kdV (s : ByteArray) (a : Nat) (E : Int) : Nat :=
 if E ≠ 0 then 0 else if s.size < a + 1 then 0 else if 192 ≤ byt s a then 0 else if byt s a ≠ 1 ∧ byt s a ≠ 2 then 0 else byt s a
def kdA (s : ByteArray) (a : Nat) : Nat := if 192 ≤ byt s a then a else a + 1
theorem one_byte (s : ByteArray) (a : Nat) (h : a < s.size) (w : World) : (Instr.index 9 (.string (s.extract a (a + 1))) (.int .i64 0)).run Tryz.prog w = .ok (.int .u8 (byt s a : Int)) w := by
 refine idx_str (s.extract a (a + 1)) 0 (s.data.toList.getD a 0) ?_ w
 have hl : s.data.toList.length = s.size := ba_len s
 have hx : s.data.toList[a]? = some (s.data.toList.getD a 0) := at_getD 0 (by omega)
 generalize s.data.toList.getD a 0 = y at *
 rw [Lib.extract_data]
 simp [List.getElem?_take, List.getElem?_drop] at hx ⊢
 exact hx
theorem kindC_any (s : ByteArray) (a : Nat) (E : Int) (r : Nat) (w : World) (h : Blk w r 67 (rdC s a E)) (hs : s.size ≤ 1000000000000) (ha : a ≤ s.size) :
  Calls Tryz.prog 85 #[.pointer (some ⟨r, 0, none⟩)] w fun x w' => x = .returned (.int .i64 (kdV s a E : Int)) ∧ (∃ a', a' ≤ s.size ∧ (kdE s a E = 0 → a' = kdA s a) ∧ Blk w' r 67 (rdC s a' (kdE s a E))) ∧ w.grownBy w' (some r) := by
 have HT := Lib.hid (takeC_any s a 1 E r w h hs ha (by omega))
 by_cases h0 : E = 0
 rotate_left
 ·have t1 : tkE s a 1 E = E := if_neg h0
  have t2 : tkA s a 1 E = a := by unfold tkA; rw [t1, if_neg h0]
  have t3 : tkS s a 1 E = .empty := by unfold tkS; rw [t1, if_neg h0]
  have k1 : kdE s a E = E := if_pos h0
  have k2 : kdV s a E = 0 := if_pos h0
  rw [t1, t2, t3, decide_eq_false h0] at HT
  rw [k1, k2]
  have HA := Lib.hid ha; have HN := Lib.hid h0
  clear h hs ha h0 t1 t2 t3 k1 k2
  go_enter Tryz.func85, Tryz.ntmps85
  go_wp2_with fail
  refine HT.out.mono ?_
  rintro e w2 ⟨rfl, hb2, hg2⟩
  have HB2 := Lib.hid hb2; have HG2 := Lib.hid hg2
  clear hb2 hg2
  go_wp2_with fail
  go_ret
  exact ⟨rfl, ⟨a, HA.out, fun e => absurd e HN.out, HB2.out⟩, HG2.out⟩
 subst h0
 by_cases h1 : s.size < a + 1
 ·have t1 : tkE s a 1 0 = 3 := by unfold tkE; rw [if_pos rfl, if_pos h1]
  have t2 : tkA s a 1 0 = a := by unfold tkA; rw [t1, if_neg (by decide)]
  have t3 : tkS s a 1 0 = .empty := by unfold tkS; rw [t1, if_neg (by decide)]
  have k1 : kdE s a 0 = 3 := by unfold kdE; rw [if_neg (by simp), if_pos h1]
  have k2 : kdV s a 0 = 0 := by unfold kdV; rw [if_neg (by simp), if_pos h1]
  rw [t1, t2, t3, show decide ((3 : Int) = 0) = false from rfl] at HT
  rw [k1, k2]
  have HA := Lib.hid ha
  clear h hs ha h1 t1 t2 t3 k1 k2
  go_enter Tryz.func85, Tryz.ntmps85
  go_wp2_with fail
  refine HT.out.mono ?_
  rintro e w2 ⟨rfl, hb2, hg2⟩
  have HB2 := Lib.hid hb2; have HG2 := Lib.hid hg2
  clear hb2 hg2
  go_wp2_with fail
  go_ret
  exact ⟨rfl, ⟨a, HA.out, fun (e : (3 : Int) = 0) => absurd e (by decide), HB2.out⟩, HG2.out⟩
 have t1 : tkE s a 1 0 = 0 := by unfold tkE; rw [if_pos rfl, if_neg h1]
 have t2 : tkA s a 1 0 = a + 1 := by unfold tkA; rw [t1, if_pos rfl]
 have t3 : tkS s a 1 0 = s.extract a (a + 1) := by unfold tkS; rw [t1, if_pos rfl]
 rw [t1, t2, t3, show decide ((0 : Int) = 0) = true from rfl] at HT
 have hid := fun V => one_byte s a (by omega) V
 have hsz : (s.extract a (a + 1)).size = 1 := by rw [ByteArray.size_extract]; omega
 have hal : a < s.size := by omega
 have hC := byt_lt s a
 have hkA : kdA s a = if 192 ≤ byt s a then a else a + 1 := rfl
 have hkE : kdE s a 0 = if 192 ≤ byt s a then 0 else if byt s a ≠ 1 ∧ byt s a ≠ 2 then 9 else if s.size < a + 2 then 3 else if byt s (a + 1) < 192 then 2 else 0 := by unfold kdE; rw [if_neg (by simp), if_neg h1]
 have hkV : kdV s a 0 = if 192 ≤ byt s a then 0 else if byt s a ≠ 1 ∧ byt s a ≠ 2 then 0 else byt s a := by unfold kdV; rw [if_neg (by simp), if_neg h1]
 obtain ⟨KE, hKE⟩ : ∃ x, kdE s a 0 = x := ⟨_, rfl⟩
 obtain ⟨KV, hKV⟩ : ∃ x, kdV s a 0 = x := ⟨_, rfl⟩
 obtain ⟨KA, hKA⟩ : ∃ x, kdA s a = x := ⟨_, rfl⟩
 rw [hKE] at hkE; rw [hKV] at hkV; rw [hKA] at hkA
 rw [hKE, hKV, hKA]
 obtain ⟨p, hp⟩ : ∃ p, s.extract a (a + 1) = p := ⟨_, rfl⟩
 rw [hp] at HT hid hsz
 obtain ⟨C, hCC⟩ : ∃ C, byt s a = C := ⟨_, rfl⟩
 rw [hCC] at hid hC hkA hkE hkV
 have HKE := Lib.hid hkE; have HKV := Lib.hid hkV; have HKA := Lib.hid hkA; have HAL := Lib.hid hal; have HS := Lib.hid hs
 clear h t1 t2 t3 hp hCC hKE hKV hKA hkE hkV hkA ha
 have hw1 : IntKind.i64.wrap ((a + 1 : Nat) - 1 : Int) = (a : Int) := by rw [show ((a + 1 : Nat) : Int) - 1 = (a : Int) by omega]; exact wrap_natC (by omega)
 by_cases hc : 192 ≤ C
 ·have g1 : decide ((192 : Int) ≤ (C : Int)) = true := decide_eq_true (by omega)
  obtain rfl : KE = 0 := by have := HKE.out; rwa [if_pos hc] at this
  obtain rfl : KV = 0 := by have := HKV.out; rwa [if_pos hc] at this
  obtain rfl : KA = a := by have := HKA.out; rwa [if_pos hc] at this
  obtain ⟨a1, ha1⟩ : ∃ a1, KA + 1 = a1 := ⟨_, rfl⟩
  rw [ha1] at HT hw1
  clear hc h1 ha1 hal hs
  go_enter Tryz.func85, Tryz.ntmps85
  go_wp2_with fail
  refine HT.out.mono ?_
  rintro e w2 ⟨rfl, hb2, hg2⟩
  have HB2 := Lib.hid hb2; have HG2 := Lib.hid hg2
  have c1 := hb2.cell 1
  simp only [rdC, List.getElem?_toArray, List.getElem?_cons_zero, List.getElem?_cons_succ] at c1
  have f1 := hb2.frozen 1
  clear hb2 hg2
  go_wp2_with fail
  go_ret
  exact ⟨rfl, ⟨KA, Nat.le_of_lt HAL.out, fun _ => rfl, HB2.out.set_ 1 (.int .i64 (KA : Int))⟩, only_setC HG2.out 1 _⟩
 have g1 : decide ((192 : Int) ≤ (C : Int)) = false := decide_eq_false (by omega)
 have hwc : IntKind.i64.wrap (C : Int) = (C : Int) := wrap_natC (by omega)
 by_cases hb : C ≠ 1 ∧ C ≠ 2
 ·obtain rfl : KE = 9 := by have := HKE.out; rwa [if_neg hc, if_pos hb] at this
  obtain rfl : KV = 0 := by have := HKV.out; rwa [if_neg hc, if_pos hb] at this
  have q1 : ((C : Int) != 1) = true := by simp; omega
  have q2 : ((C : Int) != 2) = true := by simp; omega
  clear hc hb h1 hal hs hw1
  go_enter Tryz.func85, Tryz.ntmps85
  go_wp2_with fail
  refine HT.out.mono ?_
  rintro e w2 ⟨rfl, hb2, hg2⟩
  have HB2 := Lib.hid hb2; have HG2 := Lib.hid hg2
  clear hb2 hg2
  go_wp2_with fail
  refine (keepC_any s (a + 1) 0 9 r w2 HB2.out).mono ?_
  rintro e w3 ⟨rfl, hb3, hg3⟩
  rw [show kE 0 9 = 9 from rfl] at hb3
  have HB3 := Lib.hid hb3; have HG3 := Lib.hid (grown_self HG2.out hg3 (fun k hk => .inl hk))
  clear hb3 hg3
  go_wp2_with fail
  go_ret
  exact ⟨rfl, ⟨a + 1, HAL.out, fun (e : (9 : Int) = 0) => absurd e (by decide), HB3.out⟩, HG3.out⟩
 have hC12 : C = 1 ∨ C = 2 := by omega
 have hkv : KV = C := by have := HKV.out; rwa [if_neg hc, if_neg hb] at this
 have hke : KE = if s.size < a + 2 then 3 else if byt s (a + 1) < 192 then 2 else 0 := by have := HKE.out; rwa [if_neg hc, if_neg hb] at this
 have hka : KA = a + 1 := by have := HKA.out; rwa [if_neg hc] at this
 have HT2 := Lib.hid (fun V h => takeC_any s (a + 1) 1 0 r V h HS.out HAL.out (by omega))
 have q12 : ((C : Int) != 1 && (C : Int) != 2) = false := by rcases hC12 with rfl | rfl <;> rfl
 subst hkv; subst hka
 have HKE2 := Lib.hid hke
 by_cases h2 : s.size < a + 2
 ·obtain rfl : KE = 3 := by have := HKE2.out; rwa [if_pos h2] at this
  have t1 : tkE s (a + 1) 1 0 = 3 := by unfold tkE; rw [if_pos rfl, if_pos (by omega)]
  have t2 : tkA s (a + 1) 1 0 = a + 1 := by unfold tkA; rw [t1, if_neg (by decide)]
  have t3 : tkS s (a + 1) 1 0 = .empty := by unfold tkS; rw [t1, if_neg (by decide)]
  rw [t1, t2, t3, show decide ((3 : Int) = 0) = false from rfl] at HT2
  obtain ⟨a1, ha1⟩ : ∃ a1, a + 1 = a1 := ⟨_, rfl⟩
  rw [ha1] at HT HT2 hw1
  clear hc hb h1 hal hs h2 t1 t2 t3 hke
  rcases hC12 with rfl | rfl
  all_goals
   go_enter Tryz.func85, Tryz.ntmps85
   go_wp2_with fail
   refine HT.out.mono ?_
   rintro e w2 ⟨rfl, hb2, hg2⟩
   have HB2 := Lib.hid hb2; have HG2 := Lib.hid hg2
   clear hb2 hg2
   go_wp2_with fail
   refine (HT2.out w2 HB2.out).mono ?_
   rintro e w3 ⟨rfl, hb3, hg3⟩
   have HB3 := Lib.hid hb3; have HG3 := Lib.hid (grown_self HG2.out hg3 (fun k hk => .inl hk))
   have c1 := hb3.cell 1
   simp only [rdC, List.getElem?_toArray, List.getElem?_cons_zero, List.getElem?_cons_succ] at c1
   have f1 := hb3.frozen 1
   clear hb3 hg3
   go_wp2_with fail
   go_ret
   exact ⟨rfl, ⟨a, Nat.le_of_lt HAL.out, fun (e : (3 : Int) = 0) => absurd e (by decide), HB3.out.set_ 1 (.int .i64 (a : Int))⟩, only_setC HG3.out 1 _⟩
 have t1 : tkE s (a + 1) 1 0 = 0 := by unfold tkE; rw [if_pos rfl, if_neg (by omega)]
 have t2 : tkA s (a + 1) 1 0 = a + 1 + 1 := by unfold tkA; rw [t1, if_pos rfl]
 have t3 : tkS s (a + 1) 1 0 = s.extract (a + 1) (a + 1 + 1) := by unfold tkS; rw [t1, if_pos rfl]
 rw [t1, t2, t3, show decide ((0 : Int) = 0) = true from rfl] at HT2
 have hid2 := fun V => one_byte s (a + 1) (by omega) V
 have hsz2 : (s.extract (a + 1) (a + 1 + 1)).size = 1 := by rw [ByteArray.size_extract]; omega
 have hD := byt_lt s (a + 1)
 obtain ⟨p2, hp2⟩ : ∃ p, s.extract (a + 1) (a + 1 + 1) = p := ⟨_, rfl⟩
 rw [hp2] at HT2 hid2 hsz2
 obtain ⟨D, hDD⟩ : ∃ C, byt s (a + 1) = C := ⟨_, rfl⟩
 rw [hDD] at hid2 hD HKE2
 have hw2 : IntKind.i64.wrap ((a + 1 + 1 : Nat) - 1 : Int) = ((a + 1 : Nat) : Int) := by rw [show ((a + 1 + 1 : Nat) : Int) - 1 = ((a + 1 : Nat) : Int) by omega]; exact wrap_natC (by omega)
 obtain ⟨a2, ha2⟩ : ∃ a2, a + 1 + 1 = a2 := ⟨_, rfl⟩
 obtain ⟨a1, ha1⟩ : ∃ a1, a + 1 = a1 := ⟨_, rfl⟩
 rw [ha2] at HT2 hw2
 have HAL1 : Hid (a1 ≤ s.size) := Lib.hid (by have := HAL.out; omega)
 rw [ha1] at HT HT2 hw1 hw2 ⊢
 have HX : Hid (KE = if D < 192 then 2 else 0) := Lib.hid (by have := HKE2.out; rwa [if_neg h2] at this)
 clear hc hb h1 hal hs h2 t1 t2 t3 hke hp2 hDD ha2 HKE HKE2 HKV HKA
 by_cases hd : D < 192
 ·obtain rfl : KE = 2 := by have := HX.out; rwa [if_pos hd] at this
  have g2 : decide ((D : Int) < 192) = true := decide_eq_true (by omega)
  clear hd
  rcases hC12 with rfl | rfl
  all_goals
   go_enter Tryz.func85, Tryz.ntmps85
   go_wp2_with fail
   refine HT.out.mono ?_
   rintro e w2 ⟨rfl, hb2, hg2⟩
   have HB2 := Lib.hid hb2; have HG2 := Lib.hid hg2
   clear hb2 hg2
   go_wp2_with fail
   refine (HT2.out w2 HB2.out).mono ?_
   rintro e w3 ⟨rfl, hb3, hg3⟩
   have HB3 := Lib.hid hb3; have HG3 := Lib.hid (grown_self HG2.out hg3 (fun k hk => .inl hk))
   clear hb3 hg3
   go_wp2_with fail
   refine (keepC_any s a2 0 2 r w3 HB3.out).mono ?_
   rintro e w4 ⟨rfl, hb4, hg4⟩
   rw [show kE 0 2 = 2 from rfl] at hb4
   have HB4 := Lib.hid hb4; have HG4 := Lib.hid (grown_self HG3.out hg4 (fun k hk => .inl hk))
   have c1 := hb4.cell 1
   simp only [rdC, List.getElem?_toArray, List.getElem?_cons_zero, List.getElem?_cons_succ] at c1
   have f1 := hb4.frozen 1
   clear hb4 hg4
   go_wp2_with fail
   go_ret
   exact ⟨rfl, ⟨a1, HAL1.out, fun (e : (2 : Int) = 0) => absurd e (by decide), HB4.out.set_ 1 (.int .i64 (a1 : Int))⟩, only_setC HG4.out 1 _⟩
 ·obtain rfl : KE = 0 := by have := HX.out; rwa [if_neg hd] at this
  have g2 : decide ((D : Int) < 192) = false := decide_eq_false (by omega)
  clear hd
  rcases hC12 with rfl | rfl
  all_goals
   go_enter Tryz.func85, Tryz.ntmps85
   go_wp2_with fail
   refine HT.out.mono ?_
   rintro e w2 ⟨rfl, hb2, hg2⟩
   have HB2 := Lib.hid hb2; have HG2 := Lib.hid hg2
   clear hb2 hg2
   go_wp2_with fail
   refine (HT2.out w2 HB2.out).mono ?_
   rintro e w3 ⟨rfl, hb3, hg3⟩
   have HB3 := Lib.hid hb3; have HG3 := Lib.hid (grown_self HG2.out hg3 (fun k hk => .inl hk))
   have c1 := hb3.cell 1
   simp only [rdC, List.getElem?_toArray, List.getElem?_cons_zero, List.getElem?_cons_succ] at c1
   have f1 := hb3.frozen 1
   clear hb3 hg3
   go_wp2_with fail
   go_ret
   exact ⟨rfl, ⟨a1, HAL1.out, fun _ => rfl, HB3.out.set_ 1 (.int .i64 (a1 : Int))⟩, only_setC HG3.out 1 _⟩
theorem exec_call3 {P : Program} {a : Act} {o : Oper} {W : World} (f : FuncId) (x y z : Operand) (ts : Array TypeId) (ho : o.op = .call { callee := .value (.func f), args := #[x, y, z], argTypes := ts }) (v u t : Value) (hx : a.eval x = v) (hy : a.eval y = u) (hz : a.eval z = t)
  (hf : (callFunc f #[v, u, t]).run P W = .ok (.enter f #[v, u, t]) W) : (execOp a.eval o).run P W = .ok (.enter f #[v, u, t]) W := by
 have he : a.eval (.func f) = .func (.func f) #[] #[] := rfl
 unfold execOp
 generalize a.eval = ev at *
 simp only [ho]
 simp [resolve, invoke, go_sem, hx, hy, hz, he, hf]
theorem ba_take {s : ByteArray} {N : Nat} : (s.extract 0 N).data.toList = s.data.toList.take N := by
 rw [Lib.extract_data]; simp
theorem item_sub (k : Nat) (hk : k ≤ 11) (hC : ItemC k) (s : ByteArray) (a r : Nat) (W : World) (hs : s.size ≤ 65536) (ha : a ≤ s.size) (hr : Blk W r 193 #[.int .i64 ((12 - (k + 1) : Nat) : Int), .int .i64 0])
  (he : lookE s.data.toList (a : Int) = 0) (hl : lookL s.data.toList (a : Int) = true) :
  Calls Tryz.prog 154 #[.pointer (some ⟨r, 0, none⟩), .string s, .int .i64 (a : Int)] W fun e W1 => ∃ l b sA sn sc tq, e = .returned (.tuple #[.agg #[.bool l, .string b, .slice sA sn sc], .int .i64 tq]) ∧ W.grownBy W1 (some r) ∧ ItemTail (k + 1) s.data.toList a r W l b (.slice sA sn sc) tq W1 := by
 have hlz : s.data.toList.length = s.size := ba_len s
 have hlk := fun V => look_any s (a : Int) (by omega) V
 have hrl := hr.lt
 have hG := guard_no (k := k + 1) ha (by omega)
 have hi := item_list (k := k) he hl
 obtain ⟨b0, b1, b2, b3, b4, b5⟩ := look_ok he
 rw [hl] at b5
 have b6 : 192 ≤ headC s.data.toList a := by simpa using b5.symm
 rw [hl, he] at hlk
 have hxA := Blk.new W 106 #[.bool false, .string ⟨#[]⟩, .slice none 0 0]
 have hrA := hr.alloc (.cells #[.bool false, .string ⟨#[]⟩, .slice none 0 0] 106)
 have hGA : W.grownBy (W.alloc (.cells #[.bool false, .string ⟨#[]⟩, .slice none 0 0] 106)) none := only_alloc (World.grownBy.refl _ _) _
 have k1 := (hr.alloc (.cells #[.bool false, .string ⟨#[]⟩, .slice none 0 0] 106)).cell 0
 simp only [List.getElem?_toArray, List.getElem?_cons_zero] at k1
 have hcalls := fun V (hV : Blk V r 193 #[.int .i64 ((11 - k : Nat) : Int), .int .i64 0]) => items_any k hk hC (s.extract 0 (lookFrom s.data.toList (a : Int) + lookN s.data.toList (a : Int))) (lookFrom s.data.toList (a : Int)) r V (by simp; omega) hV
 rw [hlz] at b1
 have hex : (s.extract 0 (lookFrom s.data.toList (a : Int) + lookN s.data.toList (a : Int))).size = lookFrom s.data.toList (a : Int) + lookN s.data.toList (a : Int) := by simp; omega
 rw [ba_take, hex] at hcalls
 have hd : (12 - (k + 1) : Nat) = 11 - k := by omega
 rw [hd] at hr hrA hG k1
 clear he hl b5 hex hd
 generalize lookFrom s.data.toList (a : Int) = F at *
 generalize lookN s.data.toList (a : Int) = N at *
 generalize hR : itemsF (itemF k (s.data.toList.take (F + N))) (F + N) 513 0 F = R at *
 have HI := Lib.hid hi
 have HC := Lib.hid hcalls
 clear hi hcalls hR
 have v1 : IntKind.i64.wrap ((F : Int) + (N : Int)) = (F : Int) + (N : Int) := IntWalk.i64_in _ (by omega)
 rcases hG with ⟨d1, d1'⟩ | ⟨d1, hid, d2⟩ | ⟨d1, hid, d2, d3⟩
 ·exfalso; simp at d1'; omega
 ·exfalso; simp at d2; omega
 generalize headC s.data.toList a = c at *
 go_enter Tryz.func154, Tryz.ntmps154
 go_wp2_with fail
 refine (hlk _).mono ?_
 rintro e w2 ⟨rfl, hg⟩
 have y0 := hxA.grown hg (by simp)
 have y1 := hrA.grown hg (by simp)
 have hG2 := only_weak (grown_self hGA hg (by simp)) (some r)
 have z0 := y0.alloc (.cells #[.int .i64 (F : Int), .int .i64 (N : Int), .bool true] 188)
 have z1 := y1.alloc (.cells #[.int .i64 (F : Int), .int .i64 (N : Int), .bool true] 188)
 have z2 := Blk.new w2 188 #[.int .i64 (F : Int), .int .i64 (N : Int), .bool true]
 have hG3 := only_alloc hG2 (.cells #[.int .i64 (F : Int), .int .i64 (N : Int), .bool true] 188)
 have hz2 : W.heap.size < w2.heap.size := by have := hg.size; simp at this; omega
 clear hxA hrA hGA hg hlk hG2 y0 y1 k1 hr
 go_upto_region 8 with (fail)
 generalize w2.alloc (.cells #[.int .i64 (F : Int), .int .i64 (N : Int), .bool true] 188) = w3 at *
 have r0 := z2.cell 0; have r1 := z2.cell 1; have r2 := z2.cell 2
 simp only [List.getElem?_toArray, List.getElem?_cons_zero, List.getElem?_cons_succ] at r0 r1 r2
 go_upto_region 11 with (fail)
 generalize w2.heap.size = b2 at *
 clear r0 r1 r2
 refine wp_region_held (S := fun V => Blk V b2 188 #[.int .i64 (F : Int), .int .i64 (N : Int), .bool true]) (by kernel_rfl) ?_
 change wpAnyH _ _ _ _ _ _ _ _ w3.drew
 replace z0 : Blk w3.drew W.heap.size 106 #[.bool false, .string ⟨#[]⟩, .slice none 0 0] := z0
 replace z1 : Blk w3.drew r 193 #[.int .i64 ((11 - k : Nat) : Int), .int .i64 0] := z1
 replace z2 : Blk w3.drew b2 188 #[.int .i64 (F : Int), .int .i64 (N : Int), .bool true] := z2
 replace hG3 : W.grownBy w3.drew (some r) := ⟨hG3.os, hG3.tape, hG3.output, hG3.size, hG3.block⟩
 generalize w3.drew = u0 at *
 refine zt 0 (.pointer (some ⟨r, 0, none⟩)) (some 62) rfl (fun V hV => by go_simp) z2 ?_
 simp only [Act.put, jb, jz, js]
 refine zt 1 (.string s) (some 63) rfl (fun V hV => by go_simp) z2 ?_
 simp only [Act.put, jb, jz, js]
 refine zt 2 (.int .i64 ((F : Int) + (N : Int))) (some 64) rfl (fun V hV => by go_simp) z2 ?_
 simp only [Act.put, jb, jz, js]
 refine zt 3 (.string (s.extract 0 (F + N))) (some 65) rfl (fun V hV => by go_simp; rw [if_pos ⟨by omega, by omega⟩, show ((F : Int) + (N : Int)).toNat = F + N by omega]) z2 ?_
 simp only [Act.put, jb, jz, js]
 refine zt 4 (.pointer (some ⟨b2, 0, none⟩)) (some 66) rfl (fun V hV => by go_simp) z2 ?_
 simp only [Act.put, jb, jz, js]
 refine zt 5 (.int .i64 (F : Int)) (some 67) rfl (fun V hV => exec_load1 3 (.tmp 66) rfl _ rfl _ _ Tryz.underlying3 rfl (hV.cell 0)) z2 ?_
 simp only [Act.put, jb, jz, js]
 refine zt 7 (.int .i64 ((F : Int) + (N : Int))) (some 69) rfl (fun V hV => by go_simp) z2 ?_
 simp only [Act.put, jb, jz, js]
 refine held_one (i := 6) (by kernel_rfl) ?_
 refine held_enter (some 68) rfl rfl 174 #[.pointer (some ⟨r, 0, none⟩), .string (s.extract 0 (F + N)), .int .i64 (F : Int)] (exec_call3 _ (.tmp 62) (.tmp 65) (.tmp 67) _ rfl _ _ _ rfl rfl rfl rfl) rfl ?_
 refine (HC.out u0 z1).mono ?_
 rintro e w4 ⟨sA, sn, sc, rfl, hg, hpost⟩
 have z2' := z2.grown hg (by simp; omega)
 have z0' := z0.grown hg (by simp; omega)
 refine ⟨_, rfl, z2', ?_⟩
 simp only [Act.put, jb, jz, js]
 have t2 := blk_set3 z0' (.bool true) (.string .empty) (.slice sA sn sc)
 have t4 := only_set3 (grown_self hG3 hg (fun q e => .inl e)) (g := W.heap.size) (Nat.le_refl _) (.bool true) (.string .empty) (.slice sA sn sc)
 have t5 := ((z2'.far (p := ⟨W.heap.size, 0, none⟩) (by show b2 ≠ W.heap.size; omega) (.bool true)).far (p := ⟨W.heap.size, 1, none⟩) (by show b2 ≠ W.heap.size; omega) (.string .empty)).far (p := ⟨W.heap.size, 2, none⟩) (by show b2 ≠ W.heap.size; omega) (.slice sA sn sc)
 refine held_one (i := 8) (by kernel_rfl) ?_
 refine held_store rfl rfl (exec_store3 (.tmp 6) (.tmp 68) rfl rfl rfl z0' (by simp)) t5 ?_
 simp only [Act.put, jb, jz, js]
 refine held_one (i := 9) (by kernel_rfl) ?_
 refine held_value (some 7) rfl rfl (.int .i64 ((F : Int) + (N : Int))) (by go_simp) rfl t5 ?_
 simp only [Act.put, jb, jz, js]
 refine wpAnyH_done (by kernel_rfl) ?_ _
 have T2 := Lib.hid t2; have T4 := Lib.hid t4
 have st : Stays (fun g => g = W.heap.size) w4 (((w4.setCell ⟨W.heap.size, 0, none⟩ (.bool true)).setCell ⟨W.heap.size, 1, none⟩ (.string .empty)).setCell ⟨W.heap.size, 2, none⟩ (.slice sA sn sc)) := by
  intro g o ho _ hx
  exact (Below.heap_setCell _ _ _ g hx).trans ((Below.heap_setCell _ _ _ g hx).trans ((Below.heap_setCell _ _ _ g hx).trans ho))
 have hsz := z2.lt
 have HP : Hid (ItemTail (k + 1) s.data.toList a r W true .empty (.slice sA sn sc) ((F : Int) + (N : Int)) (((w4.setCell ⟨W.heap.size, 0, none⟩ (.bool true)).setCell ⟨W.heap.size, 1, none⟩ (.string .empty)).setCell ⟨W.heap.size, 2, none⟩ (.slice sA sn sc))) := by
  refine Lib.hid ?_
  have e12 : (12 - (k + 1) : Nat) = 11 - k := by omega
  unfold ItemTail
  rw [e12]
  rcases hpost with ⟨xs, h1, h2, h3⟩ | ⟨E, h1, h2, h3⟩
  ·refine .inl ⟨_, _, by rw [HI.out, h1], by simp, rfl, rfl, st.blk h2 (by omega), ?_⟩
   exact (st.sub (h3.weak (S' := fun g => u0.heap.size ≤ g) fun g h => h) (by intro g h e; omega)).weak fun g h => by omega
  ·exact .inr ⟨E, by rw [HI.out, h1], h2, st.blk h3 (by omega)⟩
 clear t2 t4 t5 z2' z0' z0 z1 z2 hG3 hg hpost st
 go_wp2_with fail
 refine bodyPost_ret (results_ct (fn := Tryz.f154) rfl _ _ _ _ rfl (load_item T2.out)) rfl ?_
 exact .inr ⟨.empty, sA, sn, sc, (F : Int) + (N : Int), rfl, T4.out, HP.out⟩
theorem item_any (k : Nat) (hk : k ≤ 12) : ItemC k := by
 induction k with
 | zero =>
  intro s a r W hs ha hr
  have hlz : s.data.toList.length = s.size := ba_len s
  by_cases h1 : a < s.size ∧ 192 ≤ headC s.data.toList a
  ·exact item_deep s a r W hs h1.1 h1.2 hr
  ·by_cases he : lookE s.data.toList (a : Int) = 0
   ·refine item_txt 0 s a r W hs ha hr (by rintro ⟨h2, h3, _⟩; exact h1 ⟨h2, h3⟩) he ?_
    obtain ⟨b0, _, _, _, _, b5⟩ := look_ok he
    rw [b5]
    exact decide_eq_false (fun h => h1 ⟨by omega, h⟩)
   ·exact item_bad 0 s a r W hs ha hr (by rintro ⟨h2, h3, _⟩; exact h1 ⟨h2, h3⟩) he
 | succ k ih =>
  intro s a r W hs ha hr
  by_cases he : lookE s.data.toList (a : Int) = 0
  ·by_cases hl : lookL s.data.toList (a : Int) = true
   ·exact item_sub k (by omega) (ih (by omega)) s a r W hs ha hr he hl
   ·exact item_txt (k + 1) s a r W hs ha hr (by omega) he (by simpa using hl)
  ·exact item_bad (k + 1) s a r W hs ha hr (by omega) he
def decodeF (l : List UInt8) : Except Int Itm :=
 if 65536 < l.length then .error 5 else match itemF 12 l 0 with
  | .error e => .error e
  | .ok (x, q) => if q < l.length then .error 4 else .ok x
def DecTail (l : List UInt8) (W : World) (lst : Bool) (b : ByteArray) (sv : Value) (E : Int) (W1 : World) : Prop :=
 (∃ x, decodeF l = .ok x ∧ E = 0 ∧ lst = x.list ∧ b = x.bytes ∧ SubV (fun g => W.heap.size ≤ g) W1 x.items sv) ∨
 (decodeF l = .error E ∧ E ≠ 0 ∧ lst = false ∧ b = ⟨#[]⟩ ∧ sv = .slice none 0 0)
def DecEnd (l : List UInt8) (W : World) (e : Ending) (W1 : World) : Prop :=
 ∃ lst b sA sn sc E, e = .returned (.tuple #[.agg #[.bool lst, .string b, .slice sA sn sc], .int .i64 E]) ∧ W.grownBy W1 none ∧ DecTail l W lst b (.slice sA sn sc) E W1
theorem decode_long (s : ByteArray) (W : World) (hs : 65536 < s.size) (hs2 : s.size ≤ 9223372036854775807) :
  Calls Tryz.prog 124 #[.string s] W (DecEnd s.data.toList W) := by
 have hd : Hid (decodeF s.data.toList = .error 5) := Lib.hid (by unfold decodeF; rw [if_pos (by rw [ba_len]; exact hs)])
 have d1 : (65536 : Int) < (s.size : Int) := by omega
 have hxA := Blk.new W 106 #[.bool false, .string ⟨#[]⟩, .slice none 0 0]
 have hGA : W.grownBy (W.alloc (.cells #[.bool false, .string ⟨#[]⟩, .slice none 0 0] 106)) none := only_alloc (World.grownBy.refl _ _) _
 go_enter Tryz.func124, Tryz.ntmps124
 go_wp2_with fail
 refine bodyPost_ret (results_ct (fn := Tryz.f124) rfl _ _ _ _ rfl (load_item hxA)) rfl ?_
 exact ⟨_, _, _, _, _, _, rfl, hGA, .inr ⟨hd.out, by decide, rfl, rfl, rfl⟩⟩
theorem decode_short (s : ByteArray) (W : World) (hs : s.size ≤ 65536) :
  Calls Tryz.prog 124 #[.string s] W (DecEnd s.data.toList W) := by
 have hlz : s.data.toList.length = s.size := ba_len s
 have d1 : decide ((65536 : Int) < (s.size : Int)) = false := decide_eq_false (by omega)
 have hxA := Blk.new W 106 #[.bool false, .string ⟨#[]⟩, .slice none 0 0]
 have hGA : W.grownBy (W.alloc (.cells #[.bool false, .string ⟨#[]⟩, .slice none 0 0] 106)) none := only_alloc (World.grownBy.refl _ _) _
 have hit := fun V (h : Blk V (W.heap.size + 1) 193 #[.int .i64 0, .int .i64 0]) => item_any 12 (by decide) s 0 (W.heap.size + 1) V hs (by omega) h
 have HIT := Lib.hid hit
 clear hit
 go_enter Tryz.func124, Tryz.ntmps124
 go_wp2_with fail
 have hrB := Blk.new (W.alloc (.cells #[.bool false, .string ⟨#[]⟩, .slice none 0 0] 106)) 193 #[.int .i64 0, .int .i64 0]
 rw [World.size_alloc] at hrB
 have hxB := hxA.alloc (.cells #[.int .i64 0, .int .i64 0] 193)
 have hGB := only_alloc hGA (.cells #[.int .i64 0, .int .i64 0] 193)
 refine (HIT.out _ hrB).mono ?_
 rintro e w4 ⟨l, b, sA, sn, sc, tq, rfl, hg, hpost⟩
 have hxC := hxB.grown hg (by simp)
 have hGC := grown_self hGB hg (fun q e => .inr (by injection e; omega))
 have hz4 := hg.size
 simp only [World.size_alloc] at hz4
 have e12 : (12 - 12 : Nat) = 0 := rfl
 unfold ItemTail at hpost
 rw [e12, Int.ofNat_zero] at hpost
 have hnew := Blk.new w4 106 #[.bool l, .string b, .slice sA sn sc]
 have hxD := hxC.alloc (.cells #[.bool l, .string b, .slice sA sn sc] 106)
 have hGD := only_alloc hGC (.cells #[.bool l, .string b, .slice sA sn sc] 106)
 have hlt : W.heap.size + 1 < w4.heap.size := by omega
 have hz5 : (w4.alloc (.cells #[.bool l, .string b, .slice sA sn sc] 106)).heap.size = w4.heap.size + 1 := by simp
 have hz2 : W.heap.size ≤ ((W.alloc (.cells #[.bool false, .string ⟨#[]⟩, .slice none 0 0] 106)).alloc (.cells #[.int .i64 0, .int .i64 0] 193)).heap.size := by simp; omega
 rcases hpost with ⟨x, q, h1, rfl, rfl, rfl, h2, h3⟩ | ⟨E, h1, h2, h3⟩
 ·have hrD := h2.alloc (.cells #[.bool x.list, .string x.bytes, .slice sA sn sc] 106)
  have hsub := h3.keep (W' := w4.alloc (.cells #[.bool x.list, .string x.bytes, .slice sA sn sc] 106)) (fun p hp u hu => by rw [World.cell?_alloc_lt w4 _ p (World.block_lt_of_cell? w4 p hu)]; exact hu)
  have hsub := hsub.weak (S' := fun g => W.heap.size + 2 ≤ g) (fun g hg' => by simpa using hg')
  have hne : w4.heap.size ≠ W.heap.size := by omega
  clear hxA hxB hxC hrB hGA hGB hGC hg h2 h3 HIT
  go_upto_region 5 with (fail)
  generalize w4.alloc (.cells #[.bool x.list, .string x.bytes, .slice sA sn sc] 106) = w5 at *
  have c1 := hrD.cell 1
  simp only [List.getElem?_toArray, List.getElem?_cons_zero, List.getElem?_cons_succ] at c1
  by_cases hq : q < s.size
  ·have hd : Hid (decodeF s.data.toList = .error 4) := Lib.hid (by unfold decodeF; rw [if_neg (by omega), h1]; exact if_pos (by omega))
   have d2 : (q : Int) < (s.size : Int) := by omega
   have c0 := hxD.cell 0; have c2 := hxD.cell 1; have c3 := hxD.cell 2
   have f0 := hxD.frozen 0; have f1 := hxD.frozen 1; have f2 := hxD.frozen 2
   simp only [List.getElem?_toArray, List.getElem?_cons_zero, List.getElem?_cons_succ] at c0 c2 c3
   have t2 := blk_set3 hxD (.bool false) (.string ⟨#[]⟩) (.slice none 0 0)
   have t4 := only_set3 hGD (g := W.heap.size) (Nat.le_refl _) (.bool false) (.string ⟨#[]⟩) (.slice none 0 0)
   have T2 := Lib.hid t2; have T4 := Lib.hid t4
   clear t2 t4 hxD hGD hrD hnew h1 hsub
   go_wp2_with fail
   refine bodyPost_ret (results_ct (fn := Tryz.f124) rfl _ _ _ _ rfl (load_item T2.out)) rfl ?_
   exact ⟨_, _, _, _, _, _, rfl, T4.out, .inr ⟨hd.out, by decide, rfl, rfl, rfl⟩⟩
  ·have hd : Hid (decodeF s.data.toList = .ok x) := Lib.hid (by unfold decodeF; rw [if_neg (by omega), h1]; exact if_neg (by omega))
   have d2 : decide ((q : Int) < (s.size : Int)) = false := decide_eq_false (by omega)
   have d3 : decide (q < s.size) = false := decide_eq_false hq
   go_upto_region 9 with (fail)
   have c0 := hxD.cell 0; have c2 := hxD.cell 1; have c3 := hxD.cell 2
   have f0 := hxD.frozen 0; have f1 := hxD.frozen 1; have f2 := hxD.frozen 2
   have l0 := hnew.cell 0; have l2 := hnew.cell 1; have l3 := hnew.cell 2
   simp only [List.getElem?_toArray, List.getElem?_cons_zero, List.getElem?_cons_succ] at c0 c2 c3 l0 l2 l3
   have t2 := blk_set3 hxD (.bool x.list) (.string x.bytes) (.slice sA sn sc)
   have t4 := only_set3 hGD (g := W.heap.size) (Nat.le_refl _) (.bool x.list) (.string x.bytes) (.slice sA sn sc)
   have t5 := (hsub.keep (W' := ((w5.setCell ⟨W.heap.size, 0, none⟩ (.bool x.list)).setCell ⟨W.heap.size, 1, none⟩ (.string x.bytes)).setCell ⟨W.heap.size, 2, none⟩ (.slice sA sn sc)) (fun p hp u hu => by
    rw [World.cell?_setCell_other _ _ _ _ (by intro e; subst e; have hp' : W.heap.size + 2 ≤ W.heap.size := hp; omega), World.cell?_setCell_other _ _ _ _ (by intro e; subst e; have hp' : W.heap.size + 2 ≤ W.heap.size := hp; omega), World.cell?_setCell_other _ _ _ _ (by intro e; subst e; have hp' : W.heap.size + 2 ≤ W.heap.size := hp; omega)]; exact hu)).weak (S' := fun g => W.heap.size ≤ g) (fun g hg' => by omega)
   have T2 := Lib.hid t2; have T4 := Lib.hid t4; have T5 := Lib.hid t5
   clear t2 t4 t5 hxD hGD hrD hnew h1 hsub
   go_wp2_with fail
   refine bodyPost_ret (results_ct (fn := Tryz.f124) rfl _ _ _ _ rfl (load_item T2.out)) rfl ?_
   exact ⟨_, _, _, _, _, _, rfl, T4.out, .inl ⟨x, hd.out, rfl, rfl, rfl, T5.out⟩⟩
 ·have hd : Hid (decodeF s.data.toList = .error E) := Lib.hid (by unfold decodeF; rw [if_neg (by omega), h1])
  have hrD := h3.alloc (.cells #[.bool l, .string b, .slice sA sn sc] 106)
  have e1 : (E != 0) = true := by simpa using h2
  have HE := Lib.hid h2
  clear hxA hxB hxC hrB hGA hGB hGC hg h3 h2 HIT
  go_upto_region 5 with (fail)
  generalize w4.alloc (.cells #[.bool l, .string b, .slice sA sn sc] 106) = w5 at *
  have c1 := hrD.cell 1
  have c0 := hxD.cell 0; have c2 := hxD.cell 1; have c3 := hxD.cell 2
  have f0 := hxD.frozen 0; have f1 := hxD.frozen 1; have f2 := hxD.frozen 2
  simp only [List.getElem?_toArray, List.getElem?_cons_zero, List.getElem?_cons_succ] at c0 c2 c3 c1
  have t2 := blk_set3 hxD (.bool false) (.string ⟨#[]⟩) (.slice none 0 0)
  have t4 := only_set3 hGD (g := W.heap.size) (Nat.le_refl _) (.bool false) (.string ⟨#[]⟩) (.slice none 0 0)
  have T2 := Lib.hid t2; have T4 := Lib.hid t4
  clear t2 t4 hxD hGD hrD hnew h1
  go_upto_region 6 with (fail)
  go_region
  all_goals go_wp2_with fail
  all_goals
   refine bodyPost_ret (results_ct (fn := Tryz.f124) rfl _ _ _ _ rfl (load_item (Blk.drew T2.out))) rfl ?_
   exact ⟨_, _, _, _, _, _, rfl, ⟨T4.out.os, T4.out.tape, T4.out.output, T4.out.size, T4.out.block⟩, .inr ⟨hd.out, HE.out, rfl, rfl, rfl⟩⟩
theorem decode_any (s : ByteArray) (W : World) (hs : s.size ≤ 9223372036854775807) : Calls Tryz.prog 124 #[.string s] W (DecEnd s.data.toList W) := by
 rcases Nat.lt_or_ge 65536 s.size with h | h
 ·exact decode_long s W h hs
 ·exact decode_short s W h
end Go.Proofs.YtgclnikdkfpflaaGreatDoor
