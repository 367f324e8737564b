/- Merged: CgI. -/
import Derived.Test.YtgclnikdkfpflaaGreatDoorMt1
import Derived.Test.YtgclnikdkfpflaaGreatDoorMt19
namespace Go.Proofs.YtgclnikdkfpflaaGreatDoor
open Go.RowKit Go.Shelf
open List renaming set_cons_zero → jz, set_cons_succ → js, setIfInBounds_toArray → jb
set_option linter.unusedVariables false
set_option linter.unusedSimpArgs false
set_option maxRecDepth 100000
set_option maxHeartbeats 16000000
def OutI (s : ByteArray) (a : Nat) (E : Int) (y : Itm) (a2 : Nat) (E2 : Int) : Prop :=
 (∃ T, E = 0 ∧ itR s.data.toList a = .ok (y, T) ∧ E2 = 0 ∧ a2 = T) ∨ (E2 ≠ 0 ∧ (E ≠ 0 → E2 = E) ∧ (E = 0 → itR s.data.toList a = .error E2))
theorem ItEnd.uni {s : ByteArray} {a r : Nat} {E : Int} {w w' : World} {e : Ending} (h : ItEnd s a E r w e w') :
  ∃ y sA sc a2 E2, e = .returned (.agg #[.bool y.list, .string y.bytes, .slice sA y.items.length sc]) ∧ w.grownBy w' (some r) ∧ Blk w' r 67 (rdC s a2 E2) ∧ a2 ≤ s.size ∧ SubV (fun g => w.heap.size ≤ g) w' y.items (.slice sA y.items.length sc) ∧ OutI s a E y a2 E2 := by
 obtain ⟨lst, b, sA, sn, sc, a', E', rfl, hg, hb, ha, hh⟩ := h
 rcases hh with ⟨y, T, h0, hit, hE, hT, hl, hbb, hs⟩ | ⟨h1, h2, h3, hl, hbb, hs⟩
 ·have hn := hs.row.1
  subst hl; subst hbb; subst hn
  exact ⟨y, sA, sc, a', E', rfl, hg, hb, ha, hs, .inl ⟨T, h0, hit, hE, hT⟩⟩
 ·cases hs
  subst hl; subst hbb
  exact ⟨Itm.mk false ⟨#[]⟩ [], none, 0, a', E', rfl, hg, hb, ha, subNil _ _, .inr ⟨h1, h2, h3⟩⟩
theorem exec_callc0 {P : Program} {a : Act} {o : Oper} {W : World} (f : FuncId) (y : Operand) (ts : Array TypeId) (c : Value) (ho : o.op = .call { callee := .value y, args := #[], argTypes := ts }) (hy : a.eval y = .func (.func f) #[] #[c]) (hf : (callFunc f #[c]).run P W = .ok (.enter f #[c]) W) : (execOp a.eval o).run P W = .ok (.enter f #[c]) W := by
 unfold execOp
 generalize a.eval = ev at *
 simp only [ho]
 simp [resolve, invoke, go_sem, hy, hf]
theorem setCells_row {u : World} {g : Nat} {C : Array Value} {t : TypeId} (h : Blk u g t C) (o : Nat) (vs : List Value) : u.setCells g o vs = u.setRow g (putA o vs C) := by
 have h1 := setRow_self u g C t (0, 0) h
 have h2 := setRow_setCells h vs o C
 rw [h1] at h2
 exact h2
theorem exec_call4C {P : Program} {a : Act} {o : Oper} {W : World} (f : FuncId) (x y z q : Operand) (ts : Array TypeId) (ho : o.op = .call { callee := .value (.func f), args := #[x, y, z, q], argTypes := ts }) (v u t k : Value) (hx : a.eval x = v) (hy : a.eval y = u) (hz : a.eval z = t) (hq : a.eval q = k)
  (hf : (callFunc f #[v, u, t, k]).run P W = .ok (.enter f #[v, u, t, k]) W) : (execOp a.eval o).run P W = .ok (.enter f #[v, u, t, k]) W := by
 have he : a.eval (.func f) = .func (.func f) #[] #[] := rfl
 unfold execOp
 generalize a.eval = ev at *
 simp only [ho]
 simp [resolve, invoke, go_sem, hx, hy, hz, hq, he, hf]
theorem set_row {u : World} {g o : Nat} {C : Array Value} {t : TypeId} (h : Blk u g t C) (v : Value) : u.setCell ⟨g, o, none⟩ v = u.setRow g (putA o [v] C) := by
 have h1 := setRow_self u g C t (0, 0) h
 have h2 := setRow_setCell h C o v
 rw [h1] at h2
 exact h2
def RestEnd (s : ByteArray) (a : Nat) (E : Int) (r gl o : Nat) (C : Array Value) (w : World) (e : Ending) (w' : World) : Prop :=
 ∃ a' E' C', e = .returned (.tuple #[]) ∧ Blk w' r 67 (rdC s a' E') ∧ a' ≤ s.size ∧ Blk w' gl 42 C' ∧ C'.size = C.size ∧ (∀ j, j < o ∨ o + 36 ≤ j → C'[j]? = C[j]?) ∧ C'[o]? = some (.int .i64 (kdV s a E : Nat)) ∧ Gr2 w w' r gl ∧
  ((E' ≠ 0 ∧ restR s a E = .error E') ∨
   (∃ zs T A c vs, E' = 0 ∧ restR s a E = .ok (zs, T) ∧ a' = T ∧ C' = gotC (kdV s a E) o zs C (.slice A (gotA (kdV s a E) zs).1.length c) ∧ (kdV s a E ≠ 0 → AccSt w.heap.size (.slice A (gotA (kdV s a E) zs).1.length c) (gotA (kdV s a E) zs).1.length (gotA (kdV s a E) zs).1 vs w')))
def OutA (s : ByteArray) (a : Nat) (E : Int) (a3 : Nat) (E3 : Int) (zs : List Itm) : Prop :=
 (E3 ≠ 0 ∧ restR s a E = .error E3) ∨ (E3 = 0 ∧ kdE s a E = 0 ∧ ∃ y, itR s.data.toList (kdA s a) = .ok (y, a3) ∧ rwF (3 + (kdV s a E : Nat)) (3 + (kdV s a E : Nat)) y 0 = 0 ∧ zs = y.items ∧ zs.length = 3 + kdV s a E)
theorem outA_of {s : ByteArray} {a a1 a2 : Nat} {E E2 : Int} {y : Itm} (h1 : kdE s a E = 0 → a1 = kdA s a) (h : OutI s a1 (kdE s a E) y a2 E2) : OutA s a E a2 (rwF (3 + (kdV s a E : Nat)) (3 + (kdV s a E : Nat)) y E2) (rwL (3 + (kdV s a E : Nat)) (3 + (kdV s a E : Nat)) y E2) := by
 rcases h with ⟨T, h0, hit, rfl, rfl⟩ | ⟨h2, h3, h4⟩
 ·rw [h1 h0] at hit
  have hR : restR s a E = if rwF (3 + (kdV s a E : Nat)) (3 + (kdV s a E : Nat)) y 0 ≠ 0 then .error (rwF (3 + (kdV s a E : Nat)) (3 + (kdV s a E : Nat)) y 0) else
   if (gotA (kdV s a E) y.items).2 ≠ 0 then .error (gotA (kdV s a E) y.items).2 else .ok (y.items, a2) := by
   unfold restR
   rw [if_neg (by rw [h0]; simp), hit]
  by_cases hF : rwF (3 + (kdV s a E : Nat)) (3 + (kdV s a E : Nat)) y 0 = 0
  ·have hF' : rwE y.list y.items.length (3 + (kdV s a E : Nat)) (3 + (kdV s a E : Nat)) 0 = 0 := hF
   have hfit := textE_fit (rwE_0 hF').2.2
   have hL : rwL (3 + (kdV s a E : Nat)) (3 + (kdV s a E : Nat)) y 0 = y.items := by unfold rwL; rw [if_pos hF']
   exact .inr ⟨hF, h0, y, hit, hF, hL, by rw [hL]; omega⟩
  ·exact .inl ⟨hF, by rw [hR, if_pos hF]⟩
 ·have hF : rwF (3 + (kdV s a E : Nat)) (3 + (kdV s a E : Nat)) y E2 = E2 := by unfold rwF rwE; rw [if_neg h2]
  refine .inl ⟨by rw [hF]; exact h2, ?_⟩
  rw [hF]
  by_cases h0 : kdE s a E = 0
  ·have hit := h4 h0
   rw [h1 h0] at hit
   unfold restR
   rw [if_neg (by rw [h0]; simp), hit]
  ·unfold restR
   rw [if_pos h0, h3 h0]
theorem kdV_le (s : ByteArray) (a : Nat) (E : Int) : kdV s a E = 0 ∨ kdV s a E = 1 ∨ kdV s a E = 2 := by
 unfold kdV
 split
 ·exact .inl rfl
 split
 ·exact .inl rfl
 split
 ·exact .inl rfl
 split
 ·exact .inl rfl
 ·rename_i h; omega
theorem restC_any (s : ByteArray) (a : Nat) (E : Int) (r gl o : Nat) (C : Array Value) (w : World) (h : Blk w r 67 (rdC s a E)) (hrow : Blk w gl 42 C) (hfit : o + 36 ≤ C.size) (hne : r ≠ gl) (hs : s.size ≤ 1000000000000) (ha : a ≤ s.size) (hzb : ∀ y T, itR s.data.toList (kdA s a) = .ok (y, T) → ∀ z ∈ y.items, z.bytes.size ≤ 9223372036854775807) :
  Calls Tryz.prog 52 #[.pointer (some ⟨r, 0, none⟩), .pointer (some ⟨gl, o, none⟩)] w (RestEnd s a E r gl o C w) := by
 have HKD := Lib.hid (kindC_any s a E r w h hs ha)
 have hrl := h.lt; have hll := hrow.lt
 obtain ⟨kd, hkd⟩ : ∃ k, kdV s a E = k := ⟨_, rfl⟩
 have hk2 := kdV_le s a E
 rw [hkd] at HKD hk2
 have HKV := Lib.hid hkd; have HK2 := Lib.hid hk2
 have HROW := Lib.hid hrow; have HFIT := Lib.hid hfit; have HNE := Lib.hid hne; have HS := Lib.hid hs; have HRL := Lib.hid hrl; have HLL := Lib.hid hll
 have HZB0 := Lib.hid hzb
 clear h hrow hfit hne hs ha hrl hll hkd hk2 hzb
 go_enter Tryz.func52, Tryz.ntmps52
 go_wp2_with fail
 refine HKD.out.mono ?_
 rintro e w2 ⟨rfl, ⟨a1, ha1, hka, hb2⟩, hg2⟩
 have hne := HNE.out
 have hrow2 : Blk w2 gl 42 C := HROW.out.grown hg2 (fun e => hne (Option.some.inj e).symm)
 have hcell : w2.cell? ⟨gl, o, none⟩ = some (C.getD o undef) := by
  rw [hrow2.cell, Array.getD_eq_getD_getElem?, Array.getElem?_eq_getElem (by have := HFIT.out; omega)]; rfl
 have hfro := hrow2.frozen o
 have hset := set_row (o := o) hrow2 (.int .i64 (kd : Int))
 have HG2 := Lib.hid ((Gr2.refl w r gl).grown hg2 (fun k e => .inl (Option.some.inj e).symm))
 obtain ⟨old, hold⟩ : ∃ v, C.getD o undef = v := ⟨_, rfl⟩
 rw [hold] at hcell
 have HB2 := Lib.hid hb2; have HROW2 := Lib.hid hrow2; have HA1 := Lib.hid ha1; have HKA := Lib.hid hka; have HSET := Lib.hid hset
 clear hb2 hg2 ha1 hka hrow2 hold hset hne HKD
 go_upto_region 1 with (fail)
 rw [HSET.out]
 clear hcell hfro
 obtain ⟨C1, hC1⟩ : ∃ X, putA o [.int .i64 (kd : Int)] C = X := ⟨_, rfl⟩
 have hz1 : C1.size = C.size := by rw [← hC1]; exact putA_size _ _ _
 have hk1 : C1[o]? = some (.int .i64 (kd : Int)) := by
  rw [← hC1]
  show (C.setIfInBounds o _)[o]? = _
  rw [Array.getElem?_setIfInBounds_self_of_lt (by have := HFIT.out; omega)]
 rw [hC1]
 have HC1 := Lib.hid hC1; have HZ1 := Lib.hid hz1; have HK1 := Lib.hid hk1
 have hb3 : Blk (w2.setRow gl C1) r 67 (rdC s a1 (kdE s a E)) := (setRow_other w2 gl r C1 HNE.out).trans HB2.out
 have hrow3 : Blk (w2.setRow gl C1) gl 42 C1 := blk_setRow HROW2.out
 have hg3 := HG2.out.setRow C1
 clear hC1 hz1 hk1 HSET HB2 HROW2 HG2
 generalize w2.setRow gl C1 = w3 at *
 have hwk : IntKind.i64.wrap (3 + (kd : Int)) = 3 + (kd : Int) := by
  have := wrap_natC (k := 3 + kd) (by have := HK2.out; omega)
  simpa using this
 obtain ⟨KE, hKE⟩ : ∃ e, kdE s a E = e := ⟨_, rfl⟩
 rw [hKE] at hb3
 have HKE := Lib.hid hKE
 clear hKE
 go_cut [4] (fun v wx => ∃ (p a3 : Nat) (E3 : Int) (zs : List Itm), v = .pointer (some ⟨p, 0, none⟩) ∧ RsA w s r gl o (kd : Int) a3 E3 C1 p wx.heap.size zs wx ∧ a3 ≤ s.size ∧ Hid (OutA s a E a3 E3 zs))
 case first =>
  have HB3 := Lib.hid hb3; have HROW3 := Lib.hid hrow3; have HG3 := Lib.hid hg3
  refine wp_region_held (S := fun V => Blk V gl 42 C1) (by kernel_rfl) ?_
  change wpAnyH _ _ _ _ _ _ _ _ w3.drew
  have hS : Blk w3.drew gl 42 C1 := hrow3
  have hrd : Blk w3.drew r 67 (rdC s a1 KE) := hb3
  have hgr : Gr2 w w3.drew r gl := hg3.grown (only_drew (World.grownBy.refl w3 none)) (fun k e => by cases e)
  clear hb3 hrow3 hg3
  have hz0 : w.heap.size ≤ w3.drew.heap.size := hgr.size
  generalize w3.drew = u0 at *
  refine zt 0 (.pointer (some ⟨r, 0, none⟩)) (some 18) rfl (fun W hW => by go_simp) hS ?_
  simp only [Act.put, jb, jz, js]
  refine zt 1 (.pointer (some ⟨r, 0, none⟩)) (some 19) rfl (fun W hW => by go_simp) hS ?_
  simp only [Act.put, jb, jz, js]
  refine zt 3 (.pointer (some ⟨gl, o, none⟩)) (some 21) rfl (fun W hW => by go_simp) hS ?_
  simp only [Act.put, jb, jz, js]
  refine zt 4 (.pointer (some ⟨gl, o, none⟩)) (some 22) rfl (fun W hW => by go_simp) hS ?_
  simp only [Act.put, jb, jz, js]
  refine zt 5 (.pointer (some ⟨gl, o, none⟩)) (some 23) rfl (fun W hW => by go_simp) hS ?_
  simp only [Act.put, jb, jz, js]
  refine zt 6 (.int .i64 (kd : Int)) (some 24) rfl (fun W hW => exec_loadC 3 (.tmp 23) rfl _ rfl _ _ Tryz.underlying3 rfl ((Blk.cell hW o).trans HK1.out)) hS ?_
  simp only [Act.put, jb, jz, js]
  refine zt 7 (.int .i64 (3 + (kd : Int))) (some 25) rfl (fun W hW => by go_simp) hS ?_
  simp only [Act.put, jb, jz, js]
  refine zt 8 (.pointer (some ⟨gl, o, none⟩)) (some 26) rfl (fun W hW => by go_simp) hS ?_
  simp only [Act.put, jb, jz, js]
  refine zt 9 (.pointer (some ⟨gl, o, none⟩)) (some 27) rfl (fun W hW => by go_simp) hS ?_
  simp only [Act.put, jb, jz, js]
  refine zt 10 (.pointer (some ⟨gl, o, none⟩)) (some 28) rfl (fun W hW => by go_simp) hS ?_
  simp only [Act.put, jb, jz, js]
  refine zt 11 (.int .i64 (kd : Int)) (some 29) rfl (fun W hW => exec_loadC 3 (.tmp 28) rfl _ rfl _ _ Tryz.underlying3 rfl ((Blk.cell hW o).trans HK1.out)) hS ?_
  simp only [Act.put, jb, jz, js]
  refine zt 12 (.int .i64 (3 + (kd : Int))) (some 30) rfl (fun W hW => by go_simp) hS ?_
  simp only [Act.put, jb, jz, js]
  refine held_two (i := 2) (j := 14) (by kernel_rfl) ?_ ?_
  ·skip
   refine held_enter (some 20) rfl rfl 87 #[.pointer (some ⟨r, 0, none⟩)] (exec_call1 _ (.tmp 19) _ rfl _ rfl (enters_of Tryz.func87 (by kernel_rfl) rfl _ _)) rfl ((itemC_any s a1 KE r u0 hrd HS.out HA1.out).mono ?_)
   intro e u1 hend
   obtain ⟨y, sA, sc, a2, E2, rfl, hg, hrd', ha2, hsub, hout⟩ := hend.uni
   have hS := hS.grown hg (fun e => HNE.out (Option.some.inj e).symm)
   have hgr := hgr.grown hg (fun k e => .inl (Option.some.inj e).symm)
   have hz1 := hg.size
   refine ⟨_, rfl, hS, ?_⟩
   simp only [Act.put, jb, jz, js]
   refine held_two (i := 13) (j := 14) (by kernel_rfl) ?_ ?_
   ·skip
    obtain ⟨A1, c1, hv1, hs1⟩ := rwL_slice (3 + (kd : Int)) (3 + (kd : Int)) E2 hsub
    have hcr := rowC_any s a2 E2 r y.list y.bytes sA y.items.length sc (3 + (kd : Int)) (3 + (kd : Int)) u1 hrd'
    rw [hv1] at hcr
    refine held_enter (some 31) rfl rfl 86 #[.pointer (some ⟨r, 0, none⟩), .agg #[.bool y.list, .string y.bytes, .slice sA y.items.length sc], .int .i64 (3 + (kd : Int)), .int .i64 (3 + (kd : Int))] (exec_call4C _ (.tmp 18) (.tmp 20) (.tmp 25) (.tmp 30) _ rfl _ _ _ _ rfl rfl rfl rfl (enters_of Tryz.func86 (by kernel_rfl) rfl _ _)) rfl (hcr.mono ?_)
    rintro e u2 ⟨rfl, hrd2, hg⟩
    have hS := hS.grown hg (fun e => HNE.out (Option.some.inj e).symm)
    have hgr := hgr.grown hg (fun k e => .inl (Option.some.inj e).symm)
    replace hs1 := (hs1.lt.keep fun q hq v hv => hg.cell hv fun e => by have := Option.some.inj e; have := hq.1; have := HRL.out; have := hgr.size; have h9 : u0.heap.size ≤ q.block := hq.1; have := hz0; omega)
    have hz2 := hg.size
    refine ⟨_, rfl, hS, ?_⟩
    simp only [Act.put, jb, jz, js]
    refine held_one (i := 14) (by kernel_rfl) ?_
    have hga3 := only_alloc (World.grownBy.refl u2 none) (.cells #[.slice none 0 0] 104)
    have hpb := Blk.new u2 104 #[.slice none 0 0]
    have hwp : w.heap.size ≤ u2.heap.size := hgr.size
    obtain ⟨p, hp⟩ : ∃ p, u2.heap.size = p := ⟨_, rfl⟩
    have hS := hS.grown hga3 (by simp)
    have hgr := hgr.grown hga3 (fun k e => by cases e)
    refine held_value (some 4) rfl rfl (.pointer (some ⟨u2.heap.size, 0, none⟩)) (w' := u2.alloc (.cells #[.slice none 0 0] 104)) (by go_simp <;> rfl) rfl hS ?_
    simp only [Act.put, jb, jz, js]
    replace hs1 : SubV (fun g => w.heap.size ≤ g ∧ g ≠ p) (u2.alloc (.cells #[.slice none 0 0] 104)) _ _ := (hs1.weak (fun g (hg : u0.heap.size ≤ g ∧ g < u1.heap.size) => (⟨Nat.le_trans hz0 hg.1, by have := hz2; omega⟩ : w.heap.size ≤ g ∧ g ≠ p))).grown hga3
    replace hrd2 := hrd2.grown hga3 (by simp)
    rw [hp] at hpb hwp ⊢
    generalize u2.alloc (.cells #[.slice none 0 0] 104) = u3 at *
    refine held_one (i := 15) (by kernel_rfl) ?_
    obtain ⟨N, hN⟩ : ∃ n, (rwL (3 + (kd : Int)) (3 + (kd : Int)) y E2).length = n := ⟨_, rfl⟩
    refine held_skip rfl rfl rfl (w' := u3.setCell ⟨p, 0, none⟩ (.slice A1 (rwL (3 + (kd : Int)) (3 + (kd : Int)) y E2).length c1)) (exec_store_val 104 (.tmp 4) (.tmp 31) rfl p 0 rfl _ rfl #[.slice A1 (rwL (3 + (kd : Int)) (3 + (kd : Int)) y E2).length c1] rfl (there_blk hpb (by simp)) (by kernel_rfl) (by simp [Value.oneCell'])) (blk_setO hS (by have := HLL.out; omega) 0 _) ?_
    (try simp only [Act.put, jb, jz, js])
    refine wpAnyH_done (by kernel_rfl) ?_ _
    have hfin : RsA w s r gl o (kd : Int) a2 (rwF (3 + (kd : Int)) (3 + (kd : Int)) y E2) C1 p (u3.setCell ⟨p, 0, none⟩ (.slice A1 (rwL (3 + (kd : Int)) (3 + (kd : Int)) y E2).length c1)).heap.size (rwL (3 + (kd : Int)) (3 + (kd : Int)) y E2) (u3.setCell ⟨p, 0, none⟩ (.slice A1 (rwL (3 + (kd : Int)) (3 + (kd : Int)) y E2).length c1)) := by
     refine ⟨blk_setO hrd2 (by have := HRL.out; omega) 0 _, blk_setO hS (by have := HLL.out; omega) 0 _, ⟨A1, c1, show Blk _ p 104 #[.slice A1 (rwL (3 + (kd : Int)) (3 + (kd : Int)) y E2).length c1] from by simpa using Blk.set_ hpb 0 (.slice A1 (rwL (3 + (kd : Int)) (3 + (kd : Int)) y E2).length c1), (hs1.lt.keep fun q hq v hv => ?_).weak fun g hg => ⟨hg.1.1, hg.1.2, by simpa [World.setCell] using hg.2⟩⟩, ?_, hwp, by have := hpb.lt; simpa [World.setCell] using this, Nat.le_refl _, HRL.out, HLL.out, HNE.out, by rw [HZ1.out]; exact HFIT.out, HK1.out⟩
     ·rw [World.cell?_setCell_far _ _ _ _ (by exact fun e => hq.1.2 e.symm)]; exact hv
     ·exact hgr.grown (only_setC (World.grownBy.refl u3 (some p)) 0 _) (fun k e => .inr (.inr (by have := Option.some.inj e; omega)))
    have HOUT : Hid (OutA s a E a2 (rwF (3 + (kd : Int)) (3 + (kd : Int)) y E2) (rwL (3 + (kd : Int)) (3 + (kd : Int)) y E2)) := Lib.hid (by
     have := outA_of (s := s) (a := a) (a1 := a1) (a2 := a2) (E := E) (E2 := E2) (y := y) HKA.out (by rw [HKE.out]; exact hout)
     rw [HKV.out] at this
     exact this)
    have HFIN := Lib.hid hfin
    go_wp2_with fail
    go_meet
    exact ⟨p, a2, _, _, rfl, HFIN.out, ha2, HOUT⟩
   ·skip
    have hga3 := only_alloc (World.grownBy.refl u1 none) (.cells #[.slice none 0 0] 104)
    have hpb := Blk.new u1 104 #[.slice none 0 0]
    have hwp : w.heap.size ≤ u1.heap.size := hgr.size
    obtain ⟨p, hp⟩ : ∃ p, u1.heap.size = p := ⟨_, rfl⟩
    have hS := hS.grown hga3 (by simp)
    have hgr := hgr.grown hga3 (fun k e => by cases e)
    refine held_value (some 4) rfl rfl (.pointer (some ⟨u1.heap.size, 0, none⟩)) (w' := u1.alloc (.cells #[.slice none 0 0] 104)) (by go_simp <;> rfl) rfl hS ?_
    simp only [Act.put, jb, jz, js]
    replace hsub : SubV (fun g => w.heap.size ≤ g ∧ g ≠ p) (u1.alloc (.cells #[.slice none 0 0] 104)) y.items _ := (hsub.lt.weak (fun g (hg : u0.heap.size ≤ g ∧ g < u1.heap.size) => (⟨Nat.le_trans hz0 hg.1, by omega⟩ : w.heap.size ≤ g ∧ g ≠ p))).grown hga3
    replace hrd' := hrd'.grown hga3 (by simp)
    rw [hp] at hpb hwp ⊢
    generalize u1.alloc (.cells #[.slice none 0 0] 104) = u2 at *
    refine held_one (i := 13) (by kernel_rfl) ?_
    obtain ⟨A1, c1, hv1, hs1⟩ := rwL_slice (3 + (kd : Int)) (3 + (kd : Int)) E2 hsub
    have hcr := rowC_any s a2 E2 r y.list y.bytes sA y.items.length sc (3 + (kd : Int)) (3 + (kd : Int)) u2 hrd'
    rw [hv1] at hcr
    refine held_enter (some 31) rfl rfl 86 #[.pointer (some ⟨r, 0, none⟩), .agg #[.bool y.list, .string y.bytes, .slice sA y.items.length sc], .int .i64 (3 + (kd : Int)), .int .i64 (3 + (kd : Int))] (exec_call4C _ (.tmp 18) (.tmp 20) (.tmp 25) (.tmp 30) _ rfl _ _ _ _ rfl rfl rfl rfl (enters_of Tryz.func86 (by kernel_rfl) rfl _ _)) rfl (hcr.mono ?_)
    rintro e u3 ⟨rfl, hrd2, hg⟩
    have hS := hS.grown hg (fun e => HNE.out (Option.some.inj e).symm)
    have hgr := hgr.grown hg (fun k e => .inl (Option.some.inj e).symm)
    replace hs1 := hs1.keep fun q hq v hv => hg.cell hv fun e => by have := Option.some.inj e; have := hq.1; have := HRL.out; omega
    replace hpb := hpb.grown hg (fun e => by have := Option.some.inj e; have := HRL.out; omega)
    refine ⟨_, rfl, hS, ?_⟩
    simp only [Act.put, jb, jz, js]
    refine held_one (i := 15) (by kernel_rfl) ?_
    obtain ⟨N, hN⟩ : ∃ n, (rwL (3 + (kd : Int)) (3 + (kd : Int)) y E2).length = n := ⟨_, rfl⟩
    refine held_skip rfl rfl rfl (w' := u3.setCell ⟨p, 0, none⟩ (.slice A1 (rwL (3 + (kd : Int)) (3 + (kd : Int)) y E2).length c1)) (exec_store_val 104 (.tmp 4) (.tmp 31) rfl p 0 rfl _ rfl #[.slice A1 (rwL (3 + (kd : Int)) (3 + (kd : Int)) y E2).length c1] rfl (there_blk hpb (by simp)) (by kernel_rfl) (by simp [Value.oneCell'])) (blk_setO hS (by have := HLL.out; omega) 0 _) ?_
    (try simp only [Act.put, jb, jz, js])
    refine wpAnyH_done (by kernel_rfl) ?_ _
    have hfin : RsA w s r gl o (kd : Int) a2 (rwF (3 + (kd : Int)) (3 + (kd : Int)) y E2) C1 p (u3.setCell ⟨p, 0, none⟩ (.slice A1 (rwL (3 + (kd : Int)) (3 + (kd : Int)) y E2).length c1)).heap.size (rwL (3 + (kd : Int)) (3 + (kd : Int)) y E2) (u3.setCell ⟨p, 0, none⟩ (.slice A1 (rwL (3 + (kd : Int)) (3 + (kd : Int)) y E2).length c1)) := by
     refine ⟨blk_setO hrd2 (by have := HRL.out; omega) 0 _, blk_setO hS (by have := HLL.out; omega) 0 _, ⟨A1, c1, show Blk _ p 104 #[.slice A1 (rwL (3 + (kd : Int)) (3 + (kd : Int)) y E2).length c1] from by simpa using Blk.set_ hpb 0 (.slice A1 (rwL (3 + (kd : Int)) (3 + (kd : Int)) y E2).length c1), (hs1.lt.keep fun q hq v hv => ?_).weak fun g hg => ⟨hg.1.1, hg.1.2, by simpa [World.setCell] using hg.2⟩⟩, ?_, hwp, by have := hpb.lt; simpa [World.setCell] using this, Nat.le_refl _, HRL.out, HLL.out, HNE.out, by rw [HZ1.out]; exact HFIT.out, HK1.out⟩
     ·rw [World.cell?_setCell_far _ _ _ _ (by exact fun e => hq.1.2 e.symm)]; exact hv
     ·exact hgr.grown (only_setC (World.grownBy.refl u3 (some p)) 0 _) (fun k e => .inr (.inr (by have := Option.some.inj e; omega)))
    have HOUT : Hid (OutA s a E a2 (rwF (3 + (kd : Int)) (3 + (kd : Int)) y E2) (rwL (3 + (kd : Int)) (3 + (kd : Int)) y E2)) := Lib.hid (by
     have := outA_of (s := s) (a := a) (a1 := a1) (a2 := a2) (E := E) (E2 := E2) (y := y) HKA.out (by rw [HKE.out]; exact hout)
     rw [HKV.out] at this
     exact this)
    have HFIN := Lib.hid hfin
    go_wp2_with fail
    go_meet
    exact ⟨p, a2, _, _, rfl, HFIN.out, ha2, HOUT⟩
  ·skip
   have hga3 := only_alloc (World.grownBy.refl u0 none) (.cells #[.slice none 0 0] 104)
   have hpb := Blk.new u0 104 #[.slice none 0 0]
   have hwp : w.heap.size ≤ u0.heap.size := hgr.size
   obtain ⟨p, hp⟩ : ∃ p, u0.heap.size = p := ⟨_, rfl⟩
   have hS := hS.grown hga3 (by simp)
   have hrd := hrd.grown hga3 (by simp)
   have hgr := hgr.grown hga3 (fun k e => by cases e)
   refine held_value (some 4) rfl rfl (.pointer (some ⟨u0.heap.size, 0, none⟩)) (w' := u0.alloc (.cells #[.slice none 0 0] 104)) (by go_simp <;> rfl) rfl hS ?_
   simp only [Act.put, jb, jz, js]
   rw [hp] at hpb hwp ⊢
   generalize u0.alloc (.cells #[.slice none 0 0] 104) = u1 at *
   refine held_one (i := 2) (by kernel_rfl) ?_
   refine held_enter (some 20) rfl rfl 87 #[.pointer (some ⟨r, 0, none⟩)] (exec_call1 _ (.tmp 19) _ rfl _ rfl (enters_of Tryz.func87 (by kernel_rfl) rfl _ _)) rfl ((itemC_any s a1 KE r u1 hrd HS.out HA1.out).mono ?_)
   intro e u2 hend
   obtain ⟨y, sA, sc, a2, E2, rfl, hg, hrd', ha2, hsub, hout⟩ := hend.uni
   have hS := hS.grown hg (fun e => HNE.out (Option.some.inj e).symm)
   have hgr := hgr.grown hg (fun k e => .inl (Option.some.inj e).symm)
   replace hsub : SubV (fun g => w.heap.size ≤ g ∧ g ≠ p) u2 y.items _ := hsub.weak (fun g (hg : u1.heap.size ≤ g) => (⟨by have := hpb.lt; omega, by have := hpb.lt; omega⟩ : w.heap.size ≤ g ∧ g ≠ p))
   replace hpb := hpb.grown hg (fun e => by have := Option.some.inj e; have := HRL.out; omega)
   refine ⟨_, rfl, hS, ?_⟩
   simp only [Act.put, jb, jz, js]
   refine held_one (i := 13) (by kernel_rfl) ?_
   obtain ⟨A1, c1, hv1, hs1⟩ := rwL_slice (3 + (kd : Int)) (3 + (kd : Int)) E2 hsub
   have hcr := rowC_any s a2 E2 r y.list y.bytes sA y.items.length sc (3 + (kd : Int)) (3 + (kd : Int)) u2 hrd'
   rw [hv1] at hcr
   refine held_enter (some 31) rfl rfl 86 #[.pointer (some ⟨r, 0, none⟩), .agg #[.bool y.list, .string y.bytes, .slice sA y.items.length sc], .int .i64 (3 + (kd : Int)), .int .i64 (3 + (kd : Int))] (exec_call4C _ (.tmp 18) (.tmp 20) (.tmp 25) (.tmp 30) _ rfl _ _ _ _ rfl rfl rfl rfl (enters_of Tryz.func86 (by kernel_rfl) rfl _ _)) rfl (hcr.mono ?_)
   rintro e u3 ⟨rfl, hrd2, hg⟩
   have hS := hS.grown hg (fun e => HNE.out (Option.some.inj e).symm)
   have hgr := hgr.grown hg (fun k e => .inl (Option.some.inj e).symm)
   replace hs1 := hs1.keep fun q hq v hv => hg.cell hv fun e => by have := Option.some.inj e; have := hq.1; have := HRL.out; omega
   replace hpb := hpb.grown hg (fun e => by have := Option.some.inj e; have := HRL.out; omega)
   refine ⟨_, rfl, hS, ?_⟩
   simp only [Act.put, jb, jz, js]
   refine held_one (i := 15) (by kernel_rfl) ?_
   obtain ⟨N, hN⟩ : ∃ n, (rwL (3 + (kd : Int)) (3 + (kd : Int)) y E2).length = n := ⟨_, rfl⟩
   refine held_skip rfl rfl rfl (w' := u3.setCell ⟨p, 0, none⟩ (.slice A1 (rwL (3 + (kd : Int)) (3 + (kd : Int)) y E2).length c1)) (exec_store_val 104 (.tmp 4) (.tmp 31) rfl p 0 rfl _ rfl #[.slice A1 (rwL (3 + (kd : Int)) (3 + (kd : Int)) y E2).length c1] rfl (there_blk hpb (by simp)) (by kernel_rfl) (by simp [Value.oneCell'])) (blk_setO hS (by have := HLL.out; omega) 0 _) ?_
   (try simp only [Act.put, jb, jz, js])
   refine wpAnyH_done (by kernel_rfl) ?_ _
   have hfin : RsA w s r gl o (kd : Int) a2 (rwF (3 + (kd : Int)) (3 + (kd : Int)) y E2) C1 p (u3.setCell ⟨p, 0, none⟩ (.slice A1 (rwL (3 + (kd : Int)) (3 + (kd : Int)) y E2).length c1)).heap.size (rwL (3 + (kd : Int)) (3 + (kd : Int)) y E2) (u3.setCell ⟨p, 0, none⟩ (.slice A1 (rwL (3 + (kd : Int)) (3 + (kd : Int)) y E2).length c1)) := by
    refine ⟨blk_setO hrd2 (by have := HRL.out; omega) 0 _, blk_setO hS (by have := HLL.out; omega) 0 _, ⟨A1, c1, show Blk _ p 104 #[.slice A1 (rwL (3 + (kd : Int)) (3 + (kd : Int)) y E2).length c1] from by simpa using Blk.set_ hpb 0 (.slice A1 (rwL (3 + (kd : Int)) (3 + (kd : Int)) y E2).length c1), (hs1.lt.keep fun q hq v hv => ?_).weak fun g hg => ⟨hg.1.1, hg.1.2, by simpa [World.setCell] using hg.2⟩⟩, ?_, hwp, by have := hpb.lt; simpa [World.setCell] using this, Nat.le_refl _, HRL.out, HLL.out, HNE.out, by rw [HZ1.out]; exact HFIT.out, HK1.out⟩
    ·rw [World.cell?_setCell_far _ _ _ _ (by exact fun e => hq.1.2 e.symm)]; exact hv
    ·exact hgr.grown (only_setC (World.grownBy.refl u3 (some p)) 0 _) (fun k e => .inr (.inr (by have := Option.some.inj e; omega)))
   have HOUT : Hid (OutA s a E a2 (rwF (3 + (kd : Int)) (3 + (kd : Int)) y E2) (rwL (3 + (kd : Int)) (3 + (kd : Int)) y E2)) := Lib.hid (by
    have := outA_of (s := s) (a := a) (a1 := a1) (a2 := a2) (E := E) (E2 := E2) (y := y) HKA.out (by rw [HKE.out]; exact hout)
    rw [HKV.out] at this
    exact this)
   have HFIN := Lib.hid hfin
   go_wp2_with fail
   go_meet
   exact ⟨p, a2, _, _, rfl, HFIN.out, ha2, HOUT⟩
 case rest =>
  obtain ⟨p, a3, E3, zs, rfl, hA, ha3, hO⟩ := hcut
  obtain ⟨bb, hbb⟩ : ∃ x, wc.heap.size = x := ⟨_, rfl⟩
  rw [hbb] at hA
  have HA3 := Lib.hid ha3
  have hout1 : ∀ j, j < o ∨ o + 36 ≤ j → C1[j]? = C[j]? := fun j hj => by rw [← HC1.out]; exact putA_far _ _ _ _ (by simp; omega)
  have HOUT1 := Lib.hid hout1
  clear hb3 hrow3 hg3 hwk hbb ha3 hout1
  have c2 := hA.rd.cell 2
  simp only [rdC, List.getElem?_toArray, List.getElem?_cons_zero, List.getElem?_cons_succ] at c2
  by_cases hE3 : E3 = 0
  rotate_left
  ·have e1 : (E3 != 0) = true := by simpa using hE3
   have hRR : restR s a E = .error E3 := by
    rcases hO.out with ⟨_, h⟩ | ⟨h, _⟩
    ·exact h
    ·exact absurd h hE3
   have HEND : Hid (RestEnd s a E r gl o C w (.returned (.tuple #[])) wc) := Lib.hid ⟨a3, E3, C1, rfl, hA.rd, HA3.out, hA.row, HZ1.out, HOUT1.out, by rw [HKV.out]; exact hA.kd, hA.gr, .inl ⟨hE3, hRR⟩⟩
   clear hA hO hE3 hRR
   go_wp2_with fail
   go_end0
   exact HEND.out
  subst hE3
  have hO2 : kdE s a E = 0 ∧ ∃ y, itR s.data.toList (kdA s a) = .ok (y, a3) ∧ rwF (3 + (kdV s a E : Nat)) (3 + (kdV s a E : Nat)) y 0 = 0 ∧ zs = y.items ∧ zs.length = 3 + kdV s a E := by
   rcases hO.out with ⟨h, _⟩ | ⟨_, h⟩
   ·exact absurd rfl h
   ·exact h
  obtain ⟨hk0, y, hit, hF, hzs, hlen⟩ := hO2
  have hRR : restR s a E = if (gotA (kdV s a E) zs).2 ≠ 0 then .error (gotA (kdV s a E) zs).2 else .ok (zs, a3) := by
   unfold restR
   rw [if_neg (by rw [hk0]; simp), hit]
   dsimp only
   rw [if_neg (by rw [hF]; simp), hzs]
  rw [HKV.out] at hRR hlen
  have HRR := Lib.hid hRR
  have HZB : Hid (∀ z ∈ zs, z.bytes.size ≤ 9223372036854775807) := Lib.hid (by rw [hzs]; exact HZB0.out y a3 hit)
  clear HZB0
  clear hO hk0 hit hF hzs hRR
  rcases HK2.out with rfl | rfl | rfl
  ·obtain ⟨z0, z1, z2, rfl⟩ : ∃ z0 z1 z2, zs = [z0, z1, z2] := by
    match zs, hlen with
    | [z0, z1, z2], _ => exact ⟨z0, z1, z2, rfl⟩
   have HLEN := Lib.hid hlen
   clear hlen
   go_upto_region 4 with (fail)
   refine wp_region_held (S := fun _ => True) (by kernel_rfl) ?_
   change wpAnyH _ _ _ _ _ _ _ _ wc.drew
   replace hA := hA.kept (only_drew (World.grownBy.refl wc none))
   generalize wc.drew = u0 at *
   refine zt 0 (.pointer (some ⟨gl, o, none⟩)) (some 38) rfl (fun W hW => by go_simp) trivial ?_
   simp only [Act.put, jb, jz, js]
   refine zt 1 (.pointer (some ⟨gl, o, none⟩)) (some 39) rfl (fun W hW => by go_simp) trivial ?_
   simp only [Act.put, jb, jz, js]
   refine zt 2 (.pointer (some ⟨gl, o + 13, none⟩)) (some 40) rfl (fun W hW => by go_simp) trivial ?_
   simp only [Act.put, jb, jz, js]
   refine zt 3 (.pointer (some ⟨gl, o, none⟩)) (some 41) rfl (fun W hW => by go_simp) trivial ?_
   simp only [Act.put, jb, jz, js]
   refine zt 4 (.pointer (some ⟨gl, o, none⟩)) (some 42) rfl (fun W hW => by go_simp) trivial ?_
   simp only [Act.put, jb, jz, js]
   refine zt 5 (.pointer (some ⟨gl, o + 7, none⟩)) (some 43) rfl (fun W hW => by go_simp) trivial ?_
   simp only [Act.put, jb, jz, js]
   refine held_one (i := 6) (by kernel_rfl) ?_
   have hga := only_alloc (World.grownBy.refl u0 none) (.cells #[.pointer (some ⟨gl, o + 13, none⟩), .pointer (some ⟨gl, o + 7, none⟩)] 121)
   have hq := Blk.new u0 121 #[.pointer (some ⟨gl, o + 13, none⟩), .pointer (some ⟨gl, o + 7, none⟩)]
   refine held_value (some 44) rfl rfl (.slice (some ⟨u0.heap.size, 0, none⟩) 2 2) (w' := u0.alloc (.cells #[.pointer (some ⟨gl, o + 13, none⟩), .pointer (some ⟨gl, o + 7, none⟩)] 121)) (by go_simp <;> rfl) rfl trivial ?_
   simp only [Act.put, jb, jz, js]
   refine zt 7 (.slice (some ⟨u0.heap.size, 0, none⟩) 2 2) (some 6) rfl (fun W hW => by go_simp) trivial ?_
   simp only [Act.put, jb, jz, js]
   refine wpAnyH_done (by kernel_rfl) ?_ _
   have hbq := hA.bd
   replace hA := hA.kept hga
   obtain ⟨gq1, hqe⟩ : ∃ q, u0.heap.size = q := ⟨_, rfl⟩
   rw [hqe] at hq hbq ⊢
   clear hqe hga
   generalize u0.alloc (.cells #[.pointer (some ⟨gl, o + 13, none⟩), .pointer (some ⟨gl, o + 7, none⟩)] 121) = v1 at *
   have c0k : v1.cell? ⟨gl, o, none⟩ = some (.int .i64 0) := (hA.row.cell o).trans hA.kd
   (try clear c2)
   obtain ⟨ws, hws⟩ : ∃ ws, [z0, z1, z2].take 2 = ws := ⟨_, rfl⟩
   obtain ⟨CW, hCW⟩ : ∃ X, wordsC o [13, 7] ws C1 = X := ⟨_, rfl⟩
   obtain ⟨EW, hEW⟩ : ∃ X, wordsE ws 0 = X := ⟨_, rfl⟩
   have HWS := Lib.hid hws; have HCW := Lib.hid hCW; have HEW := Lib.hid hEW
   have HA4 := Lib.hid hA; have HQ4 := Lib.hid hq; have HBQ := Lib.hid hbq
   clear hws hCW hEW hA hq hbq
   go_upto_region 7 with (fail)
   clear c0k
   go_wp2_with fail
   go_loopw [62] (fun i wr => ∃ (k : Nat) (Ck : Array Value) (Ek : Int), i = .int .i64 k ∧ k ≤ 2 ∧ RsA w s r gl o 0 a3 Ek Ck p bb ([z0, z1, z2].drop k) wr ∧ Blk wr gq1 121 #[.pointer (some ⟨gl, o + 13, none⟩), .pointer (some ⟨gl, o + 7, none⟩)] ∧ Ck.size = C.size ∧ Hid (∀ j, j < o ∨ o + 36 ≤ j → Ck[j]? = C[j]?) ∧ Hid (wordsC o ([13, 7].drop k) (ws.drop k) Ck = CW) ∧ Hid (wordsE (ws.drop k) Ek = EW)) (fun i _ => 2 - (intOf i).toNat)
   case atStart => exact ⟨0, C1, 0, rfl, by omega, HA4.out, HQ4.out, HZ1.out, Lib.hid HOUT1.out, Lib.hid HCW.out, Lib.hid HEW.out⟩
   case round =>
    obtain ⟨k, Ck, Ek, rfl, hk, hA, hq, hz, hout, hcw, hew⟩ := hrel
    have HZK := Lib.hid hz; have HOK := Lib.hid hout.out; have HCK := Lib.hid hcw.out; have HEK := Lib.hid hew.out
    clear hz hout hcw hew
    by_cases hlt : k < 2
    ·have key : ∃ z F, [z0, z1, z2].drop k = z :: [z0, z1, z2].drop (k + 1) ∧ [13, 7].drop k = F :: [13, 7].drop (k + 1) ∧ ws.drop k = z :: ws.drop (k + 1) ∧ wr.cell? ⟨gq1, k, none⟩ = some (.pointer (some ⟨gl, o + F, none⟩)) ∧ F + 4 ≤ 36 ∧ 0 < F := by
      rw [← HWS.out]
      rcases (by omega : k = 0 ∨ k = 1) with rfl | rfl
      ·exact ⟨z0, 13, rfl, rfl, rfl, hq.cell 0, by decide, by decide⟩
      ·exact ⟨z1, 7, rfl, rfl, rfl, hq.cell 1, by decide, by decide⟩
     obtain ⟨z, F, hz0, hf0, hw0, hc, hF1, hF2⟩ := key
     have hzm : z ∈ [z0, z1, z2] := List.mem_of_mem_drop (i := k) (by rw [hz0]; exact List.mem_cons_self ..)
     have HZS := Lib.hid (HZB.out z hzm)
     rw [hz0] at hA
     have HCK2 : Hid (wordsC o ([13, 7].drop (k + 1)) (ws.drop (k + 1)) (putA (o + F) (wCells z) Ck) = CW) := Lib.hid (by have := HCK.out; rw [hf0, hw0] at this; exact this)
     obtain ⟨EZ, hEZ⟩ : ∃ e, wordE z.list z.bytes = e := ⟨_, rfl⟩
     have HEK2 : Hid (wordsE (ws.drop (k + 1)) (kE Ek EZ) = EW) := Lib.hid (by have := HEK.out; rw [hw0] at this; rw [← hEZ]; exact this)
     have HEZ := Lib.hid hEZ
     have q1 : (k : Int) < 2 := by omega
     have hpq : p < gq1 := by have := hA.pb; have := HBQ.out; omega
     have HPQ := Lib.hid hpq
     clear hz0 hf0 hw0 hzm HCK HEK hEZ hpq HA4 HQ4
     go_upto_region 10 with (fail)
     clear hc
     refine wp_region_list ?_
     refine zm 5 (.func (.func 88) #[] #[.pointer (some ⟨p, 0, none⟩)]) rfl ?_
     simp only [Act.put, jb, jz, js]
     refine wpList_enter rfl 88 #[.pointer (some ⟨p, 0, none⟩)] (exec_callc0 _ (.tmp 67) _ _ rfl rfl (enters_of Tryz.func88 (by kernel_rfl) rfl _ _)) (hA.next.mono ?_)
     clear hA
     rintro e u1 ⟨sA, sc, rfl, hsub, hA, hg⟩
     replace hq := hq.grown hg (fun e => by have := Option.some.inj e; have := HPQ.out; omega)
     clear hg hsub
     refine ⟨_, rfl, ?_⟩
     simp only [Act.put, jb, jz, js]
     have hgw := getWord_any z.list z.bytes (.slice sA z.items.length sc) HZS.out u1
     rw [HEZ.out] at hgw
     refine wpList_enter rfl 89 #[.agg #[.bool z.list, .string z.bytes, .slice sA z.items.length sc]] (exec_call1 _ (.tmp 68) _ rfl _ rfl (enters_of Tryz.func89 (by kernel_rfl) rfl _ _)) (hgw.mono ?_)
     clear hgw
     rintro e u2 ⟨rfl, hg⟩
     replace hA := hA.kept hg
     replace hq := hq.grown hg (by simp)
     clear hg
     refine ⟨_, rfl, ?_⟩
     simp only [Act.put, jb, jz, js]
     refine zm 69 (.tuple #[.agg #[.int .u64 (wordP z.list z.bytes 0 : Nat), .int .u64 (wordP z.list z.bytes 1 : Nat), .int .u64 (wordP z.list z.bytes 2 : Nat), .int .u64 (wordP z.list z.bytes 3 : Nat)], .int .i64 EZ]) rfl ?_
     simp only [Act.put, jb, jz, js]
     refine wpList_value rfl (.agg #[.int .u64 (wordP z.list z.bytes 0 : Nat), .int .u64 (wordP z.list z.bytes 1 : Nat), .int .u64 (wordP z.list z.bytes 2 : Nat), .int .u64 (wordP z.list z.bytes 3 : Nat)]) (by go_simp <;> rfl) ?_
     simp only [Act.put, jb, jz, js]
     refine wpList_value rfl (.int .i64 EZ) (by go_simp <;> rfl) ?_
     simp only [Act.put, jb, jz, js]
     have hga := only_alloc (World.grownBy.refl u2 none) (.cells #[.int .u64 0, .int .u64 0, .int .u64 0, .int .u64 0] 38)
     have h9 := Blk.new u2 38 #[.int .u64 0, .int .u64 0, .int .u64 0, .int .u64 0]
     have hb9 := hA.bd
     have hq9 : u2.heap.size ≠ gq1 := by have := hq.lt; omega
     replace hA := hA.kept hga
     replace hq := hq.grown hga (by simp)
     refine wpList_value rfl (.pointer (some ⟨u2.heap.size, 0, none⟩)) (w' := u2.alloc (.cells #[.int .u64 0, .int .u64 0, .int .u64 0, .int .u64 0] 38)) (by go_simp <;> rfl) ?_
     simp only [Act.put, jb, jz, js]
     obtain ⟨g9, hg9⟩ : ∃ x, u2.heap.size = x := ⟨_, rfl⟩
     rw [hg9] at h9 hb9 hq9 ⊢
     clear hga hg9
     generalize u2.alloc (.cells #[.int .u64 0, .int .u64 0, .int .u64 0, .int .u64 0] 38) = u3 at *
     refine wpList_skip rfl rfl (w' := u3.setRow g9 #[.int .u64 (wordP z.list z.bytes 0 : Nat), .int .u64 (wordP z.list z.bytes 1 : Nat), .int .u64 (wordP z.list z.bytes 2 : Nat), .int .u64 (wordP z.list z.bytes 3 : Nat)]) (by rw [show u3.setRow g9 #[.int .u64 (wordP z.list z.bytes 0 : Nat), .int .u64 (wordP z.list z.bytes 1 : Nat), .int .u64 (wordP z.list z.bytes 2 : Nat), .int .u64 (wordP z.list z.bytes 3 : Nat)] = u3.setCells g9 0 (wCells z) from (setCells_row h9 0 (wCells z)).symm]; exact exec_store_val 38 (.tmp 9) (.tmp 70) rfl g9 0 rfl _ rfl #[.int .u64 (wordP z.list z.bytes 0 : Nat), .int .u64 (wordP z.list z.bytes 1 : Nat), .int .u64 (wordP z.list z.bytes 2 : Nat), .int .u64 (wordP z.list z.bytes 3 : Nat)] rfl (there_blk h9 (by simp)) (by kernel_rfl) (by simp [Value.oneCell'])) ?_
     (try simp only [Act.put, jb, jz, js])
     refine wpList_value rfl (.int .i64 EZ) (by go_simp <;> rfl) ?_
     simp only [Act.put, jb, jz, js]
     replace hA := hA.far (D := #[.int .u64 (wordP z.list z.bytes 0 : Nat), .int .u64 (wordP z.list z.bytes 1 : Nat), .int .u64 (wordP z.list z.bytes 2 : Nat), .int .u64 (wordP z.list z.bytes 3 : Nat)]) hb9
     replace hq : Blk (u3.setRow g9 #[.int .u64 (wordP z.list z.bytes 0 : Nat), .int .u64 (wordP z.list z.bytes 1 : Nat), .int .u64 (wordP z.list z.bytes 2 : Nat), .int .u64 (wordP z.list z.bytes 3 : Nat)]) gq1 121 #[.pointer (some ⟨gl, o + 13, none⟩), .pointer (some ⟨gl, o + 7, none⟩)] := (setRow_other u3 g9 gq1 _ (fun e => hq9 e.symm)).trans hq
     replace h9 := blk_setRow (cs' := #[.int .u64 (wordP z.list z.bytes 0 : Nat), .int .u64 (wordP z.list z.bytes 1 : Nat), .int .u64 (wordP z.list z.bytes 2 : Nat), .int .u64 (wordP z.list z.bytes 3 : Nat)]) h9
     refine wpList_nil ?_
     generalize u3.setRow g9 #[.int .u64 (wordP z.list z.bytes 0 : Nat), .int .u64 (wordP z.list z.bytes 1 : Nat), .int .u64 (wordP z.list z.bytes 2 : Nat), .int .u64 (wordP z.list z.bytes 3 : Nat)] = u4 at *
     go_wp2_with fail
     refine (keepC_any s a3 Ek EZ r _ hA.rd).mono ?_
     rintro e w7 ⟨rfl, hrd, hg⟩
     replace hA := hA.read hg hrd
     have h9' := h9.grown hg (fun e => by have := Option.some.inj e; have := hA.rl; have := hA.op; have := hA.pb; omega)
     have hq' := hq.grown hg (fun e => by have := Option.some.inj e; have := hA.rl; have := hA.op; have := HPQ.out; omega)
     clear hg hrd h9 hq
     go_upto_region 12 with (fail)
     refine wp_region_list ?_
     refine zm 8 (.pointer (some ⟨gl, o + F, none⟩)) rfl ?_
     simp only [Act.put, jb, jz, js]
     refine wpList_value rfl (.agg #[.int .u64 (wordP z.list z.bytes 0 : Nat), .int .u64 (wordP z.list z.bytes 1 : Nat), .int .u64 (wordP z.list z.bytes 2 : Nat), .int .u64 (wordP z.list z.bytes 3 : Nat)]) (exec_load_rowT rfl rfl 38 _ _ h9' Tryz.underlying38 rfl (by kernel_rfl)) ?_
     simp only [Act.put, jb, jz, js]
     refine wpList_value rfl (.pointer (some ⟨gl, o + F, none⟩)) (by go_simp <;> rfl) ?_
     simp only [Act.put, jb, jz, js]
     have hrow := hA.row
     have hfit := hA.fit
     refine wpList_skip rfl rfl (w' := w7.setRow gl (putA (o + F) (wCells z) Ck)) (by rw [← setCells_row hrow (o + F) (wCells z)]; exact exec_store_val 38 (.tmp 77) (.tmp 76) rfl gl (o + F) rfl _ rfl #[.int .u64 (wordP z.list z.bytes 0 : Nat), .int .u64 (wordP z.list z.bytes 1 : Nat), .int .u64 (wordP z.list z.bytes 2 : Nat), .int .u64 (wordP z.list z.bytes 3 : Nat)] rfl (there_blk hrow (by simp; omega)) (by kernel_rfl) (by simp [Value.oneCell'])) ?_
     refine wpList_nil ?_
     have hsz : (putA (o + F) (wCells z) Ck).size = Ck.size := putA_size _ _ _
     have hAp := hA.put (C' := putA (o + F) (wCells z) Ck) hsz (putA_far _ _ _ _ (.inl (by omega)))
     have hqp : Blk (w7.setRow gl (putA (o + F) (wCells z) Ck)) gq1 121 #[.pointer (some ⟨gl, o + 13, none⟩), .pointer (some ⟨gl, o + 7, none⟩)] := (setRow_other w7 gl gq1 _ (by have := hA.ll; have := hA.op; have := HPQ.out; omega)).trans hq'
     have houtp : ∀ j, j < o ∨ o + 36 ≤ j → (putA (o + F) (wCells z) Ck)[j]? = C[j]? := fun j hj => by
      rw [putA_far _ _ _ _ (by simp [wCells]; omega)]
      exact HOK.out j hj
     have HAP := Lib.hid hAp; have HQP := Lib.hid hqp; have HOP := Lib.hid houtp
     have HSZ2 : Hid ((putA (o + F) (wCells z) Ck).size = C.size) := Lib.hid (hsz.trans HZK.out)
     clear hA h9' hq' hrow hfit hsz hAp hqp houtp
     generalize w7.setRow gl (putA (o + F) (wCells z) Ck) = w8 at *
     go_wp2_with fail
     go_roundw
     case rel => exact ⟨k + 1, _, kE Ek EZ, by go_num, by omega, HAP.out, HQP.out, HSZ2.out, Lib.hid HOP.out, Lib.hid HCK2.out, Lib.hid HEK2.out⟩
     case measure => simp [intOf]; omega
    ·obtain rfl : k = 2 := by omega
     have hCk : CW = Ck := by have := HCK.out; rw [← HWS.out] at this; exact this.symm
     have hEk : EW = Ek := by have := HEK.out; rw [← HWS.out] at this; exact this.symm
     subst hCk; subst hEk
     have q8 : ¬ (((2 : Nat) : Int) < 2) := by omega
     have HZ9 : Hid (CW.size = C.size) := HZK
     have HO9 := HOK
     have hgt : ∀ (sv : Value) (V : World), Calls Tryz.prog 90 #[.agg #[.bool z2.list, .string z2.bytes, sv], .int .i64 0, .int .i64 4096] V fun e w' => e = .returned (.tuple #[.string (dtV z2), .int .i64 (dtE z2)]) ∧ V.grownBy w' none := fun sv V => getText_any z2.list z2.bytes sv 0 4096 V
     obtain ⟨DV, hDV⟩ : ∃ d, dtV z2 = d := ⟨_, rfl⟩
     obtain ⟨DE, hDE⟩ : ∃ d, dtE z2 = d := ⟨_, rfl⟩
     rw [hDV, hDE] at hgt
     have HGT := Lib.hid hgt; have HDV := Lib.hid hDV; have HDE := Lib.hid hDE
     replace hA : RsA w s r gl o 0 a3 EW CW p bb [z2] wr := hA
     clear hq hgt hDV hDE HCK HEK HOK HZK HQ4 HA4 HBQ
     go_upto_region 14 with (fail)
     refine wp_region_list ?_
     refine zm 5 (.func (.func 88) #[] #[.pointer (some ⟨p, 0, none⟩)]) rfl ?_
     simp only [Act.put, jb, jz, js]
     refine wpList_enter rfl 88 #[.pointer (some ⟨p, 0, none⟩)] (exec_callc0 _ (.tmp 80) _ _ rfl rfl (enters_of Tryz.func88 (by kernel_rfl) rfl _ _)) (hA.next.mono ?_)
     clear hA
     rintro e u1 ⟨sA, sc, rfl, hsub, hA, hg⟩
     clear hg hsub
     refine ⟨_, rfl, ?_⟩
     simp only [Act.put, jb, jz, js]
     refine wpList_enter rfl 90 #[.agg #[.bool z2.list, .string z2.bytes, .slice sA z2.items.length sc], .int .i64 0, .int .i64 4096] (exec_call3C _ (.tmp 81) _ _ _ rfl _ _ _ rfl rfl rfl (enters_of Tryz.func90 (by kernel_rfl) rfl _ _)) ((HGT.out (.slice sA z2.items.length sc) u1).mono ?_)
     rintro e u2 ⟨rfl, hg⟩
     replace hA := hA.kept hg
     clear hg
     refine ⟨_, rfl, ?_⟩
     simp only [Act.put, jb, jz, js]
     refine zm 82 (.tuple #[.string DV, .int .i64 DE]) rfl ?_
     simp only [Act.put, jb, jz, js]
     refine wpList_value rfl (.string DV) (by go_simp <;> rfl) ?_
     simp only [Act.put, jb, jz, js]
     refine wpList_value rfl (.int .i64 DE) (by go_simp <;> rfl) ?_
     simp only [Act.put, jb, jz, js]
     refine wpList_value rfl (.string DV) (by go_simp <;> rfl) ?_
     simp only [Act.put, jb, jz, js]
     refine wpList_value rfl (.int .i64 DE) (by go_simp <;> rfl) ?_
     simp only [Act.put, jb, jz, js]
     refine wpList_nil ?_
     go_wp2_with fail
     refine (keepC_any s a3 EW DE r _ hA.rd).mono ?_
     rintro e w7 ⟨rfl, hrd, hg⟩
     replace hA := hA.read hg hrd
     clear hg hrd
     go_upto_region 16 with (fail)
     refine wp_region_list ?_
     refine zm 1 (.pointer (some ⟨gl, o, none⟩)) rfl ?_
     simp only [Act.put, jb, jz, js]
     refine zm 11 (.string DV) rfl ?_
     simp only [Act.put, jb, jz, js]
     refine wpList_value rfl (.pointer (some ⟨gl, o, none⟩)) (by go_simp <;> rfl) ?_
     simp only [Act.put, jb, jz, js]
     refine wpList_value rfl (.pointer (some ⟨gl, o + 17, none⟩)) (by go_simp <;> rfl) ?_
     simp only [Act.put, jb, jz, js]
     have hrow := hA.row
     have hfit := hA.fit
     refine wpList_skip rfl rfl (w' := w7.setRow gl (putA (o + 17) [.string DV] CW)) (by rw [← setCells_row hrow (o + 17) [.string DV]]; exact exec_store_val 9 (.tmp 91) (.tmp 89) rfl gl (o + 17) rfl _ rfl #[.string DV] rfl (there_blk hrow (by simp; omega)) (by kernel_rfl) (by simp [Value.oneCell'])) ?_
     refine wpList_nil ?_
     have hsz : (putA (o + 17) [.string DV] CW).size = CW.size := putA_size _ _ _
     replace hA := hA.put (C' := putA (o + 17) [.string DV] CW) hsz (putA_far _ _ _ _ (.inl (by omega)))
     have hout : ∀ j, j < o ∨ o + 36 ≤ j → (putA (o + 17) [.string DV] CW)[j]? = C[j]? := fun j hj => by
      rw [putA_far _ _ _ _ (by simp; omega)]
      exact HO9.out j hj
     have hsz2 := hsz.trans HZ9.out
     have hcd : CW = wordsC o [13, 7] [z0, z1] (putA o [.int .i64 0] C) := by rw [← HCW.out, ← HWS.out, ← HC1.out]; rfl
     have hed : kE EW DE = gotE1 0 [z0, z1, z2] := by rw [← HEW.out, ← HWS.out, ← HDE.out]; rfl
     clear hrow hfit hsz
     generalize w7.setRow gl (putA (o + 17) [.string DV] CW) = w8 at *
     have c0 : w8.cell? ⟨gl, o, none⟩ = some (.int .i64 0) := (hA.row.cell o).trans hA.kd
     have HEND : Hid (RestEnd s a E r gl o C w (.returned (.tuple #[])) w8) := Lib.hid (by
      refine ⟨a3, kE EW DE, _, rfl, hA.rd, HA3.out, hA.row, hsz2, hout, by rw [HKV.out]; exact hA.kd, hA.gr, ?_⟩
      have hRR := HRR.out
      have hga : (gotA 0 [z0, z1, z2]).2 = kE EW DE := by rw [hed]; unfold gotA; rw [if_pos rfl]
      rw [hga] at hRR
      by_cases h0 : kE EW DE = 0
      ·refine .inr ⟨[z0, z1, z2], a3, none, 0, [], h0, ?_, rfl, ?_, ?_⟩
       ·rw [hRR, if_neg (by simpa using h0)]
       ·rw [HKV.out, hcd, ← HDV.out]; unfold gotC; rw [if_pos rfl]; rfl
       ·intro hh; exact absurd HKV.out hh
      ·exact .inl ⟨h0, by rw [hRR, if_pos h0]⟩)
     clear hA hsz2 hout hcd hed
     go_wp2_with fail
     go_end0
     exact HEND.out
  ·obtain ⟨z0, z1, z2, z3, rfl⟩ : ∃ z0 z1 z2 z3, zs = [z0, z1, z2, z3] := by
    match zs, hlen with
    | [z0, z1, z2, z3], _ => exact ⟨z0, z1, z2, z3, rfl⟩
   have HLEN := Lib.hid hlen
   clear hlen
   go_upto_region 4 with (fail)
   refine wp_region_held (S := fun _ => True) (by kernel_rfl) ?_
   change wpAnyH _ _ _ _ _ _ _ _ wc.drew
   replace hA := hA.kept (only_drew (World.grownBy.refl wc none))
   generalize wc.drew = u0 at *
   refine zt 0 (.pointer (some ⟨gl, o, none⟩)) (some 38) rfl (fun W hW => by go_simp) trivial ?_
   simp only [Act.put, jb, jz, js]
   refine zt 1 (.pointer (some ⟨gl, o, none⟩)) (some 39) rfl (fun W hW => by go_simp) trivial ?_
   simp only [Act.put, jb, jz, js]
   refine zt 2 (.pointer (some ⟨gl, o + 13, none⟩)) (some 40) rfl (fun W hW => by go_simp) trivial ?_
   simp only [Act.put, jb, jz, js]
   refine zt 3 (.pointer (some ⟨gl, o, none⟩)) (some 41) rfl (fun W hW => by go_simp) trivial ?_
   simp only [Act.put, jb, jz, js]
   refine zt 4 (.pointer (some ⟨gl, o, none⟩)) (some 42) rfl (fun W hW => by go_simp) trivial ?_
   simp only [Act.put, jb, jz, js]
   refine zt 5 (.pointer (some ⟨gl, o + 7, none⟩)) (some 43) rfl (fun W hW => by go_simp) trivial ?_
   simp only [Act.put, jb, jz, js]
   refine held_one (i := 6) (by kernel_rfl) ?_
   have hga := only_alloc (World.grownBy.refl u0 none) (.cells #[.pointer (some ⟨gl, o + 13, none⟩), .pointer (some ⟨gl, o + 7, none⟩)] 121)
   have hq := Blk.new u0 121 #[.pointer (some ⟨gl, o + 13, none⟩), .pointer (some ⟨gl, o + 7, none⟩)]
   refine held_value (some 44) rfl rfl (.slice (some ⟨u0.heap.size, 0, none⟩) 2 2) (w' := u0.alloc (.cells #[.pointer (some ⟨gl, o + 13, none⟩), .pointer (some ⟨gl, o + 7, none⟩)] 121)) (by go_simp <;> rfl) rfl trivial ?_
   simp only [Act.put, jb, jz, js]
   refine zt 7 (.slice (some ⟨u0.heap.size, 0, none⟩) 2 2) (some 6) rfl (fun W hW => by go_simp) trivial ?_
   simp only [Act.put, jb, jz, js]
   refine wpAnyH_done (by kernel_rfl) ?_ _
   have hbq := hA.bd
   replace hA := hA.kept hga
   obtain ⟨gq1, hqe⟩ : ∃ q, u0.heap.size = q := ⟨_, rfl⟩
   rw [hqe] at hq hbq ⊢
   clear hqe hga
   generalize u0.alloc (.cells #[.pointer (some ⟨gl, o + 13, none⟩), .pointer (some ⟨gl, o + 7, none⟩)] 121) = v1 at *
   have c0k : v1.cell? ⟨gl, o, none⟩ = some (.int .i64 1) := (hA.row.cell o).trans hA.kd
   (try clear c2)
   obtain ⟨ws, hws⟩ : ∃ ws, [z0, z1, z2, z3].take 2 = ws := ⟨_, rfl⟩
   obtain ⟨CW, hCW⟩ : ∃ X, wordsC o [13, 7] ws C1 = X := ⟨_, rfl⟩
   obtain ⟨EW, hEW⟩ : ∃ X, wordsE ws 0 = X := ⟨_, rfl⟩
   have HWS := Lib.hid hws; have HCW := Lib.hid hCW; have HEW := Lib.hid hEW
   have HA4 := Lib.hid hA; have HQ4 := Lib.hid hq; have HBQ := Lib.hid hbq
   clear hws hCW hEW hA hq hbq
   go_upto_region 7 with (fail)
   clear c0k
   go_wp2_with fail
   go_loopw [62] (fun i wr => ∃ (k : Nat) (Ck : Array Value) (Ek : Int), i = .int .i64 k ∧ k ≤ 2 ∧ RsA w s r gl o 1 a3 Ek Ck p bb ([z0, z1, z2, z3].drop k) wr ∧ Blk wr gq1 121 #[.pointer (some ⟨gl, o + 13, none⟩), .pointer (some ⟨gl, o + 7, none⟩)] ∧ Ck.size = C.size ∧ Hid (∀ j, j < o ∨ o + 36 ≤ j → Ck[j]? = C[j]?) ∧ Hid (wordsC o ([13, 7].drop k) (ws.drop k) Ck = CW) ∧ Hid (wordsE (ws.drop k) Ek = EW)) (fun i _ => 2 - (intOf i).toNat)
   case atStart => exact ⟨0, C1, 0, rfl, by omega, HA4.out, HQ4.out, HZ1.out, Lib.hid HOUT1.out, Lib.hid HCW.out, Lib.hid HEW.out⟩
   case round =>
    obtain ⟨k, Ck, Ek, rfl, hk, hA, hq, hz, hout, hcw, hew⟩ := hrel
    have HZK := Lib.hid hz; have HOK := Lib.hid hout.out; have HCK := Lib.hid hcw.out; have HEK := Lib.hid hew.out
    clear hz hout hcw hew
    by_cases hlt : k < 2
    ·have key : ∃ z F, [z0, z1, z2, z3].drop k = z :: [z0, z1, z2, z3].drop (k + 1) ∧ [13, 7].drop k = F :: [13, 7].drop (k + 1) ∧ ws.drop k = z :: ws.drop (k + 1) ∧ wr.cell? ⟨gq1, k, none⟩ = some (.pointer (some ⟨gl, o + F, none⟩)) ∧ F + 4 ≤ 36 ∧ 0 < F := by
      rw [← HWS.out]
      rcases (by omega : k = 0 ∨ k = 1) with rfl | rfl
      ·exact ⟨z0, 13, rfl, rfl, rfl, hq.cell 0, by decide, by decide⟩
      ·exact ⟨z1, 7, rfl, rfl, rfl, hq.cell 1, by decide, by decide⟩
     obtain ⟨z, F, hz0, hf0, hw0, hc, hF1, hF2⟩ := key
     have hzm : z ∈ [z0, z1, z2, z3] := List.mem_of_mem_drop (i := k) (by rw [hz0]; exact List.mem_cons_self ..)
     have HZS := Lib.hid (HZB.out z hzm)
     rw [hz0] at hA
     have HCK2 : Hid (wordsC o ([13, 7].drop (k + 1)) (ws.drop (k + 1)) (putA (o + F) (wCells z) Ck) = CW) := Lib.hid (by have := HCK.out; rw [hf0, hw0] at this; exact this)
     obtain ⟨EZ, hEZ⟩ : ∃ e, wordE z.list z.bytes = e := ⟨_, rfl⟩
     have HEK2 : Hid (wordsE (ws.drop (k + 1)) (kE Ek EZ) = EW) := Lib.hid (by have := HEK.out; rw [hw0] at this; rw [← hEZ]; exact this)
     have HEZ := Lib.hid hEZ
     have q1 : (k : Int) < 2 := by omega
     have hpq : p < gq1 := by have := hA.pb; have := HBQ.out; omega
     have HPQ := Lib.hid hpq
     clear hz0 hf0 hw0 hzm HCK HEK hEZ hpq HA4 HQ4
     go_upto_region 10 with (fail)
     clear hc
     refine wp_region_list ?_
     refine zm 5 (.func (.func 88) #[] #[.pointer (some ⟨p, 0, none⟩)]) rfl ?_
     simp only [Act.put, jb, jz, js]
     refine wpList_enter rfl 88 #[.pointer (some ⟨p, 0, none⟩)] (exec_callc0 _ (.tmp 67) _ _ rfl rfl (enters_of Tryz.func88 (by kernel_rfl) rfl _ _)) (hA.next.mono ?_)
     clear hA
     rintro e u1 ⟨sA, sc, rfl, hsub, hA, hg⟩
     replace hq := hq.grown hg (fun e => by have := Option.some.inj e; have := HPQ.out; omega)
     clear hg hsub
     refine ⟨_, rfl, ?_⟩
     simp only [Act.put, jb, jz, js]
     have hgw := getWord_any z.list z.bytes (.slice sA z.items.length sc) HZS.out u1
     rw [HEZ.out] at hgw
     refine wpList_enter rfl 89 #[.agg #[.bool z.list, .string z.bytes, .slice sA z.items.length sc]] (exec_call1 _ (.tmp 68) _ rfl _ rfl (enters_of Tryz.func89 (by kernel_rfl) rfl _ _)) (hgw.mono ?_)
     clear hgw
     rintro e u2 ⟨rfl, hg⟩
     replace hA := hA.kept hg
     replace hq := hq.grown hg (by simp)
     clear hg
     refine ⟨_, rfl, ?_⟩
     simp only [Act.put, jb, jz, js]
     refine zm 69 (.tuple #[.agg #[.int .u64 (wordP z.list z.bytes 0 : Nat), .int .u64 (wordP z.list z.bytes 1 : Nat), .int .u64 (wordP z.list z.bytes 2 : Nat), .int .u64 (wordP z.list z.bytes 3 : Nat)], .int .i64 EZ]) rfl ?_
     simp only [Act.put, jb, jz, js]
     refine wpList_value rfl (.agg #[.int .u64 (wordP z.list z.bytes 0 : Nat), .int .u64 (wordP z.list z.bytes 1 : Nat), .int .u64 (wordP z.list z.bytes 2 : Nat), .int .u64 (wordP z.list z.bytes 3 : Nat)]) (by go_simp <;> rfl) ?_
     simp only [Act.put, jb, jz, js]
     refine wpList_value rfl (.int .i64 EZ) (by go_simp <;> rfl) ?_
     simp only [Act.put, jb, jz, js]
     have hga := only_alloc (World.grownBy.refl u2 none) (.cells #[.int .u64 0, .int .u64 0, .int .u64 0, .int .u64 0] 38)
     have h9 := Blk.new u2 38 #[.int .u64 0, .int .u64 0, .int .u64 0, .int .u64 0]
     have hb9 := hA.bd
     have hq9 : u2.heap.size ≠ gq1 := by have := hq.lt; omega
     replace hA := hA.kept hga
     replace hq := hq.grown hga (by simp)
     refine wpList_value rfl (.pointer (some ⟨u2.heap.size, 0, none⟩)) (w' := u2.alloc (.cells #[.int .u64 0, .int .u64 0, .int .u64 0, .int .u64 0] 38)) (by go_simp <;> rfl) ?_
     simp only [Act.put, jb, jz, js]
     obtain ⟨g9, hg9⟩ : ∃ x, u2.heap.size = x := ⟨_, rfl⟩
     rw [hg9] at h9 hb9 hq9 ⊢
     clear hga hg9
     generalize u2.alloc (.cells #[.int .u64 0, .int .u64 0, .int .u64 0, .int .u64 0] 38) = u3 at *
     refine wpList_skip rfl rfl (w' := u3.setRow g9 #[.int .u64 (wordP z.list z.bytes 0 : Nat), .int .u64 (wordP z.list z.bytes 1 : Nat), .int .u64 (wordP z.list z.bytes 2 : Nat), .int .u64 (wordP z.list z.bytes 3 : Nat)]) (by rw [show u3.setRow g9 #[.int .u64 (wordP z.list z.bytes 0 : Nat), .int .u64 (wordP z.list z.bytes 1 : Nat), .int .u64 (wordP z.list z.bytes 2 : Nat), .int .u64 (wordP z.list z.bytes 3 : Nat)] = u3.setCells g9 0 (wCells z) from (setCells_row h9 0 (wCells z)).symm]; exact exec_store_val 38 (.tmp 9) (.tmp 70) rfl g9 0 rfl _ rfl #[.int .u64 (wordP z.list z.bytes 0 : Nat), .int .u64 (wordP z.list z.bytes 1 : Nat), .int .u64 (wordP z.list z.bytes 2 : Nat), .int .u64 (wordP z.list z.bytes 3 : Nat)] rfl (there_blk h9 (by simp)) (by kernel_rfl) (by simp [Value.oneCell'])) ?_
     (try simp only [Act.put, jb, jz, js])
     refine wpList_value rfl (.int .i64 EZ) (by go_simp <;> rfl) ?_
     simp only [Act.put, jb, jz, js]
     replace hA := hA.far (D := #[.int .u64 (wordP z.list z.bytes 0 : Nat), .int .u64 (wordP z.list z.bytes 1 : Nat), .int .u64 (wordP z.list z.bytes 2 : Nat), .int .u64 (wordP z.list z.bytes 3 : Nat)]) hb9
     replace hq : Blk (u3.setRow g9 #[.int .u64 (wordP z.list z.bytes 0 : Nat), .int .u64 (wordP z.list z.bytes 1 : Nat), .int .u64 (wordP z.list z.bytes 2 : Nat), .int .u64 (wordP z.list z.bytes 3 : Nat)]) gq1 121 #[.pointer (some ⟨gl, o + 13, none⟩), .pointer (some ⟨gl, o + 7, none⟩)] := (setRow_other u3 g9 gq1 _ (fun e => hq9 e.symm)).trans hq
     replace h9 := blk_setRow (cs' := #[.int .u64 (wordP z.list z.bytes 0 : Nat), .int .u64 (wordP z.list z.bytes 1 : Nat), .int .u64 (wordP z.list z.bytes 2 : Nat), .int .u64 (wordP z.list z.bytes 3 : Nat)]) h9
     refine wpList_nil ?_
     generalize u3.setRow g9 #[.int .u64 (wordP z.list z.bytes 0 : Nat), .int .u64 (wordP z.list z.bytes 1 : Nat), .int .u64 (wordP z.list z.bytes 2 : Nat), .int .u64 (wordP z.list z.bytes 3 : Nat)] = u4 at *
     go_wp2_with fail
     refine (keepC_any s a3 Ek EZ r _ hA.rd).mono ?_
     rintro e w7 ⟨rfl, hrd, hg⟩
     replace hA := hA.read hg hrd
     have h9' := h9.grown hg (fun e => by have := Option.some.inj e; have := hA.rl; have := hA.op; have := hA.pb; omega)
     have hq' := hq.grown hg (fun e => by have := Option.some.inj e; have := hA.rl; have := hA.op; have := HPQ.out; omega)
     clear hg hrd h9 hq
     go_upto_region 12 with (fail)
     refine wp_region_list ?_
     refine zm 8 (.pointer (some ⟨gl, o + F, none⟩)) rfl ?_
     simp only [Act.put, jb, jz, js]
     refine wpList_value rfl (.agg #[.int .u64 (wordP z.list z.bytes 0 : Nat), .int .u64 (wordP z.list z.bytes 1 : Nat), .int .u64 (wordP z.list z.bytes 2 : Nat), .int .u64 (wordP z.list z.bytes 3 : Nat)]) (exec_load_rowT rfl rfl 38 _ _ h9' Tryz.underlying38 rfl (by kernel_rfl)) ?_
     simp only [Act.put, jb, jz, js]
     refine wpList_value rfl (.pointer (some ⟨gl, o + F, none⟩)) (by go_simp <;> rfl) ?_
     simp only [Act.put, jb, jz, js]
     have hrow := hA.row
     have hfit := hA.fit
     refine wpList_skip rfl rfl (w' := w7.setRow gl (putA (o + F) (wCells z) Ck)) (by rw [← setCells_row hrow (o + F) (wCells z)]; exact exec_store_val 38 (.tmp 77) (.tmp 76) rfl gl (o + F) rfl _ rfl #[.int .u64 (wordP z.list z.bytes 0 : Nat), .int .u64 (wordP z.list z.bytes 1 : Nat), .int .u64 (wordP z.list z.bytes 2 : Nat), .int .u64 (wordP z.list z.bytes 3 : Nat)] rfl (there_blk hrow (by simp; omega)) (by kernel_rfl) (by simp [Value.oneCell'])) ?_
     refine wpList_nil ?_
     have hsz : (putA (o + F) (wCells z) Ck).size = Ck.size := putA_size _ _ _
     have hAp := hA.put (C' := putA (o + F) (wCells z) Ck) hsz (putA_far _ _ _ _ (.inl (by omega)))
     have hqp : Blk (w7.setRow gl (putA (o + F) (wCells z) Ck)) gq1 121 #[.pointer (some ⟨gl, o + 13, none⟩), .pointer (some ⟨gl, o + 7, none⟩)] := (setRow_other w7 gl gq1 _ (by have := hA.ll; have := hA.op; have := HPQ.out; omega)).trans hq'
     have houtp : ∀ j, j < o ∨ o + 36 ≤ j → (putA (o + F) (wCells z) Ck)[j]? = C[j]? := fun j hj => by
      rw [putA_far _ _ _ _ (by simp [wCells]; omega)]
      exact HOK.out j hj
     have HAP := Lib.hid hAp; have HQP := Lib.hid hqp; have HOP := Lib.hid houtp
     have HSZ2 : Hid ((putA (o + F) (wCells z) Ck).size = C.size) := Lib.hid (hsz.trans HZK.out)
     clear hA h9' hq' hrow hfit hsz hAp hqp houtp
     generalize w7.setRow gl (putA (o + F) (wCells z) Ck) = w8 at *
     go_wp2_with fail
     go_roundw
     case rel => exact ⟨k + 1, _, kE Ek EZ, by go_num, by omega, HAP.out, HQP.out, HSZ2.out, Lib.hid HOP.out, Lib.hid HCK2.out, Lib.hid HEK2.out⟩
     case measure => simp [intOf]; omega
    ·obtain rfl : k = 2 := by omega
     have hCk : CW = Ck := by have := HCK.out; rw [← HWS.out] at this; exact this.symm
     have hEk : EW = Ek := by have := HEK.out; rw [← HWS.out] at this; exact this.symm
     subst hCk; subst hEk
     have q8 : ¬ (((2 : Nat) : Int) < 2) := by omega
     have HZ9 : Hid (CW.size = C.size) := HZK
     have HO9 := HOK
     have hgt : ∀ (sv : Value) (V : World), Calls Tryz.prog 90 #[.agg #[.bool z2.list, .string z2.bytes, sv], .int .i64 0, .int .i64 4096] V fun e w' => e = .returned (.tuple #[.string (dtV z2), .int .i64 (dtE z2)]) ∧ V.grownBy w' none := fun sv V => getText_any z2.list z2.bytes sv 0 4096 V
     obtain ⟨DV, hDV⟩ : ∃ d, dtV z2 = d := ⟨_, rfl⟩
     obtain ⟨DE, hDE⟩ : ∃ d, dtE z2 = d := ⟨_, rfl⟩
     rw [hDV, hDE] at hgt
     have HGT := Lib.hid hgt; have HDV := Lib.hid hDV; have HDE := Lib.hid hDE
     replace hA : RsA w s r gl o 1 a3 EW CW p bb [z2, z3] wr := hA
     clear hq hgt hDV hDE HCK HEK HOK HZK HQ4 HA4 HBQ
     go_upto_region 14 with (fail)
     refine wp_region_list ?_
     refine zm 5 (.func (.func 88) #[] #[.pointer (some ⟨p, 0, none⟩)]) rfl ?_
     simp only [Act.put, jb, jz, js]
     refine wpList_enter rfl 88 #[.pointer (some ⟨p, 0, none⟩)] (exec_callc0 _ (.tmp 80) _ _ rfl rfl (enters_of Tryz.func88 (by kernel_rfl) rfl _ _)) (hA.next.mono ?_)
     clear hA
     rintro e u1 ⟨sA, sc, rfl, hsub, hA, hg⟩
     clear hg hsub
     refine ⟨_, rfl, ?_⟩
     simp only [Act.put, jb, jz, js]
     refine wpList_enter rfl 90 #[.agg #[.bool z2.list, .string z2.bytes, .slice sA z2.items.length sc], .int .i64 0, .int .i64 4096] (exec_call3C _ (.tmp 81) _ _ _ rfl _ _ _ rfl rfl rfl (enters_of Tryz.func90 (by kernel_rfl) rfl _ _)) ((HGT.out (.slice sA z2.items.length sc) u1).mono ?_)
     rintro e u2 ⟨rfl, hg⟩
     replace hA := hA.kept hg
     clear hg
     refine ⟨_, rfl, ?_⟩
     simp only [Act.put, jb, jz, js]
     refine zm 82 (.tuple #[.string DV, .int .i64 DE]) rfl ?_
     simp only [Act.put, jb, jz, js]
     refine wpList_value rfl (.string DV) (by go_simp <;> rfl) ?_
     simp only [Act.put, jb, jz, js]
     refine wpList_value rfl (.int .i64 DE) (by go_simp <;> rfl) ?_
     simp only [Act.put, jb, jz, js]
     refine wpList_value rfl (.string DV) (by go_simp <;> rfl) ?_
     simp only [Act.put, jb, jz, js]
     refine wpList_value rfl (.int .i64 DE) (by go_simp <;> rfl) ?_
     simp only [Act.put, jb, jz, js]
     refine wpList_nil ?_
     go_wp2_with fail
     refine (keepC_any s a3 EW DE r _ hA.rd).mono ?_
     rintro e w7 ⟨rfl, hrd, hg⟩
     replace hA := hA.read hg hrd
     clear hg hrd
     go_upto_region 16 with (fail)
     refine wp_region_list ?_
     refine zm 1 (.pointer (some ⟨gl, o, none⟩)) rfl ?_
     simp only [Act.put, jb, jz, js]
     refine zm 11 (.string DV) rfl ?_
     simp only [Act.put, jb, jz, js]
     refine wpList_value rfl (.pointer (some ⟨gl, o, none⟩)) (by go_simp <;> rfl) ?_
     simp only [Act.put, jb, jz, js]
     refine wpList_value rfl (.pointer (some ⟨gl, o + 17, none⟩)) (by go_simp <;> rfl) ?_
     simp only [Act.put, jb, jz, js]
     have hrow := hA.row
     have hfit := hA.fit
     refine wpList_skip rfl rfl (w' := w7.setRow gl (putA (o + 17) [.string DV] CW)) (by rw [← setCells_row hrow (o + 17) [.string DV]]; exact exec_store_val 9 (.tmp 91) (.tmp 89) rfl gl (o + 17) rfl _ rfl #[.string DV] rfl (there_blk hrow (by simp; omega)) (by kernel_rfl) (by simp [Value.oneCell'])) ?_
     refine wpList_nil ?_
     have hsz : (putA (o + 17) [.string DV] CW).size = CW.size := putA_size _ _ _
     replace hA := hA.put (C' := putA (o + 17) [.string DV] CW) hsz (putA_far _ _ _ _ (.inl (by omega)))
     have hout : ∀ j, j < o ∨ o + 36 ≤ j → (putA (o + 17) [.string DV] CW)[j]? = C[j]? := fun j hj => by
      rw [putA_far _ _ _ _ (by simp; omega)]
      exact HO9.out j hj
     have hsz2 := hsz.trans HZ9.out
     have hcd : CW = wordsC o [13, 7] [z0, z1] (putA o [.int .i64 1] C) := by rw [← HCW.out, ← HWS.out, ← HC1.out]; rfl
     have hed : kE EW DE = gotE1 1 [z0, z1, z2, z3] := by rw [← HEW.out, ← HWS.out, ← HDE.out]; rfl
     clear hrow hfit hsz
     generalize w7.setRow gl (putA (o + 17) [.string DV] CW) = w8 at *
     have c0 : w8.cell? ⟨gl, o, none⟩ = some (.int .i64 1) := (hA.row.cell o).trans hA.kd
     have HA8 := Lib.hid hA; have HSZ8 := Lib.hid hsz2; have HOUT8 := Lib.hid hout; have HCD := Lib.hid hcd; have HED := Lib.hid hed
     clear hsz2 hout hcd hed hA
     go_upto_region 18 with (fail)
     clear c0
     have hA := HA8.out
     refine wp_region_list ?_
     refine zm 1 (.pointer (some ⟨gl, o, none⟩)) rfl ?_
     simp only [Act.put, jb, jz, js]
     refine zm 0 (.pointer (some ⟨r, 0, none⟩)) rfl ?_
     simp only [Act.put, jb, jz, js]
     refine zm 5 (.func (.func 88) #[] #[.pointer (some ⟨p, 0, none⟩)]) rfl ?_
     simp only [Act.put, jb, jz, js]
     refine wpList_enter rfl 88 #[.pointer (some ⟨p, 0, none⟩)] (exec_callc0 _ (.tmp 99) _ _ rfl rfl (enters_of Tryz.func88 (by kernel_rfl) rfl _ _)) (hA.next.mono ?_)
     clear hA
     rintro e u1 ⟨sA2, sc2, rfl, hsub, hA, hg⟩
     clear hg
     refine ⟨_, rfl, ?_⟩
     simp only [Act.put, jb, jz, js]
     have hac := accessC_any z3 sA2 sc2 s a3 (kE EW DE) r u1 hA.rd (hsub.weak fun g hg => by have := hA.rl; omega)
     refine wpList_enter rfl 91 #[.pointer (some ⟨r, 0, none⟩), .agg #[.bool z3.list, .string z3.bytes, .slice sA2 z3.items.length sc2]] (exec_call2 _ (.tmp 98) (.tmp 100) _ rfl _ _ rfl rfl (enters_of Tryz.func91 (by kernel_rfl) rfl _ _)) (hac.mono ?_)
     clear hac hsub
     rintro e u2 ⟨AA, ac, rfl, ⟨vs, hst⟩, hrd, hg⟩
     have hgr1 := hA.gr.size
     replace hst := hst.lower hgr1
     obtain ⟨n9, hn9⟩ : ∃ x, (accX z3 (kE EW DE)).1.length = x := ⟨_, rfl⟩
     rw [hn9] at hst ⊢
     have HN9 := Lib.hid hn9
     clear hgr1 hn9
     replace hA := hA.read hg hrd
     clear hg hrd
     refine ⟨_, rfl, ?_⟩
     simp only [Act.put, jb, jz, js]
     refine wpList_value rfl (.pointer (some ⟨gl, o, none⟩)) (by go_simp <;> rfl) ?_
     simp only [Act.put, jb, jz, js]
     refine wpList_value rfl (.pointer (some ⟨gl, o + 18, none⟩)) (by go_simp <;> rfl) ?_
     simp only [Act.put, jb, jz, js]
     have hrow := hA.row
     have hfit := hA.fit
     obtain ⟨CV, hCV⟩ : ∃ X, putA (o + 17) [.string DV] CW = X := ⟨_, rfl⟩
     have HSZ9 := HSZ8.out; have HOUT9 := HOUT8.out
     rw [hCV] at hrow hfit hA HSZ9 HOUT9
     have hsr := set_row (o := o + 18) hrow (.slice AA n9 ac)
     refine wpList_skip rfl rfl (w' := u2.setRow gl (putA (o + 18) [.slice AA n9 ac] CV)) (by rw [← setCells_row hrow (o + 18) [.slice AA n9 ac]]; exact exec_store_val 39 (.tmp 103) (.tmp 101) rfl gl (o + 18) rfl _ rfl #[.slice AA n9 ac] rfl (there_blk hrow (by simp; omega)) (by kernel_rfl) (by simp [Value.oneCell'])) ?_
     refine wpList_nil ?_
     have hll := hA.ll
     have hst9 := hst.keep (only_setC (World.grownBy.refl u2 (some gl)) (o + 18) (.slice AA n9 ac)) (fun j hj => by have := Option.some.inj hj; omega)
     rw [hsr] at hst9
     have hsz : (putA (o + 18) [.slice AA n9 ac] CV).size = CV.size := putA_size _ _ _
     replace hA := hA.put (C' := putA (o + 18) [.slice AA n9 ac] CV) hsz (putA_far _ _ _ _ (.inl (by omega)))
     have hout : ∀ j, j < o ∨ o + 36 ≤ j → (putA (o + 18) [.slice AA n9 ac] CV)[j]? = C[j]? := fun j hj => by
      rw [putA_far _ _ _ _ (by simp; omega)]
      exact HOUT9 j hj
     have hsz2 := hsz.trans HSZ9
     clear hrow hfit hsz hst hsr
     generalize u2.setRow gl (putA (o + 18) [.slice AA n9 ac] CV) = w9 at *
     have HEND : Hid (RestEnd s a E r gl o C w (.returned (.tuple #[])) w9) := Lib.hid (by
      refine ⟨a3, (accX z3 (kE EW DE)).2, _, rfl, hA.rd, HA3.out, hA.row, hsz2, hout, by rw [HKV.out]; exact hA.kd, hA.gr, ?_⟩
      have hRR := HRR.out
      have hga : gotA 1 [z0, z1, z2, z3] = accX z3 (kE EW DE) := by rw [HED.out]; unfold gotA; rw [if_neg (by decide)]; rfl
      rw [hga] at hRR
      by_cases h0 : (accX z3 (kE EW DE)).2 = 0
      ·refine .inr ⟨[z0, z1, z2, z3], a3, AA, ac, vs, h0, ?_, rfl, ?_, ?_⟩
       ·rw [hRR, if_neg (by simpa using h0)]
       ·rw [HKV.out, hga, HN9.out, ← hCV, HCD.out, ← HDV.out]; unfold gotC; rw [if_neg (by decide)]; rfl
       ·intro _
        rw [HKV.out, hga, HN9.out]
        exact hst9
      ·exact .inl ⟨h0, by rw [hRR, if_pos h0]⟩)
     clear hA hsz2 hout hst9 hll HSZ9 HOUT9 hCV
     go_wp2_with fail
     go_end0
     exact HEND.out
  ·obtain ⟨z0, z1, z2, z3, z4, rfl⟩ : ∃ z0 z1 z2 z3 z4, zs = [z0, z1, z2, z3, z4] := by
    match zs, hlen with
    | [z0, z1, z2, z3, z4], _ => exact ⟨z0, z1, z2, z3, z4, rfl⟩
   have HLEN := Lib.hid hlen
   clear hlen
   go_upto_region 4 with (fail)
   refine wp_region_held (S := fun _ => True) (by kernel_rfl) ?_
   change wpAnyH _ _ _ _ _ _ _ _ wc.drew
   replace hA := hA.kept (only_drew (World.grownBy.refl wc none))
   generalize wc.drew = u0 at *
   refine zt 0 (.pointer (some ⟨gl, o, none⟩)) (some 38) rfl (fun W hW => by go_simp) trivial ?_
   simp only [Act.put, jb, jz, js]
   refine zt 1 (.pointer (some ⟨gl, o, none⟩)) (some 39) rfl (fun W hW => by go_simp) trivial ?_
   simp only [Act.put, jb, jz, js]
   refine zt 2 (.pointer (some ⟨gl, o + 13, none⟩)) (some 40) rfl (fun W hW => by go_simp) trivial ?_
   simp only [Act.put, jb, jz, js]
   refine zt 3 (.pointer (some ⟨gl, o, none⟩)) (some 41) rfl (fun W hW => by go_simp) trivial ?_
   simp only [Act.put, jb, jz, js]
   refine zt 4 (.pointer (some ⟨gl, o, none⟩)) (some 42) rfl (fun W hW => by go_simp) trivial ?_
   simp only [Act.put, jb, jz, js]
   refine zt 5 (.pointer (some ⟨gl, o + 7, none⟩)) (some 43) rfl (fun W hW => by go_simp) trivial ?_
   simp only [Act.put, jb, jz, js]
   refine held_one (i := 6) (by kernel_rfl) ?_
   have hga := only_alloc (World.grownBy.refl u0 none) (.cells #[.pointer (some ⟨gl, o + 13, none⟩), .pointer (some ⟨gl, o + 7, none⟩)] 121)
   have hq := Blk.new u0 121 #[.pointer (some ⟨gl, o + 13, none⟩), .pointer (some ⟨gl, o + 7, none⟩)]
   refine held_value (some 44) rfl rfl (.slice (some ⟨u0.heap.size, 0, none⟩) 2 2) (w' := u0.alloc (.cells #[.pointer (some ⟨gl, o + 13, none⟩), .pointer (some ⟨gl, o + 7, none⟩)] 121)) (by go_simp <;> rfl) rfl trivial ?_
   simp only [Act.put, jb, jz, js]
   refine zt 7 (.slice (some ⟨u0.heap.size, 0, none⟩) 2 2) (some 6) rfl (fun W hW => by go_simp) trivial ?_
   simp only [Act.put, jb, jz, js]
   refine wpAnyH_done (by kernel_rfl) ?_ _
   have hbq := hA.bd
   replace hA := hA.kept hga
   obtain ⟨gq1, hqe⟩ : ∃ q, u0.heap.size = q := ⟨_, rfl⟩
   rw [hqe] at hq hbq ⊢
   clear hqe hga
   generalize u0.alloc (.cells #[.pointer (some ⟨gl, o + 13, none⟩), .pointer (some ⟨gl, o + 7, none⟩)] 121) = v1 at *
   have c0k : v1.cell? ⟨gl, o, none⟩ = some (.int .i64 2) := (hA.row.cell o).trans hA.kd
   (try clear c2)
   clear hq hbq
   go_upto_region 6 with (fail)
   refine wp_region_held (S := fun _ => True) (by kernel_rfl) ?_
   change wpAnyH _ _ _ _ _ _ _ _ v1.drew
   replace hA := hA.kept (only_drew (World.grownBy.refl v1 none))
   generalize v1.drew = u0 at *
   refine zt 0 (.pointer (some ⟨gl, o, none⟩)) (some 50) rfl (fun W hW => by go_simp) trivial ?_
   simp only [Act.put, jb, jz, js]
   refine zt 1 (.pointer (some ⟨gl, o, none⟩)) (some 51) rfl (fun W hW => by go_simp) trivial ?_
   simp only [Act.put, jb, jz, js]
   refine zt 2 (.pointer (some ⟨gl, o + 13, none⟩)) (some 52) rfl (fun W hW => by go_simp) trivial ?_
   simp only [Act.put, jb, jz, js]
   refine zt 3 (.pointer (some ⟨gl, o, none⟩)) (some 53) rfl (fun W hW => by go_simp) trivial ?_
   simp only [Act.put, jb, jz, js]
   refine zt 4 (.pointer (some ⟨gl, o, none⟩)) (some 54) rfl (fun W hW => by go_simp) trivial ?_
   simp only [Act.put, jb, jz, js]
   refine zt 5 (.pointer (some ⟨gl, o + 3, none⟩)) (some 55) rfl (fun W hW => by go_simp) trivial ?_
   simp only [Act.put, jb, jz, js]
   refine zt 6 (.pointer (some ⟨gl, o, none⟩)) (some 56) rfl (fun W hW => by go_simp) trivial ?_
   simp only [Act.put, jb, jz, js]
   refine zt 7 (.pointer (some ⟨gl, o, none⟩)) (some 57) rfl (fun W hW => by go_simp) trivial ?_
   simp only [Act.put, jb, jz, js]
   refine zt 8 (.pointer (some ⟨gl, o + 7, none⟩)) (some 58) rfl (fun W hW => by go_simp) trivial ?_
   simp only [Act.put, jb, jz, js]
   refine held_one (i := 9) (by kernel_rfl) ?_
   have hga := only_alloc (World.grownBy.refl u0 none) (.cells #[.pointer (some ⟨gl, o + 13, none⟩), .pointer (some ⟨gl, o + 3, none⟩), .pointer (some ⟨gl, o + 7, none⟩)] 121)
   have hq := Blk.new u0 121 #[.pointer (some ⟨gl, o + 13, none⟩), .pointer (some ⟨gl, o + 3, none⟩), .pointer (some ⟨gl, o + 7, none⟩)]
   refine held_value (some 59) rfl rfl (.slice (some ⟨u0.heap.size, 0, none⟩) 3 3) (w' := u0.alloc (.cells #[.pointer (some ⟨gl, o + 13, none⟩), .pointer (some ⟨gl, o + 3, none⟩), .pointer (some ⟨gl, o + 7, none⟩)] 121)) (by go_simp <;> rfl) rfl trivial ?_
   simp only [Act.put, jb, jz, js]
   refine zt 10 (.slice (some ⟨u0.heap.size, 0, none⟩) 3 3) (some 6) rfl (fun W hW => by go_simp) trivial ?_
   simp only [Act.put, jb, jz, js]
   refine wpAnyH_done (by kernel_rfl) ?_ _
   have hbq := hA.bd
   replace hA := hA.kept hga
   obtain ⟨gq2, hqe⟩ : ∃ q, u0.heap.size = q := ⟨_, rfl⟩
   rw [hqe] at hq hbq ⊢
   clear hqe hga
   generalize u0.alloc (.cells #[.pointer (some ⟨gl, o + 13, none⟩), .pointer (some ⟨gl, o + 3, none⟩), .pointer (some ⟨gl, o + 7, none⟩)] 121) = v2 at *
   obtain ⟨ws, hws⟩ : ∃ ws, [z0, z1, z2, z3, z4].take 3 = ws := ⟨_, rfl⟩
   obtain ⟨CW, hCW⟩ : ∃ X, wordsC o [13, 3, 7] ws C1 = X := ⟨_, rfl⟩
   obtain ⟨EW, hEW⟩ : ∃ X, wordsE ws 0 = X := ⟨_, rfl⟩
   have HWS := Lib.hid hws; have HCW := Lib.hid hCW; have HEW := Lib.hid hEW
   have HA4 := Lib.hid hA; have HQ4 := Lib.hid hq; have HBQ := Lib.hid hbq
   clear hws hCW hEW hA hq hbq
   go_upto_region 7 with (fail)
   clear c0k
   go_wp2_with fail
   go_loopw [62] (fun i wr => ∃ (k : Nat) (Ck : Array Value) (Ek : Int), i = .int .i64 k ∧ k ≤ 3 ∧ RsA w s r gl o 2 a3 Ek Ck p bb ([z0, z1, z2, z3, z4].drop k) wr ∧ Blk wr gq2 121 #[.pointer (some ⟨gl, o + 13, none⟩), .pointer (some ⟨gl, o + 3, none⟩), .pointer (some ⟨gl, o + 7, none⟩)] ∧ Ck.size = C.size ∧ Hid (∀ j, j < o ∨ o + 36 ≤ j → Ck[j]? = C[j]?) ∧ Hid (wordsC o ([13, 3, 7].drop k) (ws.drop k) Ck = CW) ∧ Hid (wordsE (ws.drop k) Ek = EW)) (fun i _ => 3 - (intOf i).toNat)
   case atStart => exact ⟨0, C1, 0, rfl, by omega, HA4.out, HQ4.out, HZ1.out, Lib.hid HOUT1.out, Lib.hid HCW.out, Lib.hid HEW.out⟩
   case round =>
    obtain ⟨k, Ck, Ek, rfl, hk, hA, hq, hz, hout, hcw, hew⟩ := hrel
    have HZK := Lib.hid hz; have HOK := Lib.hid hout.out; have HCK := Lib.hid hcw.out; have HEK := Lib.hid hew.out
    clear hz hout hcw hew
    by_cases hlt : k < 3
    ·have key : ∃ z F, [z0, z1, z2, z3, z4].drop k = z :: [z0, z1, z2, z3, z4].drop (k + 1) ∧ [13, 3, 7].drop k = F :: [13, 3, 7].drop (k + 1) ∧ ws.drop k = z :: ws.drop (k + 1) ∧ wr.cell? ⟨gq2, k, none⟩ = some (.pointer (some ⟨gl, o + F, none⟩)) ∧ F + 4 ≤ 36 ∧ 0 < F := by
      rw [← HWS.out]
      rcases (by omega : k = 0 ∨ k = 1 ∨ k = 2) with rfl | rfl | rfl
      ·exact ⟨z0, 13, rfl, rfl, rfl, hq.cell 0, by decide, by decide⟩
      ·exact ⟨z1, 3, rfl, rfl, rfl, hq.cell 1, by decide, by decide⟩
      ·exact ⟨z2, 7, rfl, rfl, rfl, hq.cell 2, by decide, by decide⟩
     obtain ⟨z, F, hz0, hf0, hw0, hc, hF1, hF2⟩ := key
     have hzm : z ∈ [z0, z1, z2, z3, z4] := List.mem_of_mem_drop (i := k) (by rw [hz0]; exact List.mem_cons_self ..)
     have HZS := Lib.hid (HZB.out z hzm)
     rw [hz0] at hA
     have HCK2 : Hid (wordsC o ([13, 3, 7].drop (k + 1)) (ws.drop (k + 1)) (putA (o + F) (wCells z) Ck) = CW) := Lib.hid (by have := HCK.out; rw [hf0, hw0] at this; exact this)
     obtain ⟨EZ, hEZ⟩ : ∃ e, wordE z.list z.bytes = e := ⟨_, rfl⟩
     have HEK2 : Hid (wordsE (ws.drop (k + 1)) (kE Ek EZ) = EW) := Lib.hid (by have := HEK.out; rw [hw0] at this; rw [← hEZ]; exact this)
     have HEZ := Lib.hid hEZ
     have q1 : (k : Int) < 3 := by omega
     have hpq : p < gq2 := by have := hA.pb; have := HBQ.out; omega
     have HPQ := Lib.hid hpq
     clear hz0 hf0 hw0 hzm HCK HEK hEZ hpq HA4 HQ4
     go_upto_region 10 with (fail)
     clear hc
     refine wp_region_list ?_
     refine zm 5 (.func (.func 88) #[] #[.pointer (some ⟨p, 0, none⟩)]) rfl ?_
     simp only [Act.put, jb, jz, js]
     refine wpList_enter rfl 88 #[.pointer (some ⟨p, 0, none⟩)] (exec_callc0 _ (.tmp 67) _ _ rfl rfl (enters_of Tryz.func88 (by kernel_rfl) rfl _ _)) (hA.next.mono ?_)
     clear hA
     rintro e u1 ⟨sA, sc, rfl, hsub, hA, hg⟩
     replace hq := hq.grown hg (fun e => by have := Option.some.inj e; have := HPQ.out; omega)
     clear hg hsub
     refine ⟨_, rfl, ?_⟩
     simp only [Act.put, jb, jz, js]
     have hgw := getWord_any z.list z.bytes (.slice sA z.items.length sc) HZS.out u1
     rw [HEZ.out] at hgw
     refine wpList_enter rfl 89 #[.agg #[.bool z.list, .string z.bytes, .slice sA z.items.length sc]] (exec_call1 _ (.tmp 68) _ rfl _ rfl (enters_of Tryz.func89 (by kernel_rfl) rfl _ _)) (hgw.mono ?_)
     clear hgw
     rintro e u2 ⟨rfl, hg⟩
     replace hA := hA.kept hg
     replace hq := hq.grown hg (by simp)
     clear hg
     refine ⟨_, rfl, ?_⟩
     simp only [Act.put, jb, jz, js]
     refine zm 69 (.tuple #[.agg #[.int .u64 (wordP z.list z.bytes 0 : Nat), .int .u64 (wordP z.list z.bytes 1 : Nat), .int .u64 (wordP z.list z.bytes 2 : Nat), .int .u64 (wordP z.list z.bytes 3 : Nat)], .int .i64 EZ]) rfl ?_
     simp only [Act.put, jb, jz, js]
     refine wpList_value rfl (.agg #[.int .u64 (wordP z.list z.bytes 0 : Nat), .int .u64 (wordP z.list z.bytes 1 : Nat), .int .u64 (wordP z.list z.bytes 2 : Nat), .int .u64 (wordP z.list z.bytes 3 : Nat)]) (by go_simp <;> rfl) ?_
     simp only [Act.put, jb, jz, js]
     refine wpList_value rfl (.int .i64 EZ) (by go_simp <;> rfl) ?_
     simp only [Act.put, jb, jz, js]
     have hga := only_alloc (World.grownBy.refl u2 none) (.cells #[.int .u64 0, .int .u64 0, .int .u64 0, .int .u64 0] 38)
     have h9 := Blk.new u2 38 #[.int .u64 0, .int .u64 0, .int .u64 0, .int .u64 0]
     have hb9 := hA.bd
     have hq9 : u2.heap.size ≠ gq2 := by have := hq.lt; omega
     replace hA := hA.kept hga
     replace hq := hq.grown hga (by simp)
     refine wpList_value rfl (.pointer (some ⟨u2.heap.size, 0, none⟩)) (w' := u2.alloc (.cells #[.int .u64 0, .int .u64 0, .int .u64 0, .int .u64 0] 38)) (by go_simp <;> rfl) ?_
     simp only [Act.put, jb, jz, js]
     obtain ⟨g9, hg9⟩ : ∃ x, u2.heap.size = x := ⟨_, rfl⟩
     rw [hg9] at h9 hb9 hq9 ⊢
     clear hga hg9
     generalize u2.alloc (.cells #[.int .u64 0, .int .u64 0, .int .u64 0, .int .u64 0] 38) = u3 at *
     refine wpList_skip rfl rfl (w' := u3.setRow g9 #[.int .u64 (wordP z.list z.bytes 0 : Nat), .int .u64 (wordP z.list z.bytes 1 : Nat), .int .u64 (wordP z.list z.bytes 2 : Nat), .int .u64 (wordP z.list z.bytes 3 : Nat)]) (by rw [show u3.setRow g9 #[.int .u64 (wordP z.list z.bytes 0 : Nat), .int .u64 (wordP z.list z.bytes 1 : Nat), .int .u64 (wordP z.list z.bytes 2 : Nat), .int .u64 (wordP z.list z.bytes 3 : Nat)] = u3.setCells g9 0 (wCells z) from (setCells_row h9 0 (wCells z)).symm]; exact exec_store_val 38 (.tmp 9) (.tmp 70) rfl g9 0 rfl _ rfl #[.int .u64 (wordP z.list z.bytes 0 : Nat), .int .u64 (wordP z.list z.bytes 1 : Nat), .int .u64 (wordP z.list z.bytes 2 : Nat), .int .u64 (wordP z.list z.bytes 3 : Nat)] rfl (there_blk h9 (by simp)) (by kernel_rfl) (by simp [Value.oneCell'])) ?_
     (try simp only [Act.put, jb, jz, js])
     refine wpList_value rfl (.int .i64 EZ) (by go_simp <;> rfl) ?_
     simp only [Act.put, jb, jz, js]
     replace hA := hA.far (D := #[.int .u64 (wordP z.list z.bytes 0 : Nat), .int .u64 (wordP z.list z.bytes 1 : Nat), .int .u64 (wordP z.list z.bytes 2 : Nat), .int .u64 (wordP z.list z.bytes 3 : Nat)]) hb9
     replace hq : Blk (u3.setRow g9 #[.int .u64 (wordP z.list z.bytes 0 : Nat), .int .u64 (wordP z.list z.bytes 1 : Nat), .int .u64 (wordP z.list z.bytes 2 : Nat), .int .u64 (wordP z.list z.bytes 3 : Nat)]) gq2 121 #[.pointer (some ⟨gl, o + 13, none⟩), .pointer (some ⟨gl, o + 3, none⟩), .pointer (some ⟨gl, o + 7, none⟩)] := (setRow_other u3 g9 gq2 _ (fun e => hq9 e.symm)).trans hq
     replace h9 := blk_setRow (cs' := #[.int .u64 (wordP z.list z.bytes 0 : Nat), .int .u64 (wordP z.list z.bytes 1 : Nat), .int .u64 (wordP z.list z.bytes 2 : Nat), .int .u64 (wordP z.list z.bytes 3 : Nat)]) h9
     refine wpList_nil ?_
     generalize u3.setRow g9 #[.int .u64 (wordP z.list z.bytes 0 : Nat), .int .u64 (wordP z.list z.bytes 1 : Nat), .int .u64 (wordP z.list z.bytes 2 : Nat), .int .u64 (wordP z.list z.bytes 3 : Nat)] = u4 at *
     go_wp2_with fail
     refine (keepC_any s a3 Ek EZ r _ hA.rd).mono ?_
     rintro e w7 ⟨rfl, hrd, hg⟩
     replace hA := hA.read hg hrd
     have h9' := h9.grown hg (fun e => by have := Option.some.inj e; have := hA.rl; have := hA.op; have := hA.pb; omega)
     have hq' := hq.grown hg (fun e => by have := Option.some.inj e; have := hA.rl; have := hA.op; have := HPQ.out; omega)
     clear hg hrd h9 hq
     go_upto_region 12 with (fail)
     refine wp_region_list ?_
     refine zm 8 (.pointer (some ⟨gl, o + F, none⟩)) rfl ?_
     simp only [Act.put, jb, jz, js]
     refine wpList_value rfl (.agg #[.int .u64 (wordP z.list z.bytes 0 : Nat), .int .u64 (wordP z.list z.bytes 1 : Nat), .int .u64 (wordP z.list z.bytes 2 : Nat), .int .u64 (wordP z.list z.bytes 3 : Nat)]) (exec_load_rowT rfl rfl 38 _ _ h9' Tryz.underlying38 rfl (by kernel_rfl)) ?_
     simp only [Act.put, jb, jz, js]
     refine wpList_value rfl (.pointer (some ⟨gl, o + F, none⟩)) (by go_simp <;> rfl) ?_
     simp only [Act.put, jb, jz, js]
     have hrow := hA.row
     have hfit := hA.fit
     refine wpList_skip rfl rfl (w' := w7.setRow gl (putA (o + F) (wCells z) Ck)) (by rw [← setCells_row hrow (o + F) (wCells z)]; exact exec_store_val 38 (.tmp 77) (.tmp 76) rfl gl (o + F) rfl _ rfl #[.int .u64 (wordP z.list z.bytes 0 : Nat), .int .u64 (wordP z.list z.bytes 1 : Nat), .int .u64 (wordP z.list z.bytes 2 : Nat), .int .u64 (wordP z.list z.bytes 3 : Nat)] rfl (there_blk hrow (by simp; omega)) (by kernel_rfl) (by simp [Value.oneCell'])) ?_
     refine wpList_nil ?_
     have hsz : (putA (o + F) (wCells z) Ck).size = Ck.size := putA_size _ _ _
     have hAp := hA.put (C' := putA (o + F) (wCells z) Ck) hsz (putA_far _ _ _ _ (.inl (by omega)))
     have hqp : Blk (w7.setRow gl (putA (o + F) (wCells z) Ck)) gq2 121 #[.pointer (some ⟨gl, o + 13, none⟩), .pointer (some ⟨gl, o + 3, none⟩), .pointer (some ⟨gl, o + 7, none⟩)] := (setRow_other w7 gl gq2 _ (by have := hA.ll; have := hA.op; have := HPQ.out; omega)).trans hq'
     have houtp : ∀ j, j < o ∨ o + 36 ≤ j → (putA (o + F) (wCells z) Ck)[j]? = C[j]? := fun j hj => by
      rw [putA_far _ _ _ _ (by simp [wCells]; omega)]
      exact HOK.out j hj
     have HAP := Lib.hid hAp; have HQP := Lib.hid hqp; have HOP := Lib.hid houtp
     have HSZ2 : Hid ((putA (o + F) (wCells z) Ck).size = C.size) := Lib.hid (hsz.trans HZK.out)
     clear hA h9' hq' hrow hfit hsz hAp hqp houtp
     generalize w7.setRow gl (putA (o + F) (wCells z) Ck) = w8 at *
     go_wp2_with fail
     go_roundw
     case rel => exact ⟨k + 1, _, kE Ek EZ, by go_num, by omega, HAP.out, HQP.out, HSZ2.out, Lib.hid HOP.out, Lib.hid HCK2.out, Lib.hid HEK2.out⟩
     case measure => simp [intOf]; omega
    ·obtain rfl : k = 3 := by omega
     have hCk : CW = Ck := by have := HCK.out; rw [← HWS.out] at this; exact this.symm
     have hEk : EW = Ek := by have := HEK.out; rw [← HWS.out] at this; exact this.symm
     subst hCk; subst hEk
     have q8 : ¬ (((3 : Nat) : Int) < 3) := by omega
     have HZ9 : Hid (CW.size = C.size) := HZK
     have HO9 := HOK
     have hgt : ∀ (sv : Value) (V : World), Calls Tryz.prog 90 #[.agg #[.bool z3.list, .string z3.bytes, sv], .int .i64 0, .int .i64 4096] V fun e w' => e = .returned (.tuple #[.string (dtV z3), .int .i64 (dtE z3)]) ∧ V.grownBy w' none := fun sv V => getText_any z3.list z3.bytes sv 0 4096 V
     obtain ⟨DV, hDV⟩ : ∃ d, dtV z3 = d := ⟨_, rfl⟩
     obtain ⟨DE, hDE⟩ : ∃ d, dtE z3 = d := ⟨_, rfl⟩
     rw [hDV, hDE] at hgt
     have HGT := Lib.hid hgt; have HDV := Lib.hid hDV; have HDE := Lib.hid hDE
     replace hA : RsA w s r gl o 2 a3 EW CW p bb [z3, z4] wr := hA
     clear hq hgt hDV hDE HCK HEK HOK HZK HQ4 HA4 HBQ
     go_upto_region 14 with (fail)
     refine wp_region_list ?_
     refine zm 5 (.func (.func 88) #[] #[.pointer (some ⟨p, 0, none⟩)]) rfl ?_
     simp only [Act.put, jb, jz, js]
     refine wpList_enter rfl 88 #[.pointer (some ⟨p, 0, none⟩)] (exec_callc0 _ (.tmp 80) _ _ rfl rfl (enters_of Tryz.func88 (by kernel_rfl) rfl _ _)) (hA.next.mono ?_)
     clear hA
     rintro e u1 ⟨sA, sc, rfl, hsub, hA, hg⟩
     clear hg hsub
     refine ⟨_, rfl, ?_⟩
     simp only [Act.put, jb, jz, js]
     refine wpList_enter rfl 90 #[.agg #[.bool z3.list, .string z3.bytes, .slice sA z3.items.length sc], .int .i64 0, .int .i64 4096] (exec_call3C _ (.tmp 81) _ _ _ rfl _ _ _ rfl rfl rfl (enters_of Tryz.func90 (by kernel_rfl) rfl _ _)) ((HGT.out (.slice sA z3.items.length sc) u1).mono ?_)
     rintro e u2 ⟨rfl, hg⟩
     replace hA := hA.kept hg
     clear hg
     refine ⟨_, rfl, ?_⟩
     simp only [Act.put, jb, jz, js]
     refine zm 82 (.tuple #[.string DV, .int .i64 DE]) rfl ?_
     simp only [Act.put, jb, jz, js]
     refine wpList_value rfl (.string DV) (by go_simp <;> rfl) ?_
     simp only [Act.put, jb, jz, js]
     refine wpList_value rfl (.int .i64 DE) (by go_simp <;> rfl) ?_
     simp only [Act.put, jb, jz, js]
     refine wpList_value rfl (.string DV) (by go_simp <;> rfl) ?_
     simp only [Act.put, jb, jz, js]
     refine wpList_value rfl (.int .i64 DE) (by go_simp <;> rfl) ?_
     simp only [Act.put, jb, jz, js]
     refine wpList_nil ?_
     go_wp2_with fail
     refine (keepC_any s a3 EW DE r _ hA.rd).mono ?_
     rintro e w7 ⟨rfl, hrd, hg⟩
     replace hA := hA.read hg hrd
     clear hg hrd
     go_upto_region 16 with (fail)
     refine wp_region_list ?_
     refine zm 1 (.pointer (some ⟨gl, o, none⟩)) rfl ?_
     simp only [Act.put, jb, jz, js]
     refine zm 11 (.string DV) rfl ?_
     simp only [Act.put, jb, jz, js]
     refine wpList_value rfl (.pointer (some ⟨gl, o, none⟩)) (by go_simp <;> rfl) ?_
     simp only [Act.put, jb, jz, js]
     refine wpList_value rfl (.pointer (some ⟨gl, o + 17, none⟩)) (by go_simp <;> rfl) ?_
     simp only [Act.put, jb, jz, js]
     have hrow := hA.row
     have hfit := hA.fit
     refine wpList_skip rfl rfl (w' := w7.setRow gl (putA (o + 17) [.string DV] CW)) (by rw [← setCells_row hrow (o + 17) [.string DV]]; exact exec_store_val 9 (.tmp 91) (.tmp 89) rfl gl (o + 17) rfl _ rfl #[.string DV] rfl (there_blk hrow (by simp; omega)) (by kernel_rfl) (by simp [Value.oneCell'])) ?_
     refine wpList_nil ?_
     have hsz : (putA (o + 17) [.string DV] CW).size = CW.size := putA_size _ _ _
     replace hA := hA.put (C' := putA (o + 17) [.string DV] CW) hsz (putA_far _ _ _ _ (.inl (by omega)))
     have hout : ∀ j, j < o ∨ o + 36 ≤ j → (putA (o + 17) [.string DV] CW)[j]? = C[j]? := fun j hj => by
      rw [putA_far _ _ _ _ (by simp; omega)]
      exact HO9.out j hj
     have hsz2 := hsz.trans HZ9.out
     have hcd : CW = wordsC o [13, 3, 7] [z0, z1, z2] (putA o [.int .i64 2] C) := by rw [← HCW.out, ← HWS.out, ← HC1.out]; rfl
     have hed : kE EW DE = gotE1 2 [z0, z1, z2, z3, z4] := by rw [← HEW.out, ← HWS.out, ← HDE.out]; rfl
     clear hrow hfit hsz
     generalize w7.setRow gl (putA (o + 17) [.string DV] CW) = w8 at *
     have c0 : w8.cell? ⟨gl, o, none⟩ = some (.int .i64 2) := (hA.row.cell o).trans hA.kd
     have HA8 := Lib.hid hA; have HSZ8 := Lib.hid hsz2; have HOUT8 := Lib.hid hout; have HCD := Lib.hid hcd; have HED := Lib.hid hed
     clear hsz2 hout hcd hed hA
     go_upto_region 18 with (fail)
     clear c0
     have hA := HA8.out
     refine wp_region_list ?_
     refine zm 1 (.pointer (some ⟨gl, o, none⟩)) rfl ?_
     simp only [Act.put, jb, jz, js]
     refine zm 0 (.pointer (some ⟨r, 0, none⟩)) rfl ?_
     simp only [Act.put, jb, jz, js]
     refine zm 5 (.func (.func 88) #[] #[.pointer (some ⟨p, 0, none⟩)]) rfl ?_
     simp only [Act.put, jb, jz, js]
     refine wpList_enter rfl 88 #[.pointer (some ⟨p, 0, none⟩)] (exec_callc0 _ (.tmp 99) _ _ rfl rfl (enters_of Tryz.func88 (by kernel_rfl) rfl _ _)) (hA.next.mono ?_)
     clear hA
     rintro e u1 ⟨sA2, sc2, rfl, hsub, hA, hg⟩
     clear hg
     refine ⟨_, rfl, ?_⟩
     simp only [Act.put, jb, jz, js]
     have hac := accessC_any z4 sA2 sc2 s a3 (kE EW DE) r u1 hA.rd (hsub.weak fun g hg => by have := hA.rl; omega)
     refine wpList_enter rfl 91 #[.pointer (some ⟨r, 0, none⟩), .agg #[.bool z4.list, .string z4.bytes, .slice sA2 z4.items.length sc2]] (exec_call2 _ (.tmp 98) (.tmp 100) _ rfl _ _ rfl rfl (enters_of Tryz.func91 (by kernel_rfl) rfl _ _)) (hac.mono ?_)
     clear hac hsub
     rintro e u2 ⟨AA, ac, rfl, ⟨vs, hst⟩, hrd, hg⟩
     have hgr1 := hA.gr.size
     replace hst := hst.lower hgr1
     obtain ⟨n9, hn9⟩ : ∃ x, (accX z4 (kE EW DE)).1.length = x := ⟨_, rfl⟩
     rw [hn9] at hst ⊢
     have HN9 := Lib.hid hn9
     clear hgr1 hn9
     replace hA := hA.read hg hrd
     clear hg hrd
     refine ⟨_, rfl, ?_⟩
     simp only [Act.put, jb, jz, js]
     refine wpList_value rfl (.pointer (some ⟨gl, o, none⟩)) (by go_simp <;> rfl) ?_
     simp only [Act.put, jb, jz, js]
     refine wpList_value rfl (.pointer (some ⟨gl, o + 18, none⟩)) (by go_simp <;> rfl) ?_
     simp only [Act.put, jb, jz, js]
     have hrow := hA.row
     have hfit := hA.fit
     obtain ⟨CV, hCV⟩ : ∃ X, putA (o + 17) [.string DV] CW = X := ⟨_, rfl⟩
     have HSZ9 := HSZ8.out; have HOUT9 := HOUT8.out
     rw [hCV] at hrow hfit hA HSZ9 HOUT9
     have hsr := set_row (o := o + 18) hrow (.slice AA n9 ac)
     refine wpList_skip rfl rfl (w' := u2.setRow gl (putA (o + 18) [.slice AA n9 ac] CV)) (by rw [← setCells_row hrow (o + 18) [.slice AA n9 ac]]; exact exec_store_val 39 (.tmp 103) (.tmp 101) rfl gl (o + 18) rfl _ rfl #[.slice AA n9 ac] rfl (there_blk hrow (by simp; omega)) (by kernel_rfl) (by simp [Value.oneCell'])) ?_
     refine wpList_nil ?_
     have hll := hA.ll
     have hst9 := hst.keep (only_setC (World.grownBy.refl u2 (some gl)) (o + 18) (.slice AA n9 ac)) (fun j hj => by have := Option.some.inj hj; omega)
     rw [hsr] at hst9
     have hsz : (putA (o + 18) [.slice AA n9 ac] CV).size = CV.size := putA_size _ _ _
     replace hA := hA.put (C' := putA (o + 18) [.slice AA n9 ac] CV) hsz (putA_far _ _ _ _ (.inl (by omega)))
     have hout : ∀ j, j < o ∨ o + 36 ≤ j → (putA (o + 18) [.slice AA n9 ac] CV)[j]? = C[j]? := fun j hj => by
      rw [putA_far _ _ _ _ (by simp; omega)]
      exact HOUT9 j hj
     have hsz2 := hsz.trans HSZ9
     clear hrow hfit hsz hst hsr
     generalize u2.setRow gl (putA (o + 18) [.slice AA n9 ac] CV) = w9 at *
     have HEND : Hid (RestEnd s a E r gl o C w (.returned (.tuple #[])) w9) := Lib.hid (by
      refine ⟨a3, (accX z4 (kE EW DE)).2, _, rfl, hA.rd, HA3.out, hA.row, hsz2, hout, by rw [HKV.out]; exact hA.kd, hA.gr, ?_⟩
      have hRR := HRR.out
      have hga : gotA 2 [z0, z1, z2, z3, z4] = accX z4 (kE EW DE) := by rw [HED.out]; unfold gotA; rw [if_neg (by decide)]; rfl
      rw [hga] at hRR
      by_cases h0 : (accX z4 (kE EW DE)).2 = 0
      ·refine .inr ⟨[z0, z1, z2, z3, z4], a3, AA, ac, vs, h0, ?_, rfl, ?_, ?_⟩
       ·rw [hRR, if_neg (by simpa using h0)]
       ·rw [HKV.out, hga, HN9.out, ← hCV, HCD.out, ← HDV.out]; unfold gotC; rw [if_neg (by decide)]; rfl
       ·intro _
        rw [HKV.out, hga, HN9.out]
        exact hst9
      ·exact .inl ⟨h0, by rw [hRR, if_pos h0]⟩)
     clear hA hsz2 hout hst9 hll HSZ9 HOUT9 hCV
     go_wp2_with fail
     go_end0
     exact HEND.out
end Go.Proofs.YtgclnikdkfpflaaGreatDoor
