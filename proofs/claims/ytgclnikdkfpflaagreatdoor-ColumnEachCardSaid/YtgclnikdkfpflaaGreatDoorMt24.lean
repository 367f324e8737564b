/- Merged: CgJ. -/
import Derived.Test.YtgclnikdkfpflaaGreatDoorMt1
import Derived.Test.YtgclnikdkfpflaaGreatDoorMt22
import Derived.Deep.DeepCutAuto
namespace Go.Proofs.YtgclnikdkfpflaaGreatDoor
open Go.RowKit Go.Shelf
open List renaming set_cons_zero → jz, set_cons_succ → js, setIfInBounds_toArray → jb
set_option linter.unusedVariables false
set_option linter.unusedSimpArgs false
set_option maxRecDepth 100000
set_option maxHeartbeats 16000000
theorem getGood (s : ByteArray) (a n chain : Nat) (w : World) (hs : s.size ≤ 1000000000000) (ha : a ≤ s.size) (hn : n ≤ 512) (hc0 : 0 < chain) (hc1 : chain ≤ 4611686018427387904) :
  Calls Tryz.prog 14 #[.string s, .int .i64 (a : Int), .int .i64 (n : Int), .int .u64 (chain : Int)] w (GetEnd s a n chain w) := by
 have e1 : ((chain : Int) == 0) = false := (beq_n chain 0).trans (decide_eq_false (by omega))
 have e2 : decide ((4611686018427387904 : Int) < (chain : Int)) = false := decide_eq_false (by omega)
 have e3 : decide ((n : Int) < 0) = false := decide_eq_false (by omega)
 have e4 : decide ((512 : Int) < (n : Int)) = false := decide_eq_false (by omega)
 have e5 : decide ((a : Int) < 0) = false := decide_eq_false (by omega)
 have e6 : decide ((s.size : Int) < (a : Int)) = false := decide_eq_false (by omega)
 have e7 : decide (s.size < a) = false := decide_eq_false (by omega)
 have e8 : ¬ s.size < a := by omega
 have HS := Lib.hid hs; have HA := Lib.hid ha; have HN := Lib.hid hn; have HC0 := Lib.hid hc0; have HC1 := Lib.hid hc1
 have hmk := fun V => makeT n (by omega) V
 have hg := only_alloc (only_alloc (World.grownBy.refl w none) (.cells (rdC s a 0) 67)) (.cells (blankC n) 42)
 have hr := (Blk.new w 67 (rdC s a 0)).alloc (.cells (blankC n) 42)
 have hl := Blk.new (w.alloc (.cells (rdC s a 0) 67)) 42 (blankC n)
 have hz : ((w.alloc (.cells (rdC s a 0) 67)).alloc (.cells (blankC n) 42)).heap.size = w.heap.size + 2 := by simp
 rw [World.size_alloc] at hl
 have HG := Lib.hid hg; have HR := Lib.hid hr; have HL := Lib.hid hl; have HZ := Lib.hid hz
 clear hs ha hn hc0 hc1 hg hr hl hz
 go_enter Tryz.func14, Tryz.ntmps14
 go_upto_region 4 with (fail)
 clear e1 e2 e3 e4 e5 e6 e7 e8
 go_upto_region 5 with (fail)
 change Code.wp _ _ _ _ ((w.alloc (.cells (rdC s a 0) 67)).alloc (.cells (blankC n) 42))
 generalize (w.alloc (.cells (rdC s a 0) 67)).alloc (.cells (blankC n) 42) = w4 at *
 clear hmk
 obtain ⟨r, hr0⟩ : ∃ r, w.heap.size = r := ⟨_, rfl⟩
 rw [hr0] at HR HL HZ ⊢
 have HR0 := Lib.hid hr0
 clear hr0
 refine wp_region_list ?_
 refine zm 11 (.pointer (some ⟨r, 0, none⟩)) rfl ?_
 simp only [Act.put, jb, jz, js]
 refine zm 2 (.int .i64 (n : Int)) rfl ?_
 simp only [Act.put, jb, jz, js]
 refine wpList_enter rfl 48 #[.pointer (some ⟨r, 0, none⟩), .int .i64 (n : Int)] (exec_call2 _ (.tmp 57) (.tmp 58) _ rfl _ _ rfl rfl (enters_of Tryz.func48 (by kernel_rfl) rfl _ _)) ((bitsC_any s a n 0 r w4 HR.out HS.out HA.out (by have := HN.out; omega)).mono ?_)
 rintro e w5 ⟨v1, rfl, ho1, hr5, hg5⟩
 refine ⟨_, rfl, ?_⟩
 simp only [Act.put, jb, jz, js]
 have hl5 := HL.out.grown hg5 (fun e => by have := Option.some.inj e; omega)
 have hG5 := grown_self HG.out hg5 (fun k hk => .inr (by have := Option.some.inj hk; have := HR0.out; omega))
 have hA1 : btA s a n 0 ≤ s.size := by unfold btA; exact tkA_le HA.out
 obtain ⟨E1, hE1⟩ : ∃ x, btE s a n 0 = x := ⟨_, rfl⟩
 obtain ⟨A1, hA1e⟩ : ∃ x, btA s a n 0 = x := ⟨_, rfl⟩
 rw [hE1, hA1e] at hr5
 rw [hA1e] at hA1
 have HE1 := Lib.hid hE1; have HA1 := Lib.hid hA1e; have HB1 := Lib.hid hA1; have HR5 := Lib.hid hr5; have HL5 := Lib.hid hl5; have HG5 := Lib.hid hG5
 have HZ5 := Lib.hid hg5.size
 have HO1 := Lib.hid (RowQ.of_own ho1)
 clear hE1 hA1 hA1e hr5 hl5 hG5 ho1 hg5 HR HL HG
 refine zm 11 (.pointer (some ⟨r, 0, none⟩)) rfl ?_
 simp only [Act.put, jb, jz, js]
 refine zm 2 (.int .i64 (n : Int)) rfl ?_
 simp only [Act.put, jb, jz, js]
 refine wpList_enter rfl 48 #[.pointer (some ⟨r, 0, none⟩), .int .i64 (n : Int)] (exec_call2 _ (.tmp 60) (.tmp 61) _ rfl _ _ rfl rfl (enters_of Tryz.func48 (by kernel_rfl) rfl _ _)) ((bitsC_any s A1 n E1 r w5 HR5.out HS.out HB1.out (by have := HN.out; omega)).mono ?_)
 rintro e w6 ⟨v2, rfl, ho2, hr6, hg6⟩
 refine ⟨_, rfl, ?_⟩
 simp only [Act.put, jb, jz, js]
 have hl6 := HL5.out.grown hg6 (fun e => by have := Option.some.inj e; omega)
 have hG6 := grown_self HG5.out hg6 (fun k hk => .inr (by have := Option.some.inj hk; have := HR0.out; omega))
 have hA2 : btA s A1 n E1 ≤ s.size := by unfold btA; exact tkA_le HB1.out
 have hO1 := HO1.out.keep (w' := w6) (fun p u h1 _ hu => hg6.cell hu (fun e => by have := Option.some.inj e; have := HZ.out; omega))
 obtain ⟨E2, hE2⟩ : ∃ x, btE s A1 n E1 = x := ⟨_, rfl⟩
 obtain ⟨A2, hA2e⟩ : ∃ x, btA s A1 n E1 = x := ⟨_, rfl⟩
 rw [hE2, hA2e] at hr6
 rw [hA2e] at hA2
 have HE2 := Lib.hid hE2; have HA2 := Lib.hid hA2e; have HB2 := Lib.hid hA2; have HR6 := Lib.hid hr6; have HL6 := Lib.hid hl6; have HG6 := Lib.hid hG6
 have HZ6 := Lib.hid hg6.size
 have HP1 := Lib.hid hO1
 have HO2 := Lib.hid (RowQ.of_own ho2)
 clear hE2 hA2 hA2e hr6 hl6 hG6 ho2 hg6 hO1 HO1 HR5 HL5 HG5
 refine wpList_value rfl (v1) (by go_simp <;> rfl) ?_
 simp only [Act.put, jb, jz, js]
 refine wpList_value rfl (v2) (by go_simp <;> rfl) ?_
 simp only [Act.put, jb, jz, js]
 refine wpList_nil ?_
 have hw : IntKind.i64.wrap (64 * (n : Int)) = 64 * (n : Int) := by
  have := wrap_natC (k := 64 * n) (by have := HN.out; omega)
  simpa using this
 go_upto_region 6 with (fail)
 refine wp_region_list ?_
 refine zm 11 (.pointer (some ⟨r, 0, none⟩)) rfl ?_
 simp only [Act.put, jb, jz, js]
 refine zm 2 (.int .i64 (n : Int)) rfl ?_
 simp only [Act.put, jb, jz, js]
 refine wpList_value rfl (.int .i64 (64 * (n : Int))) (by go_simp <;> rfl) ?_
 simp only [Act.put, jb, jz, js]
 have htk := takeC_any s A2 (64 * n) E2 r w6 HR6.out HS.out HB2.out (by have := HN.out; omega)
 rw [show ((64 * n : Nat) : Int) = 64 * (n : Int) by omega] at htk
 clear hw
 refine wpList_enter rfl 49 #[.pointer (some ⟨r, 0, none⟩), .int .i64 (64 * (n : Int))] (exec_call2 _ (.tmp 64) (.tmp 66) _ rfl _ _ rfl rfl (enters_of Tryz.func49 (by kernel_rfl) rfl _ _)) (htk.mono ?_)
 clear htk
 rintro e w7 ⟨rfl, hr7, hg7⟩
 obtain ⟨sgs, hsgs⟩ : ∃ x, tkS s A2 (64 * n) E2 = x := ⟨_, rfl⟩
 obtain ⟨E3, hE3⟩ : ∃ x, tkE s A2 (64 * n) E2 = x := ⟨_, rfl⟩
 have hA3 : tkA s A2 (64 * n) E2 ≤ s.size := tkA_le HB2.out
 obtain ⟨A3, hA3e⟩ : ∃ x, tkA s A2 (64 * n) E2 = x := ⟨_, rfl⟩
 have hl7 := HL6.out.grown hg7 (fun e => by have := Option.some.inj e; omega)
 have hG7 := grown_self HG6.out hg7 (fun k hk => .inr (by have := Option.some.inj hk; have := HR0.out; omega))
 have hO1 := HP1.out.keep (w' := w7) (fun p u h1 _ hu => hg7.cell hu (fun e => by have := Option.some.inj e; have := HZ.out; omega))
 have hO2 := HO2.out.keep (w' := w7) (fun p u h1 _ hu => hg7.cell hu (fun e => by have := Option.some.inj e; have := HZ.out; have := HZ5.out; omega))
 have hsz9 : sgs.size ≤ 1000000000000 := by rw [← hsgs]; have := tkS_size s A2 (64 * n) E2; have := HN.out; omega
 have HSGZ := Lib.hid hsz9
 clear hsz9
 rw [hsgs, hE3]
 rw [hE3, hA3e] at hr7
 rw [hA3e] at hA3
 have HSG := Lib.hid hsgs; have HE3 := Lib.hid hE3; have HA3 := Lib.hid hA3e; have HB3 := Lib.hid hA3; have HR7 := Lib.hid hr7; have HL7 := Lib.hid hl7; have HG7 := Lib.hid hG7
 have HZ7 := Lib.hid hg7.size
 have HQ1 := Lib.hid hO1; have HQ2 := Lib.hid hO2
 clear hsgs hE3 hA3e hA3 hr7 hl7 hG7 hg7 hO1 hO2 HP1 HO2 HR6 HL6 HG6
 refine ⟨_, rfl, ?_⟩
 simp only [Act.put, jb, jz, js]
 refine zm 67 (.tuple #[.string sgs, .bool (decide (E3 = 0))]) rfl ?_
 simp only [Act.put, jb, jz, js]
 refine wpList_value rfl (.string sgs) (by go_simp <;> rfl) ?_
 simp only [Act.put, jb, jz, js]
 refine wpList_value rfl (.bool (decide (E3 = 0))) (by go_simp <;> rfl) ?_
 simp only [Act.put, jb, jz, js]
 refine wpList_value rfl (.string sgs) (by go_simp <;> rfl) ?_
 simp only [Act.put, jb, jz, js]
 refine wpList_value rfl (.bool (decide (E3 = 0))) (by go_simp <;> rfl) ?_
 simp only [Act.put, jb, jz, js]
 refine wpList_nil ?_
 have hga := only_alloc (World.grownBy.refl w7 none) (.cells (rdC sgs 0 0) 67)
 have hb8 := Blk.new w7 67 (rdC sgs 0 0)
 have HGA := Lib.hid hga; have HB8 := Lib.hid hb8
 clear hga hb8
 go_upto_region 9 with (fail)
 change Code.wp _ _ _ _ (w7.alloc (.cells (rdC sgs 0 0) 67))
 generalize w7.alloc (.cells (rdC sgs 0 0) 67) = w8 at *
 have hsz8 : w7.heap.size ≤ w8.heap.size := HGA.out.size
 have hl8 := HL7.out.grown HGA.out (by simp)
 have hr8 := HR7.out.grown HGA.out (by simp)
 have hG8 := grown_self HG7.out HGA.out (by simp)
 have hO1 := HQ1.out.keep (w' := w8) (fun p u _ _ hu => HGA.out.cell hu (by simp))
 have hO2 := HQ2.out.keep (w' := w8) (fun p u _ _ hu => HGA.out.cell hu (by simp))
 obtain ⟨nl, hnl⟩ : ∃ x, btL s a n 0 = x := ⟨_, rfl⟩
 have hln : nl.length = n := by rw [← hnl]; exact btL_len s a n 0
 rw [hnl] at hO1
 obtain ⟨AN, cN, hv1, hrn⟩ := hO1.reads
 rw [List.length_map, hln] at hv1 hrn
 subst hv1
 have hcnt := countB_any _ AN n cN nl w8 hrn (by have := HN.out; omega)
 have hcle : cntB nl ≤ n := by rw [← hln]; exact cntB_le nl
 obtain ⟨m, hm⟩ : ∃ m, n - cntB nl = m := ⟨_, rfl⟩
 have hm2 : (n : Int) - (cntB nl : Int) = (m : Int) := by omega
 have hmn : m ≤ n := by omega
 have hw1 : IntKind.i64.wrap (m : Int) = (m : Int) := wrap_natC (by have := HN.out; omega)
 have hw2 : IntKind.i64.wrap (20 * (m : Int)) = 20 * (m : Int) := by
  have := wrap_natC (k := 20 * m) (by have := HN.out; omega)
  simpa using this
 have HLN := Lib.hid hln; have HNL := Lib.hid hnl; have HM := Lib.hid hm; have HMN := Lib.hid hmn; have HL8 := Lib.hid hl8; have HR8 := Lib.hid hr8; have HG8 := Lib.hid hG8; have HZ8 := Lib.hid hsz8; have HT1 := Lib.hid hO1; have HT2 := Lib.hid hO2; have HM2 := Lib.hid hm2; have HW1 := Lib.hid hw1; have HW2 := Lib.hid hw2
 clear hln hnl hm hmn hl8 hr8 hG8 hsz8 hO1 hO2 hcle hrn HQ1 HQ2 HL7 HR7 HG7 hm2 hw1 hw2
 refine wp_region_list ?_
 refine zm 18 (.func (.func 49) #[.pointer (some ⟨r, 0, none⟩)] #[]) rfl ?_
 simp only [Act.put, jb, jz, js]
 refine zm 2 (.int .i64 (n : Int)) rfl ?_
 simp only [Act.put, jb, jz, js]
 refine zm 13 (.slice AN n cN) rfl ?_
 simp only [Act.put, jb, jz, js]
 refine wpList_enter rfl 50 #[.slice AN n cN] (exec_call1 _ (.tmp 78) _ rfl _ rfl (enters_of Tryz.func50 (by kernel_rfl) rfl _ _)) (hcnt.mono ?_)
 clear hcnt
 rintro e w9 ⟨rfl, rfl⟩
 refine ⟨_, rfl, ?_⟩
 simp only [Act.put, jb, jz, js]
 have hm2 := HM2.out; have hw1 := HW1.out; have hw2 := HW2.out
 refine wpList_value rfl (.int .i64 (m : Int)) (by go_simp <;> first | rfl | (rw [hm2, hw1]) | (simp [hm2, hw1])) ?_
 simp only [Act.put, jb, jz, js]
 refine wpList_value rfl (.int .i64 (20 * (m : Int))) (by go_simp <;> rfl) ?_
 simp only [Act.put, jb, jz, js]
 clear hm2 hw1 hw2
 have htk := takeC_any s A3 (20 * m) E3 r w8 HR8.out HS.out HB3.out (by have := HN.out; have := HMN.out; omega)
 rw [show ((20 * m : Nat) : Int) = 20 * (m : Int) by omega] at htk
 refine wpList_enter rfl 49 #[.pointer (some ⟨r, 0, none⟩), .int .i64 (20 * (m : Int))] (exec_callb1 _ (.tmp 76) (.tmp 81) _ _ rfl rfl _ rfl (enters_of Tryz.func49 (by kernel_rfl) rfl _ _)) (htk.mono ?_)
 clear htk
 rintro e w10 ⟨rfl, hr10, hg10⟩
 obtain ⟨tos, htos⟩ : ∃ x, tkS s A3 (20 * m) E3 = x := ⟨_, rfl⟩
 obtain ⟨E4, hE4⟩ : ∃ x, tkE s A3 (20 * m) E3 = x := ⟨_, rfl⟩
 have hA4 : tkA s A3 (20 * m) E3 ≤ s.size := tkA_le HB3.out
 obtain ⟨A4, hA4e⟩ : ∃ x, tkA s A3 (20 * m) E3 = x := ⟨_, rfl⟩
 have hl10 := HL8.out.grown hg10 (fun e => by have := Option.some.inj e; omega)
 have hs10 := HB8.out.grown hg10 (fun e => by have := Option.some.inj e; have := HZ.out; have := HZ5.out; have := HZ6.out; have := HZ7.out; omega)
 have hG10 := grown_self HG8.out hg10 (fun k hk => .inr (by have := Option.some.inj hk; have := HR0.out; omega))
 have hO1 := HT1.out.keep (w' := w10) (fun p u h1 _ hu => hg10.cell hu (fun e => by have := Option.some.inj e; have := HZ.out; omega))
 have hO2 := HT2.out.keep (w' := w10) (fun p u h1 _ hu => hg10.cell hu (fun e => by have := Option.some.inj e; have := HZ.out; have := HZ5.out; omega))
 rw [htos, hE4]
 rw [hE4, hA4e] at hr10
 rw [hA4e] at hA4
 have HTO := Lib.hid htos; have HE4 := Lib.hid hE4; have HA4 := Lib.hid hA4e; have HB4 := Lib.hid hA4; have HR10 := Lib.hid hr10; have HL10 := Lib.hid hl10; have HS10 := Lib.hid hs10; have HG10 := Lib.hid hG10
 have HZ10 := Lib.hid hg10.size
 have HSZ64 : Hid (E4 = 0 → sgs.size = 64 * n) := Lib.hid (fun h4 => by rw [← hE4] at h4; rw [← HSG.out]; exact tkS_full (HE3.out.trans (tkE_0 h4).1))
 have HU1 := Lib.hid hO1; have HU2 := Lib.hid hO2
 clear htos hE4 hA4e hA4 hr10 hl10 hs10 hG10 hg10 hO1 hO2 HT1 HT2 HR8 HL8 HG8 HB8
 refine ⟨_, rfl, ?_⟩
 simp only [Act.put, jb, jz, js]
 refine zm 82 (.tuple #[.string tos, .bool (decide (E4 = 0))]) rfl ?_
 simp only [Act.put, jb, jz, js]
 refine wpList_value rfl (.string tos) (by go_simp <;> rfl) ?_
 simp only [Act.put, jb, jz, js]
 refine wpList_value rfl (.bool (decide (E4 = 0))) (by go_simp <;> rfl) ?_
 simp only [Act.put, jb, jz, js]
 refine wpList_value rfl (.string tos) (by go_simp <;> rfl) ?_
 simp only [Act.put, jb, jz, js]
 refine wpList_value rfl (.bool (decide (E4 = 0))) (by go_simp <;> rfl) ?_
 simp only [Act.put, jb, jz, js]
 refine wpList_nil ?_
 obtain ⟨yl, hyl⟩ : ∃ x, btL s A1 n E1 = x := ⟨_, rfl⟩
 have hly : yl.length = n := by rw [← hyl]; exact btL_len s A1 n E1
 obtain ⟨AY, cY, hv2, _⟩ := HU2.out
 rw [hyl] at HU2
 rw [hyl, List.length_map, hly] at hv2
 subst hv2
 have HYL := Lib.hid hyl; have HLY := Lib.hid hly
 clear hyl hly
 obtain ⟨l, hl⟩ : ∃ x, r + 1 = x := ⟨_, rfl⟩
 obtain ⟨sg, hsg⟩ : ∃ x, w7.heap.size = x := ⟨_, rfl⟩
 rw [hl] at HL10
 rw [hsg] at HS10
 simp only [hl, hsg]
 obtain ⟨R0, hR0⟩ : ∃ x, (if E4 ≠ 0 then (.error E4 : Except Int (List TxV × Nat)) else getGo s sgs nl yl n 0 A4 tos) = x := ⟨_, rfl⟩
 have HRR := Lib.hid hR0
 have hst : GetS w10 s sgs r sg l n 0 A4 0 E4 0 (blankC n) blankL [] [] w10 := by
  have h1 := HR10.out.lt; have h2 := HL10.out.lt; have h3 := HS10.out.lt
  have z1 := HZ.out; have z2 := HZ5.out; have z3 := HZ6.out; have z4 := HZ7.out
  exact ⟨HR10.out, HS10.out, HL10.out, Gr3.refl _ _ _ _, h1, h3, h2, by omega, by omega, by omega, HB4.out, Nat.zero_le _, blankC_size n, Nat.zero_le _, rfl, fun _ => rfl, fun i hi => by omega, fun _ i hi => by omega, rfl, fun hi => blankC_win n 0 hi, fun i _ hi => blankC_win n i hi⟩
 have HST := Lib.hid hst
 have HL0 := Lib.hid hl; have HSG0 := Lib.hid hsg
 clear hst hl hsg hR0 HR10 HL10 HS10
 go_wp2_with fail
 go_loopw [87, 19, 21] (fun i v19 v21 wr => ∃ (k : Nat) (tk : ByteArray) (lg : Nat) (ak sa : Nat) (Ek SE : Int) (C : Array Value) (ks : List Nat) (ts : List TxV), i = .int .i64 k ∧ v19 = .string tk ∧ v21 = .int .i64 (lg : Int) ∧ k ≤ n ∧ GetS w10 s sgs r sg l n k ak sa Ek SE C blankL ks ts wr ∧ lg = ks.count 0 ∧ Hid (InvG s sgs nl yl n k ak sa Ek SE E4 ts tk R0)) (fun i _ _ _ => n - (intOf i).toNat)
 case atStart =>
  refine ⟨0, tos, 0, A4, 0, E4, 0, blankC n, [], [], rfl, rfl, rfl, Nat.zero_le _, HST.out, rfl, Lib.hid ?_⟩
  rw [← HRR.out]
  by_cases h4 : E4 = 0
  ·exact .inl ⟨h4, rfl, rfl, h4, by rw [if_neg (by simpa using h4), glueT_nil]; rfl⟩
  ·exact .inr ⟨h4, by rw [if_pos h4]⟩
 case round =>
  obtain ⟨k, tk, lg, ak, sa, Ek, SE, C, ks, ts, rfl, rfl, rfl, hk, hG, hlg, hinv⟩ := hrel
  by_cases hlt : k < n
  ·have q1 : (k : Int) < n := by omega
   have HGS := Lib.hid hG; have HIN := Lib.hid hinv.out; have HLG := Lib.hid hlg
   clear hG hinv hlg hk
   go_upto_region 14 with (fail)
   refine wp_region_list ?_
   refine zm 12 (.slice (some ⟨l, 0, none⟩) n n) rfl ?_
   simp only [Act.put, jb, jz, js]
   refine zm 22 (.int .i64 (k : Int)) rfl ?_
   simp only [Act.put, jb, jz, js]
   refine zm 12 (.slice (some ⟨l, 0, none⟩) n n) rfl ?_
   simp only [Act.put, jb, jz, js]
   refine zm 22 (.int .i64 (k : Int)) rfl ?_
   simp only [Act.put, jb, jz, js]
   refine zm 17 (.pointer (some ⟨sg, 0, none⟩)) rfl ?_
   simp only [Act.put, jb, jz, js]
   have hG0 := HGS.out
   have hwd := wordC_any sgs sa SE sg wr hG0.sd (by have := HSGZ.out; omega) hG0.hsa
   refine wpList_enter rfl 51 #[.pointer (some ⟨sg, 0, none⟩)] (exec_call1 _ (.tmp 94) _ rfl _ rfl (enters_of Tryz.func51 (by kernel_rfl) rfl _ _)) (hwd.mono ?_)
   clear hwd
   rintro e u1 ⟨rfl, hb, hg⟩
   have hG1 := hG0.sign hg hb (tkA_le hG0.hsa)
   clear hb hg
   refine ⟨_, rfl, ?_⟩
   simp only [Act.put, jb, jz, js]
   refine zm 17 (.pointer (some ⟨sg, 0, none⟩)) rfl ?_
   simp only [Act.put, jb, jz, js]
   have hwd := wordC_any sgs _ _ sg u1 hG1.sd (by have := HSGZ.out; omega) hG1.hsa
   refine wpList_enter rfl 51 #[.pointer (some ⟨sg, 0, none⟩)] (exec_call1 _ (.tmp 96) _ rfl _ rfl (enters_of Tryz.func51 (by kernel_rfl) rfl _ _)) (hwd.mono ?_)
   clear hwd
   rintro e u2 ⟨rfl, hb, hg⟩
   have hG2 := hG1.sign hg hb (tkA_le hG1.hsa)
   clear hb hg
   refine ⟨_, rfl, ?_⟩
   simp only [Act.put, jb, jz, js]
   refine wpList_value rfl (.pointer (some ⟨l, 36 * k, none⟩)) (by go_simp <;> rfl) ?_
   simp only [Act.put, jb, jz, js]
   refine wpList_value rfl (.pointer (some ⟨l, 36 * k + 21, none⟩)) (by go_simp <;> rfl) ?_
   simp only [Act.put, jb, jz, js]
   have hrow := hG2.row
   have hsz := hG2.size
   have hG3 := hG2.put 21 (wordC (wdN sgs sa SE)).toList (by simp [wordC]) hlt
   refine wpList_skip rfl rfl (w' := u2.setRow l (putA (36 * k + 21) (wordC (wdN sgs sa SE)).toList _)) (by rw [← setCells_row hrow (36 * k + 21) (wordC (wdN sgs sa SE)).toList]; exact exec_store_val 38 (.tmp 99) (.tmp 95) rfl l (36 * k + 21) rfl _ rfl (wordC (wdN sgs sa SE)) rfl (there_blk hrow (by rw [hsz]; simp [wordC]; omega)) (by kernel_rfl) (by simp [wordC, Value.oneCell'])) ?_
   generalize u2.setRow l (putA (36 * k + 21) (wordC (wdN sgs sa SE)).toList _) = u3 at *
   clear hrow hsz
   refine wpList_value rfl (.pointer (some ⟨l, 36 * k, none⟩)) (by go_simp <;> rfl) ?_
   simp only [Act.put, jb, jz, js]
   refine wpList_value rfl (.pointer (some ⟨l, 36 * k + 25, none⟩)) (by go_simp <;> rfl) ?_
   simp only [Act.put, jb, jz, js]
   have hrow := hG3.row
   have hsz := hG3.size
   have hG4 := hG3.put 25 (wordC (wdN sgs (tkA sgs sa 32 SE) (tkE sgs sa 32 SE))).toList (by simp [wordC]) hlt
   refine wpList_skip rfl rfl (w' := u3.setRow l (putA (36 * k + 25) (wordC (wdN sgs (tkA sgs sa 32 SE) (tkE sgs sa 32 SE))).toList _)) (by rw [← setCells_row hrow (36 * k + 25) (wordC (wdN sgs (tkA sgs sa 32 SE) (tkE sgs sa 32 SE))).toList]; exact exec_store_val 38 (.tmp 101) (.tmp 97) rfl l (36 * k + 25) rfl _ rfl (wordC (wdN sgs (tkA sgs sa 32 SE) (tkE sgs sa 32 SE))) rfl (there_blk hrow (by rw [hsz]; simp [wordC]; omega)) (by kernel_rfl) (by simp [wordC, Value.oneCell'])) ?_
   generalize u3.setRow l (putA (36 * k + 25) (wordC (wdN sgs (tkA sgs sa 32 SE) (tkE sgs sa 32 SE))).toList _) = u4 at *
   clear hrow hsz
   refine wpList_nil ?_
   have HG4 := Lib.hid hG4
   clear hG0 hG1 hG2 hG3 hG4
   obtain ⟨gy, oy, rfl, hy1, hy2, hy3⟩ := HU2.out.at_ hlt
   rw [List.getElem?_map, List.getElem?_eq_getElem (by rw [HLY.out]; exact hlt)] at hy3
   obtain ⟨yb, hyb⟩ : ∃ b, yl[k]'(by rw [HLY.out]; exact hlt) = b := ⟨_, rfl⟩
   rw [hyb] at hy3
   have hyc : u4.cell? ⟨gy, oy + k, none⟩ = some (.bool yb) := by
    have := HG4.out.gr.cell (p := ⟨gy, oy + k, none⟩) hy3 (by have := HZ.out; have := HZ5.out; show gy ≠ r; omega) (by have := HZ6.out; have := HZ7.out; have := HZ8.out; have := HSG0.out; show gy ≠ sg; omega) (by have := HZ.out; have := HZ5.out; have := HL0.out; show gy ≠ l; omega)
    exact this
   have HYB : Hid (yl.getD k false = yb) := Lib.hid (by rw [List.getD_eq_getElem?_getD, List.getElem?_eq_getElem (by rw [HLY.out]; exact hlt), Option.getD_some, hyb])
   clear hyb hy1 hy2 hy3
   go_upto_if 105 with (fail)
   clear hyc
   go_cut [] (fun wx => ∃ C1 : Array Value, GetS w10 s sgs r sg l n k ak (tkA sgs (tkA sgs sa 32 SE) 32 (tkE sgs sa 32 SE)) Ek (tkE sgs (tkA sgs sa 32 SE) 32 (tkE sgs sa 32 SE)) C1 (txL (blankT (if yl.getD k false then 1 else 0) (wdN sgs sa SE) (wdN sgs (tkA sgs sa 32 SE) (tkE sgs sa 32 SE)) ⟨#[]⟩) (.slice none 0 0) (.slice none 0 0)) ks ts wx)
   case first =>
    have hG4 := HG4.out
    have hG5 := hG4.eqc (cur2 _ _)
    have HG5 := Lib.hid hG5
    clear hG4 hG5 HG4
    cases yb
    ·go_wp2_with fail
     go_meet
     case rel => exact ⟨_, HG5.out.eqc (by rw [HYB.out]; rfl)⟩
    ·go_upto_region 16 with (fail)
     refine wp_region_list ?_
     refine zm 12 (.slice (some ⟨l, 0, none⟩) n n) rfl ?_
     simp only [Act.put, jb, jz, js]
     refine zm 22 (.int .i64 (k : Int)) rfl ?_
     simp only [Act.put, jb, jz, js]
     refine wpList_value rfl (.pointer (some ⟨l, 36 * k, none⟩)) (by go_simp <;> rfl) ?_
     simp only [Act.put, jb, jz, js]
     refine wpList_value rfl (.pointer (some ⟨l, 36 * k + 20, none⟩)) (by go_simp <;> rfl) ?_
     simp only [Act.put, jb, jz, js]
     have hG5 := HG5.out
     have hrow := hG5.row
     have hsz := hG5.size
     have hG6 := hG5.put 20 [.int .u64 1] (by simp) hlt
     refine wpList_skip rfl rfl (w' := u4.setRow l (putA (36 * k + 20) [.int .u64 1] _)) (by rw [← setCells_row hrow (36 * k + 20) [.int .u64 1]]; exact exec_store_val 23 (.tmp 109) (.const (.int .u64 1)) rfl l (36 * k + 20) rfl _ rfl #[.int .u64 1] rfl (there_blk hrow (by rw [hsz]; simp; omega)) (by kernel_rfl) (by simp [Value.oneCell'])) ?_
     generalize u4.setRow l (putA (36 * k + 20) [.int .u64 1] _) = u5 at *
     clear hrow hsz
     refine wpList_nil ?_
     have HG6 := Lib.hid (hG6.eqc (cur3 _ _ _))
     clear hG5 hG6
     go_wp2_with fail
     go_meet
     case rel => exact ⟨_, HG6.out.eqc (by rw [HYB.out]; rfl)⟩
   case rest =>
    obtain ⟨C1, hG5⟩ := hcut
    clear HG4 HYB
    obtain ⟨R, hR⟩ : ∃ x, wdN sgs sa SE = x := ⟨_, rfl⟩
    obtain ⟨S2, hS2⟩ : ∃ x, wdN sgs (tkA sgs sa 32 SE) (tkE sgs sa 32 SE) = x := ⟨_, rfl⟩
    obtain ⟨sa2, hsa2⟩ : ∃ x, tkA sgs (tkA sgs sa 32 SE) 32 (tkE sgs sa 32 SE) = x := ⟨_, rfl⟩
    obtain ⟨SE2, hSE2⟩ : ∃ x, tkE sgs (tkA sgs sa 32 SE) 32 (tkE sgs sa 32 SE) = x := ⟨_, rfl⟩
    obtain ⟨yv, hyv⟩ : ∃ x, (if yl.getD k false then 1 else 0) = x := ⟨_, rfl⟩
    rw [hR, hS2, hsa2, hSE2, hyv] at hG5
    have HR1 := Lib.hid hR; have HS2 := Lib.hid hS2; have HSA2 := Lib.hid hsa2; have HSE2 := Lib.hid hSE2; have HYV := Lib.hid hyv
    clear hR hS2 hsa2 hSE2 hyv
    have HG5 := Lib.hid hG5
    clear hG5
    go_upto_region 17 with (fail)
    generalize wc = u6 at *
    obtain ⟨gn, on_, rfl, hn1, hn2, hn3⟩ := HU1.out.at_ hlt
    rw [List.getElem?_map, List.getElem?_eq_getElem (by rw [HLN.out]; exact hlt)] at hn3
    obtain ⟨nb, hnb⟩ : ∃ b, nl[k]'(by rw [HLN.out]; exact hlt) = b := ⟨_, rfl⟩
    rw [hnb] at hn3
    have hnc : u6.cell? ⟨gn, on_ + k, none⟩ = some (.bool nb) := by
     have := HG5.out.gr.cell (p := ⟨gn, on_ + k, none⟩) hn3 (by have := HZ.out; show gn ≠ r; omega) (by have := HZ6.out; have := HZ7.out; have := HZ8.out; have := HSG0.out; show gn ≠ sg; omega) (by have := HZ.out; have := HL0.out; show gn ≠ l; omega)
     exact this
    have HNB : Hid (nl.getD k false = nb) := Lib.hid (by rw [List.getD_eq_getElem?_getD, List.getElem?_eq_getElem (by rw [HLN.out]; exact hlt), Option.getD_some, hnb])
    clear hnb hn1 hn2 hn3
    go_cut [119] (fun v wx => v = .bool (decide (nl.getD k false = false ∧ 20 ≤ tk.size)) ∧ wx = u6)
    case first =>
     cases nb
     ·by_cases h20 : 20 ≤ tk.size
      ·have q2 : decide ((20 : Int) ≤ (tk.size : Int)) = true := decide_eq_true (by omega)
       go_wp2_with fail
       go_meet
       case rel => exact ⟨congrArg Value.bool (decide_eq_true ⟨HNB.out, h20⟩).symm, rfl⟩
      ·have q2 : decide ((20 : Int) ≤ (tk.size : Int)) = false := decide_eq_false (by omega)
       go_wp2_with fail
       go_meet
       case rel => exact ⟨congrArg Value.bool (decide_eq_false (fun h => h20 h.2)).symm, rfl⟩
     ·go_wp2_with fail
      go_meet
      case rel => exact ⟨congrArg Value.bool (decide_eq_false (fun h => by have := HNB.out; rw [this] at h; exact absurd h.1 (by simp))).symm, rfl⟩
    case rest =>
     obtain ⟨rfl, rfl⟩ := hcut
     clear hnc
     obtain ⟨cb, hcb⟩ : ∃ b, decide (nl.getD k false = false ∧ 20 ≤ tk.size) = b := ⟨_, rfl⟩
     rw [hcb]
     have HCB := Lib.hid hcb
     clear hcb HNB
     go_upto_if 119 with (fail)
     go_cut [19] (fun v19 wx => ∃ C1 : Array Value, v19 = .string (if nl.getD k false = false ∧ 20 ≤ tk.size then tk.extract 20 tk.size else tk) ∧ GetS w10 s sgs r sg l n k ak sa2 Ek SE2 C1 (txL (blankT yv R S2 (if nl.getD k false = false ∧ 20 ≤ tk.size then tk.extract 0 20 else ⟨#[]⟩)) (.slice none 0 0) (.slice none 0 0)) ks ts wx)
     case first =>
      cases cb
      ·go_wp2_with fail
       go_meet
       have hc := of_decide_eq_false HCB.out
       case rel => exact ⟨C1, by rw [if_neg hc], by rw [if_neg hc]; exact HG5.out⟩
      ·have hc := of_decide_eq_true HCB.out
       have HC := Lib.hid hc
       have htz := hc.2
       clear hc HCB
       go_upto_region 18 with (fail)
       refine wp_region_held (S := fun _ => True) (by kernel_rfl) ?_
       change wpAnyH _ _ _ _ _ _ _ _ wc.drew
       have hG5 := HG5.out.kept (only_drew (World.grownBy.refl wc none))
       generalize wc.drew = u7 at *
       clear HG5
       refine zt 0 (.slice (some ⟨l, 0, none⟩) n n) (some 120) rfl (fun W hW => by go_simp) trivial ?_
       simp only [Act.put, jb, jz, js]
       refine zt 1 (.int .i64 (k : Int)) (some 121) rfl (fun W hW => by go_simp) trivial ?_
       simp only [Act.put, jb, jz, js]
       refine zt 2 (.string tk) (some 122) rfl (fun W hW => by go_simp) trivial ?_
       simp only [Act.put, jb, jz, js]
       refine zt 3 (.string (tk.extract 0 20)) (some 123) rfl (fun W hW => by go_simp <;> first | rfl | (intro h; omega)) trivial ?_
       simp only [Act.put, jb, jz, js]
       refine zt 4 (.string tk) (some 124) rfl (fun W hW => by go_simp) trivial ?_
       simp only [Act.put, jb, jz, js]
       refine zt 5 (.string (tk.extract 20 tk.size)) (some 125) rfl (fun W hW => by go_simp <;> first | rfl | (intro h; omega)) trivial ?_
       simp only [Act.put, jb, jz, js]
       refine zt 6 (.pointer (some ⟨l, 36 * k, none⟩)) (some 126) rfl (fun W hW => by go_simp <;> rfl) trivial ?_
       simp only [Act.put, jb, jz, js]
       refine zt 7 (.pointer (some ⟨l, 36 * k + 12, none⟩)) (some 127) rfl (fun W hW => by go_simp <;> rfl) trivial ?_
       simp only [Act.put, jb, jz, js]
       have hrow := hG5.row
       have hsz := hG5.size
       have hG6 := hG5.put 12 [.string (tk.extract 0 20)] (by simp) hlt
       refine held_one (i := 8) (by kernel_rfl) ?_
       refine held_skip rfl rfl rfl (w' := u7.setRow l (putA (36 * k + 12) [.string (tk.extract 0 20)] C1)) (by rw [← setCells_row hrow (36 * k + 12) [.string (tk.extract 0 20)]]; exact exec_store_val 9 (.tmp 127) (.tmp 123) rfl l (36 * k + 12) rfl _ rfl #[.string (tk.extract 0 20)] rfl (there_blk hrow (by rw [hsz]; simp; omega)) (by kernel_rfl) (by simp [Value.oneCell'])) trivial ?_
       (try simp only [Act.put, jb, jz, js])
       generalize u7.setRow l (putA (36 * k + 12) [.string (tk.extract 0 20)] C1) = u8 at *
       refine held_one (i := 9) (by kernel_rfl) ?_
       refine held_value (some 19) rfl rfl (.string (tk.extract 20 tk.size)) (by go_simp <;> rfl) rfl trivial ?_
       simp only [Act.put, jb, jz, js]
       refine wpAnyH_done (by kernel_rfl) ?_ _
       have HG6 := Lib.hid (hG6.eqc (cur4 _ _ _ _ _))
       clear hrow hsz hG5 hG6 htz
       go_wp2_with fail
       go_meet
       case rel => exact ⟨_, by rw [if_pos HC.out], by rw [if_pos HC.out]; exact HG6.out⟩
     case rest =>
      obtain ⟨C2, rfl, hG6⟩ := hcut
      clear HG5 HCB
      obtain ⟨tk2, htk2⟩ : ∃ x, (if nl.getD k false = false ∧ 20 ≤ tk.size then tk.extract 20 tk.size else tk) = x := ⟨_, rfl⟩
      obtain ⟨dv, hdv⟩ : ∃ x, (if nl.getD k false = false ∧ 20 ≤ tk.size then tk.extract 0 20 else ⟨#[]⟩) = x := ⟨_, rfl⟩
      rw [hdv] at hG6
      rw [htk2]
      have HG6 := Lib.hid hG6
      have HTK2 := Lib.hid htk2; have HDV := Lib.hid hdv
      clear hG6 htk2 hdv
      go_upto_region 19 with (fail)
      refine wp_region_list ?_
      refine zm 11 (.pointer (some ⟨r, 0, none⟩)) rfl ?_
      simp only [Act.put, jb, jz, js]
      refine zm 12 (.slice (some ⟨l, 0, none⟩) n n) rfl ?_
      simp only [Act.put, jb, jz, js]
      refine zm 22 (.int .i64 (k : Int)) rfl ?_
      simp only [Act.put, jb, jz, js]
      refine wpList_value rfl (.pointer (some ⟨l, 36 * k, none⟩)) (by go_simp <;> rfl) ?_
      simp only [Act.put, jb, jz, js]
      have hre := restC_any s ak Ek r l (36 * k) C2 wc HG6.out.rd HG6.out.row (by rw [HG6.out.size]; omega) HG6.out.rw HS.out HG6.out.ha (fun y T h => itR_zb h (by rw [ba_len]; exact HS.out))
      refine wpList_enter rfl 52 #[.pointer (some ⟨r, 0, none⟩), .pointer (some ⟨l, 36 * k, none⟩)] (exec_call2 _ (.tmp 128) (.tmp 131) _ rfl _ _ rfl rfl (enters_of Tryz.func52 (by kernel_rfl) rfl _ _)) (hre.mono ?_)
      clear hre
      rintro e u7 he
      obtain ⟨rfl, a', E', C3, ts2, hG7, hkd, hE⟩ := HG6.out.next hlt he
      have hinv := InvG.step HIN.out hlt HSZ64.out HR1.out HS2.out HSA2.out HSE2.out HYV.out HTK2.out HDV.out hE
      obtain ⟨kv, hkv⟩ : ∃ x, kdV s ak Ek = x := ⟨_, rfl⟩
      rw [hkv] at hG7 hkd
      have hlc := List.count_le_length (a := 0) (l := ks)
      have hlg1 : (lg : Int) + 1 ≤ 1000 := by have := HLG.out; have := HG6.out.lk; have := HN.out; omega
      have hkc : u7.cell? ⟨l, 36 * k, none⟩ = some (.int .i64 (kv : Int)) := (hG7.row.cell _).trans hkd
      have HG7 := Lib.hid hG7; have HIN7 := Lib.hid hinv
      clear he hkd hE hinv hG7 hkv hlc HG6 HGS HIN
      refine ⟨_, rfl, ?_⟩
      simp only [Act.put, jb, jz, js]
      refine wpList_nil ?_
      have hw1 : IntKind.i64.wrap ((lg : Int) + 1) = ((lg + 1 : Nat) : Int) := wrap_natC (k := lg + 1) (by omega)
      have hwk : IntKind.i64.wrap ((k : Int) + 1) = ((k + 1 : Nat) : Int) := wrap_natC (k := k + 1) (by have := HN.out; omega)
      go_upto_region 20 with (fail)
      by_cases hk0 : kv = 0
      ·have q0 : ((kv : Int) == 0) = true := by simp [hk0]
       have hl2 : lg + 1 = (ks ++ [kv]).count 0 := by rw [count_snoc, if_pos hk0, HLG.out]
       have HL2 := Lib.hid hl2
       clear hl2 hk0
       refine wp_region_list ?_
       refine zm 12 (.slice (some ⟨l, 0, none⟩) n n) rfl ?_
       simp only [Act.put, jb, jz, js]
       refine zm 22 (.int .i64 (k : Int)) rfl ?_
       simp only [Act.put, jb, jz, js]
       refine wpList_value rfl (.pointer (some ⟨l, 36 * k, none⟩)) (by go_simp <;> rfl) ?_
       simp only [Act.put, jb, jz, js]
       refine wpList_value rfl (.pointer (some ⟨l, 36 * k, none⟩)) (by go_simp <;> rfl) ?_
       simp only [Act.put, jb, jz, js]
       refine wpList_value rfl (.int .i64 (kv : Int)) (exec_loadC 3 (.tmp 136) rfl _ rfl _ _ Tryz.underlying3 rfl hkc) ?_
       simp only [Act.put, jb, jz, js]
       refine wpList_value rfl (.bool true) (by go_simp <;> first | rfl | (rw [q0]; rfl) | simp [q0]) ?_
       simp only [Act.put, jb, jz, js]
       refine wpList_nil ?_
       clear hkc
       go_wp2_with fail
       go_roundw
       case rel => exact ⟨k + 1, tk2, lg + 1, a', sa2, E', SE2, C3, ks ++ [kv], ts2, by go_num, rfl, by go_num, by omega, HG7.out, HL2.out, HIN7⟩
       case measure => simp [intOf]; omega
      ·have q0 : ((kv : Int) == 0) = false := by simpa using hk0
       have hl2 : lg = (ks ++ [kv]).count 0 := by rw [count_snoc, if_neg hk0, HLG.out]; rfl
       have HL2 := Lib.hid hl2
       clear hl2 hk0
       refine wp_region_list ?_
       refine zm 12 (.slice (some ⟨l, 0, none⟩) n n) rfl ?_
       simp only [Act.put, jb, jz, js]
       refine zm 22 (.int .i64 (k : Int)) rfl ?_
       simp only [Act.put, jb, jz, js]
       refine wpList_value rfl (.pointer (some ⟨l, 36 * k, none⟩)) (by go_simp <;> rfl) ?_
       simp only [Act.put, jb, jz, js]
       refine wpList_value rfl (.pointer (some ⟨l, 36 * k, none⟩)) (by go_simp <;> rfl) ?_
       simp only [Act.put, jb, jz, js]
       refine wpList_value rfl (.int .i64 (kv : Int)) (exec_loadC 3 (.tmp 136) rfl _ rfl _ _ Tryz.underlying3 rfl hkc) ?_
       simp only [Act.put, jb, jz, js]
       refine wpList_value rfl (.bool false) (by go_simp <;> first | rfl | (rw [q0]; rfl) | simp [q0]) ?_
       simp only [Act.put, jb, jz, js]
       refine wpList_nil ?_
       clear hkc
       go_wp2_with fail
       go_roundw
       case rel => exact ⟨k + 1, tk2, lg, a', sa2, E', SE2, C3, ks ++ [kv], ts2, by go_num, rfl, rfl, by omega, HG7.out, HL2.out, HIN7⟩
       case measure => simp [intOf]; omega
  ·have q1 : ¬ ((k : Int) < n) := by omega
   have hkn : k = n := by omega
   have HKN := Lib.hid hkn
   have HGS := Lib.hid hG; have HIN := hinv; have HLG := Lib.hid hlg
   have HLEG : Hid (Ek = 0 → lg = legN ts) := Lib.hid (fun h0 => by rw [legN_count (by rw [hG.lt h0, hG.lk]) (fun i hi => by obtain ⟨_, _, _, h⟩ := hG.good h0 i (by have := hG.lk; omega); exact h)]; exact HLG.out)
   have HRW := Lib.hid (Nat.lt_of_lt_of_le hG.rl hG.gr.size); have HLW := Lib.hid (Nat.lt_of_lt_of_le hG.ll hG.gr.size); have HSW := Lib.hid (Nat.lt_of_lt_of_le hG.gl hG.gr.size)
   clear hG hinv hlg hk hlt hkn
   go_upto_region 23 with (fail)
   refine wp_region_list ?_
   refine zm 11 (.pointer (some ⟨r, 0, none⟩)) rfl ?_
   simp only [Act.put, jb, jz, js]
   refine zm 2 (.int .i64 (n : Int)) rfl ?_
   simp only [Act.put, jb, jz, js]
   have hnu := numbersC_any s ak n Ek r wr HGS.out.rd HS.out HGS.out.ha (by have := HN.out; omega)
   obtain ⟨hnl, hnx, hne⟩ := nuN_facts s ak n Ek HGS.out.ha (by have := HN.out; omega)
   rw [hne] at hnu
   have hae := nuA_le (n := n) (E := Ek) HGS.out.ha
   have h0e := fun h => nuE_0 (s := s) (a := ak) (n := n) (E := Ek) h
   refine wpList_enter rfl 53 #[.pointer (some ⟨r, 0, none⟩), .int .i64 (n : Int)] (exec_call2 _ (.tmp 142) (.tmp 143) _ rfl _ _ rfl rfl (enters_of Tryz.func53 (by kernel_rfl) rfl _ _)) (hnu.mono ?_)
   clear hnu hne
   obtain ⟨ns, hns⟩ : ∃ x, nuN s ak n Ek = x := ⟨_, rfl⟩
   obtain ⟨A5, hA5⟩ : ∃ x, nuA s ak n Ek = x := ⟨_, rfl⟩
   obtain ⟨E5, hE5⟩ : ∃ x, nuE s ak n Ek = x := ⟨_, rfl⟩
   rw [hns] at hnl hnx
   rw [hns, hA5, hE5]
   rw [hA5] at hae
   rw [hE5] at h0e
   rintro e w11 ⟨v5, rfl, ho, hr, hg⟩
   have HGA5 := Lib.hid (HGS.out.read hg hr hae h0e)
   have RA := Lib.hid (RowC.of_own ho)
   have ZRA := Lib.hid hg.size
   have LRA := Lib.hid hnl; have XRA := Lib.hid hnx; have NRA := Lib.hid hns; have ARA := Lib.hid hA5; have ERA := Lib.hid hE5; have QRA := Lib.hid h0e
   have GRA := Lib.hid hg
   clear ho hr hg hae h0e hnl hnx hns hA5 hE5
   refine ⟨_, rfl, ?_⟩
   simp only [Act.put, jb, jz, js]
   refine zm 11 (.pointer (some ⟨r, 0, none⟩)) rfl ?_
   simp only [Act.put, jb, jz, js]
   refine zm 2 (.int .i64 (n : Int)) rfl ?_
   simp only [Act.put, jb, jz, js]
   have hnu := numbersC_any s A5 n E5 r w11 HGA5.out.rd HS.out HGA5.out.ha (by have := HN.out; omega)
   obtain ⟨hnl, hnx, hne⟩ := nuN_facts s A5 n E5 HGA5.out.ha (by have := HN.out; omega)
   rw [hne] at hnu
   have hae := nuA_le (n := n) (E := E5) HGA5.out.ha
   have h0e := fun h => nuE_0 (s := s) (a := A5) (n := n) (E := E5) h
   refine wpList_enter rfl 53 #[.pointer (some ⟨r, 0, none⟩), .int .i64 (n : Int)] (exec_call2 _ (.tmp 145) (.tmp 146) _ rfl _ _ rfl rfl (enters_of Tryz.func53 (by kernel_rfl) rfl _ _)) (hnu.mono ?_)
   clear hnu hne
   obtain ⟨gs, hgs⟩ : ∃ x, nuN s A5 n E5 = x := ⟨_, rfl⟩
   obtain ⟨A6, hA6⟩ : ∃ x, nuA s A5 n E5 = x := ⟨_, rfl⟩
   obtain ⟨E6, hE6⟩ : ∃ x, nuE s A5 n E5 = x := ⟨_, rfl⟩
   rw [hgs] at hnl hnx
   rw [hgs, hA6, hE6]
   rw [hA6] at hae
   rw [hE6] at h0e
   rintro e w12 ⟨v6, rfl, ho, hr, hg⟩
   have HGA6 := Lib.hid (HGA5.out.read hg hr hae h0e)
   have RB := Lib.hid (RowC.of_own ho)
   have ZRB := Lib.hid hg.size
   have LRB := Lib.hid hnl; have XRB := Lib.hid hnx; have NRB := Lib.hid hgs; have ARB := Lib.hid hA6; have ERB := Lib.hid hE6; have QRB := Lib.hid h0e
   have GRB := Lib.hid hg
   clear ho hr hg hae h0e hnl hnx hgs hA6 hE6
   refine ⟨_, rfl, ?_⟩
   simp only [Act.put, jb, jz, js]
   refine wpList_value rfl (v5) (by go_simp <;> rfl) ?_
   simp only [Act.put, jb, jz, js]
   refine wpList_value rfl (v6) (by go_simp <;> rfl) ?_
   simp only [Act.put, jb, jz, js]
   refine wpList_nil ?_
   have hlg : lg ≤ 512 := by have := HLG.out; have := List.count_le_length (a := 0) (l := ks); have := HGS.out.lk; have := HKN.out; have := HN.out; omega
   have HLE := Lib.hid hlg
   clear hlg HGS
   go_upto_region 24 with (fail)
   refine wp_region_list ?_
   refine zm 11 (.pointer (some ⟨r, 0, none⟩)) rfl ?_
   simp only [Act.put, jb, jz, js]
   refine zm 21 (.int .i64 (lg : Int)) rfl ?_
   simp only [Act.put, jb, jz, js]
   have hbt := bitsC_any s A6 lg E6 r w12 HGA6.out.rd HS.out HGA6.out.ha (by have := HLE.out; omega)
   rw [btL_len] at hbt
   refine wpList_enter rfl 48 #[.pointer (some ⟨r, 0, none⟩), .int .i64 (lg : Int)] (exec_call2 _ (.tmp 148) (.tmp 149) _ rfl _ _ rfl rfl (enters_of Tryz.func48 (by kernel_rfl) rfl _ _)) (hbt.mono ?_)
   clear hbt
   have hae : btA s A6 lg E6 ≤ s.size := by unfold btA; exact tkA_le HGA6.out.ha
   have h0e := fun h => btE_0 (s := s) (a := A6) (n := lg) (E := E6) h
   have hcl := btL_len s A6 lg E6
   obtain ⟨cs, hcs⟩ : ∃ x, btL s A6 lg E6 = x := ⟨_, rfl⟩
   obtain ⟨A7, hA7⟩ : ∃ x, btA s A6 lg E6 = x := ⟨_, rfl⟩
   obtain ⟨E7, hE7⟩ : ∃ x, btE s A6 lg E6 = x := ⟨_, rfl⟩
   rw [hcs, hA7, hE7]
   rw [hA7] at hae
   rw [hE7] at h0e
   rw [hcs] at hcl
   rintro e w13 ⟨v7, rfl, ho, hr, hg⟩
   have HGA7 := Lib.hid (HGA6.out.read hg hr hae h0e)
   have RD := Lib.hid (RowC.of_own ho)
   have ZRD := Lib.hid hg.size; have GRD := Lib.hid hg
   have NRD := Lib.hid hcs; have ARD := Lib.hid hA7; have ERD := Lib.hid hE7; have QRD := Lib.hid h0e; have LRD := Lib.hid hcl
   clear ho hr hg hae h0e hcl hcs hA7 hE7
   refine ⟨_, rfl, ?_⟩
   simp only [Act.put, jb, jz, js]
   refine wpList_value rfl (v7) (by go_simp <;> rfl) ?_
   simp only [Act.put, jb, jz, js]
   refine wpList_nil ?_
   have RA2 := Lib.hid ((RA.out.keep (w' := w12) (fun p u h1 _ hu => GRB.out.cell hu (fun e => by have := Option.some.inj e; have := HRW.out; omega))).keep (w' := w13) (fun p u h1 _ hu => GRD.out.cell hu (fun e => by have := Option.some.inj e; have := HRW.out; omega)))
   have RB2 := Lib.hid (RB.out.keep (w' := w13) (fun p u h1 _ hu => GRD.out.cell hu (fun e => by have := Option.some.inj e; have := HRW.out; have := ZRA.out; omega)))
   obtain ⟨A5s, c5, hv5, _, _⟩ := RA2.out
   rw [List.length_map, List.length_map, LRA.out] at hv5
   subst hv5
   obtain ⟨A6s, c6, hv6, _, _⟩ := RB2.out
   rw [List.length_map, List.length_map, LRB.out] at hv6
   subst hv6
   have HF := Lib.hid (FilS.of HGA7.out HKN.out)
   obtain ⟨F0, hF0⟩ : ∃ x, fillGo chain ts ns gs cs = x := ⟨_, rfl⟩
   have HF0 := Lib.hid hF0
   have hif : InvF chain ts [] ns gs cs E7 0 F0 := fun _ => by rw [← hF0]; rfl
   have HIF := Lib.hid hif
   have HEND : Hid (getR s a n chain = if E7 ≠ 0 then .error E7 else if checkCol F0 chain ≠ 0 then .error (checkCol F0 chain) else .ok (F0, A7)) := Lib.hid (by
    unfold getR
    rw [fixR_eq HNL.out HA1.out HE1.out HE2.out HA2.out HYL.out HM.out HSG.out HE3.out HA3.out HE4.out HA4.out HTO.out HRR.out, ← hF0]
    exact getR_end HIN.out HKN.out ERA.out ARA.out NRA.out ERB.out ARB.out NRB.out ERD.out ARD.out NRD.out HLEG.out)
   have HROK : Hid (E7 = 0 → ∀ u ∈ F0, RowOk u) := Lib.hid (fun h0 => by
    rw [← hF0]
    exact fillGo_ok (by have := HC1.out; omega) (InvG.rows HIN.out HKN.out (QRA.out (QRB.out (QRD.out h0))) HRR.out) XRA.out XRB.out)
   clear hF0 hif RA RB HGA5 HGA6
   go_wp2_with fail
   go_loopw [153, 25] (fun i v25 wr2 => ∃ (j : Nat) (C2 : Array Value) (us : List TxV) (csr : List Bool), i = .int .i64 j ∧ j ≤ n ∧ FilS w13 w10.heap.size s r sg l n j A7 E7 C2 (curT (ts.getD j TxV.zero)) ks ts us wr2 ∧ Hid (RowC w12.heap.size w13.heap.size wr2 v25 (csr.map Value.bool)) ∧ Hid (csr.length = (ks.drop j).count 0) ∧ Hid (InvF chain ts us ns gs csr E7 j F0)) (fun i _ _ => n - (intOf i).toNat)
   case atStart => exact ⟨0, C, [], cs, rfl, Nat.zero_le _, HF.out, RD, Lib.hid (by rw [LRD.out, HLG.out]; rfl), HIF⟩
   case round =>
    obtain ⟨j, C2, us, csr, rfl, hjn, hG, HRC, HCL, HIJ⟩ := hrel
    by_cases hlt : j < n
    ·have q2 : (j : Int) < n := by omega
     have HG := Lib.hid hG
     obtain ⟨gno, ono, rfl, hn1, hn2, hn3⟩ := RA2.out.at_ (by omega)
     have hnc := hn3 j hlt
     obtain ⟨gga, oga, rfl, hm1, hm2, hm3⟩ := RB2.out.at_ (by omega)
     have hmc := hm3 j hlt
     clear hn3 hm3
     obtain ⟨nv, hnv⟩ : ∃ x, ns.getD j 0 = x := ⟨_, rfl⟩
     obtain ⟨gv, hgv⟩ : ∃ x, gs.getD j 0 = x := ⟨_, rfl⟩
     have hnc2 : wr.cell? ⟨gno, ono + j, none⟩ = some (.int .u64 (nv : Int)) := by
      have e : ((ns.map (fun (x : Nat) => (x : Int))).map (Value.int .u64))[j]? = some (.int .u64 (nv : Int)) := by
       rw [List.getElem?_map, List.getElem?_map, List.getElem?_eq_getElem (by rw [LRA.out]; exact hlt), ← hnv, List.getD_eq_getElem?_getD, List.getElem?_eq_getElem (by rw [LRA.out]; exact hlt)]; rfl
      exact HG.out.gr.cell (hnc.trans e) (by have := HRW.out; show gno ≠ r; omega) (by have := HSW.out; show gno ≠ sg; omega) (by have := HLW.out; show gno ≠ l; omega)
     have hmc2 : wr.cell? ⟨gga, oga + j, none⟩ = some (.int .u64 (gv : Int)) := by
      have e : ((gs.map (fun (x : Nat) => (x : Int))).map (Value.int .u64))[j]? = some (.int .u64 (gv : Int)) := by
       rw [List.getElem?_map, List.getElem?_map, List.getElem?_eq_getElem (by rw [LRB.out]; exact hlt), ← hgv, List.getD_eq_getElem?_getD, List.getElem?_eq_getElem (by rw [LRB.out]; exact hlt)]; rfl
      exact HG.out.gr.cell (hmc.trans e) (by have := HRW.out; have := ZRA.out; show gga ≠ r; omega) (by have := HSW.out; have := ZRA.out; show gga ≠ sg; omega) (by have := HLW.out; have := ZRA.out; show gga ≠ l; omega)
     have hnl : gno ≠ l := by have := HLW.out; omega
     have hml : gga ≠ l := by have := HLW.out; have := ZRA.out; omega
     clear hnc hmc hn1 hn2 hm1 hm2
     have HNV := Lib.hid hnv; have HGV := Lib.hid hgv; have HJN := Lib.hid hjn
     have HNL := Lib.hid hnl; have HML := Lib.hid hml
     clear hnv hgv hG hjn hnl hml
     go_upto_region 28 with (fail)
     refine wp_region_held (S := fun W => W.cell? ⟨gno, ono + j, none⟩ = some (.int .u64 (nv : Int)) ∧ W.cell? ⟨gga, oga + j, none⟩ = some (.int .u64 (gv : Int))) (by kernel_rfl) ?_
     change wpAnyH _ _ _ _ _ _ _ _ wr.drew
     have hgd := only_drew (World.grownBy.refl wr none)
     have hG := HG.out.kept hgd
     have hS : wr.drew.cell? ⟨gno, ono + j, none⟩ = some (.int .u64 (nv : Int)) ∧ wr.drew.cell? ⟨gga, oga + j, none⟩ = some (.int .u64 (gv : Int)) := ⟨hgd.cell hnc2 (by simp), hgd.cell hmc2 (by simp)⟩
     have hRC : RowC w12.heap.size w13.heap.size wr.drew u25 (csr.map Value.bool) := HRC.out.keep fun p u _ _ hu => hgd.cell hu (by simp)
     clear hgd hnc2 hmc2 HG HRC
     generalize wr.drew = x0 at *
     skip
     refine zt 0 (.slice (some ⟨l, 0, none⟩) n n) (some 156) rfl (fun W hW => by go_simp) hS ?_
     simp only [Act.put, jb, jz, js]
     refine zt 1 (.int .i64 (j : Int)) (some 157) rfl (fun W hW => by go_simp) hS ?_
     simp only [Act.put, jb, jz, js]
     refine zt 2 (.slice (some ⟨l, 0, none⟩) n n) (some 158) rfl (fun W hW => by go_simp) hS ?_
     simp only [Act.put, jb, jz, js]
     refine zt 3 (.int .i64 (j : Int)) (some 159) rfl (fun W hW => by go_simp) hS ?_
     simp only [Act.put, jb, jz, js]
     refine zt 4 (.slice (some ⟨l, 0, none⟩) n n) (some 160) rfl (fun W hW => by go_simp) hS ?_
     simp only [Act.put, jb, jz, js]
     refine zt 5 (.int .i64 (j : Int)) (some 161) rfl (fun W hW => by go_simp) hS ?_
     simp only [Act.put, jb, jz, js]
     refine zt 6 (.slice (some ⟨gno, ono, none⟩) n c5) (some 162) rfl (fun W hW => by go_simp) hS ?_
     simp only [Act.put, jb, jz, js]
     refine zt 7 (.int .i64 (j : Int)) (some 163) rfl (fun W hW => by go_simp) hS ?_
     simp only [Act.put, jb, jz, js]
     refine zt 8 (.pointer (some ⟨gno, ono + j, none⟩)) (some 164) rfl (fun W hW => by go_simp <;> rfl) hS ?_
     simp only [Act.put, jb, jz, js]
     refine zt 9 (.int .u64 (nv : Int)) (some 165) rfl (fun W hW => exec_loadC 23 (.tmp 164) rfl _ rfl _ _ Tryz.underlying23 rfl hW.1) hS ?_
     simp only [Act.put, jb, jz, js]
     refine zt 10 (.slice (some ⟨gga, oga, none⟩) n c6) (some 166) rfl (fun W hW => by go_simp) hS ?_
     simp only [Act.put, jb, jz, js]
     refine zt 11 (.int .i64 (j : Int)) (some 167) rfl (fun W hW => by go_simp) hS ?_
     simp only [Act.put, jb, jz, js]
     refine zt 12 (.pointer (some ⟨gga, oga + j, none⟩)) (some 168) rfl (fun W hW => by go_simp <;> rfl) hS ?_
     simp only [Act.put, jb, jz, js]
     refine zt 13 (.int .u64 (gv : Int)) (some 169) rfl (fun W hW => exec_loadC 23 (.tmp 168) rfl _ rfl _ _ Tryz.underlying23 rfl hW.2) hS ?_
     simp only [Act.put, jb, jz, js]
     refine zt 14 (.int .u64 (chain : Int)) (some 170) rfl (fun W hW => by go_simp) hS ?_
     simp only [Act.put, jb, jz, js]
     refine zt 15 (.pointer (some ⟨l, 36 * j, none⟩)) (some 171) rfl (fun W hW => by go_simp <;> rfl) hS ?_
     simp only [Act.put, jb, jz, js]
     refine zt 16 (.pointer (some ⟨l, 36 * j + 2, none⟩)) (some 172) rfl (fun W hW => by go_simp <;> rfl) hS ?_
     simp only [Act.put, jb, jz, js]
     have hrow := hG.row
     have hsz := hG.size
     have hG1 := (hG.put 2 [.int .u64 (nv : Int)] (by omega) (by simp) hlt).eqc (fun sl => fill1 _ _ sl)
     replace hS : (x0.setRow l (putA (36 * j + 2) [.int .u64 (nv : Int)] C2)).cell? ⟨gno, ono + j, none⟩ = some (.int .u64 (nv : Int)) ∧ (x0.setRow l (putA (36 * j + 2) [.int .u64 (nv : Int)] C2)).cell? ⟨gga, oga + j, none⟩ = some (.int .u64 (gv : Int)) := ⟨setRow_cell HNL.out hS.1, setRow_cell HML.out hS.2⟩
     replace hRC : RowC w12.heap.size w13.heap.size (x0.setRow l (putA (36 * j + 2) [.int .u64 (nv : Int)] C2)) u25 (csr.map Value.bool) := hRC.keep fun p u h1 _ hu => setRow_cell (by have := HLW.out; have := ZRA.out; have := ZRB.out; omega) hu
     refine held_one (i := 17) (by kernel_rfl) ?_
     refine held_skip rfl rfl rfl (w' := x0.setRow l (putA (36 * j + 2) [.int .u64 (nv : Int)] C2)) (by rw [← setCells_row hrow (36 * j + 2) [.int .u64 (nv : Int)]]; exact exec_store_val 23 (.tmp 172) (.tmp 165) rfl l (36 * j + 2) rfl _ rfl #[.int .u64 (nv : Int)] rfl (there_blk hrow (by rw [hsz]; simp; omega)) (by kernel_rfl) (by simp [Value.oneCell'])) hS ?_
     (try simp only [Act.put, jb, jz, js])
     clear hrow hsz hG
     generalize x0.setRow l (putA (36 * j + 2) [.int .u64 (nv : Int)] C2) = x1 at *
     refine zt 18 (.pointer (some ⟨l, 36 * j, none⟩)) (some 173) rfl (fun W hW => by go_simp <;> rfl) hS ?_
     simp only [Act.put, jb, jz, js]
     refine zt 19 (.pointer (some ⟨l, 36 * j + 11, none⟩)) (some 174) rfl (fun W hW => by go_simp <;> rfl) hS ?_
     simp only [Act.put, jb, jz, js]
     have hrow := hG1.row
     have hsz := hG1.size
     have hG2 := (hG1.put 11 [.int .u64 (gv : Int)] (by omega) (by simp) hlt).eqc (fun sl => fill2 _ _ sl)
     replace hS : (x1.setRow l (putA (36 * j + 11) [.int .u64 (gv : Int)] (putA (36 * j + 2) [.int .u64 (nv : Int)] C2))).cell? ⟨gno, ono + j, none⟩ = some (.int .u64 (nv : Int)) ∧ (x1.setRow l (putA (36 * j + 11) [.int .u64 (gv : Int)] (putA (36 * j + 2) [.int .u64 (nv : Int)] C2))).cell? ⟨gga, oga + j, none⟩ = some (.int .u64 (gv : Int)) := ⟨setRow_cell HNL.out hS.1, setRow_cell HML.out hS.2⟩
     replace hRC : RowC w12.heap.size w13.heap.size (x1.setRow l (putA (36 * j + 11) [.int .u64 (gv : Int)] (putA (36 * j + 2) [.int .u64 (nv : Int)] C2))) u25 (csr.map Value.bool) := hRC.keep fun p u h1 _ hu => setRow_cell (by have := HLW.out; have := ZRA.out; have := ZRB.out; omega) hu
     refine held_one (i := 20) (by kernel_rfl) ?_
     refine held_skip rfl rfl rfl (w' := x1.setRow l (putA (36 * j + 11) [.int .u64 (gv : Int)] (putA (36 * j + 2) [.int .u64 (nv : Int)] C2))) (by rw [← setCells_row hrow (36 * j + 11) [.int .u64 (gv : Int)]]; exact exec_store_val 23 (.tmp 174) (.tmp 169) rfl l (36 * j + 11) rfl _ rfl #[.int .u64 (gv : Int)] rfl (there_blk hrow (by rw [hsz]; simp; omega)) (by kernel_rfl) (by simp [Value.oneCell'])) hS ?_
     (try simp only [Act.put, jb, jz, js])
     clear hrow hsz hG1
     generalize x1.setRow l (putA (36 * j + 11) [.int .u64 (gv : Int)] (putA (36 * j + 2) [.int .u64 (nv : Int)] C2)) = x2 at *
     refine zt 21 (.pointer (some ⟨l, 36 * j, none⟩)) (some 175) rfl (fun W hW => by go_simp <;> rfl) hS ?_
     simp only [Act.put, jb, jz, js]
     refine zt 22 (.pointer (some ⟨l, 36 * j + 1, none⟩)) (some 176) rfl (fun W hW => by go_simp <;> rfl) hS ?_
     simp only [Act.put, jb, jz, js]
     have hrow := hG2.row
     have hsz := hG2.size
     have hG3 := (hG2.put 1 [.int .u64 (chain : Int)] (by omega) (by simp) hlt).eqc (fun sl => fill3 _ _ sl)
     replace hS : (x2.setRow l (putA (36 * j + 1) [.int .u64 (chain : Int)] (putA (36 * j + 11) [.int .u64 (gv : Int)] (putA (36 * j + 2) [.int .u64 (nv : Int)] C2)))).cell? ⟨gno, ono + j, none⟩ = some (.int .u64 (nv : Int)) ∧ (x2.setRow l (putA (36 * j + 1) [.int .u64 (chain : Int)] (putA (36 * j + 11) [.int .u64 (gv : Int)] (putA (36 * j + 2) [.int .u64 (nv : Int)] C2)))).cell? ⟨gga, oga + j, none⟩ = some (.int .u64 (gv : Int)) := ⟨setRow_cell HNL.out hS.1, setRow_cell HML.out hS.2⟩
     replace hRC : RowC w12.heap.size w13.heap.size (x2.setRow l (putA (36 * j + 1) [.int .u64 (chain : Int)] (putA (36 * j + 11) [.int .u64 (gv : Int)] (putA (36 * j + 2) [.int .u64 (nv : Int)] C2)))) u25 (csr.map Value.bool) := hRC.keep fun p u h1 _ hu => setRow_cell (by have := HLW.out; have := ZRA.out; have := ZRB.out; omega) hu
     refine held_one (i := 23) (by kernel_rfl) ?_
     refine held_skip rfl rfl rfl (w' := x2.setRow l (putA (36 * j + 1) [.int .u64 (chain : Int)] (putA (36 * j + 11) [.int .u64 (gv : Int)] (putA (36 * j + 2) [.int .u64 (nv : Int)] C2)))) (by rw [← setCells_row hrow (36 * j + 1) [.int .u64 (chain : Int)]]; exact exec_store_val 23 (.tmp 176) (.tmp 170) rfl l (36 * j + 1) rfl _ rfl #[.int .u64 (chain : Int)] rfl (there_blk hrow (by rw [hsz]; simp; omega)) (by kernel_rfl) (by simp [Value.oneCell'])) hS ?_
     (try simp only [Act.put, jb, jz, js])
     clear hrow hsz hG2
     generalize x2.setRow l (putA (36 * j + 1) [.int .u64 (chain : Int)] (putA (36 * j + 11) [.int .u64 (gv : Int)] (putA (36 * j + 2) [.int .u64 (nv : Int)] C2))) = x3 at *
     refine wpAnyH_done (by kernel_rfl) ?_ _
     obtain ⟨C3, hC3⟩ : ∃ x, putA (36 * j + 1) [.int .u64 (chain : Int)] (putA (36 * j + 11) [.int .u64 (gv : Int)] (putA (36 * j + 2) [.int .u64 (nv : Int)] C2)) = x := ⟨_, rfl⟩
     rw [hC3] at hG3
     have HG4 := Lib.hid (hG3.eqc (cur' := curT (fillT chain (ts.getD j TxV.zero) nv gv true)) (fun sl => rfl))
     have hkc : x3.cell? ⟨l, 36 * j, none⟩ = some (.int .i64 ((ks.getD j 0 : Nat) : Int)) := (hG3.row.cell _).trans (hG3.kind j hlt)
     have hkl : E7 = 0 → j < ts.length ∧ (ts.getD j TxV.zero).kind = ((ks.getD j 0 : Nat) : Int) := fun h0 => ⟨by rw [hG3.lt h0]; exact hlt, by obtain ⟨_, _, _, h⟩ := hG3.at_ h0 hlt; exact h⟩
     have hcd := count_drop ks (j := j) (by rw [hG3.lk]; exact hlt)
     obtain ⟨kv, hkv⟩ : ∃ x, ks.getD j 0 = x := ⟨_, rfl⟩
     rw [hkv] at hkc hkl hcd
     have HKL := Lib.hid hkl; have HCD := Lib.hid hcd; have HKV := Lib.hid hkv; have HRC := Lib.hid hRC
     have hwj : IntKind.i64.wrap ((j : Int) + 1) = ((j + 1 : Nat) : Int) := wrap_natC (k := j + 1) (by have := HN.out; omega)
     have HWJ := Lib.hid hwj
     clear hC3 hG3 hS hRC hkl hcd hkv hwj
     go_upto_region 29 with (fail)
     by_cases hk0 : kv = 0
     ·have q0 : ((kv : Int) == 0) = true := by simp [hk0]
      obtain ⟨b, csr', rfl⟩ : ∃ b csr', csr = b :: csr' := by
       cases csr with
       | nil => exfalso; have h1 := HCL.out; have h2 := HCD.out; rw [if_pos hk0] at h2; simp at h1; omega
       | cons b r => exact ⟨b, r, rfl⟩
      have hinv := InvF.step0 HIJ.out HKL.out hk0
      have hcl2 : csr'.length = (ks.drop (j + 1)).count 0 := by have h1 := HCL.out; have h2 := HCD.out; rw [if_pos hk0] at h2; simp only [List.length_cons] at h1; omega
      rw [HNV.out, HGV.out] at hinv
      have HIV := Lib.hid hinv; have HC2 := Lib.hid hcl2
      have hrc := HRC.out
      rw [List.map_cons] at hrc
      obtain ⟨gb, ob, cb, rfl, hcb, hb1, hb2, hbc, hrc2⟩ := hrc.cons
      obtain ⟨m, hm⟩ : ∃ x, (csr'.map Value.bool).length = x := ⟨_, rfl⟩
      rw [hm] at hrc2 hcb ⊢
      have HRC2 := Lib.hid hrc2
      have HHM := Lib.hid hm
      clear hinv hcl2 hrc hrc2 hk0 HRC HIJ HCL HCD HKL hb1 hb2 hm
      refine wp_region_list ?_
      refine zm 12 (.slice (some ⟨l, 0, none⟩) n n) rfl ?_
      simp only [Act.put, jb, jz, js]
      refine zm 26 (.int .i64 (j : Int)) rfl ?_
      simp only [Act.put, jb, jz, js]
      refine wpList_value rfl (.pointer (some ⟨l, 36 * j, none⟩)) (by go_simp <;> rfl) ?_
      simp only [Act.put, jb, jz, js]
      refine wpList_value rfl (.pointer (some ⟨l, 36 * j, none⟩)) (by go_simp <;> rfl) ?_
      simp only [Act.put, jb, jz, js]
      refine wpList_value rfl (.int .i64 (kv : Int)) (exec_loadC 3 (.tmp 180) rfl _ rfl _ _ Tryz.underlying3 rfl hkc) ?_
      simp only [Act.put, jb, jz, js]
      refine wpList_value rfl (.bool true) (by go_simp <;> first | rfl | (rw [q0]; rfl) | simp [q0]) ?_
      simp only [Act.put, jb, jz, js]
      refine wpList_nil ?_
      clear hkc
      go_upto_region 30 with (fail)
      refine wp_region_list ?_
      refine zm 25 (.slice (some ⟨gb, ob, none⟩) (m + 1) cb) rfl ?_
      simp only [Act.put, jb, jz, js]
      refine wpList_value rfl (.pointer (some ⟨gb, ob, none⟩)) (by go_simp <;> rfl) ?_
      simp only [Act.put, jb, jz, js]
      refine wpList_value rfl (.bool b) (exec_loadC 4 (.tmp 184) rfl _ rfl _ _ Tryz.underlying4 rfl hbc) ?_
      simp only [Act.put, jb, jz, js]
      refine wpList_value rfl (.bool (!b)) (by go_simp <;> rfl) ?_
      simp only [Act.put, jb, jz, js]
      refine wpList_nil ?_
      clear hbc
      have h1c : (1 : Nat) ≤ m + 1 := by omega
      cases b
      ·simp only [Bool.not_false]
       go_upto_region 31 with (fail)
       refine wp_region_list ?_
       refine zm 12 (.slice (some ⟨l, 0, none⟩) n n) rfl ?_
       simp only [Act.put, jb, jz, js]
       refine zm 26 (.int .i64 (j : Int)) rfl ?_
       simp only [Act.put, jb, jz, js]
       refine wpList_value rfl (.pointer (some ⟨l, 36 * j, none⟩)) (by go_simp <;> rfl) ?_
       simp only [Act.put, jb, jz, js]
       refine wpList_value rfl (.pointer (some ⟨l, 36 * j + 1, none⟩)) (by go_simp <;> rfl) ?_
       simp only [Act.put, jb, jz, js]
       have hrow := HG4.out.row
       have hsz := HG4.out.size
       have hG5 := (HG4.out.put 1 [.int .u64 0] (by omega) (by simp) hlt).eqc (cur' := curT (fillT chain (ts.getD j TxV.zero) nv gv false)) (fun sl => rfl)
       have HRC3 := Lib.hid (HRC2.out.keep (w' := x3.setRow l (putA (36 * j + 1) [.int .u64 0] C3)) fun p u h1 _ hu => setRow_cell (by have := HLW.out; have := ZRA.out; have := ZRB.out; omega) hu)
       refine wpList_skip rfl rfl (w' := x3.setRow l (putA (36 * j + 1) [.int .u64 0] C3)) (by rw [← setCells_row hrow (36 * j + 1) [.int .u64 0]]; exact exec_store_val 23 (.tmp 190) (.const (.int .u64 0)) rfl l (36 * j + 1) rfl _ rfl #[.int .u64 0] rfl (there_blk hrow (by rw [hsz]; simp; omega)) (by kernel_rfl) (by simp [Value.oneCell'])) ?_
       clear hrow hsz
       have HG5 := Lib.hid hG5
       clear hG5 HRC2 HG4
       generalize x3.setRow l (putA (36 * j + 1) [.int .u64 0] C3) = x4 at *
       refine wpList_nil ?_
       go_upto_region 32 with (fail)
       refine wp_region_list ?_
       refine zm 25 (.slice (some ⟨gb, ob, none⟩) (m + 1) cb) rfl ?_
       simp only [Act.put, jb, jz, js]
       refine wpList_value rfl (.slice (if cb = 1 then some ⟨gb, ob, none⟩ else some ⟨gb, ob + 1, none⟩) m (cb - 1)) (by go_simp <;> first | rfl | (rw [if_pos (by omega)])) ?_
       simp only [Act.put, jb, jz, js]
       refine wpList_value rfl (.slice (if cb = 1 then some ⟨gb, ob, none⟩ else some ⟨gb, ob + 1, none⟩) m (cb - 1)) (by go_simp <;> rfl) ?_
       simp only [Act.put, jb, jz, js]
       refine wpList_nil ?_
       obtain ⟨A', hA'⟩ : ∃ A', (if cb = 1 then some ⟨gb, ob, none⟩ else some ⟨gb, ob + 1, none⟩ : Option Addr) = A' := ⟨_, rfl⟩
       have hrc4 := HRC3.out
       rw [hA'] at hrc4 ⊢
       have HRC4 := Lib.hid hrc4
       clear hrc4 hA' HRC3
       have hwj := HWJ.out
       go_wp2_with fail
       go_roundw
       case rel => exact ⟨j + 1, _, us ++ [fillT chain (ts.getD j TxV.zero) nv gv false], csr', by go_num, by omega, HG5.out.step hlt, HRC4, HC2, HIV⟩
       case measure => simp [intOf]; omega
      ·simp only [Bool.not_true]
       go_upto_region 32 with (fail)
       refine wp_region_list ?_
       refine zm 25 (.slice (some ⟨gb, ob, none⟩) (m + 1) cb) rfl ?_
       simp only [Act.put, jb, jz, js]
       refine wpList_value rfl (.slice (if cb = 1 then some ⟨gb, ob, none⟩ else some ⟨gb, ob + 1, none⟩) m (cb - 1)) (by go_simp <;> first | rfl | (rw [if_pos (by omega)])) ?_
       simp only [Act.put, jb, jz, js]
       refine wpList_value rfl (.slice (if cb = 1 then some ⟨gb, ob, none⟩ else some ⟨gb, ob + 1, none⟩) m (cb - 1)) (by go_simp <;> rfl) ?_
       simp only [Act.put, jb, jz, js]
       refine wpList_nil ?_
       obtain ⟨A', hA'⟩ : ∃ A', (if cb = 1 then some ⟨gb, ob, none⟩ else some ⟨gb, ob + 1, none⟩ : Option Addr) = A' := ⟨_, rfl⟩
       have hrc4 := HRC2.out
       rw [hA'] at hrc4 ⊢
       have HRC4 := Lib.hid hrc4
       clear hrc4 hA' HRC2
       have hwj := HWJ.out
       go_wp2_with fail
       go_roundw
       case rel => exact ⟨j + 1, C3, us ++ [fillT chain (ts.getD j TxV.zero) nv gv true], csr', by go_num, by omega, HG4.out.step hlt, HRC4, HC2, HIV⟩
       case measure => simp [intOf]; omega
     ·have q0 : ((kv : Int) == 0) = false := by simpa using hk0
      have hinv := InvF.step1 HIJ.out HKL.out hk0
      have hcl2 : csr.length = (ks.drop (j + 1)).count 0 := by have h1 := HCL.out; have h2 := HCD.out; rw [if_neg hk0] at h2; omega
      rw [HNV.out, HGV.out] at hinv
      have HIV := Lib.hid hinv; have HC2 := Lib.hid hcl2
      clear hinv hcl2 hk0 HIJ HCL HCD HKL
      refine wp_region_list ?_
      refine zm 12 (.slice (some ⟨l, 0, none⟩) n n) rfl ?_
      simp only [Act.put, jb, jz, js]
      refine zm 26 (.int .i64 (j : Int)) rfl ?_
      simp only [Act.put, jb, jz, js]
      refine wpList_value rfl (.pointer (some ⟨l, 36 * j, none⟩)) (by go_simp <;> rfl) ?_
      simp only [Act.put, jb, jz, js]
      refine wpList_value rfl (.pointer (some ⟨l, 36 * j, none⟩)) (by go_simp <;> rfl) ?_
      simp only [Act.put, jb, jz, js]
      refine wpList_value rfl (.int .i64 (kv : Int)) (exec_loadC 3 (.tmp 180) rfl _ rfl _ _ Tryz.underlying3 rfl hkc) ?_
      simp only [Act.put, jb, jz, js]
      refine wpList_value rfl (.bool false) (by go_simp <;> first | rfl | (rw [q0]; rfl) | simp [q0]) ?_
      simp only [Act.put, jb, jz, js]
      refine wpList_nil ?_
      clear hkc
      have hwj := HWJ.out
      go_wp2_with fail
      go_roundw
      case rel => exact ⟨j + 1, C3, us ++ [fillT chain (ts.getD j TxV.zero) nv gv true], csr, by go_num, by omega, HG4.out.step hlt, HRC, HC2, HIV⟩
      case measure => simp [intOf]; omega
    ·have q2 : ¬ ((j : Int) < n) := by omega
     have hjn2 : j = n := by omega
     have HG := Lib.hid hG; have HJN := Lib.hid hjn2
     have hrdb : wr.cell? ⟨r, 2, none⟩ = some (.int .i64 E7) := by
      have := hG.rd.cell 2
      simp only [rdC, List.getElem?_toArray, List.getElem?_cons_zero, List.getElem?_cons_succ] at this
      exact this
     clear hG hjn2 hjn HRC HCL
     have hgrow : ∀ u, Gr3 w13 u r sg l → w.grownBy u none := fun u h => Gr3.close HG10.out (HGA7.out.gr.trans h) (by have := HR0.out; omega) (by have := HR0.out; have := HZ.out; have := HZ5.out; have := HZ6.out; have := HZ7.out; have := HSG0.out; omega) (by have := HR0.out; have := HL0.out; omega)
     have HGW := Lib.hid hgrow
     clear hgrow
     by_cases h7 : E7 = 0
     ·have q3 : (E7 != 0) = false := by simp [h7]
      have hus : us = F0 := by
       have h1 := HIJ.out h7
       have h2 := HG.out.lt h7
       rw [List.drop_eq_nil_of_le (by have := HJN.out; omega), fillGo, List.append_nil] at h1
       exact h1
      have hrows := HG.out.rows HJN.out h7 (by rw [hus]; exact HROK.out h7)
      rw [hus] at hrows
      have hend := HEND.out
      rw [if_neg (by simpa using h7)] at hend
      have HUS := Lib.hid hus
      have HROWS := Lib.hid hrows; have HEN := Lib.hid hend; have H7 := Lib.hid h7
      clear hus hrows hend h7
      go_upto_region 34 with (fail)
      refine wp_region_list ?_
      refine zm 11 (.pointer (some ⟨r, 0, none⟩)) rfl ?_
      simp only [Act.put, jb, jz, js]
      refine wpList_value rfl (.pointer (some ⟨r, 0, none⟩)) (by go_simp <;> rfl) ?_
      simp only [Act.put, jb, jz, js]
      refine wpList_value rfl (.pointer (some ⟨r, 2, none⟩)) (by go_simp <;> rfl) ?_
      simp only [Act.put, jb, jz, js]
      refine wpList_value rfl (.int .i64 E7) (exec_loadC 26 (.tmp 196) rfl _ rfl _ _ Tryz.underlying26 rfl hrdb) ?_
      simp only [Act.put, jb, jz, js]
      refine wpList_value rfl (.bool false) (by go_simp <;> first | rfl | (rw [q3]; rfl) | simp [q3]) ?_
      simp only [Act.put, jb, jz, js]
      refine zm 198 (.bool false) rfl ?_
      simp only [Act.put, jb, jz, js]
      refine wpList_valueG rfl (.pointer (some ⟨r, 0, none⟩)) (exec_moveC (.tmp 11) rfl _ rfl) ?_
      simp only [Act.put, jb, jz, js]
      refine wpList_valueG rfl (.slice (some ⟨l, 0, none⟩) n n) (exec_moveC (.tmp 12) rfl _ rfl) ?_
      simp only [Act.put, jb, jz, js]
      refine wpList_valueG rfl (.int .u64 (chain : Int)) (exec_moveC (.tmp 3) rfl _ rfl) ?_
      simp only [Act.put, jb, jz, js]
      have hck := colCheck_any wr.heap.size (some ⟨l, 0, none⟩) n n F0 chain wr HROWS.out (Nat.le_refl _) (by have := HN.out; omega) (fun t ht => (HROK.out H7.out t ht).ok)
      refine wpList_enterG rfl 13 #[.slice (some ⟨l, 0, none⟩) n n, .int .u64 (chain : Int)] (exec_call2 _ (.tmp 201) (.tmp 202) _ rfl _ _ rfl rfl (enters_of Tryz.func13 (by kernel_rfl) rfl _ _)) (hck.mono ?_)
      clear hck
      rintro e x1 ⟨rfl, hgx⟩
      have hG1 := HG.out.kept hgx
      have hr1 := HROWS.out.grown hgx (Nat.le_refl _)
      obtain ⟨CE, hCE⟩ : ∃ x, checkCol F0 chain = x := ⟨_, rfl⟩
      have hen := HEN.out
      rw [hCE] at hen
      rw [hCE]
      have HEN2 := Lib.hid hen; have HG1 := Lib.hid hG1; have HRW1 := Lib.hid hr1
      have HSX := Lib.hid hgx.size
      clear hCE hG1 hr1 hgx hen HG HROWS hrdb
      refine ⟨_, rfl, ?_⟩
      simp only [Act.put, jb, jz, js]
      refine wpList_enterG rfl 54 #[.pointer (some ⟨r, 0, none⟩), .int .i64 CE] (exec_call2 _ (.tmp 200) (.tmp 203) _ rfl _ _ rfl rfl (enters_of Tryz.func54 (by kernel_rfl) rfl _ _)) ((keepC_any s A7 E7 CE r x1 HG1.out.rd).mono ?_)
      rintro e x2 ⟨rfl, hrd2, hg2⟩
      have hke : kE E7 CE = CE := by unfold kE; rw [if_pos H7.out]
      rw [hke] at hrd2 ⊢
      have hgw := HGW.out _ (HG1.out.gr.grown hg2 (fun k e => .inl (Option.some.inj e).symm))
      have HRD2 := Lib.hid hrd2; have HGW2 := Lib.hid hgw; have HG2 := Lib.hid hg2
      clear hke hrd2 hgw hg2
      refine ⟨_, rfl, ?_⟩
      simp only [Act.put, jb, jz, js]
      by_cases hc0 : CE = 0
      ·subst hc0
       simp only [decide_true]
       refine wpList_valueG rfl (.bool false) (by go_simp <;> rfl) ?_
       simp only [Act.put, jb, jz, js]
       refine wpList_value rfl (.bool false) (by go_simp <;> rfl) ?_
       simp only [Act.put, jb, jz, js]
       refine wpList_nil ?_
       have hend := HEN2.out
       rw [if_neg (by simp)] at hend
       have hrl := HG1.out.rw; have hro := HRW.out; have hlo := HLW.out
       have htx : TxsR x2.heap.size x2 F0 (some ⟨l, 0, none⟩) n := by
        have hg3 := HG1.out.read HG2.out (by rw [H7.out]; exact HRD2.out) HGA7.out.rl
        have := hg3.rows HJN.out H7.out (by rw [HUS.out]; exact HROK.out H7.out)
        rw [HUS.out] at this
        exact this
       have hFIN : GetEnd s a n chain w (.returned (.tuple #[.slice (some ⟨l, 0, none⟩) n n, .int .i64 (A7 : Int), .int .i64 0])) x2 := ⟨HGW2.out, .inr ⟨F0, A7, l, hend, rfl, by have := HR0.out; have := HL0.out; omega, htx, HGA7.out.ha, HROK.out H7.out⟩⟩
       have hrdb : x2.cell? ⟨r, 1, none⟩ = some (.int .i64 (A7 : Int)) := by
        have := HRD2.out.cell 1
        simp only [rdC, List.getElem?_toArray, List.getElem?_cons_zero, List.getElem?_cons_succ] at this
        exact this
       have HFIN := Lib.hid hFIN
       clear hend hrl hro hlo htx hFIN
       go_upto_region 36 with (fail)
       refine wp_region_held (S := fun W => W.cell? ⟨r, 1, none⟩ = some (.int .i64 (A7 : Int))) (by kernel_rfl) ?_
       change wpAnyH _ _ _ _ _ _ _ _ x2.drew
       have hgd := only_drew (World.grownBy.refl x2 none)
       have hS : x2.drew.cell? ⟨r, 1, none⟩ = some (.int .i64 (A7 : Int)) := hgd.cell hrdb (by simp)
       have HFIN3 : Hid (GetEnd s a n chain w (.returned (.tuple #[.slice (some ⟨l, 0, none⟩) n n, .int .i64 (A7 : Int), .int .i64 0])) x2.drew) := Lib.hid (GetEnd.drew HFIN.out)
       clear hgd hrdb HFIN
       generalize x2.drew = x3 at *
       refine zt 0 (.slice (some ⟨l, 0, none⟩) n n) (some 211) rfl (fun W hW => by go_simp) hS ?_
       simp only [Act.put, jb, jz, js]
       refine zt 1 (.pointer (some ⟨r, 0, none⟩)) (some 212) rfl (fun W hW => by go_simp) hS ?_
       simp only [Act.put, jb, jz, js]
       refine zt 2 (.pointer (some ⟨r, 0, none⟩)) (some 213) rfl (fun W hW => by go_simp <;> rfl) hS ?_
       simp only [Act.put, jb, jz, js]
       refine zt 3 (.pointer (some ⟨r, 1, none⟩)) (some 214) rfl (fun W hW => by go_simp <;> rfl) hS ?_
       simp only [Act.put, jb, jz, js]
       refine zt 4 (.int .i64 (A7 : Int)) (some 215) rfl (fun W hW => exec_loadC 3 (.tmp 214) rfl _ rfl _ _ Tryz.underlying3 rfl hW) hS ?_
       simp only [Act.put, jb, jz, js]
       refine held_one (i := 5) (by kernel_rfl) ?_
       refine held_value (some 8) rfl rfl (.slice (some ⟨l, 0, none⟩) n n) (by go_simp <;> rfl) rfl hS ?_
       simp only [Act.put, jb, jz, js]
       refine held_one (i := 6) (by kernel_rfl) ?_
       refine held_value (some 9) rfl rfl (.int .i64 (A7 : Int)) (by go_simp <;> rfl) rfl hS ?_
       simp only [Act.put, jb, jz, js]
       refine held_one (i := 7) (by kernel_rfl) ?_
       refine held_value (some 10) rfl rfl (.int .i64 0) (by go_simp <;> rfl) rfl hS ?_
       simp only [Act.put, jb, jz, js]
       refine wpAnyH_done (by kernel_rfl) ?_ _
       go_wp2_with fail
       go_ret3
       exact HFIN3.out
      ·simp only [decide_eq_false hc0]
       refine wpList_valueG rfl (.bool true) (by go_simp <;> rfl) ?_
       simp only [Act.put, jb, jz, js]
       refine wpList_value rfl (.bool true) (by go_simp <;> rfl) ?_
       simp only [Act.put, jb, jz, js]
       refine wpList_nil ?_
       have hend := HEN2.out
       rw [if_pos hc0] at hend
       have HFIN : Hid (GetEnd s a n chain w (.returned (.tuple #[.slice none 0 0, .int .i64 0, .int .i64 CE])) x2) := Lib.hid ⟨HGW2.out, .inl ⟨CE, hc0, hend, rfl⟩⟩
       have HRDX := HRD2
       clear hend
       have hrdb : x2.cell? ⟨r, 2, none⟩ = some (.int .i64 CE) := by
        have := HRDX.out.cell 2
        simp only [rdC, List.getElem?_toArray, List.getElem?_cons_zero, List.getElem?_cons_succ] at this
        exact this
       go_upto_region 35 with (fail)
       refine wp_region_held (S := fun W => W.cell? ⟨r, 2, none⟩ = some (.int .i64 CE)) (by kernel_rfl) ?_
       change wpAnyH _ _ _ _ _ _ _ _ x2.drew
       have hgd := only_drew (World.grownBy.refl x2 none)
       have hS : x2.drew.cell? ⟨r, 2, none⟩ = some (.int .i64 CE) := hgd.cell hrdb (by simp)
       have HFIN3 : Hid (GetEnd s a n chain w (.returned (.tuple #[.slice none 0 0, .int .i64 0, .int .i64 CE])) x2.drew) := Lib.hid (GetEnd.drew HFIN.out)
       clear hgd hrdb HFIN
       generalize x2.drew = x9 at *
       refine zt 0 (.pointer (some ⟨r, 0, none⟩)) (some 207) rfl (fun W hW => by go_simp) hS ?_
       simp only [Act.put, jb, jz, js]
       refine zt 1 (.pointer (some ⟨r, 0, none⟩)) (some 208) rfl (fun W hW => by go_simp <;> rfl) hS ?_
       simp only [Act.put, jb, jz, js]
       refine zt 2 (.pointer (some ⟨r, 2, none⟩)) (some 209) rfl (fun W hW => by go_simp <;> rfl) hS ?_
       simp only [Act.put, jb, jz, js]
       refine zt 3 (.int .i64 CE) (some 210) rfl (fun W hW => exec_loadC 26 (.tmp 209) rfl _ rfl _ _ Tryz.underlying26 rfl hW) hS ?_
       simp only [Act.put, jb, jz, js]
       refine held_one (i := 4) (by kernel_rfl) ?_
       refine held_value (some 8) rfl rfl (.slice none 0 0) (by go_simp <;> rfl) rfl hS ?_
       simp only [Act.put, jb, jz, js]
       refine held_one (i := 5) (by kernel_rfl) ?_
       refine held_value (some 9) rfl rfl (.int .i64 0) (by go_simp <;> rfl) rfl hS ?_
       simp only [Act.put, jb, jz, js]
       refine held_one (i := 6) (by kernel_rfl) ?_
       refine held_value (some 10) rfl rfl (.int .i64 CE) (by go_simp <;> rfl) rfl hS ?_
       simp only [Act.put, jb, jz, js]
       refine wpAnyH_done (by kernel_rfl) ?_ _
       go_wp2_with fail
       go_ret3
       exact HFIN3.out
     ·have q3 : (E7 != 0) = true := by simpa using h7
      have H7 := Lib.hid h7
      have hend := HEND.out
      rw [if_pos h7] at hend
      have hgw := HGW.out _ HG.out.gr
      have HFIN : Hid (GetEnd s a n chain w (.returned (.tuple #[.slice none 0 0, .int .i64 0, .int .i64 E7])) wr) := Lib.hid ⟨hgw, .inl ⟨E7, h7, hend, rfl⟩⟩
      have HRDX := Lib.hid HG.out.rd
      clear h7 hend hgw
      go_upto_region 34 with (fail)
      refine wp_region_list ?_
      refine zm 11 (.pointer (some ⟨r, 0, none⟩)) rfl ?_
      simp only [Act.put, jb, jz, js]
      refine wpList_value rfl (.pointer (some ⟨r, 0, none⟩)) (by go_simp <;> rfl) ?_
      simp only [Act.put, jb, jz, js]
      refine wpList_value rfl (.pointer (some ⟨r, 2, none⟩)) (by go_simp <;> rfl) ?_
      simp only [Act.put, jb, jz, js]
      refine wpList_value rfl (.int .i64 E7) (exec_loadC 26 (.tmp 196) rfl _ rfl _ _ Tryz.underlying26 rfl hrdb) ?_
      simp only [Act.put, jb, jz, js]
      refine wpList_value rfl (.bool true) (by go_simp <;> first | rfl | (rw [q3]; rfl) | simp [q3]) ?_
      simp only [Act.put, jb, jz, js]
      refine zm 198 (.bool true) rfl ?_
      simp only [Act.put, jb, jz, js]
      refine wpList_lack rfl ?_
      simp only [Act.put, jb, jz, js]
      refine wpList_lack rfl ?_
      simp only [Act.put, jb, jz, js]
      refine wpList_lack rfl ?_
      simp only [Act.put, jb, jz, js]
      refine wpList_lack rfl ?_
      simp only [Act.put, jb, jz, js]
      refine wpList_lack rfl ?_
      simp only [Act.put, jb, jz, js]
      refine wpList_lack rfl ?_
      simp only [Act.put, jb, jz, js]
      refine wpList_value rfl (.bool true) (by go_simp <;> rfl) ?_
      simp only [Act.put, jb, jz, js]
      refine wpList_nil ?_
      clear hrdb
      have hrdb : wr.cell? ⟨r, 2, none⟩ = some (.int .i64 E7) := by
       have := HRDX.out.cell 2
       simp only [rdC, List.getElem?_toArray, List.getElem?_cons_zero, List.getElem?_cons_succ] at this
       exact this
      go_upto_region 35 with (fail)
      refine wp_region_held (S := fun W => W.cell? ⟨r, 2, none⟩ = some (.int .i64 E7)) (by kernel_rfl) ?_
      change wpAnyH _ _ _ _ _ _ _ _ wr.drew
      have hgd := only_drew (World.grownBy.refl wr none)
      have hS : wr.drew.cell? ⟨r, 2, none⟩ = some (.int .i64 E7) := hgd.cell hrdb (by simp)
      have HFIN3 : Hid (GetEnd s a n chain w (.returned (.tuple #[.slice none 0 0, .int .i64 0, .int .i64 E7])) wr.drew) := Lib.hid (GetEnd.drew HFIN.out)
      clear hgd hrdb HFIN
      generalize wr.drew = x9 at *
      refine zt 0 (.pointer (some ⟨r, 0, none⟩)) (some 207) rfl (fun W hW => by go_simp) hS ?_
      simp only [Act.put, jb, jz, js]
      refine zt 1 (.pointer (some ⟨r, 0, none⟩)) (some 208) rfl (fun W hW => by go_simp <;> rfl) hS ?_
      simp only [Act.put, jb, jz, js]
      refine zt 2 (.pointer (some ⟨r, 2, none⟩)) (some 209) rfl (fun W hW => by go_simp <;> rfl) hS ?_
      simp only [Act.put, jb, jz, js]
      refine zt 3 (.int .i64 E7) (some 210) rfl (fun W hW => exec_loadC 26 (.tmp 209) rfl _ rfl _ _ Tryz.underlying26 rfl hW) hS ?_
      simp only [Act.put, jb, jz, js]
      refine held_one (i := 4) (by kernel_rfl) ?_
      refine held_value (some 8) rfl rfl (.slice none 0 0) (by go_simp <;> rfl) rfl hS ?_
      simp only [Act.put, jb, jz, js]
      refine held_one (i := 5) (by kernel_rfl) ?_
      refine held_value (some 9) rfl rfl (.int .i64 0) (by go_simp <;> rfl) rfl hS ?_
      simp only [Act.put, jb, jz, js]
      refine held_one (i := 6) (by kernel_rfl) ?_
      refine held_value (some 10) rfl rfl (.int .i64 E7) (by go_simp <;> rfl) rfl hS ?_
      simp only [Act.put, jb, jz, js]
      refine wpAnyH_done (by kernel_rfl) ?_ _
      go_wp2_with fail
      go_ret3
      exact HFIN3.out
end Go.Proofs.YtgclnikdkfpflaaGreatDoor
