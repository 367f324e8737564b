/- Merged: DcC, DcD, DcH, DcI0, DcE, DcI. -/
import Derived.Test.YtgclnikdkfpflaaGreatDoorMv1
import Derived.Test.YtgclnikdkfpflaaGreatDoorMv4
import Derived.Test.YtgclnikdkfpflaaGreatDoorMv5
import Derived.Test.YtgclnikdkfpflaaGreatDoorMv7
import Derived.Test.YtgclnikdkfpflaaGreatDoorMv10
import Derived.Test.YtgclnikdkfpflaaGreatDoorMv12
import Derived.Test.YtgclnikdkfpflaaGreatDoorMv14
import Derived.Deep.DeepCutAuto
namespace Go.Proofs.YtgclnikdkfpflaaGreatDoor
open Go.RowKit Go.Shelf
open List renaming set_cons_zero → jz, set_cons_succ → js, setIfInBounds_toArray → jb
set_option linter.unusedVariables false
set_option linter.unusedSimpArgs false
set_option maxRecDepth 100000
set_option maxHeartbeats 16000000
open Lib renaming hid → jh
open Act renaming put → jp
open World.grownBy renaming refl → jr
open _root_.List renaming getD_eq_getElem?_getD → jg, getElem?_eq_getElem → je, length_append → jla, take_of_length_le → jtl, eq_nil_of_length_eq_zero → jb7, length_take → jd4, mem_cons → je6
open World renaming size_alloc → jsa, ownsRow_nil → jon
open _root_.Nat renaming le_trans → jlt, le_refl → jle, mul_comm → jd2
open _root_.Go.Proofs.Tryz renaming prog → jq, underlying42 → ja3, underlying23 → ja5, underlying9 → ja9, underlying3 → jb8
open Go renaming wp_region_list → jwl, wpList_nil → jwn, bodyPost_ret → jbr, wpList_store_row → jsw
open _root_.Go.Proofs renaming enters_of → jeo
open Value renaming oneCell' → ja2, bool → jc7
open Region renaming wanted → jb6
theorem ylU (t:TA) (hk:t.k = 0 \/ t.k = 1 \/ t.k = 2) (w:World):Calls jq 63 #[.agg t.L] w fun e w'=>e = .returned (.agg (nmX (decide (t.k = 1 \/ t.k = 2 \/ t.k = 4)) t (nmT (decide (t.k = 2 \/ t.k = 4)) t (nmH (decide (t.k = 4)) t (nmB t 6)))).L) /\ w.grownBy w' none:=by
 obtain ⟨R,hR⟩:∃ R,(nmX (decide (t.k = 1 \/ t.k = 2 \/ t.k = 4)) t (nmT (decide (t.k = 2 \/ t.k = 4)) t (nmH (decide (t.k = 4)) t (nmB t 6)))).L = R:=⟨_,rfl⟩;have HQ:=jh hR;have HKK:=jh hk;rw [hR];clear hR hk;have hG:=yaa (yaa (jr w none) (.cells t.L 42)) (.cells txZ 42);have hb1:=(Blk.new w 42 t.L).alloc (.cells txZ 42);have hb2:=Blk.new (w.alloc (.cells t.L 42)) 42 txZ;rw [jsa] at hb2;go_enter Tryz.func63,Tryz.ntmps63
 go_upto_region 1 with (fail)
 change Code.wp _ _ _ _ ((w.alloc (.cells t.L 42)).alloc (.cells txZ 42));obtain ⟨g,hg⟩:∃ g,w.heap.size = g:=⟨_,rfl⟩;have HW:=jh hg;rw [hg] at hb1 hb2 ⊢;clear hg;have hsz:((w.alloc (.cells t.L 42)).alloc (.cells txZ 42)).heap.size = g + 2:=by rw [jsa,jsa,HW.out]
 generalize (w.alloc (.cells t.L 42)).alloc (.cells txZ 42) = w1 at *;have c0:w1.cell? ⟨g,0,none⟩ = some (.int .i64 t.k):=hb1.cell 0;have c11:w1.cell? ⟨g,11,none⟩ = some (.int .u64 t.g):=hb1.cell 11;have c12:w1.cell? ⟨g,12,none⟩ = some (.string t.d):=hb1.cell 12;have c13:w1.cell? ⟨g,13,none⟩ = some (.int .u64 t.v0):=hb1.cell 13;have c14:w1.cell? ⟨g,14,none⟩ = some (.int .u64 t.v1):=hb1.cell 14;have c15:w1.cell? ⟨g,15,none⟩ = some (.int .u64 t.v2):=hb1.cell 15;have c16:w1.cell? ⟨g,16,none⟩ = some (.int .u64 t.v3):=hb1.cell 16;have c17:w1.cell? ⟨g,17,none⟩ = some (.string t.x):=hb1.cell 17;have HB1:=jh (hb1.alloc (.cells (nmA t).L 42));have HB2:=jh (hb2.alloc (.cells (nmA t).L 42));have HB3:=jh (Blk.new w1 42 (nmA t).L);have HG:=jh (yaa hG (.cells (nmA t).L 42));have HSZ:=jh hsz;clear hb1 hb2 hG hsz;refine jwl ?_
 iterate 36 go_step
 refine wp_store_row 42 (.tmp 3) (.tmp 14) rfl w1.heap.size (nmA t).L rfl rfl 42 txZ (Blk.new w1 _ txZ) (by kernel_rfl) rfl (TA.one _) ?_;rw [World.setRow_alloc_new];obtain ⟨g3,hg3⟩:∃ g,w1.heap.size = g:=⟨_,rfl⟩;rw [hg3] at HB3 ⊢;have HNE:=jh (show g3 = g + 2 by rw [<- hg3];exact HSZ.out);clear hg3;generalize w1.alloc (.cells (nmA t).L 42) = w2 at *;clear c0 c11 c12 c13 c14 c15 c16 c17;have c0:w2.cell? ⟨g,0,none⟩ = some (.int .i64 t.k):=HB1.out.cell 0;obtain ⟨K,hK⟩:∃ K,t.k = K:=⟨_,rfl⟩;rw [hK] at c0;have HK:=jh hK;clear hK;have hkk:K = 0 \/ K = 1 \/ K = 2:=by have:=HKK.out;rw [HK.out] at this;exact this
 have d126:decide (K = 126) = false:=decide_eq_false (by omega);have q126:(K == 126) = false:=by simpa using (show ¬ K = 126 by omega)
 have HKC:=jh hkk;clear hkk;have H:NmS w t (nmA t) g g3 w2:=⟨HB1.out,HB2.out,HB3.out,HG.out,HW.out,HNE.out⟩;clear HB1 HB2 HB3 HG;go_upto_region 8 with (fail)
 refine jwl ?_;clear c0 d126 q126;refine zg (.pointer (some ⟨g,1,none⟩)) ?_;simp only [jp,jb,jz,js];refine yac rfl (.int .u64 t.c) (yaf 23 _ rfl _ rfl _ _ ja5 rfl ((H.a.cell 1).trans rfl)) ?_;simp only [jp,jb,jz,js];refine zg (.pointer (some ⟨g3,1,none⟩)) ?_;simp only [jp,jb,jz,js];rw [<- setRow_self w2 g3 _ 42 (0,0) H.c];refine yaz rfl rfl (ya0 H.c _ 23 (.tmp 33) (.tmp 32) rfl 1 rfl (.int .u64 t.c) rfl [.int .u64 t.c] rfl (by kernel_rfl) (by kernel_rfl) (by simp [ja2]) (nmB t 1).L (by kernel_rfl)) ?_;refine jwn ?_;replace H:=H.put (u':=nmB t 1);generalize w2.setRow g3 (nmB t 1).L = w3 at *;go_upto_region 9 with (fail)
 refine jwl ?_;refine zg (.pointer (some ⟨g,2,none⟩)) ?_;simp only [jp,jb,jz,js];refine yac rfl (.int .u64 t.n) (yaf 23 _ rfl _ rfl _ _ ja5 rfl ((H.a.cell 2).trans rfl)) ?_;simp only [jp,jb,jz,js];refine zg (.pointer (some ⟨g3,2,none⟩)) ?_;simp only [jp,jb,jz,js];rw [<- setRow_self w3 g3 _ 42 (0,0) H.c];refine yaz rfl rfl (ya0 H.c _ 23 (.tmp 36) (.tmp 35) rfl 2 rfl (.int .u64 t.n) rfl [.int .u64 t.n] rfl (by kernel_rfl) (by kernel_rfl) (by simp [ja2]) (nmB t 2).L (by kernel_rfl)) ?_;refine jwn ?_;replace H:=H.put (u':=nmB t 2);generalize w3.setRow g3 (nmB t 2).L = w4 at *;go_upto_region 10 with (fail)
 refine jwl ?_;refine zg (.pointer (some ⟨g,7,none⟩)) ?_;simp only [jp,jb,jz,js];refine yac rfl (.agg #[.int .u64 t.p0,.int .u64 t.p1,.int .u64 t.p2,.int .u64 t.p3]) (yaA _ rfl rfl ((H.a.cell 7).trans rfl) ((H.a.cell 8).trans rfl) ((H.a.cell 9).trans rfl) ((H.a.cell 10).trans rfl)) ?_;simp only [jp,jb,jz,js];refine zg (.pointer (some ⟨g3,7,none⟩)) ?_;simp only [jp,jb,jz,js];rw [<- setRow_self w4 g3 _ 42 (0,0) H.c];refine yaz rfl rfl (ya0 H.c _ 38 (.tmp 39) (.tmp 38) rfl 7 rfl (.agg #[.int .u64 t.p0,.int .u64 t.p1,.int .u64 t.p2,.int .u64 t.p3]) rfl [.int .u64 t.p0,.int .u64 t.p1,.int .u64 t.p2,.int .u64 t.p3] rfl (by kernel_rfl) (by kernel_rfl) (by simp [ja2]) (nmB t 3).L (by kernel_rfl)) ?_;refine jwn ?_;replace H:=H.put (u':=nmB t 3);generalize w4.setRow g3 (nmB t 3).L = w5 at *;go_upto_region 11 with (fail)
 refine jwl ?_;refine zg (.pointer (some ⟨g,20,none⟩)) ?_;simp only [jp,jb,jz,js];refine yac rfl (.int .u64 t.y) (yaf 23 _ rfl _ rfl _ _ ja5 rfl ((H.a.cell 20).trans rfl)) ?_;simp only [jp,jb,jz,js];refine zg (.pointer (some ⟨g3,20,none⟩)) ?_;simp only [jp,jb,jz,js];rw [<- setRow_self w5 g3 _ 42 (0,0) H.c];refine yaz rfl rfl (ya0 H.c _ 23 (.tmp 42) (.tmp 41) rfl 20 rfl (.int .u64 t.y) rfl [.int .u64 t.y] rfl (by kernel_rfl) (by kernel_rfl) (by simp [ja2]) (nmB t 4).L (by kernel_rfl)) ?_;refine jwn ?_;replace H:=H.put (u':=nmB t 4);generalize w5.setRow g3 (nmB t 4).L = w6 at *;go_upto_region 12 with (fail)
 refine jwl ?_;refine zg (.pointer (some ⟨g,21,none⟩)) ?_;simp only [jp,jb,jz,js];refine yac rfl (.agg #[.int .u64 t.r0,.int .u64 t.r1,.int .u64 t.r2,.int .u64 t.r3]) (yaA _ rfl rfl ((H.a.cell 21).trans rfl) ((H.a.cell 22).trans rfl) ((H.a.cell 23).trans rfl) ((H.a.cell 24).trans rfl)) ?_;simp only [jp,jb,jz,js];refine zg (.pointer (some ⟨g3,21,none⟩)) ?_;simp only [jp,jb,jz,js];rw [<- setRow_self w6 g3 _ 42 (0,0) H.c];refine yaz rfl rfl (ya0 H.c _ 38 (.tmp 45) (.tmp 44) rfl 21 rfl (.agg #[.int .u64 t.r0,.int .u64 t.r1,.int .u64 t.r2,.int .u64 t.r3]) rfl [.int .u64 t.r0,.int .u64 t.r1,.int .u64 t.r2,.int .u64 t.r3] rfl (by kernel_rfl) (by kernel_rfl) (by simp [ja2]) (nmB t 5).L (by kernel_rfl)) ?_;refine jwn ?_;replace H:=H.put (u':=nmB t 5);generalize w6.setRow g3 (nmB t 5).L = w7 at *;go_upto_region 13 with (fail)
 refine jwl ?_;refine zg (.pointer (some ⟨g,25,none⟩)) ?_;simp only [jp,jb,jz,js];refine yac rfl (.agg #[.int .u64 t.s0,.int .u64 t.s1,.int .u64 t.s2,.int .u64 t.s3]) (yaA _ rfl rfl ((H.a.cell 25).trans rfl) ((H.a.cell 26).trans rfl) ((H.a.cell 27).trans rfl) ((H.a.cell 28).trans rfl)) ?_;simp only [jp,jb,jz,js];refine zg (.pointer (some ⟨g3,25,none⟩)) ?_;simp only [jp,jb,jz,js];rw [<- setRow_self w7 g3 _ 42 (0,0) H.c];refine yaz rfl rfl (ya0 H.c _ 38 (.tmp 48) (.tmp 47) rfl 25 rfl (.agg #[.int .u64 t.s0,.int .u64 t.s1,.int .u64 t.s2,.int .u64 t.s3]) rfl [.int .u64 t.s0,.int .u64 t.s1,.int .u64 t.s2,.int .u64 t.s3] rfl (by kernel_rfl) (by kernel_rfl) (by simp [ja2]) (nmB t 6).L (by kernel_rfl)) ?_;refine jwn ?_;replace H:=H.put (u':=nmB t 6);generalize w7.setRow g3 (nmB t 6).L = w8 at *;rcases HKC.out with h | h | h
 ·subst h;have c0:w8.cell? ⟨g,0,none⟩ = some (.int .i64 0):=by rw [<- HK.out];exact H.a.cell 0
  go_upto_region 20 with (fail)
  clear c0;refine jwl ?_;refine wpList_load_row rfl 42 (.tmp 3) rfl g3 rfl 42 (nmB t 6).L (0,0) _ H.c ja3 rfl (by kernel_rfl) ?_;simp only [jp,jb,jz,js];refine jsw rfl 42 (.tmp 2) (.tmp 67) rfl (g + 1) (nmB t 6).L rfl rfl 42 txZ H.b (by kernel_rfl) rfl (TA.one _) ?_;have HR2:=jh (yaI (cs':=(nmB t 6).L) H.b);have HG3:=jh (yba (g:=g + 1) H.d (by have:=H.e;omega) (nmB t 6).L);generalize w8.setRow (g + 1) (nmB t 6).L = w99 at *;refine jwn ?_;simp only [jp,jb,jz,js];go_wp2_with fail
  refine jbr (results_cell_row (fn:=Tryz.f63) rfl _ _ _ _ _ _ _ rfl HR2.out ja3 rfl (by kernel_rfl)) rfl ?_;exact ⟨by rw [<- HQ.out,HK.out];rfl,HG3.out⟩
 ·subst h;have c0:w8.cell? ⟨g,0,none⟩ = some (.int .i64 1):=by rw [<- HK.out];exact H.a.cell 0
  go_upto_region 15 with (fail)
  refine jwl ?_;clear c0;refine zg (.pointer (some ⟨g,18,none⟩)) ?_;simp only [jp,jb,jz,js];refine yac rfl (.slice t.pa t.na t.xa) (yaf 39 _ rfl _ rfl _ _ Tryz.underlying39 rfl ((H.a.cell 18).trans rfl)) ?_;simp only [jp,jb,jz,js];refine zg (.pointer (some ⟨g3,18,none⟩)) ?_;simp only [jp,jb,jz,js];rw [<- setRow_self w8 g3 _ 42 (0,0) H.c];refine yaz rfl rfl (ya0 H.c _ 39 (.tmp 54) (.tmp 53) rfl 18 rfl (.slice t.pa t.na t.xa) rfl [.slice t.pa t.na t.xa] rfl (by kernel_rfl) (by kernel_rfl) (by simp [ja2]) (nmX true t (nmB t 6)).L (by kernel_rfl)) ?_;refine jwn ?_;replace H:=H.put (u':=nmX true t (nmB t 6));generalize w8.setRow g3 (nmX true t (nmB t 6)).L = w9 at *;have c0:w9.cell? ⟨g,0,none⟩ = some (.int .i64 1):=by rw [<- HK.out];exact H.a.cell 0
  go_upto_region 20 with (fail)
  clear c0;refine jwl ?_;refine wpList_load_row rfl 42 (.tmp 3) rfl g3 rfl 42 (nmX true t (nmB t 6)).L (0,0) _ H.c ja3 rfl (by kernel_rfl) ?_;simp only [jp,jb,jz,js];refine jsw rfl 42 (.tmp 2) (.tmp 67) rfl (g + 1) (nmX true t (nmB t 6)).L rfl rfl 42 txZ H.b (by kernel_rfl) rfl (TA.one _) ?_;have HR2:=jh (yaI (cs':=(nmX true t (nmB t 6)).L) H.b);have HG3:=jh (yba (g:=g + 1) H.d (by have:=H.e;omega) (nmX true t (nmB t 6)).L);generalize w9.setRow (g + 1) (nmX true t (nmB t 6)).L = w99 at *;refine jwn ?_;simp only [jp,jb,jz,js];go_wp2_with fail
  refine jbr (results_cell_row (fn:=Tryz.f63) rfl _ _ _ _ _ _ _ rfl HR2.out ja3 rfl (by kernel_rfl)) rfl ?_;exact ⟨by rw [<- HQ.out,HK.out];rfl,HG3.out⟩
 ·subst h;have c0:w8.cell? ⟨g,0,none⟩ = some (.int .i64 2):=by rw [<- HK.out];exact H.a.cell 0
  go_upto_region 15 with (fail)
  refine jwl ?_;clear c0;refine zg (.pointer (some ⟨g,18,none⟩)) ?_;simp only [jp,jb,jz,js];refine yac rfl (.slice t.pa t.na t.xa) (yaf 39 _ rfl _ rfl _ _ Tryz.underlying39 rfl ((H.a.cell 18).trans rfl)) ?_;simp only [jp,jb,jz,js];refine zg (.pointer (some ⟨g3,18,none⟩)) ?_;simp only [jp,jb,jz,js];rw [<- setRow_self w8 g3 _ 42 (0,0) H.c];refine yaz rfl rfl (ya0 H.c _ 39 (.tmp 54) (.tmp 53) rfl 18 rfl (.slice t.pa t.na t.xa) rfl [.slice t.pa t.na t.xa] rfl (by kernel_rfl) (by kernel_rfl) (by simp [ja2]) (nmX true t (nmB t 6)).L (by kernel_rfl)) ?_;refine jwn ?_;replace H:=H.put (u':=nmX true t (nmB t 6));generalize w8.setRow g3 (nmX true t (nmB t 6)).L = w9 at *;have c0:w9.cell? ⟨g,0,none⟩ = some (.int .i64 2):=by rw [<- HK.out];exact H.a.cell 0
  go_upto_region 17 with (fail)
  refine jwl ?_;clear c0;refine zg (.pointer (some ⟨g,3,none⟩)) ?_;simp only [jp,jb,jz,js];refine yac rfl (.agg #[.int .u64 t.t0,.int .u64 t.t1,.int .u64 t.t2,.int .u64 t.t3]) (yaA _ rfl rfl ((H.a.cell 3).trans rfl) ((H.a.cell 4).trans rfl) ((H.a.cell 5).trans rfl) ((H.a.cell 6).trans rfl)) ?_;simp only [jp,jb,jz,js];refine zg (.pointer (some ⟨g3,3,none⟩)) ?_;simp only [jp,jb,jz,js];rw [<- setRow_self w9 g3 _ 42 (0,0) H.c];refine yaz rfl rfl (ya0 H.c _ 38 (.tmp 60) (.tmp 59) rfl 3 rfl (.agg #[.int .u64 t.t0,.int .u64 t.t1,.int .u64 t.t2,.int .u64 t.t3]) rfl [.int .u64 t.t0,.int .u64 t.t1,.int .u64 t.t2,.int .u64 t.t3] rfl (by kernel_rfl) (by kernel_rfl) (by simp [ja2]) (nmT true t (nmX true t (nmB t 6))).L (by kernel_rfl)) ?_;refine jwn ?_;replace H:=H.put (u':=nmT true t (nmX true t (nmB t 6)));generalize w9.setRow g3 (nmT true t (nmX true t (nmB t 6))).L = w10 at *;have c0:w10.cell? ⟨g,0,none⟩ = some (.int .i64 2):=by rw [<- HK.out];exact H.a.cell 0
  go_upto_region 20 with (fail)
  clear c0;refine jwl ?_;refine wpList_load_row rfl 42 (.tmp 3) rfl g3 rfl 42 (nmT true t (nmX true t (nmB t 6))).L (0,0) _ H.c ja3 rfl (by kernel_rfl) ?_;simp only [jp,jb,jz,js];refine jsw rfl 42 (.tmp 2) (.tmp 67) rfl (g + 1) (nmT true t (nmX true t (nmB t 6))).L rfl rfl 42 txZ H.b (by kernel_rfl) rfl (TA.one _) ?_;have HR2:=jh (yaI (cs':=(nmT true t (nmX true t (nmB t 6))).L) H.b);have HG3:=jh (yba (g:=g + 1) H.d (by have:=H.e;omega) (nmT true t (nmX true t (nmB t 6))).L);generalize w10.setRow (g + 1) (nmT true t (nmX true t (nmB t 6))).L = w99 at *;refine jwn ?_;simp only [jp,jb,jz,js];go_wp2_with fail
  refine jbr (results_cell_row (fn:=Tryz.f63) rfl _ _ _ _ _ _ _ rfl HR2.out ja3 rfl (by kernel_rfl)) rfl ?_;exact ⟨by rw [<- HQ.out,HK.out];rfl,HG3.out⟩
def ylX (sm d20 d0 y oa ou k0 c:Bool):Bool:=!sm || !(d20 || d0) || y || oa || ou || (k0 && c)
theorem yof {t:TxV} (hk:t.kind = 0 \/ t.kind = 1 \/ t.kind = 2):yev t = if ylX (decide (t = ybQ t)) (decide (t.dst.size = 20)) (decide (t.dst.size = 0)) (decide (1 < t.y)) (t.acc.any ybc) (t.auths.any ybm) (decide (t.kind = 0)) (decide (4611686018427387904 < t.chain)) = true then 2 else if yk8 t = true then 5 else 0:=by
 have hc:decide (t.chain <= 4611686018427387904) = !decide (4611686018427387904 < t.chain):=by
  by_cases h:t.chain <= 4611686018427387904
  ·rw [decide_eq_true h,decide_eq_false (by omega)];rfl
  ·rw [decide_eq_false h,decide_eq_true (by omega)];rfl
 have hi:ydT t.kind = true:=by unfold ydT;exact decide_eq_true (by omega)
 unfold yev yeA ygp ydx ylX yk8;rw [hi,hc,if_neg (by simp)];have e4:¬ t.kind = 4:=by omega
 have e126:¬ t.kind = 126:=by omega
 rw [if_neg e4,if_neg e126];by_cases h0:t.kind = 0
 ·rw [if_pos h0,decide_eq_true h0];generalize decide (t = ybQ t) = sm;generalize decide (t.dst.size = 20) = d20;generalize decide (t.dst.size = 0) = d0;generalize decide (1 < t.y) = y;generalize t.acc.any ybc = oa;generalize t.auths.any ybm = ou;generalize decide (4611686018427387904 < t.chain) = c;generalize decide (4096 < t.data.size) = bd;generalize decide (16 < t.acc.length) = ba;generalize t.acc.any yb8 = bp;generalize decide (8 < t.auths.length) = bu;clear hc hi e4 e126 h0 hk
  revert sm d20 d0 y oa ou c bd ba bp bu
  decide +kernel
 ·rw [if_neg h0,decide_eq_false h0];generalize decide (t = ybQ t) = sm;generalize decide (t.dst.size = 20) = d20;generalize decide (t.dst.size = 0) = d0;generalize decide (1 < t.y) = y;generalize t.acc.any ybc = oa;generalize t.auths.any ybm = ou;generalize decide (4611686018427387904 < t.chain) = c;generalize decide (4096 < t.data.size) = bd;generalize decide (16 < t.acc.length) = ba;generalize t.acc.any yb8 = bp;generalize decide (8 < t.auths.length) = bu;clear hc hi e4 e126 h0 hk
  revert sm d20 d0 y oa ou c bd ba bp bu
  decide +kernel
section
variable {P:Program} {ops:Array Oper} {o:Oper} {rest:List Oper} {C:World -> Prop} {Q:Act -> Prop} {a:Act}
def mayV (g:Bool) (v:Value):Value:=bif g then v else undef
theorem yav (g:Bool) (hg:jb6 o (yielded ops a.tmps) = g) (v:Value) (h:g = true -> ∀ W,C W -> (execOp a.eval o).run P W = .ok (.value v) W) (hk:wpQuiet P ops C Q rest (a.put o.dst (mayV g v))):wpQuiet P ops C Q (o :: rest) a:=by
 cases g with
 | true=>exact yad hg v (h rfl) hk
 | false=>exact ybu hg hk
theorem yeD (g:Bool) (hg:jb6 o (yielded ops a.tmps) = g) (v:Value) (f:FuncId) (args:Array Value) (h:g = true -> ∀ W,C W -> (execOp a.eval o).run P W = .ok (.enter f args) W)
  (hc:∀ W,C W -> Calls P f args W fun e w''=>e = .returned v /\ C w'') (hk:wpQuiet P ops C Q rest (a.put o.dst (mayV g v))):wpQuiet P ops C Q (o :: rest) a:=by
 cases g with
 | true=>exact ybE hg v f args (h rfl) hc hk
 | false=>exact ybu hg hk
theorem yfC {W:World} (x:Operand) {ty:TypeId} (ho:o.op = .unOp .not ty x) (b:Bool) (hx:a.eval x = .bool b):(execOp a.eval o).run P W = .ok (.value (.bool (!b))) W:=by
 unfold execOp;generalize a.eval = ev at *;simp [ho,hx,go_sem]
theorem yip {W:World} (x:Operand) {ty:TypeId} (ho:o.op = .unOp .not ty x) (b:Bool) (hx:a.eval x = .bool (!b)):(execOp a.eval o).run P W = .ok (.value (.bool b)) W:=by
 have h:=yfC (P:=P) (W:=W) x ho (!b) hx
 rwa [Bool.not_not] at h
theorem ykQ (a:Act) (o:Oper) (V:World) (x:Operand) (k n:Nat) (ho:o.op = .binOp .gtr 23 x (.const (.int .u64 (k:Int))) 23) (hx:a.eval x = .int .u64 (n:Int)):(execOp a.eval o).run jq V = .ok (.value (.bool (decide ((k:Int) < (n:Int))))) V:=by
 have h1:a.eval (.const (.int .u64 (k:Int))) = .int .u64 (k:Int):=rfl;unfold execOp;generalize a.eval = ev at *;simp [ho,hx,h1,go_sem]
theorem yes {W:World} (x:Operand) (k n:Int) (ho:o.op = .binOp .eql 3 x (.const (.int .i64 k)) 3) (hx:a.eval x = .int .i64 n):(execOp a.eval o).run jq W = .ok (.value (.bool (decide (n = k)))) W:=by
 have h1:a.eval (.const (.int .i64 k)) = .int .i64 k:=rfl;unfold execOp;generalize a.eval = ev at *;by_cases h:n = k
 ·subst h;simp [ho,hx,h1,go_sem]
 ·have h2:(n == k) = false:=by simpa using h
  simp [ho,hx,h1,go_sem,h,h2]
theorem ydJ {W:World} (c y:Operand) (ho:o.op = .pick c (.const (.bool true)) y) (b d r:Bool) (hc:a.eval c = .bool b) (hy:b = false -> a.eval y = .bool d) (hr:(b || d) = r):(execOp a.eval o).run P W = .ok (.value (.bool r)) W:=by
 have h1:a.eval (.const (.bool true)) = .bool true:=rfl;subst hr;unfold execOp;generalize a.eval = ev at *;cases b with
 | true=>simp [ho,hc,h1,go_sem]
 | false=>have h2:=hy rfl;simp [ho,hc,h2,go_sem]
theorem yir {W:World} (c x:Operand) (ho:o.op = .pick c x (.const (.bool false))) (b d:Bool) (hc:a.eval c = .bool b) (hx:b = true -> a.eval x = .bool d):(execOp a.eval o).run P W = .ok (.value (.bool (b && d))) W:=by
 have h1:a.eval (.const (.bool false)) = .bool false:=rfl;unfold execOp;generalize a.eval = ev at *;cases b with
 | true=>have h2:=hx rfl;simp [ho,hc,h2,go_sem]
 | false=>simp [ho,hc,h1,go_sem]
end
theorem ylV (t:TxV) (hk:t.kind = 0 \/ t.kind = 1 \/ t.kind = 2) (pa:Option Addr) (na xa:Nat) (pb:Option Addr) (nb xb:Nat) (w:World) :
  Calls jq 63 #[.agg (txC t (.slice pa na xa) (.slice pb nb xb))] w fun e w'=>e = .returned (.agg (txC (ybQ t) (accS t (.slice pa na xa)) (autS t (.slice pb nb xb)))) /\ w.grownBy w' none:=by
 rw [show txC t (.slice pa na xa) (.slice pb nb xb) = (TA.of t pa na xa pb nb xb).L from by rw [ylu];rfl];refine (ylU (TA.of t pa na xa pb nb xb) hk w).mono ?_;rintro e w2 ⟨rfl,hg⟩;refine ⟨?_,hg⟩;obtain ⟨kind,chain,nonce,tip,price,gas,dst,value,data,acc,auths,y,r,s,source,frm,mint,system⟩:=t;rcases hk with h | h | h <;> (simp only at h;subst h;kernel_rfl)
theorem yhC (t:TxV) (hk:t.kind = 0 \/ t.kind = 1 \/ t.kind = 2) (B:Nat) (sa sb:Value) (w:World) (h:TxIn B w t sa sb) (hB:B <= w.heap.size) (ok:t.Ok) (kf:ycp t) :
  Calls jq 19 #[.agg (txC t sa sb)] w fun e w'=>e = .returned (.int .i64 (yev t)) /\ w.grownBy w' none:=by
 have hG:=yaa (jr w none) (.cells (txC t sa sb) 42);have hb1:=Blk.new w 42 (txC t sa sb);have hI:=h.grown hG hB;have hB1:=jlt hB hG.size;obtain ⟨⟨pa,xa,hsa,hacc⟩,⟨pb,xb,hsb,haut⟩,la,lb⟩:=hI;have hI:=h.grown hG hB;have hMU:=jh (fun V (hV:(w.alloc (.cells (txC t sa sb) 42)).grownBy V none)=>ymc t B sa sb V (hI.grown hV hB1) (jlt hB1 hV.size));have hck:=yof hk;have hi2:=yjK hI
 have kf2:ycp (ybQ t):=fun x hx=>by
  have:(ybQ t).acc = [] \/ (ybQ t).acc = t.acc:=by unfold ybQ;split <;> (first | (left;rfl) | (show (if _ then _ else _) = _ \/ _;split;exact .inr rfl;exact .inl rfl))
  rcases this with h9 | h9
  ·rw [h9] at hx;cases hx
  ·rw [h9] at hx;exact kf x hx
 obtain ⟨na,hna⟩:∃ n,t.acc.length = n:=⟨_,rfl⟩;obtain ⟨nb,hnb⟩:∃ n,t.auths.length = n:=⟨_,rfl⟩;rw [hna] at hsa la hacc;rw [hnb] at hsb lb haut;subst hsa;subst hsb;have HON:=jh (fun V=>ylV t hk pa na xa pb nb xb V);have HSA:=jh (fun (V:World) (hV:(w.alloc (.cells (txC t (.slice pa na xa) (.slice pb nb xb)) 42)).grownBy V none)=>yfk t (ybQ t) B B _ _ _ _ V (hI.grown hV hB1) (hi2.grown hV hB1) (jlt hB1 hV.size) (jlt hB1 hV.size) ok (yjJ ok) kf kf2);have HAA:=jh (fun (V:World) (hV:(w.alloc (.cells (txC t (.slice pa na xa) (.slice pb nb xb)) 42)).grownBy V none)=>yol t.acc B pa na xa V (hacc.grown hV hB1) la);have HAU:=jh (fun (V:World) (hV:(w.alloc (.cells (txC t (.slice pa na xa) (.slice pb nb xb)) 42)).grownBy V none)=>yok t.auths B pb nb xb V (haut.grown hV) lb);obtain ⟨CK,hCK⟩:∃ x,yev t = x:=⟨_,rfl⟩;rw [hCK] at hck ⊢;obtain ⟨sm,hsm⟩:∃ b,decide (t = ybQ t) = b:=⟨_,rfl⟩;obtain ⟨oa,hoa⟩:∃ b,t.acc.any ybc = b:=⟨_,rfl⟩;obtain ⟨ou,hou⟩:∃ b,t.auths.any ybm = b:=⟨_,rfl⟩;obtain ⟨mu,hmu⟩:∃ b,yk8 t = b:=⟨_,rfl⟩;rw [hsm] at HSA hck;rw [hoa] at HAA hck;rw [hou] at HAU hck;rw [hmu] at hMU hck;generalize hcn:txC (ybQ t) (accS t (.slice pa na xa)) (autS t (.slice pb nb xb)) = cn at *;have z0:(txC t (.slice pa na xa) (.slice pb nb xb))[0]? = some (.int .i64 t.kind):=rfl;have z1:(txC t (.slice pa na xa) (.slice pb nb xb))[1]? = some (.int .u64 (t.chain:Int)):=rfl;have z12:(txC t (.slice pa na xa) (.slice pb nb xb))[12]? = some (.string t.dst):=rfl;have z18:(txC t (.slice pa na xa) (.slice pb nb xb))[18]? = some (.slice pa na xa):=rfl;have z19:(txC t (.slice pa na xa) (.slice pb nb xb))[19]? = some (.slice pb nb xb):=rfl;have z20:(txC t (.slice pa na xa) (.slice pb nb xb))[20]? = some (.int .u64 (t.y:Int)):=rfl;have hsz:(txC t (.slice pa na xa) (.slice pb nb xb)).size = 36:=rfl;generalize txC t (.slice pa na xa) (.slice pb nb xb) = ct at *;obtain ⟨K,hK⟩:∃ n,t.kind = n:=⟨_,rfl⟩;obtain ⟨C,hC⟩:∃ n,t.chain = n:=⟨_,rfl⟩;obtain ⟨Y,hY⟩:∃ n,t.y = n:=⟨_,rfl⟩;obtain ⟨D,hD⟩:∃ n,t.dst = n:=⟨_,rfl⟩;rw [hK] at hk z0 hck;rw [hC] at z1 hck;rw [hY] at z20 hck;rw [hD] at z12 hck;have HSZ:=jh hsz;have HCK:=jh hck;have HK:=jh hk;clear h hB ok kf hacc haut la lb hI hB1 hi2 kf2 hna hnb hCK hsm hoa hou hmu hcn hsz hK hC hY hD hk hck;go_enter Tryz.func19,Tryz.ntmps19
 go_upto_region 1 with (fail)
 obtain ⟨g,hg⟩:∃ g,w.heap.size = g:=⟨_,rfl⟩;rw [hg] at hb1 ⊢;clear hg;generalize w.alloc (.cells ct 42) = w1 at *;have c0:=(hb1.cell 0).trans z0;have c1:=(hb1.cell 1).trans z1;have c12:=(hb1.cell 12).trans z12;have c18:=(hb1.cell 18).trans z18;have c19:=(hb1.cell 19).trans z19;have c20:=(hb1.cell 20).trans z20;have HB1:=jh hb1;have HG:=jh hG;have C1:=jh c1;have C12:=jh c12;have C18:=jh c18;have C19:=jh c19;have C20:=jh c20;have C0:=jh c0;clear hb1 hG z0 z1 z12 z18 z19 z20 c1 c12 c18 c19 c20;go_cut [26] (fun v wx=>v = .bool false /\ wx = w1)
 case first =>
  rcases HK.out with h | h | h
  ·subst h;go_wp2_with fail
   go_meet
   exact ⟨rfl,rfl⟩
  ·subst h;go_wp2_with fail
   go_meet
   exact ⟨rfl,rfl⟩
  ·subst h;go_wp2_with fail
   go_meet
   exact ⟨rfl,rfl⟩
 case rest =>
 obtain ⟨rfl,rfl⟩:=hcut;obtain ⟨to_,hto⟩:∃ x,(decide (D.size = 20) || decide (D.size = 0)) = x:=⟨_,rfl⟩;have HTO:=jh hto;clear c0;go_upto_region 3 with (fail)
 have c0:=C0.out;have c12:=C12.out;go_cut [3] (fun v wx=>v = .bool to_ /\ wx = wc)
 case first =>
  have q4:(K != 4) = true:=by have:=HK.out;simpa using (show ¬ K = 4 by omega)
  by_cases h20:D.size = 20
  ·have q1:((D.size:Int) == 20) = true:=by simpa using (show (D.size:Int) = 20 by omega)
   have q1n:(D.size == 20) = true:=by simpa using h20
   obtain rfl:to_ = true:=by rw [<- hto,decide_eq_true h20];rfl
   clear hto h20;go_wp2_with fail
   go_meet
   exact ⟨rfl,rfl⟩
  ·have q1:((D.size:Int) == 20) = false:=by simpa using (show ¬ (D.size:Int) = 20 by omega)
   have q1n:(D.size == 20) = false:=by simpa using h20
   rw [decide_eq_false h20,Bool.false_or] at hto;by_cases h0:D.size = 0
   ·have hd:D = ⟨#[]⟩:=ByteArray.size_eq_zero_iff.1 h0;have q2:(D.toList == []) = true:=by rw [hd];simp
    have q3:D.toList.isEmpty = true:=by rw [hd];simp
    obtain rfl:to_ = true:=by rw [<- hto,decide_eq_true h0]
    clear hto h0 h20 hd;go_wp2_with fail
    go_meet
    exact ⟨rfl,rfl⟩
   ·obtain ⟨_,_,q2,q3,_⟩:=ynh (s:=D) (fun e=>h0 (by rw [e];rfl));obtain rfl:to_ = false:=by rw [<- hto,decide_eq_false h0]
    clear hto h0 h20;go_wp2_with fail
    go_meet
    exact ⟨rfl,rfl⟩
 case rest =>
 obtain ⟨rfl,rfl⟩:=hcut;clear hto c0 c12;obtain ⟨R,hR⟩:∃ x,ylX sm (decide (D.size = 20)) (decide (D.size = 0)) (decide (1 < Y)) oa ou (decide (K = 0)) (decide (4611686018427387904 < C)) = x:=⟨_,rfl⟩;have hck:=HCK.out;rw [hR] at hck;have hR2:(!sm || !to_ || decide (1 < Y) || oa || ou || (decide (K = 0) && decide (4611686018427387904 < C))) = R:=by rw [<- hR,<- HTO.out];rfl
 have HCK:=jh hck;have HR:=jh hR2;clear hck hR hR2 HTO;go_upto_region 4 with (fail)
 go_cut [87] (fun v wx=>v = .bool R /\ wc.grownBy wx none)
 case first =>
  have hC0:(fun V=>Below wc.heap.size wc V) wc.drew:=⟨rfl,rfl,rfl,jle _,fun _ _=>rfl⟩;refine yaC (fun V=>Below wc.heap.size wc V) (by kernel_rfl) (by kernel_rfl) hC0 ?_;(try simp only [jp]);refine yad rfl (.agg ct) (fun V hV=>yaq rfl rfl 42 _ _ (HB1.out.grown (yae hV) (by simp)) ja3 rfl ((show (jq.info? 42).map (·.size) = some 36 by kernel_rfl).trans (congrArg some HSZ.out.symm))) ?_;simp only [jp,jb,jz,js];refine yad rfl (.agg ct) (fun V hV=>yaq rfl rfl 42 _ _ (HB1.out.grown (yae hV) (by simp)) ja3 rfl ((show (jq.info? 42).map (·.size) = some 36 by kernel_rfl).trans (congrArg some HSZ.out.symm))) ?_;simp only [jp,jb,jz,js];refine ybE rfl (.agg cn) 63 #[.agg ct] (fun V hV=>yak _ (.tmp 42) _ rfl _ rfl (jeo Tryz.func63 (by kernel_rfl) rfl _ _)) (fun V hV=>(HON.out V).mono fun e V' ⟨h1,h2⟩=>⟨h1,ycz hV h2⟩) ?_;simp only [jp,jb,jz,js];refine ybE rfl (.bool sm) 56 #[.agg ct,.agg cn] (fun V hV=>ya4 _ (.tmp 41) (.tmp 43) _ rfl _ _ rfl rfl (jeo Tryz.func56 (by kernel_rfl) rfl _ _)) (fun V hV=>(HSA.out V (yae hV)).mono fun e V' ⟨h1,h2⟩=>⟨h1,ycz hV h2⟩) ?_;simp only [jp,jb,jz,js];obtain ⟨y0,hy0⟩:∃ x,(!sm) = x:=⟨_,rfl⟩;refine yad rfl (.bool y0) (fun V hV=>by rw [<- hy0];exact yfC (.tmp 44) rfl sm rfl) ?_;simp only [jp,jb,jz,js];refine yad rfl (.bool y0) (fun V hV=>yan (.tmp 45) rfl _ rfl) ?_;simp only [jp,jb,jz,js];refine yav (!y0) (by cases y0 <;> rfl) (.bool to_) (fun hgd V hV=>yan (.tmp 3) rfl _ rfl) ?_;simp only [jp,jb,jz,js];refine yav (!y0) (by cases y0 <;> rfl) (.bool (!to_)) (fun hgd V hV=>yfC (.tmp 47) rfl to_ (by show mayV _ _ = _;rw [hgd];rfl)) ?_;simp only [jp,jb,jz,js];obtain ⟨y1,hy1⟩:∃ x,(y0 || !to_) = x:=⟨_,rfl⟩;refine yad rfl (.bool y1) (fun V hV=>ydJ (.tmp 46) (.tmp 48) rfl y0 (!to_) y1 rfl (fun hb=>by subst hb;rfl) hy1) ?_;simp only [jp,jb,jz,js];refine yad rfl (.bool y1) (fun V hV=>yan (.tmp 49) rfl _ rfl) ?_;simp only [jp,jb,jz,js];refine yav (!y1) (by cases y1 <;> rfl) (.pointer (some ⟨g,20,none⟩)) (fun hgd V hV=>by go_simp <;> rfl) ?_;simp only [jp,jb,jz,js];refine yav (!y1) (by cases y1 <;> rfl) (.int .u64 (Y:Int)) (fun hgd V hV=>yaf 23 (.tmp 51) rfl _ (by show mayV _ _ = _;rw [hgd];rfl) _ _ ja5 rfl ((yae hV).cell C20.out (by simp))) ?_;simp only [jp,jb,jz,js];obtain ⟨cy,hcy⟩:∃ x,(decide (1 < Y)) = x:=⟨_,rfl⟩;have qy:decide ((1:Int) < (Y:Int)) = cy:=by rw [<- hcy];exact decide_eq_decide.2 (by omega)
  have HGT:∀ (a:Act) (o:Oper) (V:World) (x:Operand) (k n:Nat),o.op = .binOp .gtr 23 x (.const (.int .u64 (k:Int))) 23 -> a.eval x = .int .u64 (n:Int) -> (execOp a.eval o).run jq V = .ok (.value (.bool (decide ((k:Int) < (n:Int))))) V:=ykQ;refine yav (!y1) (by cases y1 <;> rfl) (.bool cy) (fun hgd V hV=>by rw [<- qy];exact HGT _ _ _ (.tmp 52) 1 Y rfl (by show mayV _ _ = _;rw [hgd];rfl)) ?_;simp only [jp,jb,jz,js];obtain ⟨y2,hy2⟩:∃ x,(y1 || cy) = x:=⟨_,rfl⟩;refine yad rfl (.bool y2) (fun V hV=>ydJ (.tmp 50) (.tmp 53) rfl y1 (cy) y2 rfl (fun hb=>by subst hb;rfl) hy2) ?_;simp only [jp,jb,jz,js];refine yad rfl (.bool y2) (fun V hV=>yan (.tmp 54) rfl _ rfl) ?_;simp only [jp,jb,jz,js];refine yav (!y2) (by cases y2 <;> rfl) (.pointer (some ⟨g,18,none⟩)) (fun hgd V hV=>by go_simp <;> rfl) ?_;simp only [jp,jb,jz,js];refine yav (!y2) (by cases y2 <;> rfl) (.slice pa na xa) (fun hgd V hV=>yaf 39 (.tmp 56) rfl _ (by show mayV _ _ = _;rw [hgd];rfl) _ _ Tryz.underlying39 rfl ((yae hV).cell C18.out (by simp))) ?_;simp only [jp,jb,jz,js];refine yeD (!y2) (by cases y2 <;> rfl) (.bool (!oa)) 64 #[.slice pa na xa] (fun hgd V hV=>yak _ (.tmp 57) _ rfl _ (by show mayV _ _ = _;rw [hgd];rfl) (jeo Tryz.func64 (by kernel_rfl) rfl _ _)) (fun V hV=>(HAA.out V (yae hV)).mono fun e V' ⟨h1,h2⟩=>⟨h1,by rw [h2];exact hV⟩) ?_;simp only [jp,jb,jz,js];refine yav (!y2) (by cases y2 <;> rfl) (.bool oa) (fun hgd V hV=>yip (.tmp 58) rfl oa (by show mayV _ _ = _;rw [hgd];rfl)) ?_;simp only [jp,jb,jz,js];obtain ⟨y3,hy3⟩:∃ x,(y2 || oa) = x:=⟨_,rfl⟩;refine yad rfl (.bool y3) (fun V hV=>ydJ (.tmp 55) (.tmp 59) rfl y2 (oa) y3 rfl (fun hb=>by subst hb;rfl) hy3) ?_;simp only [jp,jb,jz,js];refine yad rfl (.bool y3) (fun V hV=>yan (.tmp 60) rfl _ rfl) ?_;simp only [jp,jb,jz,js];refine yav (!y3) (by cases y3 <;> rfl) (.pointer (some ⟨g,19,none⟩)) (fun hgd V hV=>by go_simp <;> rfl) ?_;simp only [jp,jb,jz,js];refine yav (!y3) (by cases y3 <;> rfl) (.slice pb nb xb) (fun hgd V hV=>yaf 40 (.tmp 62) rfl _ (by show mayV _ _ = _;rw [hgd];rfl) _ _ Tryz.underlying40 rfl ((yae hV).cell C19.out (by simp))) ?_;simp only [jp,jb,jz,js];refine yeD (!y3) (by cases y3 <;> rfl) (.bool (!ou)) 65 #[.slice pb nb xb] (fun hgd V hV=>yak _ (.tmp 63) _ rfl _ (by show mayV _ _ = _;rw [hgd];rfl) (jeo Tryz.func65 (by kernel_rfl) rfl _ _)) (fun V hV=>(HAU.out V (yae hV)).mono fun e V' ⟨h1,h2⟩=>⟨h1,by rw [h2];exact hV⟩) ?_;simp only [jp,jb,jz,js];refine yav (!y3) (by cases y3 <;> rfl) (.bool ou) (fun hgd V hV=>yip (.tmp 64) rfl ou (by show mayV _ _ = _;rw [hgd];rfl)) ?_;simp only [jp,jb,jz,js];obtain ⟨y4,hy4⟩:∃ x,(y3 || ou) = x:=⟨_,rfl⟩;refine yad rfl (.bool y4) (fun V hV=>ydJ (.tmp 61) (.tmp 65) rfl y3 (ou) y4 rfl (fun hb=>by subst hb;rfl) hy4) ?_;simp only [jp,jb,jz,js];refine yad rfl (.bool y4) (fun V hV=>yan (.tmp 66) rfl _ rfl) ?_;simp only [jp,jb,jz,js];refine yav (!y4) (by cases y4 <;> rfl) (.pointer (some ⟨g,0,none⟩)) (fun hgd V hV=>by go_simp <;> rfl) ?_;simp only [jp,jb,jz,js];refine yav (!y4) (by cases y4 <;> rfl) (.int .i64 K) (fun hgd V hV=>yaf 3 (.tmp 68) rfl _ (by show mayV _ _ = _;rw [hgd];rfl) _ _ jb8 rfl ((yae hV).cell C0.out (by simp))) ?_;simp only [jp,jb,jz,js];obtain ⟨k0,hk0⟩:∃ x,(decide (K = 0)) = x:=⟨_,rfl⟩;obtain ⟨cc,hcc⟩:∃ x,(decide (4611686018427387904 < C)) = x:=⟨_,rfl⟩;have qc:decide (((4611686018427387904:Nat):Int) < (C:Int)) = cc:=by rw [<- hcc];exact decide_eq_decide.2 (by omega)
  refine yav (!y4) (by cases y4 <;> rfl) (.bool k0) (fun hgd V hV=>by rw [<- hk0];exact yes (.tmp 69) 0 K rfl (by show mayV _ _ = _;rw [hgd];rfl)) ?_;simp only [jp,jb,jz,js];refine yav (!y4) (by cases y4 <;> rfl) (.bool k0) (fun hgd V hV=>yan (.tmp 70) rfl _ (by show mayV _ _ = _;rw [hgd];rfl)) ?_;simp only [jp,jb,jz,js];refine yav (!y4 && k0) (by cases y4 <;> cases k0 <;> rfl) (.pointer (some ⟨g,1,none⟩)) (fun hgd V hV=>by go_simp <;> rfl) ?_;simp only [jp,jb,jz,js];refine yav (!y4 && k0) (by cases y4 <;> cases k0 <;> rfl) (.int .u64 (C:Int)) (fun hgd V hV=>yaf 23 (.tmp 72) rfl _ (by show mayV _ _ = _;rw [hgd];rfl) _ _ ja5 rfl ((yae hV).cell C1.out (by simp))) ?_;simp only [jp,jb,jz,js];refine yav (!y4 && k0) (by cases y4 <;> cases k0 <;> rfl) (.bool cc) (fun hgd V hV=>by rw [<- qc];exact HGT _ _ _ (.tmp 73) 4611686018427387904 C rfl (by show mayV _ _ = _;rw [hgd];rfl)) ?_;simp only [jp,jb,jz,js];refine yav (!y4) (by cases y4 <;> rfl) (.bool (k0 && cc)) (fun hgd V hV=>yir (.tmp 71) (.tmp 74) rfl k0 cc (by show mayV _ _ = _;rw [hgd];rfl) (fun hb=>by subst hb;show mayV _ _ = _;rw [hgd];rfl)) ?_;simp only [jp,jb,jz,js];obtain ⟨y5,hy5⟩:∃ x,(y4 || (k0 && cc)) = x:=⟨_,rfl⟩;refine yad rfl (.bool y5) (fun V hV=>ydJ (.tmp 67) (.tmp 75) rfl y4 (k0 && cc) y5 rfl (fun hb=>by subst hb;rfl) hy5) ?_;simp only [jp,jb,jz,js];refine yad rfl (.bool y5) (fun V hV=>yan (.tmp 76) rfl _ rfl) ?_;simp only [jp,jb,jz,js];refine yav (!y5) (by cases y5 <;> rfl) (.pointer (some ⟨g,0,none⟩)) (fun hgd V hV=>by go_simp <;> rfl) ?_;simp only [jp,jb,jz,js];refine yav (!y5) (by cases y5 <;> rfl) (.int .i64 K) (fun hgd V hV=>yaf 3 (.tmp 78) rfl _ (by show mayV _ _ = _;rw [hgd];rfl) _ _ jb8 rfl ((yae hV).cell C0.out (by simp))) ?_;simp only [jp,jb,jz,js];have q4:decide (K = 4) = false:=decide_eq_false (by have:=HK.out;omega);refine yav (!y5) (by cases y5 <;> rfl) (.bool false) (fun hgd V hV=>by rw [<- q4];exact yes (.tmp 79) 4 K rfl (by show mayV _ _ = _;rw [hgd];rfl)) ?_;simp only [jp,jb,jz,js];refine yav (!y5) (by cases y5 <;> rfl) (.bool false) (fun hgd V hV=>yan (.tmp 80) rfl _ (by show mayV _ _ = _;rw [hgd];rfl)) ?_;simp only [jp,jb,jz,js];refine ybu (by cases y5 <;> rfl) ?_;simp only [jp,jb,jz,js];refine ybu (by cases y5 <;> rfl) ?_;simp only [jp,jb,jz,js];refine ybu (by cases y5 <;> rfl) ?_;simp only [jp,jb,jz,js];refine ybu (by cases y5 <;> rfl) ?_;simp only [jp,jb,jz,js];refine yav (!y5) (by cases y5 <;> rfl) (.bool (false && false)) (fun hgd V hV=>yir (.tmp 81) (.tmp 85) rfl false false (by show mayV _ _ = _;rw [hgd];rfl) (fun hb=>by cases hb)) ?_;simp only [jp,jb,jz,js];obtain ⟨y6,hy6⟩:∃ x,(y5 || (false && false)) = x:=⟨_,rfl⟩;refine yad rfl (.bool y6) (fun V hV=>ydJ (.tmp 77) (.tmp 86) rfl y5 (false && false) y6 rfl (fun hb=>by subst hb;rfl) hy6) ?_;simp only [jp,jb,jz,js];refine wpQuiet_nil ?_;intro w3 hw3;obtain rfl:y6 = R:=by rw [<- HR.out,<- hy6,<- hy5,<- hy4,<- hy3,<- hy2,<- hy1,<- hy0,<- hcy,<- hk0,<- hcc];simp
  have HW3:=jh (yae hw3);clear hw3;go_wp2_with fail
  go_meet
  exact ⟨rfl,HW3.out⟩
 case rest =>
 obtain ⟨rfl,hg5⟩:=hcut;cases R with
 | true =>
  obtain rfl:CK = 2:=by rw [HCK.out,if_pos rfl]
  have HGG:=jh (yab HG.out hg5 (by simp));clear hg5;go_wp2_with fail
  go_ret
  exact ⟨rfl,HGG.out⟩
 | false =>
  have hck:=HCK.out;rw [if_neg (by simp)] at hck;have HCK:=jh hck;have c0:=hg5.cell C0.out (by simp);have q126:(K == 126) = false:=by have:=HK.out;simpa using (show ¬ K = 126 by omega)
  have HB5:=jh (HB1.out.grown hg5 (by simp));have HG5:=jh (yab HG.out hg5 (by simp));have HGC:=jh hg5;clear hck hg5 HB1 C0 C1 C12 C18 C19 C20;go_upto_region 8 with (fail)
  clear c0 q126;refine jwl ?_;refine yac rfl (.agg ct) (yaq rfl rfl 42 _ _ HB5.out ja3 rfl ((show (jq.info? 42).map (·.size) = some 36 by kernel_rfl).trans (congrArg some HSZ.out.symm))) ?_;simp only [jp,jb,jz,js];have hmc:=hMU.out _ HGC.out;refine yai rfl 66 #[.agg ct] (yak _ (.tmp 103) _ rfl _ rfl (jeo Tryz.func66 (by kernel_rfl) rfl _ _)) (hmc.mono ?_);clear hmc;rintro e w6 ⟨rfl,hg6⟩;have HG6:=jh (yab HG5.out hg6 (by simp));clear hg6;refine ⟨_,rfl,?_⟩;simp only [jp,jb,jz,js];refine jwn ?_;cases mu with
  | true =>
   obtain rfl:CK = 5:=by rw [HCK.out,if_pos rfl]
   go_wp2_with fail
   go_ret
   exact ⟨rfl,HG6.out⟩
  | false =>
   obtain rfl:CK = 0:=by rw [HCK.out,if_neg (by simp)]
   go_wp2_with fail
   go_ret
   exact ⟨rfl,HG6.out⟩
theorem yhp (xs:List ByteArray) (k:Nat):(catB (xs.take k)).length <= (catB xs).length:=by
 have h:catB xs = catB (xs.take k) ++ catB (xs.drop k):=by
  conv=>lhs;rw [<- List.take_append_drop k xs]
  rw [catB,List.flatMap_append];rfl
 rw [h,jla];omega
def ydt (tk:List TxV) (v3 v4 v5 v6 v7:Value):List RowT :=
 [(4,v3,tk.length,(tk.map fun t=>decide (t.dst.size = 0)).map jc7),(4,v4,tk.length,(tk.map fun t=>decide (t.y = 1)).map jc7),
  (23,v6,tk.length,(tk.map fun t=>(t.nonce:Int)).map (Value.int .u64)),(23,v7,tk.length,(tk.map fun t=>(t.gas:Int)).map (Value.int .u64)),
  (4,v5,(tk.filter fun t=>decide (t.kind = 0)).length,((tk.filter fun t=>decide (t.kind = 0)).map fun t=>decide (t.chain ≠ 0)).map jc7)]
section
variable {a:Act} {o:Oper} {W:World}
theorem ynR (x:Operand) {u:TypeId} (ho:o.op = .binOp .eql 9 x (.const (.string ⟨#[]⟩)) u) (p:ByteArray) (hx:a.eval x = .string p):(execOp a.eval o).run jq W = .ok (.value (.bool (decide (p.size = 0)))) W:=by
 have h1:a.eval (.const (.string ⟨#[]⟩)) = .string ⟨#[]⟩:=rfl;unfold execOp;generalize a.eval = ev at *;by_cases h:p.size = 0
 ·obtain rfl:p = ⟨#[]⟩:=ybM (jb7 ((yar p).trans h));simp [ho,hx,h1,go_sem]
 ·have h2:decide (p.size = 0) = false:=decide_eq_false h;have h3:p ≠ ByteArray.empty:=fun e=>h (by rw [e];rfl)
  have h4:p.toList.isEmpty = false:=by
   have e3i:p.toList.isEmpty = decide (p.size = 0):=by rw [<- yfs p];cases p.toList <;> rfl
   rw [e3i,h2]
  simp [ho,hx,h1,go_sem,h3,h4]
theorem ynT (x:Operand) (k n:Nat) {u:TypeId} (ho:o.op = .binOp .eql 23 x (.const (.int .u64 (k:Int))) u) (hx:a.eval x = .int .u64 (n:Int)):(execOp a.eval o).run jq W = .ok (.value (.bool (decide (n = k)))) W:=by
 have h1:a.eval (.const (.int .u64 (k:Int))) = .int .u64 (k:Int):=rfl;unfold execOp;generalize a.eval = ev at *;by_cases h:n = k
 ·subst h;simp [ho,hx,h1,go_sem]
 ·have h2:((n:Int) == (k:Int)) = false:=by simp;omega
  have h3:¬ (n:Int) = (k:Int):=by omega
  simp [ho,hx,h1,go_sem,h,h2,h3]
theorem ynQ (x:Operand) (k n:Nat) {u:TypeId} (ho:o.op = .binOp .neq 23 x (.const (.int .u64 (k:Int))) u) (hx:a.eval x = .int .u64 (n:Int)):(execOp a.eval o).run jq W = .ok (.value (.bool (decide (n ≠ k)))) W:=by
 have h1:a.eval (.const (.int .u64 (k:Int))) = .int .u64 (k:Int):=rfl;unfold execOp;generalize a.eval = ev at *;by_cases h:n = k
 ·subst h;simp [ho,hx,h1,go_sem]
 ·have h2:((n:Int) == (k:Int)) = false:=by simp;omega
  have h3:¬ (n:Int) = (k:Int):=by omega
  simp [ho,hx,h1,go_sem,h,h2,h3]
end
theorem yfN (p q:ByteArray):(p ++ q).size = p.size + q.size:=by rw [<- yar,ycg,jla,yar,yar]
theorem yeI (p:Nat) (w:World) :
  Calls jq 77 #[.agg #[.int .u64 (wp p 0:Nat),.int .u64 (wp p 1:Nat),.int .u64 (wp p 2:Nat),.int .u64 (wp p 3:Nat)]] w fun e w'=>e = .returned (.string ⟨(fixN p).toArray⟩) /\ w.grownBy w' none:=yg7 _ _ _ _ w
theorem ymC (tk:List TxV) (x:TxV) (v3 v4 v5 v6 v7:Value) (h:x.kind = 0):ydt (tk ++ [x]) v3 v4 v5 v6 v7 =
 [(4,v3,tk.length + 1,(tk.map fun t=>decide (t.dst.size = 0)).map jc7 ++ [.bool (decide (x.dst.size = 0))]),(4,v4,tk.length + 1,(tk.map fun t=>decide (t.y = 1)).map jc7 ++ [.bool (decide (x.y = 1))]),
  (23,v6,tk.length + 1,(tk.map fun t=>(t.nonce:Int)).map (Value.int .u64) ++ [.int .u64 (x.nonce:Int)]),(23,v7,tk.length + 1,(tk.map fun t=>(t.gas:Int)).map (Value.int .u64) ++ [.int .u64 (x.gas:Int)]),
  (4,v5,(tk.filter fun t=>decide (t.kind = 0)).length + 1,((tk.filter fun t=>decide (t.kind = 0)).map fun t=>decide (t.chain ≠ 0)).map jc7 ++ [.bool (decide (x.chain ≠ 0))])]:=by
 simp [ydt,h]
theorem ymB (tk:List TxV) (x:TxV) (v3 v4 v5 v6 v7:Value) (h:x.kind ≠ 0):ydt (tk ++ [x]) v3 v4 v5 v6 v7 =
 [(4,v3,tk.length + 1,(tk.map fun t=>decide (t.dst.size = 0)).map jc7 ++ [.bool (decide (x.dst.size = 0))]),(4,v4,tk.length + 1,(tk.map fun t=>decide (t.y = 1)).map jc7 ++ [.bool (decide (x.y = 1))]),
  (23,v6,tk.length + 1,(tk.map fun t=>(t.nonce:Int)).map (Value.int .u64) ++ [.int .u64 (x.nonce:Int)]),(23,v7,tk.length + 1,(tk.map fun t=>(t.gas:Int)).map (Value.int .u64) ++ [.int .u64 (x.gas:Int)]),
  (4,v5,(tk.filter fun t=>decide (t.kind = 0)).length,((tk.filter fun t=>decide (t.kind = 0)).map fun t=>decide (t.chain ≠ 0)).map jc7)]:=by
 simp [ydt,h]
theorem yit (B:Nat) (A:Option Addr) (n c:Nat) (ls:List TxV) (w:World) (h:TxsR B w ls A n) (hB:B <= w.heap.size) (hn:n <= 512) (hok:ypd ls) (he:∀ t ∈ ls,encB (yaT t) = yau (yaT t)) :
  Calls jq 47 #[.slice A n c] w fun e w'=>e = .returned (.string ⟨(ye9 ls).toArray⟩) /\ w.grownBy w' none:=by
 have hl:=h.1;obtain ⟨OUT,hOUT⟩:∃ x:ByteArray,(⟨(ye9 ls).toArray⟩:ByteArray) = x:=⟨_,rfl⟩;rw [hOUT];have hs1:(catB (ls.map sigT)).length <= 1000000000:=by have:=hok.sizes ⟨(catB (colL sigT (fun _=>true) ls)).toArray⟩ (by simp [yet]);rw [ydA,ydM] at this;exact this
 have hs2:(catB (ls.map TxV.dst)).length <= 1000000000:=by have:=hok.sizes ⟨(catB (colL (fun x:TxV=>x.dst) (fun _=>true) ls)).toArray⟩ (by simp [yet]);rw [ydA,ydM] at this;exact this
 have hs3:(catB (ls.map ybv)).length <= 1000000000:=by have:=hok.sizes ⟨(catB (colL ybv (fun _=>true) ls)).toArray⟩ (by simp [yet]);rw [ydA,ydM] at this;exact this
 have HH:=jh h;have HB:=jh hB;have HN:=jh hn;have HOK:=jh hok;have HE:=jh he;have HL:=jh hl;have HOUT:=jh hOUT;have HS1:=jh hs1;have HS2:=jh hs2;have HS3:=jh hs3;clear h hB hok he hl hOUT hs1 hs2 hs3;obtain ⟨i0,ib0,ib1,ib2,ib3⟩:=info_parts ypt;obtain ⟨j0,in0,in1,in2,in3⟩:=info_parts yps;have HIB0:=jh ib0;have HIB1:=jh ib1;have HIB2:=jh ib2;have HIB3:=jh ib3;have HIN0:=jh in0;have HIN1:=jh in1;have HIN2:=jh in2;have HIN3:=jh in3;clear ib0 ib1 ib2 ib3 in0 in1 in2 in3;go_enter Tryz.func47,Tryz.ntmps47
 go_wp2_with fail
 go_loopw [3,4,5,6,7,8,9,10,11] (fun v3 v4 v5 v6 v7 v8 v9 v10 i wr=>∃ (k:Nat) (y3 y4 y5 y6 y7:Value),y3 = v3 /\ y4 = v4 /\ y5 = v5 /\ y6 = v6 /\ y7 = v7 /\ i = .int .i64 (k:Int) /\ k <= n /\ RowsO w.heap.size wr (ydt (ls.take k) v3 v4 v5 v6 v7) /\ v8 = .string ⟨(catB ((ls.take k).map sigT)).toArray⟩ /\ v9 = .string ⟨(catB ((ls.take k).map TxV.dst)).toArray⟩ /\ v10 = .string ⟨(catB ((ls.take k).map ybv)).toArray⟩ /\ w.grownBy wr none) (fun _ _ _ _ _ _ _ _ i _=>n - (intOf i).toNat)
 case atStart =>
  refine ⟨0,_,_,_,_,_,rfl,rfl,rfl,rfl,rfl,rfl,by omega,⟨fun r hr=>?_,?_⟩,rfl,rfl,rfl,jr _ _⟩
  ·simp only [ydt,List.take_zero,List.map_nil,List.filter_nil,List.length_nil,je6,List.not_mem_nil,or_false] at hr;rcases hr with rfl | rfl | rfl | rfl | rfl <;> exact jon _ _ _ _
  ·have hd:∀ e e':TypeId,Dj (e,.slice none 0 0,0,[]) (e',.slice none 0 0,0,[]):=fun e e' g hg=>by cases hg
   simp only [ydt,List.take_zero,List.map_nil,List.filter_nil,List.length_nil];exact .cons (fun a ha=>by simp at ha;rcases ha with rfl | rfl | rfl | rfl <;> exact hd _ _) (.cons (fun a ha=>by simp at ha;rcases ha with rfl | rfl | rfl <;> exact hd _ _) (.cons (fun a ha=>by simp at ha;rcases ha with rfl | rfl <;> exact hd _ _) (.cons (fun a ha=>by simp at ha;subst ha;exact hd _ _) (.cons (fun a ha=>by simp at ha) .nil))))
 case round =>
  obtain ⟨k,v3,v4,v5,v6,v7,rfl,rfl,rfl,rfl,rfl,rfl,hk,hR,rfl,rfl,rfl,hg⟩:=hrel;by_cases hlt:k < n
  ·obtain ⟨g,off,sa,sb,x,rfl,hx,hm,hra,hin⟩:=HH.out.at_ hlt;have q1:(k:Int) < (n:Int):=by omega
   have htk:ls.take (k + 1) = ls.take k ++ [x]:=by
    rw [List.take_add_one,je (by rw [HL.out];exact hlt),<- hx,jg,je (by rw [HL.out];exact hlt)];rfl
   have hlk:(ls.take k).length = k:=by rw [jd4,HL.out];omega
   have HRX:=jh (HOK.out.rest x hm);have HEX:=jh (HE.out x hm);obtain ⟨⟨pa,xa,rfl,hacc⟩,⟨pb,xb,rfl,haut⟩,la,lb⟩:=hin;obtain ⟨na,hna⟩:∃ n,x.acc.length = n:=⟨_,rfl⟩;obtain ⟨nb,hnb⟩:∃ n,x.auths.length = n:=⟨_,rfl⟩;rw [hna] at hacc la hra;rw [hnb] at haut lb hra
   have HCALL:Hid (∀ V:World,w.grownBy V none -> Calls jq 78 #[.agg (txL x (.slice pa na xa) (.slice pb nb xb)).toArray] V fun e w'=>e = .returned (.string (ybv x)) /\ V.grownBy w' none):=jh fun V hV =>
    ylD x B pa na xa pb nb xb V HRX.out.kind (hacc.grown hV HB.out) (jlt HB.out hV.size) (by rw [<- hna];exact HRX.out.acc) HRX.out.keys HRX.out.ok.value HRX.out.ok.tip HRX.out.ok.price HRX.out.wt HRX.out.len HEX.out
   have HSZ9:Hid ((txL x (.slice pa na xa) (.slice pb nb xb)).length = 36):=jh rfl;have C0:Hid ((txL x (.slice pa na xa) (.slice pb nb xb))[0]? = some (.int .i64 x.kind)):=jh rfl;have C1:Hid ((txL x (.slice pa na xa) (.slice pb nb xb))[1]? = some (.int .u64 (x.chain:Int))):=jh rfl;have C2:Hid ((txL x (.slice pa na xa) (.slice pb nb xb))[2]? = some (.int .u64 (x.nonce:Int))):=jh rfl;have C11:Hid ((txL x (.slice pa na xa) (.slice pb nb xb))[11]? = some (.int .u64 (x.gas:Int))):=jh rfl;have C12:Hid ((txL x (.slice pa na xa) (.slice pb nb xb))[12]? = some (.string x.dst)):=jh rfl;have C20:Hid ((txL x (.slice pa na xa) (.slice pb nb xb))[20]? = some (.int .u64 (x.y:Int))):=jh rfl;have C21:Hid ((txL x (.slice pa na xa) (.slice pb nb xb))[21]? = some (.int .u64 (wp x.r 0:Nat))):=jh rfl;have C25:Hid ((txL x (.slice pa na xa) (.slice pb nb xb))[25]? = some (.int .u64 (wp x.s 0:Nat))):=jh rfl;have C22:Hid ((txL x (.slice pa na xa) (.slice pb nb xb))[22]? = some (.int .u64 (wp x.r 1:Nat))):=jh rfl;have C26:Hid ((txL x (.slice pa na xa) (.slice pb nb xb))[26]? = some (.int .u64 (wp x.s 1:Nat))):=jh rfl;have C23:Hid ((txL x (.slice pa na xa) (.slice pb nb xb))[23]? = some (.int .u64 (wp x.r 2:Nat))):=jh rfl;have C27:Hid ((txL x (.slice pa na xa) (.slice pb nb xb))[27]? = some (.int .u64 (wp x.s 2:Nat))):=jh rfl;have C24:Hid ((txL x (.slice pa na xa) (.slice pb nb xb))[24]? = some (.int .u64 (wp x.r 3:Nat))):=jh rfl;have C28:Hid ((txL x (.slice pa na xa) (.slice pb nb xb))[28]? = some (.int .u64 (wp x.s 3:Nat))):=jh rfl;obtain ⟨cl,hcl⟩:∃ l,txL x (.slice pa na xa) (.slice pb nb xb) = l:=⟨_,rfl⟩;rw [hcl] at hra HCALL HSZ9 C0 C1 C2 C11 C12 C20 C21 C25 C22 C26 C23 C27 C24 C28;have HRA:=jh hra;have HTK:=jh htk;have HLK:=jh hlk;have HLT:=jh hlt;have hp1:=jlt (yhp (ls.map sigT) (k + 1)) HS1.out;have hp2:=jlt (yhp (ls.map TxV.dst) (k + 1)) HS2.out;have hp3:=jlt (yhp (ls.map ybv) (k + 1)) HS3.out;rw [<- List.map_take,htk,List.map_append,List.map_singleton,yd8,jla,yar] at hp1 hp2 hp3;have hn1:(catB ((ls.take (k + 1)).map sigT)) = catB ((ls.take k).map sigT) ++ (sigT x).data.toList:=by rw [htk,List.map_append,List.map_singleton,yd8]
   have hn2:(catB ((ls.take (k + 1)).map TxV.dst)) = catB ((ls.take k).map TxV.dst) ++ x.dst.data.toList:=by rw [htk,List.map_append,List.map_singleton,yd8]
   have hn3:(catB ((ls.take (k + 1)).map ybv)) = catB ((ls.take k).map ybv) ++ (ybv x).data.toList:=by rw [htk,List.map_append,List.map_singleton,yd8]
   clear hra htk hcl hacc haut la lb hna hnb hx hm hlt;obtain ⟨tk,htke⟩:∃ y,ls.take k = y:=⟨_,rfl⟩;rw [htke] at hR hp1 hp2 hp3 hn1 hn2 hn3 hlk HTK HLK ⊢;clear htke;unfold ydt at hR;have hsgx:sigT x = (⟨(fixN x.r).toArray⟩:ByteArray) ++ ⟨(fixN x.s).toArray⟩:=by rw [ygK];rfl
   have hfr:=fun V=>yeI x.r V;have hfs:=fun V=>yeI x.s V;have hzr:(⟨(fixN x.r).toArray⟩:ByteArray).size = 32:=(ydA _).trans (ycq _);have hzs:(⟨(fixN x.s).toArray⟩:ByteArray).size = 32:=(ydA _).trans (ycq _);rw [hsgx] at hp1 hn1;obtain ⟨FR,hFR⟩:∃ s:ByteArray,(⟨(fixN x.r).toArray⟩:ByteArray) = s:=⟨_,rfl⟩;obtain ⟨FS,hFS⟩:∃ s:ByteArray,(⟨(fixN x.s).toArray⟩:ByteArray) = s:=⟨_,rfl⟩;rw [hFR] at hn1 hfr hzr;rw [hFS] at hn1 hfs hzs;clear hFR hFS hsgx;obtain ⟨RT,hRT⟩:∃ s:ByteArray,ybv x = s:=⟨_,rfl⟩;rw [hRT] at hn3 hp3 HCALL;obtain ⟨S1,hS1⟩:∃ s:ByteArray,(⟨(catB (tk.map sigT)).toArray⟩:ByteArray) = s:=⟨_,rfl⟩;obtain ⟨S2,hS2⟩:∃ s:ByteArray,(⟨(catB (tk.map TxV.dst)).toArray⟩:ByteArray) = s:=⟨_,rfl⟩;obtain ⟨S3,hS3⟩:∃ s:ByteArray,(⟨(catB (tk.map ybv)).toArray⟩:ByteArray) = s:=⟨_,rfl⟩;rw [hS1,hS2,hS3];have HZ1:Hid (S1.size <= 1000000000):=jh (by rw [<- hS1,ydA];omega);have HZ2:Hid (S2.size + x.dst.size <= 1000000000):=jh (by rw [<- hS2,ydA];omega);have HZ3:Hid (S3.size + RT.size <= 1000000000):=jh (by rw [<- hS3,ydA];omega);have HN1:Hid ((S1 ++ FR) ++ FS = (⟨(catB ((ls.take (k + 1)).map sigT)).toArray⟩:ByteArray)):=jh (by rw [<- hS1,hn1];exact ybM (by simp));have HN2:Hid (S2 ++ x.dst = (⟨(catB ((ls.take (k + 1)).map TxV.dst)).toArray⟩:ByteArray)):=jh (by rw [<- hS2,hn2];exact ybM (by simp));have HN3:Hid (S3 ++ RT = (⟨(catB ((ls.take (k + 1)).map ybv)).toArray⟩:ByteArray)):=jh (by rw [<- hS3,hn3];exact ybM (by simp));have HFR:=jh hfr;have HFS:=jh hfs;have HZR:=jh hzr;have HZS:=jh hzs;have HG:=jh hg;have HR:=jh hR;have hk512:tk.length <= 512:=by have:=HN.out;omega
   have HKL:=jh hk512;clear hp1 hp2 hp3 hn1 hn2 hn3 hRT hS1 hS2 hS3 hfr hfs hzr hzs hg hR hlk hk512 hk;go_upto_region 12 with (fail)
   refine jwl ?_;refine yac rfl v3 (yan (.tmp 3) rfl _ rfl) ?_;simp only [jp,jb,jz,js];refine zm 0 (.slice (some ⟨g,off,none⟩) n c) rfl ?_;refine zm 11 (.int .i64 (k:Int)) rfl ?_;simp only [jp,jb,jz,js];refine yac rfl (.pointer (some ⟨g,off + k * 36,none⟩)) (by go_simp <;> first | rfl | simp [jd2]) ?_;simp only [jp,jb,jz,js];refine zg (.pointer (some ⟨g,off + k * 36 + 12,none⟩)) ?_;simp only [jp,jb,jz,js];refine yac rfl (.string x.dst) (yaf 9 (.tmp 22) rfl _ rfl _ _ ja9 rfl (HG.out.cell (HRA.out 12 _ C12.out) (by simp))) ?_;simp only [jp,jb,jz,js];refine yac rfl (.bool (decide (x.dst.size = 0))) (ynR (.tmp 23) rfl _ rfl) ?_;simp only [jp,jb,jz,js];refine yac rfl (.slice (some ⟨wr.heap.size,0,none⟩) 1 1) (w':=wr.alloc (.cells #[.bool (decide (x.dst.size = 0))] 4)) (by go_simp <;> rfl) ?_;simp only [jp,jb,jz,js];obtain ⟨g3,c3,u1,hrun,hrow,hgw,hzz⟩:=HR.out.app (w:=w) (x:=.bool (decide (x.dst.size = 0))) Tryz.underlying47 HIB0.out HIB1.out HIB2.out HIB3.out rfl (by decide) HG.out.size rfl (by have:=HKL.out;omega) HG.out (jle _);refine yac rfl (.slice (some ⟨g3,0,none⟩) _ c3) (ya7 (.tmp 18) (.tmp 25) _ rfl _ _ _ rfl rfl hrun) ?_;simp only [jp,jb,jz,js];refine yac rfl _ (ybC (.tmp 26) rfl _ rfl) ?_;simp only [jp,jb,jz,js];refine jwn ?_;have HR:=jh hrow.turn;have HG:=jh hgw;clear hrun hrow hgw hzz;go_upto_region 13 with (fail)
   refine jwl ?_;refine yac rfl v4 (yan (.tmp 4) rfl _ rfl) ?_;simp only [jp,jb,jz,js];refine zm 0 (.slice (some ⟨g,off,none⟩) n c) rfl ?_;refine zm 11 (.int .i64 (k:Int)) rfl ?_;simp only [jp,jb,jz,js];refine yac rfl (.pointer (some ⟨g,off + k * 36,none⟩)) (by go_simp <;> first | rfl | simp [jd2]) ?_;simp only [jp,jb,jz,js];refine zg (.pointer (some ⟨g,off + k * 36 + 20,none⟩)) ?_;simp only [jp,jb,jz,js];refine yac rfl (.int .u64 (x.y:Int)) (yaf 23 (.tmp 31) rfl _ rfl _ _ ja5 rfl (HG.out.cell (HRA.out 20 _ C20.out) (by simp))) ?_;simp only [jp,jb,jz,js];refine yac rfl (.bool (decide (x.y = 1))) (ynT (.tmp 32) 1 _ rfl rfl) ?_;simp only [jp,jb,jz,js];refine yac rfl (.slice (some ⟨u1.heap.size,0,none⟩) 1 1) (w':=u1.alloc (.cells #[.bool (decide (x.y = 1))] 4)) (by go_simp <;> rfl) ?_;simp only [jp,jb,jz,js];obtain ⟨g4,c4,u2,hrun,hrow,hgw,hzz⟩:=HR.out.app (w:=w) (x:=.bool (decide (x.y = 1))) Tryz.underlying47 HIB0.out HIB1.out HIB2.out HIB3.out rfl (by decide) HG.out.size rfl (by have:=HKL.out;omega) HG.out (jle _);refine yac rfl (.slice (some ⟨g4,0,none⟩) _ c4) (ya7 (.tmp 27) (.tmp 34) _ rfl _ _ _ rfl rfl hrun) ?_;simp only [jp,jb,jz,js];refine yac rfl _ (ybC (.tmp 35) rfl _ rfl) ?_;simp only [jp,jb,jz,js];refine jwn ?_;have HR:=jh hrow.turn;have HG:=jh hgw;clear hrun hrow hgw hzz;go_upto_region 14 with (fail)
   have hC0:(fun V=>Below u2.heap.size u2 V) u2.drew:=⟨rfl,rfl,rfl,jle _,fun _ _=>rfl⟩;refine yaC (fun V=>Below u2.heap.size u2 V) (by kernel_rfl) (by kernel_rfl) hC0 ?_;refine yad rfl (.string S1) (fun V hV=>yan (.tmp 8) rfl _ rfl) ?_;simp only [jp,jb,jz,js];refine yad rfl (.slice (some ⟨g,off,none⟩) n c) (fun V hV=>yan (.tmp 0) rfl _ rfl) ?_;simp only [jp,jb,jz,js];refine yad rfl (.int .i64 (k:Int)) (fun V hV=>yan (.tmp 11) rfl _ rfl) ?_;simp only [jp,jb,jz,js];refine yad rfl (.pointer (some ⟨g,off + k * 36,none⟩)) (fun V hV=>by go_simp <;> first | rfl | simp [jd2]) ?_;simp only [jp,jb,jz,js];refine yad rfl (.pointer (some ⟨g,off + k * 36 + 21,none⟩)) (fun V hV=>by go_simp <;> rfl) ?_;simp only [jp,jb,jz,js];refine yad rfl (.agg #[.int .u64 (wp x.r 0:Nat),.int .u64 (wp x.r 1:Nat),.int .u64 (wp x.r 2:Nat),.int .u64 (wp x.r 3:Nat)]) (fun V hV=>yaA _ rfl rfl (((yab HG.out (yae hV) (by simp)).cell (HRA.out 21 _ C21.out) (by simp))) (((yab HG.out (yae hV) (by simp)).cell (HRA.out 22 _ C22.out) (by simp))) (((yab HG.out (yae hV) (by simp)).cell (HRA.out 23 _ C23.out) (by simp))) (((yab HG.out (yae hV) (by simp)).cell (HRA.out 24 _ C24.out) (by simp)))) ?_;simp only [jp,jb,jz,js];refine ybw (.string FR) 77 #[.agg #[.int .u64 (wp x.r 0:Nat),.int .u64 (wp x.r 1:Nat),.int .u64 (wp x.r 2:Nat),.int .u64 (wp x.r 3:Nat)]] rfl (fun V=>yak _ (.tmp 41) _ rfl _ rfl (jeo Tryz.func77 (by kernel_rfl) rfl _ _)) (fun V hV=>HFR.out V) ?_;simp only [jp,jb,jz,js];refine yad rfl (.string (S1 ++ FR)) (fun V hV=>ybi (.tmp 36) (.tmp 42) rfl S1 FR _ rfl rfl (by have:=HZ1.out;have:=HZR.out;omega) rfl) ?_;simp only [jp,jb,jz,js];refine yad rfl (.slice (some ⟨g,off,none⟩) n c) (fun V hV=>yan (.tmp 0) rfl _ rfl) ?_;simp only [jp,jb,jz,js];refine yad rfl (.int .i64 (k:Int)) (fun V hV=>yan (.tmp 11) rfl _ rfl) ?_;simp only [jp,jb,jz,js];refine yad rfl (.pointer (some ⟨g,off + k * 36,none⟩)) (fun V hV=>by go_simp <;> first | rfl | simp [jd2]) ?_;simp only [jp,jb,jz,js];refine yad rfl (.pointer (some ⟨g,off + k * 36 + 25,none⟩)) (fun V hV=>by go_simp <;> rfl) ?_;simp only [jp,jb,jz,js];refine yad rfl (.agg #[.int .u64 (wp x.s 0:Nat),.int .u64 (wp x.s 1:Nat),.int .u64 (wp x.s 2:Nat),.int .u64 (wp x.s 3:Nat)]) (fun V hV=>yaA _ rfl rfl (((yab HG.out (yae hV) (by simp)).cell (HRA.out 25 _ C25.out) (by simp))) (((yab HG.out (yae hV) (by simp)).cell (HRA.out 26 _ C26.out) (by simp))) (((yab HG.out (yae hV) (by simp)).cell (HRA.out 27 _ C27.out) (by simp))) (((yab HG.out (yae hV) (by simp)).cell (HRA.out 28 _ C28.out) (by simp)))) ?_;simp only [jp,jb,jz,js];refine ybw (.string FS) 77 #[.agg #[.int .u64 (wp x.s 0:Nat),.int .u64 (wp x.s 1:Nat),.int .u64 (wp x.s 2:Nat),.int .u64 (wp x.s 3:Nat)]] rfl (fun V=>yak _ (.tmp 48) _ rfl _ rfl (jeo Tryz.func77 (by kernel_rfl) rfl _ _)) (fun V hV=>HFS.out V) ?_;simp only [jp,jb,jz,js];refine yad rfl (.string ((S1 ++ FR) ++ FS)) (fun V hV=>ybi (.tmp 43) (.tmp 49) rfl (S1 ++ FR) FS _ rfl rfl (by have:=HZ1.out;have:=HZR.out;have:=HZS.out;rw [<- yar,ycg,jla,yar,yar];omega) rfl) ?_;simp only [jp,jb,jz,js];refine yad rfl (.string ((S1 ++ FR) ++ FS)) (fun V hV=>ybC (.tmp 50) rfl _ rfl) ?_;simp only [jp,jb,jz,js];refine wpQuiet_nil ?_;intro u3 hw3;replace hw3:=yae hw3;have HG:=jh (yab HG.out hw3 (by simp));have HR:=jh (HR.out.kept hw3);rw [HN1.out];clear hC0 hw3;go_upto_region 15 with (fail)
   refine jwl ?_;refine zm 9 (.string S2) rfl ?_;refine zm 0 (.slice (some ⟨g,off,none⟩) n c) rfl ?_;refine zm 11 (.int .i64 (k:Int)) rfl ?_;simp only [jp,jb,jz,js];refine yac rfl (.pointer (some ⟨g,off + k * 36,none⟩)) (by go_simp <;> first | rfl | simp [jd2]) ?_;simp only [jp,jb,jz,js];refine zg (.pointer (some ⟨g,off + k * 36 + 12,none⟩)) ?_;simp only [jp,jb,jz,js];refine yac rfl (.string x.dst) (yaf 9 (.tmp 55) rfl _ rfl _ _ ja9 rfl (HG.out.cell (HRA.out 12 _ C12.out) (by simp))) ?_;simp only [jp,jb,jz,js];refine yac rfl (.string (S2 ++ x.dst)) (ybi (.tmp 51) (.tmp 56) rfl S2 x.dst _ rfl rfl (by have:=HZ2.out;omega) rfl) ?_;simp only [jp,jb,jz,js];refine yac rfl (.string (S2 ++ x.dst)) (ybC (.tmp 57) rfl _ rfl) ?_;simp only [jp,jb,jz,js];refine jwn ?_;rw [HN2.out];go_upto_region 16 with (fail)
   refine jwl ?_;refine zm 10 (.string S3) rfl ?_;refine zm 0 (.slice (some ⟨g,off,none⟩) n c) rfl ?_;refine zm 11 (.int .i64 (k:Int)) rfl ?_;simp only [jp,jb,jz,js];refine yac rfl (.pointer (some ⟨g,off + k * 36,none⟩)) (by go_simp <;> first | rfl | simp [jd2]) ?_;simp only [jp,jb,jz,js];refine wpList_load_mid rfl 42 (.tmp 61) rfl g (off + k * 36) rfl cl _ (yca HRA.out HG.out) ja3 rfl ((show (jq.info? 42).map (·.size) = some 36 by kernel_rfl).trans (congrArg some HSZ9.out.symm)) ?_;simp only [jp,jb,jz,js];refine yai rfl 78 #[.agg cl.toArray] (yak _ (.tmp 62) _ rfl _ rfl (jeo Tryz.func78 (by kernel_rfl) rfl _ _)) ((HCALL.out _ HG.out).mono ?_);rintro e u4 ⟨rfl,hg⟩;have HG:=jh (yab HG.out hg (by simp));have HR:=jh (HR.out.kept hg);clear hg HCALL;refine ⟨_,rfl,?_⟩;simp only [jp,jb,jz,js];refine yac rfl (.string (S3 ++ RT)) (ybi (.tmp 58) (.tmp 63) rfl S3 RT _ rfl rfl (by have:=HZ3.out;omega) rfl) ?_;simp only [jp,jb,jz,js];refine yac rfl (.string (S3 ++ RT)) (ybC (.tmp 64) rfl _ rfl) ?_;simp only [jp,jb,jz,js];refine jwn ?_;rw [HN3.out];go_upto_region 17 with (fail)
   refine jwl ?_;refine yac rfl v6 (yan (.tmp 6) rfl _ rfl) ?_;simp only [jp,jb,jz,js];refine zm 0 (.slice (some ⟨g,off,none⟩) n c) rfl ?_;refine zm 11 (.int .i64 (k:Int)) rfl ?_;simp only [jp,jb,jz,js];refine yac rfl (.pointer (some ⟨g,off + k * 36,none⟩)) (by go_simp <;> first | rfl | simp [jd2]) ?_;simp only [jp,jb,jz,js];refine zg (.pointer (some ⟨g,off + k * 36 + 2,none⟩)) ?_;simp only [jp,jb,jz,js];refine yac rfl (.int .u64 (x.nonce:Int)) (yaf 23 (.tmp 69) rfl _ rfl _ _ ja5 rfl (HG.out.cell (HRA.out 2 _ C2.out) (by simp))) ?_;simp only [jp,jb,jz,js];refine yac rfl (.slice (some ⟨u4.heap.size,0,none⟩) 1 1) (w':=u4.alloc (.cells #[.int .u64 (x.nonce:Int)] 23)) (by go_simp <;> rfl) ?_;simp only [jp,jb,jz,js];obtain ⟨g6,c6,u5,hrun,hrow,hgw,hzz⟩:=HR.out.app (w:=w) (x:=.int .u64 (x.nonce:Int)) Tryz.underlying52 HIN0.out HIN1.out HIN2.out HIN3.out rfl (by decide) HG.out.size rfl (by have:=HKL.out;omega) HG.out (jle _);refine yac rfl (.slice (some ⟨g6,0,none⟩) _ c6) (ya7 (.tmp 65) (.tmp 71) _ rfl _ _ _ rfl rfl hrun) ?_;simp only [jp,jb,jz,js];refine yac rfl _ (ybC (.tmp 72) rfl _ rfl) ?_;simp only [jp,jb,jz,js];refine jwn ?_;have HR:=jh hrow.turn;have HG:=jh hgw;clear hrun hrow hgw hzz;go_upto_region 18 with (fail)
   refine jwl ?_;refine yac rfl v7 (yan (.tmp 7) rfl _ rfl) ?_;simp only [jp,jb,jz,js];refine zm 0 (.slice (some ⟨g,off,none⟩) n c) rfl ?_;refine zm 11 (.int .i64 (k:Int)) rfl ?_;simp only [jp,jb,jz,js];refine yac rfl (.pointer (some ⟨g,off + k * 36,none⟩)) (by go_simp <;> first | rfl | simp [jd2]) ?_;simp only [jp,jb,jz,js];refine zg (.pointer (some ⟨g,off + k * 36 + 11,none⟩)) ?_;simp only [jp,jb,jz,js];refine yac rfl (.int .u64 (x.gas:Int)) (yaf 23 (.tmp 77) rfl _ rfl _ _ ja5 rfl (HG.out.cell (HRA.out 11 _ C11.out) (by simp))) ?_;simp only [jp,jb,jz,js];refine yac rfl (.slice (some ⟨u5.heap.size,0,none⟩) 1 1) (w':=u5.alloc (.cells #[.int .u64 (x.gas:Int)] 23)) (by go_simp <;> rfl) ?_;simp only [jp,jb,jz,js];obtain ⟨g7,c7,u6,hrun,hrow,hgw,hzz⟩:=HR.out.app (w:=w) (x:=.int .u64 (x.gas:Int)) Tryz.underlying52 HIN0.out HIN1.out HIN2.out HIN3.out rfl (by decide) HG.out.size rfl (by have:=HKL.out;omega) HG.out (jle _);refine yac rfl (.slice (some ⟨g7,0,none⟩) _ c7) (ya7 (.tmp 73) (.tmp 79) _ rfl _ _ _ rfl rfl hrun) ?_;simp only [jp,jb,jz,js];refine yac rfl _ (ybC (.tmp 80) rfl _ rfl) ?_;simp only [jp,jb,jz,js];refine jwn ?_;have HR:=jh hrow.turn;have HG:=jh hgw;clear hrun hrow hgw hzz;go_upto_region 19 with (fail)
   refine jwl ?_;refine zm 0 (.slice (some ⟨g,off,none⟩) n c) rfl ?_;refine zm 11 (.int .i64 (k:Int)) rfl ?_;simp only [jp,jb,jz,js];refine yac rfl (.pointer (some ⟨g,off + k * 36,none⟩)) (by go_simp <;> first | rfl | simp [jd2]) ?_;simp only [jp,jb,jz,js];refine zg (.pointer (some ⟨g,off + k * 36 + 0,none⟩)) ?_;simp only [jp,jb,jz,js];refine yac rfl (.int .i64 x.kind) (yaf 3 (.tmp 84) rfl _ rfl _ _ jb8 rfl (HG.out.cell (HRA.out 0 _ C0.out) (by simp))) ?_;simp only [jp,jb,jz,js];by_cases hk0:x.kind = 0
   ·have HK0:=jh hk0;refine yac rfl (.bool true) ((yes (.tmp 85) 0 _ rfl rfl).trans (by rw [decide_eq_true hk0])) ?_;simp only [jp,jb,jz,js];clear hk0;refine jwn ?_;go_upto_region 20 with (fail)
    refine jwl ?_;refine yac rfl v5 (yan (.tmp 5) rfl _ rfl) ?_;simp only [jp,jb,jz,js];refine zm 0 (.slice (some ⟨g,off,none⟩) n c) rfl ?_;refine zm 11 (.int .i64 (k:Int)) rfl ?_;simp only [jp,jb,jz,js];refine yac rfl (.pointer (some ⟨g,off + k * 36,none⟩)) (by go_simp <;> first | rfl | simp [jd2]) ?_;simp only [jp,jb,jz,js];refine zg (.pointer (some ⟨g,off + k * 36 + 1,none⟩)) ?_;simp only [jp,jb,jz,js];refine yac rfl (.int .u64 (x.chain:Int)) (yaf 23 (.tmp 91) rfl _ rfl _ _ ja5 rfl (HG.out.cell (HRA.out 1 _ C1.out) (by simp))) ?_;simp only [jp,jb,jz,js];refine yac rfl (.bool (decide (x.chain ≠ 0))) (ynQ (.tmp 92) 0 _ rfl rfl) ?_;simp only [jp,jb,jz,js];refine yac rfl (.slice (some ⟨u6.heap.size,0,none⟩) 1 1) (w':=u6.alloc (.cells #[.bool (decide (x.chain ≠ 0))] 4)) (by go_simp <;> rfl) ?_;simp only [jp,jb,jz,js];obtain ⟨g5,c5,u7,hrun,hrow,hgw,hzz⟩:=HR.out.app (w:=w) (x:=.bool (decide (x.chain ≠ 0))) Tryz.underlying47 HIB0.out HIB1.out HIB2.out HIB3.out rfl (by decide) HG.out.size rfl (jlt (List.length_filter_le _ _) (jlt HKL.out (by decide))) HG.out (jle _);refine yac rfl (.slice (some ⟨g5,0,none⟩) _ c5) (ya7 (.tmp 87) (.tmp 94) _ rfl _ _ _ rfl rfl hrun) ?_;simp only [jp,jb,jz,js];refine yac rfl _ (ybC (.tmp 95) rfl _ rfl) ?_;simp only [jp,jb,jz,js];refine jwn ?_;have HR:=jh hrow.turn;have HG:=jh hgw;clear hrun hrow hgw hzz;go_wp2_with fail
    go_roundw
    case rel=>exact ⟨k + 1,_,_,_,_,_,rfl,rfl,rfl,rfl,rfl,by go_num,by have:=HLT.out;omega,by rw [HTK.out,ymC _ _ _ _ _ _ _ HK0.out];exact HR.out,rfl,rfl,rfl,HG.out⟩
    case measure=>have:=HLT.out;simp [intOf];omega
   ·have HK0:=jh hk0;refine yac rfl (.bool false) ((yes (.tmp 85) 0 _ rfl rfl).trans (by rw [decide_eq_false hk0])) ?_;simp only [jp,jb,jz,js];clear hk0;refine jwn ?_;replace HR:=jh HR.out.turn;go_wp2_with fail
    go_roundw
    case rel=>exact ⟨k + 1,_,_,_,_,_,rfl,rfl,rfl,rfl,rfl,by go_num,by have:=HLT.out;omega,by rw [HTK.out,ymB _ _ _ _ _ _ _ HK0.out];exact HR.out,rfl,rfl,rfl,HG.out⟩
    case measure=>have:=HLT.out;simp [intOf];omega
  ·obtain rfl:k = n:=by omega
   have ht:ls.take k = ls:=jtl (by have:=HL.out;omega);rw [ht] at hR ⊢;have hfin:decide ((k:Int) < (k:Int)) = false:=by simp
   have hsz:∀ s ∈ yet ls,s.size <= 1000000000:=HOK.out.sizes;unfold yet at hsz;simp only [ydM,je6,List.not_mem_nil,or_false,forall_eq_or_imp,forall_eq] at hsz;obtain ⟨z1,z2,z3,z4,z5,z6,z7,z8⟩:=hsz
   have hok1:∀ y ∈ (ls.map fun t=>(t.nonce:Int)),0 <= y /\ y <= 18446744073709551615:=fun y hy=>by
    obtain ⟨x,hx,rfl⟩:=List.mem_map.1 hy;have:=(HOK.out.rest x hx).ok.nonce;omega
   have hok2:∀ y ∈ (ls.map fun t=>(t.gas:Int)),0 <= y /\ y <= 18446744073709551615:=fun y hy=>by
    obtain ⟨x,hx,rfl⟩:=List.mem_map.1 hy;have:=(HOK.out.rest x hx).ok.gas;omega
   unfold ydt at hR;obtain ⟨hrows,-⟩:=hR;simp only [je6,List.not_mem_nil,or_false,forall_eq_or_imp,forall_eq] at hrows;obtain ⟨r3,r4,r6,r7,r5⟩:=hrows;obtain ⟨m5,hm5⟩:∃ m,(ls.filter fun t=>decide (t.kind = 0)).length = m:=⟨_,rfl⟩;have hle5:m5 <= 1000000:=by rw [<- hm5];exact jlt (List.length_filter_le _ _) (by have:=HN.out;have:=HL.out;omega)
   rw [hm5] at r5;obtain ⟨A3,c3,rfl,R3⟩:=yaN r3;obtain ⟨A4,c4,rfl,R4⟩:=yaN r4;obtain ⟨A6,c6,rfl,R6⟩:=yaN r6;obtain ⟨A7,c7,rfl,R7⟩:=yaN r7;obtain ⟨A5,c5,rfl,R5⟩:=yaN r5;have hll:=HL.out;have HP3:Hid (∀ V,wr.grownBy V none -> Calls jq 79 #[.slice A3 ls.length c3] V fun e w'=>e = .returned (.string ⟨(yaD (ls.map fun t=>decide (t.dst.size = 0))).toArray⟩) /\ V.grownBy w' none):=jh fun V hV=>yfw _ A3 _ c3 _ V hV.size (R3.grown hV (jle _) (by simp)) (by have:=HN.out;omega);have HP4:Hid (∀ V,wr.grownBy V none -> Calls jq 79 #[.slice A4 ls.length c4] V fun e w'=>e = .returned (.string ⟨(yaD (ls.map fun t=>decide (t.y = 1))).toArray⟩) /\ V.grownBy w' none):=jh fun V hV=>yfw _ A4 _ c4 _ V hV.size (R4.grown hV (jle _) (by simp)) (by have:=HN.out;omega);have HP6:Hid (∀ V,wr.grownBy V none -> Calls jq 80 #[.slice A6 ls.length c6] V fun e w'=>e = .returned (.string ⟨(rowL (ls.map fun t=>(t.nonce:Int))).toArray⟩) /\ V.grownBy w' none):=jh fun V hV=>(yjA _ A6 _ c6 _ V hV.size (R6.grown hV (jle _) (by simp)) hok1 (by have:=HN.out;omega)).mono fun e w' h=>⟨h.1,yae h.2⟩;have HP7:Hid (∀ V,wr.grownBy V none -> Calls jq 80 #[.slice A7 ls.length c7] V fun e w'=>e = .returned (.string ⟨(rowL (ls.map fun t=>(t.gas:Int))).toArray⟩) /\ V.grownBy w' none):=jh fun V hV=>(yjA _ A7 _ c7 _ V hV.size (R7.grown hV (jle _) (by simp)) hok2 (by have:=HN.out;omega)).mono fun e w' h=>⟨h.1,yae h.2⟩;have HP5:Hid (∀ V,wr.grownBy V none -> Calls jq 79 #[.slice A5 m5 c5] V fun e w'=>e = .returned (.string ⟨(yaD ((ls.filter fun t=>decide (t.kind = 0)).map fun t=>decide (t.chain ≠ 0))).toArray⟩) /\ V.grownBy w' none):=jh fun V hV=>yfw _ A5 _ c5 _ V hV.size (R5.grown hV (jle _) (by simp)) hle5;have hcols:=yho ls;rw [List.map_map,List.map_map] at hcols;have hcols:OUT = ⟨(yaD (ls.map fun t=>decide (t.dst.size = 0)) ++ (yaD (ls.map fun t=>decide (t.y = 1)) ++ (catB (ls.map sigT) ++ (catB (ls.map TxV.dst) ++ (catB (ls.map ybv) ++ (rowL (ls.map fun t=>(t.nonce:Int)) ++ (rowL (ls.map fun t=>(t.gas:Int)) ++ yaD ((ls.filter fun t=>decide (t.kind = 0)).map fun t=>decide (t.chain ≠ 0))))))))).toArray⟩:=by rw [<- HOUT.out,hcols];rfl
   have hzz:(⟨(yaD (ls.map fun t=>decide (t.dst.size = 0))).toArray⟩:ByteArray).size <= 1000000000 /\ (⟨(yaD (ls.map fun t=>decide (t.y = 1))).toArray⟩:ByteArray).size <= 1000000000 /\ (⟨(catB (ls.map sigT)).toArray⟩:ByteArray).size <= 1000000000 /\ (⟨(catB (ls.map TxV.dst)).toArray⟩:ByteArray).size <= 1000000000 /\ (⟨(catB (ls.map ybv)).toArray⟩:ByteArray).size <= 1000000000 /\ (⟨(rowL (ls.map fun t=>(t.nonce:Int))).toArray⟩:ByteArray).size <= 1000000000 /\ (⟨(rowL (ls.map fun t=>(t.gas:Int))).toArray⟩:ByteArray).size <= 1000000000 /\ (⟨(yaD ((ls.filter fun t=>decide (t.kind = 0)).map fun t=>decide (t.chain ≠ 0))).toArray⟩:ByteArray).size <= 1000000000:=⟨z1,z2,z3,z4,z5,z6,z7,z8⟩;have hcb:OUT = ⟨(yaD (ls.map fun t=>decide (t.dst.size = 0))).toArray⟩ ++ ⟨(yaD (ls.map fun t=>decide (t.y = 1))).toArray⟩ ++ ⟨(catB (ls.map sigT)).toArray⟩ ++ ⟨(catB (ls.map TxV.dst)).toArray⟩ ++ ⟨(catB (ls.map ybv)).toArray⟩ ++ ⟨(rowL (ls.map fun t=>(t.nonce:Int))).toArray⟩ ++ ⟨(rowL (ls.map fun t=>(t.gas:Int))).toArray⟩ ++ ⟨(yaD ((ls.filter fun t=>decide (t.kind = 0)).map fun t=>decide (t.chain ≠ 0))).toArray⟩:=by rw [hcols];exact ybM (by simp [List.append_assoc])
   obtain ⟨P1,hP1⟩:∃ s:ByteArray,(⟨(yaD (ls.map fun t=>decide (t.dst.size = 0))).toArray⟩:ByteArray) = s:=⟨_,rfl⟩;obtain ⟨P2,hP2⟩:∃ s:ByteArray,(⟨(yaD (ls.map fun t=>decide (t.y = 1))).toArray⟩:ByteArray) = s:=⟨_,rfl⟩;obtain ⟨P3,hP3⟩:∃ s:ByteArray,(⟨(catB (ls.map sigT)).toArray⟩:ByteArray) = s:=⟨_,rfl⟩;obtain ⟨P4,hP4⟩:∃ s:ByteArray,(⟨(catB (ls.map TxV.dst)).toArray⟩:ByteArray) = s:=⟨_,rfl⟩;obtain ⟨P5,hP5⟩:∃ s:ByteArray,(⟨(catB (ls.map ybv)).toArray⟩:ByteArray) = s:=⟨_,rfl⟩;obtain ⟨P6,hP6⟩:∃ s:ByteArray,(⟨(rowL (ls.map fun t=>(t.nonce:Int))).toArray⟩:ByteArray) = s:=⟨_,rfl⟩;obtain ⟨P7,hP7⟩:∃ s:ByteArray,(⟨(rowL (ls.map fun t=>(t.gas:Int))).toArray⟩:ByteArray) = s:=⟨_,rfl⟩;obtain ⟨P8,hP8⟩:∃ s:ByteArray,(⟨(yaD ((ls.filter fun t=>decide (t.kind = 0)).map fun t=>decide (t.chain ≠ 0))).toArray⟩:ByteArray) = s:=⟨_,rfl⟩;rw [hP1] at hzz hcb HP3;rw [hP2] at hzz hcb HP4;rw [hP3] at hzz hcb ⊢;rw [hP4] at hzz hcb ⊢;rw [hP5] at hzz hcb ⊢;rw [hP6] at hzz hcb HP6;rw [hP7] at hzz hcb HP7;rw [hP8] at hzz hcb HP5;have HZZ:=jh hzz;have HCB:=jh hcb;have HG:=jh hg;clear hcols hcb hzz hok1 hok2 z1 z2 z3 z4 z5 z6 z7 z8 r3 r4 r5 r6 r7 R3 R4 R5 R6 R7 hg hP1 hP2 hP3 hP4 hP5 hP6 hP7 hP8 hle5 hm5;go_upto_region 21 with (fail)
   refine jwl ?_;have HW:=jh (jr wr none);refine zm 3 (.slice A3 ls.length c3) rfl ?_;simp only [jp,jb,jz,js];refine yai rfl 79 #[.slice A3 ls.length c3] (yak _ (.tmp 96) _ rfl _ rfl (jeo Tryz.func79 (by kernel_rfl) rfl _ _)) ((HP3.out _ HW.out).mono ?_);rintro e u101 ⟨rfl,hg⟩;have HG:=jh (yab HG.out hg (by simp));have HW:=jh (yab HW.out hg (by simp));clear hg;refine ⟨_,rfl,?_⟩;simp only [jp,jb,jz,js];refine zm 4 (.slice A4 ls.length c4) rfl ?_;simp only [jp,jb,jz,js];refine yai rfl 79 #[.slice A4 ls.length c4] (yak _ (.tmp 98) _ rfl _ rfl (jeo Tryz.func79 (by kernel_rfl) rfl _ _)) ((HP4.out _ HW.out).mono ?_);rintro e u102 ⟨rfl,hg⟩;have HG:=jh (yab HG.out hg (by simp));have HW:=jh (yab HW.out hg (by simp));clear hg;refine ⟨_,rfl,?_⟩;simp only [jp,jb,jz,js];refine yac rfl (.string (P1 ++ P2)) (ybi (.tmp 97) (.tmp 99) rfl P1 P2 _ rfl rfl (by obtain ⟨y1,y2,y3,y4,y5,y6,y7,y8⟩:=HZZ.out;(try simp only [yfN]);omega) rfl) ?_;simp only [jp,jb,jz,js];refine zm 8 (.string P3) rfl ?_;simp only [jp,jb,jz,js];refine yac rfl (.string ((P1 ++ P2) ++ P3)) (ybi (.tmp 100) (.tmp 101) rfl ((P1 ++ P2)) P3 _ rfl rfl (by obtain ⟨y1,y2,y3,y4,y5,y6,y7,y8⟩:=HZZ.out;(try simp only [yfN]);omega) rfl) ?_;simp only [jp,jb,jz,js];refine zm 9 (.string P4) rfl ?_;simp only [jp,jb,jz,js];refine yac rfl (.string (((P1 ++ P2) ++ P3) ++ P4)) (ybi (.tmp 102) (.tmp 103) rfl (((P1 ++ P2) ++ P3)) P4 _ rfl rfl (by obtain ⟨y1,y2,y3,y4,y5,y6,y7,y8⟩:=HZZ.out;(try simp only [yfN]);omega) rfl) ?_;simp only [jp,jb,jz,js];refine zm 10 (.string P5) rfl ?_;simp only [jp,jb,jz,js];refine yac rfl (.string ((((P1 ++ P2) ++ P3) ++ P4) ++ P5)) (ybi (.tmp 104) (.tmp 105) rfl ((((P1 ++ P2) ++ P3) ++ P4)) P5 _ rfl rfl (by obtain ⟨y1,y2,y3,y4,y5,y6,y7,y8⟩:=HZZ.out;(try simp only [yfN]);omega) rfl) ?_;simp only [jp,jb,jz,js];refine zm 6 (.slice A6 ls.length c6) rfl ?_;simp only [jp,jb,jz,js];refine yai rfl 80 #[.slice A6 ls.length c6] (yak _ (.tmp 107) _ rfl _ rfl (jeo Tryz.func80 (by kernel_rfl) rfl _ _)) ((HP6.out _ HW.out).mono ?_);rintro e u103 ⟨rfl,hg⟩;have HG:=jh (yab HG.out hg (by simp));have HW:=jh (yab HW.out hg (by simp));clear hg;refine ⟨_,rfl,?_⟩;simp only [jp,jb,jz,js];refine yac rfl (.string (((((P1 ++ P2) ++ P3) ++ P4) ++ P5) ++ P6)) (ybi (.tmp 106) (.tmp 108) rfl (((((P1 ++ P2) ++ P3) ++ P4) ++ P5)) P6 _ rfl rfl (by obtain ⟨y1,y2,y3,y4,y5,y6,y7,y8⟩:=HZZ.out;(try simp only [yfN]);omega) rfl) ?_;simp only [jp,jb,jz,js];refine zm 7 (.slice A7 ls.length c7) rfl ?_;simp only [jp,jb,jz,js];refine yai rfl 80 #[.slice A7 ls.length c7] (yak _ (.tmp 110) _ rfl _ rfl (jeo Tryz.func80 (by kernel_rfl) rfl _ _)) ((HP7.out _ HW.out).mono ?_);rintro e u104 ⟨rfl,hg⟩;have HG:=jh (yab HG.out hg (by simp));have HW:=jh (yab HW.out hg (by simp));clear hg;refine ⟨_,rfl,?_⟩;simp only [jp,jb,jz,js];refine yac rfl (.string ((((((P1 ++ P2) ++ P3) ++ P4) ++ P5) ++ P6) ++ P7)) (ybi (.tmp 109) (.tmp 111) rfl ((((((P1 ++ P2) ++ P3) ++ P4) ++ P5) ++ P6)) P7 _ rfl rfl (by obtain ⟨y1,y2,y3,y4,y5,y6,y7,y8⟩:=HZZ.out;(try simp only [yfN]);omega) rfl) ?_;simp only [jp,jb,jz,js];refine zm 5 (.slice A5 m5 c5) rfl ?_;simp only [jp,jb,jz,js];refine yai rfl 79 #[.slice A5 m5 c5] (yak _ (.tmp 113) _ rfl _ rfl (jeo Tryz.func79 (by kernel_rfl) rfl _ _)) ((HP5.out _ HW.out).mono ?_);rintro e u105 ⟨rfl,hg⟩;have HG:=jh (yab HG.out hg (by simp));have HW:=jh (yab HW.out hg (by simp));clear hg;refine ⟨_,rfl,?_⟩;simp only [jp,jb,jz,js];refine yac rfl (.string (((((((P1 ++ P2) ++ P3) ++ P4) ++ P5) ++ P6) ++ P7) ++ P8)) (ybi (.tmp 112) (.tmp 114) rfl (((((((P1 ++ P2) ++ P3) ++ P4) ++ P5) ++ P6) ++ P7)) P8 _ rfl rfl (by obtain ⟨y1,y2,y3,y4,y5,y6,y7,y8⟩:=HZZ.out;(try simp only [yfN]);omega) rfl) ?_;simp only [jp,jb,jz,js];refine yac rfl _ (ybC (.tmp 115) rfl _ rfl) ?_;simp only [jp,jb,jz,js];refine jwn ?_;rw [<- HCB.out];go_wp2_with fail
   go_ret
   exact ⟨rfl,HG.out⟩
theorem yjm (B:Nat) (A:Option Addr) (n c:Nat) (ls:List TxV) (chain:Nat) (w:World) (h:TxsR B w ls A n) (hB:B <= w.heap.size) (hck:yat ls chain = 0) (ok:∀ t ∈ ls,t.Ok) :
  Calls jq 47 #[.slice A n c] w fun e w'=>e = .returned (.string ⟨(ye9 ls).toArray⟩) /\ w.grownBy w' none :=
 yit B A n c ls w h hB (by rw [<- h.1];exact (ycA hck).2.2.1) (yjY hck ok) fun t ht=>(yhc ((ycA hck).2.2.2 t ht)).1.enc
theorem yoQ {ls:List TxV} {chain k:Nat} {x:TxV} {E:Int} (hp:∀ i,i < k -> oneT chain (ls.getD i TxV.zero) = 0) (hk:k < ls.length) (hx:ls.getD k TxV.zero = x) (he:oneT chain x = E) (h0:E ≠ 0) (h1:0 < chain) (h2:chain <= 4611686018427387904) (hl:ls.length <= 512):yat ls chain = E:=by
 unfold yat
 rw [if_neg (by simp only [Bool.or_eq_true,decide_eq_true_eq];omega),if_neg (by omega)];exact ydk hp hk (by rw [hx,he]) h0
theorem yeu (B:Nat) (A:Option Addr) (n c:Nat) (ls:List TxV) (chain:Nat) (w:World) (h:TxsR B w ls A n) (hB:B <= w.heap.size) (hn:n <= 9223372036854775807) (ok:∀ t ∈ ls,t.Ok) (kf:∀ t ∈ ls,ycp t) :
  Calls jq 10 #[.slice A n c,.int .u64 (chain:Int)] w fun e w'=>e = .returned (.int .i64 (yat ls chain)) /\ w.grownBy w' none:=by
 obtain ⟨R,hR⟩:∃ R,yat ls chain = R:=⟨_,rfl⟩;rw [hR];have hl:=h.1;have HH:=jh h;have HB:=jh hB;have HOK:=jh ok;have HKF:=jh kf;have HL:=jh hl;have hR0:(decide (chain = 0) || decide (4611686018427387904 < chain)) = true -> R = 1:=fun hh=>by rw [<- hR];unfold yat;rw [if_pos hh]
 have hR1:0 < chain -> chain <= 4611686018427387904 -> 512 < n -> R = 5:=fun h1 h2 h3=>by
  rw [<- hR];unfold yat
  rw [if_neg (by simp only [Bool.or_eq_true,decide_eq_true_eq];omega),if_pos (by omega)]
 have HR:=jh hR;clear h hB ok kf hl hR;by_cases h0:chain = 0
 ·have q1:((chain:Int) == 0) = true:=by simp [h0]
  obtain rfl:R = 1:=hR0 (by simp [h0]);clear h0 hR0 hR1;go_enter Tryz.func10,Tryz.ntmps10
  go_wp2_with fail
  go_ret
  exact ⟨rfl,jr w none⟩
 have q1:((chain:Int) == 0) = false:=by simpa using h0
 by_cases hb:4611686018427387904 < chain
 ·have q2:decide ((4611686018427387904:Int) < (chain:Int)) = true:=decide_eq_true (by omega);obtain rfl:R = 1:=hR0 (by simp [hb]);clear h0 hb hR0 hR1;go_enter Tryz.func10,Tryz.ntmps10
  go_wp2_with fail
  go_ret
  exact ⟨rfl,jr w none⟩
 have q2:decide ((4611686018427387904:Int) < (chain:Int)) = false:=decide_eq_false (by omega);by_cases h5:512 < n
 ·have q3:decide ((512:Int) < (n:Int)) = true:=decide_eq_true (by omega);obtain rfl:R = 5:=hR1 (by omega) (by omega) h5;clear h0 hb h5 hR0 hR1;go_enter Tryz.func10,Tryz.ntmps10
  go_wp2_with fail
  go_ret
  exact ⟨rfl,jr w none⟩
 have q3:decide ((512:Int) < (n:Int)) = false:=decide_eq_false (by omega);have HC0:=jh (show 0 < chain by omega);have HC1:=jh (show chain <= 4611686018427387904 by omega);have HN:=jh (show n <= 512 by omega);clear h0 hb h5 hR0 hR1;go_enter Tryz.func10,Tryz.ntmps10
 go_wp2_with fail
 clear q1 q2 q3;go_loopw [5] (fun i wr=>∃ k:Nat,i = .int .i64 (k:Int) /\ k <= n /\ w.grownBy wr none /\ Hid (∀ i,i < k -> oneT chain (ls.getD i TxV.zero) = 0)) (fun i _=>n - (intOf i).toNat)
 case atStart=>exact ⟨0,rfl,by omega,jr _ _,jh fun i hi=>by omega⟩
 case round =>
  obtain ⟨k,rfl,hk,hg,hf⟩:=hrel;have HF:=jh hf.out;have HG:=jh hg;clear hf;by_cases hlt:k < n
  ·obtain ⟨g,off,sa,sb,x,rfl,hx,hm,hra,hin⟩:=(HH.out.grown hg HB.out).at_ hlt;have q1:(k:Int) < (n:Int):=by omega
   have hk512:k <= 512:=by have:=HN.out;omega
   have c0:wr.cell? ⟨g,off + k * 36,none⟩ = some (.int .i64 x.kind):=by simpa using hra 0 _ rfl
   have HX:=jh hx;have HRA:=jh hra;have HIN:=jh hin;have HLT:=jh hlt;have HXM:=jh hm;have HFA:=jh (fun (E:Int) (he:oneT chain x = E) (h0:E ≠ 0)=>yoQ HF.out (show k < ls.length by rw [HL.out];exact hlt) hx he h0 HC0.out HC1.out (by rw [HL.out];exact HN.out));clear hx hm hra hin hg hlt;obtain ⟨K,hK⟩:∃ y,x.kind = y:=⟨_,rfl⟩;rw [hK] at c0;have HK:=jh hK;clear hK;by_cases hlo:K < 0
   ·obtain rfl:R = 9:=by rw [<- HR.out];exact HFA.out 9 (by unfold oneT ye4;rw [HK.out,decide_eq_true hlo];rfl) (by decide)
    have q2:decide (K < 0) = true:=decide_eq_true hlo;clear hlo;go_wp2_with fail
    go_ret
    exact ⟨rfl,HG.out⟩
   have q2:decide (K < 0) = false:=decide_eq_false hlo;by_cases hhi:2 < K
   ·obtain rfl:R = 9:=by rw [<- HR.out];exact HFA.out 9 (by unfold oneT ye4;rw [HK.out,decide_eq_true hhi,Bool.or_true];rfl) (by decide)
    have q3:decide (2 < K) = true:=decide_eq_true hhi;clear hlo hhi;go_wp2_with fail
    go_ret
    exact ⟨rfl,HG.out⟩
   have q3:decide (2 < K) = false:=decide_eq_false hhi;have HKR:=jh (show x.kind = 0 \/ x.kind = 1 \/ x.kind = 2 by rw [HK.out];omega);have HQ2:=jh q2;have HQ3:=jh q3;clear hlo hhi;go_upto_region 10 with (fail)
   clear q2 q3 c0;refine jwl ?_;refine zm 0 (.slice (some ⟨g,off,none⟩) n c) rfl ?_;refine zm 5 (.int .i64 (k:Int)) rfl ?_;simp only [jp,jb,jz,js];refine yac rfl (.pointer (some ⟨g,off + k * 36,none⟩)) (by go_simp <;> first | rfl | simp [jd2]) ?_;simp only [jp,jb,jz,js];refine wpList_load_mid rfl 42 (.tmp 38) rfl g (off + k * 36) rfl (txL x sa sb) _ HRA.out ja3 rfl (by kernel_rfl) ?_;simp only [jp,jb,jz,js];have hc:=yhC x HKR.out B sa sb wr HIN.out (jlt HB.out HG.out.size) (HOK.out x HXM.out) (HKF.out x HXM.out);obtain ⟨E,hE⟩:∃ y,yev x = y:=⟨_,rfl⟩;rw [hE] at hc;refine yai rfl 19 #[.agg (txC x sa sb)] (yak _ (.tmp 39) _ rfl _ rfl (jeo Tryz.func19 (by kernel_rfl) rfl _ _)) (hc.mono ?_);clear hc;rintro e w4 ⟨rfl,hg4⟩;have HE:=jh hE;have HG4:=jh (yab HG.out hg4 (by simp));have c0:w4.cell? ⟨g,off + k * 36,none⟩ = some (.int .i64 K):=hg4.cell (by rw [<- HK.out];simpa using HRA.out 0 _ rfl) (by simp);have c1:w4.cell? ⟨g,off + k * 36 + 1,none⟩ = some (.int .u64 (x.chain:Int)):=hg4.cell (HRA.out 1 _ rfl) (by simp);clear hE hg4;refine ⟨_,rfl,?_⟩;simp only [jp,jb,jz,js];refine zg (.int .i64 E) ?_;simp only [jp,jb,jz,js];refine jwn ?_;obtain ⟨XC,hXC⟩:∃ y,x.chain = y:=⟨_,rfl⟩;rw [hXC] at c1;have hone:oneT chain x = ye4 E false false (decide (XC ≠ chain)) (decide (K ≠ 0)) (decide (XC ≠ 0)):=by unfold oneT;rw [HE.out,HK.out,HQ2.out,HQ3.out,hXC]
   have HONE:=jh hone;clear hXC hone;by_cases hE0:E = 0
   rotate_left
   ·have q5:(E != 0) = true:=by simpa using hE0
    obtain rfl:R = E:=by rw [<- HR.out];exact HFA.out E (by rw [HONE.out];unfold ye4;rw [if_neg (by simp),if_pos hE0]) hE0
    clear hE0 c0 c1;go_wp2_with fail
    go_ret
    exact ⟨rfl,HG4.out⟩
   subst hE0;have HONE2:=jh (show oneT chain x = if (decide (XC ≠ chain) && (decide (K ≠ 0) || decide (XC ≠ 0))) = true then 2 else 0 by rw [HONE.out];unfold ye4;rw [if_neg (by simp),if_neg (by simp)])
   have hgo:oneT chain x = 0 -> Hid (∀ i,i < k + 1 -> oneT chain (ls.getD i TxV.zero) = 0):=fun h0=>jh fun i hi=>by
    by_cases hik:i = k
    ·rw [hik,HX.out];exact h0
    ·exact HF.out i (by omega)
   have HGO:=jh hgo;clear hgo;by_cases p1:XC = chain
   ·have q5:((XC:Int) != (chain:Int)) = false:=by simp [p1]
    have h0:oneT chain x = 0:=by rw [HONE2.out,decide_eq_false (by omega)];rfl
    have HZ:=jh (HGO.out h0);clear p1 h0;go_wp2_with fail
    go_roundw
    case rel=>exact ⟨k + 1,by go_num,by have:=HLT.out;omega,HG4.out,HZ.out⟩
    case measure=>have:=HLT.out;simp [intOf];omega
   have q5:((XC:Int) != (chain:Int)) = true:=by simpa using (show ¬ (XC:Int) = (chain:Int) by omega)
   by_cases p2:K = 0
   ·have q6:(K != 0) = false:=by simp [p2]
    by_cases p3:XC = 0
    ·have q7:((XC:Int) != 0) = false:=by simp [p3]
     have h0:oneT chain x = 0:=by rw [HONE2.out,decide_eq_false (p:=K ≠ 0) (by omega),decide_eq_false (p:=XC ≠ 0) (by omega)];simp
     have HZ:=jh (HGO.out h0);clear p1 p2 p3 h0;go_wp2_with fail
     go_roundw
     case rel=>exact ⟨k + 1,by go_num,by have:=HLT.out;omega,HG4.out,HZ.out⟩
     case measure=>have:=HLT.out;simp [intOf];omega
    ·have q7:((XC:Int) != 0) = true:=by simpa using (show ¬ (XC:Int) = 0 by omega)
     obtain rfl:R = 2:=by rw [<- HR.out];exact HFA.out 2 (by rw [HONE2.out,decide_eq_true (p:=XC ≠ chain) p1,decide_eq_true (p:=XC ≠ 0) p3];simp) (by decide)
     clear p1 p2 p3;go_wp2_with fail
     go_ret
     exact ⟨rfl,HG4.out⟩
   ·have q6:(K != 0) = true:=by simpa using p2
    obtain rfl:R = 2:=by rw [<- HR.out];exact HFA.out 2 (by rw [HONE2.out,decide_eq_true (p:=XC ≠ chain) p1,decide_eq_true (p:=K ≠ 0) p2];simp) (by decide)
    clear p1 p2;go_wp2_with fail
    go_ret
    exact ⟨rfl,HG4.out⟩
  ·have q1:decide ((k:Int) < (n:Int)) = false:=decide_eq_false (by omega)
   obtain rfl:R = 0:=by
    rw [<- HR.out];unfold yat
    rw [if_neg (by have:=HC0.out;have:=HC1.out;simp only [Bool.or_eq_true,decide_eq_true_eq];omega),if_neg (by have:=HL.out;have:=HN.out;omega)];exact ydY fun i hi=>HF.out i (by have:=HL.out;omega)
   go_wp2_with fail
   go_ret
   exact ⟨rfl,HG.out⟩
theorem yjq (B:Nat) (A:Option Addr) (n c:Nat) (ls:List TxV) (chain:Nat) (w:World) (h:TxsR B w ls A n) (hB:B <= w.heap.size) (hn:n <= 9223372036854775807) (ok:∀ t ∈ ls,t.Ok) (kf:∀ t ∈ ls,ycp t) :
  Calls jq 12 #[.slice A n c,.int .u64 (chain:Int)] w fun e w'=>e = .returned (.tuple #[.string ⟨(ycb ls chain).toArray⟩,.int .i64 (yat ls chain)]) /\ w.grownBy w' none:=by
 have hck:=yeu B A n c ls chain w h hB hn ok kf;obtain ⟨S,hS⟩:∃ S:ByteArray,(⟨(ycb ls chain).toArray⟩:ByteArray) = S:=⟨_,rfl⟩
 have hcs:∀ V,w.grownBy V none -> yat ls chain = 0 -> Calls jq 47 #[.slice A n c] V fun e w'=>e = .returned (.string S) /\ V.grownBy w' none:=fun V hV h0=>by
  have:=yjm B A n c ls chain V (h.grown hV hB) (jlt hB hV.size) h0 ok;have e:(⟨(ye9 ls).toArray⟩:ByteArray) = S:=by rw [<- hS];unfold ycb;rw [if_pos h0]
  rwa [e] at this
 have hS0:yat ls chain ≠ 0 -> S = ⟨#[]⟩:=fun h0=>by rw [<- hS];unfold ycb;rw [if_neg h0]
 rw [hS];obtain ⟨E,hE⟩:∃ E,yat ls chain = E:=⟨_,rfl⟩;rw [hE] at hck hcs hS0 ⊢;have HCS:=jh hcs;clear h hB hn ok kf hS hE hcs;go_enter Tryz.func12,Tryz.ntmps12
 go_wp2_with fail
 refine hck.mono ?_;clear hck;rintro e w2 ⟨rfl,hg⟩;have HG:=jh hg;clear hg;by_cases h0:E = 0
 ·subst h0;clear hS0;go_wp2_with fail
  refine (HCS.out _ HG.out (by trivial)).mono ?_;rintro e w3 ⟨rfl,hg⟩;have HG3:=jh (yab HG.out hg (by simp));clear hg;go_wp2_with fail
  go_ret2
  exact ⟨rfl,HG3.out⟩
 ·obtain rfl:S = ⟨#[]⟩:=hS0 h0;have q1:(E != 0) = true:=by simpa using h0
  clear h0 hS0;go_wp2_with fail
  go_ret2
  exact ⟨rfl,HG.out⟩
end Go.Proofs.YtgclnikdkfpflaaGreatDoor
