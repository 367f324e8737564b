/- Merged: CoK, CgA, Var, RowB, BitsP, BitsW, BitsU, UnvarP. -/
import Derived.Test.YtgclnikdkfpflaaGreatDoorMv1
import Derived.Test.YtgclnikdkfpflaaGreatDoorMv4
import Derived.Test.YtgclnikdkfpflaaGreatDoorMv5
import Derived.Test.YtgclnikdkfpflaaGreatDoorMv6
import Derived.Deep.DeepCutAuto
namespace Go.Proofs.YtgclnikdkfpflaaGreatDoor
open Go.RowKit Go.Shelf
open List renaming set_cons_zero → jz, set_cons_succ → js, setIfInBounds_toArray → jb
set_option linter.unusedVariables false
set_option linter.unusedSimpArgs false
set_option maxRecDepth 100000
set_option maxHeartbeats 16000000
open Lib renaming hid → jh, byteCells → ja6, IsBuilder → jd3
open Act renaming put → jp
open World.grownBy renaming refl → jr
open _root_.List renaming getD_eq_getElem?_getD → jg, getElem?_eq_getElem → je, getElem?_cons_zero → jcz, getElem?_cons_succ → jcs, getElem?_toArray → jta, length_append → jla, getElem?_append_right → jar, getElem?_append_left → jal, take_succ_eq_append_getElem → jtk, take_of_length_le → jtl, drop_eq_getElem_cons → jdc, length_cons → jlc, getElem?_map → jgm, finRange → jb3, replicate → jc1, getElem?_eq_none → jc6, getElem?_eq_some_iff → jc9, length_take → jd4, size_toArray → jd9
open _root_.Array renaming getElem?_eq_some_iff → jes
open _root_.Int renaming toNat_natCast → jnc, eq_ofNat_of_zero_le → jez, tdiv_eq_ediv_of_nonneg → je2, tmod_eq_emod_of_nonneg → je3
open KeepsOthers renaming setCell → jks
open World renaming ownsRow_nil → jon
open IntWalk renaming i64_in → jii
open _root_.Nat renaming le_trans → jlt, le_refl → jle, lt_of_lt_of_le → jc4, mul_comm → jd2, zero_add → jd6
open _root_.Go.Proofs.Tryz renaming prog → jq, underlying104 → ja7, underlying9 → ja9, underlying26 → je1
open Go renaming wp_region_list → jwl, bodyPost_ret → jbr, run_append_own_at → jra
open _root_.Go.Proofs renaming enters_of → jeo
open _root_.Option renaming some → ja1
open Value renaming oneCell' → ja2, slice → ja4, ownBlock → jc2, bool → jc7
open Below renaming refl → jc5
def nB (n:Nat):ByteArray:=⟨(beN n).toArray⟩
theorem ye0 (p:Nat) (hp:p < 115792089237316195423570985008687907853269984665640564039457584007913129639936) (w:World) :
  Calls jq 73 #[.agg #[.int .u64 (wp p 0:Nat),.int .u64 (wp p 1:Nat),.int .u64 (wp p 2:Nat),.int .u64 (wp p 3:Nat)]] w fun e w'=>e = .returned (.agg #[.bool false,.string (nB p),.slice none 0 0]) /\ w.grownBy w' none:=by
 have h:=ymZ (wp p 0) (wp p 1) (wp p 2) (wp p 3) (yee p 0) (yee p 1) (yee p 2) (yee p 3) w;rw [yfc p (by simpa using hp)] at h;exact h
theorem ydn (W:World) (cs:List Value) (t:TypeId):∀ (j:Nat) (u:Value),cs[j]? = some u -> (W.alloc (.cells cs.toArray t)).cell? ((⟨W.heap.size,0,none⟩:Addr).add j) = some u:=by
 intro j u hj;have hb:=Blk.new W t cs.toArray;have:=hb.cell j;rw [Addr.add_mid,jd6,this];simpa using hj
theorem ygm (S:Nat -> Prop) (W:World):SubV S W [] (.slice none 0 0):=.mk [] none 0 [] (fun h=>by cases h) (fun i h=>by cases h)
def yaT (t:TxV):Itm:=.mk true ⟨#[]⟩ (if t.kind = 0 then [txt (nB t.value),txt (nB t.price),txt t.data] else if t.kind = 1 then [txt (nB t.value),txt (nB t.price),txt t.data,accI t.acc] else [txt (nB t.value),txt (nB t.tip),txt (nB t.price),txt t.data,accI t.acc])
def ybS (t:TxV):List UInt8:=(if t.kind = 0 then [] else if t.kind = 1 then [1] else [2]) ++ encB (yaT t)
def ReK (w:World) (z b3 g:Nat) (ct:Array Value) (j:Nat) (xs:List Itm) (wx:World):Prop:=∃ (G c:Nat) (vs:List Value),RdJ w z b3 (.slice (some ⟨G,0,none⟩) j c) j xs vs wx /\ Blk wx g 42 ct
theorem ylC (t:TxV) (B:Nat) (pa:Option Addr) (na xa:Nat) (pb:Option Addr) (nb xb:Nat) (w:World) (hk:t.kind = 0 \/ t.kind = 1 \/ t.kind = 2) (hac:AccR B w t.acc pa na) (hB:B <= w.heap.size) (hna:na <= 16) (hke:∀ a ∈ t.acc,a.keys.length <= 1000)
  (hva:t.value < 115792089237316195423570985008687907853269984665640564039457584007913129639936) (hti:t.tip < 115792089237316195423570985008687907853269984665640564039457584007913129639936) (hpr:t.price < 115792089237316195423570985008687907853269984665640564039457584007913129639936)
  (hwt:wtF (yaT t) <= 1000000000) (hlen:(encB (yaT t)).length <= 1000000000) :
  Calls jq 40 #[.agg (txC t (.slice pa na xa) (.slice pb nb xb))] w fun e w'=>e = .returned (.string ⟨(ybS t).toArray⟩) /\ w.grownBy w' none:=by
 have hla:=hac.1;have hb:=Blk.new w 42 (txC t (.slice pa na xa) (.slice pb nb xb));have hG:=yaa (jr w none) (.cells (txC t (.slice pa na xa) (.slice pb nb xb)) 42);have HENC:=jh (fun V sx h=>yji (yaT t) V sx h hwt);obtain ⟨L,hL⟩:∃ L,encB (yaT t) = L:=⟨_,rfl⟩;obtain ⟨E,hE⟩:∃ L,ybU (yaT t) = L:=⟨_,rfl⟩;obtain ⟨HD,hHD⟩:∃ s,(⟨(if t.kind = 0 then [] else if t.kind = 1 then [1] else [2]:List UInt8).toArray⟩:ByteArray) = s:=⟨_,rfl⟩;have hR:(⟨(ybS t).toArray⟩:ByteArray) = HD ++ ⟨L.toArray⟩:=by unfold ybS;rw [<- hHD,<- hL,ygK]
 obtain ⟨K,hK⟩:∃ K,t.kind = K:=⟨_,rfl⟩;have hkz:HD.size <= 1:=by rw [<- hHD];rcases hk with h | h | h <;> (rw [h];decide)
 rw [hL] at HENC hlen;rw [hE] at HENC;rw [hR];rw [hK] at hHD hk;obtain ⟨xs1,hx1⟩:∃ l,(if K = 2 then [txt (nB t.value),txt (nB t.tip)] else [txt (nB t.value)]) = l:=⟨_,rfl⟩;obtain ⟨j1,hj1⟩:∃ l,(if K = 2 then 2 else 1) = l:=⟨_,rfl⟩;obtain ⟨xs3,hx3⟩:∃ l,(if K = 0 then xs1 ++ [txt (nB t.price),txt t.data] else (xs1 ++ [txt (nB t.price),txt t.data]) ++ [accI t.acc]) = l:=⟨_,rfl⟩;obtain ⟨j3,hj3⟩:∃ l,(if K = 0 then j1 + 2 else (j1 + 2) + 1) = l:=⟨_,rfl⟩;have hj1b:j1 <= 4:=by rw [<- hj1];split <;> omega
 have hj2b:j1 + 2 <= 4:=by rw [<- hj1];split <;> omega
 have hI:yaT t = .mk true ⟨#[]⟩ xs3:=by unfold yaT;rw [<- hx3,<- hx1,hK];rcases hk with h | h | h <;> simp [h]
 rw [hI] at HENC;have HAC:=jh hac;have HBB:=jh hB;have HNA:=jh hna;have HKE:=jh hke;have HVA:=jh hva;have HTI:=jh hti;have HPR:=jh hpr;have HLEN:=jh hlen;have HK:=jh hk;have HKK:=jh hK;have HHD:=jh hHD;have HKZ:=jh hkz;have HX1:=jh hx1;have HJ1:=jh hj1;have HX3:=jh hx3;have HJ3:=jh hj3;have HB1:=jh hj1b;have HB2:=jh hj2b;clear hac hB hna hke hva hti hpr hlen hwt hL hE hR hla hK hHD hkz hk hx1 hj1 hx3 hj3 hj1b hj2b hI;go_enter Tryz.func40,Tryz.ntmps40
 go_upto_region 1 with (fail)
 obtain ⟨g,hg⟩:∃ g,w.heap.size = g:=⟨_,rfl⟩;have HW:=jh hg;rw [hg] at hb ⊢;clear hg;generalize w.alloc (.cells (txC t (.slice pa na xa) (.slice pb nb xb)) 42) = w1 at *;refine jwl ?_;refine zg (.pointer (some ⟨g,13,none⟩)) ?_;simp only [jp,jb,jz,js];refine yac rfl (.agg #[.int .u64 (wp t.value 0:Nat),.int .u64 (wp t.value 1:Nat),.int .u64 (wp t.value 2:Nat),.int .u64 (wp t.value 3:Nat)]) (yaA _ rfl rfl ((hb.cell 13).trans rfl) ((hb.cell 14).trans rfl) ((hb.cell 15).trans rfl) ((hb.cell 16).trans rfl)) ?_;simp only [jp,jb,jz,js];go_wp2_with fail
 refine (ye0 t.value HVA.out _).mono ?_;rintro e w2 ⟨rfl,hg2⟩;have hb2:=hb.grown hg2 (by simp);have hG2:=yab hG hg2 (by simp);clear hb hG hg2;go_wp2_with fail
 refine (yeW _ ⟨_,_,_,rfl⟩ _).mono ?_;rintro e w3 ⟨rfl,hg3⟩;obtain ⟨z,hz⟩:∃ z,w2.heap.size = z:=⟨_,rfl⟩;have hzb:=Blk.new w2 106 #[.bool false,.string (nB t.value),.slice none 0 0];have hzz:(w2.alloc (.cells #[.bool false,.string (nB t.value),.slice none 0 0] 106)).heap.size = z + 1:=by simp [hz]
 have hG3:=yaa hG2 (.cells #[.bool false,.string (nB t.value),.slice none 0 0] 106);have hb3':=hb2.alloc (.cells #[.bool false,.string (nB t.value),.slice none 0 0] 106);have hgz:g < z:=by have:=hb2.lt;omega
 have hwz:w.heap.size <= z:=by have:=hG2.size;omega
 rw [hz] at hzb ⊢;clear hz hG2 hb2;generalize w2.alloc (.cells #[.bool false,.string (nB t.value),.slice none 0 0] 106) = w2' at *;have hz3:=hg3.size;obtain ⟨b3,hb3⟩:∃ b,w3.heap.size = b:=⟨_,rfl⟩;have hzlt:z < b3:=by omega
 have hbn:=Blk.new w3 106 #[.bool true,.string ⟨#[]⟩,.slice (some ⟨z,0,none⟩) 1 1];rw [hb3] at hbn;have hga:=yaa (jr w3 none) (.cells #[.bool true,.string ⟨#[]⟩,.slice (some ⟨z,0,none⟩) 1 1] 106);have hzb4:Blk (w3.alloc (.cells #[.bool true,.string ⟨#[]⟩,.slice (some ⟨z,0,none⟩) 1 1] 106)) z 106 #[.bool false,.string (nB t.value),.slice none 0 0]:=(hzb.grown hg3 (by simp)).grown hga (by simp);have hG4:=yab (yab hG3 hg3 (by simp)) hga (by simp)
 have K0:RdJ w z b3 (.slice (some ⟨z,0,none⟩) 1 1) 1 [txt (nB t.value)] [.slice none 0 0] (w3.alloc (.cells #[.bool true,.string ⟨#[]⟩,.slice (some ⟨z,0,none⟩) 1 1] 106)):=by
  refine ⟨hbn,⟨rfl,.inr ⟨z,1,#[.bool false,.string (nB t.value),.slice none 0 0],rfl,jle _,hzb4,jle _,by simp [maxLen],rfl,rfl⟩⟩,?_,hG4,hwz,by omega,by have:=hzb4.lt;omega,rfl,rfl,fun i hi=>?_⟩
  ·simp only [jc2,ne_eq,ja1.injEq];omega
  ·match i,hi with
   | 0,_=>exact ygm _ _
 have HBS:Blk (w3.alloc (.cells #[.bool true,.string ⟨#[]⟩,.slice (some ⟨z,0,none⟩) 1 1] 106)) g 42 (txC t (.slice pa na xa) (.slice pb nb xb)):=(hb3'.grown hg3 (by simp)).grown hga (by simp);have HGZ:=jh hgz;have HZB:=jh hzlt;clear hzb hzz hG3 hb3' hgz hwz hz3 hzlt hbn hga hzb4 hG4 hg3;go_upto_region 2 with (fail)
 clear hb3;generalize w3.alloc (.cells #[.bool true,.string ⟨#[]⟩,.slice (some ⟨z,0,none⟩) 1 1] 106) = w4 at *;have c0:w4.cell? ⟨g,0,none⟩ = some (.int .i64 K):=by rw [<- HKK.out];exact HBS.cell 0
 have hK0:ReK w z b3 g (txC t (.slice pa na xa) (.slice pb nb xb)) 1 [txt (nB t.value)] w4:=⟨_,_,_,K0,HBS⟩;have HK0:=jh hK0;clear K0 HBS hK0;go_upto_if 14 with (fail)
 go_cut [4] (fun v wx=>v = .string HD /\ ReK w z b3 g (txC t (.slice pa na xa) (.slice pb nb xb)) 1 [txt (nB t.value)] wx)
 case first =>
  have hk:=HK.out;have hHD:=HHD.out;rcases hk with rfl | rfl | rfl
  ·clear HK HX1 HJ1 HX3 HJ3 HHD;go_wp2_with fail
   go_meet
   exact ⟨by rw [<- hHD];rfl,HK0.out⟩
  ·clear HK HX1 HJ1 HX3 HJ3 HHD;have hcv:(convert 43 9 (.slice (some ⟨w4.heap.size,0,none⟩) 1 1)).run jq (w4.alloc (.cells #[.int .u8 1] 5)) = .ok (.string ⟨#[1]⟩) (w4.alloc (.cells #[.int .u8 1] 5)):=yc8 (yhb w4 1);have hga:=yaa (jr w4 none) (.cells #[.int .u8 1] 5);obtain ⟨G,c,vs,K0,HBS⟩:=HK0.out;have hfin:ReK w z b3 g (txC t (.slice pa na xa) (.slice pb nb xb)) 1 [txt (nB t.value)] (w4.alloc (.cells #[.int .u8 1] 5)):=⟨G,c,vs,K0.kept hga,HBS.grown hga (by simp)⟩;have HFIN:=jh hfin;have HHD:=jh hHD;clear hga K0 HBS hfin HK0 hHD;go_wp2_with fail
   go_meet
   exact ⟨by rw [<- HHD.out];rfl,HFIN.out⟩
  ·clear HK HX1 HJ1 HX3 HJ3 HHD;have hcv:(convert 43 9 (.slice (some ⟨w4.heap.size,0,none⟩) 1 1)).run jq (w4.alloc (.cells #[.int .u8 2] 5)) = .ok (.string ⟨#[2]⟩) (w4.alloc (.cells #[.int .u8 2] 5)):=yc8 (yhb w4 2);have hga:=yaa (jr w4 none) (.cells #[.int .u8 2] 5);obtain ⟨G,c,vs,K0,HBS⟩:=HK0.out;have hfin:ReK w z b3 g (txC t (.slice pa na xa) (.slice pb nb xb)) 1 [txt (nB t.value)] (w4.alloc (.cells #[.int .u8 2] 5)):=⟨G,c,vs,K0.kept hga,HBS.grown hga (by simp)⟩;have HFIN:=jh hfin;have HHD:=jh hHD;clear hga K0 HBS hfin HK0 hHD;go_wp2_with fail
   go_meet
   exact ⟨by rw [<- HHD.out];rfl,HFIN.out⟩
 case rest =>
  obtain ⟨rfl,G,c,vs,K0,HBS⟩:=hcut;generalize wc = w5 at *;clear HK0 c0;have c0:w5.cell? ⟨g,0,none⟩ = some (.int .i64 K):=by rw [<- HKK.out];exact HBS.cell 0
  go_upto_if 22 with (fail)
  clear c0;go_cut [] (fun wx=>ReK w z b3 g (txC t (.slice pa na xa) (.slice pb nb xb)) j1 xs1 wx)
  case first =>
   by_cases h2:K = 2
   ·have e1:=HX1.out;have e2:=HJ1.out;rw [if_pos h2] at e1 e2;subst e1 e2 h2;have HJ:=jh (show 1 <= 4 by omega);go_upto_region 6 with (fail)
    refine yci 8 (fun b W=>b = false -> W.cell? ⟨b3,2,none⟩ = some (.slice (some ⟨G,0,none⟩) 1 c) /\ Blk W g 42 (txC t (.slice pa na xa) (.slice pb nb xb))) (by kernel_rfl) ?_;replace K0:=K0.kept (ya2 (jr w5 none));replace HBS:Blk w5.drew g 42 (txC t (.slice pa na xa) (.slice pb nb xb)):=HBS;(try clear c0);generalize w5.drew = u0 at *;have hS0:false = false -> u0.cell? ⟨b3,2,none⟩ = some (.slice (some ⟨G,0,none⟩) 1 c) /\ Blk u0 g 42 (txC t (.slice pa na xa) (.slice pb nb xb)):=fun _=>⟨K0.blk.cell 2,HBS⟩;refine zf 0 (.pointer (some ⟨b3,2,none⟩)) (some 23) rfl (fun W hW=>by go_simp) hS0 ?_;simp only [jp,jb,jz,js];refine zf 1 (.slice (some ⟨G,0,none⟩) 1 c) (some 24) rfl (fun W hW=>yaf 104 (.tmp 23) rfl _ rfl _ _ ja7 rfl (hW rfl).1) hS0 ?_;simp only [jp,jb,jz,js];refine zf 2 (.pointer (some ⟨g,3,none⟩)) (some 25) rfl (fun W hW=>by go_simp) hS0 ?_;simp only [jp,jb,jz,js];refine zf 3 (.agg #[.int .u64 (wp t.tip 0:Nat),.int .u64 (wp t.tip 1:Nat),.int .u64 (wp t.tip 2:Nat),.int .u64 (wp t.tip 3:Nat)]) (some 26) rfl (fun W hW=>yaA _ rfl rfl (((hW rfl).2.cell 3).trans rfl) (((hW rfl).2.cell 4).trans rfl) (((hW rfl).2.cell 5).trans rfl) (((hW rfl).2.cell 6).trans rfl)) hS0 ?_;simp only [jp,jb,jz,js];clear hS0;refine yb6 (i:=4) (by kernel_rfl) ?_;refine ycJ (some 27) rfl rfl 73 #[.agg #[.int .u64 (wp t.tip 0:Nat),.int .u64 (wp t.tip 1:Nat),.int .u64 (wp t.tip 2:Nat),.int .u64 (wp t.tip 3:Nat)]] (yak _ (.tmp 26) _ rfl _ rfl (jeo Tryz.func73 (by kernel_rfl) rfl _ _)) rfl false (by kernel_rfl) ((ye0 t.tip HTI.out u0).mono ?_);rintro e u1 ⟨rfl,hg⟩;replace K0:=K0.kept hg;replace HBS:=HBS.grown hg (by simp);clear hg;refine ⟨_,rfl,(fun _=>⟨K0.blk.cell 2,HBS⟩),?_⟩;simp only [jp,jb,jz,js];refine yb6 (i:=5) (by kernel_rfl) ?_;have hga:=yaa (jr u1 none) (.cells #[.bool false,.string (nB t.tip),.slice none 0 0] 106);replace K0:=K0.kept hga;replace HBS:=HBS.grown hga (by simp);refine ybs (some 28) rfl rfl (.slice (some ⟨u1.heap.size,0,none⟩) 1 1) (w':=u1.alloc (.cells #[.bool false,.string (nB t.tip),.slice none 0 0] 106)) (by go_simp <;> rfl) rfl false (by kernel_rfl) (fun _=>⟨K0.blk.cell 2,HBS⟩) ?_;simp only [jp,jb,jz,js];obtain ⟨i0,hi,hz0,hzs,hzb⟩:=info_parts ybr;have hJ:=HJ.out;obtain ⟨v',v2,hrun,hown',hgrow,hiff,hob⟩:=jra (P:=jq) (u1.alloc (.cells #[.bool false,.string (nB t.tip),.slice none 0 0] 106)) z 104 104 106 i0 _ 3 48 ja7 hi hz0 hzs hzb rfl (by decide) (.slice (some ⟨G,0,none⟩) 1 c) 1 (yb2 [txt (nB t.value)] vs) K0.own ⟨u1.heap.size,0,none⟩ 1 1 [.bool false,.string (nB t.tip),.slice none 0 0] rfl (ydn _ [.bool false,.string (nB t.tip),.slice none 0 0] _) (by simp [ja2]) (by simp only [maxLen];omega) (by omega) K0.size;obtain ⟨g5,cap5,rfl⟩:=ownsRow_succ (k:=1) hown';have hnn:(ja4 (some ⟨u1.heap.size,0,none⟩) 1 1:Value) = .slice (some ⟨u1.heap.size,0,none⟩) 1 1:=rfl
    have K1:=K0.put (m:=1) [txt (nB t.tip)] [.slice none 0 0] rfl rfl (fun i hi=>by
     match i,hi with
     | 0,_=>exact ygm _ _) hown' hgrow hob
    have hb8:=HBS.grown hgrow (fun e=>by have:=yaj K0.own e.symm;have:=HGZ.out;omega);have hbb:=K0.blk.grown hgrow (fun e=>K0.ne e.symm);refine yb6 (i:=6) (by kernel_rfl) ?_;refine ybs (some 29) rfl rfl (.slice (some ⟨g5,0,none⟩) (1 + 1) cap5) (ya7 (.tmp 24) (.tmp 28) 104 rfl _ _ _ rfl rfl hrun) rfl false (by kernel_rfl) (fun _=>⟨hbb.cell 2,hb8⟩) ?_;simp only [jp,jb,jz,js];refine yb6 (i:=7) (by kernel_rfl) ?_;refine ybs (some 30) rfl rfl (.pointer (some ⟨b3,2,none⟩)) (by go_simp <;> rfl) rfl false (by kernel_rfl) (fun _=>⟨hbb.cell 2,hb8⟩) ?_;simp only [jp,jb,jz,js];refine yb6 (i:=8) (by kernel_rfl) ?_;refine ygA rfl rfl rfl (yaG (.tmp 30) (.tmp 29) rfl rfl rfl hbb (by simp)) true (by kernel_rfl) (fun e=>by cases e) ?_;(try simp only [jp,jb,jz,js]);refine ygB (by kernel_rfl) ?_ _;replace K0:RdJ w z b3 (.slice (some ⟨g5,0,none⟩) (1 + 1) cap5) (1 + 1) ([txt (nB t.value)] ++ [txt (nB t.tip)]) (vs ++ [.slice none 0 0]) (v2.setCell ⟨b3,2,none⟩ (.slice (some ⟨g5,0,none⟩) (1 + 1) cap5)):=K1;replace HBS:Blk (v2.setCell ⟨b3,2,none⟩ (.slice (some ⟨g5,0,none⟩) (1 + 1) cap5)) g 42 (txC t (.slice pa na xa) (.slice pb nb xb)):=yaF hb8 (by have:=HGZ.out;have:=HZB.out;omega) 2 _;clear hrun hown' hgrow hob hiff K1 hb8 hbb hga hnn hJ ;generalize v2.setCell ⟨b3,2,none⟩ (.slice (some ⟨g5,0,none⟩) (1 + 1) cap5) = y5 at *;go_wp2_with fail
    go_meet
    exact ⟨_,_,_,K0,HBS⟩
   ·have e1:=HX1.out;have e2:=HJ1.out;rw [if_neg h2] at e1 e2;subst e1 e2;have h2':decide (K = 2) = false:=decide_eq_false h2;have HK0:=jh (show ReK w z b3 g (txC t (.slice pa na xa) (.slice pb nb xb)) 1 [txt (nB t.value)] w5 from ⟨_,_,_,K0,HBS⟩);clear K0 HBS;go_wp2_with fail
    go_meet
    exact HK0.out
  case rest =>
   clear K0 HBS;obtain ⟨G',c',vs',K0,HBS⟩:=hcut;generalize wc = w6 at *;have HJ:=HB1;go_upto_region 7 with (fail)
   refine yci 11 (fun b W=>b = false -> W.cell? ⟨b3,2,none⟩ = some (.slice (some ⟨G',0,none⟩) j1 c') /\ Blk W g 42 (txC t (.slice pa na xa) (.slice pb nb xb))) (by kernel_rfl) ?_;replace K0:=K0.kept (ya2 (jr w6 none));replace HBS:Blk w6.drew g 42 (txC t (.slice pa na xa) (.slice pb nb xb)):=HBS;(try clear c0);generalize w6.drew = u0 at *;have hS0:false = false -> u0.cell? ⟨b3,2,none⟩ = some (.slice (some ⟨G',0,none⟩) j1 c') /\ Blk u0 g 42 (txC t (.slice pa na xa) (.slice pb nb xb)):=fun _=>⟨K0.blk.cell 2,HBS⟩;refine zf 0 (.pointer (some ⟨b3,2,none⟩)) (some 31) rfl (fun W hW=>by go_simp) hS0 ?_;simp only [jp,jb,jz,js];refine zf 1 (.slice (some ⟨G',0,none⟩) j1 c') (some 32) rfl (fun W hW=>yaf 104 (.tmp 31) rfl _ rfl _ _ ja7 rfl (hW rfl).1) hS0 ?_;simp only [jp,jb,jz,js];refine zf 2 (.pointer (some ⟨g,7,none⟩)) (some 33) rfl (fun W hW=>by go_simp) hS0 ?_;simp only [jp,jb,jz,js];refine zf 3 (.agg #[.int .u64 (wp t.price 0:Nat),.int .u64 (wp t.price 1:Nat),.int .u64 (wp t.price 2:Nat),.int .u64 (wp t.price 3:Nat)]) (some 34) rfl (fun W hW=>yaA _ rfl rfl (((hW rfl).2.cell 7).trans rfl) (((hW rfl).2.cell 8).trans rfl) (((hW rfl).2.cell 9).trans rfl) (((hW rfl).2.cell 10).trans rfl)) hS0 ?_;simp only [jp,jb,jz,js];refine zf 5 (.pointer (some ⟨g,17,none⟩)) (some 36) rfl (fun W hW=>by go_simp) hS0 ?_;simp only [jp,jb,jz,js];refine zf 6 (.string t.data) (some 37) rfl (fun W hW=>yaf 9 (.tmp 36) rfl _ rfl _ _ ja9 rfl (((hW rfl).2.cell 17).trans rfl)) hS0 ?_;simp only [jp,jb,jz,js];clear hS0;refine yb6 (i:=4) (by kernel_rfl) ?_;refine ycJ (some 35) rfl rfl 73 #[.agg #[.int .u64 (wp t.price 0:Nat),.int .u64 (wp t.price 1:Nat),.int .u64 (wp t.price 2:Nat),.int .u64 (wp t.price 3:Nat)]] (yak _ (.tmp 34) _ rfl _ rfl (jeo Tryz.func73 (by kernel_rfl) rfl _ _)) rfl false (by kernel_rfl) ((ye0 t.price HPR.out u0).mono ?_);rintro e u1 ⟨rfl,hg⟩;replace K0:=K0.kept hg;replace HBS:=HBS.grown hg (by simp);clear hg;refine ⟨_,rfl,(fun _=>⟨K0.blk.cell 2,HBS⟩),?_⟩;simp only [jp,jb,jz,js];refine yb6 (i:=7) (by kernel_rfl) ?_;refine ycJ (some 38) rfl rfl 74 #[.string t.data] (yak _ (.tmp 37) _ rfl _ rfl (jeo Tryz.func74 (by kernel_rfl) rfl _ _)) rfl false (by kernel_rfl) ((yeh t.data u1).mono ?_);rintro e u2 ⟨rfl,hg⟩;replace K0:=K0.kept hg;replace HBS:=HBS.grown hg (by simp);clear hg;refine ⟨_,rfl,(fun _=>⟨K0.blk.cell 2,HBS⟩),?_⟩;simp only [jp,jb,jz,js];refine yb6 (i:=8) (by kernel_rfl) ?_;have hga:=yaa (jr u2 none) (.cells #[.bool false,.string (nB t.price),.slice none 0 0,.bool false,.string t.data,.slice none 0 0] 106);replace K0:=K0.kept hga;replace HBS:=HBS.grown hga (by simp);refine ybs (some 39) rfl rfl (.slice (some ⟨u2.heap.size,0,none⟩) 2 2) (w':=u2.alloc (.cells #[.bool false,.string (nB t.price),.slice none 0 0,.bool false,.string t.data,.slice none 0 0] 106)) (by go_simp <;> rfl) rfl false (by kernel_rfl) (fun _=>⟨K0.blk.cell 2,HBS⟩) ?_;simp only [jp,jb,jz,js];obtain ⟨i0,hi,hz0,hzs,hzb⟩:=info_parts ybr;have hJ:=HJ.out;obtain ⟨v',v2,hrun,hown',hgrow,hiff,hob⟩:=jra (P:=jq) (u2.alloc (.cells #[.bool false,.string (nB t.price),.slice none 0 0,.bool false,.string t.data,.slice none 0 0] 106)) z 104 104 106 i0 _ 3 48 ja7 hi hz0 hzs hzb rfl (by decide) (.slice (some ⟨G',0,none⟩) j1 c') j1 (yb2 xs1 vs') K0.own ⟨u2.heap.size,0,none⟩ 2 2 [.bool false,.string (nB t.price),.slice none 0 0,.bool false,.string t.data,.slice none 0 0] rfl (ydn _ [.bool false,.string (nB t.price),.slice none 0 0,.bool false,.string t.data,.slice none 0 0] _) (by simp [ja2]) (by simp only [maxLen];omega) (by omega) K0.size;obtain ⟨g6,cap6,rfl⟩:=ownsRow_succ (k:=(j1 + 1)) hown';have hnn:(ja4 (some ⟨u2.heap.size,0,none⟩) 2 2:Value) = .slice (some ⟨u2.heap.size,0,none⟩) 2 2:=rfl
   have K1:=K0.put (m:=2) [txt (nB t.price),txt t.data] [.slice none 0 0,.slice none 0 0] rfl rfl (fun i hi=>by
    match i,hi with
    | 0,_=>exact ygm _ _
    | 1,_=>exact ygm _ _) hown' hgrow hob
   have hb8:=HBS.grown hgrow (fun e=>by have:=yaj K0.own e.symm;have:=HGZ.out;omega);have hbb:=K0.blk.grown hgrow (fun e=>K0.ne e.symm);refine yb6 (i:=9) (by kernel_rfl) ?_;refine ybs (some 40) rfl rfl (.slice (some ⟨g6,0,none⟩) (j1 + 2) cap6) (ya7 (.tmp 32) (.tmp 39) 104 rfl _ _ _ rfl rfl hrun) rfl false (by kernel_rfl) (fun _=>⟨hbb.cell 2,hb8⟩) ?_;simp only [jp,jb,jz,js];refine yb6 (i:=10) (by kernel_rfl) ?_;refine ybs (some 41) rfl rfl (.pointer (some ⟨b3,2,none⟩)) (by go_simp <;> rfl) rfl false (by kernel_rfl) (fun _=>⟨hbb.cell 2,hb8⟩) ?_;simp only [jp,jb,jz,js];refine yb6 (i:=11) (by kernel_rfl) ?_;refine ygA rfl rfl rfl (yaG (.tmp 41) (.tmp 40) rfl rfl rfl hbb (by simp)) true (by kernel_rfl) (fun e=>by cases e) ?_;(try simp only [jp,jb,jz,js]);refine ygB (by kernel_rfl) ?_ _;replace K0:RdJ w z b3 (.slice (some ⟨g6,0,none⟩) (j1 + 2) cap6) (j1 + 2) (xs1 ++ [txt (nB t.price),txt t.data]) (vs' ++ [.slice none 0 0,.slice none 0 0]) (v2.setCell ⟨b3,2,none⟩ (.slice (some ⟨g6,0,none⟩) (j1 + 2) cap6)):=K1;replace HBS:Blk (v2.setCell ⟨b3,2,none⟩ (.slice (some ⟨g6,0,none⟩) (j1 + 2) cap6)) g 42 (txC t (.slice pa na xa) (.slice pb nb xb)):=yaF hb8 (by have:=HGZ.out;have:=HZB.out;omega) 2 _;clear hrun hown' hgrow hob hiff K1 hb8 hbb hga hnn hJ ;generalize v2.setCell ⟨b3,2,none⟩ (.slice (some ⟨g6,0,none⟩) (j1 + 2) cap6) = y6 at *;clear HJ;have c0:y6.cell? ⟨g,0,none⟩ = some (.int .i64 K):=by rw [<- HKK.out];exact HBS.cell 0
   go_upto_if 44 with (fail)
   clear c0;go_cut [] (fun wx=>ReK w z b3 g (txC t (.slice pa na xa) (.slice pb nb xb)) j3 xs3 wx)
   case first =>
    by_cases h0:K = 0
    ·have e1:=HX3.out;have e2:=HJ3.out;rw [if_pos h0] at e1 e2;subst e1 e2 h0;have HK0:=jh (show ReK w z b3 g (txC t (.slice pa na xa) (.slice pb nb xb)) (j1 + 2) (xs1 ++ [txt (nB t.price),txt t.data]) y6 from ⟨_,_,_,K0,HBS⟩);clear K0 HBS;go_wp2_with fail
     go_meet
     exact HK0.out
    ·have e1:=HX3.out;have e2:=HJ3.out;rw [if_neg h0] at e1 e2;subst e1 e2;have h0':decide (K = 0) = false:=decide_eq_false h0;have HJ:=HB2;go_upto_region 9 with (fail)
     refine yci 8 (fun b W=>b = false -> W.cell? ⟨b3,2,none⟩ = some (.slice (some ⟨g6,0,none⟩) (j1 + 2) cap6) /\ Blk W g 42 (txC t (.slice pa na xa) (.slice pb nb xb))) (by kernel_rfl) ?_;replace K0:=K0.kept (ya2 (jr y6 none));replace HBS:Blk y6.drew g 42 (txC t (.slice pa na xa) (.slice pb nb xb)):=HBS;(try clear c0);generalize y6.drew = u0 at *;have hS0:false = false -> u0.cell? ⟨b3,2,none⟩ = some (.slice (some ⟨g6,0,none⟩) (j1 + 2) cap6) /\ Blk u0 g 42 (txC t (.slice pa na xa) (.slice pb nb xb)):=fun _=>⟨K0.blk.cell 2,HBS⟩;refine zf 0 (.pointer (some ⟨b3,2,none⟩)) (some 45) rfl (fun W hW=>by go_simp) hS0 ?_;simp only [jp,jb,jz,js];refine zf 1 (.slice (some ⟨g6,0,none⟩) (j1 + 2) cap6) (some 46) rfl (fun W hW=>yaf 104 (.tmp 45) rfl _ rfl _ _ ja7 rfl (hW rfl).1) hS0 ?_;simp only [jp,jb,jz,js];refine zf 2 (.pointer (some ⟨g,18,none⟩)) (some 47) rfl (fun W hW=>by go_simp) hS0 ?_;simp only [jp,jb,jz,js];refine zf 3 (.slice pa na xa) (some 48) rfl (fun W hW=>yaf 39 (.tmp 47) rfl _ rfl _ _ Tryz.underlying39 rfl (((hW rfl).2.cell 18).trans rfl)) hS0 ?_;simp only [jp,jb,jz,js];clear hS0;refine yb6 (i:=4) (by kernel_rfl) ?_;refine ycJ (some 49) rfl rfl 75 #[.slice pa na xa] (yak _ (.tmp 48) _ rfl _ rfl (jeo Tryz.func75 (by kernel_rfl) rfl _ _)) rfl false (by kernel_rfl) ((yj2 B pa na xa t.acc u0 (HAC.out.grown K0.grown HBB.out) (jlt HBB.out K0.grown.size) (by have:=HNA.out;omega) HKE.out).mono ?_);rintro e u1 ⟨A',c',rfl,hsub,hg⟩;have hx0:SubV (fun g=>z <= g /\ g ≠ b3 /\ (.slice (some ⟨g6,0,none⟩) (j1 + 2) cap6:Value).ownBlock ≠ some g) u1 (t.acc.map ybt) (.slice A' na c'):=hsub.weak (fun g (h:u0.heap.size <= g)=>⟨jlt K0.size h,fun e=>by have:=K0.blk.lt;omega,fun e=>by have:=ycH K0.own e;omega⟩);clear hsub;replace K0:=K0.kept hg;replace HBS:=HBS.grown hg (by simp);clear hg;refine ⟨_,rfl,(fun _=>⟨K0.blk.cell 2,HBS⟩),?_⟩;simp only [jp,jb,jz,js];refine yb6 (i:=5) (by kernel_rfl) ?_;have hga:=yaa (jr u1 none) (.cells #[.bool true,.string ⟨#[]⟩,.slice A' na c'] 106);replace K0:=K0.kept hga;replace HBS:=HBS.grown hga (by simp);replace hx0:=SubV.grown hx0 hga;refine ybs (some 50) rfl rfl (.slice (some ⟨u1.heap.size,0,none⟩) 1 1) (w':=u1.alloc (.cells #[.bool true,.string ⟨#[]⟩,.slice A' na c'] 106)) (by go_simp <;> rfl) rfl false (by kernel_rfl) (fun _=>⟨K0.blk.cell 2,HBS⟩) ?_;simp only [jp,jb,jz,js];obtain ⟨i0,hi,hz0,hzs,hzb⟩:=info_parts ybr;have hJ:=HJ.out;obtain ⟨v',v2,hrun,hown',hgrow,hiff,hob⟩:=jra (P:=jq) (u1.alloc (.cells #[.bool true,.string ⟨#[]⟩,.slice A' na c'] 106)) z 104 104 106 i0 _ 3 48 ja7 hi hz0 hzs hzb rfl (by decide) (.slice (some ⟨g6,0,none⟩) (j1 + 2) cap6) (j1 + 2) (yb2 (xs1 ++ [txt (nB t.price),txt t.data]) (vs' ++ [.slice none 0 0,.slice none 0 0])) K0.own ⟨u1.heap.size,0,none⟩ 1 1 [.bool true,.string ⟨#[]⟩,.slice A' na c'] rfl (ydn _ [.bool true,.string ⟨#[]⟩,.slice A' na c'] _) (by simp [ja2]) (by simp only [maxLen];omega) (by omega) K0.size;obtain ⟨g7,cap7,rfl⟩:=ownsRow_succ (k:=(j1 + 2)) hown';have hnn:(ja4 (some ⟨u1.heap.size,0,none⟩) 1 1:Value) = .slice (some ⟨u1.heap.size,0,none⟩) 1 1:=rfl
     have K1:=K0.put (m:=1) [accI t.acc] [.slice A' na c'] rfl rfl (fun i hi=>by
      match i,hi with
      | 0,_=>exact hx0) hown' hgrow hob
     have hb8:=HBS.grown hgrow (fun e=>by have:=yaj K0.own e.symm;have:=HGZ.out;omega);have hbb:=K0.blk.grown hgrow (fun e=>K0.ne e.symm);refine yb6 (i:=6) (by kernel_rfl) ?_;refine ybs (some 51) rfl rfl (.slice (some ⟨g7,0,none⟩) ((j1 + 2) + 1) cap7) (ya7 (.tmp 46) (.tmp 50) 104 rfl _ _ _ rfl rfl hrun) rfl false (by kernel_rfl) (fun _=>⟨hbb.cell 2,hb8⟩) ?_;simp only [jp,jb,jz,js];refine yb6 (i:=7) (by kernel_rfl) ?_;refine ybs (some 52) rfl rfl (.pointer (some ⟨b3,2,none⟩)) (by go_simp <;> rfl) rfl false (by kernel_rfl) (fun _=>⟨hbb.cell 2,hb8⟩) ?_;simp only [jp,jb,jz,js];refine yb6 (i:=8) (by kernel_rfl) ?_;refine ygA rfl rfl rfl (yaG (.tmp 52) (.tmp 51) rfl rfl rfl hbb (by simp)) true (by kernel_rfl) (fun e=>by cases e) ?_;(try simp only [jp,jb,jz,js]);refine ygB (by kernel_rfl) ?_ _;replace K0:RdJ w z b3 (.slice (some ⟨g7,0,none⟩) ((j1 + 2) + 1) cap7) ((j1 + 2) + 1) ((xs1 ++ [txt (nB t.price),txt t.data]) ++ [accI t.acc]) ((vs' ++ [.slice none 0 0,.slice none 0 0]) ++ [.slice A' na c']) (v2.setCell ⟨b3,2,none⟩ (.slice (some ⟨g7,0,none⟩) ((j1 + 2) + 1) cap7)):=K1;replace HBS:Blk (v2.setCell ⟨b3,2,none⟩ (.slice (some ⟨g7,0,none⟩) ((j1 + 2) + 1) cap7)) g 42 (txC t (.slice pa na xa) (.slice pb nb xb)):=yaF hb8 (by have:=HGZ.out;have:=HZB.out;omega) 2 _;clear hrun hown' hgrow hob hiff K1 hb8 hbb hga hnn hJ hx0;generalize v2.setCell ⟨b3,2,none⟩ (.slice (some ⟨g7,0,none⟩) ((j1 + 2) + 1) cap7) = y7 at *;go_wp2_with fail
     go_meet
     exact ⟨_,_,_,K0,HBS⟩
   case rest =>
    clear K0 HBS;obtain ⟨G2,c2,vs2,K0,HBS⟩:=hcut;generalize wc = w7 at *;have hsub:=K0.row.here;have e0:=K0.blk.cell 0;have e1:=K0.blk.cell 1;have e2:=K0.blk.cell 2;simp only [jta,jcz,jcs] at e0 e1 e2;have HGG:=jh K0.grown;clear HBS;clear K0;go_wp2_with fail
    refine (HENC.out w7 _ hsub).mono ?_;rintro e w9 ⟨rfl,hg9⟩;have HG:=jh (yab HGG.out hg9 (by simp));have hl:=HLEN.out;have hkz:=HKZ.out;have hsum:HD.size + L.length <= 9223372036854775807:=by omega
    clear e0 e1 e2 hg9 hsub HENC hl hkz;go_wp2_with fail
    go_ret
    exact ⟨rfl,HG.out⟩
def rdC (s:ByteArray) (a:Nat) (e:Int):Array Value:=#[.string s,.int .i64 (a:Int),.int .i64 e]
def kE (E e:Int):Int:=if E = 0 then e else E
theorem ybg {a w:World} {g:Nat} (h:a.grownBy w (some g)) (i:Nat) (u:Value):a.grownBy (w.setCell ⟨g,i,none⟩ u) (some g):=yhW h (p:=⟨g,i,none⟩) (.inl rfl) u
theorem yb4 {a w:World} (h:a.grownBy w none) (r:Option Nat):a.grownBy w r:=⟨h.os,h.tape,h.output,h.size,fun k hk hne=>h.block k hk (by simp)⟩
theorem ycI (w:World) (q:Nat) (row:Option Nat):w.grownBy (w.drewN q) row:=yb4 (yae (ybo (jc5 w.heap.size w) q)) row
theorem yaM {k:Nat} (h:k < 9223372036854775808):IntKind.i64.wrap (k:Int) = (k:Int):=by
 simp [IntKind.wrap,IntKind.bits,IntKind.signed];omega
theorem yb1 (s:ByteArray) (a:Nat) (E e:Int) (r:Nat) (w:World) (h:Blk w r 67 (rdC s a E)) :
  Calls jq 54 #[.pointer (some ⟨r,0,none⟩),.int .i64 e] w fun x w'=>x = .returned (.bool (decide (kE E e = 0))) /\ Blk w' r 67 (rdC s a (kE E e)) /\ w.grownBy w' (some r):=by
 have HB:=jh h;have c2:=h.cell 2;have f2:=h.frozen 2;simp only [rdC,jta,jcz,jcs] at c2;clear h;by_cases h0:E = 0
 ·subst h0;rw [show kE 0 e = e from if_pos rfl];by_cases h1:e = 0
  ·subst h1;go_enter Tryz.func54,Tryz.ntmps54
   go_wp2_with fail
   go_ret
   refine ⟨rfl,?_,?_⟩
   ·first | exact HB.out | exact HB.out.set_ 2 (.int .i64 0)
   ·first | exact jr w _ | exact ybg (jr w _) 2 _
  ·have e1:(e == 0) = false:=by simpa using h1
   have hd:decide (e = 0) = false:=decide_eq_false h1;rw [hd];clear h1 hd;go_enter Tryz.func54,Tryz.ntmps54
   go_wp2_with fail
   go_ret
   exact ⟨rfl,HB.out.set_ 2 (.int .i64 e),ybg (jr w _) 2 _⟩
 ·have e1:(E == 0) = false:=by simpa using h0
  rw [show kE E e = E from if_neg h0,decide_eq_false h0];clear h0;go_enter Tryz.func54,Tryz.ntmps54
  go_wp2_with fail
  go_ret
  exact ⟨rfl,HB.out,jr w _⟩
def tkE (s:ByteArray) (a n:Nat) (E:Int):Int:=if E = 0 then (if s.size < a + n then 3 else 0) else E
def tkA (s:ByteArray) (a n:Nat) (E:Int):Nat:=if tkE s a n E = 0 then a + n else a
def tkS (s:ByteArray) (a n:Nat) (E:Int):ByteArray:=if tkE s a n E = 0 then s.extract a (a + n) else .empty
theorem ycE (s:ByteArray) (a n:Nat) (E:Int) (r:Nat) (w:World) (h:Blk w r 67 (rdC s a E)) (hs:s.size <= 1000000000000) (ha:a <= s.size) (hn:n <= 1000000000000) :
  Calls jq 49 #[.pointer (some ⟨r,0,none⟩),.int .i64 (n:Int)] w fun x w'=>x = .returned (.tuple #[.string (tkS s a n E),.bool (decide (tkE s a n E = 0))]) /\ Blk w' r 67 (rdC s (tkA s a n E) (tkE s a n E)) /\ w.grownBy w' (some r):=by
 have HB:=jh h;have c0:=h.cell 0;have c1:=h.cell 1;have c2:=h.cell 2;have f1:=h.frozen 1;have f2:=h.frozen 2;simp only [rdC,jta,jcz,jcs] at c0 c1 c2;clear h;by_cases h0:E = 0
 rotate_left
 ·have e1:(E == 0) = false:=by simpa using h0
  have e2:(E != 0) = true:=by simpa using h0
  have t1:tkE s a n E = E:=if_neg h0;have t2:tkA s a n E = a:=by unfold tkA;rw [t1,if_neg h0]
  have t3:tkS s a n E = .empty:=by unfold tkS;rw [t1,if_neg h0]
  rw [t1,t2,t3,decide_eq_false h0];clear h0 t1 t2 t3;go_enter Tryz.func49,Tryz.ntmps49
  go_upto_region 3 with (go_quiet (fail))
  go_wp2_with fail
  go_ret2
  exact ⟨rfl,HB.out,ycI _ _ _⟩
 subst h0;obtain ⟨d,hd⟩:∃ d,s.size = a + d:=⟨s.size - a,by omega⟩;have hw1:IntKind.i64.wrap ((s.size:Int) - (a:Int)) = (d:Int):=by rw [show (s.size:Int) - (a:Int) = (d:Int) by omega];exact yaM (by omega)
 by_cases hsh:s.size < a + n
 ·have t1:tkE s a n 0 = 3:=by unfold tkE;rw [if_pos rfl,if_pos hsh]
  have t2:tkA s a n 0 = a:=by unfold tkA;rw [t1,if_neg (by decide)]
  have t3:tkS s a n 0 = .empty:=by unfold tkS;rw [t1,if_neg (by decide)]
  rw [t1,t2,t3];have g1:decide ((d:Int) < (n:Int)) = true:=decide_eq_true (by omega);have g1n:decide (d < n) = true:=decide_eq_true (by omega);clear hsh t1 t2 t3 hd;go_enter Tryz.func49,Tryz.ntmps49
  go_upto_region 2 with (go_quiet (fail))
  go_wp2_with fail
  go_ret2
  exact ⟨rfl,(show Blk _ r _ _ from HB.out).set_ 2 (.int .i64 3),ybg (ycI _ _ _) 2 _⟩
 ·have t1:tkE s a n 0 = 0:=by unfold tkE;rw [if_pos rfl,if_neg hsh]
  have t2:tkA s a n 0 = a + n:=by unfold tkA;rw [t1,if_pos rfl]
  have t3:tkS s a n 0 = s.extract a (a + n):=by unfold tkS;rw [t1,if_pos rfl]
  rw [t1,t2,t3];have g1:decide ((d:Int) < (n:Int)) = false:=decide_eq_false (by omega);have g1n:decide (d < n) = false:=decide_eq_false (by omega);obtain ⟨b,hb⟩:∃ b,a + n = b:=⟨_,rfl⟩;have hw2:IntKind.i64.wrap ((a:Int) + (n:Int)) = (b:Int):=by rw [show (a:Int) + (n:Int) = (b:Int) by omega];exact yaM (by omega)
  have hw3:IntKind.i64.wrap ((b:Int) - (n:Int)) = (a:Int):=by rw [show (b:Int) - (n:Int) = (a:Int) by omega];exact yaM (by omega)
  have hab:a <= b:=by omega
  have hbs:b <= s.size:=by omega
  rw [hb];clear hsh t1 t2 t3 hd hb;go_enter Tryz.func49,Tryz.ntmps49
  go_upto_region 6 with (go_quiet (fail))
  have hb2:Blk ((w.drewN nq).setCell ⟨r,1,none⟩ (.int .i64 (b:Int))) r 67 (rdC s b 0):=(show Blk (w.drewN nq) r _ _ from HB.out).set_ 1 (.int .i64 (b:Int));have hg2:w.grownBy ((w.drewN nq).setCell ⟨r,1,none⟩ (.int .i64 (b:Int))) (some r):=ybg (ycI _ _ _) 1 _;clear c0 c1 c2 f1 f2;generalize (w.drewN nq).setCell ⟨r,1,none⟩ (.int .i64 (b:Int)) = w2 at *;have c0:=hb2.cell 0;have c1:=hb2.cell 1;simp only [rdC,jta,jcz,jcs] at c0 c1;have HB2:=jh hb2;have HG2:=jh hg2;clear hb2 hg2;go_quiet (fail)
  go_wp2_with fail
  go_ret2
  exact ⟨rfl,HB2.out,ygu HG2.out _⟩
def varF:Nat -> Nat -> List UInt8
 | 0,_=>[]
 | f + 1,n=>if n < 128 then [UInt8.ofNat n] else UInt8.ofNat (n % 128 + 128) :: varF f (n / 128)
def varL (n:Nat):List UInt8:=varF 10 n
theorem yeR:∀ f n,(varF f n).length <= f
 | 0,_=>by simp [varF]
 | f + 1,n=>by
  unfold varF;split
  ·simp
  ·have:=yeR f (n / 128);simp;omega
theorem ypE:∀ m:Fin 256,bits .or .u8 ((m.val:Nat):Int) 128 = ((UInt8.ofNat (m.val % 128 + 128)).toNat:Int):=by decide +kernel
theorem yo5 (n:Nat) (hn:n < 18446744073709551616) (w:World) :
  Calls jq 69 #[.int .u64 (n:Int)] w fun e w'=>e = .returned (.string ⟨(varL n).toArray⟩) /\ w.grownBy w' none:=by
 obtain ⟨i0,z0,hi,hz0,hz1,hz2,hz3⟩:=yfJ;obtain ⟨L,hL⟩:∃ l,varL n = l:=⟨_,rfl⟩;rw [hL];have HL:=jh hL;clear hL;go_enter Tryz.func69,Tryz.ntmps69
 go_wp2_with fail
 go_loopw [0,3] (fun x v wr=>∃ (m f:Nat) (pre:List UInt8),x = .int .u64 (m:Int) /\ wr.ownsRow w.heap.size 5 1 v pre.length (u8s pre) /\ w.grownBy wr none /\ Hid (pre ++ varF (f + 1) m = L) /\ Hid (m < 128 ^ (f + 1)) /\ pre.length + f <= 9 /\ m <= 18446744073709551615) (fun x _ _=>(intOf x).toNat)
 case atStart=>exact ⟨n,9,[],rfl,jon _ _ _ _,jr _ _,HL.out,by show n < 128 ^ 10;omega,by simp,by omega⟩
 case round =>
  obtain ⟨m,f,pre,rfl,hown,hg,h1,h2,h3,h4⟩:=hrel;have hsz:=hg.size;obtain ⟨A,cc,rfl,_⟩:=yaN hown;by_cases hlt:m < 128
  ·obtain ⟨c,hc⟩:∃ c,UInt8.ofNat m = c:=⟨_,rfl⟩;have p1:(m:Int) = (c.toNat:Int):=by rw [<- hc];simp;omega
   have HP1:=jh p1
   have hfin:L = pre ++ [c]:=by
    rw [<- h1.out,varF,if_pos hlt,hc]
   have HF:=jh hfin;clear hc hfin h1 h2 p1;go_wp2_with (at_builtin;refine wpList_append_own _ rfl _ _ 43 rfl w.heap.size 5 i0 z0 1 1 Tryz.underlying43 hi hz0 hz1 hz2 hz3 (by decide) _ _ _ rfl (hown.alloc _) ⟨wr.heap.size,0,none⟩ 1 1 [.int .u8 (m:Int)] rfl rfl (cell_one_new _ _ _) (by simp [ja2]) (by simp only [maxLen];omega) (by omega) (by simp;omega) ?_;intro v' w4 hown4 hgrow _)
   have hown5:w4.ownsRow w.heap.size 5 1 v' (pre.length + 1) (u8s (pre ++ [c])):=by rw [HP1.out] at hown4;simpa [u8s] using hown4
   have hcv:=yc8 hown5;obtain ⟨g',cap',rfl⟩:=ownsRow_succ hown5;clear hown4 hown5;have hg4:w.grownBy w4 none:=yab (yaa hg _) hgrow (fun j hj=>.inr (yek hown hj));clear hgrow;go_wp2_with fail
   rw [hcv];simp only [Result.andThen];rw [Oper.upon_value];go_wp2_with fail
   go_ret
   exact ⟨by rw [HF.out];rfl,hg4⟩
  ·obtain ⟨c,hc⟩:∃ c,UInt8.ofNat (m % 128 + 128) = c:=⟨_,rfl⟩;obtain ⟨q,hq⟩:∃ q,m % 256 = q:=⟨_,rfl⟩;have p1:(m:Int) % 256 = (q:Int):=by omega
   have p2:bits .or .u8 (q:Int) 128 = (c.toNat:Int):=by
    have:=ypE ⟨q,by omega⟩;rw [<- hc,show m % 128 = q % 128 by omega];exact this
   have HC:=jh hc;clear hc hq;go_wp2_with (at_builtin;refine wpList_append_own _ rfl _ _ 43 rfl w.heap.size 5 i0 z0 1 1 Tryz.underlying43 hi hz0 hz1 hz2 hz3 (by decide) _ _ _ rfl (hown.alloc _) ⟨wr.heap.size,0,none⟩ 1 1 [.int .u8 (c.toNat:Int)] rfl rfl (cell_one_new _ _ _) (by simp [ja2]) (by simp only [maxLen];omega) (by omega) (by simp;omega) ?_;intro v' w4 hown4 hgrow _)
   obtain ⟨g',cap',rfl⟩:=ownsRow_succ hown4;have hown5:w4.ownsRow w.heap.size 5 1 (.slice (some ⟨g',0,none⟩) (pre ++ [c]).length cap') (pre ++ [c]).length (u8s (pre ++ [c])):=by simpa [u8s] using hown4
   have hg4:w.grownBy w4 none:=yab (yaa hg _) hgrow (fun j hj=>.inr (yek hown hj))
   have hf1:1 <= f:=by
    rcases Nat.eq_zero_or_pos f with h0 | h0
    ·have:=h2.out;rw [h0] at this;omega
    ·exact h0
   obtain ⟨f',rfl⟩:∃ f',f = f' + 1:=⟨f - 1,by omega⟩
   have hst:(pre ++ [c]) ++ varF (f' + 1) (m / 128) = L:=by
    rw [<- h1.out]
    conv=>rhs;rw [varF,if_neg hlt,HC.out]
    simp
   have hpw:m / 128 < 128 ^ (f' + 1):=by
    have:=h2.out;rw [Nat.pow_succ] at this;exact Nat.div_lt_of_lt_mul (by rw [jd2];exact this)
   have HS:=jh hst;have HP:=jh hpw;clear hst hpw hown4 hgrow p1 p2 h1 h2 hown;go_wp2_with fail
   refine ⟨⟨m / 128,f',pre ++ [c],by simp,by simpa using hown5,hg4,HS.out,HP.out,by simp;omega,by omega⟩,by simp [intOf];omega⟩
theorem ynb (n:Nat) (hn:n < 18446744073709551616) (w:World) :
  Calls jq 120 #[.int .u64 (n:Int)] w fun e w'=>e = .returned (.string ⟨(varL n).toArray⟩) /\ w.grownBy w' none:=by
 obtain ⟨i0,z0,hi,hz0,hz1,hz2,hz3⟩:=yfJ;obtain ⟨L,hL⟩:∃ l,varL n = l:=⟨_,rfl⟩;rw [hL];have HL:=jh hL;clear hL;go_enter Tryz.func120,Tryz.ntmps120
 go_wp2_with fail
 go_loopw [0,3] (fun x v wr=>∃ (m f:Nat) (pre:List UInt8),x = .int .u64 (m:Int) /\ wr.ownsRow w.heap.size 5 1 v pre.length (u8s pre) /\ w.grownBy wr none /\ Hid (pre ++ varF (f + 1) m = L) /\ Hid (m < 128 ^ (f + 1)) /\ pre.length + f <= 9 /\ m <= 18446744073709551615) (fun x _ _=>(intOf x).toNat)
 case atStart=>exact ⟨n,9,[],rfl,jon _ _ _ _,jr _ _,HL.out,by show n < 128 ^ 10;omega,by simp,by omega⟩
 case round =>
  obtain ⟨m,f,pre,rfl,hown,hg,h1,h2,h3,h4⟩:=hrel;have hsz:=hg.size;obtain ⟨A,cc,rfl,_⟩:=yaN hown;by_cases hlt:m < 128
  ·obtain ⟨c,hc⟩:∃ c,UInt8.ofNat m = c:=⟨_,rfl⟩;have p1:(m:Int) = (c.toNat:Int):=by rw [<- hc];simp;omega
   have HP1:=jh p1
   have hfin:L = pre ++ [c]:=by
    rw [<- h1.out,varF,if_pos hlt,hc]
   have HF:=jh hfin;clear hc hfin h1 h2 p1;go_wp2_with (at_builtin;refine wpList_append_own _ rfl _ _ 43 rfl w.heap.size 5 i0 z0 1 1 Tryz.underlying43 hi hz0 hz1 hz2 hz3 (by decide) _ _ _ rfl (hown.alloc _) ⟨wr.heap.size,0,none⟩ 1 1 [.int .u8 (m:Int)] rfl rfl (cell_one_new _ _ _) (by simp [ja2]) (by simp only [maxLen];omega) (by omega) (by simp;omega) ?_;intro v' w4 hown4 hgrow _)
   have hown5:w4.ownsRow w.heap.size 5 1 v' (pre.length + 1) (u8s (pre ++ [c])):=by rw [HP1.out] at hown4;simpa [u8s] using hown4
   have hcv:=yc8 hown5;obtain ⟨g',cap',rfl⟩:=ownsRow_succ hown5;clear hown4 hown5;have hg4:w.grownBy w4 none:=yab (yaa hg _) hgrow (fun j hj=>.inr (yek hown hj));clear hgrow;go_wp2_with fail
   rw [hcv];simp only [Result.andThen];rw [Oper.upon_value];go_wp2_with fail
   go_ret
   exact ⟨by rw [HF.out];rfl,hg4⟩
  ·obtain ⟨c,hc⟩:∃ c,UInt8.ofNat (m % 128 + 128) = c:=⟨_,rfl⟩;obtain ⟨q,hq⟩:∃ q,m % 128 = q:=⟨_,rfl⟩;have p1:(m:Int) % 128 = (q:Int):=by omega
   have p1':(m:Int).tmod 128 = (q:Int):=by rw [je3 (by omega)];omega
   have p2:(q:Int) + 128 = (c.toNat:Int):=by
    rw [<- hc,hq];simp;omega
   have p3:(c.toNat:Int) % 256 = (c.toNat:Int):=by have:=c.toNat_lt;omega
   have HC:=jh hc;clear hc hq;go_wp2_with (at_builtin;refine wpList_append_own _ rfl _ _ 43 rfl w.heap.size 5 i0 z0 1 1 Tryz.underlying43 hi hz0 hz1 hz2 hz3 (by decide) _ _ _ rfl (hown.alloc _) ⟨wr.heap.size,0,none⟩ 1 1 [.int .u8 (c.toNat:Int)] rfl rfl (cell_one_new _ _ _) (by simp [ja2]) (by simp only [maxLen];omega) (by omega) (by simp;omega) ?_;intro v' w4 hown4 hgrow _)
   obtain ⟨g',cap',rfl⟩:=ownsRow_succ hown4;have hown5:w4.ownsRow w.heap.size 5 1 (.slice (some ⟨g',0,none⟩) (pre ++ [c]).length cap') (pre ++ [c]).length (u8s (pre ++ [c])):=by simpa [u8s] using hown4
   have hg4:w.grownBy w4 none:=yab (yaa hg _) hgrow (fun j hj=>.inr (yek hown hj))
   have hf1:1 <= f:=by
    rcases Nat.eq_zero_or_pos f with h0 | h0
    ·have:=h2.out;rw [h0] at this;omega
    ·exact h0
   obtain ⟨f',rfl⟩:∃ f',f = f' + 1:=⟨f - 1,by omega⟩
   have hst:(pre ++ [c]) ++ varF (f' + 1) (m / 128) = L:=by
    rw [<- h1.out]
    conv=>rhs;rw [varF,if_neg hlt,HC.out]
    simp
   have hpw:m / 128 < 128 ^ (f' + 1):=by
    have:=h2.out;rw [Nat.pow_succ] at this;exact Nat.div_lt_of_lt_mul (by rw [jd2];exact this)
   have HS:=jh hst;have HP:=jh hpw;clear hst hpw hown4 hgrow p1 p1' p2 p3 h1 h2 hown;go_wp2_with fail
   refine ⟨⟨m / 128,f',pre ++ [c],by simp,by simpa using hown5,hg4,HS.out,HP.out,by simp;omega,by omega⟩,by simp [intOf];omega⟩
theorem BuilderAt.grown_ {T e:TypeId} {B b:Nat} {p:Value} {bs:List Value} {w w':World} (h:Lib.BuilderAt T e B b p bs w) (hg:w.grownBy w' none):Lib.BuilderAt T e B b p bs w':=by
 have hlt:=h.lt;obtain ⟨hB,v,hb,hown,hne⟩:=h;exact ⟨hB,v,(hg.block b hlt (by simp)).trans hb,hown.kept hg (Classical.em _),hne⟩
theorem IsBuilder.grown_ {T e:TypeId} {B b:Nat} {bs:List Value} {w w':World} (h:jd3 T e B b bs w) (hg:w.grownBy w' none):jd3 T e B b bs w':=h.elim (fun h=>.inl (BuilderAt.grown_ h hg)) (fun h=>.inr (BuilderAt.grown_ h hg))
def rowL (xs:List Int):List UInt8:=xs.flatMap fun x=>varL x.toNat
theorem yhL (xs:List Int) (x:Int):rowL (xs ++ [x]) = rowL xs ++ varL x.toNat:=by simp [rowL]
theorem ygX (xs:List Int):(rowL xs).length <= 10 * xs.length:=by
 unfold rowL
 induction xs with
 | nil=>simp
 | cons x xs ih =>
  have:=yeR 10 x.toNat
  simp only [List.flatMap_cons,jla,jlc];unfold varL at *;omega
theorem yd1 {α:Type} [Inhabited α] (xs:List α) (k:Nat) (hk:k < xs.length) (d:α):xs.take (k + 1) = xs.take k ++ [xs.getD k d]:=by
 rw [jtk hk,jg,je hk];rfl
theorem yo9 (B:Nat) (A:Option Addr) (n c:Nat) (xs:List Int) (w:World) (hB:B <= w.heap.size) (h:Reads w B 1 A n (xs.map (Value.int .u64))) (hwf:∀ x ∈ xs,0 <= x /\ x <= 18446744073709551615) (hn:n <= 100000) :
  Calls jq 24 #[.slice A n c] w fun e w'=>e = .returned (.string ⟨(rowL xs).toArray⟩) /\ Below w.heap.size w w':=by
 have hl:xs.length = n:=by simpa using h.1
 have HL:=jh hl;clear hl;go_enter Tryz.func24,Tryz.ntmps24
 have b0:=yeb w;have hb0:Below w.heap.size w (w.alloc (.cells #[.pointer none,.slice none 0 0] 96)):=(jc5 _ w).alloc (jle _) _;go_wp2_with fail
 generalize w.alloc (.cells #[.pointer none,.slice none 0 0] 96) = w1 at *;go_loopw [8] (fun i wr=>∃ k:Nat,i = .int .i64 (k:Int) /\ k <= n /\ jd3 96 5 w.heap.size w.heap.size (ja6 (rowL (xs.take k))) wr /\ Below w.heap.size w wr) (fun i _=>n - (intOf i).toNat)
 case atStart=>exact ⟨0,rfl,by omega,b0,hb0⟩
 case round =>
  clear b0 hb0;obtain ⟨k,rfl,hk,hb,hbel⟩:=hrel;have hsz:=hbel.size;by_cases hlt:k < n
  ·obtain ⟨b,off,rfl,hbb,hc⟩:=(h.below (hbel.mono hB)).ints hlt;have hck:=hc k hlt;have hx:=hwf (xs.getD k 0) (by rw [jg,je (by have:=HL.out;omega)];exact List.getElem_mem _);have hst:rowL (xs.take (k + 1)) = rowL (xs.take k) ++ varL (xs.getD k 0).toNat:=by rw [yd1 xs k (by have:=HL.out;omega) 0,yhL]
   have hlen:=ygX (xs.take k);rw [jd4] at hlen;generalize xs.getD k 0 = x at *;obtain ⟨z,rfl⟩:=jez hx.1;rw [jnc] at hst;have hvl:=yeR 10 z;obtain ⟨vb,hvb⟩:∃ v:ByteArray,(⟨(varL z).toArray⟩:ByteArray) = v:=⟨_,rfl⟩;have hvz:vb.size <= 10:=by rw [<- hvb];show (varL z).toArray.size <= 10;simpa [varL] using hvl
   have hvar:=yo5 z (by omega) wr;rw [hvb] at hvar;have hst2:ja6 (rowL (xs.take (k + 1))) = ja6 (rowL (xs.take k)) ++ Lib.strCells vb:=by rw [hst,ybk,yb9,<- hvb]
   have HS:=jh hst2;clear hst hst2 hvb hvl hc hx;go_wp2_with fail
   refine hvar.mono ?_;rintro e w2 ⟨rfl,hg2⟩;have hb2:=IsBuilder.grown_ hb hg2;have hbel2:Below w.heap.size w w2:=hbel.trans ((ybd hg2).mono hsz);clear hvar hb hg2 hck;go_wp2_with fail
   refine (ybf w.heap.size w.heap.size _ vb w2 hb2 (by rw [Lib.byteCells_length];omega) (by have:=hbel2.size;omega)).mono ?_;rintro e w3 ⟨rfl,hb3,hbel3⟩;rw [<- HS.out] at hb3;have hbel4:Below w.heap.size w w3:=hbel2.trans hbel3;clear hb2 hbel2 hbel3 hbel;go_wp2_with fail
   go_roundw
   case rel=>exact ⟨k + 1,by simp,by omega,hb3,hbel4⟩
   case measure=>simp [intOf];omega
  ·have hk2:k = n:=by omega
   have ht:xs.take k = xs:=jtl (by have:=HL.out;omega);rw [ht] at hb;have hfin:decide ((k:Int) < (n:Int)) = false:=by simp;omega
   have hfin2:decide (k < n) = false:=by simp;omega
   clear ht hk2;go_wp2_with fail
   refine (ybJ w.heap.size w.heap.size _ wr hb (by omega)).mono ?_;rintro e w2 ⟨rfl,hbel2⟩;go_wp2_with fail
   go_ret
   exact ⟨rfl,hbel.trans hbel2⟩
theorem yjA (B:Nat) (A:Option Addr) (n c:Nat) (xs:List Int) (w:World) (hB:B <= w.heap.size) (h:Reads w B 1 A n (xs.map (Value.int .u64))) (hwf:∀ x ∈ xs,0 <= x /\ x <= 18446744073709551615) (hn:n <= 100000) :
  Calls jq 80 #[.slice A n c] w fun e w'=>e = .returned (.string ⟨(rowL xs).toArray⟩) /\ Below w.heap.size w w':=by
 have hl:xs.length = n:=by simpa using h.1
 have HL:=jh hl;clear hl;go_enter Tryz.func80,Tryz.ntmps80
 go_wp2_with fail
 go_loopw [3,4] (fun s i wr=>∃ (k:Nat) (sb:ByteArray),i = .int .i64 (k:Int) /\ s = .string sb /\ k <= n /\ Hid (sb.data.toList = rowL (xs.take k)) /\ sb.size <= 10 * k /\ Below w.heap.size w wr) (fun _ i _=>n - (intOf i).toNat)
 case atStart=>exact ⟨0,⟨#[]⟩,rfl,rfl,by omega,rfl,by show 0 <= 0;omega,jc5 _ _⟩
 case round =>
  obtain ⟨k,sb,rfl,rfl,hk,hs,hsz0,hbel⟩:=hrel;have hsz:=hbel.size;by_cases hlt:k < n
  ·obtain ⟨b,off,rfl,hbb,hc⟩:=(h.below (hbel.mono hB)).ints hlt;have hck:=hc k hlt;have hx:=hwf (xs.getD k 0) (by rw [jg,je (by have:=HL.out;omega)];exact List.getElem_mem _);have hst:rowL (xs.take (k + 1)) = rowL (xs.take k) ++ varL (xs.getD k 0).toNat:=by rw [yd1 xs k (by have:=HL.out;omega) 0,yhL]
   generalize xs.getD k 0 = x at *;obtain ⟨z,rfl⟩:=jez hx.1;rw [jnc] at hst;have hvl:=yeR 10 z;obtain ⟨vb,hvb⟩:∃ v:ByteArray,(⟨(varL z).toArray⟩:ByteArray) = v:=⟨_,rfl⟩;have hvz:vb.size <= 10:=by rw [<- hvb];show (varL z).toArray.size <= 10;simpa [varL] using hvl
   have hvar:=ynb z (by omega) wr;rw [hvb] at hvar;obtain ⟨tb,htb⟩:∃ t:ByteArray,sb ++ vb = t:=⟨_,rfl⟩;have hst2:tb.data.toList = rowL (xs.take (k + 1)):=by rw [hst,<- htb,ycg,hs.out,<- hvb]
   have htz:tb.size = sb.size + vb.size:=by rw [<- yar,<- htb,ycg,jla,yar,yar]
   have HS:=jh hst2;have HTZ:=jh htz;clear hst hst2 hvb hvl hc hx hs htz;go_wp2_with fail
   refine hvar.mono ?_;rintro e w2 ⟨rfl,hg2⟩;have hbel2:Below w.heap.size w w2:=hbel.trans ((ybd hg2).mono hsz);clear hvar hg2 hck hbel;go_wp2_with fail
   go_roundw
   case rel=>exact ⟨k + 1,tb,by simp,rfl,by omega,HS.out,by have:=HTZ.out;omega,hbel2⟩
   case measure=>simp [intOf];omega
  ·have ht:xs.take k = xs:=jtl (by have:=HL.out;omega);rw [ht] at hs;have hfin:decide ((k:Int) < (n:Int)) = false:=by simp;omega
   have hfin2:decide (k < n) = false:=by simp;omega
   clear ht;go_wp2_with fail
   go_ret
   refine ⟨?_,hbel⟩;rw [<- hs.out];rfl
def yco (f:Nat -> Bool):UInt8:=UInt8.ofNat ((f 0).toNat + 2 * (f 1).toNat + 4 * (f 2).toNat + 8 * (f 3).toNat + 16 * (f 4).toNat + 32 * (f 5).toNat + 64 * (f 6).toNat + 128 * (f 7).toNat)
def yew (x:UInt8) (r:Nat):Bool:=x.toNat / 2 ^ r % 2 == 1
theorem ycO {f g:Nat -> Bool} (h:∀ r,r < 8 -> f r = g r):yco f = yco g:=by
 unfold yco;rw [h 0 (by omega),h 1 (by omega),h 2 (by omega),h 3 (by omega),h 4 (by omega),h 5 (by omega),h 6 (by omega),h 7 (by omega)]
theorem yjv:yco (fun _=>false) = 0:=by decide
theorem yhr:∀ b0 b1 b2 b3 b4 b5 b6 b7:Bool,
  (fun x:UInt8=>yew x 0 = b0 /\ yew x 1 = b1 /\ yew x 2 = b2 /\ yew x 3 = b3 /\ yew x 4 = b4 /\ yew x 5 = b5 /\ yew x 6 = b6 /\ yew x 7 = b7)
   (UInt8.ofNat (b0.toNat + 2 * b1.toNat + 4 * b2.toNat + 8 * b3.toNat + 16 * b4.toNat + 32 * b5.toNat + 64 * b6.toNat + 128 * b7.toNat)):=by decide +kernel
theorem ymK (f:Nat -> Bool) (r:Nat) (h:r < 8):yew (yco f) r = f r:=by
 obtain ⟨h0,h1,h2,h3,h4,h5,h6,h7⟩:=yhr (f 0) (f 1) (f 2) (f 3) (f 4) (f 5) (f 6) (f 7);unfold yco;rcases r with _ | _ | _ | _ | _ | _ | _ | _ | r <;> first | assumption | omega
theorem ygb:∀ x:Fin 256,yco (yew (UInt8.ofNat x.val)) = UInt8.ofNat x.val:=by decide +kernel
theorem ylh (x:UInt8):yco (yew x) = x:=by
 have:=ygb ⟨x.toNat,x.toNat_lt⟩;simpa using this
theorem yhq:∀ b0 b1 b2 b3 b4 b5 b6 b7:Bool,∀ r:Fin 8,
  (fun (f:Nat -> Bool)=>f r.val = false -> yco (fun i=>if i = r.val then true else f i) = yco f ||| UInt8.ofNat (2 ^ r.val) /\ (yco f).toNat + 2 ^ r.val < 256 /\ (yco f ||| UInt8.ofNat (2 ^ r.val)).toNat = (yco f).toNat + 2 ^ r.val)
   (fun i=>match i with | 0=>b0 | 1=>b1 | 2=>b2 | 3=>b3 | 4=>b4 | 5=>b5 | 6=>b6 | _=>b7):=by decide +kernel
theorem ymI (f:Nat -> Bool) (r:Nat) (h:r < 8) (hf:f r = false) :
  yco (fun i=>if i = r then true else f i) = yco f ||| UInt8.ofNat (2 ^ r) /\ (yco f).toNat + 2 ^ r < 256 /\ (yco f ||| UInt8.ofNat (2 ^ r)).toNat = (yco f).toNat + 2 ^ r:=by
 have k:=yhq (f 0) (f 1) (f 2) (f 3) (f 4) (f 5) (f 6) (f 7) ⟨r,h⟩;obtain ⟨g,hg⟩:∃ g:Nat -> Bool,(fun i=>match i with | 0=>f 0 | 1=>f 1 | 2=>f 2 | 3=>f 3 | 4=>f 4 | 5=>f 5 | 6=>f 6 | _=>f 7:Nat -> Bool) = g:=⟨_,rfl⟩;rw [hg] at k
 have hfg:∀ i,i < 8 -> f i = g i:=by
  intro i hi;rw [<- hg];rcases i with _ | _ | _ | _ | _ | _ | _ | _ | i <;> first | rfl | omega
 have e1:yco f = yco g:=ycO hfg
 have e2:yco (fun i=>if i = r then true else f i) = yco (fun i=>if i = r then true else g i):=ycO fun i hi=>by
  by_cases e:i = r
  ·simp [e]
  ·simp [e,hfg i hi]
 rw [e1,e2];exact k (by show g r = false;rw [<- hfg r h];exact hf)
def ybA (m:Nat) (l:List Bool):List UInt8:=(List.range m).map fun j=>yco fun r=>l.getD (8 * (m - 1 - j) + r) false
def yaD (l:List Bool):List UInt8:=ybA ((l.length + 7) / 8) l
theorem ydf (m:Nat) (l:List Bool):(ybA m l).length = m:=by simp [ybA]
theorem yhS (m:Nat):ybA m [] = jc1 m 0:=by
 apply List.ext_getElem (by simp [ybA]);intro i h1 h2;simp [ybA,yjv]
theorem yhT (m:Nat) (l:List Bool) (j:Nat) (h:j < m):(ybA m l).getD j 0 = yco fun r=>l.getD (8 * (m - 1 - j) + r) false:=by
 rw [jg,ybA,jgm,List.getElem?_range h];rfl
theorem yf8 (l:List Bool) (x:Bool) (i:Nat):(l ++ [x]).getD i false = if i = l.length then x else l.getD i false:=by
 rw [jg,jg];by_cases h:i < l.length
 ·rw [jal h,if_neg (by omega)]
 ·rw [jar (by omega)];by_cases e:i = l.length
  ·simp [e]
  ·rw [if_neg e,jc6 (by simp;omega),jc6 (by omega)]
theorem yfv (m:Nat) (l:List Bool):ybA m (l ++ [false]) = ybA m l:=by
 unfold ybA;congr 1;funext j;congr 1;funext r;rw [yf8];split
 ·rename_i h;rw [h,jg,jc6 (by omega)];rfl
 ·rfl
theorem ygt (m:Nat) (l:List Bool) (h:l.length / 8 < m) (v:UInt8) (hv:(ybA m l).getD (m - 1 - l.length / 8) 0 = v) :
  ybA m (l ++ [true]) = (ybA m l).set (m - 1 - l.length / 8) (v ||| UInt8.ofNat (2 ^ (l.length % 8))) /\ v.toNat + 2 ^ (l.length % 8) < 256 /\ (v ||| UInt8.ofNat (2 ^ (l.length % 8))).toNat = v.toNat + 2 ^ (l.length % 8):=by
 obtain ⟨q,hq⟩:∃ q,l.length / 8 = q:=⟨_,rfl⟩;obtain ⟨r0,hr0⟩:∃ r,l.length % 8 = r:=⟨_,rfl⟩;rw [hq] at h hv ⊢;rw [hr0];have hl:l.length = 8 * q + r0:=by omega
 rw [yhT m l _ (by omega),show m - 1 - (m - 1 - q) = q by omega] at hv;have key:=ymI (fun r=>l.getD (8 * q + r) false) r0 (by omega) (by show l.getD (8 * q + r0) false = false;rw [jg,jc6 (by omega)];rfl);rw [hv] at key;refine ⟨?_,key.2⟩;rw [<- key.1];apply List.ext_getElem (by simp [ybA]);intro j h1 h2;have hj:j < m:=by simpa [ybA] using h1
 rw [List.getElem_set];have e1:(ybA m (l ++ [true]))[j] = yco fun r=>(l ++ [true]).getD (8 * (m - 1 - j) + r) false:=by simp [ybA]
 have e2:(ybA m l)[j]'(by simpa [ybA] using hj) = yco fun r=>l.getD (8 * (m - 1 - j) + r) false:=by simp [ybA]
 rw [e1,e2];by_cases e:m - 1 - q = j
 ·rw [if_pos e];have:m - 1 - j = q:=by omega
  rw [this];refine ycO fun r hr=>?_;rw [yf8,hl];by_cases er:r = r0
  ·simp [er]
  ·rw [if_neg (by omega),if_neg er]
 ·rw [if_neg e];refine ycO fun r hr=>?_;rw [yf8,if_neg (by omega)]
theorem Reads.bools {w:World} {B n k:Nat} {A:Option Addr} {xs:List Bool} (h:Reads w B 1 A n (xs.map jc7)) (hk:k < n) :
  ∃ b off,A = some ⟨b,off,none⟩ /\ b < B /\ ∀ j,j < n -> w.cell? ⟨b,off + j,none⟩ = some (.bool (xs.getD j false)):=by
 have hl:=h.1;simp at hl
 have key:∀ j,j < n -> (xs.map jc7)[j]? = some (.bool (xs.getD j false)):=by
  intro j hj;rw [jgm,je (by omega),jg,je (by omega)];rfl
 obtain ⟨ad,rfl,hb,hc⟩:=h.2 (by omega);have h0:=hc 0 _ (key 0 (by omega));have e:ad = ⟨ad.block,ad.off,none⟩:=yck (a:=ad) (by simpa [Addr.add] using h0);refine ⟨ad.block,ad.off,by rw [<- e],hb,fun j hj=>?_⟩;have:=hc j _ (key j hj);rw [e] at this;unfold Addr.add at this;by_cases hj0:j = 0
 ·subst hj0;simpa using this
 ·simpa [hj0] using this
theorem yjH (x:UInt8):BitVec.ofInt 8 (x.toNat:Int) = x.toBitVec:=by
 apply BitVec.eq_of_toNat_eq;rw [BitVec.ofInt_natCast,BitVec.toNat_ofNat,Nat.mod_eq_of_lt x.toNat_lt];rfl
theorem ymY (x:UInt8):IntKind.u8.wrap (x.toNat:Int) = (x.toNat:Int):=by
 have:=x.toNat_lt;simp [IntKind.wrap,IntKind.bits,IntKind.signed];omega
theorem bor8 (x y:UInt8):bits .or .u8 (x.toNat:Int) (y.toNat:Int) = ((x ||| y).toNat:Int):=by
 show IntKind.u8.wrap ((BitVec.ofInt 8 (x.toNat:Int) ||| BitVec.ofInt 8 (y.toNat:Int)).toNat:Int) = _;rw [yjH,yjH];exact ymY (x ||| y)
theorem ypQ (x y:UInt8):bits .and .u8 (x.toNat:Int) (y.toNat:Int) = ((x &&& y).toNat:Int):=by
 show IntKind.u8.wrap ((BitVec.ofInt 8 (x.toNat:Int) &&& BitVec.ofInt 8 (y.toNat:Int)).toNat:Int) = _;rw [yjH,yjH];exact ymY (x &&& y)
theorem pow8:∀ r:Fin 8,IntKind.u8.wrap (2 ^ r.val) = ((UInt8.ofNat (2 ^ r.val)).toNat:Int) /\ IntKind.u8.wrap (1 * 2 ^ r.val) = ((UInt8.ofNat (2 ^ r.val)).toNat:Int) /\ (2 ^ r.val:Int) % 256 = ((UInt8.ofNat (2 ^ r.val)).toNat:Int) /\ (UInt8.ofNat (2 ^ r.val)).toNat = 2 ^ r.val:=by decide +kernel
theorem yjI (n:Nat) (hn:n <= 1000000000000) (w:World):Calls jq 67 #[.int .i64 (n:Int)] w fun e w'=>e = .returned (.int .i64 (((n + 7) / 8:Nat):Int)) /\ w = w':=by
 have p:((n:Int) + 8 - 1).tdiv 8 = (((n + 7) / 8:Nat):Int):=by rw [je2 (by omega)];omega
 have p2:((n:Int) + 8 - 1) / 8 = (((n + 7) / 8:Nat):Int):=by omega
 go_enter Tryz.func67,Tryz.ntmps67
 go_wp2_with fail
 go_ret
 exact ⟨by first | rfl | (simp;omega),rfl⟩
def cntB (l:List Bool):Nat:=l.count true
theorem ymF (l:List Bool) (x:Bool):cntB (l ++ [x]) = cntB l + x.toNat:=by cases x <;> simp [cntB]
theorem ymG (l:List Bool):cntB l <= l.length:=List.count_le_length
theorem ykY (x:Bool) (w:World):Calls jq 83 #[.bool x] w fun e w'=>e = .returned (.bool x) /\ w = w':=by
 go_enter Tryz.func83,Tryz.ntmps83
 go_wp2_with fail
 go_ret
 exact ⟨rfl,rfl⟩
theorem ykV (B:Nat) (A:Option Addr) (n c:Nat) (xs:List Bool) (w:World) (h:Reads w B 1 A n (xs.map jc7)) (hn:n <= 1000000000000) :
  Calls jq 82 #[.slice A n c,.func (.func 83) #[] #[]] w fun e w'=>e = .returned (.int .i64 (cntB xs:Int)) /\ w = w':=by
 have hl:xs.length = n:=by simpa using h.1
 have HL:=jh hl;clear hl;go_enter Tryz.func82,Tryz.ntmps82
 go_wp2_with fail
 go_loopw [5,10] (fun t i wr=>∃ k m:Nat,i = .int .i64 (k:Int) /\ k <= n /\ t = .int .i64 (m:Int) /\ m <= k /\ Hid (m = cntB (xs.take k)) /\ w = wr) (fun _ i _=>n - (intOf i).toNat)
 case atStart=>exact ⟨0,0,rfl,by omega,rfl,by omega,rfl,rfl⟩
 case round =>
  obtain ⟨k,m,rfl,hk,rfl,hm,hcn,rfl⟩:=hrel;by_cases hlt:k < n
  ·obtain ⟨b,off,rfl,hbb,hc⟩:=h.bools hlt;have hck:=hc k hlt;have hst:cntB (xs.take (k + 1)) = cntB (xs.take k) + (xs.getD k false).toNat:=by rw [yd1 xs k (by have:=HL.out;omega) false,ymF]
   generalize xs.getD k false = x at *;have HS:=jh hst;clear hc hst;have hcall:=fun w=>ykY x w;cases x
   ·go_wp2_with fail
    refine (hcall _).mono ?_;rintro e w' ⟨rfl,rfl⟩;go_wp2_with fail
    go_roundw
    case rel=>exact ⟨k + 1,m,by simp,by omega,rfl,by omega,by show m = _;rw [HS.out,<- hcn.out];rfl,by trivial⟩
    case measure=>simp [intOf];omega
   ·go_wp2_with fail
    refine (hcall _).mono ?_;rintro e w' ⟨rfl,rfl⟩;go_wp2_with fail
    go_roundw
    case rel=>exact ⟨k + 1,m + 1,by simp,by omega,by simp,by omega,by show m + 1 = _;rw [HS.out,<- hcn.out];rfl,by trivial⟩
    case measure=>simp [intOf];omega
  ·have ht:xs.take k = xs:=jtl (by have:=HL.out;omega);rw [ht] at hcn;have hfin:decide ((k:Int) < (n:Int)) = false:=by simp;omega
   have hfin2:decide (k < n) = false:=by simp;omega
   clear ht;go_wp2_with fail
   go_ret
   exact ⟨by rw [<- hcn.out];rfl,rfl⟩
theorem ykX (B:Nat) (A:Option Addr) (n c:Nat) (xs:List Bool) (w:World) (h:Reads w B 1 A n (xs.map jc7)) (hn:n <= 1000000000000) :
  Calls jq 50 #[.slice A n c] w fun e w'=>e = .returned (.int .i64 (cntB xs:Int)) /\ w = w':=by
 go_enter Tryz.func50,Tryz.ntmps50
 go_wp2_with fail
 refine (ykV B A n c xs _ h hn).mono ?_;rintro e w' ⟨rfl,rfl⟩;go_wp2_with fail
 go_ret
 exact ⟨rfl,rfl⟩
theorem yns (B:Nat) (A:Option Addr) (n c:Nat) (xs:List Bool) (w:World) (hB:B <= w.heap.size) (h:Reads w B 1 A n (xs.map jc7)) (hn:n <= 1000000) :
  Calls jq 21 #[.slice A n c] w fun e w'=>e = .returned (.string ⟨(yaD xs).toArray⟩) /\ w.grownBy w' none:=by
 have hl:xs.length = n:=by simpa using h.1
 obtain ⟨m,hm⟩:∃ m,(n + 7) / 8 = m:=⟨_,rfl⟩;have hpk:yaD xs = ybA m xs:=by unfold yaD;rw [hl,hm]
 have hneed:=yjI n (by omega) w;rw [hm] at hneed;have hmk:=yiT m (by omega) w;have hm1:n <= 8 * m:=by omega
 have hm2:m <= 200000:=by omega
 have hO:=Blk.new w 5 (ybL (jc1 m 0));have hG:w.grownBy (w.alloc (.cells (ybL (jc1 m 0)) 5)) none:=yaa (jr _ _) _;rw [<- yhS] at hO hG hmk;have HL:=jh hl;have HPK:=jh hpk;clear hl hpk hm;go_enter Tryz.func21,Tryz.ntmps21
 go_wp2_with fail
 refine hneed.mono ?_;rintro e w' ⟨rfl,rfl⟩;generalize hw1:w.alloc (.cells (ybL (ybA m [])) 5) = w1 at *;have hgz:w.heap.size < w1.heap.size:=hO.lt;clear hw1 hneed;go_wp2_with fail
 go_loopw [12] (fun i wr=>∃ k:Nat,i = .int .i64 (k:Int) /\ k <= n /\ Blk wr w.heap.size 5 (ybL (ybA m (xs.take k))) /\ w.grownBy wr none) (fun i _=>n - (intOf i).toNat)
 case atStart=>exact ⟨0,rfl,by omega,hO,hG⟩
 case round =>
  clear hO hG hmk;obtain ⟨k,rfl,hk,hO,hG⟩:=hrel;by_cases hlt:k < n
  ·obtain ⟨b,off,rfl,hbb,hc⟩:=(h.grown hG hB (by simp)).bools hlt;have hck:=hc k hlt;have htk:xs.take (k + 1) = xs.take k ++ [xs.getD k false]:=yd1 xs k (by have:=HL.out;omega) false;have hkl:(xs.take k).length = k:=by rw [jd4];have:=HL.out;omega
   generalize xs.getD k false = x at *;generalize xs.take k = l at *;have hbw:b ≠ w.heap.size:=by omega
   clear hc;cases x
   ·have hpf:ybA m (xs.take (k + 1)) = ybA m l:=by rw [htk,yfv]
    have HS:=jh hpf;clear hpf htk;go_wp2_with fail
    go_roundw
    case rel=>exact ⟨k + 1,by simp,by omega,by rw [HS.out];exact hO,hG⟩
    case measure=>simp [intOf];omega
   ·obtain ⟨q,hq⟩:∃ q,k / 8 = q:=⟨_,rfl⟩;obtain ⟨r,hr⟩:∃ r,k % 8 = r:=⟨_,rfl⟩;obtain ⟨j,hj⟩:∃ j,m - 1 - q = j:=⟨_,rfl⟩;obtain ⟨m1,hm1'⟩:∃ j,m - 1 = j:=⟨_,rfl⟩;obtain ⟨v,hv⟩:∃ v,(ybA m l).getD j 0 = v:=⟨_,rfl⟩;have hq1:q < m:=by omega
    have hr8:r < 8:=by omega
    have key:=ygt m l (by rw [hkl,hq];exact hq1) v (by rw [hkl,hq,hj];exact hv);rw [hkl,hq,hj,hr,<- htk] at key;obtain ⟨k1,k2,k3⟩:=key;obtain ⟨y1,y2,y3,y4⟩:=pow8 ⟨r,hr8⟩;simp only at y1 y2 y3 y4;obtain ⟨y,hy⟩:∃ y,UInt8.ofNat (2 ^ r) = y:=⟨_,rfl⟩;obtain ⟨z,hz⟩:∃ z,v ||| y = z:=⟨_,rfl⟩;rw [hy] at y1 y2 y3 y4 k1 k3;rw [hz] at k1 k3;have p0:=bor8 v y;rw [hz] at p0
    have p0':IntKind.u8.wrap ((v.toNat:Int) + (y.toNat:Int)) = (z.toNat:Int):=by
     have e:(v.toNat:Int) + (y.toNat:Int) = (z.toNat:Int):=by omega
     rw [e];exact ymY z
    have e0:(v.toNat:Int) + (y.toNat:Int) = (z.toNat:Int):=by omega
    have f1:wr.cell? ⟨w.heap.size,j,none⟩ = some (.int .u8 (v.toNat:Int)):=by
     rw [ycn hO j (by rw [ydf];omega),hv]
    have f2:=hO.frozen j;have p1:(k:Int).tdiv 8 = (q:Int):=by rw [je2 (by omega)];omega
    have p2:IntKind.i64.wrap (q:Int) = (q:Int):=jii _ (by omega);have p3:(k:Int).tmod 8 = (r:Int):=by rw [je3 (by omega)];omega
    have p4:IntKind.i64.wrap ((m:Int) - 1) = (m1:Int):=by rw [jii _ (by omega)];omega
    have p5:IntKind.i64.wrap ((m1:Int) - (q:Int)) = (j:Int):=by rw [jii _ (by omega)];omega
    have p6:IntKind.u64.wrap (r:Int) = (r:Int):=yll r (by omega);have q1:(j:Int) < (m:Int):=by omega
    have q2:(k:Int) < (n:Int):=by omega
    have HS:=jh k1;have hO2:=hO.set_ j (.int .u8 (z.toNat:Int));rw [yea,<- HS.out] at hO2;clear hq hr hj hm1' hv hy hz htk k1 k2 k3 y4 hm1;go_wp2_with fail
    go_still_tail 14,(by kernel_rfl)
    clear p0 p1 p2 p3 p4 p5 p6 y1 y2 y3 e0 p0'
    repeat go_step
    go_roundw
    case rel=>exact ⟨k + 1,by simp,by omega,hO2,ya2 (yap hG (p:=⟨w.heap.size,j,none⟩) (jle _) _)⟩
    case measure=>simp [intOf];omega
  ·have ht:xs.take k = xs:=jtl (by have:=HL.out;omega);rw [ht,<- HPK.out] at hO;have hfin:decide ((k:Int) < (n:Int)) = false:=by simp;omega
   have hfin2:decide (k < n) = false:=by simp;omega
   have hpl:(yaD xs).length = m:=by rw [HPK.out,ydf]
   obtain ⟨L,hL⟩:∃ l,yaD xs = l:=⟨_,rfl⟩;rw [hL] at hO hpl
   have hcv:=run_convert_bytes_back (P:=jq) wr 43 9 5 ⟨w.heap.size,0,none⟩ m L (by kernel_rfl) (by kernel_rfl) (by kernel_rfl) (fun j hj=>by
    have:=ycn hO j hj;rw [Addr.add_mid,jd6,this,jg,je hj];rfl)
   rw [hpl] at hcv;have HL2:=jh hL;clear ht hL hpl;go_wp2_with fail
   go_ret
   exact ⟨by rw [HL2.out];rfl,hG⟩
theorem yfw (B:Nat) (A:Option Addr) (n c:Nat) (xs:List Bool) (w:World) (hB:B <= w.heap.size) (h:Reads w B 1 A n (xs.map jc7)) (hn:n <= 1000000) :
  Calls jq 79 #[.slice A n c] w fun e w'=>e = .returned (.string ⟨(yaD xs).toArray⟩) /\ w.grownBy w' none:=by
 have hl:xs.length = n:=by simpa using h.1
 obtain ⟨m,hm⟩:∃ m,(n + 7) / 8 = m:=⟨_,rfl⟩;have hpk:yaD xs = ybA m xs:=by unfold yaD;rw [hl,hm]
 have HM:=jh hm;have hmk:=yiT m (by omega) w;have hm1:n <= 8 * m:=by omega
 have hm2:m <= 200000:=by omega
 have hO:=Blk.new w 5 (ybL (jc1 m 0));have hG:w.grownBy (w.alloc (.cells (ybL (jc1 m 0)) 5)) none:=yaa (jr _ _) _;rw [<- yhS] at hO hG hmk;have HL:=jh hl;have HPK:=jh hpk;clear hl hpk hm;go_enter Tryz.func79,Tryz.ntmps79
 have n1:((n:Int) + 7).tdiv 8 = (m:Int):=by rw [je2 (by omega)];have:=HM.out;omega
 have n2:((n:Int) + 7) / 8 = (m:Int):=by have:=HM.out;omega
 go_wp2_with fail
 generalize hw1:w.alloc (.cells (ybL (ybA m [])) 5) = w1 at *;have hgz:w.heap.size < w1.heap.size:=hO.lt;clear n1 n2 hw1;go_loopw [5] (fun i wr=>∃ k:Nat,i = .int .i64 (k:Int) /\ k <= n /\ Blk wr w.heap.size 5 (ybL (ybA m (xs.take k))) /\ w.grownBy wr none) (fun i _=>n - (intOf i).toNat)
 case atStart=>exact ⟨0,rfl,by omega,hO,hG⟩
 case round =>
  clear hO hG hmk;obtain ⟨k,rfl,hk,hO,hG⟩:=hrel;by_cases hlt:k < n
  ·obtain ⟨b,off,rfl,hbb,hc⟩:=(h.grown hG hB (by simp)).bools hlt;have hck:=hc k hlt;have htk:xs.take (k + 1) = xs.take k ++ [xs.getD k false]:=yd1 xs k (by have:=HL.out;omega) false;have hkl:(xs.take k).length = k:=by rw [jd4];have:=HL.out;omega
   generalize xs.getD k false = x at *;generalize xs.take k = l at *;have hbw:b ≠ w.heap.size:=by omega
   clear hc;cases x
   ·have hpf:ybA m (xs.take (k + 1)) = ybA m l:=by rw [htk,yfv]
    have HS:=jh hpf;clear hpf htk;go_wp2_with fail
    go_roundw
    case rel=>exact ⟨k + 1,by simp,by omega,by rw [HS.out];exact hO,hG⟩
    case measure=>simp [intOf];omega
   ·obtain ⟨q,hq⟩:∃ q,k / 8 = q:=⟨_,rfl⟩;obtain ⟨r,hr⟩:∃ r,k % 8 = r:=⟨_,rfl⟩;obtain ⟨j,hj⟩:∃ j,m - 1 - q = j:=⟨_,rfl⟩;obtain ⟨m1,hm1'⟩:∃ j,m - 1 = j:=⟨_,rfl⟩;obtain ⟨v,hv⟩:∃ v,(ybA m l).getD j 0 = v:=⟨_,rfl⟩;have hq1:q < m:=by omega
    have hr8:r < 8:=by omega
    have key:=ygt m l (by rw [hkl,hq];exact hq1) v (by rw [hkl,hq,hj];exact hv);rw [hkl,hq,hj,hr,<- htk] at key;obtain ⟨k1,k2,k3⟩:=key;obtain ⟨y1,y2,y3,y4⟩:=pow8 ⟨r,hr8⟩;simp only at y1 y2 y3 y4;obtain ⟨y,hy⟩:∃ y,UInt8.ofNat (2 ^ r) = y:=⟨_,rfl⟩;obtain ⟨z,hz⟩:∃ z,v ||| y = z:=⟨_,rfl⟩;rw [hy] at y1 y2 y3 y4 k1 k3;rw [hz] at k1 k3;have p0:=bor8 v y;rw [hz] at p0
    have p0':IntKind.u8.wrap ((v.toNat:Int) + (y.toNat:Int)) = (z.toNat:Int):=by
     have e:(v.toNat:Int) + (y.toNat:Int) = (z.toNat:Int):=by omega
     rw [e];exact ymY z
    have e1:(z.toNat:Int) % 256 = (z.toNat:Int):=by have:=z.toNat_lt;omega
    have e0:(v.toNat:Int) + (y.toNat:Int) = (z.toNat:Int):=by omega
    have f1:wr.cell? ⟨w.heap.size,j,none⟩ = some (.int .u8 (v.toNat:Int)):=by
     rw [ycn hO j (by rw [ydf];omega),hv]
    have f2:=hO.frozen j;have p1:(k:Int).tdiv 8 = (q:Int):=by rw [je2 (by omega)];omega
    have p2:IntKind.i64.wrap (q:Int) = (q:Int):=jii _ (by omega);have p3:(k:Int).tmod 8 = (r:Int):=by rw [je3 (by omega)];omega
    have p4:IntKind.i64.wrap ((m:Int) - 1) = (m1:Int):=by rw [jii _ (by omega)];omega
    have p5:IntKind.i64.wrap ((m1:Int) - (q:Int)) = (j:Int):=by rw [jii _ (by omega)];omega
    have p6:IntKind.u64.wrap (r:Int) = (r:Int):=yll r (by omega);have q1:(j:Int) < (m:Int):=by omega
    have q2:(k:Int) < (n:Int):=by omega
    have HS:=jh k1;have hO2:=hO.set_ j (.int .u8 (z.toNat:Int));rw [yea,<- HS.out] at hO2;clear hq hr hj hm1' hv hy hz htk k1 k2 k3 y4 hm1;go_wp2_with fail
    clear p0 p1 p2 p3 p4 p5 p6 y1 y2 y3 e0 e1 p0';go_roundw
    case rel=>exact ⟨k + 1,by simp,by omega,hO2,yap hG (p:=⟨w.heap.size,j,none⟩) (jle _) _⟩
    case measure=>simp [intOf];omega
  ·have ht:xs.take k = xs:=jtl (by have:=HL.out;omega);rw [ht,<- HPK.out] at hO;have hfin:decide ((k:Int) < (n:Int)) = false:=by simp;omega
   have hfin2:decide (k < n) = false:=by simp;omega
   have hpl:(yaD xs).length = m:=by rw [HPK.out,ydf]
   obtain ⟨L,hL⟩:∃ l,yaD xs = l:=⟨_,rfl⟩;rw [hL] at hO hpl
   have hcv:=run_convert_bytes_back (P:=jq) wr 43 9 5 ⟨w.heap.size,0,none⟩ m L (by kernel_rfl) (by kernel_rfl) (by kernel_rfl) (fun j hj=>by
    have:=ycn hO j hj;rw [Addr.add_mid,jd6,this,jg,je hj];rfl)
   rw [hpl] at hcv;have HL2:=jh hL;clear ht hL hpl;go_wp2_with fail
   go_ret
   exact ⟨by rw [HL2.out];rfl,hG⟩
attribute [local go_sem] Oper.semAt_some
def ycT (l:List UInt8) (i:Nat):Bool:=yew (l.getD (l.length - 1 - i / 8) 0) (i % 8)
theorem yoU:∀ (x:Fin 256) (r:Fin 8),(((UInt8.ofNat (x.val / 2 ^ r.val)) &&& 1).toNat == 1) = yew (UInt8.ofNat x.val) r.val /\ (UInt8.ofNat (x.val / 2 ^ r.val)).toNat = x.val / 2 ^ r.val:=by decide +kernel
theorem ynW (N:Nat) (hN:1 <= N) (l Bs:Nat) (s:ByteArray) (hs:s.size <= 1000000) (J Jx:List (Fin (8 * s.size)) -> World -> Prop)
  (hY:∀ pre x W,J pre W -> pre.length < 8 * s.size -> YieldAt Fence.wide (N - 1) jq l #[.int .i64 (x.val:Int),.bool (ycT s.data.toList x.val)] W fun e W' =>
   (e = .returned (.bool true) /\ J (pre ++ [x]) W' /\ KeepS (fun k=>k = Bs) W W') \/ (e = .returned (.bool false) /\ Jx (pre ++ [x]) W'))
  (W:World) (hBs:W.cell? ⟨Bs,0,none⟩ = some (.string s)) (h0:J [] W) :
  CallsIn Fence.wide N jq 152 #[.func (.yield l) #[] #[],.pointer (some ⟨Bs,0,none⟩)] W fun e W'=>(∃ v,e = .returned v) /\
   ((∃ ys,ys = jb3 (8 * s.size) /\ J ys W') \/ (∃ pre,pre <+: jb3 (8 * s.size) /\ Jx pre W')):=by
 refine callsIn_of_wp Tryz.func152 rfl trivial ?_ rfl;simp only [Tryz.ntmps152,jd9,jlc,List.length_nil,Nat.reduceAdd,Nat.reduceSub,Array.replicate_succ,Array.replicate_zero,List.push_toArray,List.append_toArray,List.nil_append,List.cons_append];obtain ⟨M,hM⟩:∃ M,8 * s.size = M:=⟨_,rfl⟩;have p0:IntKind.i64.wrap (8 * (s.size:Int)) = (M:Int):=by rw [jii _ (by omega)];omega
 have p0':8 * (s.size:Int) = (M:Int):=by omega
 have HM:=jh hM;gi_wp2
 gi_loopw [7] (fun i wr=>∃ k:Nat,i = .int .i64 (k:Int) /\ k <= M /\ J ((jb3 (8 * s.size)).take k) wr /\ KeepS (fun k=>k = Bs) W wr) (fun i _=>M - (intOf i).toNat)
 case atStart=>exact ⟨0,rfl,by omega,h0,KeepS.refl _ _⟩
 case round =>
  clear p0 p0' hM;obtain ⟨k,rfl,hk,hJ,hK⟩:=hrel;have c1:wr.cell? ⟨Bs,0,none⟩ = some (.string s):=(hK.cell (p:=⟨Bs,0,none⟩) rfl).trans hBs;by_cases hlt:k < M
  ·have hkp:k < 8 * s.size:=by have:=HM.out;omega
   obtain ⟨fn,tmps,assign,body,hy,hR⟩:=hY _ ⟨k,hkp⟩ wr hJ (by simp;omega)
   have htk:(jb3 (8 * s.size)).take k ++ [⟨k,hkp⟩] = (jb3 (8 * s.size)).take (k + 1):=by
    rw [jtk (by simp;exact hkp)]
    simp
   rw [htk] at hR;have hsl:s.data.toList.length = s.size:=yar s;obtain ⟨q,hq⟩:∃ q,k / 8 = q:=⟨_,rfl⟩;obtain ⟨r,hr⟩:∃ r,k % 8 = r:=⟨_,rfl⟩;obtain ⟨j,hj⟩:∃ j,s.size - 1 - q = j:=⟨_,rfl⟩;obtain ⟨m1,hm1⟩:∃ j,s.size - 1 = j:=⟨_,rfl⟩;obtain ⟨c,hc⟩:∃ c,s.data.toList[j]? = some c:=⟨_,je (by omega)⟩;have hr8:r < 8:=by omega
   obtain ⟨b1,b2⟩:=yoU ⟨c.toNat,c.toNat_lt⟩ ⟨r,hr8⟩;simp only [UInt8.ofNat_toNat] at b1 b2
   have hbit:ycT s.data.toList k = yew c r:=by
    unfold ycT;rw [hsl,hq,hj,hr,jg,hc];rfl
   rw [<- b1] at hbit;obtain ⟨y,hy1⟩:∃ y,UInt8.ofNat (c.toNat / 2 ^ r) = y:=⟨_,rfl⟩;obtain ⟨z,hz⟩:∃ z,y &&& 1 = z:=⟨_,rfl⟩;obtain ⟨t,ht⟩:∃ t,(z.toNat == 1) = t:=⟨_,rfl⟩;rw [hy1] at b2 hbit;rw [hz,ht] at hbit;rw [hbit] at hy;have hidx:=ydb s j c hc;have p1:(k:Int).tdiv 8 = (q:Int):=by rw [je2 (by omega)];omega
   have p2:IntKind.i64.wrap (q:Int) = (q:Int):=jii _ (by omega);have p3:(k:Int).tmod 8 = (r:Int):=by rw [je3 (by omega)];omega
   have p4:IntKind.i64.wrap ((s.size:Int) - 1) = (m1:Int):=by rw [jii _ (by omega)];omega
   have p4':(s.size:Int) - 1 = (m1:Int):=by omega
   have p5:IntKind.i64.wrap ((m1:Int) - (q:Int)) = (j:Int):=by rw [jii _ (by omega)];omega
   have p5':(m1:Int) - (q:Int) = (j:Int):=by omega
   have p6:(c.toNat:Int) / 2 ^ r = (y.toNat:Int):=by rw [b2];simp
   have p7:=ypQ y 1;rw [hz] at p7;have p7':bits .and .u8 (y.toNat:Int) 1 = (z.toNat:Int):=p7;have p8:((z.toNat:Int) == 1) = t:=by rw [<- ht,Bool.eq_iff_iff];simp;omega
   have p1':(k:Int) / 8 = (q:Int):=by omega
   have p3':(k:Int) % 8 = (r:Int):=by omega
   clear htk hq hr hj hm1 hc hbit b1 b2 hy1 hz ht hsl p7;dsimp only at hy;gi_wp2
   refine hR.mono ?_;rintro e' W3 (⟨rfl,hJ3,hk3⟩ | ⟨rfl,hJx3⟩)
   ·have hK3:=hK.trans hk3;clear p1 p2 p3 p4 p4' p5 p5' p6 p7' p8 p1' p3';gi_wp2
    go_roundw
    case rel=>exact ⟨k + 1,by simp,by omega,hJ3,hK3⟩
    case measure=>simp [intOf];omega
   ·clear p1 p2 p3 p4 p4' p5 p5' p6 p7' p8 p1' p3';gi_wp2
    refine jbr (results_none rfl _ _ _) rfl ?_;exact ⟨⟨_,rfl⟩,.inr ⟨_,List.take_prefix _ _,hJx3⟩⟩
  ·have htk:(jb3 (8 * s.size)).take k = jb3 (8 * s.size):=jtl (by simp;have:=HM.out;omega);rw [htk] at hJ;have d1:decide ((k:Int) < (M:Int)) = false:=by simp;omega
   have d2:decide (k < M) = false:=by simp;omega
   gi_wp2
   go_end0
   exact ⟨⟨_,rfl⟩,.inl ⟨_,rfl,hJ⟩⟩
theorem ynV (s:ByteArray) (w:World) :
  Calls jq 121 #[.string s] w fun e w'=>e = .returned (.func (.func 152) #[] #[.pointer (some ⟨w.heap.size,0,none⟩)]) /\ w' = w.alloc (.cells #[.string s] 9):=by
 go_enter Tryz.func121,Tryz.ntmps121
 go_wp2
 go_ret
 exact ⟨rfl,rfl⟩
def yei (l:List UInt8) (n:Nat):Bool:=(List.range (8 * l.length)).any fun i=>decide (n <= i) && ycT l i
def ybq (l:List UInt8) (n:Int):Int:=if n < 0 \/ 4096 < n then 1 else if l.length ≠ (n.toNat + 7) / 8 then 2 else if yei l n.toNat then 8 else 0
def yaR (l:List UInt8) (n:Int):List Bool:=if ybq l n = 0 then (List.range n.toNat).map (ycT l) else []
def ycc (l:List UInt8) (n:Nat) {N:Nat} (pre:List (Fin N)):List Bool:=(pre.filter fun x=>decide (x.val < n)).map fun x=>ycT l x.val
theorem ylM (l:List UInt8) (n:Nat) {N:Nat} (pre:List (Fin N)) (x:Fin N) (h:x.val < n):ycc l n (pre ++ [x]) = ycc l n pre ++ [ycT l x.val]:=by simp [ycc,h]
theorem yk3 (l:List UInt8) (n:Nat) {N:Nat} (pre:List (Fin N)) (x:Fin N) (h:¬ x.val < n):ycc l n (pre ++ [x]) = ycc l n pre:=by simp [ycc,h]
theorem ylL (l:List UInt8) (n:Nat) {N:Nat} (pre:List (Fin N)):(ycc l n pre).length <= pre.length:=by simp [ycc,List.length_filter_le]
theorem ylN (l:List UInt8) (n N:Nat) (h:n <= N):ycc l n (jb3 N) = (List.range n).map (ycT l):=by
 unfold ycc
 have e:∀ k,k <= N -> ((jb3 N).take k).filter (fun x=>decide (x.val < n)) = (jb3 N).take (min k n):=by
  intro k
  induction k with
  | zero=>intro _;simp
  | succ k ih =>
   intro hk;rw [jtk (by simp;omega),List.filter_append,ih (by omega)];by_cases hkn:k < n
   ·rw [show min k n = k by omega,show min (k + 1) n = k + 1 by omega,jtk (by simp;omega)];simp [hkn]
   ·rw [show min k n = n by omega,show min (k + 1) n = n by omega];simp [hkn]
 have e1:=e N (jle _);rw [jtl (by simp),show min N n = n by omega] at e1;rw [e1];apply List.ext_getElem (by simp;omega);intro i h1 h2
 simp
theorem yhG (l:List UInt8) (n N:Nat) (hN:N = 8 * l.length):yei l n = true ↔ ∃ x ∈ jb3 N,n <= x.val /\ ycT l x.val = true:=by
 unfold yei;rw [List.any_eq_true,hN];constructor
 ·rintro ⟨i,hi,h⟩;simp only [Bool.and_eq_true,decide_eq_true_eq] at h;exact ⟨⟨i,List.mem_range.1 hi⟩,List.mem_finRange _,h⟩
 ·rintro ⟨x,_,h⟩;exact ⟨x.val,List.mem_range.2 x.isLt,by simp only [Bool.and_eq_true,decide_eq_true_eq];exact h⟩
theorem ymr:(jq.info? 4).map (fun i=>(i.zero,i.size,i.bytes)) = some (some (.bool false),1,1):=by kernel_rfl
theorem ykj (s:ByteArray) (n:Int) (hs:s.size <= 1000000) (w:World) :
  Calls jq 81 #[.string s,.int .i64 n] w fun e w'=>∃ v,e = .returned (.tuple #[v,.int .i64 (ybq s.data.toList n)]) /\
   w'.ownsRow w.heap.size 4 1 v (yaR s.data.toList n).length ((yaR s.data.toList n).map jc7) /\ Below w.heap.size w w':=by
 have hsl:=yar s;refine (callsIn_wide (n:=6)).1 ?_;refine callsIn_of_wp_marks Tryz.func81 rfl trivial ?_ rfl;simp only [Tryz.ntmps81,jd9,jlc,List.length_nil,Nat.reduceAdd,Nat.reduceSub,Array.replicate_succ,Array.replicate_zero,List.push_toArray,List.append_toArray,List.nil_append,List.cons_append];by_cases hbad:n < 0 \/ 4096 < n
 ·have he:ybq s.data.toList n = 1:=by unfold ybq;rw [if_pos hbad]
  have hL:yaR s.data.toList n = []:=by unfold yaR;rw [he];rfl
  rw [he,hL];clear he hL;have hb:(decide (n < 0) || decide (4096 < n)) = true:=by simpa using hbad
  obtain ⟨x1,x2,x3,x4,_⟩:=box3 w (.int .i64 n) (.slice none 0 0) (.int .i64 1) 3 47 26;have y1:=x2.cell;have y2:=x3.cell;clear x1 x2 x3;by_cases h0:n < 0
  ·gi_wp2_with fail
   exact ⟨_,ybZ rfl _ _ _ _ _ _ rfl rfl (ya8 Tryz.underlying47 rfl y1) (ya8 je1 rfl y2),_,rfl,jon _ _ _ _,x4⟩
  ·have h1:4096 < n:=by omega
   gi_wp2_with fail
   exact ⟨_,ybZ rfl _ _ _ _ _ _ rfl rfl (ya8 Tryz.underlying47 rfl y1) (ya8 je1 rfl y2),_,rfl,jon _ _ _ _,x4⟩
 ·obtain ⟨k,rfl⟩:=jez (show 0 <= n by omega);have hk:k <= 4096:=by omega
  obtain ⟨m,hm⟩:∃ m,(k + 7) / 8 = m:=⟨_,rfl⟩;have hneed:=fun w=>yjI k (by omega) w;rw [hm] at hneed;have hb:(decide ((k:Int) < 0) || decide (4096 < (k:Int))) = false:=by simp;omega
  have h0:¬ ((k:Int) < 0):=by omega
  by_cases hlen:s.size = m
  ·have he1:ybq s.data.toList k = if yei s.data.toList k then 8 else 0:=by
    unfold ybq;rw [if_neg hbad,if_neg (by rw [hsl,jnc,hm];simpa using hlen),jnc]
   have hne:((s.size:Int) != (m:Int)) = false:=by simp;omega
   have hne2:(s.size != m) = false:=by simpa using hlen
   have hbad':=jh hbad;have hkN:k <= 8 * s.size:=by omega
   have HE:=jh he1;have hd2:decide (4096 < (k:Int)) = false:=by simp;omega
   have HLEN:=jh hlen;clear hm hbad he1 hlen hsl;obtain ⟨x1,x2,x3,x4,x5⟩:=box3 w (.int .i64 (k:Int)) (.slice none 0 0) (.int .i64 0) 3 47 26;have y1:=x2.cell;have y2:=x3.cell;have y0:=x1.cell;gi_wp2_with fail
   refine ⟨trivial,callsIn_wide.2 ((hneed _).mono ?_)⟩;rintro e w' ⟨rfl,rfl⟩;clear hneed;generalize ((w.alloc (.cells #[.int .i64 (k:Int)] 3)).alloc (.cells #[.slice none 0 0] 47)).alloc (.cells #[.int .i64 0] 26) = w1 at *;generalize hb0:w.heap.size = b at *;have HB0:=jh hb0;clear hb0 y0 y1 y2;have z3:=Boxed.new w1 47 (.slice none 0 0);have z0:=x1.alloc (.cells #[.slice none 0 0] 47);have z1:=x2.alloc (.cells #[.slice none 0 0] 47);have z2:=x3.alloc (.cells #[.slice none 0 0] 47);have zb:Below b w (w1.alloc (.cells #[.slice none 0 0] 47)):=x4.alloc (by omega) _;have zz:(w1.alloc (.cells #[.slice none 0 0] 47)).heap.size = b + 4:=by simp [x5]
   rw [x5] at z3;clear x1 x2 x3 x4;gi_wp2_with fail
   clear x5;generalize w1.alloc (.cells #[.slice none 0 0] 47) = w2 at *;refine ⟨trivial,callsIn_wide.2 ((ynV _ _).mono ?_)⟩;rintro e w4 ⟨rfl,hw4⟩;rw [zz];have v0:Boxed w4 b 3 (.int .i64 (k:Int)):=by rw [hw4];exact z0.alloc _
   have v1:Boxed w4 (b + 1) 47 (.slice none 0 0):=by rw [hw4];exact z1.alloc _
   have v2:Boxed w4 (b + 1 + 1) 26 (.int .i64 0):=by rw [hw4];exact z2.alloc _
   have v3:Boxed w4 (b + 3) 47 (.slice none 0 0):=by rw [hw4];exact z3.alloc _
   have v4:Boxed w4 (b + 4) 9 (.string s):=by rw [hw4,<- zz];exact Boxed.new w2 _ _
   have vb:Below b w w4:=by rw [hw4];exact zb.alloc (by omega) _
   have vz:w4.heap.size = b + 5:=by rw [hw4];simp [zz]
   have VZ:=jh vz;have vz5:b + 5 <= w4.heap.size:=by omega
   clear hw4 z0 z1 z2 z3 zb zz vz;gi_wp2_with fail
   obtain ⟨i0,hi,hz0,hz1,hz2⟩:=info_parts ymr;obtain ⟨N,hN⟩:∃ N,8 * s.size = N:=⟨_,rfl⟩;have hN2:N <= 8000000:=by omega
   have hSS:∀ j,j = b + 4 -> j < w4.heap.size:=by intro j hj;omega
   refine wpIn_rangeFunc_ownG rfl (by omega) (gf:=152) (lb:=#[.pointer (some ⟨b + 4,0,none⟩)]) rfl trivial (jeo Tryz.func152 (by kernel_rfl) rfl)
    (encs:=fun x:Fin (8 * s.size)=>#[.int .i64 (x.val:Int),.bool (ycT s.data.toList x.val)]) (S:=fun ys=>ys = jb3 (8 * s.size)) (Sp:=fun pre=>pre <+: jb3 (8 * s.size)) (N:=8 * s.size) (w0:=w4) (Kp:=KeepS (fun j=>j = b + 4))
    (fun l J Jx W hW _ _ hY h0=>ynW 5 (by omega) l (b + 4) s hs J Jx hY W ((hW.cell (p:=⟨b + 4,0,none⟩) (by show b + 4 < w4.heap.size;omega)).trans v4.cell) h0)
    ymi (ymj hSS) (jc5 _ _) (fun _=>rfl)
    (fun pre W=>(∃ v,Boxed W (b + 3) 47 v /\ W.ownsRow b 4 1 v (ycc s.data.toList k pre).length ((ycc s.data.toList k pre).map jc7) /\ (∀ x ∈ pre,k <= x.val -> ycT s.data.toList x.val = false)) /\
     (Below b w W /\ (Boxed W b 3 (.int .i64 (k:Int)) /\ (Boxed W (b + 1) 47 (.slice none 0 0) /\ (Boxed W (b + 1 + 1) 26 (.int .i64 0) /\ Boxed W (b + 4) 9 (.string s))))))
    (fun c pre W=>(c = .ret /\ ∃ x ∈ pre,k <= x.val /\ ycT s.data.toList x.val = true) /\ (Below b w W /\ (Boxed W (b + 1) 47 (.slice none 0 0) /\ Boxed W (b + 1 + 1) 26 (.int .i64 8))))
    ?hI ?hIx
    ⟨⟨_,v3,jon _ _ _ _,by simp⟩,vb,v0,v1,v2,v4⟩
    (fun x=>{ tmps:=#[.string s,.int .i64 (k:Int),undef,.pointer (some ⟨b,0,none⟩),.pointer (some ⟨b + 1,0,none⟩),.pointer (some ⟨b + 1 + 1,0,none⟩),.pointer (some ⟨b + 3,0,none⟩),.int .i64 (x.val:Int),.bool (ycT s.data.toList x.val),.bool false,.int .i64 (k:Int),.bool false,.bool false,.int .i64 (k:Int),.bool false,.bool false,.bool false,.string s,.int .i64 (s.size:Int),.int .i64 (k:Int),.int .i64 (m:Int),.bool false,.string s,.func (.func 152) #[] #[.pointer (some ⟨b + 4,0,none⟩)],.int .i64 (x.val:Int),.bool (ycT s.data.toList x.val),undef,undef,undef,undef,undef,undef,undef,undef,undef],defers:=[] }) ?assign ?body ?done ?stop
   case hI=>exact OwnFrom.and (Own.from (holdsRow_own b (b + 3) 47 4 1 (fun pre:List (Fin (8 * s.size))=>(ycc s.data.toList k pre).length) (fun pre=>(ycc s.data.toList k pre).map jc7) (fun pre _=>∀ x ∈ pre,k <= x.val -> ycT s.data.toList x.val = false)) _) (OwnFrom.and (ownFrom_below (by have:=HB0.out;omega) (by omega)) (OwnFrom.and (Own.from (boxed_own _ _ (fun _=>_)) _) (OwnFrom.and (Own.from (boxed_own _ _ (fun _=>_)) _) (OwnFrom.and (Own.from (boxed_own _ _ (fun _=>_)) _) (Own.from (boxed_own _ _ (fun _=>_)) _)))))
   case hIx=>intro c;exact OwnFrom.and (ownFrom_pure _ _) (OwnFrom.and (ownFrom_below (by have:=HB0.out;omega) (by omega)) (OwnFrom.and (Own.from (boxed_own _ _ (fun _=>_)) _) (Own.from (boxed_own _ _ (fun _=>_)) _)))
   case assign =>
    intro l x W K hK;gi_wp2
    exact hK
   case body =>
    rintro l pre x W ⟨⟨v,hv,hrow,hsp⟩,hB,u0,u1,u2,u4⟩ hlt;have hc:=hv.cell;have e0:=u0.cell;have e1:=u1.cell;have f1:=u1.frozen;have e2:=u2.cell;have f2:=u2.frozen;have hpl:=ylL s.data.toList k pre;have hWz:b + 5 <= W.heap.size:=by have:=u4.lt;omega
    have hBz:b <= W.heap.size:=by omega
    generalize hbt:ycT s.data.toList x.val = t at *;have HBT:=jh hbt;clear hbt;by_cases hxk:x.val < k
    ·have hq:(x.val:Int) < (k:Int):=by omega
     have hpk:ycc s.data.toList k (pre ++ [x]) = ycc s.data.toList k pre ++ [t]:=by rw [ylM _ _ _ _ hxk,HBT.out]
     have HPK:=jh hpk;clear hpk;gi_wp2_with (gi_at_builtin;refine wpListIn_append_own _ rfl _ _ 47 rfl b 4 i0 (.bool false) 1 1 Tryz.underlying47 hi hz0 hz1 hz2 rfl (by decide) _ _ _ rfl (hrow.alloc _) ⟨W.heap.size,0,none⟩ 1 1 [.bool t] rfl rfl (cell_one_new _ _ _) (by simp [ja2]) (by simp only [maxLen];omega) (by omega) (by simp;omega) ?_;intro v' w5 hown' hgrow _;obtain ⟨g',cap',rfl⟩:=ownsRow_succ hown';obtain ⟨hv1,hv2,hr2,hk2,hb2⟩:=hv.appended (by decide) hrow hBz (by omega) hown' hgrow;have hc1:=hv1.cell;have hf1:=hv1.frozen)
     have a0:=KeepS.appendedBox (v':=.slice (some ⟨g',0,none⟩) ((ycc s.data.toList k pre).length + 1) cap') hBz u0 (by decide) hrow (B:=b + 3) (by omega) (by omega) hgrow;have a1:=KeepS.appendedBox (v':=.slice (some ⟨g',0,none⟩) ((ycc s.data.toList k pre).length + 1) cap') hBz u1 (by decide) hrow (B:=b + 3) (by omega) (by omega) hgrow;have a2:=KeepS.appendedBox (v':=.slice (some ⟨g',0,none⟩) ((ycc s.data.toList k pre).length + 1) cap') hBz u2 (by decide) hrow (B:=b + 3) (by omega) (by omega) hgrow;have a4:=KeepS.appendedBox (v':=.slice (some ⟨g',0,none⟩) ((ycc s.data.toList k pre).length + 1) cap') hBz u4 (by decide) hrow (B:=b + 3) (by omega) (by omega) hgrow
     exact ⟨hk2.from _,⟨a4.1.size,fun j hj=>a4.1.block j (.inr hj)⟩,⟨_,hv2,by rw [HPK.out];simpa using hr2,fun y hy hky=>by
      rcases List.mem_append.1 hy with hy | hy
      ·exact hsp y hy hky
      ·obtain rfl:y = x:=by simpa using hy
       omega⟩,hB.trans hb2,a0.2,a1.2,a2.2,a4.2⟩
    ·have hpk:ycc s.data.toList k (pre ++ [x]) = ycc s.data.toList k pre:=yk3 _ _ _ _ hxk;have HPK:=jh hpk;clear hpk;have hq:(k:Int) <= (x.val:Int):=by omega
     have hq2:decide ((x.val:Int) < (k:Int)) = false:=by simp;omega
     have hq3:decide (x.val < k) = false:=by simp;omega
     have hxk':=jh hxk;clear hxk;cases t
     ·gi_wp2
      exact ⟨KeepsFrom.refl _ _,KeepS.refl _ _,⟨v,hv,by rw [HPK.out];exact hrow,fun y hy hky=>by
       rcases List.mem_append.1 hy with hy | hy
       ·exact hsp y hy hky
       ·obtain rfl:y = x:=by simpa using hy
        exact HBT.out⟩,hB,u0,u1,u2,u4⟩
     ·gi_wp2
      exact ⟨((jks _ _ _).trans (jks _ _ _)).from _,⟨rfl,x,by simp,by have:=hxk'.out;omega,HBT.out⟩,(hB.setCell (p:=⟨b + 1,0,none⟩) (by show b <= b + 1;omega) _).setCell (p:=⟨b + 1 + 1,0,none⟩) (by show b <= b + 1 + 1;omega) _,(u1.set _).other (by omega) _,(u2.other (by omega) _).set _⟩
   case done =>
    rintro D ys W hD rfl ⟨⟨v,hv,hrow,hsp⟩,hB,u0,u1,u2,u4⟩ hK;have hc:=hv.cell;have e1:=u1.cell;have f1:=u1.frozen;have e2:=u2.cell;have f2:=u2.frozen;have hDW:D < W.heap.size:=(jes.1 hK).1
    have hns:yei s.data.toList k = false:=by
     rw [<- Bool.not_eq_true,yhG s.data.toList k (8 * s.size) (by rw [yar])];rintro ⟨x,hx,h1,h2⟩;rw [hsp x hx h1] at h2;cases h2
    have hE0:ybq s.data.toList (k:Int) = 0:=by rw [HE.out,hns];rfl
    have hL0:yaR s.data.toList (k:Int) = ycc s.data.toList k (jb3 (8 * s.size)):=by
     unfold yaR;rw [if_pos hE0,ylN _ _ _ hkN];rfl
    obtain ⟨A0,c0,rfl,_⟩:=yaN hrow;gi_wp2
    refine ⟨by simp,.inl ⟨_,_,rfl,run_takeDeferred (((jks _ _ _).trans (jks _ _ _)).same D _ hK rfl),?_⟩⟩;have t1:Boxed ((W.setCell ⟨b + 1,0,none⟩ (.slice A0 (ycc s.data.toList k (jb3 (8 * s.size))).length c0)).setCell ⟨b + 1 + 1,0,none⟩ (.int .i64 0)) (b + 1) 47 _:=(u1.set _).other (by omega) _;have t2:Boxed ((W.setCell ⟨b + 1,0,none⟩ (.slice A0 (ycc s.data.toList k (jb3 (8 * s.size))).length c0)).setCell ⟨b + 1 + 1,0,none⟩ (.int .i64 0)) (b + 1 + 1) 26 (.int .i64 0):=(u2.other (by omega) _).set _;have tb:=(hB.setCell (p:=⟨b + 1,0,none⟩) (by show b <= b + 1;omega) (.slice A0 (ycc s.data.toList k (jb3 (8 * s.size))).length c0)).setCell (p:=⟨b + 1 + 1,0,none⟩) (by show b <= b + 1 + 1;omega) (.int .i64 0)
    have tr:((W.setCell ⟨b + 1,0,none⟩ (.slice A0 (ycc s.data.toList k (jb3 (8 * s.size))).length c0)).setCell ⟨b + 1 + 1,0,none⟩ (.int .i64 0)).ownsRow b 4 1 (.slice A0 (ycc s.data.toList k (jb3 (8 * s.size))).length c0) _ _ :=
     (hrow.kept (grownBy_setCell' W (b + 1) _) (.inr (u1.not_row (by decide) hrow).symm)).kept (grownBy_setCell' _ (b + 1 + 1) _) (.inr (u2.not_row (by decide) hrow).symm)
    have tK:=((jks W ⟨b + 1,0,none⟩ (.slice A0 (ycc s.data.toList k (jb3 (8 * s.size))).length c0)).trans (jks _ ⟨b + 1 + 1,0,none⟩ (.int .i64 0))).same D _ hK rfl;have q1:D ≠ b + 1:=by omega
    have q2:D ≠ b + 1 + 1:=by omega
    exact ⟨_,ybZ rfl _ _ _ _ _ _ rfl rfl (ya8 Tryz.underlying47 rfl ((t1.kept (grownBy_putObj' _ D _) (by simp;omega)).cell)) (ya8 je1 rfl ((t2.kept (grownBy_putObj' _ D _) (by simp;omega)).cell)),
     _,by rw [hE0],by rw [hL0,HB0.out];exact ownsRow_putObj tr _ tK rfl,by rw [HB0.out];exact tb.trans (belowK_b (w:=w) (by have:=HB0.out;omega) _ D _ _ (by have:=HB0.out;omega) tK rfl rfl)⟩
   case stop =>
    rintro D c pre W hD hpre ⟨⟨rfl,x,hx,hx1,hx2⟩,hB,u1,u2⟩ hK
    have hns:yei s.data.toList k = true:=by
     rw [yhG s.data.toList k (8 * s.size) (by rw [yar])];exact ⟨x,hpre.subset hx,hx1,hx2⟩
    have hE0:ybq s.data.toList (k:Int) = 8:=by rw [HE.out,hns];rfl
    have hL0:yaR s.data.toList (k:Int) = []:=by unfold yaR;rw [hE0];rfl
    gi_wp2
    have hDW:D < W.heap.size:=(jes.1 hK).1;refine ⟨by simp,.inl ⟨_,_,rfl,run_takeDeferred hK,?_⟩⟩
    exact ⟨_,ybZ rfl _ _ _ _ _ _ rfl rfl (ya8 Tryz.underlying47 rfl ((u1.kept (grownBy_putObj' _ D _) (by simp;omega)).cell)) (ya8 je1 rfl ((u2.kept (grownBy_putObj' _ D _) (by simp;omega)).cell)),
     _,by rw [hE0],by rw [hL0];exact jon _ _ _ _,by rw [HB0.out];exact hB.trans (belowK_b (w:=w) (by have:=HB0.out;omega) _ D _ _ (by have:=HB0.out;omega) hK rfl rfl)⟩
  ·have he:ybq s.data.toList k = 2:=by unfold ybq;rw [if_neg hbad,if_pos (by rw [hsl,jnc,hm];exact hlen)]
   have hL:yaR s.data.toList k = []:=by unfold yaR;rw [he];rfl
   rw [he,hL];have hne:((s.size:Int) != (m:Int)) = true:=by simp;omega
   have hne2:(s.size != m) = true:=by simpa using hlen
   have hbad':=jh hbad;clear he hL hm hlen hbad;obtain ⟨x1,x2,x3,x4,_⟩:=box3 w (.int .i64 (k:Int)) (.slice none 0 0) (.int .i64 2) 3 47 26;have y1:=x2.cell;have y2:=x3.cell;clear x1 x2 x3;gi_wp2_with fail
   refine ⟨trivial,callsIn_wide.2 ((hneed _).mono ?_)⟩;rintro e w' ⟨rfl,rfl⟩;gi_wp2_with fail
   exact ⟨_,ybZ rfl _ _ _ _ _ _ rfl rfl (ya8 Tryz.underlying47 rfl y1) (ya8 je1 rfl y2),_,rfl,jon _ _ _ _,x4⟩
def digB (c:UInt8) (i:Nat):BitVec 64:=BitVec.ofNat 64 (c.toNat % 128) <<< (7 * i)
def yb5 (l:List UInt8) (a:Nat):Nat -> Nat -> BitVec 64 -> BitVec 64 × Nat × Int
 | 0,_,_=>(0,0,3)
 | f + 1,i,n=>match l[a + i]? with
  | none=>(0,0,3)
  | some c=>if i = 9 /\ 1 < c.toNat then (0,0,5) else if 128 <= c.toNat then yb5 l a f (i + 1) (n ||| digB c i) else if 0 < i /\ c.toNat = 0 then (0,0,8) else (n ||| digB c i,a + i + 1,0)
def ybR (l:List UInt8) (at_:Int):BitVec 64 × Nat × Int:=if at_ < 0 \/ (l.length:Int) < at_ then (0,0,1) else yb5 l at_.toNat 10 0 0
theorem yiN (m:Nat) (h:m < 2 ^ 64):BitVec.ofNat 64 m = BitVec.ofNat 64 (m % 128) ||| (BitVec.ofNat 64 (m / 128) <<< 7):=by
 apply BitVec.eq_of_toNat_eq
 rw [BitVec.toNat_or,BitVec.toNat_shiftLeft,BitVec.toNat_ofNat,BitVec.toNat_ofNat,BitVec.toNat_ofNat,Nat.shiftLeft_eq,Nat.mod_eq_of_lt h,Nat.mod_eq_of_lt (show m % 128 < 2 ^ 64 by omega),Nat.mod_eq_of_lt (show m / 128 < 2 ^ 64 by omega),
  Nat.mod_eq_of_lt (show m / 128 * 2 ^ 7 < 2 ^ 64 by omega)]
 have:=Nat.two_pow_add_eq_or_of_lt (i:=7) (b:=m % 128) (by omega) (m / 128);rw [Nat.or_comm,jd2,<- this];omega
theorem ydS (m i:Nat) (h:m < 2 ^ 64):BitVec.ofNat 64 m <<< (7 * i) = (BitVec.ofNat 64 (m % 128) <<< (7 * i)) ||| (BitVec.ofNat 64 (m / 128) <<< (7 * (i + 1))):=by
 conv=>lhs;rw [yiN m h]
 rw [BitVec.shiftLeft_or_distrib,<- BitVec.shiftLeft_add];congr 2;omega
theorem yjB (i:Nat) (h:i <= 8):2 ^ (64 - 7 * i) = 128 * 2 ^ (64 - 7 * (i + 1)):=by
 rw [show 64 - 7 * i = (64 - 7 * (i + 1)) + 7 by omega,Nat.pow_add];omega
theorem yjC (i:Nat):2 ^ (64 - 7 * i) <= 2 ^ 64:=Nat.pow_le_pow_right (by omega) (by omega)
theorem ygh (pre post:List UInt8):∀ (f i m:Nat) (n:BitVec 64) (done:List UInt8),done.length = i -> i + f = 10 -> m < 2 ^ (64 - 7 * i) -> (0 < i -> 0 < m) ->
  yb5 (pre ++ (done ++ varF f m) ++ post) pre.length f i n = (n ||| BitVec.ofNat 64 m <<< (7 * i),pre.length + i + (varF f m).length,0)
 | 0,i,m,n,done,hd,hf,hm,h0=>by
  exfalso;have:i = 10:=by omega
  subst this;have:=h0 (by omega);simp at hm;omega
 | f + 1,i,m,n,done,hd,hf,hm,h0=>by
  have hm64:m < 2 ^ 64:=jc4 hm (yjC i);by_cases hlt:m < 128
  ·have hv:varF (f + 1) m = [UInt8.ofNat m]:=by rw [varF,if_pos hlt]
   have hget:(pre ++ (done ++ varF (f + 1) m) ++ post)[pre.length + i]? = some (UInt8.ofNat m):=by
    rw [hv,List.append_assoc,jar (by omega),show pre.length + i - pre.length = i by omega,List.append_assoc,jar (by omega),hd,Nat.sub_self];rfl
   have hc:(UInt8.ofNat m).toNat = m:=by simp;omega
   rw [yb5,hget];simp only [hc,hv,List.length_singleton]
   rw [if_neg (by
    rintro ⟨rfl,h1⟩;have:m < 2:=hm;omega),if_neg (by omega),if_neg (by rintro ⟨h1,h2⟩;have:=h0 h1;omega)]
   unfold digB;rw [hc,Nat.mod_eq_of_lt hlt]
  ·have hv:varF (f + 1) m = UInt8.ofNat (m % 128 + 128) :: varF f (m / 128):=by rw [varF,if_neg hlt]
   have hget:(pre ++ (done ++ varF (f + 1) m) ++ post)[pre.length + i]? = some (UInt8.ofNat (m % 128 + 128)):=by
    rw [hv,List.append_assoc,jar (by omega),show pre.length + i - pre.length = i by omega,List.append_assoc,jar (by omega),hd,Nat.sub_self];rfl
   have hc:(UInt8.ofNat (m % 128 + 128)).toNat = m % 128 + 128:=by simp;omega
   have hi:i <= 8:=by
    rcases Nat.lt_or_ge i 9 with h | h
    ·omega
    ·exfalso;have:2 ^ (64 - 7 * i) <= 2 ^ 1:=Nat.pow_le_pow_right (by omega) (by omega);omega
   rw [yb5,hget];simp only [hc];rw [if_neg (by omega),if_pos (by omega)];have hstep:=yjB i hi;have ih:=ygh pre post f (i + 1) (m / 128) (n ||| digB (UInt8.ofNat (m % 128 + 128)) i) (done ++ [UInt8.ofNat (m % 128 + 128)]) (by simp [hd]) (by omega) (by rw [hstep] at hm;exact Nat.div_lt_of_lt_mul hm) (by omega);rw [show done ++ [UInt8.ofNat (m % 128 + 128)] ++ varF f (m / 128) = done ++ varF (f + 1) m by rw [hv];simp] at ih;rw [ih,hv];congr 1
   ·rw [BitVec.or_assoc,ydS m i hm64];unfold digB;rw [hc,show (m % 128 + 128) % 128 = m % 128 by omega]
   ·congr 1
    simp;omega
theorem ygg (l:List UInt8) (a:Nat):∀ (f i:Nat) (n r:BitVec 64) (tz:Nat),i + f = 10 -> yb5 l a f i n = (r,tz,0) ->
  ∃ m,m < 2 ^ (64 - 7 * i) /\ (0 < i -> 0 < m) /\ r = n ||| BitVec.ofNat 64 m <<< (7 * i) /\ tz = a + i + (varF f m).length /\ tz <= l.length /\ (l.drop (a + i)).take (varF f m).length = varF f m
 | 0,i,n,r,tz,hf,h=>by simp [yb5] at h
 | f + 1,i,n,r,tz,hf,h=>by
  rw [yb5] at h;cases hg:l[a + i]? with
  | none=>rw [hg] at h;simp at h
  | some c =>
   rw [hg] at h;simp only at h;obtain ⟨hlt,hge⟩:=jc9.1 hg;have hdrop:l.drop (a + i) = c :: l.drop (a + i + 1):=by rw [jdc hlt,hge]
   split at h
   ·simp at h
   ·rename_i h9
    split at h
    ·rename_i hc
     obtain ⟨m,h1,h2,h3,h4,h5,h6⟩:=ygg l a f (i + 1) _ r tz (by omega) h
     have hi:i <= 8:=by
      rcases Nat.lt_or_ge i 9 with h | h
      ·omega
      ·exfalso;exact h9 ⟨by omega,by omega⟩
     have hcl:=c.toNat_lt;have hstep:=yjB i hi;have hm:0 < m:=h2 (by omega)
     have hv:varF (f + 1) (m * 128 + c.toNat % 128) = c :: varF f m:=by
      rw [varF,if_neg (by omega),show (m * 128 + c.toNat % 128) % 128 + 128 = c.toNat by omega,show (m * 128 + c.toNat % 128) / 128 = m by omega]
      simp
     have hlt64:m * 128 + c.toNat % 128 < 2 ^ (64 - 7 * i):=by rw [hstep];omega
     refine ⟨m * 128 + c.toNat % 128,hlt64,by omega,?_,?_,h5,?_⟩
     ·rw [h3,ydS _ i (jc4 hlt64 (yjC i)),show (m * 128 + c.toNat % 128) % 128 = c.toNat % 128 by omega,show (m * 128 + c.toNat % 128) / 128 = m by omega,BitVec.or_assoc];rfl
     ·rw [h4,hv];simp;omega
     ·rw [hv,hdrop,jlc,List.take_succ_cons,show a + i + 1 = a + (i + 1) by omega,h6]
    ·rename_i hc
     split at h
     ·simp at h
     ·rename_i h0
      simp only [Prod.mk.injEq] at h;obtain ⟨rfl,rfl,_⟩:=h;have hv:varF (f + 1) c.toNat = [c]:=by rw [varF,if_pos (by omega)];simp
      refine ⟨c.toNat,?_,?_,?_,by rw [hv];simp,by omega,by rw [hv,hdrop];simp⟩
      ·rcases Nat.lt_or_ge i 9 with h | h
       ·have:2 ^ 7 <= 2 ^ (64 - 7 * i):=Nat.pow_le_pow_right (by omega) (by omega);omega
       ·have:i = 9:=by omega
        subst this;have:¬ 1 < c.toNat:=fun h=>h9 ⟨rfl,h⟩;show c.toNat < 2;omega
      ·intro hi;rcases Nat.eq_zero_or_pos c.toNat with h | h
       ·exact absurd ⟨hi,h⟩ h0
       ·exact h
      ·unfold digB;rw [Nat.mod_eq_of_lt (by omega)]
theorem yi8 (pre post:List UInt8) (m:Nat) (h:m < 2 ^ 64):ybR (pre ++ varL m ++ post) pre.length = (BitVec.ofNat 64 m,pre.length + (varL m).length,0):=by
 unfold ybR;rw [if_neg (by simp;omega),jnc];have:=ygh pre post 10 0 m 0 [] rfl rfl (by simpa using h) (by omega);simpa [varL] using this
theorem yff (l:List UInt8) (a:Nat) (r:BitVec 64) (tz:Nat) (h:ybR l a = (r,tz,0)):tz = a + (varL r.toNat).length /\ tz <= l.length /\ (l.drop a).take (tz - a) = varL r.toNat:=by
 unfold ybR at h;split at h
 ·simp at h
 ·rw [jnc] at h;obtain ⟨m,h1,_,h3,h4,h5,h6⟩:=ygg l a 10 0 0 r tz rfl h
  have hr:r.toNat = m:=by
   rw [h3]
   simp;omega
  rw [hr];refine ⟨h4,h5,?_⟩;rw [h4];simpa [varL] using h6
end Go.Proofs.YtgclnikdkfpflaaGreatDoor
