/- Merged: SpM2, SpN, SpM, SpP, SpC, SpR, Open. -/
import Derived.Test.YtmaggfokhlodnaaGreatDoorMx1
import Derived.Test.YtmaggfokhlodnaaGreatDoorMx3
import Derived.Test.YtmaggfokhlodnaaGreatDoorMx4
import Derived.Test.YtmaggfokhlodnaaGreatDoorMx5
import Derived.Test.YtmaggfokhlodnaaGreatDoorMx6
import Derived.Test.YtmaggfokhlodnaaGreatDoorMx9
import Derived.Test.YtmaggfokhlodnaaGreatDoorMx12
import Derived.Test.YtmaggfokhlodnaaGreatDoorMx13
namespace Go.Proofs.YtmaggfokhlodnaaGreatDoor
open Go.RowKit Go.Shelf
open List renaming set_cons_zero → jz, set_cons_succ → js, setIfInBounds_toArray → jb
set_option linter.unusedVariables false
set_option linter.unusedSimpArgs false
set_option maxRecDepth 100000
set_option maxHeartbeats 16000000
open Lib renaming hid → jh
open Act renaming put → jp
open World.grownBy renaming refl → jr
open _root_.List renaming getD_eq_getElem?_getD → jg, getElem?_eq_getElem → je, getElem?_cons_zero → jcz, getElem?_cons_succ → jcs, getElem?_toArray → jta, take_of_length_le → jtl, drop_eq_getElem_cons → jdc, getElem?_map → jgm, getElem?_take_of_lt → ja9, length_take → jc0, getElem_mem → jc1
open _root_.Option.some renaming inj → ji
open _root_.Array renaming getElem?_eq_some_iff → jes, replicate → je2
open World renaming size_alloc → jsa, ownsRow_nil → jon
open Below renaming heap_setCell → jhs
open _root_.Nat renaming le_trans → jlt, le_refl → jle, lt_of_lt_of_le → jb6, add_sub_cancel_left → jc3
open _root_.Go.Proofs.Tryz renaming prog → jq, underlying25 → ja3, underlying49 → ja5, underlying28 → jc8
open Go renaming wp_region_list → jwl, wpList_nil → jwn, bodyPost_ret → jbr, wpAnyH_done → jwd, wp_region_held → jwh, setRow_other → jso, run_append_own_at → jra, wpList_store_row → jsw
open _root_.Go.Proofs renaming enters_of → jeo
open Value renaming oneCell' → ja2, slice → ja6, bool → jc7, int → je3
def yol (s:ByteArray) (ch:Nat) (w:World) (e:Ending) (w':World):Prop :=
 w.grownBy w' none /\ ((∃ c:Int,c ≠ 0 /\ ybR s ch = .error c /\ e = .returned (.tuple #[.agg (spC SpV.none_ none 0 0),.int .i64 c])) \/
  (∃ S A n c,ybR s ch = .ok S /\ e = .returned (.tuple #[.agg (spC S A n c),.int .i64 0]) /\ BksR w'.heap.size w' S.blocks A n /\ ∀ b ∈ S.blocks,∀ t ∈ b.txs,ydX t))
section
variable {a:Act} {o:Oper} {W:World}
theorem yj1:(sizeOf (jq.elem 39)).run jq W = .ok 36 W:=by
 have he:jq.elem 39 = 49:=by kernel_rfl
 obtain ⟨i0,hi,hz0,hzs,hzb⟩:=yi8;rw [he];simp [sizeOf,typeInfo,hi,hzs]
theorem ykN (x y:Operand) (ho:o.op = .slice 39 x none (some y) none) {g off len cap n:Nat} (hx:a.eval x = .slice (some ⟨g,off,none⟩) len cap) (hy:a.eval y = .int .u64 (n:Int)) (hn:n <= cap) :
  (execOp a.eval o).run jq W = .ok (.value (.slice (some ⟨g,off,none⟩) n cap)) W:=by
 have hu:jq.underlying 39 = some (.slice (jq.elem 39)):=by kernel_rfl
 unfold execOp;generalize a.eval = ev at *;simp only [ho,hx,hy,Option.map_some,Option.map_none,Sem.run_bind,Sem.run_pure];rw [run_sliceAt_slice (h:=hu),run_slice_h (ht:=hu) (h0:=by omega) (h2:=by omega),yj1];simp [Result.andThen,sliced,Addr.add]
theorem ykM (x y:Operand) (ho:o.op = .slice 39 x (some y) none none) {g p m n:Nat} (hx:a.eval x = .slice (some ⟨g,p * 36,none⟩) m m) (hy:a.eval y = .int .u64 (n:Int)) (hn:n <= m) :
  (execOp a.eval o).run jq W = .ok (.value (.slice (some ⟨g,(if m = n then p else p + n) * 36,none⟩) (m - n) (m - n))) W:=by
 have hu:jq.underlying 39 = some (.slice (jq.elem 39)):=by kernel_rfl
 unfold execOp;generalize a.eval = ev at *;simp only [ho,hx,hy,Option.map_some,Option.map_none,Sem.run_bind,Sem.run_pure];rw [run_sliceAt_slice (h:=hu),run_slice_l (ht:=hu) (h0:=by omega) (h1:=by omega),yj1];by_cases h:m = n
 ·simp [Result.andThen,sliced,h]
 ·simp [Result.andThen,sliced,h,Addr.add,Nat.add_mul]
end
theorem yj8 {z n size:Nat} {e:TypeId} {v:Value} {xs:List Value} {u:World} (h:u.ownsRow z e size v n xs):∃ A c,v = .slice A n c:=by
 rcases h.2 with ⟨h1,h0⟩ | ⟨g,cap,cur,h1,_⟩
 ·exact ⟨none,0,by rw [h1,h0]⟩
 ·exact ⟨_,cap,h1⟩
theorem yoq {z n k:Nat} {e:TypeId} {A:Option Addr} {c:Nat} {xs:List Value} {u u':World} {x:Value} (h:u.ownsRow z e 1 (.slice A n c) n xs) (hk:k < n) (hx:xs[k]? = some x) (hb:∀ g cs,Blk u g e cs -> Blk u' g e cs) :
  ∃ g,A = some ⟨g,0,none⟩ /\ u'.cell? ⟨g,k,none⟩ = some x /\ g < u.heap.size:=by
 rcases h.2 with ⟨_,h0⟩ | ⟨g,cap,cur,hv,hb9,hh,hn9,hc9,hz9,hx9⟩
 ·omega
 ·have hAC:A = some ⟨g,0,none⟩:=by injection hv
  refine ⟨g,hAC,((hb g cur hh).cell k).trans ?_,(show Blk u g e cur from hh).lt⟩;have e1:(cur.toList.take (n * 1))[k]? = xs[k]?:=by rw [hx9]
  rw [ja9 (by omega),hx] at e1;simpa using e1
theorem yf0 {z n size:Nat} {e:TypeId} {v:Value} {xs:List Value} {u u':World} (h:u.ownsRow z e size v n xs) (hk:∀ g,z <= g -> g < u.heap.size -> u'.heap[g]? = u.heap[g]?):u'.ownsRow z e size v n xs:=by
 obtain ⟨h1,(h2 | ⟨g,cap,cur,a,b,c,d⟩)⟩:=h
 ·exact ⟨h1,.inl h2⟩
 ·exact ⟨h1,.inr ⟨g,cap,cur,a,b,(hk g b (jes.1 c).1).trans c,d⟩⟩
theorem ymw (s:ByteArray) (ch:Nat) (w:World) (hs:s.size <= 1000000000000) (hc0:ch ≠ 0) (hc1:ch <= 4611686018427387904) (h1:0 < s.size) (hb1:s.data.toList.getD 0 0 = 1) :
  Calls jq 17 #[.string s,.int .u64 (ch:Int)] w (yol s ch w):=by
 obtain ⟨p1,p2,p3,p4⟩:=yfx s h1
 have hgs:ybR s ch = if txE s ≠ 0 then .error (txE s) else ynn s (getR s (bkA3 s) (sumS (bkC s)) ch):=by
  unfold ybR;rw [if_neg (by simp only [Bool.or_eq_true,decide_eq_true_eq];omega),if_neg (by omega),if_neg (by rw [hb1];simp)]
 have hsn:s ≠ ⟨#[]⟩:=fun e=>by rw [e] at h1;exact absurd h1 (by decide)
 obtain ⟨g0,_,_,q3,hd0⟩:=yj3 hsn;have q1:((ch:Int) == 0) = false:=by simpa using hc0
 have q2:decide ((4611686018427387904:Int) < (ch:Int)) = false:=decide_eq_false (by omega);have q4:(((s[0]'g0).toNat:Int) != 1) = false:=by rw [<- hd0,hb1];rfl
 have q5:(((s[0]'g0).toNat) != 1) = false:=by rw [<- hd0,hb1];rfl
 have HS:=jh hs;have HC0:=jh hc0;have HC1:=jh hc1;have H1:=jh h1;have P1:=jh p1;have P2:=jh p2;have P3:=jh p3;have P4:=jh p4;have HGS:=jh hgs;clear hs hc0 hc1 p1 p2 p3 p4 hgs hb1 hsn hd0;go_enter Tryz.func17,Tryz.ntmps17
 go_upto_region 7 with (fail)
 clear q1 q2 q3 q4 q5;have hb4:=Blk.new w 25 (spC SpV.none_ none 0 0);have hg4:=yaa (jr w none) (.cells (spC SpV.none_ none 0 0) 25);obtain ⟨b4,hb4e⟩:∃ x,w.heap.size = x:=⟨_,rfl⟩;have HB4L:=jh (show w.heap.size <= b4 by omega);rw [hb4e] at hb4 ⊢;clear hb4e;change Code.wp _ _ _ _ (w.alloc (.cells (spC SpV.none_ none 0 0) 25));generalize w.alloc (.cells (spC SpV.none_ none 0 0) 25) = w0 at *;refine jwl ?_;refine zm 0 (.string s) rfl ?_;simp only [jp,jb,jz,js];refine yaH rfl 68 _ #[.string s,.int .i64 1,.int .i64 0] rfl (by kernel_rfl) ?_;simp only [jp,jb,jz,js];refine zm 1 (.int .u64 (ch:Int)) rfl ?_;simp only [jp,jb,jz,js];refine yaH rfl 70 _ (rdS ch s 1 0) rfl (by kernel_rfl) ?_;simp only [jp,jb,jz,js];refine yac rfl (.pointer (some ⟨w0.heap.size,0,none⟩)) (w':=w0.alloc (.cells (rdS ch s 1 0) 70)) (by unfold rdS;go_simp <;> rfl) ?_;simp only [jp,jb,jz,js];have hb:=Blk.new w0 70 (rdS ch s 1 0);have hga:=yaa (jr w0 none) (.cells (rdS ch s 1 0) 70);have hlt:=hb4.lt;obtain ⟨r,hre⟩:∃ x,w0.heap.size = x:=⟨_,rfl⟩;have HRW:=jh (show w.heap.size <= r by have:=hg4.size;omega);have HR4:=jh (show b4 ≠ r by omega);rw [hre] at hb ⊢;replace hb4:=hb4.grown hga (by simp);replace hg4:=hg4.trans hga;clear hga hlt hre;generalize w0.alloc (.cells (rdS ch s 1 0) 70) = w1 at *;refine zg (.pointer (some ⟨r,0,none⟩)) ?_;simp only [jp,jb,jz,js];refine jwn ?_;go_upto_region 8 with (fail)
 refine jwl ?_;refine zm 6 (.pointer (some ⟨r,0,none⟩)) rfl ?_;simp only [jp,jb,jz,js];refine yah rfl 37 #[.pointer (some ⟨r,0,none⟩)] (yam _ (.tmp 35) _ rfl _ rfl (jeo Tryz.func37 (by kernel_rfl) rfl _ _)) ((ymr ch s r w1 hb HS.out H1.out P1.out).mono ?_);rintro e w2 ⟨rfl,hb2,hg2⟩;replace hb4:=hb4.grown hg2 (fun e=>HR4.out (ji e));replace hg4:=yab hg4 hg2 (fun k hk=>.inr (by have:=ji hk;have:=HRW.out;omega));clear hb hg2;refine ⟨_,rfl,?_⟩;simp only [jp,jb,jz,js];refine yac rfl (.pointer (some ⟨w2.heap.size,0,none⟩)) (w':=w2.alloc (.cells spZ 25)) (by unfold spZ;go_simp <;> rfl) ?_;simp only [jp,jb,jz,js];have hq:=Blk.new w2 25 spZ;have hga:=yaa (jr w2 none) (.cells spZ 25);have hl4:=hb4.lt;have hlr:=hb2.lt;obtain ⟨q,hqe⟩:∃ x,w2.heap.size = x:=⟨_,rfl⟩;have HQW:=jh (show w.heap.size <= q by have:=hg4.size;omega);have HQ4:=jh (show b4 ≠ q by omega);have HQR:=jh (show r ≠ q by omega);rw [hqe] at hq ⊢;replace hb4:=hb4.grown hga (by simp);replace hb2:=hb2.grown hga (by simp);replace hg4:=hg4.trans hga;clear hga hl4 hlr hqe;generalize w2.alloc (.cells spZ 25) = w3 at *;refine jsw rfl 25 (.tmp 7) (.tmp 36) rfl q (hdC s) rfl rfl 25 spZ hq (by kernel_rfl) rfl (by simp [ja2,hdC]) ?_;simp only [jp,jb,jz,js];replace hb4:Blk (w3.setRow q (hdC s)) b4 25 (spC SpV.none_ none 0 0):=(jso w3 q b4 (hdC s) HQ4.out).trans hb4;replace hb2:Blk (w3.setRow q (hdC s)) r 70 (rdS ch s (hdA s) (hdE s)):=(jso w3 q r (hdC s) HQR.out).trans hb2;replace hg4:=yaR hg4 HQW.out (hdC s);replace hq:Blk (w3.setRow q (hdC s)) q 25 (hdC s):=yay hq;generalize w3.setRow q (hdC s) = w4 at *;refine jwn ?_;go_upto_region 9 with (fail)
 refine jwl ?_;refine zm 6 (.pointer (some ⟨r,0,none⟩)) rfl ?_;simp only [jp,jb,jz,js];have hqlt:=hq.lt;refine yah rfl 38 #[.pointer (some ⟨r,0,none⟩)] (yam _ (.tmp 38) _ rfl _ rfl (jeo Tryz.func38 (by kernel_rfl) rfl _ _)) ((yjq ch s r w4 hb2 HS.out P2.out).mono ?_);rintro e w5 ⟨vL,vC,rfl,hb5,hg5,hC5,hL5⟩;obtain ⟨AC,cc,rfl⟩:=yj8 hC5;replace hb4:=hb4.grown hg5 (fun e=>HR4.out (ji e));replace hq:=hq.grown hg5 (fun e=>HQR.out (ji e).symm);replace hg4:=yab hg4 hg5 (fun k hk=>.inr (by have:=ji hk;have:=HRW.out;omega));have HQ5:=jh (show q < w5.heap.size from hq.lt);have HQ4L:=jh (show b4 < w5.heap.size from hb4.lt);clear hb2 hg5 hqlt;refine ⟨_,rfl,?_⟩;simp only [jp,jb,jz,js];refine zm 39 (.tuple #[vL,.slice AC (bkC s).length cc]) rfl ?_;simp only [jp,jb,jz,js];refine zg (vL) ?_;simp only [jp,jb,jz,js];refine zg (.slice AC (bkC s).length cc) ?_;simp only [jp,jb,jz,js];refine zg (vL) ?_;simp only [jp,jb,jz,js];refine zg (.slice AC (bkC s).length cc) ?_;simp only [jp,jb,jz,js];refine jwn ?_;go_upto_region 10 with (fail)
 refine jwl ?_;refine zm 6 (.pointer (some ⟨r,0,none⟩)) rfl ?_;refine zm 9 (.slice AC (bkC s).length cc) rfl ?_;simp only [jp,jb,jz,js];refine yah rfl 39 #[.pointer (some ⟨r,0,none⟩),.slice AC (bkC s).length cc] (yao _ (.tmp 42) (.tmp 43) _ rfl _ _ rfl rfl (jeo Tryz.func39 (by kernel_rfl) rfl _ _)) ((yne ch s r _ AC cc w5 hb5 HS.out P3.out P4.out HC0.out HC1.out hC5).mono ?_);rintro e w6 ⟨vT,A,E,rfl,hb6,hg6,hcase⟩;replace hb4:=hb4.grown hg6 (fun e=>HR4.out (ji e));replace hq:=hq.grown hg6 (fun e=>HQR.out (ji e).symm);replace hg4:=yab hg4 hg6 (fun k hk=>.inr (by have:=ji hk;have:=HRW.out;omega));refine ⟨_,rfl,?_⟩;simp only [jp,jb,jz,js];refine zg (vT) ?_;simp only [jp,jb,jz,js];refine jwn ?_;have HB4:=jh hb4;have HQ:=jh hq;have HG4:=jh hg4;have HB6:=jh hb6;clear hb4 hq hg4;rcases hcase with ⟨hE,herr⟩ | ⟨rfl,htx0,L,g,hget,hA,rfl,hgl,htx,hok,hst⟩
 ·have hce:ybR s ch = .error E:=by
   rw [HGS.out];rcases herr with ⟨h,h2⟩ | ⟨h,h2⟩
   ·rw [if_pos h,h2]
   ·rw [if_neg (by simpa using h),h2];rfl
  have c2:=HB6.out.cell 2;simp only [rdS,jta,jcz,jcs] at c2;have e1:(E == 0) = false:=by simpa using hE
  have e2:(E != 0) = true:=by simpa using hE
  have HCE:=jh hce;have HBE:=HB6;have HNE:=jh hE;clear hce herr hE hb6 hg6 hC5 hL5 hb5;go_upto_region 14 with (fail)
  refine jwh (S:=fun U=>Blk U r 70 (rdS ch s A E)) (by kernel_rfl) ?_;change wpAnyH _ _ _ _ _ _ _ _ w6.drew;have hS0:Blk w6.drew r 70 (rdS ch s A E):=HBE.out;have h40:Blk w6.drew b4 25 (spC SpV.none_ none 0 0):=HB4.out;have hg0:w.grownBy w6.drew none:=yau HG4.out;(try clear c1 c2);generalize w6.drew = u0 at *;refine cL 0 71 (.agg spZ) rfl (fun W hW=>by unfold spZ;go_simp <;> rfl) hS0 ?_;simp only [jp,jb,jz,js];refine cP r 1 72 0 rfl hS0 ?_;simp only [jp,jb,jz,js];refine cP r 2 73 0 rfl hS0 ?_;simp only [jp,jb,jz,js];refine cP r 3 74 0 rfl hS0 ?_;simp only [jp,jb,jz,js];refine cP r 4 75 2 rfl hS0 ?_;simp only [jp,jb,jz,js];refine cL 5 76 (.int .i64 E) rfl (fun W hW=>yaj 28 _ rfl _ rfl _ _ jc8 rfl ((Blk.cell hW 2).trans rfl)) hS0 ?_;simp only [jp,jb,jz,js];have hsr:u0.setCells b4 0 spZ.toList = u0.setRow b4 spZ:=(ya2 h40 0 _).trans (congrArg (u0.setRow b4) (by kernel_rfl));have hS1:Blk (u0.setRow b4 spZ) r 70 (rdS ch s A E):=(jso u0 b4 r spZ (fun e=>HR4.out e.symm)).trans hS0;have h41:Blk (u0.setRow b4 spZ) b4 25 spZ:=yay h40;have hg1:=yaR hg0 HB4L.out spZ;refine yag (i:=6) (by kernel_rfl) ?_;refine ybo rfl rfl rfl (w':=u0.setRow b4 spZ) (by rw [<- hsr];exact yap 25 (.tmp 4) (.tmp 71) rfl b4 0 rfl _ rfl spZ rfl (ya8 h40 (by simp [spZ,spC])) (by kernel_rfl) (by simp [ja2,spZ])) hS1 ?_;(try simp only [jp,jb,jz,js]);generalize u0.setRow b4 spZ = u1 at *;refine cV 7 5 (.int .i64 E) rfl hS1 ?_;simp only [jp,jb,jz,js];refine jwd (by kernel_rfl) ?_ _;clear hS0 h40 hg0 hsr hS1;have H41:=jh h41;have HG1:=jh hg1;clear h41 hg1;go_wp2_with fail
  refine jbr (yaJ (fn:=Tryz.f17) rfl _ _ _ _ rfl (run_loadVar_row _ b4 25 25 spZ (0,0) _ H41.out ja3 rfl (by kernel_rfl))) rfl ?_;exact ⟨HG1.out,.inl ⟨E,HNE.out,HCE.out,rfl⟩⟩
 ·have c1:=HB6.out.cell 1;have c2:=HB6.out.cell 2;have f2:=HB6.out.frozen 2;simp only [rdS,jta,jcz,jcs] at c1 c2
  have hsp:ybR s ch = if A < s.size then .error 4 else .ok ⟨noN s 1 0,noN s (hdA1 s) (hdE1 s),s.extract (hdA2 s) (hdA2 s + 20),s.extract (hdA2 s + 20) (hdA2 s + 40),cutB (bkL s) (bkC s) L⟩:=by
   rw [HGS.out,if_neg (by simpa using htx0),hget];rfl
  by_cases hAs:A < s.size
  ·have hce:ybR s ch = .error 4:=by rw [hsp,if_pos hAs]
   have e3:decide ((A:Int) < (s.size:Int)) = true:=decide_eq_true (by omega);have e3n:decide (A < s.size) = true:=decide_eq_true hAs;have HCE:=jh hce;clear hce hsp hAs htx0 hget hA hgl htx hok hst hb6 hg6 hC5 hL5 hb5;go_upto_region 13 with (fail)
   have hb7:Blk (w6.setCell ⟨r,2,none⟩ (.int .i64 4)) r 70 (rdS ch s A 4):=HB6.out.set_ 2 (.int .i64 4);have hb47:Blk (w6.setCell ⟨r,2,none⟩ (.int .i64 4)) b4 25 (spC SpV.none_ none 0 0):=HB4.out.far (p:=⟨r,2,none⟩) HR4.out _;have hg7:w.grownBy (w6.setCell ⟨r,2,none⟩ (.int .i64 4)) none:=yar HG4.out (p:=⟨r,2,none⟩) HRW.out _;clear c1 c2 f2 e3 e3n HB6 HB4 HG4 HQ;generalize w6.setCell ⟨r,2,none⟩ (.int .i64 4) = w7 at *;have c2:=hb7.cell 2;simp only [rdS,jta,jcz,jcs] at c2;have HBE:=jh hb7;have HB4:=jh hb47;have HG4:=jh hg7;clear hb7 hb47 hg7;go_upto_region 14 with (fail)
   refine jwh (S:=fun U=>Blk U r 70 (rdS ch s A 4)) (by kernel_rfl) ?_;change wpAnyH _ _ _ _ _ _ _ _ w7.drew;have hS0:Blk w7.drew r 70 (rdS ch s A 4):=HBE.out;have h40:Blk w7.drew b4 25 (spC SpV.none_ none 0 0):=HB4.out;have hg0:w.grownBy w7.drew none:=yau HG4.out;(try clear c1 c2);generalize w7.drew = u0 at *;refine cL 0 71 (.agg spZ) rfl (fun W hW=>by unfold spZ;go_simp <;> rfl) hS0 ?_;simp only [jp,jb,jz,js];refine cP r 1 72 0 rfl hS0 ?_;simp only [jp,jb,jz,js];refine cP r 2 73 0 rfl hS0 ?_;simp only [jp,jb,jz,js];refine cP r 3 74 0 rfl hS0 ?_;simp only [jp,jb,jz,js];refine cP r 4 75 2 rfl hS0 ?_;simp only [jp,jb,jz,js];refine cL 5 76 (.int .i64 4) rfl (fun W hW=>yaj 28 _ rfl _ rfl _ _ jc8 rfl ((Blk.cell hW 2).trans rfl)) hS0 ?_;simp only [jp,jb,jz,js];have hsr:u0.setCells b4 0 spZ.toList = u0.setRow b4 spZ:=(ya2 h40 0 _).trans (congrArg (u0.setRow b4) (by kernel_rfl));have hS1:Blk (u0.setRow b4 spZ) r 70 (rdS ch s A 4):=(jso u0 b4 r spZ (fun e=>HR4.out e.symm)).trans hS0;have h41:Blk (u0.setRow b4 spZ) b4 25 spZ:=yay h40;have hg1:=yaR hg0 HB4L.out spZ;refine yag (i:=6) (by kernel_rfl) ?_;refine ybo rfl rfl rfl (w':=u0.setRow b4 spZ) (by rw [<- hsr];exact yap 25 (.tmp 4) (.tmp 71) rfl b4 0 rfl _ rfl spZ rfl (ya8 h40 (by simp [spZ,spC])) (by kernel_rfl) (by simp [ja2,spZ])) hS1 ?_;(try simp only [jp,jb,jz,js]);generalize u0.setRow b4 spZ = u1 at *;refine cV 7 5 (.int .i64 4) rfl hS1 ?_;simp only [jp,jb,jz,js];refine jwd (by kernel_rfl) ?_ _;clear hS0 h40 hg0 hsr hS1;have H41:=jh h41;have HG1:=jh hg1;clear h41 hg1;go_wp2_with fail
   refine jbr (yaJ (fn:=Tryz.f17) rfl _ _ _ _ rfl (run_loadVar_row _ b4 25 25 spZ (0,0) _ H41.out ja3 rfl (by kernel_rfl))) rfl ?_;exact ⟨HG1.out,.inl ⟨4,by decide,HCE.out,rfl⟩⟩
  ·have hsp:ybR s ch = .ok ⟨noN s 1 0,noN s (hdA1 s) (hdE1 s),s.extract (hdA2 s) (hdA2 s + 20),s.extract (hdA2 s + 20) (hdA2 s + 40),cutB (bkL s) (bkC s) L⟩:=by rw [hsp,if_neg hAs]
   have e3:decide ((A:Int) < (s.size:Int)) = false:=decide_eq_false (by omega);have e3n:decide (A < s.size) = false:=decide_eq_false hAs;obtain ⟨hlen,hsum,h512,h16⟩:=ypa H1.out htx0
   have hLs:L.length = (bkC s).foldr (· + ·) 0:=by
    have:=(yet P4.out h512 hget).2.1;omega
   have hE3:bkE3 s = 0:=(kE_0 (show kE (bkE3 s) _ = 0 from htx0)).1
   have hEH:hdE s = 0:=by
    refine Decidable.byContradiction fun hc=>?_
    have hx:bkE1 s ≠ 0:=fun h0=>by
     obtain ⟨h0,_⟩:=kE_0 (show kE (kE (noE s (hdA s) (hdE s)) _) _ = 0 from h0);obtain ⟨h0,_⟩:=kE_0 h0;exact hc (yf2 h0).1
    have hx2:bkE2 s ≠ 0:=by unfold bkE2;rw [if_neg hx];exact hx
    have hx3:bkE3 s ≠ 0:=by unfold bkE3;rw [if_neg hx2];exact hx2
    exact hx3 hE3
   have hhd:hdC s = #[.int .u64 (noN s 1 0:Int),.int .u64 (noN s (hdA1 s) (hdE1 s):Int),.string (s.extract (hdA2 s) (hdA2 s + 20)),.string (s.extract (hdA2 s + 20) (hdA2 s + 40)),.slice none 0 0]:=by
    unfold hdC hdP hdH;rw [if_pos hEH,if_pos hEH]
   have hL6:=hL5 hE3;obtain ⟨AL,cl,rfl⟩:=yj8 hL6;obtain ⟨os,hos⟩:∃ x,bkL s = x:=⟨_,rfl⟩;obtain ⟨ks,hks⟩:∃ x,bkC s = x:=⟨_,rfl⟩;obtain ⟨N1,hN1⟩:∃ x,noN s 1 0 = x:=⟨_,rfl⟩;obtain ⟨N2,hN2⟩:∃ x,noN s (hdA1 s) (hdE1 s) = x:=⟨_,rfl⟩;obtain ⟨PS,hPS⟩:∃ x,s.extract (hdA2 s) (hdA2 s + 20) = x:=⟨_,rfl⟩;obtain ⟨HSH,hHSH⟩:∃ x,s.extract (hdA2 s + 20) (hdA2 s + 40) = x:=⟨_,rfl⟩;rw [hos,hks,hN1,hN2,hPS,hHSH] at hsp;rw [hN1,hN2,hPS,hHSH] at hhd;rw [hos,hks] at hlen;rw [hks] at hLs h16 hC5 hsum h512 ⊢;rw [hos] at hL6 ⊢;obtain ⟨N,hN⟩:∃ x,ks.length = x:=⟨_,rfl⟩;obtain ⟨TL,hTL⟩:∃ x,L.length = x:=⟨_,rfl⟩;have hq0:=HQ.out;rw [hhd] at hq0;rw [hlen] at hL6 ⊢;rw [hN] at hC5 hL6 h16 hlen ⊢;rw [hTL] at hLs htx hst ⊢;have HT9:=jh (show ks.foldr (· + ·) 0 <= 512 by omega);have HNN:=jh hN;have HTL:=jh hTL;have HSP:=jh hsp;have HLEN:=jh hlen;have HLS:=jh hLs;have H16:=jh h16;have HC5:=jh hC5;have HL6:=jh hL6;have HOK:=jh hok;have HST:=jh hst;have HG6:=jh hg6;have HB5:=jh hb5;have HQZ:=jh (jb6 HQ5.out hg6.size);have HB5L:=jh HB6.out.lt;have HQ0:=jh hq0;clear hN hTL hsp hlen hLs h16 hC5 hL6 hok hst htx hg6 hE3 hEH hhd hos hks hN1 hN2 hPS hHSH HQ hAs htx0 hget hA hgl hL5 hb6 hsum h512 hq0 hb5;go_upto_region 15 with (fail)
   clear c1 c2 f2 e3 e3n;go_wp2_with fail
   go_loopw [79,10] (fun i v wr=>∃ (k p:Nat) (A':Option Addr) (cq:Nat) (ds:List (Bool × Nat × Nat × Nat)),i = .int .i64 (k:Int) /\ k <= N /\ v = .slice (some ⟨g,p * 36,none⟩) (TL - offK ks k) (TL - offK ks k) /\ (0 < TL - offK ks k -> p = offK ks k) /\ CutI os ks k ds /\
    Blk wr q 25 #[.int .u64 (N1:Int),.int .u64 (N2:Int),.string PS,.string HSH,.slice A' k cq] /\ wr.ownsRow w6.heap.size 41 2 (.slice A' k cq) k (ptsL g ds) /\ w6.grownBy wr (some q)) (fun i _ _=>N - (intOf i).toNat)
   case atStart=>exact ⟨0,0,none,0,[],rfl,by omega,by rw [yp4,Nat.sub_zero,Nat.zero_mul],fun _=>rfl,CutI.zero _ _,HQ0.out,jon _ _ _ _,jr _ _⟩
   case round =>
    obtain ⟨k,p,A',cq,ds,rfl,hk,rfl,hp,hcut,hqb,hown,hg⟩:=hrel;by_cases hlt:k < N
    ·have hkl:k < ks.length:=by rw [HNN.out];exact hlt
     have hol:k < os.length:=by rw [HLEN.out];exact hlt
     obtain ⟨c,hc⟩:∃ x,ks.getD k 0 = x:=⟨_,rfl⟩;obtain ⟨ob,hob⟩:∃ x,os.getD k false = x:=⟨_,rfl⟩
     have hbl:∀ (t:TypeId),t ≠ 70 -> t ≠ 25 -> ∀ gg cs,Blk w5 gg t cs -> Blk wr gg t cs:=fun t t1 t2 gg cs hh=>by
      have hh6:Blk w6 gg t cs:=hh.grown HG6.out (fun e=>Blk.ne_ hh HB5.out t1 (ji e));exact hh6.grown hg (fun e=>Blk.ne_ hh6 HQ0.out t2 (ji e))
     have hx1:(((ks.map fun (x:Nat)=>(x:Int)).map (je3 .u64)))[k]? = some (.int .u64 (c:Int)):=by
      rw [jgm,jgm,je hkl,<- hc,jg,je hkl];rfl
     have hx2:(os.map jc7)[k]? = some (.bool ob):=by
      rw [jgm,je hol,<- hob,jg,je hol];rfl
     obtain ⟨gC,rfl,ccC,_⟩:=yoq HC5.out hlt hx1 (hbl _ (by decide) (by decide));obtain ⟨gL,rfl,ccL,hgL⟩:=yoq HL6.out hlt hx2 (hbl _ (by decide) (by decide));have q1:(k:Int) < (N:Int):=by omega
     have hsu:=yhV ks k hkl;have hle:=ylY ks (k + 1);rw [hc] at hsu;obtain ⟨m,hm⟩:∃ x,TL - offK ks k = x:=⟨_,rfl⟩;have hcm:c <= m:=by have:=HLS.out;omega
     have hms:m - c = TL - offK ks (k + 1):=by omega
     rw [hm] at hp ⊢
     have hbig:c < 18446744073709551616:=by
      have:=HTL.out;have:=HLS.out;have:=HT9.out;omega
     have HGL:=jh (jb6 hgL HG6.out.size);have HP:=jh hp;have HCUT:=jh hcut;have HMS:=jh hms;have HSU:=jh hsu;have HCM:=jh hcm;have HCK:=jh hc;have HOB:=jh hob;have HLT:=jh hlt;have HQB:=jh hqb;have HOWN:=jh hown;have HGR:=jh hg;clear hp hcut hms hsu hcm hc hob hlt hqb hown hg hbl hx1 hx2 hkl hol hle hm hbig hk hgL;go_upto_region 18 with (fail)
     clear ccC;refine ybW 13 (fun b V=>b = false -> V.cell? ⟨q,4,none⟩ = some (.slice A' k cq) /\ V.cell? ⟨gL,k,none⟩ = some (.bool ob)) (by kernel_rfl) ?_;have hqd:Blk wr.drew q 25 #[.int .u64 (N1:Int),.int .u64 (N2:Int),.string PS,.string HSH,.slice A' k cq]:=HQB.out;have hod:wr.drew.ownsRow w6.heap.size 41 2 (.slice A' k cq) k (ptsL g ds):=HOWN.out;have hgd:w6.grownBy wr.drew (some q):=yau HGR.out;have hcl:wr.drew.cell? ⟨gL,k,none⟩ = some (.bool ob):=ccL;clear HQB HOWN HGR ccL;generalize wr.drew = u0 at *;have hS0:false = false -> u0.cell? ⟨q,4,none⟩ = some (.slice A' k cq) /\ u0.cell? ⟨gL,k,none⟩ = some (.bool ob):=fun _=>⟨hqd.cell 4,hcl⟩;refine zf 0 (.pointer (some ⟨q,4,none⟩)) (some 84) rfl (fun W hW=>by go_simp) hS0 ?_;simp only [jp,jb,jz,js];refine zf 1 (.slice A' k cq) (some 85) rfl (fun W hW=>yaj 23 (.tmp 84) rfl _ rfl _ _ Tryz.underlying23 rfl (hW rfl).1) hS0 ?_;simp only [jp,jb,jz,js];refine zf 2 (.slice (some ⟨gL,0,none⟩) N cl) (some 86) rfl (fun W hW=>yaq (.tmp 8) rfl _ rfl) hS0 ?_;simp only [jp,jb,jz,js];refine zf 3 (.int .i64 (k:Int)) (some 87) rfl (fun W hW=>yaq (.tmp 11) rfl _ rfl) hS0 ?_;simp only [jp,jb,jz,js];refine zf 4 (.pointer (some ⟨gL,k,none⟩)) (some 88) rfl (fun W hW=>by go_simp) hS0 ?_;simp only [jp,jb,jz,js];refine zf 5 (.bool ob) (some 89) rfl (fun W hW=>yaj 4 (.tmp 88) rfl _ rfl _ _ Tryz.underlying4 rfl (hW rfl).2) hS0 ?_;simp only [jp,jb,jz,js];refine zf 6 (.slice (some ⟨g,p * 36,none⟩) m m) (some 90) rfl (fun W hW=>yaq (.tmp 10) rfl _ rfl) hS0 ?_;simp only [jp,jb,jz,js];refine zf 7 (.int .u64 (c:Int)) (some 91) rfl (fun W hW=>yaq (.tmp 12) rfl _ rfl) hS0 ?_;simp only [jp,jb,jz,js];refine zf 8 (.slice (some ⟨g,p * 36,none⟩) c m) (some 92) rfl (fun W hW=>ykN (.tmp 90) (.tmp 91) rfl rfl rfl HCM.out) hS0 ?_;simp only [jp,jb,jz,js];refine zf 9 (.agg #[.bool ob,.slice (some ⟨g,p * 36,none⟩) c m]) (some 93) rfl (fun W hW=>by go_simp <;> rfl) hS0 ?_;simp only [jp,jb,jz,js];have hga:=yaa (jr u0 none) (.cells #[.bool ob,.slice (some ⟨g,p * 36,none⟩) c m] 41);have hq1:=hqd.grown hga (by simp);have ho1:(u0.alloc (.cells #[.bool ob,.slice (some ⟨g,p * 36,none⟩) c m] 41)).ownsRow w6.heap.size 41 2 (.slice A' k cq) k (ptsL g ds):=yf0 hod fun x _ hx=>hga.block x hx (by simp);have hg1:=yab hgd hga (by simp);have hcl1:=hga.cell hcl (by simp);refine ybA (i:=10) (by kernel_rfl) ?_;refine ybs (some 94) rfl rfl (.slice (some ⟨u0.heap.size,0,none⟩) 1 1) (w':=u0.alloc (.cells #[.bool ob,.slice (some ⟨g,p * 36,none⟩) c m] 41)) (by go_simp <;> rfl) rfl false (by kernel_rfl) (fun _=>⟨hq1.cell 4,hcl1⟩) ?_;simp only [jp,jb,jz,js];obtain ⟨i0,hi,hz0,hz1,hz2⟩:=info_parts ypA;have h16:=H16.out;have hltN:=HLT.out;obtain ⟨v',u2,hrun,hown',hgrow,hiff,hobk⟩:=jra (P:=jq) (u0.alloc (.cells #[.bool ob,.slice (some ⟨g,p * 36,none⟩) c m] 41)) w6.heap.size 23 23 41 i0 _ 2 32 Tryz.underlying23 hi hz0 hz1 hz2 rfl (by decide) (.slice A' k cq) k (ptsL g ds) ho1 ⟨u0.heap.size,0,none⟩ 1 1 [.bool ob,.slice (some ⟨g,p * 36,none⟩) c m] rfl (yc5 _ [.bool ob,.slice (some ⟨g,p * 36,none⟩) c m] _) (by simp [ja2]) (by simp only [maxLen];omega) (by omega) (by have:=hgd.size;simp;omega);obtain ⟨g',cap',rfl⟩:=ownsRow_succ hown';have hne:∀ x,(ja6 A' k cq).ownBlock = some x -> w6.heap.size <= x:=fun x hx=>yal ho1 hx;have hcl2:u2.cell? ⟨gL,k,none⟩ = some (.bool ob):=hgrow.cell hcl1 (fun e=>by have h9:=hne gL e.symm;have:=HGL.out;omega);have hq2:=hq1.grown hgrow (fun e=>by have:=hne _ e.symm;have:=HQZ.out;omega);have hg2:=yab hg1 hgrow (fun x hx=>.inr (hne x hx));refine ybA (i:=11) (by kernel_rfl) ?_;refine ybs (some 95) rfl rfl (.slice (some ⟨g',0,none⟩) (k + 1) cap') (yaw (.tmp 85) (.tmp 94) 23 rfl _ _ _ rfl rfl hrun) rfl false (by kernel_rfl) (fun _=>⟨hq2.cell 4,hcl2⟩) ?_;simp only [jp,jb,jz,js];have hq3:Blk (u2.setCell ⟨q,4,none⟩ (.slice (some ⟨g',0,none⟩) (k + 1) cap')) q 25 #[.int .u64 (N1:Int),.int .u64 (N2:Int),.string PS,.string HSH,.slice (some ⟨g',0,none⟩) (k + 1) cap']:=hq2.set_ 4 _
     have ho3:(u2.setCell ⟨q,4,none⟩ (.slice (some ⟨g',0,none⟩) (k + 1) cap')).ownsRow w6.heap.size 41 2 (.slice (some ⟨g',0,none⟩) (k + 1) cap') (k + 1) (ptsL g (ds ++ [(ob,p,c,m)])):=by
      rw [ylK];exact yf0 hown' fun x hx _=>jhs u2 ⟨q,4,none⟩ _ x (by have:=HQZ.out;show x ≠ q;omega)
     have hg3:w6.grownBy (u2.setCell ⟨q,4,none⟩ (.slice (some ⟨g',0,none⟩) (k + 1) cap')) (some q):=ya9 hg2 4 _;refine ybA (i:=12) (by kernel_rfl) ?_;refine ybs (some 96) rfl rfl (.pointer (some ⟨q,4,none⟩)) (by go_simp <;> rfl) rfl false (by kernel_rfl) (fun _=>⟨hq2.cell 4,hcl2⟩) ?_;simp only [jp,jb,jz,js];refine ybA (i:=13) (by kernel_rfl) ?_;refine ygA rfl rfl rfl (w':=u2.setCell ⟨q,4,none⟩ (.slice (some ⟨g',0,none⟩) (k + 1) cap')) (yap 23 (.tmp 96) (.tmp 95) rfl q 4 rfl _ rfl #[.slice (some ⟨g',0,none⟩) (k + 1) cap'] rfl (ya8 hq2 (by simp)) (by kernel_rfl) (by simp [ja2])) true (by kernel_rfl) (fun e=>by cases e) ?_;(try simp only [jp,jb,jz,js]);refine ygB (by kernel_rfl) ?_ _;have HQ3:=jh hq3;have HO3:=jh ho3;have HG3:=jh hg3;clear hqd hod hgd hcl hS0 hga hq1 ho1 hg1 hcl1 hi hz0 hz1 hz2 hrun hown' hgrow hiff hobk hne hq2 hg2 hcl2 hq3 ho3 hg3;generalize u2.setCell ⟨q,4,none⟩ (.slice (some ⟨g',0,none⟩) (k + 1) cap') = u3 at *;go_upto_region 19 with (fail)
     refine jwl ?_;refine zm 10 (.slice (some ⟨g,p * 36,none⟩) m m) rfl ?_;refine zm 12 (.int .u64 (c:Int)) rfl ?_;simp only [jp,jb,jz,js];obtain ⟨p',hrun2,hpp⟩:∃ p',(∀ (a:Act) (oo:Oper) (W:World) (x y:Operand),oo.op = .slice 39 x (some y) none none -> a.eval x = .slice (some ⟨g,p * 36,none⟩) m m -> a.eval y = .int .u64 (c:Int) -> (execOp a.eval oo).run jq W = .ok (.value (.slice (some ⟨g,p' * 36,none⟩) (m - c) (m - c))) W) /\ (0 < m - c -> p' = p + c):=⟨if m = c then p else p + c,fun a oo W x y h1 h2 h3=>ykM x y h1 h2 h3 HCM.out,fun h=>if_neg (by omega)⟩;refine yac rfl (.slice (some ⟨g,p' * 36,none⟩) (m - c) (m - c)) (hrun2 _ _ _ (.tmp 97) (.tmp 98) rfl rfl rfl) ?_;simp only [jp,jb,jz,js];refine zg (.slice (some ⟨g,p' * 36,none⟩) (m - c) (m - c)) ?_;simp only [jp,jb,jz,js];refine jwn ?_;clear hrun2;have HPP:=jh hpp;clear hpp;obtain ⟨m2,hm2⟩:∃ x,m - c = x:=⟨_,rfl⟩;have HM2:=jh hm2;rw [hm2] at ⊢;clear hm2;go_wp2_with fail
     go_roundw
     case rel =>
      have h1:=HM2.out;have h2:=HMS.out;have h3:=HSU.out;have h4:=HP.out;have h5:=HPP.out;have h6:=HCM.out;exact ⟨k + 1,p',_,_,_,by go_num,by have:=HLT.out;omega,by rw [<- h2,h1],fun h=>by rw [h5 (by omega),h4 (by omega),h3],HCUT.out.step HOB.out HCK.out (fun h=>h4 (by omega)),HQ3.out,HO3.out,HG3.out⟩
     case measure=>have:=HLT.out;simp [intOf];omega
    ·have hkn:k = N:=by omega
     have hb9:Blk wr b4 25 (spC SpV.none_ none 0 0):=HB4.out.grown hg (fun e=>HQ4.out (ji e));subst hkn;have q8:¬ ((k:Int) < (k:Int)):=by omega
     go_upto_region 21 with (fail)
     refine jwl ?_;refine wpList_load_row rfl 25 (.tmp 7) rfl q rfl 25 #[.int .u64 (N1:Int),.int .u64 (N2:Int),.string PS,.string HSH,.slice A' k cq] (0,0) _ hqb ja3 rfl (by kernel_rfl) ?_;simp only [jp,jb,jz,js];refine jsw rfl 25 (.tmp 4) (.tmp 101) rfl b4 #[.int .u64 (N1:Int),.int .u64 (N2:Int),.string PS,.string HSH,.slice A' k cq] rfl rfl 25 (spC SpV.none_ none 0 0) hb9 (by kernel_rfl) rfl (by simp [ja2]) ?_;(try simp only [jp,jb,jz,js]);have hb4l:b4 < w5.heap.size:=HQ4L.out
     have hst9:TxsR (wr.setRow b4 #[.int .u64 (N1:Int),.int .u64 (N2:Int),.string PS,.string HSH,.slice A' k cq]).heap.size (wr.setRow b4 #[.int .u64 (N1:Int),.int .u64 (N2:Int),.string PS,.string HSH,.slice A' k cq]) L (some ⟨g,0,none⟩) TL :=
      HST.out _ (by simpa using hg.size) fun p v hp hv=>yaM (by omega) (hg.cell hv (fun e=>by have:=ji e;have:=HQ5.out;omega))
     have ho9:(wr.setRow b4 #[.int .u64 (N1:Int),.int .u64 (N2:Int),.string PS,.string HSH,.slice A' k cq]).ownsRow w6.heap.size 41 2 (.slice A' k cq) k (ptsL g ds):=yf0 hown fun x hx _=>jso wr b4 x _ (by have:=HG6.out.size;omega);have hbr:Blk (wr.setRow b4 #[.int .u64 (N1:Int),.int .u64 (N2:Int),.string PS,.string HSH,.slice A' k cq]) b4 25 #[.int .u64 (N1:Int),.int .u64 (N2:Int),.string PS,.string HSH,.slice A' k cq]:=yay hb9;have hg9:w.grownBy (wr.setRow b4 #[.int .u64 (N1:Int),.int .u64 (N2:Int),.string PS,.string HSH,.slice A' k cq]) none:=yaR (yab HG4.out hg (fun x hx=>.inr (by have:=ji hx;have:=HQW.out;omega))) HB4L.out _;generalize wr.setRow b4 #[.int .u64 (N1:Int),.int .u64 (N2:Int),.string PS,.string HSH,.slice A' k cq] = w9 at *;have hbks:=yoY hcut HNN.out.symm (HLEN.out.trans HNN.out.symm) (by rw [HTL.out];exact HLS.out) (by rw [HTL.out];exact hst9) ho9;have hfl:=(yew os ks L (HLEN.out.trans HNN.out.symm) (by rw [HTL.out];exact HLS.out)).2.2.1;have HBR:=jh hbr;have HG9:=jh hg9;have HBKS:=jh hbks;have HFL:=jh hfl;clear hb9 hb4l hst9 ho9 hbr hg9 hbks hfl hqb hown hg hcut hp hlt q8;refine zg (.int .i64 0) ?_;simp only [jp,jb,jz,js];refine jwn ?_;go_wp2_with fail
     refine jbr (yaJ (fn:=Tryz.f17) rfl _ _ _ _ rfl (run_loadVar_row _ b4 25 25 #[.int .u64 (N1:Int),.int .u64 (N2:Int),.string PS,.string HSH,.slice A' k cq] (0,0) _ HBR.out ja3 rfl (by kernel_rfl))) rfl ?_;refine ⟨HG9.out,.inr ⟨_,A',k,cq,HSP.out,rfl,HBKS.out,fun b hb t ht=>HOK.out t ?_⟩⟩;rw [<- HFL.out];exact List.mem_flatMap.2 ⟨b,hb,ht⟩
theorem TxsR.at2 {B:Nat} {W:World} {ls:List TxV} {A:Option Addr} {n k:Nat} (h:TxsR B W ls A n) (hk:k < n):∃ g off x,A = some ⟨g,off,none⟩ /\ ls.getD k TxV.zero = x /\ x ∈ ls /\ ∃ pa xa pb xb,W.rangeAt g (off + k * 36) (txL x (.slice pa x.acc.length xa) (.slice pb x.auths.length xb)) /\ TxIn B W x (.slice pa x.acc.length xa) (.slice pb x.auths.length xb):=by
 obtain ⟨g,off,sa,sb,x,rfl,hx,mx,hcx,hin⟩:=h.at_ hk;obtain ⟨⟨pa,xa,rfl,hacc⟩,⟨pb,xb,rfl,haut⟩,la,lb⟩:=id hin;exact ⟨g,off,x,rfl,hx,mx,pa,xa,pb,xb,hcx,hin⟩
theorem ylr (B B':Nat) (A A':Option Addr) (n m c d:Nat) (xs ys:List TxV) (w:World) (h:TxsR B w xs A n) (h':TxsR B' w ys A' m) (hB:B <= w.heap.size) (hB':B' <= w.heap.size) (hn:n <= 9223372036854775807) (hm:m <= 9223372036854775807) (ox:∀ x ∈ xs,x.Ok) (oy:∀ y ∈ ys,y.Ok) :
  Calls jq 34 #[.slice A n c,.slice A' m d,.func (.func 35) #[] #[]] w fun e w'=>e = .returned (.bool (decide (xs = ys))) /\ w.grownBy w' none:=by
 have hl:=h.1;have hl':=h'.1;by_cases hnm:n = m
 ·subst hnm;have HL:=jh hl;have HL':=jh hl';have HH:=jh h;have HH':=jh h';have HB:=jh hB;have HB':=jh hB';have HOX:=jh ox;have HOY:=jh oy;have qe:((n:Int) != (n:Int)) = false:=by simp
  clear hl hl' h h' hB hB' ox oy;go_enter Tryz.func34,Tryz.ntmps34
  go_wp2_with fail
  clear qe;go_loopw [17] (fun i wr=>∃ k:Nat,i = .int .i64 k /\ k <= n /\ w.grownBy wr none /\ Hid (∀ i:Nat,i < k -> xs.getD i TxV.zero = ys.getD i TxV.zero)) (fun i _=>n - (intOf i).toNat)
  case atStart=>exact ⟨0,rfl,by omega,jr _ _,jh (by intro i h1;omega)⟩
  case round =>
   obtain ⟨k,rfl,hk,hg,h2⟩:=hrel;have h2':=jh h2.out;have HGG:=jh hg;by_cases hlt:k < n
   ·obtain ⟨g,off,x,rfl,hx,mx,pa,xa,pb,xb,hcx,hin⟩:=(HH.out.grown hg HB.out).at2 hlt;obtain ⟨g',off',y,rfl,hy,my,pa',xa',pb',xb',hcy,hin'⟩:=(HH'.out.grown hg HB'.out).at2 hlt;have q1:(k:Int) < (n:Int):=by omega
    have q2:(0:Int) <= (k:Int):=by omega
    have HX:=jh hx;have HY:=jh hy;have HCX:=jh hcx;have HCY:=jh hcy;have hB2:=jlt HB.out hg.size;have hB2':=jlt HB'.out hg.size;have HCALL:=jh (fun (V:World) (hV:wr.grownBy V none)=>yfn x y B B' _ _ _ _ V (hin.grown hV hB2) (hin'.grown hV hB2') (jlt hB2 hV.size) (jlt hB2' hV.size) (HOX.out x mx) (HOY.out y my));obtain ⟨r,hr⟩:∃ r,decide (x = y) = r:=⟨_,rfl⟩;rw [hr] at HCALL;have HRR:=jh hr;have HON:=jh (ydO x pa pb x.acc.length xa x.auths.length xb);have HON':=jh (ydO y pa' pb' y.acc.length xa' y.auths.length xb');have HSZ:=jh (show (txC x (.slice pa x.acc.length xa) (.slice pb x.auths.length xb)).size = 36 from rfl);have HSZ':=jh (show (txC y (.slice pa' y.acc.length xa') (.slice pb' y.auths.length xb')).size = 36 from rfl);clear h2 hx hy hr hg hin hin' mx my hB2 hB2' hcx hcy;go_upto_region 5 with (fail)
    refine jwl ?_
    repeat (first | refine wpList_load_mid rfl 49 (.tmp 20) rfl g (off + k * 36) rfl (txL x (.slice pa x.acc.length xa) (.slice pb x.auths.length xb)) _ HCX.out ja5 rfl (by kernel_rfl) (ydn ?_) | go_step)
    refine ⟨?_⟩;clear HCX;rw [show (txL x (.slice pa x.acc.length xa) (.slice pb x.auths.length xb)).toArray = txC x (.slice pa x.acc.length xa) (.slice pb x.auths.length xb) from rfl];generalize txC x (.slice pa x.acc.length xa) (.slice pb x.auths.length xb) = ct at *;have hga:=yaa (jr wr none) (.cells ct 49);have hbk:=Blk.new wr 49 ct;have HCY:=jh (ycY HCY.out hga);simp only [jp,jb,jz,js]
    repeat (first | refine jsw rfl 49 (.tmp 8) (.tmp 21) rfl wr.heap.size ct rfl rfl 49 txZ (Blk.new wr _ txZ) ((show (jq.info? 49).map (·.size) = some 36 by kernel_rfl).trans (congrArg some HSZ.out.symm)) (by rw [HSZ.out];rfl) HON.out (ydn ?_) | go_step)
    refine ⟨?_⟩;refine jwn ?_;rw [World.setRow_alloc_new];obtain ⟨g6,hg6⟩:∃ g,wr.heap.size = g:=⟨_,rfl⟩;rw [hg6] at hbk ⊢;clear hg6;have HGA:=jh hga;generalize wr.alloc (.cells ct 49) = w5 at *;have HBK:=jh hbk;clear hga hbk HON;go_upto_region 6 with (fail)
    refine jwl ?_
    repeat (first | refine wpList_load_mid rfl 49 (.tmp 24) rfl g' (off' + k * 36) rfl (txL y (.slice pa' y.acc.length xa') (.slice pb' y.auths.length xb')) _ HCY.out ja5 rfl (by kernel_rfl) (ydn ?_) | go_step)
    refine ⟨?_⟩;clear HCY;rw [show (txL y (.slice pa' y.acc.length xa') (.slice pb' y.auths.length xb')).toArray = txC y (.slice pa' y.acc.length xa') (.slice pb' y.auths.length xb') from rfl];generalize txC y (.slice pa' y.acc.length xa') (.slice pb' y.auths.length xb') = cu at *;have hgb:=yaa (jr w5 none) (.cells cu 49);have hbk:=Blk.new w5 49 cu;have HBK:=jh (HBK.out.grown hgb (by simp));simp only [jp,jb,jz,js]
    repeat (first | refine jsw rfl 49 (.tmp 9) (.tmp 25) rfl w5.heap.size cu rfl rfl 49 txZ (Blk.new w5 _ txZ) ((show (jq.info? 49).map (·.size) = some 36 by kernel_rfl).trans (congrArg some HSZ'.out.symm)) (by rw [HSZ'.out];rfl) HON'.out (ydn ?_) | go_step)
    refine ⟨?_⟩;refine jwn ?_;rw [World.setRow_alloc_new];obtain ⟨g7,hg7⟩:∃ g,w5.heap.size = g:=⟨_,rfl⟩;rw [hg7] at hbk ⊢;clear hg7;have HGB:=jh (yab HGA.out hgb (by simp));have HCALL2:=jh (HCALL.out _ HGB.out);generalize w5.alloc (.cells cu 49) = w6 at *;have HBK':=jh hbk;clear hgb hbk HON' HGA HCALL;go_upto_region 7 with (fail)
    refine jwl ?_;refine zm 2 (.func (.func 35) #[] #[]) rfl ?_;simp only [jp,jb,jz,js];refine yac rfl (.agg ct) (yai rfl rfl 49 ct _ HBK.out ja5 rfl ((show (jq.info? 49).map (·.size) = some 36 by kernel_rfl).trans (congrArg some HSZ.out.symm))) ?_;simp only [jp,jb,jz,js];refine yac rfl (.agg cu) (yai rfl rfl 49 cu _ HBK'.out ja5 rfl ((show (jq.info? 49).map (·.size) = some 36 by kernel_rfl).trans (congrArg some HSZ'.out.symm))) ?_;simp only [jp,jb,jz,js];go_wp2_with fail
    refine HCALL2.out.mono ?_;rintro e w7 ⟨rfl,hg7⟩;have HG2:=jh (yab (yab HGG.out HGB.out (by simp)) hg7 (by simp));clear hg7 HCALL2 HGB HBK HBK';cases r with
    | true =>
     go_wp2_with fail
     refine ⟨⟨k + 1,by go_num,by omega,HG2.out,jh fun i hi=>?_⟩,by simp [intOf];omega⟩;by_cases hik:i = k
     ·rw [hik,HX.out,HY.out];exact of_decide_eq_true HRR.out
     ·exact h2'.out i (by omega)
    | false =>
     go_wp2_with fail
     go_ret
     refine ⟨?_,HG2.out⟩;rw [show decide (xs = ys) = false from decide_eq_false (fun e=>of_decide_eq_false HRR.out (by rw [<- HX.out,<- HY.out,e]))];rfl
   ·have he:xs = ys:=yeh TxV.zero (by rw [HL.out,HL'.out]) fun i hi=>h2'.out i (by have:=HL.out;omega);have HE:=jh he;have q0:(n:Int) <= (k:Int):=by omega
    clear he h2 hg;go_wp2_with fail
    go_ret
    exact ⟨by rw [decide_eq_true HE.out];rfl,HGG.out⟩
 ·have hne:¬ xs = ys:=by rintro rfl;exact hnm (hl.symm.trans hl')
  have HE:=jh hne;have hb:((n:Int) != (m:Int)) = true:=by simp;omega
  clear hne hnm hl hl' h h' hB hB';go_enter Tryz.func34,Tryz.ntmps34
  go_wp2_with fail
  go_ret
  exact ⟨by rw [decide_eq_false HE.out];rfl,jr _ _⟩
theorem BksR.at_ {B:Nat} {W:World} {bs:List BkV} {A:Option Addr} {n k:Nat} (h:BksR B W bs A n) (hk:k < n):∃ g off x T tc,A = some ⟨g,off,none⟩ /\ bs.getD k BkV.none_ = x /\ x ∈ bs /\ W.cell? ⟨g,off + k * 2,none⟩ = some (.bool x.origin) /\ W.cell? ⟨g,off + k * 2 + 1,none⟩ = some (.slice T x.txs.length tc) /\ TxsR B W x.txs T x.txs.length:=by
 obtain ⟨g,off,hA,_,hc⟩:=h.2 (by omega);obtain ⟨T,m,tc,a,b,c⟩:=hc k hk;have e:=c.1;rw [<- e] at b c;refine ⟨g,off,_,T,tc,hA,rfl,?_,a,b,c⟩;rw [jg,je (by rw [h.1];exact hk)];exact jc1 _
theorem yli (x y:BkV) (B B':Nat) (T T':Option Addr) (tc tc':Nat) (w:World) (h:TxsR B w x.txs T x.txs.length) (h':TxsR B' w y.txs T' y.txs.length) (hB:B <= w.heap.size) (hB':B' <= w.heap.size) (hn:x.txs.length <= 9223372036854775807) (hm:y.txs.length <= 9223372036854775807) (ox:∀ t ∈ x.txs,t.Ok) (oy:∀ t ∈ y.txs,t.Ok) :
  Calls jq 33 #[.agg #[.bool x.origin,.slice T x.txs.length tc],.agg #[.bool y.origin,.slice T' y.txs.length tc']] w fun e w'=>e = .returned (.bool (decide (x = y))) /\ w.grownBy w' none:=by
 have hG:=yaa (yaa (jr w none) (.cells #[.bool x.origin,.slice T x.txs.length tc] 41)) (.cells #[.bool y.origin,.slice T' y.txs.length tc'] 41);have hb1:=(Blk.new w 41 #[.bool x.origin,.slice T x.txs.length tc]).alloc (.cells #[.bool y.origin,.slice T' y.txs.length tc'] 41);have hb2:=Blk.new (w.alloc (.cells #[.bool x.origin,.slice T x.txs.length tc] 41)) 41 #[.bool y.origin,.slice T' y.txs.length tc'];rw [jsa] at hb2;have hR:=h.grown hG hB;have hR':=h'.grown hG hB';have hS:=jlt hB hG.size;have hS':=jlt hB' hG.size;obtain ⟨xa,xk⟩:=x;obtain ⟨ya,yk⟩:=y;dsimp only at *;have hE:decide (BkV.mk xa xk = BkV.mk ya yk) = (decide (xa = ya) && decide (xk = yk)):=by simp
 rw [hE];obtain ⟨s,hs⟩:∃ s,decide (xk = yk) = s:=⟨_,rfl⟩;rw [hs];have HSS:=jh hs;have HC:=jh (fun V a b c d=>ylr B B' T T' xk.length yk.length tc tc' xk yk V a b c d hn hm ox oy);rw [hs] at HC;clear hs;generalize xk.length = n at *;generalize yk.length = m at *;have HR:=jh hR;have HR':=jh hR';have HG:=jh hG;have HS:=jh hS;have HS':=jh hS';clear h h' hB hB' hR hR' hG hE hn hm hS hS' ox oy;go_enter Tryz.func33,Tryz.ntmps33
 go_upto_region 1 with (fail)
 obtain ⟨g,hg⟩:∃ g,w.heap.size = g:=⟨_,rfl⟩;rw [hg] at hb1 hb2 ⊢;clear hg;generalize (w.alloc (.cells #[.bool xa,.slice T n tc] 41)).alloc (.cells #[.bool ya,.slice T' m tc'] 41) = w1 at *;have c0:=hb1.cell 0;have c1:=hb1.cell 1;have d0:=hb2.cell 0;have d1:=hb2.cell 1;simp only [jta,jcz,jcs] at c0 c1 d0 d1;clear hb1 hb2;by_cases ha:xa = ya
 ·subst ha;have q:(xa == xa) = true:=by simp
  go_wp2_with fail
  refine (HC.out _ HR.out HR'.out HS.out HS'.out).mono ?_;rintro e w2 ⟨rfl,hg⟩;have HG:=jh (yab HG.out hg (by simp));clear c0 c1 d0 d1 hg q HSS;go_wp2_with fail
  go_ret
  exact ⟨by simp,HG.out⟩
 ·have q:(xa == ya) = false:=by simpa using ha
  have HA:=jh (decide_eq_false ha);clear ha;go_wp2_with fail
  go_ret
  exact ⟨by rw [HA.out];rfl,HG.out⟩
theorem ymM (B B':Nat) (A A':Option Addr) (n m c d:Nat) (xs ys:List BkV) (w:World) (h:BksR B w xs A n) (h':BksR B' w ys A' m) (hB:B <= w.heap.size) (hB':B' <= w.heap.size) (hn:n <= 9223372036854775807) (hm:m <= 9223372036854775807) (lx:∀ b ∈ xs,b.txs.length <= 9223372036854775807) (ly:∀ b ∈ ys,b.txs.length <= 9223372036854775807) (ox:∀ b ∈ xs,∀ t ∈ b.txs,t.Ok) (oy:∀ b ∈ ys,∀ t ∈ b.txs,t.Ok) :
  Calls jq 36 #[.slice A n c,.slice A' m d,.func (.func 33) #[] #[]] w fun e w'=>e = .returned (.bool (decide (xs = ys))) /\ w.grownBy w' none:=by
 have hl:=h.1;have hl':=h'.1;by_cases hnm:n = m
 ·subst hnm;have HL:=jh hl;have HL':=jh hl';have HH:=jh h;have HH':=jh h';have HB:=jh hB;have HB':=jh hB';have HO:=jh lx;have HO':=jh ly;have HOX:=jh ox;have HOY:=jh oy;have qe:((n:Int) != (n:Int)) = false:=by simp
  clear hl hl' h h' hB hB' lx ly ox oy;go_enter Tryz.func36,Tryz.ntmps36
  go_wp2_with fail
  clear qe;go_loopw [17] (fun i wr=>∃ k:Nat,i = .int .i64 k /\ k <= n /\ w.grownBy wr none /\ Hid (∀ i:Nat,i < k -> xs.getD i BkV.none_ = ys.getD i BkV.none_)) (fun i _=>n - (intOf i).toNat)
  case atStart=>exact ⟨0,rfl,by omega,jr _ _,jh (by intro i h1;omega)⟩
  case round =>
   obtain ⟨k,rfl,hk,hg,h2⟩:=hrel;have h2':=jh h2.out;have HGG:=jh hg;by_cases hlt:k < n
   ·obtain ⟨g,off,x,T,tc,rfl,hx,mx,c0,c1,hT⟩:=(HH.out.grown hg HB.out).at_ hlt;obtain ⟨g',off',y,T',tc',rfl,hy,my,d0,d1,hT'⟩:=(HH'.out.grown hg HB'.out).at_ hlt;have q1:(k:Int) < (n:Int):=by omega
    have HX:=jh hx;have HY:=jh hy;have HCALL:=jh (fun (V:World) (hV:wr.grownBy V none)=>yli x y B B' T T' tc tc' V (hT.grown hV (jlt HB.out hg.size)) (hT'.grown hV (jlt HB'.out hg.size)) (jlt (jlt HB.out hg.size) hV.size) (jlt (jlt HB'.out hg.size) hV.size) (HO.out x mx) (HO'.out y my) (HOX.out x mx) (HOY.out y my));clear h2 hx hy hT hT' mx my;obtain ⟨r,hr⟩:∃ r,decide (x = y) = r:=⟨_,rfl⟩;rw [hr] at HCALL;have HRR:=jh hr;clear hr;have hGa:=yaa (jr wr none) (.cells #[.bool x.origin,.slice T x.txs.length tc] 41);have hGb:=yaa hGa (.cells #[.bool y.origin,.slice T' y.txs.length tc'] 41);have d0':=hGa.cell d0 (fun h=>by cases h);have d1':=hGa.cell d1 (fun h=>by cases h);go_wp2_with fail
    refine (HCALL.out _ hGb).mono ?_;rintro e w2 ⟨rfl,hg2⟩;have HG2:=jh (yab (yab HGG.out hGb (by simp)) hg2 (by simp));clear c0 c1 d0 d1 hg2 HCALL hGa hGb d0' d1' hg;cases r with
    | true =>
     go_wp2_with fail
     refine ⟨⟨k + 1,by go_num,by omega,HG2.out,jh fun i hi=>?_⟩,by simp [intOf];omega⟩;by_cases hik:i = k
     ·rw [hik,HX.out,HY.out];exact of_decide_eq_true HRR.out
     ·exact h2'.out i (by omega)
    | false =>
     go_wp2_with fail
     go_ret
     refine ⟨?_,HG2.out⟩;rw [show decide (xs = ys) = false from decide_eq_false (fun e=>of_decide_eq_false HRR.out (by rw [<- HX.out,<- HY.out,e]))];rfl
   ·have he:xs = ys:=yeh BkV.none_ (by rw [HL.out,HL'.out]) fun i hi=>h2'.out i (by have:=HL.out;omega);have HE:=jh he;have q0:(n:Int) <= (k:Int):=by omega
    clear he h2 hg;go_wp2_with fail
    go_ret
    exact ⟨by rw [decide_eq_true HE.out];rfl,HGG.out⟩
 ·have hne:¬ xs = ys:=by rintro rfl;exact hnm (hl.symm.trans hl')
  have HE:=jh hne;have hb:((n:Int) != (m:Int)) = true:=by simp;omega
  clear hne hnm hl hl' h h' hB hB';go_enter Tryz.func36,Tryz.ntmps36
  go_wp2_with fail
  go_ret
  exact ⟨by rw [decide_eq_false HE.out];rfl,jr _ _⟩
theorem ycL (x y:SpV) (B B':Nat) (A A':Option Addr) (n m c d:Nat) (w:World) (h:BksR B w x.blocks A n) (h':BksR B' w y.blocks A' m) (hB:B <= w.heap.size) (hB':B' <= w.heap.size) (hn:n <= 9223372036854775807) (hm:m <= 9223372036854775807) (lx:∀ b ∈ x.blocks,b.txs.length <= 9223372036854775807) (ly:∀ b ∈ y.blocks,b.txs.length <= 9223372036854775807) (ox:∀ b ∈ x.blocks,∀ t ∈ b.txs,t.Ok) (oy:∀ b ∈ y.blocks,∀ t ∈ b.txs,t.Ok) :
  Calls jq 16 #[.agg (spC x A n c),.agg (spC y A' m d)] w fun e w'=>e = .returned (.bool (decide (x = y))) /\ w.grownBy w' none:=by
 have hG:=yaa (yaa (jr w none) (.cells (spC x A n c) 25)) (.cells (spC y A' m d) 25);have hb1:=(Blk.new w 25 (spC x A n c)).alloc (.cells (spC y A' m d) 25);have hb2:=Blk.new (w.alloc (.cells (spC x A n c) 25)) 25 (spC y A' m d);rw [jsa] at hb2;have hR:=h.grown hG hB;have hR':=h'.grown hG hB';have hS:=jlt hB hG.size;have hS':=jlt hB' hG.size;obtain ⟨xt,xe,xp,xh,xb⟩:=x;obtain ⟨yt,ye,yp,yh,yb⟩:=y;simp only [spC] at *;have hE:decide (SpV.mk xt xe xp xh xb = SpV.mk yt ye yp yh yb) = (decide (xt = yt) && (decide (xe = ye) && (decide (xp = yp) && (decide (xh = yh) && decide (xb = yb))))):=by simp
 rw [hE];obtain ⟨s,hs⟩:∃ s,decide (xb = yb) = s:=⟨_,rfl⟩;rw [hs];have HC:=jh (fun V e f g i=>ymM B B' A A' n m c d xb yb V e f g i hn hm lx ly ox oy);rw [hs] at HC;have HR:=jh hR;have HR':=jh hR';have HG:=jh hG;have HS:=jh hS;have HS':=jh hS';clear hs h h' hB hB' hR hR' hG hE hn hm hS hS' ox oy lx ly;go_enter Tryz.func16,Tryz.ntmps16
 go_upto_region 1 with (fail)
 obtain ⟨g,hg⟩:∃ g,w.heap.size = g:=⟨_,rfl⟩;rw [hg] at hb1 hb2 ⊢;clear hg;generalize (w.alloc (.cells #[.int .u64 (xt:Int),.int .u64 (xe:Int),.string xp,.string xh,.slice A n c] 25)).alloc (.cells #[.int .u64 (yt:Int),.int .u64 (ye:Int),.string yp,.string yh,.slice A' m d] 25) = w1 at *;have c0:=hb1.cell 0;have c1:=hb1.cell 1;have c2:=hb1.cell 2;have c3:=hb1.cell 3;have c4:=hb1.cell 4;have d0:=hb2.cell 0;have d1:=hb2.cell 1;have d2:=hb2.cell 2;have d3:=hb2.cell 3;have d4:=hb2.cell 4;simp only [jta,jcz,jcs] at c0 c1 c2 c3 c4 d0 d1 d2 d3 d4;clear hb1 hb2;by_cases ht:xt = yt
 ·subst ht;have q1:((xt:Int) == (xt:Int)) = true:=by simp
  by_cases he:xe = ye
  ·subst he;have q2:((xe:Int) == (xe:Int)) = true:=by simp
   by_cases hp:xp = yp
   ·subst hp;have q3:(xp.toList == xp.toList) = true:=by simp
    by_cases hh:xh = yh
    ·subst hh;have q4:(xh.toList == xh.toList) = true:=by simp
     go_wp2_with fail
     refine (HC.out _ HR.out HR'.out HS.out HS'.out).mono ?_;rintro e w2 ⟨rfl,hg⟩;have HG:=jh (yab HG.out hg (by simp));clear c0 c1 c2 c3 c4 d0 d1 d2 d3 d4 hg q1 q2 q3 q4;go_wp2_with fail
     go_ret
     exact ⟨by simp,HG.out⟩
    ·have q4:(xh.toList == yh.toList) = false:=yfv hh;have HA:=jh (decide_eq_false hh);clear hh;go_wp2_with fail
     go_ret
     exact ⟨by rw [HA.out];simp,HG.out⟩
   ·have q3:(xp.toList == yp.toList) = false:=yfv hp;have HA:=jh (decide_eq_false hp);clear hp;go_wp2_with fail
    go_ret
    exact ⟨by rw [HA.out];simp,HG.out⟩
  ·have q2:((xe:Int) == (ye:Int)) = false:=by simp;omega
   have HA:=jh (decide_eq_false he);clear he;go_wp2_with fail
   go_ret
   exact ⟨by rw [HA.out];simp,HG.out⟩
 ·have q1:((xt:Int) == (yt:Int)) = false:=by simp;omega
  have HA:=jh (decide_eq_false ht);clear ht;go_wp2_with fail
  go_ret
  exact ⟨by rw [HA.out];simp,HG.out⟩
theorem yd9 (s:ByteArray) (ch:Nat) (w:World) (hs:s.size <= 1000000000000) (hc:ch < 18446744073709551616) :
  Calls jq 17 #[.string s,.int .u64 (ch:Int)] w (yol s ch w):=by
 have HS:=jh hs;have HC:=jh hc;by_cases h0:ch = 0
 ·have he:ybR s ch = .error 1:=by unfold ybR;rw [if_pos (by simp [h0])]
  have HE:=jh he;have q1:((ch:Int) == 0) = true:=by simp [h0]
  clear h0 he hs hc;go_enter Tryz.func17,Tryz.ntmps17
  go_wp2_with fail
  refine jbr (yaJ (fn:=Tryz.f17) rfl _ _ _ _ rfl (run_loadVar_row _ w.heap.size 25 25 (spC SpV.none_ none 0 0) (0,0) _ (Blk.new w _ _) ja3 rfl (by kernel_rfl))) rfl ?_;exact ⟨yaa (jr w none) _,.inl ⟨1,by decide,HE.out,rfl⟩⟩
 have HNZ:=jh h0;have q1:((ch:Int) == 0) = false:=by simpa using h0
 by_cases hb:4611686018427387904 < ch
 ·have he:ybR s ch = .error 1:=by unfold ybR;rw [if_pos (by simp [hb])]
  have HE:=jh he;have q2:(4611686018427387904:Int) < (ch:Int):=by omega
  clear h0 hb he hs hc;go_enter Tryz.func17,Tryz.ntmps17
  go_wp2_with fail
  refine jbr (yaJ (fn:=Tryz.f17) rfl _ _ _ _ rfl (run_loadVar_row _ w.heap.size 25 25 (spC SpV.none_ none 0 0) (0,0) _ (Blk.new w _ _) ja3 rfl (by kernel_rfl))) rfl ?_;exact ⟨yaa (jr w none) _,.inl ⟨1,by decide,HE.out,rfl⟩⟩
 have q2:decide ((4611686018427387904:Int) < (ch:Int)) = false:=decide_eq_false (by omega);have q2':¬ ((4611686018427387904:Int) < (ch:Int)):=by omega
 have hch:(decide (ch = 0) || decide (4611686018427387904 < ch)) = false:=by simp [h0,hb]
 by_cases hz:s = ⟨#[]⟩
 ·have he:ybR s ch = .error 3:=by unfold ybR;rw [if_neg (by rw [hch];simp),if_pos (by rw [hz];rfl)]
  have HE:=jh he;have q3:s.toList.isEmpty = true:=by rw [hz];simp
  clear h0 hb he hs hc hch hz;go_enter Tryz.func17,Tryz.ntmps17
  go_wp2_with fail
  refine jbr (yaJ (fn:=Tryz.f17) rfl _ _ _ _ rfl (run_loadVar_row _ w.heap.size 25 25 (spC SpV.none_ none 0 0) (0,0) _ (Blk.new w _ _) ja3 rfl (by kernel_rfl))) rfl ?_;exact ⟨yaa (jr w none) _,.inl ⟨3,by decide,HE.out,rfl⟩⟩
 obtain ⟨g0,_,_,q3,hd0⟩:=yj3 hz;by_cases hb1:s.data.toList.getD 0 0 = 1
 ·exact ymw s ch w hs h0 (by omega) g0 hb1
 ·have he:ybR s ch = .error 9:=by unfold ybR;rw [if_neg (by rw [hch];simp),if_neg (by omega),if_pos hb1]
  have HE:=jh he;have hne:(s[0]'g0).toNat ≠ 1:=fun e=>hb1 (by rw [hd0];exact UInt8.toNat_inj.1 e);have q4:(((s[0]'g0).toNat:Int) != 1) = true:=by simpa using (show ¬ ((s[0]'g0).toNat:Int) = 1 by omega)
  have q5:((s[0]'g0).toNat != 1) = true:=by simpa using hne
  clear h0 hb he hs hc hch hz hb1 hne hd0;go_enter Tryz.func17,Tryz.ntmps17
  go_wp2_with fail
  refine jbr (yaJ (fn:=Tryz.f17) rfl _ _ _ _ rfl (run_loadVar_row _ w.heap.size 25 25 (spC SpV.none_ none 0 0) (0,0) _ (Blk.new w _ _) ja3 rfl (by kernel_rfl))) rfl ?_;exact ⟨yaa (jr w none) _,.inl ⟨9,by decide,HE.out,rfl⟩⟩
theorem BksR.more {B B':Nat} {W:World} {bs:List BkV} {A:Option Addr} {n:Nat} (h:BksR B W bs A n) (hB:B <= B'):BksR B' W bs A n:=by
 refine ⟨h.1,fun h0=>?_⟩;obtain ⟨g,off,h1,h2,h3⟩:=h.2 h0;refine ⟨g,off,h1,by omega,fun i hi=>?_⟩;obtain ⟨T,m,tc,a,b,c⟩:=h3 i hi;exact ⟨T,m,tc,a,b,c.more hB⟩
def SpBx (W:World) (b:Nat) (S:SpV):Prop:=∃ A n c,Blk W b 25 (spC S A n c) /\ BksR W.heap.size W S.blocks A n /\ n <= 9223372036854775807
theorem SpBx.kept {W W':World} {b:Nat} {S:SpV} (h:SpBx W b S) (hg:W.grownBy W' none):SpBx W' b S:=by
 obtain ⟨A,n,c,h1,h2,h3⟩:=h;exact ⟨A,n,c,h1.grown hg (by simp),(h2.grown hg (jle _)).more hg.size,h3⟩
theorem SpBx.new {W:World} {S:SpV} {A:Option Addr} {n c:Nat} {z:Array Value} (h:BksR W.heap.size W S.blocks A n) (hn:n <= 9223372036854775807):SpBx ((W.alloc (.cells z 25)).setRow W.heap.size (spC S A n c)) W.heap.size S /\ W.grownBy ((W.alloc (.cells z 25)).setRow W.heap.size (spC S A n c)) none:=by
 have hg:W.grownBy ((W.alloc (.cells z 25)).setRow W.heap.size (spC S A n c)) none:=yaR (yaa (jr W none) _) (jle _) _;exact ⟨⟨A,n,c,yay (Blk.new W _ _),(h.grown hg (jle _)).more hg.size,hn⟩,hg⟩
def sp20:ByteArray:=⟨je2 20 0⟩
def sk0:TxV:={ TxV.zero with dst:=sp20 }
def sk1:TxV:={ TxV.zero with nonce:=1 }
def sk2:TxV:={ TxV.zero with gas:=7 }
def spv0:SpV:=⟨0,0,sp20,sp20,[]⟩
def spv1:SpV:=⟨0,0,sp20,sp20,[⟨false,[]⟩]⟩
def spv2:SpV:=⟨300,5,sp20,sp20,[⟨true,[sk0,sk1]⟩,⟨false,[sk2]⟩]⟩
theorem ypv:ybt spv0 9 = 2:=by decide +kernel
theorem yoD:ybt spv1 9 = 0:=by decide +kernel
theorem yl3:ybt spv2 9 = 0:=by decide +kernel
theorem ypS:(spL spv1).length = 46:=by decide +kernel
theorem ypP:decide (spv1 = spv2) = false:=by decide +kernel
theorem ypR:(spL spv2).length < 1000:=by decide +kernel
theorem ypx:∀ t ∈ spv2.all,t.Ok:=by
 intro t ht;have h:t = sk0 \/ t = sk1 \/ t = sk2:=by simpa [spv2,SpV.all] using ht
 rcases h with rfl | rfl | rfl <;> exact ⟨by decide,by decide,by decide,by decide,by decide,by decide,by decide,by decide,by decide,by decide,fun a h=>by cases h⟩
theorem ypu:spv0.Ok:=⟨by decide,by decide,fun t h=>by simp [spv0,SpV.all] at h⟩
theorem yhF:spv1.Ok:=⟨by decide,by decide,fun t h=>by simp [spv1,SpV.all] at h⟩
theorem ygt:spv2.Ok:=⟨by decide,by decide,ypx⟩
theorem ypQ:spv2.all.length = 3:=rfl
theorem yeP {S:SpV} (h:S.Ok):∀ b ∈ S.blocks,∀ t ∈ b.txs,t.Ok:=fun b hb t ht=>h.txs t (List.mem_flatMap.2 ⟨b,hb,ht⟩)
theorem yfQ {S:SpV} {b:BkV} (h:b ∈ S.blocks):b.txs.length <= S.all.length:=by
 obtain ⟨l,r,e⟩:=List.append_of_mem h;unfold SpV.all;rw [e];simp [List.flatMap_append];omega
theorem ydr {S:SpV} {ch:Nat} (h:ybt S ch = 0):ydG S ch = spL S:=if_pos h
theorem ygv {S:SpV} {ch:Nat} (h:ybt S ch ≠ 0):ydG S ch = []:=if_neg h
theorem ygS {s:ByteArray} {ch:Nat} {S:SpV} {w:World} {e:Ending} {w':World} (h:yol s ch w e w') (hg:ybR s ch = .ok S):w.grownBy w' none /\ ∃ A n c,e = .returned (.tuple #[.agg (spC S A n c),.int .i64 0]) /\ BksR w'.heap.size w' S.blocks A n:=by
 refine ⟨h.1,?_⟩;rcases h.2 with ⟨c,_,h1,_⟩ | ⟨S',A,n,c,h1,h2,h3,_⟩
 ·rw [hg] at h1;cases h1
 ·rw [hg] at h1;obtain rfl:S = S':=by injection h1
  exact ⟨A,n,c,h2,h3⟩
theorem yhG {s:ByteArray} {ch:Nat} {E:Int} {w:World} {e:Ending} {w':World} (h:yol s ch w e w') (hg:ybR s ch = .error E):w.grownBy w' none /\ e = .returned (.tuple #[.agg (spC SpV.none_ none 0 0),.int .i64 E]):=by
 refine ⟨h.1,?_⟩;rcases h.2 with ⟨c,_,h1,h2⟩ | ⟨S',A,n,c,h1,_⟩
 ·rw [hg] at h1;obtain rfl:E = c:=by injection h1
  exact h2
 ·rw [hg] at h1;cases h1
theorem yoC:ybR ⟨#[0]⟩ 9 = .error 9:=rfl
theorem yop {S:SpV} {A:Option Addr} {n B:Nat} {W:World} (h:BksR B W S.blocks A n) (hs:S.blocks.length <= 10000):n <= 9223372036854775807:=by have:=h.1;omega
theorem yhY (B:Nat) (W:World):BksR B W [] none 0:=⟨rfl,fun h=>absurd h (Nat.lt_irrefl _)⟩
theorem yqb {W:World} {g:Nat} (h:Blk W g 41 #[.bool false,.slice none 0 0]):BksR W.heap.size W spv1.blocks (some ⟨g,0,none⟩) 1 :=
 ⟨rfl,fun _=>⟨g,0,rfl,h.lt,fun i hi=>by
  obtain rfl:i = 0:=by omega
  exact ⟨none,0,0,h.cell 0,h.cell 1,yos _ _⟩⟩⟩
theorem yqa {W:World} {g ga gb:Nat} (h:Blk W g 41 #[.bool true,.slice (some ⟨ga,0,none⟩) 2 2,.bool false,.slice (some ⟨gb,0,none⟩) 1 1]) (ha:TxsR W.heap.size W [sk0,sk1] (some ⟨ga,0,none⟩) 2) (hb:TxsR W.heap.size W [sk2] (some ⟨gb,0,none⟩) 1):BksR W.heap.size W spv2.blocks (some ⟨g,0,none⟩) 2 :=
 ⟨rfl,fun _=>⟨g,0,rfl,h.lt,fun i hi=>by
  by_cases h0:i = 0
  ·subst h0;exact ⟨_,2,2,h.cell 0,h.cell 1,ha⟩
  ·obtain rfl:i = 1:=by omega
   exact ⟨_,1,1,h.cell 2,h.cell 3,hb⟩⟩⟩
theorem ydL (w:World):Calls jq 7 #[] w fun e w'=>e = .returned (.bool true) /\ w.grownBy w' none:=by
 have hmk:∀ V:World,(Instr.makeSlice 43 (.int .i64 20) (.int .i64 20)).run jq V = .ok (.slice (some ⟨V.heap.size,0,none⟩) 20 20) (V.alloc (.cells (je2 20 (.int .u8 0)) 5)):=fun V=>ypV 20 (by omega) V;have hcv:(convert 43 9 (.slice (some ⟨w.heap.size,0,none⟩) 20 20)).run jq (w.alloc (.cells (je2 20 (.int .u8 0)) 5)) = .ok (.string sp20) (w.alloc (.cells (je2 20 (.int .u8 0)) 5)):=ybS (ypZ w);have hg0:=yaa (jr w none) (.cells (je2 20 (.int .u8 0)) 5);have HG:=jh hg0;clear hg0;go_enter Tryz.func7,Tryz.ntmps7
 go_upto_region 2 with (fail)
 change Code.wp _ _ _ _ (w.alloc (.cells (je2 20 (.int .u8 0)) 5));generalize w.alloc (.cells (je2 20 (.int .u8 0)) 5) = w1 at *;clear hmk hcv;refine jwl ?_;refine zm 1 (.string sp20) rfl ?_;refine zm 1 (.string sp20) rfl ?_;simp only [jp,jb,jz,js];refine yaH rfl 41 _ (#[.bool false,.slice none 0 0]) rfl (by kernel_rfl) ?_;simp only [jp,jb,jz,js];refine yac rfl (.slice (some ⟨w1.heap.size,0,none⟩) 1 1) (w':=w1.alloc (.cells #[.bool false,.slice none 0 0] 41)) (by go_simp <;> rfl) ?_;simp only [jp,jb,jz,js];have hga:=yaa (jr w1 none) (.cells #[.bool false,.slice none 0 0] 41);have hbl_g1:=Blk.new w1 41 #[.bool false,.slice none 0 0];have HG:=jh (yab HG.out hga (by simp));obtain ⟨g1,hge⟩:∃ x,w1.heap.size = x:=⟨_,rfl⟩;rw [hge] at hbl_g1 ⊢;clear hge hga;generalize w1.alloc (.cells #[.bool false,.slice none 0 0] 41) = w2 at *;refine yaH rfl 25 _ (spC spv1 (some ⟨g1,0,none⟩) 1 1) rfl (by kernel_rfl) ?_;simp only [jp,jb,jz,js];refine yac rfl (.pointer (some ⟨w2.heap.size,0,none⟩)) (w':=w2.alloc (.cells spZ 25)) (by unfold spZ;go_simp <;> rfl) ?_;simp only [jp,jb,jz,js];refine jsw rfl 25 (.tmp 2) (.tmp 24) rfl w2.heap.size (spC spv1 (some ⟨g1,0,none⟩) 1 1) rfl rfl 25 spZ (Blk.new w2 _ _) (by kernel_rfl) rfl (by simp [ja2,spC]) ?_;(try simp only [jp,jb,jz,js]);obtain ⟨hbx,hga⟩:=SpBx.new (W:=w2) (S:=spv1) (A:=(some ⟨g1,0,none⟩)) (n:=1) (c:=1) (z:=spZ) (yqb hbl_g1) (by decide);obtain ⟨b1,hge⟩:∃ x,w2.heap.size = x:=⟨_,rfl⟩;rw [hge] at hbx hga ⊢;have HG:=jh (yab HG.out hga (by simp));have H1:=jh hbx;clear hbx hga;generalize (w2.alloc (.cells spZ 25)).setRow b1 (spC spv1 (some ⟨g1,0,none⟩) 1 1) = w3 at *;clear hge;refine jwn ?_;clear hbl_g1;go_upto_region 3 with (fail)
 refine jwl ?_;obtain ⟨AA,nA,cA,hxA,hrA,hnA⟩:=H1.out;refine wpList_load_row rfl 25 (.tmp 2) rfl b1 rfl 25 (spC spv1 AA nA cA) (0,0) _ hxA ja3 rfl (by kernel_rfl) ?_;simp only [jp,jb,jz,js];have hc:=ycM spv1 _ AA nA cA 9 w3 hrA (jle _) hnA (by decide) yhF;rw [ydr yoD,yoD] at hc;refine yah rfl 11 #[.agg (spC spv1 AA nA cA),.int .u64 9] (yao _ (.tmp 26) (.const (.int .u64 9)) _ rfl _ _ rfl rfl (jeo Tryz.func11 (by kernel_rfl) rfl _ _)) (hc.mono ?_);clear hc;rintro e w4 ⟨rfl,hg⟩;have HG:=jh (yab HG.out hg (by simp));have H1:=jh (H1.out.kept hg);clear hg;refine ⟨_,rfl,?_⟩;simp only [jp,jb,jz,js];clear hxA hrA hnA;obtain ⟨B1,hB1⟩:∃ S:ByteArray,(⟨(spL spv1).toArray⟩:ByteArray) = S:=⟨_,rfl⟩;have hd1:B1.data.toList = spL spv1:=by rw [<- hB1]
 have hz1:B1.size = 46:=by rw [<- yan,hd1];exact ypS
 have hget1:ybR B1 9 = .ok spv1:=yfA yoD yhF hd1;rw [hB1];have HZ1:=jh hz1;have HGET1:=jh hget1;clear hB1 hd1 hz1 hget1;refine zm 27 (.tuple #[.string B1,.int .i64 0]) rfl ?_;simp only [jp,jb,jz,js];refine zg (.string B1) ?_;simp only [jp,jb,jz,js];refine zg (.int .i64 0) ?_;simp only [jp,jb,jz,js];refine zg (.string B1) ?_;simp only [jp,jb,jz,js];refine zg (.int .i64 0) ?_;simp only [jp,jb,jz,js];refine jwn ?_;go_upto_region 4 with (fail)
 refine jwl ?_;refine zm 3 (.string B1) rfl ?_;simp only [jp,jb,jz,js];have hc:=yd9 B1 9 w4 (by have:=HZ1.out;omega) (by decide);refine yah rfl 17 #[.string B1,.int .u64 9] (yao _ (.tmp 31) (.const (.int .u64 9)) _ rfl _ _ rfl rfl (jeo Tryz.func17 (by kernel_rfl) rfl _ _)) (hc.mono ?_);clear hc;rintro e w5 hh;obtain ⟨hg,A,n,c,rfl,hr⟩:=ygS hh HGET1.out;have HG:=jh (yab HG.out hg (by simp));have H1:=jh (H1.out.kept hg);clear hg hh;refine ⟨_,rfl,?_⟩;simp only [jp,jb,jz,js];refine zm 32 (.tuple #[.agg (spC spv1 A n c),.int .i64 0]) rfl ?_;simp only [jp,jb,jz,js];refine zg (.agg (spC spv1 A n c)) ?_;simp only [jp,jb,jz,js];refine zg (.int .i64 0) ?_;simp only [jp,jb,jz,js];refine yac rfl (.pointer (some ⟨w5.heap.size,0,none⟩)) (w':=w5.alloc (.cells spZ 25)) (by unfold spZ;go_simp <;> rfl) ?_;simp only [jp,jb,jz,js];refine jsw rfl 25 (.tmp 5) (.tmp 33) rfl w5.heap.size (spC spv1 A n c) rfl rfl 25 spZ (Blk.new w5 _ _) (by kernel_rfl) rfl (by simp [ja2,spC]) ?_;(try simp only [jp,jb,jz,js]);obtain ⟨hbx,hga⟩:=SpBx.new (W:=w5) (S:=spv1) (A:=A) (n:=n) (c:=c) (z:=spZ) hr (yop hr (by decide));obtain ⟨b2,hge⟩:∃ x,w5.heap.size = x:=⟨_,rfl⟩;rw [hge] at hbx hga ⊢;have HG:=jh (yab HG.out hga (by simp));have H1:=jh (H1.out.kept hga);have H2:=jh hbx;clear hbx hga;generalize (w5.alloc (.cells spZ 25)).setRow b2 (spC spv1 A n c) = w6 at *;clear hge;refine zg (.int .i64 0) ?_;simp only [jp,jb,jz,js];refine jwn ?_;clear hr;go_upto_region 5 with (fail)
 refine jwl ?_;refine zm 1 (.string sp20) rfl ?_;refine zm 1 (.string sp20) rfl ?_;refine zm 1 (.string sp20) rfl ?_;simp only [jp,jb,jz,js];refine yaH rfl 49 _ (txC sk0 (.slice none 0 0) (.slice none 0 0)) rfl (by kernel_rfl) ?_;simp only [jp,jb,jz,js];refine yaH rfl 49 _ (txC sk1 (.slice none 0 0) (.slice none 0 0)) rfl (by kernel_rfl) ?_;simp only [jp,jb,jz,js];refine ydK rfl 2 _ rfl (by omega) (by omega) (ydk [sk0,sk1]).toArray (by kernel_rfl) ?_;simp only [jp,jb,jz,js];have hga:=yaa (jr w6 none) (.cells (ydk [sk0,sk1]).toArray 49);have hbl_ga:=Blk.new w6 49 (ydk [sk0,sk1]).toArray;have HG:=jh (yab HG.out hga (by simp));have H1:=jh (H1.out.kept hga);have H2:=jh (H2.out.kept hga);obtain ⟨ga,hge⟩:∃ x,w6.heap.size = x:=⟨_,rfl⟩;rw [hge] at hbl_ga ⊢;clear hge hga;generalize w6.alloc (.cells (ydk [sk0,sk1]).toArray 49) = w7 at *
 have hta:=yot hbl_ga (fun t ht=>by
  have h:t = sk0 \/ t = sk1:=by simpa using ht
  rcases h with rfl | rfl <;> exact ⟨rfl,rfl⟩)
 clear hbl_ga;refine yaH rfl 41 _ (#[.bool true,.slice (some ⟨ga,0,none⟩) 2 2]) rfl (by kernel_rfl) ?_;simp only [jp,jb,jz,js];refine yaH rfl 49 _ (txC sk2 (.slice none 0 0) (.slice none 0 0)) rfl (by kernel_rfl) ?_;simp only [jp,jb,jz,js];refine ydK rfl 1 _ rfl (by omega) (by omega) (ydk [sk2]).toArray (by kernel_rfl) ?_;simp only [jp,jb,jz,js];have hga:=yaa (jr w7 none) (.cells (ydk [sk2]).toArray 49);have hbl_gb:=Blk.new w7 49 (ydk [sk2]).toArray;have HG:=jh (yab HG.out hga (by simp));have H1:=jh (H1.out.kept hga);have H2:=jh (H2.out.kept hga);replace hta:=(hta.grown hga (jle _)).more hga.size;obtain ⟨gb,hge⟩:∃ x,w7.heap.size = x:=⟨_,rfl⟩;rw [hge] at hbl_gb ⊢;clear hge hga;generalize w7.alloc (.cells (ydk [sk2]).toArray 49) = w8 at *
 have htb:=yot hbl_gb (fun t ht=>by
  have h:t = sk2:=by simpa using ht
  subst h;exact ⟨rfl,rfl⟩)
 clear hbl_gb;refine yaH rfl 41 _ (#[.bool false,.slice (some ⟨gb,0,none⟩) 1 1]) rfl (by kernel_rfl) ?_;simp only [jp,jb,jz,js];refine yac rfl (.slice (some ⟨w8.heap.size,0,none⟩) 2 2) (w':=w8.alloc (.cells #[.bool true,.slice (some ⟨ga,0,none⟩) 2 2,.bool false,.slice (some ⟨gb,0,none⟩) 1 1] 41)) (by go_simp <;> rfl) ?_;simp only [jp,jb,jz,js];have hga:=yaa (jr w8 none) (.cells #[.bool true,.slice (some ⟨ga,0,none⟩) 2 2,.bool false,.slice (some ⟨gb,0,none⟩) 1 1] 41);have hbl_g2:=Blk.new w8 41 #[.bool true,.slice (some ⟨ga,0,none⟩) 2 2,.bool false,.slice (some ⟨gb,0,none⟩) 1 1];have HG:=jh (yab HG.out hga (by simp));have H1:=jh (H1.out.kept hga);have H2:=jh (H2.out.kept hga);replace hta:=(hta.grown hga (jle _)).more hga.size;replace htb:=(htb.grown hga (jle _)).more hga.size;obtain ⟨g2,hge⟩:∃ x,w8.heap.size = x:=⟨_,rfl⟩;rw [hge] at hbl_g2 ⊢;clear hge hga;generalize w8.alloc (.cells #[.bool true,.slice (some ⟨ga,0,none⟩) 2 2,.bool false,.slice (some ⟨gb,0,none⟩) 1 1] 41) = w9 at *;refine yaH rfl 25 _ (spC spv2 (some ⟨g2,0,none⟩) 2 2) rfl (by kernel_rfl) ?_;simp only [jp,jb,jz,js];refine yac rfl (.pointer (some ⟨w9.heap.size,0,none⟩)) (w':=w9.alloc (.cells spZ 25)) (by unfold spZ;go_simp <;> rfl) ?_;simp only [jp,jb,jz,js];refine jsw rfl 25 (.tmp 7) (.tmp 46) rfl w9.heap.size (spC spv2 (some ⟨g2,0,none⟩) 2 2) rfl rfl 25 spZ (Blk.new w9 _ _) (by kernel_rfl) rfl (by simp [ja2,spC]) ?_;(try simp only [jp,jb,jz,js]);obtain ⟨hbx,hga⟩:=SpBx.new (W:=w9) (S:=spv2) (A:=(some ⟨g2,0,none⟩)) (n:=2) (c:=2) (z:=spZ) (yqa hbl_g2 hta htb) (by decide);obtain ⟨b3,hge⟩:∃ x,w9.heap.size = x:=⟨_,rfl⟩;rw [hge] at hbx hga ⊢;have HG:=jh (yab HG.out hga (by simp));have H1:=jh (H1.out.kept hga);have H2:=jh (H2.out.kept hga);have H3:=jh hbx;clear hbx hga;generalize (w9.alloc (.cells spZ 25)).setRow b3 (spC spv2 (some ⟨g2,0,none⟩) 2 2) = w10 at *;clear hge;refine jwn ?_;clear hbl_g2 hta htb;go_upto_region 6 with (fail)
 refine jwl ?_;obtain ⟨AA,nA,cA,hxA,hrA,hnA⟩:=H3.out;refine wpList_load_row rfl 25 (.tmp 7) rfl b3 rfl 25 (spC spv2 AA nA cA) (0,0) _ hxA ja3 rfl (by kernel_rfl) ?_;simp only [jp,jb,jz,js];have hc:=ycM spv2 _ AA nA cA 9 w10 hrA (jle _) hnA (by decide) ygt;rw [ydr yl3,yl3] at hc;refine yah rfl 11 #[.agg (spC spv2 AA nA cA),.int .u64 9] (yao _ (.tmp 48) (.const (.int .u64 9)) _ rfl _ _ rfl rfl (jeo Tryz.func11 (by kernel_rfl) rfl _ _)) (hc.mono ?_);clear hc;rintro e w11 ⟨rfl,hg⟩;have HG:=jh (yab HG.out hg (by simp));have H1:=jh (H1.out.kept hg);have H2:=jh (H2.out.kept hg);have H3:=jh (H3.out.kept hg);clear hg;refine ⟨_,rfl,?_⟩;simp only [jp,jb,jz,js];clear hxA hrA hnA;obtain ⟨B2,hB2⟩:∃ S:ByteArray,(⟨(spL spv2).toArray⟩:ByteArray) = S:=⟨_,rfl⟩;have hd2:B2.data.toList = spL spv2:=by rw [<- hB2]
 have hz2:B2.size < 1000:=by rw [<- yan,hd2];exact ypR
 have hget2:ybR B2 9 = .ok spv2:=yfA yl3 ygt hd2;obtain ⟨B3,hB3⟩:∃ S:ByteArray,B2 ++ ⟨#[120]⟩ = S:=⟨_,rfl⟩;have hd3:B3.data.toList = spL spv2 ++ [120]:=by rw [<- hB3,<- hd2];simp
 have hz3:B3.size < 1001:=by rw [<- hB3,ByteArray.size_append];show _ + 1 < _;omega
 have hget3:ybR B3 9 = .error 4:=by rw [yjN yl3 ygt hd3,if_neg (by simp)]
 rw [hB2];have HZ2:=jh hz2;have HGET2:=jh hget2;have HZ3:=jh hz3;have HGET3:=jh hget3;have HB3:=jh hB3;clear hB2 hd2 hz2 hget2 hB3 hd3 hz3 hget3;refine zm 49 (.tuple #[.string B2,.int .i64 0]) rfl ?_;simp only [jp,jb,jz,js];refine zg (.string B2) ?_;simp only [jp,jb,jz,js];refine zg (.int .i64 0) ?_;simp only [jp,jb,jz,js];refine zg (.string B2) ?_;simp only [jp,jb,jz,js];refine zg (.int .i64 0) ?_;simp only [jp,jb,jz,js];refine jwn ?_;go_upto_region 7 with (fail)
 refine jwl ?_;refine zm 8 (.string B2) rfl ?_;simp only [jp,jb,jz,js];have hc:=yd9 B2 9 w11 (by have:=HZ2.out;omega) (by decide);refine yah rfl 17 #[.string B2,.int .u64 9] (yao _ (.tmp 53) (.const (.int .u64 9)) _ rfl _ _ rfl rfl (jeo Tryz.func17 (by kernel_rfl) rfl _ _)) (hc.mono ?_);clear hc;rintro e w12 hh;obtain ⟨hg,A,n,c,rfl,hr⟩:=ygS hh HGET2.out;have HG:=jh (yab HG.out hg (by simp));have H1:=jh (H1.out.kept hg);have H2:=jh (H2.out.kept hg);have H3:=jh (H3.out.kept hg);clear hg hh;refine ⟨_,rfl,?_⟩;simp only [jp,jb,jz,js];refine zm 54 (.tuple #[.agg (spC spv2 A n c),.int .i64 0]) rfl ?_;simp only [jp,jb,jz,js];refine zg (.agg (spC spv2 A n c)) ?_;simp only [jp,jb,jz,js];refine zg (.int .i64 0) ?_;simp only [jp,jb,jz,js];refine yac rfl (.pointer (some ⟨w12.heap.size,0,none⟩)) (w':=w12.alloc (.cells spZ 25)) (by unfold spZ;go_simp <;> rfl) ?_;simp only [jp,jb,jz,js];refine jsw rfl 25 (.tmp 10) (.tmp 55) rfl w12.heap.size (spC spv2 A n c) rfl rfl 25 spZ (Blk.new w12 _ _) (by kernel_rfl) rfl (by simp [ja2,spC]) ?_;(try simp only [jp,jb,jz,js]);obtain ⟨hbx,hga⟩:=SpBx.new (W:=w12) (S:=spv2) (A:=A) (n:=n) (c:=c) (z:=spZ) hr (yop hr (by decide));obtain ⟨b4,hge⟩:∃ x,w12.heap.size = x:=⟨_,rfl⟩;rw [hge] at hbx hga ⊢;have HG:=jh (yab HG.out hga (by simp));have H1:=jh (H1.out.kept hga);have H2:=jh (H2.out.kept hga);have H3:=jh (H3.out.kept hga);have H4:=jh hbx;clear hbx hga;generalize (w12.alloc (.cells spZ 25)).setRow b4 (spC spv2 A n c) = w13 at *;clear hge;refine zg (.int .i64 0) ?_;simp only [jp,jb,jz,js];refine jwn ?_;clear hr;go_upto_region 8 with (fail)
 refine jwl ?_;refine zm 8 (.string B2) rfl ?_;simp only [jp,jb,jz,js];refine yac rfl (.string B3) (ymA _ _ rfl _ _ _ rfl rfl (by have:=HZ2.out;show _ + 1 <= _;omega) HB3.out) ?_;simp only [jp,jb,jz,js];have hc:=yd9 B3 9 w13 (by have:=HZ3.out;omega) (by decide);refine yah rfl 17 #[.string B3,.int .u64 9] (yao _ (.tmp 59) (.const (.int .u64 9)) _ rfl _ _ rfl rfl (jeo Tryz.func17 (by kernel_rfl) rfl _ _)) (hc.mono ?_);clear hc;rintro e w14 hh;obtain ⟨hg,rfl⟩:=yhG hh HGET3.out;have HG:=jh (yab HG.out hg (by simp));have H1:=jh (H1.out.kept hg);have H2:=jh (H2.out.kept hg);have H3:=jh (H3.out.kept hg);have H4:=jh (H4.out.kept hg);clear hg hh;refine ⟨_,rfl,?_⟩;simp only [jp,jb,jz,js];refine zm 60 (.tuple #[.agg (spC SpV.none_ none 0 0),.int .i64 4]) rfl ?_;simp only [jp,jb,jz,js];refine zg (.agg (spC SpV.none_ none 0 0)) ?_;simp only [jp,jb,jz,js];refine zg (.int .i64 4) ?_;simp only [jp,jb,jz,js];refine yac rfl (.pointer (some ⟨w14.heap.size,0,none⟩)) (w':=w14.alloc (.cells spZ 25)) (by unfold spZ;go_simp <;> rfl) ?_;simp only [jp,jb,jz,js];refine jsw rfl 25 (.tmp 12) (.tmp 61) rfl w14.heap.size (spC SpV.none_ none 0 0) rfl rfl 25 spZ (Blk.new w14 _ _) (by kernel_rfl) rfl (by simp [ja2,spC]) ?_;(try simp only [jp,jb,jz,js]);obtain ⟨hbx,hga⟩:=SpBx.new (W:=w14) (S:=SpV.none_) (A:=none) (n:=0) (c:=0) (z:=spZ) (yhY _ _) (by decide);obtain ⟨b5,hge⟩:∃ x,w14.heap.size = x:=⟨_,rfl⟩;rw [hge] at hbx hga ⊢;have HG:=jh (yab HG.out hga (by simp));have H1:=jh (H1.out.kept hga);have H2:=jh (H2.out.kept hga);have H3:=jh (H3.out.kept hga);have H4:=jh (H4.out.kept hga);have H5:=jh hbx;clear hbx hga;generalize (w14.alloc (.cells spZ 25)).setRow b5 (spC SpV.none_ none 0 0) = w15 at *;clear hge;refine zg (.int .i64 4) ?_;simp only [jp,jb,jz,js];refine jwn ?_;go_upto_region 9 with (fail)
 refine jwl ?_;have hc:=yd9 ⟨#[0]⟩ 9 w15 (by have:=(show (⟨#[0]⟩:ByteArray).size <= 1 from by decide);omega) (by decide);refine yah rfl 17 #[.string ⟨#[0]⟩,.int .u64 9] (yao _ (.const (.string ⟨#[0]⟩)) (.const (.int .u64 9)) _ rfl _ _ rfl rfl (jeo Tryz.func17 (by kernel_rfl) rfl _ _)) (hc.mono ?_);clear hc;rintro e w16 hh;obtain ⟨hg,rfl⟩:=yhG hh yoC;have HG:=jh (yab HG.out hg (by simp));have H1:=jh (H1.out.kept hg);have H2:=jh (H2.out.kept hg);have H3:=jh (H3.out.kept hg);have H4:=jh (H4.out.kept hg);have H5:=jh (H5.out.kept hg);clear hg hh;refine ⟨_,rfl,?_⟩;simp only [jp,jb,jz,js];refine zm 64 (.tuple #[.agg (spC SpV.none_ none 0 0),.int .i64 9]) rfl ?_;simp only [jp,jb,jz,js];refine zg (.agg (spC SpV.none_ none 0 0)) ?_;simp only [jp,jb,jz,js];refine zg (.int .i64 9) ?_;simp only [jp,jb,jz,js];refine yac rfl (.pointer (some ⟨w16.heap.size,0,none⟩)) (w':=w16.alloc (.cells spZ 25)) (by unfold spZ;go_simp <;> rfl) ?_;simp only [jp,jb,jz,js];refine jsw rfl 25 (.tmp 14) (.tmp 65) rfl w16.heap.size (spC SpV.none_ none 0 0) rfl rfl 25 spZ (Blk.new w16 _ _) (by kernel_rfl) rfl (by simp [ja2,spC]) ?_;(try simp only [jp,jb,jz,js]);obtain ⟨hbx,hga⟩:=SpBx.new (W:=w16) (S:=SpV.none_) (A:=none) (n:=0) (c:=0) (z:=spZ) (yhY _ _) (by decide);obtain ⟨b6,hge⟩:∃ x,w16.heap.size = x:=⟨_,rfl⟩;rw [hge] at hbx hga ⊢;have HG:=jh (yab HG.out hga (by simp));have H1:=jh (H1.out.kept hga);have H2:=jh (H2.out.kept hga);have H3:=jh (H3.out.kept hga);have H4:=jh (H4.out.kept hga);have H5:=jh (H5.out.kept hga);have H6:=jh hbx;clear hbx hga;generalize (w16.alloc (.cells spZ 25)).setRow b6 (spC SpV.none_ none 0 0) = w17 at *;clear hge;refine zg (.int .i64 9) ?_;simp only [jp,jb,jz,js];refine jwn ?_;go_upto_region 10 with (fail)
 refine jwl ?_;refine zm 1 (.string sp20) rfl ?_;refine zm 1 (.string sp20) rfl ?_;simp only [jp,jb,jz,js];refine yaH rfl 25 _ (spC spv0 none 0 0) rfl (by kernel_rfl) ?_;simp only [jp,jb,jz,js];have hc:=ycM spv0 _ none 0 0 9 w17 (yhY 0 _) (Nat.zero_le _) (by decide) (by decide) ypu;rw [ygv (by rw [ypv];decide),ypv] at hc;refine yah rfl 11 #[.agg (spC spv0 none 0 0),.int .u64 9] (yao _ (.tmp 70) (.const (.int .u64 9)) _ rfl _ _ rfl rfl (jeo Tryz.func11 (by kernel_rfl) rfl _ _)) (hc.mono ?_);clear hc;rintro e w18 ⟨rfl,hg⟩;have HG:=jh (yab HG.out hg (by simp));have H1:=jh (H1.out.kept hg);have H2:=jh (H2.out.kept hg);have H3:=jh (H3.out.kept hg);have H4:=jh (H4.out.kept hg);have H5:=jh (H5.out.kept hg);have H6:=jh (H6.out.kept hg);clear hg;refine ⟨_,rfl,?_⟩;simp only [jp,jb,jz,js];refine zm 71 (.tuple #[.string ⟨([]:List UInt8).toArray⟩,.int .i64 2]) rfl ?_;simp only [jp,jb,jz,js];refine zg (.string ⟨([]:List UInt8).toArray⟩) ?_;simp only [jp,jb,jz,js];refine zg (.int .i64 2) ?_;simp only [jp,jb,jz,js];refine zg (.string ⟨([]:List UInt8).toArray⟩) ?_;simp only [jp,jb,jz,js];refine zg (.int .i64 2) ?_;simp only [jp,jb,jz,js];refine jwn ?_;go_upto_region 11 with (fail)
 refine jwl ?_;refine zm 3 (.string B1) rfl ?_;simp only [jp,jb,jz,js];have z1:=HZ1.out;refine yac rfl (.int .i64 46) (by go_simp <;> first | rfl | (rw [z1];rfl) | simp [z1]) ?_;simp only [jp,jb,jz,js];refine zg (.bool true) ?_;simp only [jp,jb,jz,js];refine zm 76 (.bool true) rfl ?_;simp only [jp,jb,jz,js];refine yad rfl (.int .i64 0) (yaq (.tmp 4) rfl _ rfl) ?_;simp only [jp,jb,jz,js];refine yad rfl (.bool true) (by go_simp <;> rfl) ?_;simp only [jp,jb,jz,js];refine yac rfl (.bool true) (yax (.tmp 77) (.tmp 79) _ rfl true rfl _ rfl) ?_;simp only [jp,jb,jz,js];refine zm 80 (.bool true) rfl ?_;simp only [jp,jb,jz,js];obtain ⟨AA,nA,cA,hxA,hrA,hnA⟩:=H1.out;refine yad rfl (.agg (spC spv1 AA nA cA)) (yai rfl rfl 25 _ _ hxA ja3 rfl (by kernel_rfl)) ?_;simp only [jp,jb,jz,js];obtain ⟨AB,nB,cB,hxB,hrB,hnB⟩:=H2.out;refine yad rfl (.agg (spC spv1 AB nB cB)) (yai rfl rfl 25 _ _ hxB ja3 rfl (by kernel_rfl)) ?_;simp only [jp,jb,jz,js];have hc:=ycL spv1 spv1 _ _ AA AB nA nB cA cB w18 hrA hrB (jle _) (jle _) hnA hnB (fun b hb=>jlt (yfQ hb) (by decide)) (fun b hb=>jlt (yfQ hb) (by decide)) (yeP yhF) (yeP yhF);rw [decide_eq_true rfl] at hc;refine yaG rfl 16 #[.agg (spC spv1 AA nA cA),.agg (spC spv1 AB nB cB)] (yao _ (.tmp 82) (.tmp 83) _ rfl _ _ rfl rfl (jeo Tryz.func16 (by kernel_rfl) rfl _ _)) (hc.mono ?_);clear hc;rintro e w19 ⟨rfl,hg⟩;have HG:=jh (yab HG.out hg (by simp));have H1:=jh (H1.out.kept hg);have H2:=jh (H2.out.kept hg);have H3:=jh (H3.out.kept hg);have H4:=jh (H4.out.kept hg);have H5:=jh (H5.out.kept hg);have H6:=jh (H6.out.kept hg);clear hg;refine ⟨_,rfl,?_⟩;simp only [jp,jb,jz,js];clear hxA hrA hnA hxB hrB hnB;refine yac rfl (.bool true) (yax (.tmp 81) (.tmp 84) _ rfl true rfl _ rfl) ?_;simp only [jp,jb,jz,js];refine zm 85 (.bool true) rfl ?_;simp only [jp,jb,jz,js];refine yad rfl (.int .i64 0) (yaq (.tmp 6) rfl _ rfl) ?_;simp only [jp,jb,jz,js];refine yad rfl (.bool true) (by go_simp <;> rfl) ?_;simp only [jp,jb,jz,js];refine yac rfl (.bool true) (yax (.tmp 86) (.tmp 88) _ rfl true rfl _ rfl) ?_;simp only [jp,jb,jz,js];refine zm 89 (.bool true) rfl ?_;simp only [jp,jb,jz,js];refine yad rfl (.int .i64 0) (yaq (.tmp 9) rfl _ rfl) ?_;simp only [jp,jb,jz,js];refine yad rfl (.bool true) (by go_simp <;> rfl) ?_;simp only [jp,jb,jz,js];refine yac rfl (.bool true) (yax (.tmp 90) (.tmp 92) _ rfl true rfl _ rfl) ?_;simp only [jp,jb,jz,js];refine zm 93 (.bool true) rfl ?_;simp only [jp,jb,jz,js];obtain ⟨AA,nA,cA,hxA,hrA,hnA⟩:=H3.out;refine yad rfl (.agg (spC spv2 AA nA cA)) (yai rfl rfl 25 _ _ hxA ja3 rfl (by kernel_rfl)) ?_;simp only [jp,jb,jz,js];obtain ⟨AB,nB,cB,hxB,hrB,hnB⟩:=H4.out;refine yad rfl (.agg (spC spv2 AB nB cB)) (yai rfl rfl 25 _ _ hxB ja3 rfl (by kernel_rfl)) ?_;simp only [jp,jb,jz,js];have hc:=ycL spv2 spv2 _ _ AA AB nA nB cA cB w19 hrA hrB (jle _) (jle _) hnA hnB (fun b hb=>jlt (yfQ hb) (by decide)) (fun b hb=>jlt (yfQ hb) (by decide)) (yeP ygt) (yeP ygt);rw [decide_eq_true rfl] at hc;refine yaG rfl 16 #[.agg (spC spv2 AA nA cA),.agg (spC spv2 AB nB cB)] (yao _ (.tmp 95) (.tmp 96) _ rfl _ _ rfl rfl (jeo Tryz.func16 (by kernel_rfl) rfl _ _)) (hc.mono ?_);clear hc;rintro e w20 ⟨rfl,hg⟩;have HG:=jh (yab HG.out hg (by simp));have H1:=jh (H1.out.kept hg);have H2:=jh (H2.out.kept hg);have H3:=jh (H3.out.kept hg);have H4:=jh (H4.out.kept hg);have H5:=jh (H5.out.kept hg);have H6:=jh (H6.out.kept hg);clear hg;refine ⟨_,rfl,?_⟩;simp only [jp,jb,jz,js];clear hxA hrA hnA hxB hrB hnB;refine yac rfl (.bool true) (yax (.tmp 94) (.tmp 97) _ rfl true rfl _ rfl) ?_;simp only [jp,jb,jz,js];refine zm 98 (.bool true) rfl ?_;simp only [jp,jb,jz,js];refine yad rfl (.int .i64 0) (yaq (.tmp 11) rfl _ rfl) ?_;simp only [jp,jb,jz,js];refine yad rfl (.bool true) (by go_simp <;> rfl) ?_;simp only [jp,jb,jz,js];refine yac rfl (.bool true) (yax (.tmp 99) (.tmp 101) _ rfl true rfl _ rfl) ?_;simp only [jp,jb,jz,js];refine zm 102 (.bool true) rfl ?_;simp only [jp,jb,jz,js];refine yad rfl (.int .i64 4) (yaq (.tmp 13) rfl _ rfl) ?_;simp only [jp,jb,jz,js];refine yad rfl (.bool true) (by go_simp <;> rfl) ?_;simp only [jp,jb,jz,js];refine yac rfl (.bool true) (yax (.tmp 103) (.tmp 105) _ rfl true rfl _ rfl) ?_;simp only [jp,jb,jz,js];refine zm 106 (.bool true) rfl ?_;simp only [jp,jb,jz,js];refine yad rfl (.int .i64 9) (yaq (.tmp 15) rfl _ rfl) ?_;simp only [jp,jb,jz,js];refine yad rfl (.bool true) (by go_simp <;> rfl) ?_;simp only [jp,jb,jz,js];refine yac rfl (.bool true) (yax (.tmp 107) (.tmp 109) _ rfl true rfl _ rfl) ?_;simp only [jp,jb,jz,js];refine zm 110 (.bool true) rfl ?_;simp only [jp,jb,jz,js];refine yad rfl (.int .i64 2) (yaq (.tmp 17) rfl _ rfl) ?_;simp only [jp,jb,jz,js];refine yad rfl (.bool true) (by go_simp <;> rfl) ?_;simp only [jp,jb,jz,js];refine yac rfl (.bool true) (yax (.tmp 111) (.tmp 113) _ rfl true rfl _ rfl) ?_;simp only [jp,jb,jz,js];refine zm 114 (.bool true) rfl ?_;simp only [jp,jb,jz,js];obtain ⟨AA,nA,cA,hxA,hrA,hnA⟩:=H3.out;refine yad rfl (.agg (spC spv2 AA nA cA)) (yai rfl rfl 25 _ _ hxA ja3 rfl (by kernel_rfl)) ?_;simp only [jp,jb,jz,js];have hc:=yd8 spv2 _ AA nA cA w20 hrA (jle _) hnA (by decide);rw [ypQ] at hc;refine yaG rfl 15 #[.agg (spC spv2 AA nA cA)] (yam _ (.tmp 116) _ rfl _ rfl (jeo Tryz.func15 (by kernel_rfl) rfl _ _)) (hc.mono ?_);clear hc;rintro e w21 ⟨rfl,hg⟩;have HG:=jh (yab HG.out hg (by simp));have H1:=jh (H1.out.kept hg);have H2:=jh (H2.out.kept hg);have H3:=jh (H3.out.kept hg);have H4:=jh (H4.out.kept hg);have H5:=jh (H5.out.kept hg);have H6:=jh (H6.out.kept hg);clear hg;refine ⟨_,rfl,?_⟩;simp only [jp,jb,jz,js];clear hxA hrA hnA;refine yad rfl (.bool true) (by go_simp <;> rfl) ?_;simp only [jp,jb,jz,js];refine yac rfl (.bool true) (yax (.tmp 115) (.tmp 118) _ rfl true rfl _ rfl) ?_;simp only [jp,jb,jz,js];refine zm 119 (.bool true) rfl ?_;simp only [jp,jb,jz,js];obtain ⟨AA,nA,cA,hxA,hrA,hnA⟩:=H3.out;refine yad rfl (.agg (spC spv2 AA nA cA)) (yai rfl rfl 25 _ _ hxA ja3 rfl (by kernel_rfl)) ?_;simp only [jp,jb,jz,js];have hc:=yde spv2 _ AA nA cA 9 w21 hrA (jle _) hnA (by decide) ypx;rw [yl3] at hc;refine yaG rfl 14 #[.agg (spC spv2 AA nA cA),.int .u64 9] (yao _ (.tmp 121) (.const (.int .u64 9)) _ rfl _ _ rfl rfl (jeo Tryz.func14 (by kernel_rfl) rfl _ _)) (hc.mono ?_);clear hc;rintro e w22 ⟨rfl,hg⟩;have HG:=jh (yab HG.out hg (by simp));have H1:=jh (H1.out.kept hg);have H2:=jh (H2.out.kept hg);have H3:=jh (H3.out.kept hg);have H4:=jh (H4.out.kept hg);have H5:=jh (H5.out.kept hg);have H6:=jh (H6.out.kept hg);clear hg;refine ⟨_,rfl,?_⟩;simp only [jp,jb,jz,js];clear hxA hrA hnA;refine yad rfl (.bool true) (by go_simp <;> rfl) ?_;simp only [jp,jb,jz,js];refine yac rfl (.bool true) (yax (.tmp 120) (.tmp 123) _ rfl true rfl _ rfl) ?_;simp only [jp,jb,jz,js];refine zm 124 (.bool true) rfl ?_;simp only [jp,jb,jz,js];obtain ⟨AA,nA,cA,hxA,hrA,hnA⟩:=H1.out;refine yad rfl (.agg (spC spv1 AA nA cA)) (yai rfl rfl 25 _ _ hxA ja3 rfl (by kernel_rfl)) ?_;simp only [jp,jb,jz,js];obtain ⟨AB,nB,cB,hxB,hrB,hnB⟩:=H3.out;refine yad rfl (.agg (spC spv2 AB nB cB)) (yai rfl rfl 25 _ _ hxB ja3 rfl (by kernel_rfl)) ?_;simp only [jp,jb,jz,js];have hc:=ycL spv1 spv2 _ _ AA AB nA nB cA cB w22 hrA hrB (jle _) (jle _) hnA hnB (fun b hb=>jlt (yfQ hb) (by decide)) (fun b hb=>jlt (yfQ hb) (by decide)) (yeP yhF) (yeP ygt);rw [ypP] at hc;refine yaG rfl 16 #[.agg (spC spv1 AA nA cA),.agg (spC spv2 AB nB cB)] (yao _ (.tmp 126) (.tmp 127) _ rfl _ _ rfl rfl (jeo Tryz.func16 (by kernel_rfl) rfl _ _)) (hc.mono ?_);clear hc;rintro e w23 ⟨rfl,hg⟩;have HG:=jh (yab HG.out hg (by simp));have H1:=jh (H1.out.kept hg);have H2:=jh (H2.out.kept hg);have H3:=jh (H3.out.kept hg);have H4:=jh (H4.out.kept hg);have H5:=jh (H5.out.kept hg);have H6:=jh (H6.out.kept hg);clear hg;refine ⟨_,rfl,?_⟩;simp only [jp,jb,jz,js];clear hxA hrA hnA hxB hrB hnB;refine yad rfl (.bool true) (by go_simp <;> rfl) ?_;simp only [jp,jb,jz,js];refine yac rfl (.bool true) (yax (.tmp 125) (.tmp 129) _ rfl true rfl _ rfl) ?_;simp only [jp,jb,jz,js];refine zg (.bool true) ?_;simp only [jp,jb,jz,js];refine jwn ?_;go_wp2_with fail
 go_ret
 exact ⟨rfl,HG.out⟩
theorem ykH {b:ByteArray} {s:SpV} {chain:Nat} (h:ybR b chain = .ok s):ybt s chain = 0 /\ spL s = b.data.toList /\ s.time < 18446744073709551616 /\ s.epoch < 18446744073709551616 /\ ∃ T,getR b (bkA3 b) (sumS (bkC b)) chain = .ok (s.all,T) /\ sumS (bkC b) <= 512:=by
 unfold ybR at h;split at h
 ·cases h
 rename_i hch
 split at h
 ·cases h
 rename_i hsz
 split at h
 ·cases h
 rename_i hd
 split at h
 ·cases h
 rename_i hE
 cases hg:getR b (bkA3 b) (sumS (bkC b)) chain with
 | error e=>rw [hg] at h;cases h
 | ok q =>
  obtain ⟨L,T⟩:=q;rw [hg] at h;unfold ynn at h;dsimp only at h;split at h
  ·cases h
  rename_i hT
  have hs:=Except.ok.inj h;clear h;have hE:txE b = 0:=Decidable.not_not.1 hE;have hd:b.data.toList.getD 0 0 = 1:=Decidable.not_not.1 hd;obtain ⟨e3,e5⟩:=kE_0 (show kE (bkE3 b) _ = 0 from hE)
  have hsum:sumS (bkC b) <= 512:=by
   refine Nat.le_of_not_lt fun hc=>?_;rw [if_pos hc] at e5;cases e5
  have e2:bkE2 b = 0:=by
   refine Decidable.byContradiction fun hc=>?_;unfold bkE3 at e3;rw [if_neg hc] at e3;exact hc e3
  have e3n:nuE b (bkA2 b) (bkN b) 0 = 0:=by unfold bkE3 at e3;rw [if_pos e2] at e3;exact e3
  have e1:bkE1 b = 0:=by
   refine Decidable.byContradiction fun hc=>?_;unfold bkE2 at e2;rw [if_neg hc] at e2;exact hc e2
  have e2b:btE b (bkA1 b) (bkN b) 0 = 0:=by unfold bkE2 at e2;rw [if_pos e1] at e2;exact e2
  obtain ⟨e1a,e16⟩:=kE_0 (show kE (kE (noE b (hdA b) (hdE b)) _) _ = 0 from e1);obtain ⟨e1n,e10⟩:=kE_0 e1a
  have hn0:0 < bkN b:=by
   refine Nat.pos_of_ne_zero fun hc=>?_;rw [if_pos hc] at e10;cases e10
  have hn16:bkN b <= 16:=by
   refine Nat.le_of_not_lt fun hc=>?_;rw [if_pos hc] at e16;cases e16
  obtain ⟨n0,n1,n2,n3,n4⟩:=yf2 e1n;obtain ⟨t0,t1,t2,t3,t4⟩:=ydP (show tkE b (hdA2 b) 40 (hdE2 b) = 0 from n0);obtain ⟨p0,p1,p2,p3,p4⟩:=yf2 (show noE b (hdA1 b) (hdE1 b) = 0 from t0);obtain ⟨_,m1,m2,m3,m4⟩:=yf2 (show noE b 1 0 = 0 from p0);have hA:hdA b = hdA2 b + 40:=t2;obtain ⟨_,c1,c2,c3,c4⟩:=yd2 e2b;obtain ⟨_,d1,d2,d3,d4⟩:=ydt (a:=bkA2 b) (by unfold bkA2;rw [if_pos e1];exact c2) (by omega) e3n;have hA2:bkA2 b = btA b (bkA1 b) (bkN b) 0:=by unfold bkA2;rw [if_pos e1]
  have hA3:bkA3 b = nuA b (bkA2 b) (bkN b) 0:=by unfold bkA3;rw [if_pos e2]
  have hL:bkL b = btL b (bkA1 b) (bkN b) 0:=by unfold bkL;rw [if_pos e1]
  have hC:bkC b = nuN b (bkA2 b) (bkN b) 0:=by unfold bkC;rw [if_pos e2,if_pos e3n]
  obtain ⟨g0,g1,g2,g3,g4⟩:=yet (a:=bkA3 b) (by rw [hA3];exact d2) hsum hg;obtain ⟨s1,s2⟩:=yl1 _ hsum;obtain ⟨k1,k2,k3,k4⟩:=yew (bkL b) (bkC b) L (by rw [hL,hC,c4,d4]) (by rw [g1,s1]);have hall:s.all = L:=by rw [<- hs];exact k3
  have hbl:s.blocks.length = bkN b:=by rw [<- hs];exact k4.trans (by rw [hC];exact d4)
  have hcn:ycf s = (bkC b).map fun (x:Nat)=>(x:Int):=by rw [yjW,<- hs];exact congrArg _ k2
  have hor:s.blocks.map BkV.origin = bkL b:=by rw [<- hs];exact k1
  have hpa:s.parent.data.toList = (b.data.toList.drop (hdA2 b)).take 20:=by rw [<- hs];exact ybj _ _ _
  have hha:s.hash.data.toList = (b.data.toList.drop (hdA2 b + 20)).take 20:=by rw [<- hs];exact ybj _ (hdA2 b + 20) 20
  have hpz:s.parent.size = 20:=by rw [<- yan,hpa,jc0,List.length_drop,yan];omega
  have hhz:s.hash.size = 20:=by rw [<- yan,hha,jc0,List.length_drop,yan];omega
  have hti:s.time = noN b 1 0:=by rw [<- hs]
  have hep:s.epoch = noN b (hdA1 b) (hdE1 b):=by rw [<- hs]
  refine ⟨?_,?_,by rw [hti];exact m4,by rw [hep];exact p4,T,by rw [hall],hsum⟩
  ·unfold ybt;rw [hpz,hhz,hbl,hall,if_neg (by simp;omega),if_neg (by omega)];exact g0
  ·have q0:(b.data.toList.drop 0).take (1 - 0) = [1]:=by
    cases hb:b.data.toList with
    | nil=>have:=yan b;rw [hb] at this;exact absurd this.symm hsz
    | cons x l=>rw [hb] at hd;have:x = 1:=hd;rw [this];rfl
   have q1:(b.data.toList.drop 1).take (hdA1 b - 1) = varL s.time:=by
    have e:hdA1 b = 1 + (varL (noN b 1 0)).length:=m1;rw [hti,e,jc3];exact m3
   have q2:(b.data.toList.drop (hdA1 b)).take (hdA2 b - hdA1 b) = varL s.epoch:=by
    have e:hdA2 b = hdA1 b + (varL (noN b (hdA1 b) (hdE1 b))).length:=p1;rw [hep,e,jc3];exact p3
   have l1:1 <= hdA1 b:=by have e:hdA1 b = 1 + (varL (noN b 1 0)).length:=m1;omega
   have l2:hdA1 b <= hdA2 b:=by have e:hdA2 b = hdA1 b + (varL (noN b (hdA1 b) (hdE1 b))).length:=p1;omega
   have q3:(b.data.toList.drop (hdA2 b)).take (hdA2 b + 20 - hdA2 b) = s.parent.data.toList:=by rw [jc3,hpa]
   have q4:(b.data.toList.drop (hdA2 b + 20)).take (hdA2 b + 40 - (hdA2 b + 20)) = s.hash.data.toList:=by rw [show hdA2 b + 40 - (hdA2 b + 20) = 20 by omega,hha]
   have eN:noN b (hdA b) (hdE b) = s.blocks.length:=hbl.symm;have eA1:bkA1 b = hdA2 b + 40 + (varL s.blocks.length).length:=by have e:bkA1 b = hdA b + (varL (noN b (hdA b) (hdE b))).length:=n1;rw [e,eN,hA]
   have q5:(b.data.toList.drop (hdA2 b + 40)).take (bkA1 b - (hdA2 b + 40)) = varL s.blocks.length:=by rw [eA1,jc3,<- eN,<- hA];exact n3
   have eA2:bkA2 b = bkA1 b + (yaT (s.blocks.map BkV.origin)).length:=by rw [hA2,hor,hL];exact c1
   have q6:(b.data.toList.drop (bkA1 b)).take (bkA2 b - bkA1 b) = yaT (s.blocks.map BkV.origin):=by rw [eA2,jc3,hor,hL];exact c3
   have eA3:bkA3 b = bkA2 b + (rowL (ycf s)).length:=by rw [hA3,hcn,hC];exact d1
   have q7:(b.data.toList.drop (bkA2 b)).take (bkA3 b - bkA2 b) = rowL (ycf s):=by rw [eA3,jc3,hcn,hC];exact d3
   have q8:(b.data.toList.drop (bkA3 b)).take (T - bkA3 b) = yd0 s.all:=by rw [hall];exact g4
   have h:=yaL (by omega) g2 q7 q8;have h:=yaL (by omega) (by omega) q6 h;have h:=yaL (by omega) (by omega) q5 h;have h:=yaL (by omega) (by omega) q4 h;have h:=yaL (by omega) (by omega) q3 h;have h:=yaL l2 (by omega) q2 h;have h:=yaL l1 (by omega) q1 h;have h:=yaL (by omega) (by omega) q0 h;unfold spL;rw [<- h,List.drop_zero,jtl (by rw [yan];omega)]
theorem ypw (s:ByteArray) (ch:Nat) (w1:World) (hch:ch < 18446744073709551616) :
  Calls jq 5 #[.string s,.int .u64 (ch:Int)] w1 fun e w'=>e = .returned (.bool true) /\ w1.grownBy w' none:=by
 have HCH:=jh hch;have HG:=jh (jr w1 none);clear hch;go_enter Tryz.func5,Tryz.ntmps5
 go_upto_region 1 with (fail)
 refine jwl ?_;have hc:=ydL w1;refine yah rfl 7 #[] (ydC _ rfl (jeo Tryz.func7 (by kernel_rfl) rfl _ _)) (hc.mono ?_);clear hc;rintro e w2 ⟨rfl,hg⟩;have HG:=jh (yab HG.out hg (by simp));clear hg;refine ⟨_,rfl,?_⟩;simp only [jp,jb,jz,js];refine zg (.bool true) ?_;simp only [jp,jb,jz,js];refine jwn ?_;by_cases hbig:2500 < s.size
 ·have q:(2500:Int) < (s.size:Int):=by omega
  clear hbig;go_wp2_with fail
  go_ret
  exact ⟨rfl,HG.out⟩
 have q:decide ((2500:Int) < (s.size:Int)) = false:=decide_eq_false (by omega);have HSZ:=jh (show s.size <= 2500 by omega);clear hbig;go_upto_region 6 with (fail)
 refine jwl ?_;clear q;refine zm 0 (.string s) rfl ?_;refine zm 1 (.int .u64 (ch:Int)) rfl ?_;simp only [jp,jb,jz,js];refine yah rfl 17 #[.string s,.int .u64 (ch:Int)] (yao _ (.tmp 18) (.tmp 19) _ rfl _ _ rfl rfl (jeo Tryz.func17 (by kernel_rfl) rfl _ _)) ((yd9 s ch w2 (by have:=HSZ.out;omega) HCH.out).mono ?_);rintro e w3 ⟨hg,hh⟩;have HG:=jh (yab HG.out hg (by simp));rcases hh with ⟨E,hE,hge,rfl⟩ | ⟨S,A2,n2,c2,hge,rfl,hr,hrow⟩
 ·clear hge hg;refine ⟨_,rfl,?_⟩;simp only [jp,jb,jz,js];refine zm 20 (.tuple #[.agg (spC SpV.none_ none 0 0),.int .i64 E]) rfl ?_;simp only [jp,jb,jz,js];refine zg (.agg (spC SpV.none_ none 0 0)) ?_;simp only [jp,jb,jz,js];refine zg (.int .i64 E) ?_;simp only [jp,jb,jz,js];refine yac rfl (.pointer (some ⟨w3.heap.size,0,none⟩)) (w':=w3.alloc (.cells spZ 25)) (by unfold spZ;go_simp <;> rfl) ?_;simp only [jp,jb,jz,js];refine jsw rfl 25 (.tmp 6) (.tmp 21) rfl w3.heap.size (spC SpV.none_ none 0 0) rfl rfl 25 spZ (Blk.new w3 _ _) (by kernel_rfl) rfl (by simp [ja2,spC]) ?_;(try simp only [jp,jb,jz,js]);obtain ⟨hbx,hga⟩:=SpBx.new (W:=w3) (S:=SpV.none_) (A:=none) (n:=0) (c:=0) (z:=spZ) (yhY _ _) (by decide);obtain ⟨b1,hge⟩:∃ x,w3.heap.size = x:=⟨_,rfl⟩;rw [hge] at hbx hga ⊢;have HG:=jh (yab HG.out hga (by simp));have H1:=jh hbx;clear hbx hga;generalize (w3.alloc (.cells spZ 25)).setRow b1 (spC SpV.none_ none 0 0) = w4 at *;clear hge;refine zg (.int .i64 E) ?_;simp only [jp,jb,jz,js];refine jwn ?_;have q1:(E != 0) = true:=by simpa using hE
  clear hE;go_upto_region 8 with (fail)
  refine jwl ?_;clear q1;refine zm 5 (.bool true) rfl ?_;refine zm 25 (.bool true) rfl ?_;simp only [jp,jb,jz,js];obtain ⟨AA,nA,cA,hxA,hrA,hnA⟩:=H1.out;refine yad rfl (.agg (spC SpV.none_ AA nA cA)) (yai rfl rfl 25 _ _ hxA ja3 rfl (by kernel_rfl)) ?_;simp only [jp,jb,jz,js];refine yad rfl (.agg spZ) (by unfold spZ;go_simp <;> rfl) ?_;simp only [jp,jb,jz,js];have hc:=ycL SpV.none_ SpV.none_ _ 0 AA none nA 0 cA 0 w4 hrA (yhY _ _) (jle _) (Nat.zero_le _) hnA (by decide) (fun b hb=>by cases hb) (fun b hb=>by cases hb) (fun b hb=>by cases hb) (fun b hb=>by cases hb);rw [decide_eq_true rfl] at hc;refine yaG rfl 16 #[.agg (spC SpV.none_ AA nA cA),.agg (spC SpV.none_ none 0 0)] (yao _ (.tmp 27) (.tmp 28) _ rfl _ _ rfl rfl (jeo Tryz.func16 (by kernel_rfl) rfl _ _)) (hc.mono ?_);clear hc;rintro e w5 ⟨rfl,hg⟩;have HG:=jh (yab HG.out hg (by simp));have H1:=jh (H1.out.kept hg);clear hg;refine ⟨_,rfl,?_⟩;simp only [jp,jb,jz,js];clear hxA hrA hnA;refine yac rfl (.bool true) (yax (.tmp 26) (.tmp 29) _ rfl true rfl _ rfl) ?_;simp only [jp,jb,jz,js];refine zg (.bool true) ?_;simp only [jp,jb,jz,js];refine jwn ?_;go_wp2_with fail
  go_ret
  exact ⟨rfl,HG.out⟩
 ·obtain ⟨hck,hl,ht,hep,T,hgr,h512⟩:=ykH hge
  have ok:S.Ok:=⟨ht,hep,fun t ht=>by
   obtain ⟨b,hb,hb2⟩:=List.mem_flatMap.1 ht;exact (hrow b hb t hb2).ok⟩
  have hn:S.blocks.length <= 16:=(ycU hck).2.2.2.1
  have hal:S.all.length <= 512:=by
   have h1:1 <= s.size:=by
    refine Nat.pos_of_ne_zero fun h0=>?_;unfold ybR at hge;rw [if_pos h0] at hge;split at hge <;> cases hge
   have:=(yet (yfx s h1).2.2.2 h512 hgr).2.1;omega
  have hs2:(⟨(spL S).toArray⟩:ByteArray) = s:=by refine ycW ?_;rw [hl]
  have HOK:=jh ok;have HAL:=jh hal;have HCK:=jh hck;have HS2:=jh hs2;have hn2:n2 <= 9223372036854775807:=by have:=hr.1;omega
  clear hge hg hck hl ht hep hgr h512 ok hn hal hs2 hrow;refine ⟨_,rfl,?_⟩;simp only [jp,jb,jz,js];refine zm 20 (.tuple #[.agg (spC S A2 n2 c2),.int .i64 0]) rfl ?_;simp only [jp,jb,jz,js];refine zg (.agg (spC S A2 n2 c2)) ?_;simp only [jp,jb,jz,js];refine zg (.int .i64 0) ?_;simp only [jp,jb,jz,js];refine yac rfl (.pointer (some ⟨w3.heap.size,0,none⟩)) (w':=w3.alloc (.cells spZ 25)) (by unfold spZ;go_simp <;> rfl) ?_;simp only [jp,jb,jz,js];refine jsw rfl 25 (.tmp 6) (.tmp 21) rfl w3.heap.size (spC S A2 n2 c2) rfl rfl 25 spZ (Blk.new w3 _ _) (by kernel_rfl) rfl (by simp [ja2,spC]) ?_;(try simp only [jp,jb,jz,js]);obtain ⟨hbx,hga⟩:=SpBx.new (W:=w3) (S:=S) (A:=A2) (n:=n2) (c:=c2) (z:=spZ) hr hn2;obtain ⟨b1,hge⟩:∃ x,w3.heap.size = x:=⟨_,rfl⟩;rw [hge] at hbx hga ⊢;have HG:=jh (yab HG.out hga (by simp));have H1:=jh hbx;clear hbx hga;generalize (w3.alloc (.cells spZ 25)).setRow b1 (spC S A2 n2 c2) = w4 at *;clear hge;refine zg (.int .i64 0) ?_;simp only [jp,jb,jz,js];refine jwn ?_;clear hr hn2;go_upto_region 9 with (fail)
  refine jwl ?_;obtain ⟨AA,nA,cA,hxA,hrA,hnA⟩:=H1.out;refine wpList_load_row rfl 25 (.tmp 6) rfl b1 rfl 25 (spC S AA nA cA) (0,0) _ hxA ja3 rfl (by kernel_rfl) ?_;simp only [jp,jb,jz,js];refine zm 1 (.int .u64 (ch:Int)) rfl ?_;simp only [jp,jb,jz,js];have hc:=ycM S _ AA nA cA ch w4 hrA (jle _) hnA (by have:=HAL.out;omega) HOK.out;rw [ydr HCK.out,HS2.out,HCK.out] at hc;refine yah rfl 11 #[.agg (spC S AA nA cA),.int .u64 (ch:Int)] (yao _ (.tmp 32) (.tmp 33) _ rfl _ _ rfl rfl (jeo Tryz.func11 (by kernel_rfl) rfl _ _)) (hc.mono ?_);clear hc;rintro e w5 ⟨rfl,hg⟩;have HG:=jh (yab HG.out hg (by simp));have H1:=jh (H1.out.kept hg);clear hg;refine ⟨_,rfl,?_⟩;simp only [jp,jb,jz,js];clear hxA hrA hnA;refine zm 34 (.tuple #[.string s,.int .i64 0]) rfl ?_;simp only [jp,jb,jz,js];refine zg (.string s) ?_;simp only [jp,jb,jz,js];refine zg (.int .i64 0) ?_;simp only [jp,jb,jz,js];refine zg (.string s) ?_;simp only [jp,jb,jz,js];refine zg (.int .i64 0) ?_;simp only [jp,jb,jz,js];refine jwn ?_;go_upto_region 10 with (fail)
  refine jwl ?_;refine zm 5 (.bool true) rfl ?_;refine zm 37 (.bool true) rfl ?_;simp only [jp,jb,jz,js];refine yad rfl (.int .i64 0) (yaq (.tmp 9) rfl _ rfl) ?_;simp only [jp,jb,jz,js];refine yad rfl (.bool true) (by go_simp <;> rfl) ?_;simp only [jp,jb,jz,js];refine yac rfl (.bool true) (yax (.tmp 38) (.tmp 40) _ rfl true rfl _ rfl) ?_;simp only [jp,jb,jz,js];refine zm 41 (.bool true) rfl ?_;simp only [jp,jb,jz,js];refine yad rfl (.string s) (yaq (.tmp 8) rfl _ rfl) ?_;simp only [jp,jb,jz,js];refine yad rfl (.string s) (yaq (.tmp 0) rfl _ rfl) ?_;simp only [jp,jb,jz,js];refine yad rfl (.bool true) (by go_simp <;> first | rfl | simp) ?_;simp only [jp,jb,jz,js];refine yac rfl (.bool true) (yax (.tmp 42) (.tmp 45) _ rfl true rfl _ rfl) ?_;simp only [jp,jb,jz,js];refine zm 46 (.bool true) rfl ?_;simp only [jp,jb,jz,js];obtain ⟨AA,nA,cA,hxA,hrA,hnA⟩:=H1.out;refine yad rfl (.agg (spC S AA nA cA)) (yai rfl rfl 25 _ _ hxA ja3 rfl (by kernel_rfl)) ?_;simp only [jp,jb,jz,js];refine yad rfl (.int .u64 (ch:Int)) (yaq (.tmp 1) rfl _ rfl) ?_;simp only [jp,jb,jz,js];have hc:=yde S _ AA nA cA ch w5 hrA (jle _) hnA (by have:=HAL.out;omega) HOK.out.txs;rw [HCK.out] at hc;refine yaG rfl 14 #[.agg (spC S AA nA cA),.int .u64 (ch:Int)] (yao _ (.tmp 48) (.tmp 49) _ rfl _ _ rfl rfl (jeo Tryz.func14 (by kernel_rfl) rfl _ _)) (hc.mono ?_);clear hc;rintro e w6 ⟨rfl,hg⟩;have HG:=jh (yab HG.out hg (by simp));have H1:=jh (H1.out.kept hg);clear hg;refine ⟨_,rfl,?_⟩;simp only [jp,jb,jz,js];clear hxA hrA hnA;refine yad rfl (.bool true) (by go_simp <;> rfl) ?_;simp only [jp,jb,jz,js];refine yac rfl (.bool true) (yax (.tmp 47) (.tmp 51) _ rfl true rfl _ rfl) ?_;simp only [jp,jb,jz,js];refine zg (.bool true) ?_;simp only [jp,jb,jz,js];refine jwn ?_;go_wp2_with fail
  go_ret
  exact ⟨rfl,HG.out⟩
open Go.ChangeShapes Go.WideShapes Go.ChangeAt Go.RowKit Go.Deep Go.Joins
section
variable {H:Type} {enc:TypeId × Value -> H} {P:Program} {w:World} {base:Nat} {spare:Nat -> Bool} {held:Bool}
theorem ycO {t e:TypeId} {fs:Array Field} {fuel:Nat} {cs:List Value} {x:DataW H × List MemPlace} (ht:P.underlying t = some (.slice e)) (he:P.underlying e = some (.struct fs))
  (hone:oneCellFields P fs = true) (hC:P.cellsOf e = fs.size) (h:DataW.trod enc P w base spare held fuel t cs = some x) :
  (cs = [.slice none 0 0] /\ x = (.nil,[])) \/
  ∃ (a:Addr) (len cap m:Nat) (D:Nat -> DataW H) (Pl:Nat -> List MemPlace),cs = [.slice (some a) len cap] /\ base <= a.block /\ len <= cap /\ cap <= maxLen /\ m = (if spare a.block then cap else len) /\
   x = (.slice ((List.range len).map D) ((List.range (m - len)).map fun j=>D (len + j)),MemPlace.row a (m * fs.size) ++ (List.range m).flatMap Pl) /\
   ∀ i,i < m -> ∃ (ys:List (DataW H × List MemPlace)) (n:Nat),D i = .agg (ys.map (·.1)) /\ Pl i = ys.flatMap (·.2) /\ ys.length = fs.size /\
    ∀ (j:Nat) (f:Field),fs[j]? = some f -> ∃ (v:Value) (y:DataW H × List MemPlace),w.cell? (a.add (i * fs.size + j)) = some v /\ ys[j]? = some y /\ DataW.trod enc P w base spare held n f.type [v] = some y:=by
 rcases open_slice ht h with h0 | ⟨a,len,cap,m,n,D,Pl,hcs,hb,hl,hm,hmm,hx,hi⟩
 ·exact .inl h0
 ·refine .inr ⟨a,len,cap,m,D,Pl,hcs,hb,hl,hm,hmm,by rw [hC] at hx;exact hx,fun i him=>?_⟩;obtain ⟨cs',hc,ht'⟩:=hi i him;rw [hC] at hc;obtain ⟨ys,n',hn',hy,hlen,hyl,hf⟩:=DataW.trod_struct he ht';obtain ⟨_,hcl,hat⟩:=World.cells?_some hc;simp only [Prod.mk.injEq] at hy;refine ⟨ys,n',hy.1,hy.2,hyl,fun j f hj=>?_⟩;obtain ⟨ho,hk⟩:=hone_of hone j f hj;have hjl:j < fs.size:=(jes.1 hj).1;have hcell:=hat j hjl;have hv:cs'[j]? = some (cs'[j]'(by omega)):=je (by omega);have h1:=hf j f hj;rw [ho,hk] at h1
  have hone':(cs'.drop j).take 1 = [cs'[j]'(by omega)]:=by
   rw [jdc (by omega)];rfl
  rw [hone'] at h1;have hys:ys[j]? = some (ys[j]'(by omega)):=je (by omega);refine ⟨_,_,?_,hys,h1.trans hys⟩;rw [<- Go.Deep.add_add,hcell,hv]
end
section
variable {H:Type} {enc:TypeId × Value -> H} {P:Program} {w:World} {base:Nat} {spare:Nat -> Bool} {held:Bool}
theorem ylW {r:Reach} {b0:Nat} {t:TypeId} {f0 f1 f2 f3 f4:Field} {v:Value} {d:DataW H} {p:List MemPlace} (hs:P.underlying t = some (.struct #[f0,f1,f2,f3,f4])) (hone:oneCellFields P #[f0,f1,f2,f3,f4] = true) (hC:P.cellsOf t = 5)
  (hv:Value.okWide P w r b0 t v) (h:DataW.Trod enc P w base spare held t v d p) :
  ∃ (v0 v1 v2 v3 v4:Value) (y0 y1 y2 y3 y4:DataW H × List MemPlace) (n:Nat),v = .agg #[v0,v1,v2,v3,v4] /\ d = .agg [y0.1,y1.1,y2.1,y3.1,y4.1] /\ p = y0.2 ++ (y1.2 ++ (y2.2 ++ (y3.2 ++ y4.2))) /\
   DataW.trod enc P w base spare held n f0.type [v0] = some y0 /\ DataW.trod enc P w base spare held n f1.type [v1] = some y1 /\ DataW.trod enc P w base spare held n f2.type [v2] = some y2 /\ DataW.trod enc P w base spare held n f3.type [v3] = some y3 /\ DataW.trod enc P w base spare held n f4.type [v4] = some y4:=by
 obtain ⟨cs,rfl,hsz⟩:=okWide_struct hs hv;obtain ⟨l⟩:=cs
 match l,hsz.trans hC with
 | [c0,c1,c2,c3,c4],_ =>
  obtain ⟨fuel,hf⟩:=h;obtain ⟨xs,n,_,hx,_,hlen,hg⟩:=DataW.trod_struct hs hf;obtain ⟨o0,k0⟩:=hone_of hone 0 f0 rfl;obtain ⟨o1,k1⟩:=hone_of hone 1 f1 rfl;obtain ⟨o2,k2⟩:=hone_of hone 2 f2 rfl;obtain ⟨o3,k3⟩:=hone_of hone 3 f3 rfl;obtain ⟨o4,k4⟩:=hone_of hone 4 f4 rfl
  match xs,hlen with
  | [y0,y1,y2,y3,y4],_ =>
   simp only [Prod.mk.injEq] at hx;exact ⟨c0,c1,c2,c3,c4,y0,y1,y2,y3,y4,n,rfl,by simpa using hx.1,by simpa using hx.2,by simpa [Value.cells,o0,k0] using hg 0 f0 rfl,by simpa [Value.cells,o1,k1] using hg 1 f1 rfl,by simpa [Value.cells,o2,k2] using hg 2 f2 rfl,by simpa [Value.cells,o3,k3] using hg 3 f3 rfl,by simpa [Value.cells,o4,k4] using hg 4 f4 rfl⟩
end
section
variable {H:Type} {enc:TypeId × Value -> H} {P:Program}
end
section
variable {H:Type} {enc:TypeId × Value -> H} {P:Program} {w:World} {base:Nat} {spare:Nat -> Bool} {held:Bool}
theorem ycc {a:Int} (h:(Lit.int .u64 a).wf = true):0 <= a /\ a <= 18446744073709551615:=by simpa [Lit.wf,IntKind.min,IntKind.max,IntKind.signed,IntKind.bits] using h
end
section
variable {H:Type} {enc:TypeId × Value -> H} {P:Program}
theorem yea (hl:laidOutB P = true) {W W':World} (hb:Below W.heap.size W W'):∀ {ts:List TypeId} {vs:List Value} {ds:List (DataW H)} {ps:List MemPlace},
  (ts.all fun t=>P.readableRec t && decide (t < P.types.size)) = true -> DataW.TrodAll enc P W 0 (fun _=>true) true ts vs ds ps -> DataW.TrodAll enc P W' 0 (fun b=>decide (b < W.heap.size)) true ts vs ds ps
 | [],[],[],_,_,h=>h
 | [],[],_ :: _,_,_,h=>h.elim
 | [],_ :: _,_,_,_,h=>h.elim
 | _ :: _,[],_,_,_,h=>h.elim
 | _ :: _,_ :: _,[],_,_,h=>h.elim
 | t :: ts,v :: vs,d :: ds,ps,hT,h=>by
  obtain ⟨p,q,h1,h2,e⟩:=h;simp only [List.all_cons,Bool.and_eq_true,decide_eq_true_eq] at hT;refine ⟨p,q,Below.trod hl hT.1.1 hT.1.2 h1 hb ?_,yea hl hb (by simpa using hT.2) h2,e⟩;obtain ⟨m,hm⟩:=h1;exact DataW.trod_lt m _ _ _ hm
theorem ypO {f:Func} {s:ChangeSpec} {W W':World} {args:Array Value} {ds gs:List (DataW H)} {before:List MemPlace} {tb:TypeId} (hv:s.vars = []) (hl:laidOutB P = true)
  (hT:(f.params.toList.all fun t=>P.readableRec t && decide (t < P.types.size)) = true) (hr:f.resultTypes = #[tb]) (hb:P.underlying tb = some .bool)
  (hs:s.fn H (ds ++ gs) = { results:=[.lit (.bool true)],args:=ds })
  (hW:DataW.Whole enc P f.params.toList s.vars false W args.toList ds gs before) (bel:Below W.heap.size W W') :
  s.post enc P f false true false false W args (.bool true) W':=by
 have hW':=hW;obtain ⟨p,q,hA,hV,he,hz,hn⟩:=hW;rw [hv] at hV;have hV':=hV;obtain rfl:gs = []:=by cases gs with | nil=>rfl | cons _ _=>exact hV.elim
 obtain rfl:q = []:=hV;refine ⟨ds,[],before,[],p,[],hW',?_,?_,?_,bel.frame _,fun h=>by cases h⟩
 ·rw [hs,hr];exact trodAll_mk1 (shut_bool hb _)
 ·rw [hs];exact yea hl bel hT hA
 ·rw [hs,hv];rfl
end
end Go.Proofs.YtmaggfokhlodnaaGreatDoor
