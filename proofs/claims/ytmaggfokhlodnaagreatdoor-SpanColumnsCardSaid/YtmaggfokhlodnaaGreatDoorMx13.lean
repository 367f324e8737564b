/- Merged: SpI, SpJ, SpK, SpL0, SpL, SpM1. -/
import Derived.Test.YtmaggfokhlodnaaGreatDoorMx1
import Derived.Test.YtmaggfokhlodnaaGreatDoorMx3
import Derived.Test.YtmaggfokhlodnaaGreatDoorMx5
import Derived.Test.YtmaggfokhlodnaaGreatDoorMx7
import Derived.Test.YtmaggfokhlodnaaGreatDoorMx9
import Derived.Test.YtmaggfokhlodnaaGreatDoorMx11
import Derived.Test.YtmaggfokhlodnaaGreatDoorMx12
namespace Go.Proofs.YtmaggfokhlodnaaGreatDoor
open Go.RowKit Go.Shelf
open List renaming set_cons_zero → jz, set_cons_succ → js, setIfInBounds_toArray → jb
set_option linter.unusedVariables false
set_option linter.unusedSimpArgs false
set_option maxRecDepth 100000
set_option maxHeartbeats 16000000
open Lib renaming hid → jh
open Act renaming put → jp
open World.grownBy renaming refl → jr
open _root_.List renaming getD_eq_getElem?_getD → jg, getElem?_eq_getElem → je, getElem?_cons_zero → jcz, getElem?_cons_succ → jcs, getElem?_toArray → jta, length_append → jla, getElem?_append_right → jar, getElem?_append_left → jal, take_succ_eq_append_getElem → jtk, take_of_length_le → jtl, length_cons → jlc, getElem?_map → jgm, getElem?_take_of_lt → ja9, length_take → jc0, getElem_mem → jc1, replicate → jc4, cons_append → jc9, take_append_drop → jd0, length_map → jd8
open _root_.Option.some renaming inj → ji
open _root_.Array renaming getElem?_eq_some_iff → jes
open _root_.Int renaming toNat_natCast → jnc
open World renaming ownsRow_nil → jon
open _root_.Nat renaming le_trans → jlt, le_refl → jle, lt_of_lt_of_le → jb6, zero_add → je1
open _root_.Go.Proofs.Tryz renaming prog → jq, underlying25 → ja3, underlying22 → jb3, underlying9 → jb8, underlying3 → jb9
open Go renaming wp_region_list → jwl, wpList_nil → jwn, bodyPost_ret → jbr, wpAnyH_done → jwd, wp_region_held → jwh, setRow_other → jso, run_append_own_at → jra, wpList_store_row → jsw
open _root_.Go.Proofs renaming enters_of → jeo
open Value renaming oneCell' → ja2, ownBlock → jb1, bool → jc7, int → je3
structure PuR (z:Nat) (gs:Nat) (cs:Array Value) (gk:Nat) (o:Bool) (T:Option Addr) (m tc:Nat) (v7 v8:Value) (j7 j8:Nat) (xs ys:List Value) (w u:World):Prop where
 fa:u.ownsRow z 4 1 v7 j7 xs
 fb:u.ownsRow z 22 1 v8 j8 ys
 fk:Blk u gk 41 #[.bool o,.slice T m tc]
 fs:Blk u gs 25 cs
 fg:w.grownBy u none
 fz:z <= u.heap.size
 fw:w.heap.size <= z
theorem PuR.kept {z gs gk j7 j8 m tc:Nat} {cs:Array Value} {o:Bool} {T:Option Addr} {v7 v8:Value} {xs ys:List Value} {w u u':World} (h:PuR z gs cs gk o T m tc v7 v8 j7 j8 xs ys w u) (hg:u.grownBy u' none):PuR z gs cs gk o T m tc v7 v8 j7 j8 xs ys w u':=by
 have f:∀ {e:TypeId} {v:Value} {j:Nat} {xs:List Value},u.ownsRow z e 1 v j xs -> u'.ownsRow z e 1 v j xs:=fun ho=>by
  obtain ⟨A,c,rfl⟩:=yb4 ho;exact ho.kept hg (by cases A;exact .inl rfl;exact .inr (by simp [jb1]))
 exact ⟨f h.fa,f h.fb,h.fk.grown hg (by simp),h.fs.grown hg (by simp),yab h.fg hg (by simp),jlt h.fz hg.size,h.fw⟩
structure PuS (g:Nat) (cs:Array Value) (B1:Nat) (A7 A8:Option Addr) (n:Nat) (xs ys:List Value) (w u:World):Prop where
 fs:Blk u g 25 cs
 fg:w.grownBy u none
 f7:Reads u B1 1 A7 n xs
 f8:Reads u B1 1 A8 n ys
 fB:B1 <= u.heap.size
theorem PuS.kept {g B1 n:Nat} {cs:Array Value} {A7 A8:Option Addr} {xs ys:List Value} {w u u':World} (h:PuS g cs B1 A7 A8 n xs ys w u) (hg:u.grownBy u' none):PuS g cs B1 A7 A8 n xs ys w u' :=
 ⟨h.fs.grown hg (by simp),yab h.fg hg (by simp),h.f7.grown hg h.fB (by simp),h.f8.grown hg h.fB (by simp),jlt h.fB hg.size⟩
theorem ycu {P:Program} {a:Act} {o:Oper} {W:World} (t t':TypeId) (x:Operand) (ho:o.op = .convert t t' x) (v r:Value) (hx:a.eval x = v) (h:(convert t t' v).run P W = .ok r W):(execOp a.eval o).run P W = .ok (.value r) W:=by
 unfold execOp;simp only [ho,hx,Sem.run_bind,Sem.run_pure,Result.andThen_ok,h]
theorem ycN {z j j':Nat} {e e':TypeId} {v v':Value} {xs xs':List Value} {u u':World} (hne:e ≠ e') (h:u.ownsRow z e 1 v j xs) (h':u.ownsRow z e' 1 v' j' xs') (hg:u.grownBy u' v'.ownBlock):u'.ownsRow z e 1 v j xs:=by
 rcases id h with ⟨_,(⟨rfl,_⟩ | ⟨g,cap,cur,rfl,_,hh,_⟩)⟩
 ·exact h.kept hg (.inl rfl)
 ·exact h.kept hg (.inr (by
   intro e;exact yaN h' (show Blk u g _ cur from hh) (fun e=>hne e.symm) e.symm))
theorem ye8 {z j:Nat} {e:TypeId} {v:Value} {xs:List Value} {u:World} (h:u.ownsRow z e 1 v j xs):∀ k,v.ownBlock = some k -> z <= k:=fun k hk=>by
 rcases h.2 with ⟨rfl,_⟩ | ⟨g,cap,cur,rfl,hb,_⟩
 ·cases hk
 ·have:g = k:=by simpa [jb1] using hk
  omega
theorem ycM (s:SpV) (B:Nat) (A:Option Addr) (n c chain:Nat) (w:World) (h:BksR B w s.blocks A n) (hB:B <= w.heap.size) (hn:n <= 9223372036854775807) (hN:s.all.length <= 10000) (ok:s.Ok) :
  Calls jq 11 #[.agg (spC s A n c),.int .u64 (chain:Int)] w fun e w'=>e = .returned (.tuple #[.string ⟨(ydG s chain).toArray⟩,.int .i64 (ybt s chain)]) /\ w.grownBy w' none:=by
 have hl:=h.1;have hg1:=yaa (jr w none) (.cells (spC s A n c) 25);have HCK:=jh (yde s B A n c chain _ (h.grown hg1 hB) (jlt hB hg1.size) hn hN ok.txs);have HALL:=jh (fun (V:World) (hV:w.grownBy V none)=>yfR s B A n c V (h.grown hV hB) (jlt hB hV.size) hn hN);have HBK:=jh (Blk.new w 25 (spC s A n c));have HG1:=jh hg1;obtain ⟨R,hR⟩:∃ R,ybt s chain = R:=⟨_,rfl⟩;obtain ⟨SB,hSB⟩:∃ x:ByteArray,⟨(ydG s chain).toArray⟩ = x:=⟨_,rfl⟩;obtain ⟨cs,hcs⟩:∃ x,spC s A n c = x:=⟨_,rfl⟩;have HC:=jh hcs;have HZ:=jh (show cs.size = 5 by rw [<- hcs];rfl);rw [hcs] at HCK HALL HBK HG1 ⊢;rw [hR] at HCK ⊢;rw [hSB];have HR:=jh hR;have HS:=jh hSB;have HH:=jh h;have HB:=jh hB;have HN:=jh hN;have HOK:=jh ok;clear h hB hN ok hg1 hcs hR hSB;go_enter Tryz.func11,Tryz.ntmps11
 go_upto_region 1 with (fail)
 obtain ⟨g,hg⟩:∃ x,w.heap.size = x:=⟨_,rfl⟩;rw [hg] at HBK ⊢;have HGW:=jh hg;clear hg;generalize w.alloc (.cells cs 25) = w1 at *;refine jwl ?_;refine yac rfl (.agg cs) (yai rfl rfl 25 _ _ HBK.out ja3 rfl ((show (jq.info? 25).map (·.size) = some 5 by kernel_rfl).trans (congrArg some HZ.out.symm))) ?_;simp only [jp,jb,jz,js];go_wp2_with fail
 refine HCK.out.mono ?_;rintro e w2 ⟨rfl,hg2⟩;have HBK2:=jh (HBK.out.grown hg2 (by simp));have HG2:=jh (yab HG1.out hg2 (by simp));clear hg2 HCK HBK HG1;by_cases hR0:R = 0
 rotate_left
 ·have e1:(R != 0) = true:=by simpa using hR0
  have hsb:SB = ⟨#[]⟩:=by rw [<- HS.out];unfold ydG;rw [if_neg (by rw [HR.out];exact hR0)]
  subst hsb;clear hR0;go_wp2_with fail
  go_ret2
  exact ⟨rfl,HG2.out⟩
 subst hR0;obtain ⟨hp,hh,hn0,hn16,hcol⟩:=ycU HR.out;rw [hl] at hn0 hn16;have HP:=jh hp;have HHH:=jh hh;have HN0:=jh hn0;have HN16:=jh hn16;have HCOL:=jh hcol;have c4:w2.cell? ⟨g,4,none⟩ = some (.slice A n c):=(HBK2.out.cell 4).trans (by rw [<- HC.out];rfl);have HL:=jh hl;clear hp hh hn0 hn16 hcol hl;go_wp2_with fail
 clear c4;obtain ⟨z,hz⟩:∃ x,w2.heap.size = x:=⟨_,rfl⟩;have HWZ:=jh (show w.heap.size <= z by rw [<- hz];exact HG2.out.size);go_loopw [24,7,8] (fun i v7 v8 wr=>∃ k:Nat,i = .int .i64 (k:Int) /\ k <= n /\ w.grownBy wr none /\ Blk wr g 25 cs /\ z <= wr.heap.size /\ wr.ownsRow z 4 1 v7 k (((s.blocks.map BkV.origin).take k).map jc7) /\ wr.ownsRow z 22 1 v8 k (((ycf s).take k).map (je3 .u64))) (fun i _ _ _=>n - (intOf i).toNat)
 case atStart=>exact ⟨0,rfl,by omega,HG2.out,HBK2.out,by omega,jon _ _ _ _,jon _ _ _ _⟩
 case round =>
  obtain ⟨k,rfl,hk,hg,hbs,hzr,h7,h8⟩:=hrel;by_cases hlt:k < n
  ·obtain ⟨gb,off,rfl,hgb,hcb⟩:=(HH.out.grown hg HB.out).2 (by omega);obtain ⟨T,m,tc,c0,c1,htx⟩:=hcb k hlt;have q1:(k:Int) < (n:Int):=by omega
   have hm:=htx.1;obtain ⟨bk,hbk⟩:∃ x,s.blocks.getD k BkV.none_ = x:=⟨_,rfl⟩;rw [hbk] at c0 hm;obtain ⟨o,ho⟩:∃ x,bk.origin = x:=⟨_,rfl⟩;rw [ho] at c0;have hkl:k < s.blocks.length:=by have:=HL.out;omega
   have hbe:s.blocks[k] = bk:=by rw [<- hbk,jg,je hkl];rfl
   have HX:=jh (show ((s.blocks.map BkV.origin).take (k + 1)).map jc7 = ((s.blocks.map BkV.origin).take k).map jc7 ++ [.bool o] by
    rw [jtk (by simpa using hkl),List.map_append,List.getElem_map,hbe,ho];rfl)
   have HY:=jh (show ((ycf s).take (k + 1)).map (je3 .u64) = ((ycf s).take k).map (je3 .u64) ++ [.int .u64 (m:Int)] by
    unfold ycf;rw [jtk (by simpa using hkl),List.map_append,List.getElem_map,hbe,hm];rfl)
   have hmm:m <= 10000:=by
    have h1:bk ∈ s.blocks:=by rw [<- hbe];exact jc1 hkl
    have h2:=yfa (List.mem_map_of_mem (f:=BkV.txs) h1);have h3:(s.blocks.map BkV.txs).flatten.length = s.all.length:=by unfold SpV.all;rw [List.flatMap_def]
    have:=HN.out;omega
   have hwm:IntKind.u64.wrap (m:Int) = (m:Int):=by simp [IntKind.wrap,IntKind.bits,IntKind.signed];omega
   have hga:=yaa (jr wr none) (.cells #[.bool o,.slice T m tc] 41);obtain ⟨A7,c7,rfl⟩:=yb4 h7;obtain ⟨A8,c8,rfl⟩:=yb4 h8
   have K0:PuR z g cs wr.heap.size o T m tc (.slice A7 k c7) (.slice A8 k c8) k k (((s.blocks.map BkV.origin).take k).map jc7) (((ycf s).take k).map (je3 .u64)) w (wr.alloc (.cells #[.bool o,.slice T m tc] 41)) :=
    ⟨h7.alloc _,h8.alloc _,Blk.new wr _ _,hbs.grown hga (by simp),yab hg hga (by simp),jlt hzr hga.size,HWZ.out⟩
   obtain ⟨xs,hxs⟩:∃ x,((s.blocks.map BkV.origin).take k).map jc7 = x:=⟨_,rfl⟩;obtain ⟨ys,hys⟩:∃ x,((ycf s).take k).map (je3 .u64) = x:=⟨_,rfl⟩;rw [hxs,hys] at K0;rw [hxs] at HX;rw [hys] at HY;have HK0:=jh K0;have HJ:=jh (show k <= 10000 by have:=HN16.out;omega);have HLT:=jh hlt;clear hcb htx hbk ho hkl hbe hmm hga h7 h8 hbs hg hzr hxs hys K0 hm;go_upto_region 9 with (fail)
   clear c0 c1;obtain ⟨gk,hgk⟩:∃ x,wr.heap.size = x:=⟨_,rfl⟩;rw [hgk] at HK0 ⊢;clear hgk;generalize wr.alloc (.cells #[.bool o,.slice T m tc] 41) = wk at *;have K:=HK0.out;refine jwh (S:=fun V=>Blk V gk 41 #[.bool o,.slice T m tc]) (by kernel_rfl) ?_;change wpAnyH _ _ _ _ _ _ _ _ wk.drew;replace K:=K.kept (yau (jr wk none));clear HK0;generalize wk.drew = u0 at *;have hS0:=K.fk;refine cL 0 28 (.slice A7 k c7) rfl (fun W hW=>by go_simp) hS0 ?_;simp only [jp,jb,jz,js];refine cP gk 1 29 0 rfl hS0 ?_;simp only [jp,jb,jz,js];refine cL 2 30 (.bool o) rfl (fun W hW=>yaj 4 _ rfl _ rfl _ _ Tryz.underlying4 rfl ((Blk.cell hW 0).trans rfl)) hS0 ?_;simp only [jp,jb,jz,js];refine cL 5 33 (.slice A8 k c8) rfl (fun W hW=>by go_simp) hS0 ?_;simp only [jp,jb,jz,js];refine cP gk 6 34 1 rfl hS0 ?_;simp only [jp,jb,jz,js];refine cL 7 35 (.slice T m tc) rfl (fun W hW=>yaj 39 _ rfl _ rfl _ _ Tryz.underlying39 rfl ((Blk.cell hW 1).trans rfl)) hS0 ?_;simp only [jp,jb,jz,js];refine cL 8 36 (.int .i64 (m:Int)) rfl (fun W hW=>by go_simp) hS0 ?_;simp only [jp,jb,jz,js];refine cL 9 37 (.int .u64 (m:Int)) rfl (fun W hW=>by go_simp) hS0 ?_;simp only [jp,jb,jz,js];clear hS0;refine ybm (i:=3) (j:=10) (by kernel_rfl) ?_ ?_
   ·skip
    have hga:=yaa (jr u0 none) (.cells #[.bool o] 4);have hq:=Blk.new u0 4 #[.bool o];replace K:=K.kept hga;refine yaf (some 31) rfl rfl (.slice (some ⟨u0.heap.size,0,none⟩) 1 1) (w':=u0.alloc (.cells #[.bool o] 4)) (by go_simp <;> rfl) rfl K.fk ?_;simp only [jp,jb,jz,js];obtain ⟨q7,hq7⟩:∃ x,u0.heap.size = x:=⟨_,rfl⟩;rw [hq7] at hq ⊢;generalize u0.alloc (.cells #[.bool o] 4) = u1 at *;have Bq7:=hq;clear hga hq hq7;refine ybm (i:=4) (j:=10) (by kernel_rfl) ?_ ?_
    ·skip
     obtain ⟨i0,hi,hz0,hz1,hz2⟩:=info_parts yep;have hJ:=HJ.out
     obtain ⟨v',u2,hrun,hown',hgrow,_,_⟩:=jra (P:=jq) u1 z 53 53 4 i0 _ 1 1 Tryz.underlying53 hi hz0 hz1 hz2 rfl (by decide) (.slice A7 k c7) k xs K.fa ⟨q7,0,none⟩ 1 1 [.bool o] rfl (fun j u hj=>by
      match j,hj with
      | 0,hj=>cases hj;exact Bq7.cell 0) (by simp [ja2]) (by simp only [maxLen];omega) (by omega) K.fz
     obtain ⟨g7,cap7,rfl⟩:=ownsRow_succ hown';have hoth:=ycN (by decide) K.fb K.fa hgrow;have hk:=K.fk.grown hgrow (fun e=>yaN K.fa K.fk (by decide) e.symm);have hs:=K.fs.grown hgrow (fun e=>yaN K.fa K.fs (by decide) e.symm);have hgw:=yab K.fg hgrow (fun k hk=>.inr (by have:=ye8 K.fa k hk;have:=K.fw;omega));have hzz:=jlt K.fz hgrow.size;refine yaf (some 32) rfl rfl (.slice (some ⟨g7,0,none⟩) (k + 1) cap7) (yaw (.tmp 28) (.tmp 31) 53 rfl _ _ _ rfl rfl hrun) rfl hk ?_;simp only [jp,jb,jz,js];have K2:PuR z g cs gk o T m tc (.slice (some ⟨g7,0,none⟩) (k + 1) cap7) (.slice A8 k c8) (k + 1) k (xs ++ [.bool o]) ys w u2:=⟨hown',hoth,hk,hs,hgw,hzz,K.fw⟩;replace K:=K2;clear hi hz0 hz1 hz2 hJ hrun hown' hgrow hoth hk hs hgw hzz K2;refine yag (i:=10) (by kernel_rfl) ?_;have hga:=yaa (jr u2 none) (.cells #[.int .u64 (m:Int)] 22);have hq:=Blk.new u2 22 #[.int .u64 (m:Int)];replace K:=K.kept hga;refine yaf (some 38) rfl rfl (.slice (some ⟨u2.heap.size,0,none⟩) 1 1) (w':=u2.alloc (.cells #[.int .u64 (m:Int)] 22)) (by go_simp <;> rfl) rfl K.fk ?_;simp only [jp,jb,jz,js];obtain ⟨q8,hq8⟩:∃ x,u2.heap.size = x:=⟨_,rfl⟩;rw [hq8] at hq ⊢;generalize u2.alloc (.cells #[.int .u64 (m:Int)] 22) = u3 at *;have Bq8:=hq;clear hga hq hq8;refine yag (i:=11) (by kernel_rfl) ?_;obtain ⟨i0,hi,hz0,hz1,hz2⟩:=info_parts yfb;have hJ:=HJ.out
     obtain ⟨v',u4,hrun,hown',hgrow,_,_⟩:=jra (P:=jq) u3 z 54 54 22 i0 _ 1 8 Tryz.underlying54 hi hz0 hz1 hz2 rfl (by decide) (.slice A8 k c8) k ys K.fb ⟨q8,0,none⟩ 1 1 [.int .u64 (m:Int)] rfl (fun j u hj=>by
      match j,hj with
      | 0,hj=>cases hj;exact Bq8.cell 0) (by simp [ja2]) (by simp only [maxLen];omega) (by omega) K.fz
     obtain ⟨g8,cap8,rfl⟩:=ownsRow_succ hown';have hoth:=ycN (by decide) K.fa K.fb hgrow;have hk:=K.fk.grown hgrow (fun e=>yaN K.fb K.fk (by decide) e.symm);have hs:=K.fs.grown hgrow (fun e=>yaN K.fb K.fs (by decide) e.symm);have hgw:=yab K.fg hgrow (fun k hk=>.inr (by have:=ye8 K.fb k hk;have:=K.fw;omega));have hzz:=jlt K.fz hgrow.size;refine yaf (some 39) rfl rfl (.slice (some ⟨g8,0,none⟩) (k + 1) cap8) (yaw (.tmp 33) (.tmp 38) 54 rfl _ _ _ rfl rfl hrun) rfl hk ?_;simp only [jp,jb,jz,js];have K2:PuR z g cs gk o T m tc (.slice (some ⟨g7,0,none⟩) (k + 1) cap7) (.slice (some ⟨g8,0,none⟩) (k + 1) cap8) (k + 1) (k + 1) (xs ++ [.bool o]) (ys ++ [.int .u64 (m:Int)]) w u4:=⟨hoth,hown',hk,hs,hgw,hzz,K.fw⟩;replace K:=K2;clear hi hz0 hz1 hz2 hJ hrun hown' hgrow hoth hk hs hgw hzz K2;refine cL 12 7 (.slice (some ⟨g7,0,none⟩) (k + 1) cap7) rfl (fun W hW=>by go_simp) K.fk ?_;simp only [jp,jb,jz,js];refine cL 13 8 (.slice (some ⟨g8,0,none⟩) (k + 1) cap8) rfl (fun W hW=>by go_simp) K.fk ?_;simp only [jp,jb,jz,js];refine jwd (by kernel_rfl) ?_ _;have HK:=jh K;clear K;go_wp2_with fail
     go_roundw
     case rel=>exact ⟨k + 1,by go_num,by have:=HLT.out;omega,HK.out.fg,HK.out.fs,HK.out.fz,by rw [HX.out];exact HK.out.fa,by rw [HY.out];exact HK.out.fb⟩
     case measure=>have:=HLT.out;simp [intOf];omega
    ·skip
     have hga:=yaa (jr u1 none) (.cells #[.int .u64 (m:Int)] 22);have hq:=Blk.new u1 22 #[.int .u64 (m:Int)];replace K:=K.kept hga;replace Bq7:=Bq7.grown hga (by simp);refine yaf (some 38) rfl rfl (.slice (some ⟨u1.heap.size,0,none⟩) 1 1) (w':=u1.alloc (.cells #[.int .u64 (m:Int)] 22)) (by go_simp <;> rfl) rfl K.fk ?_;simp only [jp,jb,jz,js];obtain ⟨q8,hq8⟩:∃ x,u1.heap.size = x:=⟨_,rfl⟩;rw [hq8] at hq ⊢;generalize u1.alloc (.cells #[.int .u64 (m:Int)] 22) = u2 at *;have Bq8:=hq;clear hga hq hq8;refine yag (i:=4) (by kernel_rfl) ?_;obtain ⟨i0,hi,hz0,hz1,hz2⟩:=info_parts yep;have hJ:=HJ.out
     obtain ⟨v',u3,hrun,hown',hgrow,_,_⟩:=jra (P:=jq) u2 z 53 53 4 i0 _ 1 1 Tryz.underlying53 hi hz0 hz1 hz2 rfl (by decide) (.slice A7 k c7) k xs K.fa ⟨q7,0,none⟩ 1 1 [.bool o] rfl (fun j u hj=>by
      match j,hj with
      | 0,hj=>cases hj;exact Bq7.cell 0) (by simp [ja2]) (by simp only [maxLen];omega) (by omega) K.fz
     obtain ⟨g7,cap7,rfl⟩:=ownsRow_succ hown';have hoth:=ycN (by decide) K.fb K.fa hgrow;have hk:=K.fk.grown hgrow (fun e=>yaN K.fa K.fk (by decide) e.symm);have hs:=K.fs.grown hgrow (fun e=>yaN K.fa K.fs (by decide) e.symm);have hgw:=yab K.fg hgrow (fun k hk=>.inr (by have:=ye8 K.fa k hk;have:=K.fw;omega));have hzz:=jlt K.fz hgrow.size;replace Bq8:=Bq8.grown hgrow (fun e=>yaN K.fa Bq8 (by decide) e.symm);refine yaf (some 32) rfl rfl (.slice (some ⟨g7,0,none⟩) (k + 1) cap7) (yaw (.tmp 28) (.tmp 31) 53 rfl _ _ _ rfl rfl hrun) rfl hk ?_;simp only [jp,jb,jz,js];have K2:PuR z g cs gk o T m tc (.slice (some ⟨g7,0,none⟩) (k + 1) cap7) (.slice A8 k c8) (k + 1) k (xs ++ [.bool o]) ys w u3:=⟨hown',hoth,hk,hs,hgw,hzz,K.fw⟩;replace K:=K2;clear hi hz0 hz1 hz2 hJ hrun hown' hgrow hoth hk hs hgw hzz K2;refine yag (i:=11) (by kernel_rfl) ?_;obtain ⟨i0,hi,hz0,hz1,hz2⟩:=info_parts yfb;have hJ:=HJ.out
     obtain ⟨v',u4,hrun,hown',hgrow,_,_⟩:=jra (P:=jq) u3 z 54 54 22 i0 _ 1 8 Tryz.underlying54 hi hz0 hz1 hz2 rfl (by decide) (.slice A8 k c8) k ys K.fb ⟨q8,0,none⟩ 1 1 [.int .u64 (m:Int)] rfl (fun j u hj=>by
      match j,hj with
      | 0,hj=>cases hj;exact Bq8.cell 0) (by simp [ja2]) (by simp only [maxLen];omega) (by omega) K.fz
     obtain ⟨g8,cap8,rfl⟩:=ownsRow_succ hown';have hoth:=ycN (by decide) K.fa K.fb hgrow;have hk:=K.fk.grown hgrow (fun e=>yaN K.fb K.fk (by decide) e.symm);have hs:=K.fs.grown hgrow (fun e=>yaN K.fb K.fs (by decide) e.symm);have hgw:=yab K.fg hgrow (fun k hk=>.inr (by have:=ye8 K.fb k hk;have:=K.fw;omega));have hzz:=jlt K.fz hgrow.size;refine yaf (some 39) rfl rfl (.slice (some ⟨g8,0,none⟩) (k + 1) cap8) (yaw (.tmp 33) (.tmp 38) 54 rfl _ _ _ rfl rfl hrun) rfl hk ?_;simp only [jp,jb,jz,js];have K2:PuR z g cs gk o T m tc (.slice (some ⟨g7,0,none⟩) (k + 1) cap7) (.slice (some ⟨g8,0,none⟩) (k + 1) cap8) (k + 1) (k + 1) (xs ++ [.bool o]) (ys ++ [.int .u64 (m:Int)]) w u4:=⟨hoth,hown',hk,hs,hgw,hzz,K.fw⟩;replace K:=K2;clear hi hz0 hz1 hz2 hJ hrun hown' hgrow hoth hk hs hgw hzz K2;refine cL 12 7 (.slice (some ⟨g7,0,none⟩) (k + 1) cap7) rfl (fun W hW=>by go_simp) K.fk ?_;simp only [jp,jb,jz,js];refine cL 13 8 (.slice (some ⟨g8,0,none⟩) (k + 1) cap8) rfl (fun W hW=>by go_simp) K.fk ?_;simp only [jp,jb,jz,js];refine jwd (by kernel_rfl) ?_ _;have HK:=jh K;clear K;go_wp2_with fail
     go_roundw
     case rel=>exact ⟨k + 1,by go_num,by have:=HLT.out;omega,HK.out.fg,HK.out.fs,HK.out.fz,by rw [HX.out];exact HK.out.fa,by rw [HY.out];exact HK.out.fb⟩
     case measure=>have:=HLT.out;simp [intOf];omega
   ·skip
    have hga:=yaa (jr u0 none) (.cells #[.int .u64 (m:Int)] 22);have hq:=Blk.new u0 22 #[.int .u64 (m:Int)];replace K:=K.kept hga;refine yaf (some 38) rfl rfl (.slice (some ⟨u0.heap.size,0,none⟩) 1 1) (w':=u0.alloc (.cells #[.int .u64 (m:Int)] 22)) (by go_simp <;> rfl) rfl K.fk ?_;simp only [jp,jb,jz,js];obtain ⟨q8,hq8⟩:∃ x,u0.heap.size = x:=⟨_,rfl⟩;rw [hq8] at hq ⊢;generalize u0.alloc (.cells #[.int .u64 (m:Int)] 22) = u1 at *;have Bq8:=hq;clear hga hq hq8;refine yag (i:=3) (by kernel_rfl) ?_;have hga:=yaa (jr u1 none) (.cells #[.bool o] 4);have hq:=Blk.new u1 4 #[.bool o];replace K:=K.kept hga;replace Bq8:=Bq8.grown hga (by simp);refine yaf (some 31) rfl rfl (.slice (some ⟨u1.heap.size,0,none⟩) 1 1) (w':=u1.alloc (.cells #[.bool o] 4)) (by go_simp <;> rfl) rfl K.fk ?_;simp only [jp,jb,jz,js];obtain ⟨q7,hq7⟩:∃ x,u1.heap.size = x:=⟨_,rfl⟩;rw [hq7] at hq ⊢;generalize u1.alloc (.cells #[.bool o] 4) = u2 at *;have Bq7:=hq;clear hga hq hq7;refine yag (i:=4) (by kernel_rfl) ?_;obtain ⟨i0,hi,hz0,hz1,hz2⟩:=info_parts yep;have hJ:=HJ.out
    obtain ⟨v',u3,hrun,hown',hgrow,_,_⟩:=jra (P:=jq) u2 z 53 53 4 i0 _ 1 1 Tryz.underlying53 hi hz0 hz1 hz2 rfl (by decide) (.slice A7 k c7) k xs K.fa ⟨q7,0,none⟩ 1 1 [.bool o] rfl (fun j u hj=>by
     match j,hj with
     | 0,hj=>cases hj;exact Bq7.cell 0) (by simp [ja2]) (by simp only [maxLen];omega) (by omega) K.fz
    obtain ⟨g7,cap7,rfl⟩:=ownsRow_succ hown';have hoth:=ycN (by decide) K.fb K.fa hgrow;have hk:=K.fk.grown hgrow (fun e=>yaN K.fa K.fk (by decide) e.symm);have hs:=K.fs.grown hgrow (fun e=>yaN K.fa K.fs (by decide) e.symm);have hgw:=yab K.fg hgrow (fun k hk=>.inr (by have:=ye8 K.fa k hk;have:=K.fw;omega));have hzz:=jlt K.fz hgrow.size;replace Bq8:=Bq8.grown hgrow (fun e=>yaN K.fa Bq8 (by decide) e.symm);refine yaf (some 32) rfl rfl (.slice (some ⟨g7,0,none⟩) (k + 1) cap7) (yaw (.tmp 28) (.tmp 31) 53 rfl _ _ _ rfl rfl hrun) rfl hk ?_;simp only [jp,jb,jz,js];have K2:PuR z g cs gk o T m tc (.slice (some ⟨g7,0,none⟩) (k + 1) cap7) (.slice A8 k c8) (k + 1) k (xs ++ [.bool o]) ys w u3:=⟨hown',hoth,hk,hs,hgw,hzz,K.fw⟩;replace K:=K2;clear hi hz0 hz1 hz2 hJ hrun hown' hgrow hoth hk hs hgw hzz K2;refine yag (i:=11) (by kernel_rfl) ?_;obtain ⟨i0,hi,hz0,hz1,hz2⟩:=info_parts yfb;have hJ:=HJ.out
    obtain ⟨v',u4,hrun,hown',hgrow,_,_⟩:=jra (P:=jq) u3 z 54 54 22 i0 _ 1 8 Tryz.underlying54 hi hz0 hz1 hz2 rfl (by decide) (.slice A8 k c8) k ys K.fb ⟨q8,0,none⟩ 1 1 [.int .u64 (m:Int)] rfl (fun j u hj=>by
     match j,hj with
     | 0,hj=>cases hj;exact Bq8.cell 0) (by simp [ja2]) (by simp only [maxLen];omega) (by omega) K.fz
    obtain ⟨g8,cap8,rfl⟩:=ownsRow_succ hown';have hoth:=ycN (by decide) K.fa K.fb hgrow;have hk:=K.fk.grown hgrow (fun e=>yaN K.fb K.fk (by decide) e.symm);have hs:=K.fs.grown hgrow (fun e=>yaN K.fb K.fs (by decide) e.symm);have hgw:=yab K.fg hgrow (fun k hk=>.inr (by have:=ye8 K.fb k hk;have:=K.fw;omega));have hzz:=jlt K.fz hgrow.size;refine yaf (some 39) rfl rfl (.slice (some ⟨g8,0,none⟩) (k + 1) cap8) (yaw (.tmp 33) (.tmp 38) 54 rfl _ _ _ rfl rfl hrun) rfl hk ?_;simp only [jp,jb,jz,js];have K2:PuR z g cs gk o T m tc (.slice (some ⟨g7,0,none⟩) (k + 1) cap7) (.slice (some ⟨g8,0,none⟩) (k + 1) cap8) (k + 1) (k + 1) (xs ++ [.bool o]) (ys ++ [.int .u64 (m:Int)]) w u4:=⟨hoth,hown',hk,hs,hgw,hzz,K.fw⟩;replace K:=K2;clear hi hz0 hz1 hz2 hJ hrun hown' hgrow hoth hk hs hgw hzz K2;refine cL 12 7 (.slice (some ⟨g7,0,none⟩) (k + 1) cap7) rfl (fun W hW=>by go_simp) K.fk ?_;simp only [jp,jb,jz,js];refine cL 13 8 (.slice (some ⟨g8,0,none⟩) (k + 1) cap8) rfl (fun W hW=>by go_simp) K.fk ?_;simp only [jp,jb,jz,js];refine jwd (by kernel_rfl) ?_ _;have HK:=jh K;clear K;go_wp2_with fail
    go_roundw
    case rel=>exact ⟨k + 1,by go_num,by have:=HLT.out;omega,HK.out.fg,HK.out.fs,HK.out.fz,by rw [HX.out];exact HK.out.fa,by rw [HY.out];exact HK.out.fb⟩
    case measure=>have:=HLT.out;simp [intOf];omega
  ·have hkn:k = n:=by omega
   subst hkn;obtain ⟨A7,c7,rfl⟩:=yb4 h7;obtain ⟨A8,c8,rfl⟩:=yb4 h8;have h7r:=Reads.of_own h7;have h8r:=Reads.of_own h8;rw [jtl (by rw [jd8,HL.out];exact jle _)] at h7r;rw [jtl (by unfold ycf;rw [jd8,HL.out];exact jle _)] at h8r;have K:PuS g cs wr.heap.size A7 A8 k ((s.blocks.map BkV.origin).map jc7) ((ycf s).map (je3 .u64)) w wr:=⟨hbs,hg,h7r,h8r,jle _⟩;obtain ⟨B1,hB1⟩:∃ x,wr.heap.size = x:=⟨_,rfl⟩;rw [hB1] at K;have q8:¬ ((k:Int) < (k:Int)):=by omega
   clear h7 h8 h7r h8r hbs hg hzr hlt hB1 hk;go_upto_region 11 with (fail)
   clear q8;refine jwl ?_;refine yac rfl (.agg cs) (yai rfl rfl 25 _ _ K.fs ja3 rfl ((show (jq.info? 25).map (·.size) = some 5 by kernel_rfl).trans (congrArg some HZ.out.symm))) ?_;simp only [jp,jb,jz,js];refine yah rfl 22 #[.agg cs] (yam _ (.tmp 42) _ rfl _ rfl (jeo Tryz.func22 (by kernel_rfl) rfl _ _)) ((HALL.out wr K.fg).mono ?_);rintro e u1 ⟨A',c',rfl,htx,hga⟩;replace K:=K.kept hga;refine ⟨_,rfl,?_⟩;simp only [jp,jb,jz,js];refine zm 1 (.int .u64 (chain:Int)) rfl ?_;simp only [jp,jb,jz,js];have hcp:=yis _ A' s.all.length c' s.all chain u1 htx (jle _) (by have:=HN.out;omega) HOK.out.txs;rw [HCOL.out] at hcp;obtain ⟨CB,hCB⟩:∃ x:ByteArray,⟨(ycZ s.all chain).toArray⟩ = x:=⟨_,rfl⟩;rw [hCB] at hcp;have HCB:=jh hCB;clear htx hga hCB;refine yah rfl 18 #[.slice A' s.all.length c',.int .u64 (chain:Int)] (yao _ (.tmp 43) (.tmp 44) _ rfl _ _ rfl rfl (jeo Tryz.func18 (by kernel_rfl) rfl _ _)) (hcp.mono ?_);clear hcp;rintro e u2 ⟨rfl,hga⟩;replace K:=K.kept hga;clear hga;refine ⟨_,rfl,?_⟩;simp only [jp,jb,jz,js];have HK:=jh K;clear K
   have HCNT:Hid (∀ x ∈ ycf s,0 <= x /\ x <= 18446744073709551615):=jh (fun x hx=>by
    unfold ycf at hx;obtain ⟨b,hb,rfl⟩:=List.mem_map.1 hx;have h2:=yfa (List.mem_map_of_mem (f:=BkV.txs) hb);have h3:(s.blocks.map BkV.txs).flatten.length = s.all.length:=by unfold SpV.all;rw [List.flatMap_def]
    have:=HN.out;omega)
   generalize s.all.length = NN at *;go_upto_region 12 with (fail)
   obtain ⟨VT,hVT⟩:∃ x:ByteArray,⟨(varL s.time).toArray⟩ = x:=⟨_,rfl⟩;obtain ⟨VE,hVE⟩:∃ x:ByteArray,⟨(varL s.epoch).toArray⟩ = x:=⟨_,rfl⟩;have HVT:=jh (fun V=>ygO s.time HOK.out.time V);have HVE:=jh (fun V=>ygO s.epoch HOK.out.epoch V);rw [hVT] at HVT;rw [hVE] at HVE;have HT:=jh hVT;have HE:=jh hVE;have z0:cs[0]? = some (.int .u64 (s.time:Int)):=by rw [<- HC.out];rfl
   have z1:cs[1]? = some (.int .u64 (s.epoch:Int)):=by rw [<- HC.out];rfl
   have z2:cs[2]? = some (.string s.parent):=by rw [<- HC.out];rfl
   have z3:cs[3]? = some (.string s.hash):=by rw [<- HC.out];rfl
   clear hVT hVE;go_cut [13] (fun v wx=>∃ q:Nat,v = .slice (some ⟨q,0,none⟩) 5 5 /\ w.heap.size <= q /\ Blk wx q 9 #[.string ⟨#[1]⟩,.string VT,.string VE,.string s.parent,.string s.hash] /\ PuS g cs B1 A7 A8 k ((s.blocks.map BkV.origin).map jc7) ((ycf s).map (je3 .u64)) w wx)
   case first =>
    have K:=HK.out;refine jwh (S:=fun V=>Blk V g 25 cs) (by kernel_rfl) ?_;change wpAnyH _ _ _ _ _ _ _ _ u2.drew;replace K:=K.kept (yau (jr u2 none));clear HK;generalize u2.drew = x0 at *;have hS0:=K.fs;refine cP g 2 50 0 rfl hS0 ?_;simp only [jp,jb,jz,js];refine cL 3 51 (.int .u64 (s.time:Int)) rfl (fun W hW=>yaj 22 _ rfl _ rfl _ _ jb3 rfl ((Blk.cell hW 0).trans z0)) hS0 ?_;simp only [jp,jb,jz,js];refine cP g 5 53 1 rfl hS0 ?_;simp only [jp,jb,jz,js];refine cL 6 54 (.int .u64 (s.epoch:Int)) rfl (fun W hW=>yaj 22 _ rfl _ rfl _ _ jb3 rfl ((Blk.cell hW 1).trans z1)) hS0 ?_;simp only [jp,jb,jz,js];refine cP g 8 56 2 rfl hS0 ?_;simp only [jp,jb,jz,js];refine cL 9 57 (.string s.parent) rfl (fun W hW=>yaj 9 _ rfl _ rfl _ _ jb8 rfl ((Blk.cell hW 2).trans z2)) hS0 ?_;simp only [jp,jb,jz,js];refine cP g 10 58 3 rfl hS0 ?_;simp only [jp,jb,jz,js];refine cL 11 59 (.string s.hash) rfl (fun W hW=>yaj 9 _ rfl _ rfl _ _ jb8 rfl ((Blk.cell hW 3).trans z3)) hS0 ?_;simp only [jp,jb,jz,js];clear hS0;refine ybm (i:=0) (j:=4) (by kernel_rfl) ?_ ?_
    ·skip
     have hga:=yaa (jr x0 none) (.cells #[.int .u8 1] 5);have O:(x0.alloc (.cells #[.int .u8 1] 5)).ownsRow x0.heap.size 5 1 (.slice (some ⟨x0.heap.size,0,none⟩) 1 1) 1 (u8s [1]):=yd7 x0 1;replace K:=K.kept hga;refine yaf (some 48) rfl rfl (.slice (some ⟨x0.heap.size,0,none⟩) 1 1) (w':=x0.alloc (.cells #[.int .u8 1] 5)) (by go_simp <;> rfl) rfl K.fs ?_;simp only [jp,jb,jz,js];generalize x0.alloc (.cells #[.int .u8 1] 5) = x1 at *;generalize x0.heap.size = qb at *;clear hga;refine ybm (i:=1) (j:=4) (by kernel_rfl) ?_ ?_
     ·skip
      refine yaf (some 49) rfl rfl (.string ⟨#[1]⟩) (ycu 43 9 (.tmp 48) rfl _ _ rfl (ybS O)) rfl K.fs ?_;simp only [jp,jb,jz,js];clear O;refine yag (i:=4) (by kernel_rfl) ?_;refine yat (some 52) rfl rfl 23 #[.int .u64 (s.time:Int)] (yam _ (.tmp 51) _ rfl _ rfl (jeo Tryz.func23 (by kernel_rfl) rfl _ _)) rfl ((HVT.out x1).mono ?_);rintro e x3 ⟨rfl,hga⟩;replace K:=K.kept hga;clear hga;refine ⟨_,rfl,K.fs,?_⟩;simp only [jp,jb,jz,js];refine yag (i:=7) (by kernel_rfl) ?_;refine yat (some 55) rfl rfl 23 #[.int .u64 (s.epoch:Int)] (yam _ (.tmp 54) _ rfl _ rfl (jeo Tryz.func23 (by kernel_rfl) rfl _ _)) rfl ((HVE.out x3).mono ?_);rintro e x4 ⟨rfl,hga⟩;replace K:=K.kept hga;clear hga;refine ⟨_,rfl,K.fs,?_⟩;simp only [jp,jb,jz,js];refine yag (i:=12) (by kernel_rfl) ?_;have hga:=yaa (jr x4 none) (.cells #[.string ⟨#[1]⟩,.string VT,.string VE,.string s.parent,.string s.hash] 9);have hwq:=K.fg.size;have hq:=Blk.new x4 9 #[.string ⟨#[1]⟩,.string VT,.string VE,.string s.parent,.string s.hash];replace K:=K.kept hga;refine yaf (some 60) rfl rfl (.slice (some ⟨x4.heap.size,0,none⟩) 5 5) (w':=x4.alloc (.cells #[.string ⟨#[1]⟩,.string VT,.string VE,.string s.parent,.string s.hash] 9)) (by go_simp <;> rfl) rfl K.fs ?_;simp only [jp,jb,jz,js];refine cL 13 13 (.slice (some ⟨x4.heap.size,0,none⟩) 5 5) rfl (fun W hW=>by go_simp) K.fs ?_;simp only [jp,jb,jz,js];refine jwd (by kernel_rfl) ?_ _;have HF:=jh (show _ /\ _ /\ _ from ⟨hwq,hq,K⟩);clear K hq hwq;go_wp2_with fail
      go_meet
      exact ⟨_,rfl,HF.out⟩
     ·skip
      refine yat (some 52) rfl rfl 23 #[.int .u64 (s.time:Int)] (yam _ (.tmp 51) _ rfl _ rfl (jeo Tryz.func23 (by kernel_rfl) rfl _ _)) rfl ((HVT.out x1).mono ?_);rintro e x5 ⟨rfl,hga⟩;replace K:=K.kept hga;replace O:=O.kept hga (.inr (by simp [jb1]));clear hga;refine ⟨_,rfl,K.fs,?_⟩;simp only [jp,jb,jz,js];refine ybm (i:=1) (j:=7) (by kernel_rfl) ?_ ?_
      ·skip
       refine yaf (some 49) rfl rfl (.string ⟨#[1]⟩) (ycu 43 9 (.tmp 48) rfl _ _ rfl (ybS O)) rfl K.fs ?_;simp only [jp,jb,jz,js];clear O;refine yag (i:=7) (by kernel_rfl) ?_;refine yat (some 55) rfl rfl 23 #[.int .u64 (s.epoch:Int)] (yam _ (.tmp 54) _ rfl _ rfl (jeo Tryz.func23 (by kernel_rfl) rfl _ _)) rfl ((HVE.out x5).mono ?_);rintro e x7 ⟨rfl,hga⟩;replace K:=K.kept hga;clear hga;refine ⟨_,rfl,K.fs,?_⟩;simp only [jp,jb,jz,js];refine yag (i:=12) (by kernel_rfl) ?_;have hga:=yaa (jr x7 none) (.cells #[.string ⟨#[1]⟩,.string VT,.string VE,.string s.parent,.string s.hash] 9);have hwq:=K.fg.size;have hq:=Blk.new x7 9 #[.string ⟨#[1]⟩,.string VT,.string VE,.string s.parent,.string s.hash];replace K:=K.kept hga;refine yaf (some 60) rfl rfl (.slice (some ⟨x7.heap.size,0,none⟩) 5 5) (w':=x7.alloc (.cells #[.string ⟨#[1]⟩,.string VT,.string VE,.string s.parent,.string s.hash] 9)) (by go_simp <;> rfl) rfl K.fs ?_;simp only [jp,jb,jz,js];refine cL 13 13 (.slice (some ⟨x7.heap.size,0,none⟩) 5 5) rfl (fun W hW=>by go_simp) K.fs ?_;simp only [jp,jb,jz,js];refine jwd (by kernel_rfl) ?_ _;have HF:=jh (show _ /\ _ /\ _ from ⟨hwq,hq,K⟩);clear K hq hwq;go_wp2_with fail
       go_meet
       exact ⟨_,rfl,HF.out⟩
      ·skip
       refine yat (some 55) rfl rfl 23 #[.int .u64 (s.epoch:Int)] (yam _ (.tmp 54) _ rfl _ rfl (jeo Tryz.func23 (by kernel_rfl) rfl _ _)) rfl ((HVE.out x5).mono ?_);rintro e x8 ⟨rfl,hga⟩;replace K:=K.kept hga;replace O:=O.kept hga (.inr (by simp [jb1]));clear hga;refine ⟨_,rfl,K.fs,?_⟩;simp only [jp,jb,jz,js];refine yag (i:=1) (by kernel_rfl) ?_;refine yaf (some 49) rfl rfl (.string ⟨#[1]⟩) (ycu 43 9 (.tmp 48) rfl _ _ rfl (ybS O)) rfl K.fs ?_;simp only [jp,jb,jz,js];clear O;refine yag (i:=12) (by kernel_rfl) ?_;have hga:=yaa (jr x8 none) (.cells #[.string ⟨#[1]⟩,.string VT,.string VE,.string s.parent,.string s.hash] 9);have hwq:=K.fg.size;have hq:=Blk.new x8 9 #[.string ⟨#[1]⟩,.string VT,.string VE,.string s.parent,.string s.hash];replace K:=K.kept hga;refine yaf (some 60) rfl rfl (.slice (some ⟨x8.heap.size,0,none⟩) 5 5) (w':=x8.alloc (.cells #[.string ⟨#[1]⟩,.string VT,.string VE,.string s.parent,.string s.hash] 9)) (by go_simp <;> rfl) rfl K.fs ?_;simp only [jp,jb,jz,js];refine cL 13 13 (.slice (some ⟨x8.heap.size,0,none⟩) 5 5) rfl (fun W hW=>by go_simp) K.fs ?_;simp only [jp,jb,jz,js];refine jwd (by kernel_rfl) ?_ _;have HF:=jh (show _ /\ _ /\ _ from ⟨hwq,hq,K⟩);clear K hq hwq;go_wp2_with fail
       go_meet
       exact ⟨_,rfl,HF.out⟩
    ·skip
     refine yat (some 52) rfl rfl 23 #[.int .u64 (s.time:Int)] (yam _ (.tmp 51) _ rfl _ rfl (jeo Tryz.func23 (by kernel_rfl) rfl _ _)) rfl ((HVT.out x0).mono ?_);rintro e x10 ⟨rfl,hga⟩;replace K:=K.kept hga;clear hga;refine ⟨_,rfl,K.fs,?_⟩;simp only [jp,jb,jz,js];refine ybm (i:=0) (j:=7) (by kernel_rfl) ?_ ?_
     ·skip
      have hga:=yaa (jr x10 none) (.cells #[.int .u8 1] 5);have O:(x10.alloc (.cells #[.int .u8 1] 5)).ownsRow x10.heap.size 5 1 (.slice (some ⟨x10.heap.size,0,none⟩) 1 1) 1 (u8s [1]):=yd7 x10 1;replace K:=K.kept hga;refine yaf (some 48) rfl rfl (.slice (some ⟨x10.heap.size,0,none⟩) 1 1) (w':=x10.alloc (.cells #[.int .u8 1] 5)) (by go_simp <;> rfl) rfl K.fs ?_;simp only [jp,jb,jz,js];generalize x10.alloc (.cells #[.int .u8 1] 5) = x11 at *;generalize x10.heap.size = qb at *;clear hga;refine ybm (i:=1) (j:=7) (by kernel_rfl) ?_ ?_
      ·skip
       refine yaf (some 49) rfl rfl (.string ⟨#[1]⟩) (ycu 43 9 (.tmp 48) rfl _ _ rfl (ybS O)) rfl K.fs ?_;simp only [jp,jb,jz,js];clear O;refine yag (i:=7) (by kernel_rfl) ?_;refine yat (some 55) rfl rfl 23 #[.int .u64 (s.epoch:Int)] (yam _ (.tmp 54) _ rfl _ rfl (jeo Tryz.func23 (by kernel_rfl) rfl _ _)) rfl ((HVE.out x11).mono ?_);rintro e x13 ⟨rfl,hga⟩;replace K:=K.kept hga;clear hga;refine ⟨_,rfl,K.fs,?_⟩;simp only [jp,jb,jz,js];refine yag (i:=12) (by kernel_rfl) ?_;have hga:=yaa (jr x13 none) (.cells #[.string ⟨#[1]⟩,.string VT,.string VE,.string s.parent,.string s.hash] 9);have hwq:=K.fg.size;have hq:=Blk.new x13 9 #[.string ⟨#[1]⟩,.string VT,.string VE,.string s.parent,.string s.hash];replace K:=K.kept hga;refine yaf (some 60) rfl rfl (.slice (some ⟨x13.heap.size,0,none⟩) 5 5) (w':=x13.alloc (.cells #[.string ⟨#[1]⟩,.string VT,.string VE,.string s.parent,.string s.hash] 9)) (by go_simp <;> rfl) rfl K.fs ?_;simp only [jp,jb,jz,js];refine cL 13 13 (.slice (some ⟨x13.heap.size,0,none⟩) 5 5) rfl (fun W hW=>by go_simp) K.fs ?_;simp only [jp,jb,jz,js];refine jwd (by kernel_rfl) ?_ _;have HF:=jh (show _ /\ _ /\ _ from ⟨hwq,hq,K⟩);clear K hq hwq;go_wp2_with fail
       go_meet
       exact ⟨_,rfl,HF.out⟩
      ·skip
       refine yat (some 55) rfl rfl 23 #[.int .u64 (s.epoch:Int)] (yam _ (.tmp 54) _ rfl _ rfl (jeo Tryz.func23 (by kernel_rfl) rfl _ _)) rfl ((HVE.out x11).mono ?_);rintro e x14 ⟨rfl,hga⟩;replace K:=K.kept hga;replace O:=O.kept hga (.inr (by simp [jb1]));clear hga;refine ⟨_,rfl,K.fs,?_⟩;simp only [jp,jb,jz,js];refine yag (i:=1) (by kernel_rfl) ?_;refine yaf (some 49) rfl rfl (.string ⟨#[1]⟩) (ycu 43 9 (.tmp 48) rfl _ _ rfl (ybS O)) rfl K.fs ?_;simp only [jp,jb,jz,js];clear O;refine yag (i:=12) (by kernel_rfl) ?_;have hga:=yaa (jr x14 none) (.cells #[.string ⟨#[1]⟩,.string VT,.string VE,.string s.parent,.string s.hash] 9);have hwq:=K.fg.size;have hq:=Blk.new x14 9 #[.string ⟨#[1]⟩,.string VT,.string VE,.string s.parent,.string s.hash];replace K:=K.kept hga;refine yaf (some 60) rfl rfl (.slice (some ⟨x14.heap.size,0,none⟩) 5 5) (w':=x14.alloc (.cells #[.string ⟨#[1]⟩,.string VT,.string VE,.string s.parent,.string s.hash] 9)) (by go_simp <;> rfl) rfl K.fs ?_;simp only [jp,jb,jz,js];refine cL 13 13 (.slice (some ⟨x14.heap.size,0,none⟩) 5 5) rfl (fun W hW=>by go_simp) K.fs ?_;simp only [jp,jb,jz,js];refine jwd (by kernel_rfl) ?_ _;have HF:=jh (show _ /\ _ /\ _ from ⟨hwq,hq,K⟩);clear K hq hwq;go_wp2_with fail
       go_meet
       exact ⟨_,rfl,HF.out⟩
     ·skip
      refine yat (some 55) rfl rfl 23 #[.int .u64 (s.epoch:Int)] (yam _ (.tmp 54) _ rfl _ rfl (jeo Tryz.func23 (by kernel_rfl) rfl _ _)) rfl ((HVE.out x10).mono ?_);rintro e x16 ⟨rfl,hga⟩;replace K:=K.kept hga;clear hga;refine ⟨_,rfl,K.fs,?_⟩;simp only [jp,jb,jz,js];refine yag (i:=0) (by kernel_rfl) ?_;have hga:=yaa (jr x16 none) (.cells #[.int .u8 1] 5);have O:(x16.alloc (.cells #[.int .u8 1] 5)).ownsRow x16.heap.size 5 1 (.slice (some ⟨x16.heap.size,0,none⟩) 1 1) 1 (u8s [1]):=yd7 x16 1;replace K:=K.kept hga;refine yaf (some 48) rfl rfl (.slice (some ⟨x16.heap.size,0,none⟩) 1 1) (w':=x16.alloc (.cells #[.int .u8 1] 5)) (by go_simp <;> rfl) rfl K.fs ?_;simp only [jp,jb,jz,js];generalize x16.alloc (.cells #[.int .u8 1] 5) = x17 at *;generalize x16.heap.size = qb at *;clear hga;refine yag (i:=1) (by kernel_rfl) ?_;refine yaf (some 49) rfl rfl (.string ⟨#[1]⟩) (ycu 43 9 (.tmp 48) rfl _ _ rfl (ybS O)) rfl K.fs ?_;simp only [jp,jb,jz,js];clear O;refine yag (i:=12) (by kernel_rfl) ?_;have hga:=yaa (jr x17 none) (.cells #[.string ⟨#[1]⟩,.string VT,.string VE,.string s.parent,.string s.hash] 9);have hwq:=K.fg.size;have hq:=Blk.new x17 9 #[.string ⟨#[1]⟩,.string VT,.string VE,.string s.parent,.string s.hash];replace K:=K.kept hga;refine yaf (some 60) rfl rfl (.slice (some ⟨x17.heap.size,0,none⟩) 5 5) (w':=x17.alloc (.cells #[.string ⟨#[1]⟩,.string VT,.string VE,.string s.parent,.string s.hash] 9)) (by go_simp <;> rfl) rfl K.fs ?_;simp only [jp,jb,jz,js];refine cL 13 13 (.slice (some ⟨x17.heap.size,0,none⟩) 5 5) rfl (fun W hW=>by go_simp) K.fs ?_;simp only [jp,jb,jz,js];refine jwd (by kernel_rfl) ?_ _;have HF:=jh (show _ /\ _ /\ _ from ⟨hwq,hq,K⟩);clear K hq hwq;go_wp2_with fail
      go_meet
      exact ⟨_,rfl,HF.out⟩
   case rest =>
    clear HK;obtain ⟨q,rfl,hwq,hq,K⟩:=hcut;generalize wc = y0 at *;have c4:y0.cell? ⟨g,4,none⟩ = some (.slice A k c):=(K.fs.cell 4).trans (by rw [<- HC.out];rfl);have hwk:IntKind.u64.wrap (k:Int) = (k:Int):=by have:=HN16.out;simp [IntKind.wrap,IntKind.bits,IntKind.signed];omega
    obtain ⟨VN,hVN⟩:∃ x:ByteArray,⟨(varL k).toArray⟩ = x:=⟨_,rfl⟩;obtain ⟨PK,hPK⟩:∃ x:ByteArray,⟨(yaT (s.blocks.map BkV.origin)).toArray⟩ = x:=⟨_,rfl⟩;obtain ⟨RW,hRW⟩:∃ x:ByteArray,⟨(rowL (ycf s)).toArray⟩ = x:=⟨_,rfl⟩;have HVN:=jh (fun V=>ygO k (by have:=HN16.out;omega) V);rw [hVN] at HVN;have HN1:=jh hVN;have HP1:=jh hPK;have HR1:=jh hRW;have HQ:=jh hq;have HK:=jh K;clear hVN hPK hRW hq K z0 z1 z2 z3;go_wp2_with fail
    refine (HVN.out _).mono ?_;rintro e y1 ⟨rfl,hga⟩;have K:=HK.out.kept hga;have hq:=HQ.out.grown hga (by simp);have hpk:=yj7 B1 A7 k c7 _ y1 K.fB K.f7 (by have:=HN16.out;omega);rw [HP1.out] at hpk;have HPK:=jh hpk;clear HK HQ hga c4 hpk;have HK:=jh K;have HQ:=jh hq;clear K hq;go_wp2_with fail
    refine HPK.out.mono ?_;rintro e y2 ⟨rfl,hga⟩;have K:=HK.out.kept hga;have hq:=HQ.out.grown hga (by simp);have hrw:=ylB B1 A8 k c8 (ycf s) y2 K.fB K.f8 HCNT.out (by have:=HN16.out;omega);rw [HR1.out] at hrw;have HRW:=jh hrw;clear HK HQ hga hrw HPK;have HK:=jh K;have HQ:=jh hq;clear K hq;go_wp2_with fail
    refine HRW.out.mono ?_;rintro e y3 ⟨rfl,hb3⟩;have hga:=yak hb3;have K:=HK.out.kept hga;have hq:=HQ.out.grown hga (by simp);have hg4:=yaa (jr y3 none) (.cells #[.string VN,.string PK,.string RW,.string CB] 9);have hq4:=Blk.new y3 9 #[.string VN,.string PK,.string RW,.string CB];replace K:=K.kept hg4;replace hq:=hq.grown hg4 (by simp);clear HK HQ hga hb3 HRW hg4;go_upto_region 14 with (fail)
    obtain ⟨q4,hq4e⟩:∃ x,y3.heap.size = x:=⟨_,rfl⟩;rw [hq4e] at hq4 ⊢;clear hq4e;generalize y3.alloc (.cells #[.string VN,.string PK,.string RW,.string CB] 9) = y4 at *;have hqz:q < y4.heap.size:=hq.lt
    have hown:y4.ownsRow q 9 1 (.slice (some ⟨q,0,none⟩) 5 5) 5 [.string ⟨#[1]⟩,.string VT,.string VE,.string s.parent,.string s.hash] :=
     ⟨rfl,.inr ⟨q,5,_,rfl,jle _,hq,jle _,by simp only [maxLen];omega,rfl,rfl⟩⟩
    obtain ⟨i0,hi,hz0,hz1,hz2⟩:=info_parts (show (jq.info? 9).map (fun i=>(i.zero,i.size,i.bytes)) = some (some (.string .empty),1,16) by kernel_rfl)
    obtain ⟨v',y5,hrun,hown',hgrow,_,_⟩:=jra (P:=jq) y4 q 56 56 9 i0 _ 1 16 Tryz.underlying56 hi hz0 hz1 hz2 rfl (by decide) (.slice (some ⟨q,0,none⟩) 5 5) 5 _ hown ⟨q4,0,none⟩ 4 4 [.string VN,.string PK,.string RW,.string CB] rfl (fun j u hj=>by
     rw [Addr.add_mid,je1,hq4.cell j];simpa using hj) (by simp [ja2]) (by simp only [maxLen];omega) (by omega) (by omega)
    obtain ⟨g9,cap9,rfl⟩:=ownsRow_succ (k:=8) hown'
    obtain ⟨hnc9,hnc9'⟩:9 <= cap9 /\ True:=by
     obtain ⟨_,(⟨hv,_⟩ | ⟨g',cap',cur,hv,_,_,hn,_⟩)⟩:=hown'
     ·cases hv
     ·cases hv;exact ⟨hn,trivial⟩
    have hrd:=Reads.of_own hown'
    have hgw:=yab K.fg hgrow (fun k hk=>.inr (by
     have:q = k:=by simpa [jb1] using hk
     omega))
    have hst:(⟨(catB [⟨#[1]⟩,VT,VE,s.parent,s.hash,VN,PK,RW,CB]).toArray⟩:ByteArray) = SB:=by
     have e:∀ l:List UInt8,(⟨l.toArray⟩:ByteArray).data.toList = l:=fun l=>by simp
     rw [<- HS.out];congr 2;unfold ydG;rw [if_pos HR.out];unfold spL;rw [HL.out];simp only [ybi,yhi,List.append_nil];rw [<- HT.out,<- HE.out,<- HN1.out,<- HP1.out,<- HR1.out,<- HCB.out];simp only [e];unfold ycZ;rw [if_pos HCOL.out]
    have hcl:(catB [⟨#[1]⟩,VT,VE,s.parent,s.hash,VN,PK,RW,CB]).length <= 140737488355328:=by
     have e:∀ l:List UInt8,(⟨l.toArray⟩:ByteArray).data.toList = l:=fun l=>by simp
     simp only [ybi,yhi,List.append_nil,jla,yan];rw [HP.out,HHH.out,<- yan VT,<- yan VE,<- yan VN,<- yan PK,<- yan RW,<- yan CB,<- HT.out,<- HE.out,<- HN1.out,<- HP1.out,<- HR1.out,<- HCB.out];simp only [e];have l1:=ycn 10 s.time;have l2:=ycn 10 s.epoch;have l3:=ycn 10 k;have l4:=ybB (s.blocks.map BkV.origin);have l5:=yei (ycf s);have l6:(ycf s).length = k:=by unfold ycf;rw [jd8,HL.out]
     have l7:=ycv (fun x:ByteArray=>x) 1000000000 (yfI s.all) (fun a ha=>(yhh HCOL.out HOK.out.txs).sizes a ha)
     have l8:(ycZ s.all chain).length <= 8000000000:=by
      unfold ycZ;rw [if_pos HCOL.out];unfold yd0;rw [List.map_id'] at l7;exact jlt l7 (by show 8 * 1000000000 <= _;omega)
     rw [jd8,HL.out] at l4;rw [l6] at l5;have l9:=HN16.out;have l10:([1]:List UInt8).length = 1:=rfl;unfold varL;omega
    have hj:=yhb y5.heap.size (some ⟨g9,0,none⟩) 9 cap9 [⟨#[1]⟩,VT,VE,s.parent,s.hash,VN,PK,RW,CB] y5 (jle _) hrd (by omega) hnc9 hcl;rw [hst] at hj;refine jwl ?_;refine zm 13 (.slice (some ⟨q,0,none⟩) 5 5) rfl ?_;refine zm 14 (.slice (some ⟨q4,0,none⟩) 4 4) rfl ?_;simp only [jp,jb,jz,js];refine yac rfl (.slice (some ⟨g9,0,none⟩) 9 cap9) (yaw (.tmp 72) (.tmp 73) 56 rfl _ _ _ rfl rfl hrun) ?_;simp only [jp,jb,jz,js];refine yah rfl 26 #[.slice (some ⟨g9,0,none⟩) 9 cap9,.string ⟨#[]⟩] (yao _ (.tmp 74) (.const (.string ⟨#[]⟩)) _ rfl _ _ rfl rfl (jeo Tryz.func26 (by kernel_rfl) rfl _ _)) (hj.mono ?_);rintro e y6 ⟨rfl,hb6⟩;have HGW:=jh (yab hgw (yak hb6) (by simp));refine ⟨_,rfl,?_⟩;simp only [jp,jb,jz,js];clear hj hst hcl hrun hown' hrd hgw hb6 hown hq hq4 K;go_wp2_with fail
    go_ret2
    exact ⟨rfl,HGW.out⟩
def hdP (s:ByteArray):ByteArray:=if hdE s = 0 then s.extract (hdA2 s) (hdA2 s + 20) else ⟨#[]⟩
def hdH (s:ByteArray):ByteArray:=if hdE s = 0 then s.extract (hdA2 s + 20) (hdA2 s + 40) else ⟨#[]⟩
def hdC (s:ByteArray):Array Value:=#[.int .u64 (noN s 1 0:Int),.int .u64 (noN s (hdA1 s) (hdE1 s):Int),.string (hdP s),.string (hdH s),.slice none 0 0]
def spZ:Array Value:=#[.int .u64 0,.int .u64 0,.string ⟨#[]⟩,.string ⟨#[]⟩,.slice none 0 0]
theorem yaR {a w:World} {r:Option Nat} {g:Nat} (h:a.grownBy w r) (hg:a.heap.size <= g) (cs:Array Value):a.grownBy (w.setRow g cs) r :=
 ⟨h.os,h.tape,h.output,by simpa using h.size,fun k hk hn=>(jso w g k cs (by omega)).trans (h.block k hk hn)⟩
structure HdK (r g0:Nat) (C:Array Value) (w u:World):Prop where
 c:Blk u g0 25 spZ
 n:g0 ≠ r
 b:Blk u r 70 C
 g:w.grownBy u (some r)
structure HdQ (q r g0:Nat) (CS C:Array Value) (w u:World):Prop where
 c:Blk u g0 25 spZ
 n:g0 < q
 m:g0 ≠ r
 lo:w.heap.size <= q
 q:Blk u q 25 CS
 b:Blk u r 70 C
 g:w.grownBy u (some r)
theorem HdK.kept {r g0:Nat} {C:Array Value} {w u u':World} (h:HdK r g0 C w u) (hg:u.grownBy u' none):HdK r g0 C w u':=⟨h.c.grown hg (by simp),h.n,h.b.grown hg (by simp),h.g.trans (yaK hg (some r))⟩
theorem HdK.read {r g0:Nat} {C C':Array Value} {w u u':World} (h:HdK r g0 C w u) (hg:u.grownBy u' (some r)) (hb:Blk u' r 70 C'):HdK r g0 C' w u':=⟨h.c.grown hg (fun e=>h.n (ji e)),h.n,hb,h.g.trans hg⟩
theorem ymr (ch:Nat) (s:ByteArray) (r:Nat) (w:World) (h:Blk w r 70 (rdS ch s 1 0)) (hs:s.size <= 1000000000000) (h1:1 <= s.size) (hA2:hdA2 s <= s.size) :
  Calls jq 37 #[.pointer (some ⟨r,0,none⟩)] w fun e w'=>e = .returned (.agg (hdC s)) /\ Blk w' r 70 (rdS ch s (hdA s) (hdE s)) /\ w.grownBy w' (some r):=by
 have hrl:=h.lt;have hz:(w.alloc (.cells spZ 25)).heap.size = w.heap.size + 1:=by simp
 have HNA:=jh (fun (u:World) (hb:Blk u r 70 (rdS ch s 1 0))=>ydS ch s 1 0 r u hb hs);have HNB:=jh (fun (u:World) (hb:Blk u r 70 (rdS ch s (noA s 1 0) (noE s 1 0)))=>ydS ch s (noA s 1 0) (noE s 1 0) r u hb hs);have HTK:=jh (fun (u:World) (hb:Blk u r 70 (rdS ch s (hdA2 s) (hdE2 s)))=>yhB ch s (hdA2 s) 40 (hdE2 s) r u hb hs hA2 (by omega));obtain ⟨N1,hN1⟩:∃ x,noN s 1 0 = x:=⟨_,rfl⟩;obtain ⟨N2,hN2⟩:∃ x,noN s (noA s 1 0) (noE s 1 0) = x:=⟨_,rfl⟩;obtain ⟨C1,hC1⟩:∃ x,rdS ch s (noA s 1 0) (noE s 1 0) = x:=⟨_,rfl⟩;have hC2:rdS ch s (noA s (noA s 1 0) (noE s 1 0)) (noE s (noA s 1 0) (noE s 1 0)) = rdS ch s (hdA2 s) (hdE2 s):=rfl;obtain ⟨C0,hC0⟩:∃ x,rdS ch s 1 0 = x:=⟨_,rfl⟩;obtain ⟨C2,hC2'⟩:∃ x,rdS ch s (hdA2 s) (hdE2 s) = x:=⟨_,rfl⟩;rw [hC2'] at hC2 HTK;rw [hN1,hC1,hC0] at HNA;rw [hN2,hC1,hC2] at HNB;rw [hC0] at h;have HRL:=jh hrl;have K9:HdK r w.heap.size C0 w (w.alloc (.cells spZ 25)):=⟨Blk.new w _ _,by omega,h.alloc _,yaa (jr w _) _⟩;have HK:=jh K9;have HQ0:=jh (Blk.new w 25 spZ);have HN1:=jh hN1;have HN2:=jh hN2;obtain ⟨g,hg⟩:∃ x,w.heap.size = x:=⟨_,rfl⟩;clear h hrl hz K9 hN1 hN2 hC1 hC2 hC0;go_enter Tryz.func37,Tryz.ntmps37
 go_upto_region 1 with (fail)
 change Code.wp _ _ _ _ (w.alloc (.cells spZ 25));have hgz:g < (w.alloc (.cells spZ 25)).heap.size:=by simp [hg]
 rw [hg] at HQ0 HK;have HGW:=jh hg;clear hg;generalize w.alloc (.cells spZ 25) = w1 at *;go_cut [3] (fun v wx=>∃ q:Nat,v = .pointer (some ⟨q,0,none⟩) /\ HdQ q r g #[.int .u64 (N1:Int),.int .u64 (N2:Int),.string ⟨#[]⟩,.string ⟨#[]⟩,.slice none 0 0] C2 w wx)
 case first =>
  have K:=HK.out;refine jwh (S:=fun _=>True) (by kernel_rfl) ?_;change wpAnyH _ _ _ _ _ _ _ _ w1.drew;replace K:=K.kept (yau (jr w1 none));clear HK HQ0;generalize w1.drew = x0 at *;refine cP r 0 5 0 rfl trivial ?_;simp only [jp,jb,jz,js];refine cP r 1 6 0 rfl trivial ?_;simp only [jp,jb,jz,js];refine cP r 2 7 0 rfl trivial ?_;simp only [jp,jb,jz,js];refine cP r 4 9 0 rfl trivial ?_;simp only [jp,jb,jz,js];refine cP r 5 10 0 rfl trivial ?_;simp only [jp,jb,jz,js];refine cP r 6 11 0 rfl trivial ?_;simp only [jp,jb,jz,js];refine ybm (i:=3) (j:=9) (by kernel_rfl) ?_ ?_
  ·skip
   refine yat (some 8) rfl rfl 81 #[.pointer (some ⟨r,0,none⟩)] (yam _ (.tmp 7) _ rfl _ rfl (jeo Tryz.func81 (by kernel_rfl) rfl _ _)) rfl ((HNA.out x0 K.b).mono ?_);rintro e x1 ⟨rfl,hb,hga⟩;replace K:=K.read hga hb;clear hb hga;refine ⟨_,rfl,trivial,?_⟩;simp only [jp,jb,jz,js];refine ybm (i:=7) (j:=9) (by kernel_rfl) ?_ ?_
   ·skip
    refine yat (some 12) rfl rfl 81 #[.pointer (some ⟨r,0,none⟩)] (yam _ (.tmp 11) _ rfl _ rfl (jeo Tryz.func81 (by kernel_rfl) rfl _ _)) rfl ((HNB.out x1 K.b).mono ?_);rintro e x2 ⟨rfl,hb,hga⟩;replace K:=K.read hga hb;clear hb hga;refine ⟨_,rfl,trivial,?_⟩;simp only [jp,jb,jz,js];refine cL 8 13 (.agg #[.int .u64 (N1:Int),.int .u64 (N2:Int),.string ⟨#[]⟩,.string ⟨#[]⟩,.slice none 0 0]) rfl (fun W hW=>by go_simp <;> rfl) trivial ?_;simp only [jp,jb,jz,js];refine yag (i:=9) (by kernel_rfl) ?_;have hga:=yaa (jr x2 none) (.cells spZ 25);have hq:=Blk.new x2 25 spZ;have hqw:=K.g.size;have hqg:=K.c.lt;replace K:=K.kept hga;refine yaf (some 3) rfl rfl (.pointer (some ⟨x2.heap.size,0,none⟩)) (w':=x2.alloc (.cells spZ 25)) (by unfold spZ;go_simp <;> rfl) rfl trivial ?_;simp only [jp,jb,jz,js];obtain ⟨q,hqe⟩:∃ x,x2.heap.size = x:=⟨_,rfl⟩;rw [hqe] at hq hqw hqg ⊢;generalize x2.alloc (.cells spZ 25) = x3 at *;clear hga hqe;have hsr:x3.setCells q 0 [.int .u64 (N1:Int),.int .u64 (N2:Int),.string ⟨#[]⟩,.string ⟨#[]⟩,.slice none 0 0] = x3.setRow q #[.int .u64 (N1:Int),.int .u64 (N2:Int),.string ⟨#[]⟩,.string ⟨#[]⟩,.slice none 0 0]:=(ya2 hq 0 _).trans (congrArg (x3.setRow q) (by kernel_rfl));refine yag (i:=10) (by kernel_rfl) ?_;refine ybo rfl rfl rfl (w':=x3.setRow q #[.int .u64 (N1:Int),.int .u64 (N2:Int),.string ⟨#[]⟩,.string ⟨#[]⟩,.slice none 0 0]) (by rw [<- hsr];exact yap 25 (.tmp 3) (.tmp 13) rfl q 0 rfl _ rfl #[.int .u64 (N1:Int),.int .u64 (N2:Int),.string ⟨#[]⟩,.string ⟨#[]⟩,.slice none 0 0] rfl (ya8 hq (by simp [spZ])) (by kernel_rfl) (by simp [ja2])) trivial ?_;(try simp only [jp,jb,jz,js]);refine jwd (by kernel_rfl) ?_ _;have HF:=jh (show HdQ q r g #[.int .u64 (N1:Int),.int .u64 (N2:Int),.string ⟨#[]⟩,.string ⟨#[]⟩,.slice none 0 0] C2 w (x3.setRow q #[.int .u64 (N1:Int),.int .u64 (N2:Int),.string ⟨#[]⟩,.string ⟨#[]⟩,.slice none 0 0]) from ⟨(jso x3 q g _ (by omega)).trans K.c,hqg,K.n,hqw,yay (cs':=#[.int .u64 (N1:Int),.int .u64 (N2:Int),.string ⟨#[]⟩,.string ⟨#[]⟩,.slice none 0 0]) hq,(jso x3 q r _ (by have:=HRL.out;omega)).trans K.b,yaR K.g hqw _⟩);clear K hq hqw;go_wp2_with fail
    go_meet
    exact ⟨q,rfl,HF.out⟩
   ·skip
    have hga:=yaa (jr x1 none) (.cells spZ 25);have hq:=Blk.new x1 25 spZ;have hqw:=K.g.size;have hqg:=K.c.lt;replace K:=K.kept hga;refine yaf (some 3) rfl rfl (.pointer (some ⟨x1.heap.size,0,none⟩)) (w':=x1.alloc (.cells spZ 25)) (by unfold spZ;go_simp <;> rfl) rfl trivial ?_;simp only [jp,jb,jz,js];obtain ⟨q,hqe⟩:∃ x,x1.heap.size = x:=⟨_,rfl⟩;rw [hqe] at hq hqw hqg ⊢;generalize x1.alloc (.cells spZ 25) = x2 at *;clear hga hqe;refine yag (i:=7) (by kernel_rfl) ?_;refine yat (some 12) rfl rfl 81 #[.pointer (some ⟨r,0,none⟩)] (yam _ (.tmp 11) _ rfl _ rfl (jeo Tryz.func81 (by kernel_rfl) rfl _ _)) rfl ((HNB.out x2 K.b).mono ?_);rintro e x3 ⟨rfl,hb,hga⟩;replace K:=K.read hga hb;replace hq:=hq.grown hga (fun e=>by have:=ji e;have:=HRL.out;omega);clear hb hga;refine ⟨_,rfl,trivial,?_⟩;simp only [jp,jb,jz,js];refine cL 8 13 (.agg #[.int .u64 (N1:Int),.int .u64 (N2:Int),.string ⟨#[]⟩,.string ⟨#[]⟩,.slice none 0 0]) rfl (fun W hW=>by go_simp <;> rfl) trivial ?_;simp only [jp,jb,jz,js];have hsr:x3.setCells q 0 [.int .u64 (N1:Int),.int .u64 (N2:Int),.string ⟨#[]⟩,.string ⟨#[]⟩,.slice none 0 0] = x3.setRow q #[.int .u64 (N1:Int),.int .u64 (N2:Int),.string ⟨#[]⟩,.string ⟨#[]⟩,.slice none 0 0]:=(ya2 hq 0 _).trans (congrArg (x3.setRow q) (by kernel_rfl));refine yag (i:=10) (by kernel_rfl) ?_;refine ybo rfl rfl rfl (w':=x3.setRow q #[.int .u64 (N1:Int),.int .u64 (N2:Int),.string ⟨#[]⟩,.string ⟨#[]⟩,.slice none 0 0]) (by rw [<- hsr];exact yap 25 (.tmp 3) (.tmp 13) rfl q 0 rfl _ rfl #[.int .u64 (N1:Int),.int .u64 (N2:Int),.string ⟨#[]⟩,.string ⟨#[]⟩,.slice none 0 0] rfl (ya8 hq (by simp [spZ])) (by kernel_rfl) (by simp [ja2])) trivial ?_;(try simp only [jp,jb,jz,js]);refine jwd (by kernel_rfl) ?_ _;have HF:=jh (show HdQ q r g #[.int .u64 (N1:Int),.int .u64 (N2:Int),.string ⟨#[]⟩,.string ⟨#[]⟩,.slice none 0 0] C2 w (x3.setRow q #[.int .u64 (N1:Int),.int .u64 (N2:Int),.string ⟨#[]⟩,.string ⟨#[]⟩,.slice none 0 0]) from ⟨(jso x3 q g _ (by omega)).trans K.c,hqg,K.n,hqw,yay (cs':=#[.int .u64 (N1:Int),.int .u64 (N2:Int),.string ⟨#[]⟩,.string ⟨#[]⟩,.slice none 0 0]) hq,(jso x3 q r _ (by have:=HRL.out;omega)).trans K.b,yaR K.g hqw _⟩);clear K hq hqw;go_wp2_with fail
    go_meet
    exact ⟨q,rfl,HF.out⟩
  ·skip
   have hga:=yaa (jr x0 none) (.cells spZ 25);have hq:=Blk.new x0 25 spZ;have hqw:=K.g.size;have hqg:=K.c.lt;replace K:=K.kept hga;refine yaf (some 3) rfl rfl (.pointer (some ⟨x0.heap.size,0,none⟩)) (w':=x0.alloc (.cells spZ 25)) (by unfold spZ;go_simp <;> rfl) rfl trivial ?_;simp only [jp,jb,jz,js];obtain ⟨q,hqe⟩:∃ x,x0.heap.size = x:=⟨_,rfl⟩;rw [hqe] at hq hqw hqg ⊢;generalize x0.alloc (.cells spZ 25) = x1 at *;clear hga hqe;refine yag (i:=3) (by kernel_rfl) ?_;refine yat (some 8) rfl rfl 81 #[.pointer (some ⟨r,0,none⟩)] (yam _ (.tmp 7) _ rfl _ rfl (jeo Tryz.func81 (by kernel_rfl) rfl _ _)) rfl ((HNA.out x1 K.b).mono ?_);rintro e x2 ⟨rfl,hb,hga⟩;replace K:=K.read hga hb;replace hq:=hq.grown hga (fun e=>by have:=ji e;have:=HRL.out;omega);clear hb hga;refine ⟨_,rfl,trivial,?_⟩;simp only [jp,jb,jz,js];refine yag (i:=7) (by kernel_rfl) ?_;refine yat (some 12) rfl rfl 81 #[.pointer (some ⟨r,0,none⟩)] (yam _ (.tmp 11) _ rfl _ rfl (jeo Tryz.func81 (by kernel_rfl) rfl _ _)) rfl ((HNB.out x2 K.b).mono ?_);rintro e x3 ⟨rfl,hb,hga⟩;replace K:=K.read hga hb;replace hq:=hq.grown hga (fun e=>by have:=ji e;have:=HRL.out;omega);clear hb hga;refine ⟨_,rfl,trivial,?_⟩;simp only [jp,jb,jz,js];refine cL 8 13 (.agg #[.int .u64 (N1:Int),.int .u64 (N2:Int),.string ⟨#[]⟩,.string ⟨#[]⟩,.slice none 0 0]) rfl (fun W hW=>by go_simp <;> rfl) trivial ?_;simp only [jp,jb,jz,js];have hsr:x3.setCells q 0 [.int .u64 (N1:Int),.int .u64 (N2:Int),.string ⟨#[]⟩,.string ⟨#[]⟩,.slice none 0 0] = x3.setRow q #[.int .u64 (N1:Int),.int .u64 (N2:Int),.string ⟨#[]⟩,.string ⟨#[]⟩,.slice none 0 0]:=(ya2 hq 0 _).trans (congrArg (x3.setRow q) (by kernel_rfl));refine yag (i:=10) (by kernel_rfl) ?_;refine ybo rfl rfl rfl (w':=x3.setRow q #[.int .u64 (N1:Int),.int .u64 (N2:Int),.string ⟨#[]⟩,.string ⟨#[]⟩,.slice none 0 0]) (by rw [<- hsr];exact yap 25 (.tmp 3) (.tmp 13) rfl q 0 rfl _ rfl #[.int .u64 (N1:Int),.int .u64 (N2:Int),.string ⟨#[]⟩,.string ⟨#[]⟩,.slice none 0 0] rfl (ya8 hq (by simp [spZ])) (by kernel_rfl) (by simp [ja2])) trivial ?_;(try simp only [jp,jb,jz,js]);refine jwd (by kernel_rfl) ?_ _;have HF:=jh (show HdQ q r g #[.int .u64 (N1:Int),.int .u64 (N2:Int),.string ⟨#[]⟩,.string ⟨#[]⟩,.slice none 0 0] C2 w (x3.setRow q #[.int .u64 (N1:Int),.int .u64 (N2:Int),.string ⟨#[]⟩,.string ⟨#[]⟩,.slice none 0 0]) from ⟨(jso x3 q g _ (by omega)).trans K.c,hqg,K.n,hqw,yay (cs':=#[.int .u64 (N1:Int),.int .u64 (N2:Int),.string ⟨#[]⟩,.string ⟨#[]⟩,.slice none 0 0]) hq,(jso x3 q r _ (by have:=HRL.out;omega)).trans K.b,yaR K.g hqw _⟩);clear K hq hqw;go_wp2_with fail
   go_meet
   exact ⟨q,rfl,HF.out⟩
 case rest =>
  clear HK HQ0 hgz;obtain ⟨q,rfl,hQ⟩:=hcut;generalize wc = y0 at *;have HT1:=jh (HTK.out y0 hQ.b);have hqr:q ≠ r:=by have:=hQ.lo;have:=HRL.out;omega
  have HQ:=jh hQ;have HQR:=jh hqr;clear hQ hqr HTK HNA HNB;obtain ⟨TK,hTK⟩:∃ x,tkS s (hdA2 s) 40 (hdE2 s) = x:=⟨_,rfl⟩;rw [hTK] at HT1;have HTKS:=jh hTK;clear hTK;go_wp2_with fail
  refine HT1.out.mono ?_;rintro e y1 ⟨rfl,hb,hga⟩;have hq:=HQ.out.q.grown hga (fun e=>HQR.out (ji e));have hc:=HQ.out.c.grown hga (fun e=>HQ.out.m (ji e));have hgw:=HQ.out.g.trans hga;have hE:tkE s (hdA2 s) 40 (hdE2 s) = hdE s:=rfl;have hA:tkA s (hdA2 s) 40 (hdE2 s) = hdA s:=rfl;rw [hE,hA] at hb;have c2:=hb.cell 2;simp only [rdS,jta,jcz,jcs] at c2;have HB:=jh hb;have HQQ:=jh hq;have HCC:=jh hc;have HGG:=jh hgw;have HLO:=jh HQ.out.lo;have HNN:=jh HQ.out.n;have HMM:=jh HQ.out.m;clear hb hq hc hgw hga hE hA HT1 HQ;have hHC:hdC s = #[.int .u64 (N1:Int),.int .u64 (N2:Int),.string (hdP s),.string (hdH s),.slice none 0 0]:=by unfold hdC;rw [HN1.out,show noN s (hdA1 s) (hdE1 s) = N2 from HN2.out]
  have HHC:=jh hHC;clear hHC;by_cases hE:hdE s = 0
  ·have hP:hdP s = s.extract (hdA2 s) (hdA2 s + 20):=by unfold hdP;rw [if_pos hE]
   have hH:hdH s = s.extract (hdA2 s + 20) (hdA2 s + 40):=by unfold hdH;rw [if_pos hE]
   have e1:(hdE s == 0) = true:=by simpa using hE
   obtain ⟨_,k1,_,_,k2⟩:=ydP (show tkE s (hdA2 s) 40 (hdE2 s) = 0 from hE);rw [HTKS.out] at k2;have hx:TK = s.extract (hdA2 s) (hdA2 s + 40):=by rw [<- HTKS.out];unfold tkS;rw [if_pos (show tkE s (hdA2 s) 40 (hdE2 s) = 0 from hE)]
   have x1:TK.extract 0 20 = s.extract (hdA2 s) (hdA2 s + 20):=by rw [hx];apply yho;rw [show (20:Nat) = 0 + 20 from rfl,ybj,ybj,ybj,List.drop_zero,List.take_take];rfl
   have x2:TK.extract 20 40 = s.extract (hdA2 s + 20) (hdA2 s + 40):=by
    rw [hx];apply yho;rw [show (40:Nat) = 20 + 20 from rfl,ybj,show hdA2 s + (20 + 20) = hdA2 s + 20 + 20 by omega,ybj (s:=s) (a:=hdA2 s + 20),show hdA2 s + 20 + 20 = hdA2 s + 40 by omega,ybj,List.drop_take,List.take_take,List.drop_drop];rfl
   have HX1:=jh x1;have HX2:=jh x2;have HK2:=jh k2;have HP9:=jh hP;have HH9:=jh hH;clear hP hH hE x1 x2 hx k1;go_upto_region 4 with (fail)
   clear c2;refine jwh (S:=fun _=>True) (by kernel_rfl) ?_;change wpAnyH _ _ _ _ _ _ _ _ y1.drew;have hU0:Blk y1.drew q 25 #[.int .u64 (N1:Int),.int .u64 (N2:Int),.string ⟨#[]⟩,.string ⟨#[]⟩,.slice none 0 0]:=HQQ.out;have hB0:Blk y1.drew r 70 (rdS ch s (hdA s) (hdE s)):=HB.out;have hC0:Blk y1.drew g 25 spZ:=HCC.out;have hG0:w.grownBy y1.drew (some r):=HGG.out.trans (yaS y1 1 (some r));clear HQQ HB HCC HGG;generalize y1.drew = u0 at *;refine cV 0 24 (.string TK) rfl trivial ?_;simp only [jp,jb,jz,js];refine cL 1 25 (.string (TK.extract 0 20)) rfl (fun W hW=>by have h:=HK2.out;go_simp <;> first | rfl | omega) trivial ?_;simp only [jp,jb,jz,js];refine cV 2 26 (.string TK) rfl trivial ?_;simp only [jp,jb,jz,js];refine cL 3 27 (.string (TK.extract 20 40)) rfl (fun W hW=>by have h:=HK2.out;go_simp <;> first | rfl | omega | (rw [h])) trivial ?_;simp only [jp,jb,jz,js];rw [<- setRow_self u0 q _ 25 (0,0) hU0];refine cP q 4 28 2 rfl trivial ?_;simp only [jp,jb,jz,js];refine cS hU0 5 9 (.tmp 28) (.tmp 25) 2 (.string (TK.extract 0 20)) [.string (TK.extract 0 20)] #[.int .u64 (N1:Int),.int .u64 (N2:Int),.string (TK.extract 0 20),.string ⟨#[]⟩,.slice none 0 0] rfl rfl rfl rfl trivial ?_;(try simp only [jp,jb,jz,js]);refine cP q 6 29 3 rfl trivial ?_;simp only [jp,jb,jz,js];refine cS hU0 7 9 (.tmp 29) (.tmp 27) 3 (.string (TK.extract 20 40)) [.string (TK.extract 20 40)] #[.int .u64 (N1:Int),.int .u64 (N2:Int),.string (TK.extract 0 20),.string (TK.extract 20 40),.slice none 0 0] rfl rfl rfl rfl trivial ?_;(try simp only [jp,jb,jz,js]);refine jwd (by kernel_rfl) ?_ _;have HQQ:=jh (yay (cs':=#[.int .u64 (N1:Int),.int .u64 (N2:Int),.string (TK.extract 0 20),.string (TK.extract 20 40),.slice none 0 0]) hU0);have HB:=jh ((jso u0 q r #[.int .u64 (N1:Int),.int .u64 (N2:Int),.string (TK.extract 0 20),.string (TK.extract 20 40),.slice none 0 0] (fun e=>HQR.out e.symm)).trans hB0);have HCC:=jh ((jso u0 q g #[.int .u64 (N1:Int),.int .u64 (N2:Int),.string (TK.extract 0 20),.string (TK.extract 20 40),.slice none 0 0] (by have:=HNN.out;omega)).trans hC0);have HGG:=jh (yaR hG0 HLO.out #[.int .u64 (N1:Int),.int .u64 (N2:Int),.string (TK.extract 0 20),.string (TK.extract 20 40),.slice none 0 0]);clear hU0 hB0 hC0 hG0;generalize u0.setRow q #[.int .u64 (N1:Int),.int .u64 (N2:Int),.string (TK.extract 0 20),.string (TK.extract 20 40),.slice none 0 0] = y2 at *;go_upto_region 5 with (fail)
   (try clear c2);refine jwl ?_;refine wpList_load_row rfl 25 (.tmp 3) rfl q rfl 25 #[.int .u64 (N1:Int),.int .u64 (N2:Int),.string (TK.extract 0 20),.string (TK.extract 20 40),.slice none 0 0] (0,0) _ HQQ.out ja3 rfl (by kernel_rfl) ?_;simp only [jp,jb,jz,js];refine jsw rfl 25 (.tmp 2) (.tmp 30) rfl g #[.int .u64 (N1:Int),.int .u64 (N2:Int),.string (TK.extract 0 20),.string (TK.extract 20 40),.slice none 0 0] rfl rfl 25 spZ HCC.out (by kernel_rfl) rfl (by simp [ja2]) ?_;have HR2:=jh (yay (cs':=#[.int .u64 (N1:Int),.int .u64 (N2:Int),.string (TK.extract 0 20),.string (TK.extract 20 40),.slice none 0 0]) HCC.out);have HB2:=jh ((jso y2 g r #[.int .u64 (N1:Int),.int .u64 (N2:Int),.string (TK.extract 0 20),.string (TK.extract 20 40),.slice none 0 0] (fun e=>HMM.out e.symm)).trans HB.out);have HG2:=jh (yaR HGG.out (Nat.le_of_eq HGW.out) #[.int .u64 (N1:Int),.int .u64 (N2:Int),.string (TK.extract 0 20),.string (TK.extract 20 40),.slice none 0 0]);generalize y2.setRow g #[.int .u64 (N1:Int),.int .u64 (N2:Int),.string (TK.extract 0 20),.string (TK.extract 20 40),.slice none 0 0] = w9 at *;refine jwn ?_;simp only [jp,jb,jz,js];go_wp2_with fail
   refine jbr (results_cell_row (fn:=Tryz.f37) rfl _ _ _ _ _ _ _ rfl HR2.out ja3 rfl (by kernel_rfl)) rfl ?_;exact ⟨by rw [HHC.out,HP9.out,HH9.out,HX1.out,HX2.out],HB2.out,HG2.out⟩
  ·have hP:hdP s = ⟨#[]⟩:=by unfold hdP;rw [if_neg hE]
   have hH:hdH s = ⟨#[]⟩:=by unfold hdH;rw [if_neg hE]
   have e1:(hdE s == 0) = false:=by simpa using hE
   have HP9:=jh hP;have HH9:=jh hH;clear hP hH hE;go_upto_region 5 with (fail)
   (try clear c2);refine jwl ?_;refine wpList_load_row rfl 25 (.tmp 3) rfl q rfl 25 #[.int .u64 (N1:Int),.int .u64 (N2:Int),.string ⟨#[]⟩,.string ⟨#[]⟩,.slice none 0 0] (0,0) _ HQQ.out ja3 rfl (by kernel_rfl) ?_;simp only [jp,jb,jz,js];refine jsw rfl 25 (.tmp 2) (.tmp 30) rfl g #[.int .u64 (N1:Int),.int .u64 (N2:Int),.string ⟨#[]⟩,.string ⟨#[]⟩,.slice none 0 0] rfl rfl 25 spZ HCC.out (by kernel_rfl) rfl (by simp [ja2]) ?_;have HR2:=jh (yay (cs':=#[.int .u64 (N1:Int),.int .u64 (N2:Int),.string ⟨#[]⟩,.string ⟨#[]⟩,.slice none 0 0]) HCC.out);have HB2:=jh ((jso y1 g r #[.int .u64 (N1:Int),.int .u64 (N2:Int),.string ⟨#[]⟩,.string ⟨#[]⟩,.slice none 0 0] (fun e=>HMM.out e.symm)).trans HB.out);have HG2:=jh (yaR HGG.out (Nat.le_of_eq HGW.out) #[.int .u64 (N1:Int),.int .u64 (N2:Int),.string ⟨#[]⟩,.string ⟨#[]⟩,.slice none 0 0]);generalize y1.setRow g #[.int .u64 (N1:Int),.int .u64 (N2:Int),.string ⟨#[]⟩,.string ⟨#[]⟩,.slice none 0 0] = w9 at *;refine jwn ?_;simp only [jp,jb,jz,js];go_wp2_with fail
   refine jbr (results_cell_row (fn:=Tryz.f37) rfl _ _ _ _ _ _ _ rfl HR2.out ja3 rfl (by kernel_rfl)) rfl ?_;exact ⟨by rw [HHC.out,HP9.out,HH9.out],HB2.out,HG2.out⟩
theorem kE_z (E:Int):kE E 0 = E:=by unfold kE;split <;> simp_all
theorem yoP {E e:Int} (h:e ≠ 0):kE E e ≠ 0:=by unfold kE;split <;> assumption
theorem yp6 {s:ByteArray} {a:Nat} {E:Int} (h:noE s a E ≠ 0):noN s a E = 0:=by
 unfold noE at h;unfold noN;split at h
 ·rename_i h0
  rw [if_pos h0,(ykf s.data.toList a h).1];rfl
 ·rename_i h0
  rw [if_neg h0]
theorem yj9 {z z' n size:Nat} {e:TypeId} {v:Value} {xs:List Value} {u:World} (h:u.ownsRow z e size v n xs) (hz:z' <= z):u.ownsRow z' e size v n xs:=by
 obtain ⟨h1,(h2 | ⟨g,cap,cur,a,b,c⟩)⟩:=h
 ·exact ⟨h1,.inl h2⟩
 ·exact ⟨h1,.inr ⟨g,cap,cur,a,by omega,c⟩⟩
def BlkEnd (ch:Nat) (s:ByteArray) (r:Nat) (w:World) (e:Ending) (w':World):Prop :=
 ∃ vL vC,e = .returned (.tuple #[vL,vC]) /\ Blk w' r 70 (rdS ch s (bkA3 s) (bkE3 s)) /\ w.grownBy w' (some r) /\ w'.ownsRow w.heap.size 22 1 vC (bkC s).length (((bkC s).map fun (x:Nat)=>(x:Int)).map (je3 .u64)) /\
  (bkE3 s = 0 -> w'.ownsRow w.heap.size 4 1 vL (bkL s).length ((bkL s).map jc7))
theorem BlkEnd.none_ {ch:Nat} {s:ByteArray} {r:Nat} {w w':World} (h2:bkE2 s ≠ 0) (hb:Blk w' r 70 (rdS ch s (bkA2 s) (bkE2 s))) (hg:w.grownBy w' (some r)):BlkEnd ch s r w (.returned (.tuple #[.slice none 0 0,.slice none 0 0])) w':=by
 have hA:bkA3 s = bkA2 s:=by unfold bkA3;rw [if_neg h2]
 have hE:bkE3 s = bkE2 s:=by unfold bkE3;rw [if_neg h2]
 have hC:bkC s = []:=by unfold bkC;rw [if_neg h2]
 refine ⟨_,_,rfl,by rw [hA,hE];exact hb,hg,by rw [hC];exact jon _ _ _ _,fun h=>absurd (hE.symm.trans h) h2⟩
theorem yjq (ch:Nat) (s:ByteArray) (r:Nat) (w:World) (h:Blk w r 70 (rdS ch s (hdA s) (hdE s))) (hs:s.size <= 1000000000000) (hA1:bkA1 s <= s.size) :
  Calls jq 38 #[.pointer (some ⟨r,0,none⟩)] w (BlkEnd ch s r w):=by
 have hrl:=h.lt;have HN:=jh (ydS ch s (hdA s) (hdE s) r w h hs);have HRL:=jh hrl;obtain ⟨n,hn⟩:∃ x,noN s (hdA s) (hdE s) = x:=⟨_,rfl⟩;obtain ⟨E0,hE0⟩:∃ x,noE s (hdA s) (hdE s) = x:=⟨_,rfl⟩;have hbn:bkN s = n:=hn;have hA:noA s (hdA s) (hdE s) = bkA1 s:=rfl;have hE1:bkE1 s = kE (kE E0 (if n = 0 then 2 else 0)) (if 16 < n then 5 else 0):=by unfold bkE1;rw [hbn,hE0]
 have hbad:E0 ≠ 0 -> n = 0:=fun hh=>by rw [<- hn];exact yp6 (by rw [hE0];exact hh)
 rw [hn,hE0,hA] at HN;have HBN:=jh hbn;have HE1:=jh hE1;have HBAD:=jh hbad;have HA1:=jh hA1;have HS:=jh hs;clear h hrl hn hE0 hbn hA hE1 hbad hA1 hs;go_enter Tryz.func38,Tryz.ntmps38
 go_wp2_with fail
 refine HN.out.mono ?_;rintro e w2 ⟨rfl,hb2,hg2⟩;have HG2:=jh hg2;clear hg2 HN
 have fin:∀ (E':Int) (W:World),E' ≠ 0 -> bkE1 s = E' -> Blk W r 70 (rdS ch s (bkA1 s) E') -> w.grownBy W (some r) -> BlkEnd ch s r w (.returned (.tuple #[.slice none 0 0,.slice none 0 0])) W:=fun E' W h1 h2 h3 h4=>by
  have e2:bkE2 s = E':=by unfold bkE2;rw [if_neg (by rw [h2];exact h1),h2]
  have a2:bkA2 s = bkA1 s:=by unfold bkA2;rw [if_neg (by rw [h2];exact h1)]
  exact .none_ (by rw [e2];exact h1) (by rw [e2,a2];exact h3) h4
 have FIN:=jh fin;clear fin;by_cases hn0:n = 0
 ·have e1:((n:Int) == 0) = true:=by simp;omega
  have HK:=jh (yc2 ch s (bkA1 s) E0 2 r w2 hb2);have hE':bkE1 s = kE E0 2:=by rw [HE1.out,if_pos hn0,if_neg (by omega),kE_z]
  have HE':=jh hE';have hne:=yoP (E:=E0) (e:=2) (by decide);obtain ⟨E',hEE⟩:∃ x,kE E0 2 = x:=⟨_,rfl⟩;rw [hEE] at HK HE' hne;have e2:(E' != 0) = true:=by simpa using hne
  have e3:decide ((16:Int) < (n:Int)) = false:=decide_eq_false (by omega);have HNE:=jh hne;clear hb2 hE' hne hEE hn0;go_wp2_with fail
  refine HK.out.mono ?_;rintro e w3 ⟨rfl,hb3,hg3⟩;have HF:=jh (FIN.out E' w3 HNE.out HE'.out hb3 (HG2.out.trans hg3));have c2:=hb3.cell 2;simp only [rdS,jta,jcz,jcs] at c2;clear hb3 hg3 HK;go_wp2_with fail
  go_ret2
  exact HF.out
 have e1:((n:Int) == 0) = false:=by simp;omega
 by_cases hn16:16 < n
 ·have e3:decide ((16:Int) < (n:Int)) = true:=decide_eq_true (by omega);have HK:=jh (yc2 ch s (bkA1 s) E0 5 r w2 hb2);have hE':bkE1 s = kE E0 5:=by rw [HE1.out,if_neg hn0,if_pos hn16,kE_z]
  have HE':=jh hE';have hne:=yoP (E:=E0) (e:=5) (by decide);obtain ⟨E',hEE⟩:∃ x,kE E0 5 = x:=⟨_,rfl⟩;rw [hEE] at HK HE' hne;have e2:(E' != 0) = true:=by simpa using hne
  have HNE:=jh hne;clear hb2 hE' hne hEE hn0 hn16;go_wp2_with fail
  refine HK.out.mono ?_;rintro e w3 ⟨rfl,hb3,hg3⟩;have HF:=jh (FIN.out E' w3 HNE.out HE'.out hb3 (HG2.out.trans hg3));have c2:=hb3.cell 2;simp only [rdS,jta,jcz,jcs] at c2;clear hb3 hg3 HK;go_wp2_with fail
  go_ret2
  exact HF.out
 have e3:decide ((16:Int) < (n:Int)) = false:=decide_eq_false (by omega);have hE00:E0 = 0:=Decidable.byContradiction fun hh=>hn0 (HBAD.out hh);subst hE00;have hE1:bkE1 s = 0:=by rw [HE1.out,if_neg hn0,if_neg hn16];rfl
 have c2:=hb2.cell 2;simp only [rdS,jta,jcz,jcs] at c2;have HE10:=jh hE1;have HN0:=jh hn0;have HN16:=jh hn16;have HB2:=jh hb2;have p:((n:Int) + 8 - 1).tdiv 8 = (((n + 7) / 8:Nat):Int):=by rw [Int.tdiv_eq_ediv_of_nonneg (by omega)];omega
 have p2:((n:Int) + 8 - 1) / 8 = (((n + 7) / 8:Nat):Int):=by omega
 have hTK:=yhB ch s (bkA1 s) ((n + 7) / 8) 0 r w2 hb2 HS.out HA1.out (by omega);obtain ⟨m,hm⟩:∃ x,(n + 7) / 8 = x:=⟨_,rfl⟩;rw [hm] at p p2 hTK;obtain ⟨T,hT⟩:∃ T,tkE s (bkA1 s) m 0 = T:=⟨_,rfl⟩;obtain ⟨A,hA⟩:∃ T,tkA s (bkA1 s) m 0 = T:=⟨_,rfl⟩;obtain ⟨p0,hp0⟩:∃ T,tkS s (bkA1 s) m 0 = T:=⟨_,rfl⟩;have hz0:=yeU s (bkA1 s) m 0;have hE2:bkE2 s = if T = 0 then ybd p0.data.toList n else T:=by unfold bkE2 btE;rw [if_pos hE1,HBN.out,hm,hT,hp0]
 have hA2:bkA2 s = A:=by unfold bkA2 btA;rw [if_pos hE1,HBN.out,hm,hA]
 have hL2:bkL s = if bkE2 s = 0 then yaI p0.data.toList n else jc4 n false:=by unfold bkL bkE2 btL;rw [if_pos hE1,if_pos hE1,HBN.out,hm,hp0]
 have hAs:A <= s.size:=by
  rw [<- hA];by_cases h:tkE s (bkA1 s) m 0 = 0
  ·obtain ⟨_,k1,k2,_⟩:=ydP h;rw [k2];exact k1
  ·unfold tkA;rw [if_neg h];exact HA1.out
 rw [hT,hA,hp0] at hTK;rw [hp0] at hz0;have HTK:=jh hTK;have HE2:=jh hE2;have HA2:=jh hA2;have HL2:=jh hL2;have HZ0:=jh (show p0.size <= 1000 by omega);have HAS:=jh hAs;have hnb:n <= 16:=by omega
 have hwn:IntKind.i64.wrap (n:Int) = (n:Int):=ya5 (by omega);clear hTK hm hb2 hE1 hn0 hn16 hT hA hp0 hz0 hE2 hA2 hL2 hAs;go_wp2_with fail
 refine HTK.out.mono ?_;rintro e w3 ⟨rfl,hb3,hg3⟩;have HG3:=jh (HG2.out.trans hg3);have c2:=hb3.cell 2;simp only [rdS,jta,jcz,jcs] at c2;have HB3:=jh hb3;clear hb3 hg3 HTK p p2 HB2 HG2;by_cases hT0:T = 0
 rotate_left
 ·have hE2:bkE2 s = T:=by rw [HE2.out,if_neg hT0]
  have HF:=jh (BlkEnd.none_ (ch:=ch) (s:=s) (r:=r) (w:=w) (w':=w3) (by rw [hE2];exact hT0) (by rw [hE2,HA2.out];exact HB3.out) HG3.out);have e5:(T != 0) = true:=by simpa using hT0
  clear hT0 hE2;go_wp2_with fail
  go_ret2
  exact HF.out
 subst hT0;go_wp2_with fail
 refine (ygo p0 n (by have:=HZ0.out;omega) w3).mono ?_;rintro e w4 ⟨vL,rfl,hown,hb4⟩;have hg4:=yak hb4;obtain ⟨A',cc,rfl,_⟩:=ybv hown;have hz34:w.heap.size <= w3.heap.size:=HG3.out.size;have HOWN:=jh (show w4.ownsRow w.heap.size _ 1 _ _ _ from yj9 hown hz34);obtain ⟨U,hU⟩:∃ U,ybd p0.data.toList n = U:=⟨_,rfl⟩;have hE2:bkE2 s = U:=by have:=HE2.out;simpa [hU] using this
 rw [hU];obtain ⟨m2,hm2⟩:∃ k,(yaI p0.data.toList n).length = k:=⟨_,rfl⟩;rw [hm2] at HOWN ⊢;have HM2:=jh hm2;have HUU:=jh hE2;have HB4:=jh (HB3.out.grown hg4 (by simp));have HG4:=jh (HG3.out.trans (yaK hg4 (some r)));clear hown hb4 hg4 hU hm2 hz34 hE2 HB3 HG3 c2;go_wp2_with fail
 refine (yc2 ch s A 0 U r w4 HB4.out).mono ?_;rintro e w5 ⟨rfl,hb5,hg5⟩;rw [show kE 0 U = U from if_pos rfl] at hb5 ⊢;have HOWN5:=jh (HOWN.out.kept hg5 (by right;intro e;have:=yal HOWN.out e;have:=HRL.out;omega));have HB5:=jh hb5;have HG5:=jh (HG4.out.trans hg5);clear hb5 hg5 HOWN HB4 HG4;by_cases hU0:U = 0
 rotate_left
 ·have HF:=jh (BlkEnd.none_ (ch:=ch) (s:=s) (r:=r) (w:=w) (w':=w5) (by rw [HUU.out];exact hU0) (by rw [HUU.out,HA2.out];exact HB5.out) HG5.out);have e5:decide (U = 0) = false:=decide_eq_false hU0;clear hU0;go_wp2_with fail
  go_ret2
  exact HF.out
 subst hU0;have hbL:bkL s = yaI p0.data.toList n:=by rw [HL2.out,if_pos HUU.out]
 have hbC:bkC s = if nuE s A n 0 = 0 then nuN s A n 0 else []:=by unfold bkC;rw [if_pos HUU.out,HBN.out,HA2.out]
 have hbE:bkE3 s = nuE s A n 0:=by unfold bkE3;rw [if_pos HUU.out,HBN.out,HA2.out]
 have hbA:bkA3 s = nuA s A n 0:=by unfold bkA3;rw [if_pos HUU.out,HBN.out,HA2.out]
 have hnuE:nuE s A n 0 = (yaQ s.data.toList A n).2.2:=by unfold nuE;rw [if_pos rfl]
 have hnuA:nuA s A n 0 = if nuE s A n 0 = 0 then (yaQ s.data.toList A n).2.1 else A:=rfl
 have hnuL:nuE s A n 0 = 0 -> (yaQ s.data.toList A n).1 = (nuN s A n 0).map fun (x:Nat)=>(x:Int):=fun h=>by
  rw [<- (ycP s A n 0 HAS.out (by have:=HN16.out;omega)).2.2];unfold nuL;rw [if_pos h]
 have hnuB:nuE s A n 0 ≠ 0 -> (yaQ s.data.toList A n).1 = []:=fun h=>(ykg _ _ _ (by rw [<- hnuE];exact h)).1;have HUR:=jh (fun W=>yh4 s A n HS.out W);obtain ⟨LL,hLL⟩:∃ x,(yaQ s.data.toList A n).1 = x:=⟨_,rfl⟩;obtain ⟨to_,hto⟩:∃ x,(yaQ s.data.toList A n).2.1 = x:=⟨_,rfl⟩;obtain ⟨V,hV⟩:∃ x,(yaQ s.data.toList A n).2.2 = x:=⟨_,rfl⟩;rw [hLL,hto,hV] at HUR;rw [hV] at hnuE;rw [hto] at hnuA;rw [hLL] at hnuL hnuB;rw [hnuE] at hbC hbE hnuA hnuL hnuB;rw [hnuA] at hbA;have HBL:=jh hbL;have HBC:=jh hbC;have HBE:=jh hbE;have HBA:=jh hbA;have HNL:=jh hnuL;have HNB:=jh hnuB;clear hbL hbC hbE hbA hnuE hnuA hnuL hnuB hLL hto hV;go_upto_region 15 with (fail)
 refine jwh (S:=fun V=>Blk V r 70 (rdS ch s A 0)) (by kernel_rfl) ?_;change wpAnyH _ _ _ _ _ _ _ _ w5.drew;have hS0:Blk w5.drew r 70 (rdS ch s A 0):=HB5.out;have hg0:w5.grownBy w5.drew none:=yau (jr w5 none);have hown0:=HOWN5.out.kept hg0 (by cases A';exact .inl rfl;exact .inr (by simp [jb1]));have hgw0:=HG5.out.trans (yaK hg0 (some r));clear HOWN5 HB5 HG5 hg0;generalize w5.drew = u0 at *;refine cP r 0 62 0 rfl hS0 ?_;simp only [jp,jb,jz,js];refine cP r 1 63 0 rfl hS0 ?_;simp only [jp,jb,jz,js];refine cP r 2 64 0 rfl hS0 ?_;simp only [jp,jb,jz,js];refine cP r 3 65 0 rfl hS0 ?_;simp only [jp,jb,jz,js];refine cL 4 66 (.string s) rfl (fun W hW=>yaj 9 _ rfl _ rfl _ _ jb8 rfl ((Blk.cell hW 0).trans rfl)) hS0 ?_;simp only [jp,jb,jz,js];refine cP r 5 67 0 rfl hS0 ?_;simp only [jp,jb,jz,js];refine cP r 6 68 0 rfl hS0 ?_;simp only [jp,jb,jz,js];refine cP r 7 69 0 rfl hS0 ?_;simp only [jp,jb,jz,js];refine cP r 8 70 1 rfl hS0 ?_;simp only [jp,jb,jz,js];refine cL 9 71 (.int .i64 (A:Int)) rfl (fun W hW=>yaj 3 _ rfl _ rfl _ _ jb9 rfl ((Blk.cell hW 1).trans rfl)) hS0 ?_;simp only [jp,jb,jz,js];refine cV 10 72 (.int .i64 (n:Int)) rfl hS0 ?_;simp only [jp,jb,jz,js];refine yag (i:=11) (by kernel_rfl) ?_;refine yat (some 73) rfl rfl 85 #[.string s,.int .i64 (A:Int),.int .i64 (n:Int)] (ydV _ (.tmp 66) (.tmp 71) (.tmp 72) _ rfl _ _ _ rfl rfl rfl (jeo Tryz.func85 (by kernel_rfl) rfl _ _)) rfl ((HUR.out _).mono ?_);rintro e w6 ⟨vC,rfl,hC,hb6⟩;have hg6:=yak hb6;have hS1:Blk w6 r 70 (rdS ch s A 0):=hS0.grown hg6 (by simp);have hown6:=hown0.kept hg6 (by cases A';exact .inl rfl;exact .inr (by simp [jb1]));have hC6:=yj9 hC hgw0.size;have hgw6:=hgw0.trans (yaK hg6 (some r));clear hg6 hb6 hC hS0 hown0 hgw0 HUR;refine ⟨_,rfl,hS1,?_⟩;simp only [jp,jb,jz,js];refine cV 12 61 (.tuple #[vC,.int .i64 (to_:Int),.int .i64 V]) rfl hS1 ?_;simp only [jp,jb,jz,js];refine cV 13 74 vC rfl hS1 ?_;simp only [jp,jb,jz,js];refine cV 14 75 (.int .i64 (to_:Int)) rfl hS1 ?_;simp only [jp,jb,jz,js];refine cV 15 76 (.int .i64 V) rfl hS1 ?_;simp only [jp,jb,jz,js];refine cV 16 9 vC rfl hS1 ?_;simp only [jp,jb,jz,js];refine cV 17 10 (.int .i64 (to_:Int)) rfl hS1 ?_;simp only [jp,jb,jz,js];refine cV 18 8 (.int .i64 V) rfl hS1 ?_;simp only [jp,jb,jz,js];refine jwd (by kernel_rfl) ?_ _;have HKP:=jh (yc2 ch s A 0 V r w6 hS1);have HO6:=jh hown6;have HC6:=jh hC6;have HG6:=jh hgw6;clear hS1 hown6 hC6 hgw6;go_wp2_with fail
 refine HKP.out.mono ?_;rintro e w7 ⟨rfl,hb7,hg7⟩;rw [show kE 0 V = V from if_pos rfl] at hb7 ⊢;have ho7:=HO6.out.kept hg7 (by right;intro e;have:=yal HO6.out e;have:=HRL.out;omega);have hc7:=HC6.out.kept hg7 (by right;intro e;have:=yal HC6.out e;have:=HRL.out;omega);have hgw7:=HG6.out.trans hg7;have f1:=hb7.frozen 1;have c1:=hb7.cell 1;simp only [rdS,jta,jcz,jcs] at c1
 have hLL:LL = (bkC s).map fun (x:Nat)=>(x:Int):=by
  rw [HBC.out];by_cases hV0:V = 0
  ·rw [if_pos hV0];exact HNL.out hV0
  ·rw [if_neg hV0];exact HNB.out hV0
 rw [hLL,jd8] at hc7;have hl7:w7.ownsRow w.heap.size 4 1 (.slice A' m2 cc) (bkL s).length ((bkL s).map jc7):=by rw [HBL.out,HM2.out];exact ho7
 have hsc:=ya9 (jr w7 (some r)) 1 (.int .i64 (to_:Int));have hc8:=hc7.kept hsc (by right;intro e;have:=yal hc7 e;have:=HRL.out;omega);have hl8:=hl7.kept hsc (by right;intro e;have:=yal hl7 e;have:=HRL.out;omega);have hb8:Blk (w7.setCell ⟨r,1,none⟩ (.int .i64 (to_:Int))) r 70 (rdS ch s to_ V):=hb7.set_ 1 (.int .i64 (to_:Int));by_cases hV0:V = 0
 ·have hA:bkA3 s = to_:=by rw [HBA.out,if_pos hV0]
  have hF:BlkEnd ch s r w (.returned (.tuple #[.slice A' m2 cc,vC])) (w7.setCell ⟨r,1,none⟩ (.int .i64 (to_:Int))):=⟨_,_,rfl,by rw [hA,HBE.out];exact hb8,hgw7.trans hsc,hc8,fun _=>hl8⟩;have HF:=jh hF;have e7:decide (V = 0) = true:=decide_eq_true hV0;clear hb7 ho7 hc7 hgw7 hg7 HO6 HC6 HG6 HKP hLL hl7 hsc hc8 hl8 hb8 hA hF;go_wp2_with fail
  go_ret2
  exact HF.out
 ·have hA:bkA3 s = A:=by rw [HBA.out,if_neg hV0]
  have hF:BlkEnd ch s r w (.returned (.tuple #[.slice A' m2 cc,vC])) w7:=⟨_,_,rfl,by rw [hA,HBE.out];exact hb7,hgw7,hc7,fun _=>hl7⟩;have HF:=jh hF;have e7:decide (V = 0) = false:=decide_eq_false hV0;clear hb7 ho7 hc7 hgw7 hg7 HO6 HC6 HG6 HKP hLL hl7 hsc hc8 hl8 hb8 hA hF;go_wp2_with fail
  go_ret2
  exact HF.out
def KeepV (W W':World):Prop:=∀ (p:Addr) (v:Value),W.cell? p = some v -> (∀ n,v ≠ .int .i64 n) -> W'.cell? p = some v
theorem KeepV.trans {W W' W'':World} (h:KeepV W W') (h':KeepV W' W''):KeepV W W'':=fun p v hv hn=>h' p v (h p v hv hn) hn
theorem AccR.keepV {B:Nat} {W W':World} {ls:List AccV} {A:Option Addr} {n:Nat} (h:AccR B W ls A n) (hk:KeepV W W'):AccR B W' ls A n:=by
 refine ⟨h.1,fun h0=>?_⟩;obtain ⟨g,off,h1,h2,h3⟩:=h.2 h0;refine ⟨g,off,h1,h2,fun i hi=>?_⟩;obtain ⟨T,tc,a,b,c,d⟩:=h3 i hi;refine ⟨T,tc,hk _ _ a (by intro n e;cases e),hk _ _ b (by intro n e;cases e),⟨c.1,fun hn=>?_⟩,d⟩;obtain ⟨ad,e1,e2,e3⟩:=c.2 hn;refine ⟨ad,e1,e2,fun j u hu=>hk _ _ (e3 j u hu) ?_⟩;rw [jgm] at hu;obtain ⟨x,_,rfl⟩:=Option.map_eq_some_iff.1 hu;intro n e;cases e
theorem AutR.keepV {B:Nat} {W W':World} {ls:List AutV} {A:Option Addr} {n:Nat} (h:AutR B W ls A n) (hk:KeepV W W'):AutR B W' ls A n:=by
 refine ⟨h.1,fun h0=>?_⟩;obtain ⟨g,off,h1,h2,h3⟩:=h.2 h0;refine ⟨g,off,h1,h2,fun i hi j v hv=>hk _ _ (h3 i hi j v hv) ?_⟩;have hm:=List.mem_of_getElem? hv;unfold autL at hm;simp only [List.mem_cons,List.not_mem_nil,or_false] at hm;rcases hm with rfl | rfl | rfl | rfl | rfl | rfl | rfl | rfl | rfl | rfl | rfl | rfl <;> intro n e <;> cases e
theorem TxIn.keepV {B:Nat} {W W':World} {t:TxV} {sa sb:Value} (h:TxIn B W t sa sb) (hk:KeepV W W'):TxIn B W' t sa sb:=by
 obtain ⟨⟨A,c,h1,h2⟩,⟨A',c',h3,h4⟩,h5,h6⟩:=h;exact ⟨⟨A,c,h1,h2.keepV hk⟩,⟨A',c',h3,h4.keepV hk⟩,h5,h6⟩
theorem TxsR.keepV {B g:Nat} {W W':World} {ls:List TxV} {n:Nat} (h:TxsR B W ls (some ⟨g,0,none⟩) n) (hk:KeepV W W') (hg:W'.heap[g]? = W.heap[g]?):TxsR B W' ls (some ⟨g,0,none⟩) n:=by
 refine ⟨h.1,fun h0=>?_⟩;obtain ⟨g',off,h1,h2,h3⟩:=h.2 h0;refine ⟨g',off,h1,h2,fun i hi=>?_⟩;obtain ⟨sa,sb,a,b⟩:=h3 i hi;have hgg:g' = g:=by injection h1 with e;injection e with e _ _;exact e.symm
 subst hgg;exact ⟨sa,sb,fun j v hv=>(World.cell?_of_block (w:=W) (a:=⟨g',off + i * 36 + j,none⟩) hg).trans (a j v hv),b.keepV hk⟩
theorem TxsR.more {B B':Nat} {W:World} {ls:List TxV} {A:Option Addr} {n:Nat} (h:TxsR B W ls A n) (hB:B <= B'):TxsR B' W ls A n:=by
 refine ⟨h.1,fun h0=>?_⟩;obtain ⟨g,off,h1,h2,h3⟩:=h.2 h0;refine ⟨g,off,h1,by omega,fun i hi=>?_⟩;obtain ⟨sa,sb,a,b⟩:=h3 i hi;exact ⟨sa,sb,a,b.more hB⟩
theorem yjG {ch:Nat} {s:ByteArray} {a a' r:Nat} {E E':Int} {W W':World} (h:Blk W r 70 (rdS ch s a E)) (h':Blk W' r 70 (rdS ch s a' E')) (hg:W.grownBy W' (some r)):KeepV W W':=by
 intro p v hv hn;by_cases hp:p.block = r
 ·have hsp:p.spot.isSome = false:=by
   unfold World.cell? at hv;rw [hp,show W.heap[r]? = _ from h] at hv;cases hs:p.spot.isSome with
   | false=>rfl
   | true=>simp [hs] at hv
  have e:∀ {V:World} {cs:Array Value},Blk V r 70 cs -> V.cell? p = cs[p.off]?:=fun {V cs} hb=>by
   unfold World.cell?;rw [hp,show V.heap[r]? = _ from hb];simp [hsp]
  rw [e h] at hv;rw [e h'];obtain ⟨i,hi⟩:∃ i,p.off = i:=⟨_,rfl⟩;rw [hi] at hv ⊢
  match i,hv with
  | 0,hv=>exact hv
  | 1,hv=>exact absurd (ji hv).symm (hn _)
  | 2,hv=>exact absurd (ji hv).symm (hn _)
  | 3,hv=>exact hv
  | i + 4,hv=>cases hv
 ·exact hg.cell hv (fun e=>hp (ji e))
theorem ymN (s:ByteArray) (hA:bkA2 s <= s.size):(bkC s).length <= 16 /\ ∀ x ∈ bkC s,x < 18446744073709551616:=by
 unfold bkC;split
 ·rename_i h2
  split
  ·rename_i h3
   have h1:bkE1 s = 0:=by
    refine Decidable.byContradiction fun hc=>?_;unfold bkE2 at h2;rw [if_neg hc] at h2;exact hc h2
   have hn:bkN s <= 16:=by
    obtain ⟨_,e⟩:=kE_0 (show kE (kE (noE s (hdA s) (hdE s)) _) _ = 0 from h1);refine Nat.le_of_not_lt fun hc=>?_;rw [if_pos hc] at e;cases e
   obtain ⟨a,b,_⟩:=ycP s (bkA2 s) (bkN s) 0 hA (by omega);exact ⟨by omega,b⟩
  ·exact ⟨by simp,fun x hx=>by cases hx⟩
 ·exact ⟨by simp,fun x hx=>by cases hx⟩
def seE (E:Int) (cs:List Nat):Int:=if 512 < sumS cs then kE E 5 else E
theorem yhC (cs:List Nat) (c:Nat):sumS (cs ++ [c]) = sumS cs + min c 513:=by unfold sumS;rw [List.foldl_append];rfl
theorem yqc (E:Int):kE (kE E 5) 5 = kE E 5:=by unfold kE;split <;> simp_all
theorem ynp (E:Int) (cs:List Nat) (c:Nat):seE E (cs ++ [c]) = if 512 < sumS (cs ++ [c]) then kE (seE E cs) 5 else seE E cs:=by
 unfold seE;rw [yhC];by_cases h:512 < sumS cs
 ·rw [if_pos h,if_pos (by omega),if_pos (by omega),yqc]
 ·rw [if_neg h]
theorem ypy (s:ByteArray):seE (bkE3 s) (bkC s) = txE s:=by
 unfold seE txE;split
 ·rfl
 ·exact (kE_z _).symm
def ygK (ch:Nat) (s:ByteArray) (r:Nat) (w:World) (e:Ending) (w':World):Prop :=
 ∃ vT A E,e = .returned vT /\ Blk w' r 70 (rdS ch s A E) /\ w.grownBy w' (some r) /\
  ((E ≠ 0 /\ ((txE s ≠ 0 /\ E = txE s) \/ (txE s = 0 /\ getR s (bkA3 s) (sumS (bkC s)) ch = .error E))) \/
   (E = 0 /\ txE s = 0 /\ ∃ L g,getR s (bkA3 s) (sumS (bkC s)) ch = .ok (L,A) /\ A <= s.size /\ vT = .slice (some ⟨g,0,none⟩) L.length L.length /\ w.heap.size <= g /\ TxsR w'.heap.size w' L (some ⟨g,0,none⟩) L.length /\ (∀ t ∈ L,ydX t) /\ Stand w.heap.size w' L g L.length))
theorem yne (ch:Nat) (s:ByteArray) (r:Nat) (z:Nat) (AC:Option Addr) (cc:Nat) (w:World) (h:Blk w r 70 (rdS ch s (bkA3 s) (bkE3 s))) (hs:s.size <= 1000000000000) (hA2:bkA2 s <= s.size) (hA3:bkA3 s <= s.size) (hc0:ch ≠ 0) (hc1:ch <= 4611686018427387904)
  (hr:w.ownsRow z 22 1 (.slice AC (bkC s).length cc) (bkC s).length (((bkC s).map fun (x:Nat)=>(x:Int)).map (je3 .u64))) :
  Calls jq 39 #[.pointer (some ⟨r,0,none⟩),.slice AC (bkC s).length cc] w (ygK ch s r w):=by
 have hrl:=h.lt;obtain ⟨l16,lx⟩:=ymN s hA2;have htx:=ypy s;obtain ⟨cs,hcs⟩:∃ x,bkC s = x:=⟨_,rfl⟩;obtain ⟨E0,hE0⟩:∃ x,bkE3 s = x:=⟨_,rfl⟩;obtain ⟨a,ha⟩:∃ x,bkA3 s = x:=⟨_,rfl⟩;have HEND:=jh (show ygK ch s r w = ygK ch s r w from rfl);rw [hcs] at hr l16 lx htx;rw [hE0] at htx;rw [ha] at hA3;rw [hE0,ha] at h;rw [hcs];obtain ⟨nC,hnC⟩:∃ x,cs.length = x:=⟨_,rfl⟩;rw [hnC] at hr l16 ⊢;have HR:=jh hr;have HTX:=jh htx;have HLX:=jh lx;have HNC:=jh hnC;have H16:=jh l16;have HRL:=jh hrl;have HS:=jh hs;have HA3:=jh hA3;have HC0:=jh hc0;have HC1:=jh hc1;have HCS:=jh hcs;have HE0:=jh hE0;have HA:=jh ha;have HB0:=jh h;clear hr htx lx hnC hrl hs hA3 hc0 hc1 hcs hE0 ha h hA2 HEND;go_enter Tryz.func39,Tryz.ntmps39
 go_wp2_with fail
 go_loopw [13,5] (fun i v5 wr=>∃ k:Nat,i = .int .i64 (k:Int) /\ k <= nC /\ v5 = .int .u64 (sumS (cs.take k):Int) /\ Blk wr r 70 (rdS ch s a (seE E0 (cs.take k))) /\ w.grownBy wr (some r)) (fun i _ _=>nC - (intOf i).toNat)
 case atStart=>exact ⟨0,rfl,by omega,rfl,HB0.out,jr _ _⟩
 case round =>
  obtain ⟨k,rfl,hk,rfl,hb,hg⟩:=hrel;by_cases hlt:k < nC
  ·have hkl:k < cs.length:=by rw [HNC.out];exact hlt
   obtain ⟨c,hc⟩:∃ x,cs[k] = x:=⟨_,rfl⟩
   obtain ⟨g,hgr,hcell⟩:∃ g,AC = some ⟨g,0,none⟩ /\ wr.cell? ⟨g,k,none⟩ = some (.int .u64 (c:Int)):=by
    rcases HR.out.2 with ⟨_,h0⟩ | ⟨g,cap,cur,hv,hb9,hh,hn9,hc9,hz9,hx9⟩
    ·omega
    ·have hAC:AC = some ⟨g,0,none⟩:=by injection hv
     have hne:g ≠ r:=Blk.ne_ (show Blk w g 22 cur from hh) HB0.out (by decide);refine ⟨g,hAC,((show Blk w g 22 cur from hh).grown hg (fun e=>hne (ji e))).cell k |>.trans ?_⟩;have e1:(cur.toList.take (nC * 1))[k]? = (((cs.map fun (x:Nat)=>(x:Int)).map (je3 .u64)))[k]?:=by rw [hx9]
     rw [ja9 (by omega),jgm,jgm,je hkl,hc] at e1;simpa using e1
   subst hgr;have q1:(k:Int) < (nC:Int):=by omega
   have hcx:c < 18446744073709551616:=HLX.out c (by rw [<- hc];exact jc1 hkl);have htk:cs.take (k + 1) = cs.take k ++ [c]:=by rw [jtk hkl,hc]
   have hss:sumS (cs.take (k + 1)) = sumS (cs.take k) + min c 513:=by rw [htk,yhC]
   have hse:seE E0 (cs.take (k + 1)) = if 512 < sumS (cs.take (k + 1)) then kE (seE E0 (cs.take k)) 5 else seE E0 (cs.take k):=by rw [htk,ynp]
   have hsb:sumS (cs.take k) <= 513 * 16:=by
    have hb9:∀ l:List Nat,sumS l <= 513 * l.length:=fun l=>by
     induction l with
     | nil=>exact jle _
     | cons x l ih=>rw [yfs,jlc];omega
    have:=hb9 (cs.take k);rw [jc0] at this;have:=H16.out;omega
   obtain ⟨S,hS⟩:∃ x,sumS (cs.take k) = x:=⟨_,rfl⟩;obtain ⟨M,hM⟩:∃ x,min c 513 = x:=⟨_,rfl⟩;obtain ⟨E,hE⟩:∃ x,seE E0 (cs.take k) = x:=⟨_,rfl⟩;rw [hS] at hss hsb ⊢;rw [hM] at hss;rw [hE] at hb hse;rw [hss] at hse;have hmin:(min (c:Int) 513) = (M:Int):=by omega
   have hM513:M <= 513:=by omega
   have hwS:IntKind.u64.wrap ((S:Int) + (M:Int)) = ((S + M:Nat):Int):=by simp [IntKind.wrap,IntKind.bits,IntKind.signed];omega
   have HSS:=jh hss;have HSE:=jh hse;have HBB:=jh hb;have HG:=jh hg;have HLT:=jh hlt;have hK:=yc2 ch s a E 5 r wr hb;have HK:=jh hK;clear hss hse hb hg htk hcx hc hS hM hE hkl hK hsb;by_cases h512:512 < S + M
   ·have e5:decide ((512:Int) < ((S + M:Nat):Int)) = true:=decide_eq_true (by omega);have e6:decide ((512:Int) < (S:Int) + (M:Int)) = true:=decide_eq_true (by omega);have hse2:seE E0 (cs.take (k + 1)) = kE E 5:=by rw [HSE.out,if_pos h512]
    have HSE2:=jh hse2;clear hse2 h512;go_wp2_with fail
    refine HK.out.mono ?_;rintro e w3 ⟨rfl,hb3,hg3⟩;have HB3:=jh hb3;have HG3:=jh (HG.out.trans hg3);clear hb3 hg3 HK;go_wp2_with fail
    go_roundw
    case rel=>exact ⟨k + 1,by go_num,by have:=HLT.out;omega,by rw [HSS.out,Int.natCast_add],by rw [HSE2.out];exact HB3.out,HG3.out⟩
    case measure=>have:=HLT.out;simp [intOf];omega
   ·have e5:decide ((512:Int) < ((S + M:Nat):Int)) = false:=decide_eq_false (by omega);have e6:decide ((512:Int) < (S:Int) + (M:Int)) = false:=decide_eq_false (by omega);have hse2:seE E0 (cs.take (k + 1)) = E:=by rw [HSE.out,if_neg h512]
    have HSE2:=jh hse2;clear hse2 h512;go_wp2_with fail
    go_roundw
    case rel=>exact ⟨k + 1,by go_num,by have:=HLT.out;omega,by rw [HSS.out,Int.natCast_add],by rw [HSE2.out];exact HBB.out,HG.out⟩
    case measure=>have:=HLT.out;simp [intOf];omega
  ·have hkn:k = nC:=by omega
   subst hkn;rw [jtl (by rw [HNC.out];exact jle _)] at hb ⊢;rw [HTX.out] at hb;obtain ⟨S,hS⟩:∃ x,sumS cs = x:=⟨_,rfl⟩;obtain ⟨X,hX⟩:∃ x,txE s = x:=⟨_,rfl⟩
   have h512:X = 0 -> S <= 512:=fun h0=>by
    have h1:=HTX.out;rw [hX,h0] at h1;unfold seE at h1;rw [<- hS];refine Nat.le_of_not_lt fun hc=>?_;rw [if_pos hc] at h1;exact yoP (by decide) h1
   rw [hX] at hb;rw [hS];have q8:¬ ((k:Int) < (k:Int)):=by omega
   have c2:=hb.cell 2;simp only [rdS,jta,jcz,jcs] at c2;have HBB:=jh hb;have HG:=jh hg;have HSS:=jh hS;have HX:=jh hX;have H512:=jh h512;clear hb hg hS hX h512 hlt hk;by_cases hX0:X = 0
   rotate_left
   ·have e1:(X != 0) = true:=by simpa using hX0
    have hF:ygK ch s r w (.returned (.slice none 0 0)) wr:=⟨_,a,X,rfl,HBB.out,HG.out,.inl ⟨hX0,.inl ⟨by rw [HX.out];exact hX0,HX.out.symm⟩⟩⟩;have HF:=jh hF;clear hX0 hF;go_wp2_with fail
    go_ret
    exact HF.out
   subst hX0;have hS512:=H512.out rfl;have hw:IntKind.i64.wrap (S:Int) = (S:Int):=ya5 (by omega);have HS512:=jh hS512;clear hS512;go_upto_region 11 with (fail)
   clear c2 q8;refine jwh (S:=fun V=>Blk V r 70 (rdS ch s a 0)) (by kernel_rfl) ?_;change wpAnyH _ _ _ _ _ _ _ _ wr.drew;have hS0:Blk wr.drew r 70 (rdS ch s a 0):=HBB.out;have hgw0:=HG.out.trans (yaS wr 1 (some r));clear HBB HG;change w.grownBy wr.drew (some r) at hgw0;generalize wr.drew = u0 at *;refine cP r 0 35 0 rfl hS0 ?_;simp only [jp,jb,jz,js];refine cP r 1 36 0 rfl hS0 ?_;simp only [jp,jb,jz,js];refine cP r 2 37 0 rfl hS0 ?_;simp only [jp,jb,jz,js];refine cP r 3 38 0 rfl hS0 ?_;simp only [jp,jb,jz,js];refine cL 4 39 (.string s) rfl (fun W hW=>yaj 9 _ rfl _ rfl _ _ jb8 rfl ((Blk.cell hW 0).trans rfl)) hS0 ?_;simp only [jp,jb,jz,js];refine cP r 5 40 0 rfl hS0 ?_;simp only [jp,jb,jz,js];refine cP r 6 41 0 rfl hS0 ?_;simp only [jp,jb,jz,js];refine cP r 7 42 0 rfl hS0 ?_;simp only [jp,jb,jz,js];refine cP r 8 43 1 rfl hS0 ?_;simp only [jp,jb,jz,js];refine cL 9 44 (.int .i64 (a:Int)) rfl (fun W hW=>yaj 3 _ rfl _ rfl _ _ jb9 rfl ((Blk.cell hW 1).trans rfl)) hS0 ?_;simp only [jp,jb,jz,js];refine cV 10 45 (.int .u64 (S:Int)) rfl hS0 ?_;simp only [jp,jb,jz,js];refine cL 11 46 (.int .i64 (S:Int)) rfl (fun W hW=>by go_simp) hS0 ?_;simp only [jp,jb,jz,js];refine cP r 12 47 0 rfl hS0 ?_;simp only [jp,jb,jz,js];refine cP r 13 48 0 rfl hS0 ?_;simp only [jp,jb,jz,js];refine cP r 14 49 3 rfl hS0 ?_;simp only [jp,jb,jz,js];refine cL 15 50 (.int .u64 (ch:Int)) rfl (fun W hW=>yaj 22 _ rfl _ rfl _ _ jb3 rfl ((Blk.cell hW 3).trans rfl)) hS0 ?_;simp only [jp,jb,jz,js]
   have hba:ye1 s (a:Int) (S:Int) ch = false:=by
    unfold ye1;have:=HC0.out;have:=HC1.out;have:=HA3.out;have:=HS512.out;simp only [Bool.or_eq_false_iff,decide_eq_false_iff_not];omega
   have hga:getA s (a:Int) (S:Int) ch = getR s a S ch:=by unfold getA;rw [if_neg (by rw [hba];simp),jnc,jnc]
   have hget:=ykX s (a:Int) (S:Int) ch u0 HS.out;have hgl:=hgw0.size;refine yag (i:=16) (by kernel_rfl) ?_;refine yat (some 51) rfl rfl 86 #[.string s,.int .i64 (a:Int),.int .i64 (S:Int),.int .u64 (ch:Int)] (ydb _ (.tmp 39) (.tmp 44) (.tmp 46) (.tmp 50) _ rfl _ _ _ _ rfl rfl rfl rfl (jeo Tryz.func86 (by kernel_rfl) rfl _ _)) rfl (hget.mono ?_);rintro e w6 ⟨hg6,hcase⟩;rw [hga] at hcase
   have hcase2:∃ (vT:Value) (T:Nat) (E:Int),e = .returned (.tuple #[vT,.int .i64 (T:Int),.int .i64 E]) /\ ((E ≠ 0 /\ getR s a S ch = .error E) \/ (E = 0 /\ ∃ L g,getR s a S ch = .ok (L,T) /\ T <= s.size /\ vT = .slice (some ⟨g,0,none⟩) L.length L.length /\ w.heap.size <= g /\ TxsR w6.heap.size w6 L (some ⟨g,0,none⟩) L.length /\ (∀ t ∈ L,ydX t) /\ Stand w.heap.size w6 L g L.length)):=by
    rcases hcase with ⟨E,h1,h2,h3⟩ | ⟨L,T,g,h1,_,_,h3,h4,h5,h6,h7,h8⟩
    ·exact ⟨_,0,E,h3,.inl ⟨h1,h2⟩⟩
    ·exact ⟨_,T,0,h3,.inr ⟨rfl,L,g,h1,h6,rfl,by omega,h5,h7,fun V v1 v2=>h8 V v1 fun p v hp hv=>v2 p v (by omega) hv⟩⟩
   obtain ⟨vT,T,E,rfl,hres⟩:=hcase2;have hS1:Blk w6 r 70 (rdS ch s a 0):=hS0.grown hg6 (by simp);have hgw6:=hgw0.trans (yaK hg6 (some r));clear hcase hg6 hS0 hgw0 hget hga hba hgl;refine ⟨_,rfl,hS1,?_⟩;simp only [jp,jb,jz,js];refine cV 17 34 (.tuple #[vT,.int .i64 (T:Int),.int .i64 E]) rfl hS1 ?_;simp only [jp,jb,jz,js];refine cV 18 52 vT rfl hS1 ?_;simp only [jp,jb,jz,js];refine cV 19 53 (.int .i64 (T:Int)) rfl hS1 ?_;simp only [jp,jb,jz,js];refine cV 20 54 (.int .i64 E) rfl hS1 ?_;simp only [jp,jb,jz,js];refine cV 21 8 vT rfl hS1 ?_;simp only [jp,jb,jz,js];refine cV 22 9 (.int .i64 (T:Int)) rfl hS1 ?_;simp only [jp,jb,jz,js];refine cV 23 10 (.int .i64 E) rfl hS1 ?_;simp only [jp,jb,jz,js];refine jwd (by kernel_rfl) ?_ _;have HKP:=jh (yc2 ch s a 0 E r w6 hS1);have HS6:=jh hS1;have HG6:=jh hgw6;have HRES:=jh hres;clear hS1 hgw6 hres hw;go_wp2_with fail
   refine HKP.out.mono ?_;rintro e w7 ⟨rfl,hb7,hg7⟩;rw [show kE 0 E = E from if_pos rfl] at hb7 ⊢;have hgw7:=HG6.out.trans hg7;have f1:=hb7.frozen 1;have c1:=hb7.cell 1;simp only [rdS,jta,jcz,jcs] at c1;have hkv:=yjG HS6.out hb7 hg7;have hb8:Blk (w7.setCell ⟨r,1,none⟩ (.int .i64 (T:Int))) r 70 (rdS ch s T E):=hb7.set_ 1 (.int .i64 (T:Int));have hg8:=ya9 (jr w7 (some r)) 1 (.int .i64 (T:Int));have hkv8:=hkv.trans (yjG hb7 hb8 hg8);have hsz8:w6.heap.size <= (w7.setCell ⟨r,1,none⟩ (.int .i64 (T:Int))).heap.size:=jlt hg7.size hg8.size;by_cases hE0:E = 0
   ·obtain ⟨h1,h2⟩ | ⟨_,L,g,h2,h3,rfl,h5,h6,h7,h9⟩:=HRES.out
    ·exact absurd hE0 h1
    ·have hgr:g ≠ r:=by have:=HRL.out;omega
     have hgb:∀ x,x = g -> w6.heap.size > x -> (w7.setCell ⟨r,1,none⟩ (.int .i64 (T:Int))).heap[x]? = w6.heap[x]?:=fun x hx hlt=>by
      subst hx;exact (hg8.block x (jb6 hlt hg7.size) (fun e=>hgr (ji e))).trans (hg7.block x hlt (fun e=>hgr (ji e)))
     have htx:TxsR (w7.setCell ⟨r,1,none⟩ (.int .i64 (T:Int))).heap.size (w7.setCell ⟨r,1,none⟩ (.int .i64 (T:Int))) L (some ⟨g,0,none⟩) L.length:=by
      by_cases hL:0 < L.length
      ·obtain ⟨g',off,e1,e2,_⟩:=h6.2 hL;have:g' = g:=by injection e1 with e;injection e with e _ _;exact e.symm
       exact (h6.keepV hkv8 (hgb g rfl (by omega))).more hsz8
      ·exact ⟨rfl,fun h=>absurd h hL⟩
     have hF:ygK ch s r w (.returned (.slice (some ⟨g,0,none⟩) L.length L.length)) (w7.setCell ⟨r,1,none⟩ (.int .i64 (T:Int))) :=
      ⟨_,T,E,rfl,hb8,hgw7.trans hg8,.inr ⟨hE0,HX.out,L,g,by rw [HA.out,HCS.out,HSS.out];exact h2,h3,rfl,h5,htx,h7,h9.next hsz8 fun p v hp hv=>hg8.cell (hg7.cell hv (fun e=>by have:=ji e;have:=HRL.out;omega)) (fun e=>by have:=ji e;have:=HRL.out;omega)⟩⟩
     have HF:=jh hF;have e7:decide (E = 0) = true:=decide_eq_true hE0;clear hb7 hg7 hgw7 hkv hb8 hg8 hkv8 hsz8 htx hF hgb h6 h7 h9;subst hE0;go_wp2_with fail
     go_ret
     exact HF.out
   ·have hF:ygK ch s r w (.returned vT) w7:=by
     refine ⟨_,a,E,rfl,hb7,hgw7,.inl ⟨hE0,.inr ⟨HX.out,?_⟩⟩⟩;rw [HA.out,HCS.out,HSS.out];obtain ⟨_,h2⟩ | ⟨h1,_⟩:=HRES.out
     ·exact h2
     ·exact absurd h1 hE0
    have HF:=jh hF;have e7:decide (E = 0) = false:=decide_eq_false hE0;clear hb7 hg7 hgw7 hkv hb8 hg8 hkv8 hsz8 hF;go_wp2_with fail
    go_ret
    exact HF.out
theorem ymc {s:ByteArray} {a:Nat} {E:Int} (h:a <= s.size):noA s a E <= s.size:=by
 by_cases h0:noE s a E = 0
 ·exact (yf2 h0).2.2.1
 ·unfold noA;rw [if_neg h0];exact h
theorem yfx (s:ByteArray) (h:1 <= s.size):hdA2 s <= s.size /\ bkA1 s <= s.size /\ bkA2 s <= s.size /\ bkA3 s <= s.size:=by
 have h1:hdA1 s <= s.size:=ymc h;have h2:hdA2 s <= s.size:=ymc h1;have h3:hdA s <= s.size:=yec h2;have h4:bkA1 s <= s.size:=ymc h3
 have h5:bkA2 s <= s.size:=by
  unfold bkA2;split
  ·exact yec h4
  ·exact h4
 refine ⟨h2,h4,h5,?_⟩;unfold bkA3;split
 ·exact yjD h5
 ·exact h5
def offK (ks:List Nat) (k:Nat):Nat:=(ks.take k).foldr (· + ·) 0
theorem yij (xs ys:List Nat):(xs ++ ys).foldr (· + ·) 0 = xs.foldr (· + ·) 0 + ys.foldr (· + ·) 0:=by
 induction xs with
 | nil=>simp
 | cons x xs ih=>rw [jc9,List.foldr_cons,List.foldr_cons,ih];omega
theorem yp4 (ks:List Nat):offK ks 0 = 0:=rfl
theorem yhV (ks:List Nat) (k:Nat) (h:k < ks.length):offK ks (k + 1) = offK ks k + ks.getD k 0:=by
 unfold offK;rw [jtk h,yij,jg,je h]
 simp
theorem ylY (ks:List Nat) (k:Nat):offK ks k <= ks.foldr (· + ·) 0:=by
 have:=yij (ks.take k) (ks.drop k);rw [jd0] at this;unfold offK;omega
theorem ymC:∀ (os:List Bool) (ks:List Nat) (L:List TxV) (k:Nat),os.length = ks.length -> k < ks.length -> (cutB os ks L).getD k BkV.none_ = ⟨os.getD k false,(L.drop (offK ks k)).take (ks.getD k 0)⟩
 | [],[],_,_,_,h=>by simp at h
 | [],_ :: _,_,_,h,_=>by cases h
 | _ :: _,[],_,_,h,_=>by cases h
 | o :: os,n :: ks,L,0,_,_=>rfl
 | o :: os,n :: ks,L,k + 1,h,hk=>by
  have ih:=ymC os ks (L.drop n) k (by simpa using h) (by simpa using hk);show (cutB os ks (L.drop n)).getD k BkV.none_ = _;rw [ih,List.drop_drop];rfl
def ptL (g:Nat) (d:Bool × Nat × Nat × Nat):List Value:=[.bool d.1,.slice (some ⟨g,d.2.1 * 36,none⟩) d.2.2.1 d.2.2.2]
def ptsL (g:Nat) (ds:List (Bool × Nat × Nat × Nat)):List Value:=ds.flatMap (ptL g)
theorem ylK (g:Nat) (ds:List (Bool × Nat × Nat × Nat)) (d:Bool × Nat × Nat × Nat):ptsL g (ds ++ [d]) = ptsL g ds ++ ptL g d:=by simp [ptsL]
theorem ylL (g:Nat):∀ (ds:List (Bool × Nat × Nat × Nat)) (i:Nat) (d:Bool × Nat × Nat × Nat),ds[i]? = some d -> (ptsL g ds)[i * 2]? = some (.bool d.1) /\ (ptsL g ds)[i * 2 + 1]? = some (.slice (some ⟨g,d.2.1 * 36,none⟩) d.2.2.1 d.2.2.2)
 | [],i,d,h=>by simp at h
 | x :: ds,0,d,h=>by
  obtain rfl:x = d:=by simpa using h
  exact ⟨rfl,rfl⟩
 | x :: ds,i + 1,d,h=>by
  obtain ⟨h1,h2⟩:=ylL g ds i d (by simpa using h);have e:ptsL g (x :: ds) = ptL g x ++ ptsL g ds:=rfl;have l2:(ptL g x).length = 2:=rfl;rw [e];refine ⟨?_,?_⟩
  ·rw [jar (by omega),l2,show (i + 1) * 2 - 2 = i * 2 by omega,h1]
  ·rw [jar (by omega),l2,show (i + 1) * 2 + 1 - 2 = i * 2 + 1 by omega,h2]
structure CutI (os:List Bool) (ks:List Nat) (k:Nat) (ds:List (Bool × Nat × Nat × Nat)):Prop where
 len:ds.length = k
 at_:∀ i,i < k -> ∃ p c,ds[i]? = some (os.getD i false,p,ks.getD i 0,c) /\ (0 < ks.getD i 0 -> p = offK ks i)
theorem CutI.zero (os:List Bool) (ks:List Nat):CutI os ks 0 []:=⟨rfl,fun i hi=>absurd hi (Nat.not_lt_zero i)⟩
theorem CutI.step {os:List Bool} {ks:List Nat} {k:Nat} {ds:List (Bool × Nat × Nat × Nat)} (h:CutI os ks k ds) {o:Bool} {p m c:Nat} (ho:os.getD k false = o) (hm:ks.getD k 0 = m) (hp:0 < m -> p = offK ks k):CutI os ks (k + 1) (ds ++ [(o,p,m,c)]):=by
 refine ⟨by rw [jla,h.len];rfl,fun i hi=>?_⟩;by_cases hik:i < k
 ·obtain ⟨p',c',h1,h2⟩:=h.at_ i hik;exact ⟨p',c',by rw [jal (by rw [h.len];exact hik)];exact h1,h2⟩
 ·obtain rfl:i = k:=by omega
  refine ⟨p,c,?_,by rw [hm];exact hp⟩;rw [jar (by rw [h.len];omega),h.len,Nat.sub_self,ho,hm];rfl
theorem yoY {base g k c:Nat} {A:Option Addr} {W:World} {os:List Bool} {ks:List Nat} {L:List TxV} {ds:List (Bool × Nat × Nat × Nat)} (h:CutI os ks k ds) (hk:k = ks.length) (ho:os.length = ks.length) (hs:L.length = ks.foldr (· + ·) 0)
  (ht:TxsR W.heap.size W L (some ⟨g,0,none⟩) L.length) (hown:W.ownsRow base 41 2 (.slice A k c) k (ptsL g ds)):BksR W.heap.size W (cutB os ks L) A k:=by
 refine ⟨(yew os ks L ho hs).2.2.2.trans hk.symm,fun h0=>?_⟩;rcases hown.2 with ⟨_,h1⟩ | ⟨gb,cap,cur,hv,hb,hg,hn,hc,hsz,htk⟩
 ·omega
 ·cases hv;refine ⟨gb,0,rfl,(jes.1 hg).1,fun i hi=>?_⟩;obtain ⟨p,cc,hd,hp⟩:=h.at_ i hi;obtain ⟨e1,e2⟩:=ylL g ds i _ hd
  have hcell:∀ j w,j < k * 2 -> (ptsL g ds)[j]? = some w -> W.cell? ⟨gb,0 + j,none⟩ = some w:=by
   intro j w hj hw;rw [je1,cell_of_row W gb j cur 41 (0,0) hg,<- Array.getElem?_toList];rw [<- htk,ja9 hj] at hw;exact hw
  rw [ymC os ks L i ho (by omega)];refine ⟨some ⟨g,p * 36,none⟩,ks.getD i 0,cc,hcell _ _ (by omega) e1,?_,?_⟩
  ·have:=hcell (i * 2 + 1) _ (by omega) e2
   rwa [<- Nat.add_assoc] at this
  ·by_cases hz:0 < ks.getD i 0
   ·have h1:=yhV ks i (by omega);have h2:=ylY ks (i + 1);have h3:=ht.drop (k:=offK ks i) (by omega);rw [je1] at h3;rw [hp hz];exact h3.take (by omega)
   ·have hz0:ks.getD i 0 = 0:=by omega
    rw [hz0];exact TxsR.none' _ _ _
theorem ypA:(jq.info? 41).map (fun i=>(i.zero,i.size,i.bytes)) = some (some (.agg #[.bool false,.slice none 0 0]),2,32):=by kernel_rfl
theorem ypa {s:ByteArray} (h1:1 <= s.size) (h:txE s = 0):(bkL s).length = (bkC s).length /\ sumS (bkC s) = (bkC s).foldr (· + ·) 0 /\ sumS (bkC s) <= 512 /\ (bkC s).length <= 16:=by
 obtain ⟨p1,p2,p3,p4⟩:=yfx s h1;obtain ⟨e3,e5⟩:=kE_0 (show kE (bkE3 s) _ = 0 from h)
 have hsum:sumS (bkC s) <= 512:=by
  refine Nat.le_of_not_lt fun hc=>?_;rw [if_pos hc] at e5;cases e5
 have e2:bkE2 s = 0:=by
  refine Decidable.byContradiction fun hc=>?_;unfold bkE3 at e3;rw [if_neg hc] at e3;exact hc e3
 have e3n:nuE s (bkA2 s) (bkN s) 0 = 0:=by unfold bkE3 at e3;rw [if_pos e2] at e3;exact e3
 have e1:bkE1 s = 0:=by
  refine Decidable.byContradiction fun hc=>?_;unfold bkE2 at e2;rw [if_neg hc] at e2;exact hc e2
 have e2b:btE s (bkA1 s) (bkN s) 0 = 0:=by unfold bkE2 at e2;rw [if_pos e1] at e2;exact e2
 obtain ⟨l16,_⟩:=ymN s p3
 have hn:bkN s <= 16:=by
  obtain ⟨_,e⟩:=kE_0 (show kE (kE (noE s (hdA s) (hdE s)) _) _ = 0 from e1);refine Nat.le_of_not_lt fun hc=>?_;rw [if_pos hc] at e;cases e
 obtain ⟨a,_,_⟩:=ycP s (bkA2 s) (bkN s) 0 p3 (by omega);have hC:bkC s = nuN s (bkA2 s) (bkN s) 0:=by unfold bkC;rw [if_pos e2,if_pos e3n]
 have hL:bkL s = btL s (bkA1 s) (bkN s) 0:=by unfold bkL;rw [if_pos e1]
 refine ⟨?_,(yl1 _ hsum).1,hsum,l16⟩;rw [hL,hC,a];exact (yd2 e2b).2.2.2.2
end Go.Proofs.YtmaggfokhlodnaaGreatDoor
