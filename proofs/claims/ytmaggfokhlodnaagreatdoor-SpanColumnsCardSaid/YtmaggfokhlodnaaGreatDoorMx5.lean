/- Merged: CoI, Var, RowB, BitsP, BitsW, BitsU, FldE, FldT, FldV, CoL, SpE. -/
import Derived.Test.YtmaggfokhlodnaaGreatDoorMx1
import Derived.Test.YtmaggfokhlodnaaGreatDoorMx2
import Derived.Test.YtmaggfokhlodnaaGreatDoorMx3
import Derived.Test.YtmaggfokhlodnaaGreatDoorMx4
import Derived.Deep.WholeRow
namespace Go.Proofs.YtmaggfokhlodnaaGreatDoor
open Go.RowKit Go.Shelf
open List renaming set_cons_zero → jz, set_cons_succ → js, setIfInBounds_toArray → jb
set_option linter.unusedVariables false
set_option linter.unusedSimpArgs false
set_option maxRecDepth 100000
set_option maxHeartbeats 16000000
open Lib renaming hid → jh, byteCells → ja7, IsBuilder → jd2
open Act renaming put → jp
open World.grownBy renaming refl → jr
open _root_.List renaming getD_eq_getElem?_getD → jg, getElem?_eq_getElem → je, getElem?_cons_zero → jcz, getElem?_cons_succ → jcs, getElem?_toArray → jta, length_append → jla, getElem?_append_right → jar, getElem?_append_left → jal, take_succ_eq_append_getElem → jtk, take_of_length_le → jtl, drop_eq_getElem_cons → jdc, length_cons → jlc, getElem?_map → jgm, finRange → ja4, length_take → jc0, getElem_mem → jc1, replicate → jc4, getElem?_eq_none → jc5, cons_append → jc9, take_append_drop → jd0, size_toArray → jd5, length_map → jd8
open _root_.Option.some renaming inj → ji
open _root_.Array renaming getElem?_eq_some_iff → jes
open _root_.Int renaming toNat_natCast → jnc, eq_ofNat_of_zero_le → jez
open World renaming size_alloc → jsa, ownsRow_nil → jon
open KeepsOthers renaming setCell → jks
open IntWalk renaming i64_in → jii
open _root_.Nat renaming le_trans → jlt, le_refl → jle, add_sub_cancel_left → jc3, zero_add → je1
open _root_.Go.Proofs.Tryz renaming prog → jq, underlying49 → ja5, underlying126 → jc2, underlying28 → jc8
open Go renaming wp_region_list → jwl, wpList_nil → jwn, bodyPost_ret → jbr, wpAnyH_done → jwd, wp_region_held → jwh, run_append_own_at → jra, wpList_store_row → jsw
open _root_.Go.Proofs renaming enters_of → jeo
open Value renaming oneCell' → ja2, slice → ja6, string → jb2, bool → jc7, int → je3
open Below renaming refl → jd1
def yhU (ck:Int) (lo hi ne k0 c0:Bool):Int:=if (lo || hi) = true then 9 else if ck ≠ 0 then ck else if (ne && (k0 || c0)) = true then 2 else 0
def oneT (chain:Nat) (t:TxV):Int:=yhU (yjX t) (decide (t.kind < 0)) (decide (2 < t.kind)) (decide (t.chain ≠ chain)) (decide (t.kind ≠ 0)) (decide (t.chain ≠ 0))
def ydy (f:TxV -> Int):List TxV -> Int
 | []=>0
 | t :: r=>if f t ≠ 0 then f t else ydy f r
def yaA (ls:List TxV) (chain:Nat):Int:=if (decide (chain = 0) || decide (4611686018427387904 < chain)) = true then 1 else if 512 < ls.length then 5 else ydy (oneT chain) ls
theorem yfD {f:TxV -> Int}:∀ {ls:List TxV},(∀ i,i < ls.length -> f (ls.getD i TxV.zero) = 0) -> ydy f ls = 0
 | [],_=>rfl
 | t :: r,h=>by
  have h0:f t = 0:=by have:=h 0 (by simp);simpa using this
  rw [ydy,if_neg (by rw [h0];simp)];exact yfD fun i hi=>by have:=h (i + 1) (by simp;omega);simpa using this
theorem ydx {f:TxV -> Int}:∀ {ls:List TxV} {k:Nat} {e:Int},(∀ i,i < k -> f (ls.getD i TxV.zero) = 0) -> k < ls.length -> f (ls.getD k TxV.zero) = e -> e ≠ 0 -> ydy f ls = e
 | [],_,_,_,hk,_,_=>by simp at hk
 | t :: r,0,e,_,_,he,h0=>by
  have:f t = e:=by simpa using he
  rw [ydy,this,if_pos h0]
 | t :: r,k + 1,e,h,hk,he,h0=>by
  have h1:f t = 0:=by have:=h 0 (by omega);simpa using this
  rw [ydy,if_neg (by rw [h1];simp)];exact ydx (k:=k) (fun i hi=>by have:=h (i + 1) (by omega);simpa using this) (by simpa using hk) (by simpa using he) h0
theorem yd1 (B:Nat) (A:Option Addr) (n c:Nat) (ls:List TxV) (chain:Nat) (w:World) (h:TxsR B w ls A n) (hB:B <= w.heap.size) (hn:n <= 9223372036854775807) (ok:∀ t ∈ ls,t.Ok) :
  Calls jq 32 #[.slice A n c,.int .u64 (chain:Int)] w fun e w'=>e = .returned (.int .i64 (yaA ls chain)) /\ w.grownBy w' none:=by
 obtain ⟨R,hR⟩:∃ R,yaA ls chain = R:=⟨_,rfl⟩;rw [hR];have hl:=h.1;have e1:((chain:Int) == 0) = decide (chain = 0):=yiz chain 0;have e2:decide ((4611686018427387904:Int) < (chain:Int)) = decide (4611686018427387904 < chain):=decide_eq_decide.2 (by omega);have HH:=jh h;have HB:=jh hB;have HOK:=jh ok;have HL:=jh hl;have hR0:(decide (chain = 0) || decide (4611686018427387904 < chain)) = true -> R = 1:=fun hh=>by rw [<- hR];unfold yaA;rw [if_pos hh]
 by_cases hc:(decide (chain = 0) || decide (4611686018427387904 < chain)) = true
 ·have hRR:=hR0 hc;subst hRR;clear h hB ok hl hR hR0;rcases Bool.or_eq_true _ _ ▸ hc with h1 | h1
  ·rw [h1] at e1;clear e2 h1 hc;go_enter Tryz.func32,Tryz.ntmps32
   go_wp2_with fail
   go_ret
   exact ⟨rfl,jr _ _⟩
  ·have h0:decide (chain = 0) = false:=decide_eq_false (by have:=of_decide_eq_true h1;omega);rw [h0] at e1;rw [h1] at e2;clear h0 h1 hc;go_enter Tryz.func32,Tryz.ntmps32
   go_wp2_with fail
   go_ret
   exact ⟨rfl,jr _ _⟩
 have hc':(decide (chain = 0) || decide (4611686018427387904 < chain)) = false:=by simpa using hc
 rw [Bool.or_eq_false_iff] at hc';rw [hc'.1] at e1;rw [hc'.2] at e2;by_cases h512:512 < n
 ·have hRR:R = 5:=by rw [<- hR];unfold yaA;rw [if_neg hc,if_pos (by omega)]
  have e3:decide ((512:Int) < (n:Int)) = true:=decide_eq_true (by omega);subst hRR;clear h hB ok hl hR hR0 hc hc' h512;go_enter Tryz.func32,Tryz.ntmps32
  go_wp2_with fail
  go_ret
  exact ⟨rfl,jr _ _⟩
 have hRR:ydy (oneT chain) ls = R:=by rw [<- hR];unfold yaA;rw [if_neg hc,if_neg (by omega)]
 have e3:decide ((512:Int) < (n:Int)) = false:=decide_eq_false (by omega);have HRR:=jh hRR;clear h hB ok hl hR hR0 hRR hc hc' h512;go_enter Tryz.func32,Tryz.ntmps32
 go_wp2_with fail
 clear e1 e2 e3;go_loopw [21] (fun i wr=>∃ k:Nat,i = .int .i64 k /\ k <= n /\ w.grownBy wr none /\ Hid (∀ i:Nat,i < k -> oneT chain (ls.getD i TxV.zero) = 0)) (fun i _=>n - (intOf i).toNat)
 case atStart=>exact ⟨0,rfl,by omega,jr _ _,jh (by intro i h1;omega)⟩
 case round =>
  obtain ⟨k,rfl,hk,hg,h2⟩:=hrel;have h2':=jh h2.out;have HGG:=jh hg;by_cases hlt:k < n
  ·obtain ⟨g,off,sa,sb,x,rfl,hx,mx,hcx,hin⟩:=(HH.out.grown hg HB.out).at_ hlt;obtain ⟨⟨pa,xa,rfl,hacc⟩,⟨pb,xb,rfl,haut⟩,la,lb⟩:=id hin;have q1:(k:Int) < (n:Int):=by omega
   have q2:(0:Int) <= (k:Int):=by omega
   have HX:=jh hx;have HCX:=jh hcx;have hB2:=jlt HB.out hg.size;have HCALL:=jh (fun (V:World) (hV:wr.grownBy V none)=>yh8 x B (.slice pa x.acc.length xa) (.slice pb x.auths.length xb) V (hin.grown hV hB2) (jlt hB2 hV.size) (HOK.out x mx));obtain ⟨ck,hck⟩:∃ e,yjX x = e:=⟨_,rfl⟩;have hone:oneT chain x = yhU ck (decide (x.kind < 0)) (decide (2 < x.kind)) (decide (x.chain ≠ chain)) (decide (x.kind ≠ 0)) (decide (x.chain ≠ 0)):=by rw [<- hck];rfl
   rw [hck] at HCALL;have z0:(txC x (.slice pa x.acc.length xa) (.slice pb x.auths.length xb))[0]? = some (.int .i64 x.kind):=rfl;have z1:(txC x (.slice pa x.acc.length xa) (.slice pb x.auths.length xb))[1]? = some (.int .u64 (x.chain:Int)):=rfl;have hone1:=ydO x pa pb x.acc.length xa x.auths.length xb;have HSZ:=jh (show (txC x (.slice pa x.acc.length xa) (.slice pb x.auths.length xb)).size = 36 from rfl);obtain ⟨kd,hkd⟩:∃ n,x.kind = n:=⟨_,rfl⟩;obtain ⟨ch,hch⟩:∃ n,x.chain = n:=⟨_,rfl⟩;rw [hkd] at z0 hone;rw [hch] at z1 hone;have HONE:=jh hone;have HONE1:=jh hone1;clear h2 hx hg hcx hin hacc haut la lb mx hB2 hck hone hkd hch hone1;go_upto_region 7 with (fail)
   refine jwl ?_
   iterate 3 go_step
   refine wp_load_mid 49 (.tmp 23) rfl g (off + k * 36) rfl (txL x (.slice pa x.acc.length xa) (.slice pb x.auths.length xb)) _ HCX.out ja5 rfl (by kernel_rfl) ?_;clear HCX;rw [show (txL x (.slice pa x.acc.length xa) (.slice pb x.auths.length xb)).toArray = txC x (.slice pa x.acc.length xa) (.slice pb x.auths.length xb) from rfl];generalize txC x (.slice pa x.acc.length xa) (.slice pb x.auths.length xb) = ct at *;have hga:=yaa (jr wr none) (.cells ct 49);have hbk:=Blk.new wr 49 ct
   iterate 5 go_step
   refine wp_store_row 49 (.tmp 6) (.tmp 24) rfl wr.heap.size ct rfl rfl 49 txZ (Blk.new wr _ txZ) ((show (jq.info? 49).map (·.size) = some 36 by kernel_rfl).trans (congrArg some HSZ.out.symm)) (by rw [HSZ.out];rfl) HONE1.out ?_;rw [World.setRow_alloc_new];obtain ⟨g6,hg6⟩:∃ g,wr.heap.size = g:=⟨_,rfl⟩;rw [hg6] at hbk ⊢;clear hg6;have HGA:=jh hga;have HCALL2:=jh (HCALL.out _ hga);generalize wr.alloc (.cells ct 49) = w5 at *;have HBK:=jh hbk;have c0:=(hbk.cell 0).trans z0;clear hga hbk HCALL HONE1;by_cases klo:kd < 0
   ·have q3:decide (kd < 0) = true:=decide_eq_true klo;have hRR:R = 9:=by rw [<- HRR.out];exact ydx (k:=k) h2'.out (by rw [HL.out];exact hlt) (by rw [HX.out,HONE.out,q3];rfl) (by decide)
    subst hRR;clear klo HONE;go_wp2_with fail
    go_ret
    exact ⟨rfl,yab HGG.out HGA.out (by simp)⟩
   have q3:decide (kd < 0) = false:=decide_eq_false klo;by_cases khi:2 < kd
   ·have q4:decide (2 < kd) = true:=decide_eq_true khi;have hRR:R = 9:=by rw [<- HRR.out];exact ydx (k:=k) h2'.out (by rw [HL.out];exact hlt) (by rw [HX.out,HONE.out,q3,q4];rfl) (by decide)
    subst hRR;clear klo khi HONE;go_wp2_with fail
    go_ret
    exact ⟨rfl,yab HGG.out HGA.out (by simp)⟩
   have q4:decide (2 < kd) = false:=decide_eq_false khi;rw [q3,q4] at HONE;have KLO:=jh klo;have KHI:=jh khi;clear klo khi;go_upto_region 10 with (fail)
   clear q3 q4 c0;refine jwl ?_;refine yac rfl (.agg ct) (yai rfl rfl 49 ct _ HBK.out ja5 rfl ((show (jq.info? 49).map (·.size) = some 36 by kernel_rfl).trans (congrArg some HSZ.out.symm))) ?_;simp only [jp,jb,jz,js];go_wp2_with fail
   refine HCALL2.out.mono ?_;rintro e w6 ⟨rfl,hg6⟩;have HBK:=jh (HBK.out.grown hg6 (by simp));have HG6:=jh (yab (yab HGG.out HGA.out (by simp)) hg6 (by simp));clear hg6 HCALL2 HGA;by_cases hck:ck = 0
   rotate_left
   ·have q5:(ck != 0) = true:=by simpa using hck
    have hRR:R = ck:=by
     rw [<- HRR.out];refine ydx (k:=k) h2'.out (by rw [HL.out];exact hlt) ?_ hck;rw [HX.out,HONE.out];unfold yhU;rw [if_neg (by simp),if_pos hck]
    subst hRR;clear hck HONE;go_wp2_with fail
    go_ret
    exact ⟨rfl,HG6.out⟩
   subst hck;have c0:=(HBK.out.cell 0).trans z0;have c1:=(HBK.out.cell 1).trans z1;have q6:((ch:Int) != (chain:Int)) = decide (ch ≠ chain):=by rw [bne,yd3 ch chain];by_cases hh:ch = chain <;> simp [hh]
   have q7:(kd != 0) = decide (kd ≠ 0):=by by_cases hh:kd = 0 <;> simp [hh]
   have q8:((ch:Int) != 0) = decide (ch ≠ 0):=by by_cases hh:ch = 0 <;> simp [hh]
   have hbad:(decide (ch ≠ chain) && (decide (kd ≠ 0) || decide (ch ≠ 0))) = true -> R = 2:=fun hh=>by
    rw [<- HRR.out];refine ydx (k:=k) h2'.out (by rw [HL.out];exact hlt) ?_ (by decide);rw [HX.out,HONE.out];unfold yhU;rw [if_neg (by simp),if_neg (by simp),if_pos hh]
   have hgood:(decide (ch ≠ chain) && (decide (kd ≠ 0) || decide (ch ≠ 0))) = false -> ∀ i,i < k + 1 -> oneT chain (ls.getD i TxV.zero) = 0:=fun hh i hi=>by
    by_cases hik:i = k
    ·rw [hik,HX.out,HONE.out];unfold yhU;rw [if_neg (by simp),if_neg (by simp),if_neg (by rw [hh];simp)]
    ·exact h2'.out i (by omega)
   have HBAD:=jh hbad;have HGOOD:=jh hgood;clear hbad hgood HONE;generalize decide (ch ≠ chain) = d1 at *;generalize decide (kd ≠ 0) = d2 at *;generalize decide (ch ≠ 0) = d3 at *;cases d1 with
   | false =>
    go_wp2_with fail
    exact ⟨⟨k + 1,by go_num,by omega,HG6.out,jh (HGOOD.out rfl)⟩,by simp [intOf];omega⟩
   | true =>
   cases d2 with
   | true =>
    obtain rfl:=HBAD.out rfl;go_wp2_with fail
    go_ret
    exact ⟨rfl,HG6.out⟩
   | false =>
   cases d3 with
   | true =>
    obtain rfl:=HBAD.out rfl;go_wp2_with fail
    go_ret
    exact ⟨rfl,HG6.out⟩
   | false =>
    go_wp2_with fail
    exact ⟨⟨k + 1,by go_num,by omega,HG6.out,jh (HGOOD.out rfl)⟩,by simp [intOf];omega⟩
  ·have hno:ydy (oneT chain) ls = 0:=yfD fun i hi=>h2.out i (by have:=HL.out;omega);have hR0:R = 0:=by rw [<- HRR.out];exact hno
   subst hR0;have q0:(n:Int) <= (k:Int):=by omega
   clear hno h2 hg;go_wp2_with fail
   go_ret
   exact ⟨rfl,HGG.out⟩
def varF:Nat -> Nat -> List UInt8
 | 0,_=>[]
 | f + 1,n=>if n < 128 then [UInt8.ofNat n] else UInt8.ofNat (n % 128 + 128) :: varF f (n / 128)
def varL (n:Nat):List UInt8:=varF 10 n
theorem ycn:∀ f n,(varF f n).length <= f
 | 0,_=>by simp [varF]
 | f + 1,n=>by
  unfold varF;split
  ·simp
  ·have:=ycn f (n / 128);simp;omega
theorem ypU:∀ m:Fin 256,bits .or .u8 ((m.val:Nat):Int) 128 = ((UInt8.ofNat (m.val % 128 + 128)).toNat:Int):=by decide +kernel
theorem ygO (n:Nat) (hn:n < 18446744073709551616) (w:World) :
  Calls jq 23 #[.int .u64 (n:Int)] w fun e w'=>e = .returned (.string ⟨(varL n).toArray⟩) /\ w.grownBy w' none:=by
 obtain ⟨i0,z0,hi,hz0,hz1,hz2,hz3⟩:=ymJ;obtain ⟨L,hL⟩:∃ l,varL n = l:=⟨_,rfl⟩;rw [hL];have HL:=jh hL;clear hL;go_enter Tryz.func23,Tryz.ntmps23
 go_wp2_with fail
 go_loopw [0,3] (fun x v wr=>∃ (m f:Nat) (pre:List UInt8),x = .int .u64 (m:Int) /\ wr.ownsRow w.heap.size 5 1 v pre.length (u8s pre) /\ w.grownBy wr none /\ Hid (pre ++ varF (f + 1) m = L) /\ Hid (m < 128 ^ (f + 1)) /\ pre.length + f <= 9 /\ m <= 18446744073709551615) (fun x _ _=>(intOf x).toNat)
 case atStart=>exact ⟨n,9,[],rfl,jon _ _ _ _,jr _ _,HL.out,by show n < 128 ^ 10;omega,by simp,by omega⟩
 case round =>
  obtain ⟨m,f,pre,rfl,hown,hg,h1,h2,h3,h4⟩:=hrel;have hsz:=hg.size;obtain ⟨A,cc,rfl,_⟩:=ybv hown;by_cases hlt:m < 128
  ·obtain ⟨c,hc⟩:∃ c,UInt8.ofNat m = c:=⟨_,rfl⟩;have p1:(m:Int) = (c.toNat:Int):=by rw [<- hc];simp;omega
   have HP1:=jh p1
   have hfin:L = pre ++ [c]:=by
    rw [<- h1.out,varF,if_pos hlt,hc]
   have HF:=jh hfin;clear hc hfin h1 h2 p1;go_wp2_with (at_builtin;refine wpList_append_own _ rfl _ _ 43 rfl w.heap.size 5 i0 z0 1 1 Tryz.underlying43 hi hz0 hz1 hz2 hz3 (by decide) _ _ _ rfl (hown.alloc _) ⟨wr.heap.size,0,none⟩ 1 1 [.int .u8 (m:Int)] rfl rfl (cell_one_new _ _ _) (by simp [ja2]) (by simp only [maxLen];omega) (by omega) (by simp;omega) ?_;intro v' w4 hown4 hgrow _)
   have hown5:w4.ownsRow w.heap.size 5 1 v' (pre.length + 1) (u8s (pre ++ [c])):=by rw [HP1.out] at hown4;simpa [u8s] using hown4
   have hcv:=ybS hown5;obtain ⟨g',cap',rfl⟩:=ownsRow_succ hown5;clear hown4 hown5;have hg4:w.grownBy w4 none:=yab (yaa hg _) hgrow (fun j hj=>.inr (yeJ hown hj));clear hgrow;go_wp2_with fail
   rw [hcv];simp only [Result.andThen];rw [Oper.upon_value];go_wp2_with fail
   go_ret
   exact ⟨by rw [HF.out];rfl,hg4⟩
  ·obtain ⟨c,hc⟩:∃ c,UInt8.ofNat (m % 128 + 128) = c:=⟨_,rfl⟩;obtain ⟨q,hq⟩:∃ q,m % 256 = q:=⟨_,rfl⟩;have p1:(m:Int) % 256 = (q:Int):=by omega
   have p2:bits .or .u8 (q:Int) 128 = (c.toNat:Int):=by
    have:=ypU ⟨q,by omega⟩;rw [<- hc,show m % 128 = q % 128 by omega];exact this
   have HC:=jh hc;clear hc hq;go_wp2_with (at_builtin;refine wpList_append_own _ rfl _ _ 43 rfl w.heap.size 5 i0 z0 1 1 Tryz.underlying43 hi hz0 hz1 hz2 hz3 (by decide) _ _ _ rfl (hown.alloc _) ⟨wr.heap.size,0,none⟩ 1 1 [.int .u8 (c.toNat:Int)] rfl rfl (cell_one_new _ _ _) (by simp [ja2]) (by simp only [maxLen];omega) (by omega) (by simp;omega) ?_;intro v' w4 hown4 hgrow _)
   obtain ⟨g',cap',rfl⟩:=ownsRow_succ hown4;have hown5:w4.ownsRow w.heap.size 5 1 (.slice (some ⟨g',0,none⟩) (pre ++ [c]).length cap') (pre ++ [c]).length (u8s (pre ++ [c])):=by simpa [u8s] using hown4
   have hg4:w.grownBy w4 none:=yab (yaa hg _) hgrow (fun j hj=>.inr (yeJ hown hj))
   have hf1:1 <= f:=by
    rcases Nat.eq_zero_or_pos f with h0 | h0
    ·have:=h2.out;rw [h0] at this;omega
    ·exact h0
   obtain ⟨f',rfl⟩:∃ f',f = f' + 1:=⟨f - 1,by omega⟩
   have hst:(pre ++ [c]) ++ varF (f' + 1) (m / 128) = L:=by
    rw [<- h1.out]
    conv=>rhs;rw [varF,if_neg hlt,HC.out]
    simp
   have hpw:m / 128 < 128 ^ (f' + 1):=by
    have:=h2.out;rw [Nat.pow_succ] at this;exact Nat.div_lt_of_lt_mul (by rw [Nat.mul_comm];exact this)
   have HS:=jh hst;have HP:=jh hpw;clear hst hpw hown4 hgrow p1 p2 h1 h2 hown;go_wp2_with fail
   refine ⟨⟨m / 128,f',pre ++ [c],by simp,by simpa using hown5,hg4,HS.out,HP.out,by simp;omega,by omega⟩,by simp [intOf];omega⟩
theorem BuilderAt.grown_ {T e:TypeId} {B b:Nat} {p:Value} {bs:List Value} {w w':World} (h:Lib.BuilderAt T e B b p bs w) (hg:w.grownBy w' none):Lib.BuilderAt T e B b p bs w':=by
 have hlt:=h.lt;obtain ⟨hB,v,hb,hown,hne⟩:=h;exact ⟨hB,v,(hg.block b hlt (by simp)).trans hb,hown.kept hg (Classical.em _),hne⟩
theorem IsBuilder.grown_ {T e:TypeId} {B b:Nat} {bs:List Value} {w w':World} (h:jd2 T e B b bs w) (hg:w.grownBy w' none):jd2 T e B b bs w':=h.elim (fun h=>.inl (BuilderAt.grown_ h hg)) (fun h=>.inr (BuilderAt.grown_ h hg))
def rowL (xs:List Int):List UInt8:=xs.flatMap fun x=>varL x.toNat
theorem ylC (xs:List Int) (x:Int):rowL (xs ++ [x]) = rowL xs ++ varL x.toNat:=by simp [rowL]
theorem yei (xs:List Int):(rowL xs).length <= 10 * xs.length:=by
 unfold rowL
 induction xs with
 | nil=>simp
 | cons x xs ih =>
  have:=ycn 10 x.toNat
  simp only [List.flatMap_cons,jla,jlc];unfold varL at *;omega
theorem yfr {α:Type} [Inhabited α] (xs:List α) (k:Nat) (hk:k < xs.length) (d:α):xs.take (k + 1) = xs.take k ++ [xs.getD k d]:=by
 rw [jtk hk,jg,je hk];rfl
theorem ylB (B:Nat) (A:Option Addr) (n c:Nat) (xs:List Int) (w:World) (hB:B <= w.heap.size) (h:Reads w B 1 A n (xs.map (je3 .u64))) (hwf:∀ x ∈ xs,0 <= x /\ x <= 18446744073709551615) (hn:n <= 100000) :
  Calls jq 25 #[.slice A n c] w fun e w'=>e = .returned (.string ⟨(rowL xs).toArray⟩) /\ Below w.heap.size w w':=by
 have hl:xs.length = n:=by simpa using h.1
 have HL:=jh hl;clear hl;go_enter Tryz.func25,Tryz.ntmps25
 have b0:=ydW w;have hb0:Below w.heap.size w (w.alloc (.cells #[.pointer none,.slice none 0 0] 97)):=(jd1 _ w).alloc (jle _) _;go_wp2_with fail
 generalize w.alloc (.cells #[.pointer none,.slice none 0 0] 97) = w1 at *;go_loopw [8] (fun i wr=>∃ k:Nat,i = .int .i64 (k:Int) /\ k <= n /\ jd2 97 5 w.heap.size w.heap.size (ja7 (rowL (xs.take k))) wr /\ Below w.heap.size w wr) (fun i _=>n - (intOf i).toNat)
 case atStart=>exact ⟨0,rfl,by omega,b0,hb0⟩
 case round =>
  clear b0 hb0;obtain ⟨k,rfl,hk,hb,hbel⟩:=hrel;have hsz:=hbel.size;by_cases hlt:k < n
  ·obtain ⟨b,off,rfl,hbb,hc⟩:=(h.below (hbel.mono hB)).ints hlt;have hck:=hc k hlt;have hx:=hwf (xs.getD k 0) (by rw [jg,je (by have:=HL.out;omega)];exact jc1 _);have hst:rowL (xs.take (k + 1)) = rowL (xs.take k) ++ varL (xs.getD k 0).toNat:=by rw [yfr xs k (by have:=HL.out;omega) 0,ylC]
   have hlen:=yei (xs.take k);rw [jc0] at hlen;generalize xs.getD k 0 = x at *;obtain ⟨z,rfl⟩:=jez hx.1;rw [jnc] at hst;have hvl:=ycn 10 z;obtain ⟨vb,hvb⟩:∃ v:ByteArray,(⟨(varL z).toArray⟩:ByteArray) = v:=⟨_,rfl⟩;have hvz:vb.size <= 10:=by rw [<- hvb];show (varL z).toArray.size <= 10;simpa [varL] using hvl
   have hvar:=ygO z (by omega) wr;rw [hvb] at hvar;have hst2:ja7 (rowL (xs.take (k + 1))) = ja7 (rowL (xs.take k)) ++ Lib.strCells vb:=by rw [hst,ybg,yb1,<- hvb]
   have HS:=jh hst2;clear hst hst2 hvb hvl hc hx;go_wp2_with fail
   refine hvar.mono ?_;rintro e w2 ⟨rfl,hg2⟩;have hb2:=IsBuilder.grown_ hb hg2;have hbel2:Below w.heap.size w w2:=hbel.trans ((yaE hg2).mono hsz);clear hvar hb hg2 hck;go_wp2_with fail
   refine (yaW w.heap.size w.heap.size _ vb w2 hb2 (by rw [Lib.byteCells_length];omega) (by have:=hbel2.size;omega)).mono ?_;rintro e w3 ⟨rfl,hb3,hbel3⟩;rw [<- HS.out] at hb3;have hbel4:Below w.heap.size w w3:=hbel2.trans hbel3;clear hb2 hbel2 hbel3 hbel;go_wp2_with fail
   go_roundw
   case rel=>exact ⟨k + 1,by simp,by omega,hb3,hbel4⟩
   case measure=>simp [intOf];omega
  ·have hk2:k = n:=by omega
   have ht:xs.take k = xs:=jtl (by have:=HL.out;omega);rw [ht] at hb;have hfin:decide ((k:Int) < (n:Int)) = false:=by simp;omega
   have hfin2:decide (k < n) = false:=by simp;omega
   clear ht hk2;go_wp2_with fail
   refine (yb6 w.heap.size w.heap.size _ wr hb (by omega)).mono ?_;rintro e w2 ⟨rfl,hbel2⟩;go_wp2_with fail
   go_ret
   exact ⟨rfl,hbel.trans hbel2⟩
def ybZ (f:Nat -> Bool):UInt8:=UInt8.ofNat ((f 0).toNat + 2 * (f 1).toNat + 4 * (f 2).toNat + 8 * (f 3).toNat + 16 * (f 4).toNat + 32 * (f 5).toNat + 64 * (f 6).toNat + 128 * (f 7).toNat)
def yez (x:UInt8) (r:Nat):Bool:=x.toNat / 2 ^ r % 2 == 1
theorem yc6 {f g:Nat -> Bool} (h:∀ r,r < 8 -> f r = g r):ybZ f = ybZ g:=by
 unfold ybZ;rw [h 0 (by omega),h 1 (by omega),h 2 (by omega),h 3 (by omega),h 4 (by omega),h 5 (by omega),h 6 (by omega),h 7 (by omega)]
theorem yjp:ybZ (fun _=>false) = 0:=by decide
theorem yhl:∀ b0 b1 b2 b3 b4 b5 b6 b7:Bool,
  (fun x:UInt8=>yez x 0 = b0 /\ yez x 1 = b1 /\ yez x 2 = b2 /\ yez x 3 = b3 /\ yez x 4 = b4 /\ yez x 5 = b5 /\ yez x 6 = b6 /\ yez x 7 = b7)
   (UInt8.ofNat (b0.toNat + 2 * b1.toNat + 4 * b2.toNat + 8 * b3.toNat + 16 * b4.toNat + 32 * b5.toNat + 64 * b6.toNat + 128 * b7.toNat)):=by decide +kernel
theorem ymO (f:Nat -> Bool) (r:Nat) (h:r < 8):yez (ybZ f) r = f r:=by
 obtain ⟨h0,h1,h2,h3,h4,h5,h6,h7⟩:=yhl (f 0) (f 1) (f 2) (f 3) (f 4) (f 5) (f 6) (f 7);unfold ybZ;rcases r with _ | _ | _ | _ | _ | _ | _ | _ | r <;> first | assumption | omega
theorem yge:∀ x:Fin 256,ybZ (yez (UInt8.ofNat x.val)) = UInt8.ofNat x.val:=by decide +kernel
theorem ylg (x:UInt8):ybZ (yez x) = x:=by
 have:=yge ⟨x.toNat,x.toNat_lt⟩;simpa using this
theorem yhj:∀ b0 b1 b2 b3 b4 b5 b6 b7:Bool,∀ r:Fin 8,
  (fun (f:Nat -> Bool)=>f r.val = false -> ybZ (fun i=>if i = r.val then true else f i) = ybZ f ||| UInt8.ofNat (2 ^ r.val) /\ (ybZ f).toNat + 2 ^ r.val < 256 /\ (ybZ f ||| UInt8.ofNat (2 ^ r.val)).toNat = (ybZ f).toNat + 2 ^ r.val)
   (fun i=>match i with | 0=>b0 | 1=>b1 | 2=>b2 | 3=>b3 | 4=>b4 | 5=>b5 | 6=>b6 | _=>b7):=by decide +kernel
theorem ymK (f:Nat -> Bool) (r:Nat) (h:r < 8) (hf:f r = false) :
  ybZ (fun i=>if i = r then true else f i) = ybZ f ||| UInt8.ofNat (2 ^ r) /\ (ybZ f).toNat + 2 ^ r < 256 /\ (ybZ f ||| UInt8.ofNat (2 ^ r)).toNat = (ybZ f).toNat + 2 ^ r:=by
 have k:=yhj (f 0) (f 1) (f 2) (f 3) (f 4) (f 5) (f 6) (f 7) ⟨r,h⟩;obtain ⟨g,hg⟩:∃ g:Nat -> Bool,(fun i=>match i with | 0=>f 0 | 1=>f 1 | 2=>f 2 | 3=>f 3 | 4=>f 4 | 5=>f 5 | 6=>f 6 | _=>f 7:Nat -> Bool) = g:=⟨_,rfl⟩;rw [hg] at k
 have hfg:∀ i,i < 8 -> f i = g i:=by
  intro i hi;rw [<- hg];rcases i with _ | _ | _ | _ | _ | _ | _ | _ | i <;> first | rfl | omega
 have e1:ybZ f = ybZ g:=yc6 hfg
 have e2:ybZ (fun i=>if i = r then true else f i) = ybZ (fun i=>if i = r then true else g i):=yc6 fun i hi=>by
  by_cases e:i = r
  ·simp [e]
  ·simp [e,hfg i hi]
 rw [e1,e2];exact k (by show g r = false;rw [<- hfg r h];exact hf)
def ybO (m:Nat) (l:List Bool):List UInt8:=(List.range m).map fun j=>ybZ fun r=>l.getD (8 * (m - 1 - j) + r) false
def yaT (l:List Bool):List UInt8:=ybO ((l.length + 7) / 8) l
theorem yek (m:Nat) (l:List Bool):(ybO m l).length = m:=by simp [ybO]
theorem ylT (m:Nat):ybO m [] = jc4 m 0:=by
 apply List.ext_getElem (by simp [ybO]);intro i h1 h2;simp [ybO,yjp]
theorem yhS (m:Nat) (l:List Bool) (j:Nat) (h:j < m):(ybO m l).getD j 0 = ybZ fun r=>l.getD (8 * (m - 1 - j) + r) false:=by
 rw [jg,ybO,jgm,List.getElem?_range h];rfl
theorem yfB (l:List Bool) (x:Bool) (i:Nat):(l ++ [x]).getD i false = if i = l.length then x else l.getD i false:=by
 rw [jg,jg];by_cases h:i < l.length
 ·rw [jal h,if_neg (by omega)]
 ·rw [jar (by omega)];by_cases e:i = l.length
  ·simp [e]
  ·rw [if_neg e,jc5 (by simp;omega),jc5 (by omega)]
theorem yiG (m:Nat) (l:List Bool):ybO m (l ++ [false]) = ybO m l:=by
 unfold ybO;congr 1;funext j;congr 1;funext r;rw [yfB];split
 ·rename_i h;rw [h,jg,jc5 (by omega)];rfl
 ·rfl
theorem ykz (m:Nat) (l:List Bool) (h:l.length / 8 < m) (v:UInt8) (hv:(ybO m l).getD (m - 1 - l.length / 8) 0 = v) :
  ybO m (l ++ [true]) = (ybO m l).set (m - 1 - l.length / 8) (v ||| UInt8.ofNat (2 ^ (l.length % 8))) /\ v.toNat + 2 ^ (l.length % 8) < 256 /\ (v ||| UInt8.ofNat (2 ^ (l.length % 8))).toNat = v.toNat + 2 ^ (l.length % 8):=by
 obtain ⟨q,hq⟩:∃ q,l.length / 8 = q:=⟨_,rfl⟩;obtain ⟨r0,hr0⟩:∃ r,l.length % 8 = r:=⟨_,rfl⟩;rw [hq] at h hv ⊢;rw [hr0];have hl:l.length = 8 * q + r0:=by omega
 rw [yhS m l _ (by omega),show m - 1 - (m - 1 - q) = q by omega] at hv;have key:=ymK (fun r=>l.getD (8 * q + r) false) r0 (by omega) (by show l.getD (8 * q + r0) false = false;rw [jg,jc5 (by omega)];rfl);rw [hv] at key;refine ⟨?_,key.2⟩;rw [<- key.1];apply List.ext_getElem (by simp [ybO]);intro j h1 h2;have hj:j < m:=by simpa [ybO] using h1
 rw [List.getElem_set];have e1:(ybO m (l ++ [true]))[j] = ybZ fun r=>(l ++ [true]).getD (8 * (m - 1 - j) + r) false:=by simp [ybO]
 have e2:(ybO m l)[j]'(by simpa [ybO] using hj) = ybZ fun r=>l.getD (8 * (m - 1 - j) + r) false:=by simp [ybO]
 rw [e1,e2];by_cases e:m - 1 - q = j
 ·rw [if_pos e];have:m - 1 - j = q:=by omega
  rw [this];refine yc6 fun r hr=>?_;rw [yfB,hl];by_cases er:r = r0
  ·simp [er]
  ·rw [if_neg (by omega),if_neg er]
 ·rw [if_neg e];refine yc6 fun r hr=>?_;rw [yfB,if_neg (by omega)]
theorem Reads.bools {w:World} {B n k:Nat} {A:Option Addr} {xs:List Bool} (h:Reads w B 1 A n (xs.map jc7)) (hk:k < n) :
  ∃ b off,A = some ⟨b,off,none⟩ /\ b < B /\ ∀ j,j < n -> w.cell? ⟨b,off + j,none⟩ = some (.bool (xs.getD j false)):=by
 have hl:=h.1;simp at hl
 have key:∀ j,j < n -> (xs.map jc7)[j]? = some (.bool (xs.getD j false)):=by
  intro j hj;rw [jgm,je (by omega),jg,je (by omega)];rfl
 obtain ⟨ad,rfl,hb,hc⟩:=h.2 (by omega);have h0:=hc 0 _ (key 0 (by omega));have e:ad = ⟨ad.block,ad.off,none⟩:=ybD (a:=ad) (by simpa [Addr.add] using h0);refine ⟨ad.block,ad.off,by rw [<- e],hb,fun j hj=>?_⟩;have:=hc j _ (key j hj);rw [e] at this;unfold Addr.add at this;by_cases hj0:j = 0
 ·subst hj0;simpa using this
 ·simpa [hj0] using this
theorem yjC (x:UInt8):BitVec.ofInt 8 (x.toNat:Int) = x.toBitVec:=by
 apply BitVec.eq_of_toNat_eq;rw [BitVec.ofInt_natCast,BitVec.toNat_ofNat,Nat.mod_eq_of_lt x.toNat_lt];rfl
theorem yo3 (x:UInt8):IntKind.u8.wrap (x.toNat:Int) = (x.toNat:Int):=by
 have:=x.toNat_lt;simp [IntKind.wrap,IntKind.bits,IntKind.signed];omega
theorem bor8 (x y:UInt8):bits .or .u8 (x.toNat:Int) (y.toNat:Int) = ((x ||| y).toNat:Int):=by
 show IntKind.u8.wrap ((BitVec.ofInt 8 (x.toNat:Int) ||| BitVec.ofInt 8 (y.toNat:Int)).toNat:Int) = _;rw [yjC,yjC];exact yo3 (x ||| y)
theorem yql (x y:UInt8):bits .and .u8 (x.toNat:Int) (y.toNat:Int) = ((x &&& y).toNat:Int):=by
 show IntKind.u8.wrap ((BitVec.ofInt 8 (x.toNat:Int) &&& BitVec.ofInt 8 (y.toNat:Int)).toNat:Int) = _;rw [yjC,yjC];exact yo3 (x &&& y)
theorem pow8:∀ r:Fin 8,IntKind.u8.wrap (2 ^ r.val) = ((UInt8.ofNat (2 ^ r.val)).toNat:Int) /\ IntKind.u8.wrap (1 * 2 ^ r.val) = ((UInt8.ofNat (2 ^ r.val)).toNat:Int) /\ (2 ^ r.val:Int) % 256 = ((UInt8.ofNat (2 ^ r.val)).toNat:Int) /\ (UInt8.ofNat (2 ^ r.val)).toNat = 2 ^ r.val:=by decide +kernel
theorem yjE (n:Nat) (hn:n <= 1000000000000) (w:World):Calls jq 68 #[.int .i64 (n:Int)] w fun e w'=>e = .returned (.int .i64 (((n + 7) / 8:Nat):Int)) /\ w = w':=by
 have p:((n:Int) + 8 - 1).tdiv 8 = (((n + 7) / 8:Nat):Int):=by rw [Int.tdiv_eq_ediv_of_nonneg (by omega)];omega
 have p2:((n:Int) + 8 - 1) / 8 = (((n + 7) / 8:Nat):Int):=by omega
 go_enter Tryz.func68,Tryz.ntmps68
 go_wp2_with fail
 go_ret
 exact ⟨by first | rfl | (simp;omega),rfl⟩
def cntB (l:List Bool):Nat:=l.count true
theorem ymF (l:List Bool) (x:Bool):cntB (l ++ [x]) = cntB l + x.toNat:=by cases x <;> simp [cntB]
theorem ymG (l:List Bool):cntB l <= l.length:=List.count_le_length
theorem ykV (x:Bool) (w:World):Calls jq 142 #[.bool x] w fun e w'=>e = .returned (.bool x) /\ w = w':=by
 go_enter Tryz.func142,Tryz.ntmps142
 go_wp2_with fail
 go_ret
 exact ⟨rfl,rfl⟩
theorem ykS (B:Nat) (A:Option Addr) (n c:Nat) (xs:List Bool) (w:World) (h:Reads w B 1 A n (xs.map jc7)) (hn:n <= 1000000000000) :
  Calls jq 141 #[.slice A n c,.func (.func 142) #[] #[]] w fun e w'=>e = .returned (.int .i64 (cntB xs:Int)) /\ w = w':=by
 have hl:xs.length = n:=by simpa using h.1
 have HL:=jh hl;clear hl;go_enter Tryz.func141,Tryz.ntmps141
 go_wp2_with fail
 go_loopw [5,10] (fun t i wr=>∃ k m:Nat,i = .int .i64 (k:Int) /\ k <= n /\ t = .int .i64 (m:Int) /\ m <= k /\ Hid (m = cntB (xs.take k)) /\ w = wr) (fun _ i _=>n - (intOf i).toNat)
 case atStart=>exact ⟨0,0,rfl,by omega,rfl,by omega,rfl,rfl⟩
 case round =>
  obtain ⟨k,m,rfl,hk,rfl,hm,hcn,rfl⟩:=hrel;by_cases hlt:k < n
  ·obtain ⟨b,off,rfl,hbb,hc⟩:=h.bools hlt;have hck:=hc k hlt;have hst:cntB (xs.take (k + 1)) = cntB (xs.take k) + (xs.getD k false).toNat:=by rw [yfr xs k (by have:=HL.out;omega) false,ymF]
   generalize xs.getD k false = x at *;have HS:=jh hst;clear hc hst;have hcall:=fun w=>ykV x w;cases x
   ·go_wp2_with fail
    refine (hcall _).mono ?_;rintro e w' ⟨rfl,rfl⟩;go_wp2_with fail
    go_roundw
    case rel=>exact ⟨k + 1,m,by simp,by omega,rfl,by omega,by show m = _;rw [HS.out,<- hcn.out];rfl,by trivial⟩
    case measure=>simp [intOf];omega
   ·go_wp2_with fail
    refine (hcall _).mono ?_;rintro e w' ⟨rfl,rfl⟩;go_wp2_with fail
    go_roundw
    case rel=>exact ⟨k + 1,m + 1,by simp,by omega,by simp,by omega,by show m + 1 = _;rw [HS.out,<- hcn.out];rfl,by trivial⟩
    case measure=>simp [intOf];omega
  ·have ht:xs.take k = xs:=jtl (by have:=HL.out;omega);rw [ht] at hcn;have hfin:decide ((k:Int) < (n:Int)) = false:=by simp;omega
   have hfin2:decide (k < n) = false:=by simp;omega
   clear ht;go_wp2_with fail
   go_ret
   exact ⟨by rw [<- hcn.out];rfl,rfl⟩
theorem ykU (B:Nat) (A:Option Addr) (n c:Nat) (xs:List Bool) (w:World) (h:Reads w B 1 A n (xs.map jc7)) (hn:n <= 1000000000000) :
  Calls jq 117 #[.slice A n c] w fun e w'=>e = .returned (.int .i64 (cntB xs:Int)) /\ w = w':=by
 go_enter Tryz.func117,Tryz.ntmps117
 go_wp2_with fail
 refine (ykS B A n c xs _ h hn).mono ?_;rintro e w' ⟨rfl,rfl⟩;go_wp2_with fail
 go_ret
 exact ⟨rfl,rfl⟩
theorem yj7 (B:Nat) (A:Option Addr) (n c:Nat) (xs:List Bool) (w:World) (hB:B <= w.heap.size) (h:Reads w B 1 A n (xs.map jc7)) (hn:n <= 1000000) :
  Calls jq 24 #[.slice A n c] w fun e w'=>e = .returned (.string ⟨(yaT xs).toArray⟩) /\ w.grownBy w' none:=by
 have hl:xs.length = n:=by simpa using h.1
 obtain ⟨m,hm⟩:∃ m,(n + 7) / 8 = m:=⟨_,rfl⟩;have hpk:yaT xs = ybO m xs:=by unfold yaT;rw [hl,hm]
 have hneed:=yjE n (by omega) w;rw [hm] at hneed;have hmk:=yme m (by omega) w;have hm1:n <= 8 * m:=by omega
 have hm2:m <= 200000:=by omega
 have hO:=Blk.new w 5 (ybV (jc4 m 0));have hG:w.grownBy (w.alloc (.cells (ybV (jc4 m 0)) 5)) none:=yaa (jr _ _) _;rw [<- ylT] at hO hG hmk;have HL:=jh hl;have HPK:=jh hpk;clear hl hpk hm;go_enter Tryz.func24,Tryz.ntmps24
 go_wp2_with fail
 refine hneed.mono ?_;rintro e w' ⟨rfl,rfl⟩;generalize hw1:w.alloc (.cells (ybV (ybO m [])) 5) = w1 at *;have hgz:w.heap.size < w1.heap.size:=hO.lt;clear hw1 hneed;go_wp2_with fail
 go_loopw [12] (fun i wr=>∃ k:Nat,i = .int .i64 (k:Int) /\ k <= n /\ Blk wr w.heap.size 5 (ybV (ybO m (xs.take k))) /\ w.grownBy wr none) (fun i _=>n - (intOf i).toNat)
 case atStart=>exact ⟨0,rfl,by omega,hO,hG⟩
 case round =>
  clear hO hG hmk;obtain ⟨k,rfl,hk,hO,hG⟩:=hrel;by_cases hlt:k < n
  ·obtain ⟨b,off,rfl,hbb,hc⟩:=(h.grown hG hB (by simp)).bools hlt;have hck:=hc k hlt;have htk:xs.take (k + 1) = xs.take k ++ [xs.getD k false]:=yfr xs k (by have:=HL.out;omega) false;have hkl:(xs.take k).length = k:=by rw [jc0];have:=HL.out;omega
   generalize xs.getD k false = x at *;generalize xs.take k = l at *;have hbw:b ≠ w.heap.size:=by omega
   clear hc;cases x
   ·have hpf:ybO m (xs.take (k + 1)) = ybO m l:=by rw [htk,yiG]
    have HS:=jh hpf;clear hpf htk;go_wp2_with fail
    go_roundw
    case rel=>exact ⟨k + 1,by simp,by omega,by rw [HS.out];exact hO,hG⟩
    case measure=>simp [intOf];omega
   ·obtain ⟨q,hq⟩:∃ q,k / 8 = q:=⟨_,rfl⟩;obtain ⟨r,hr⟩:∃ r,k % 8 = r:=⟨_,rfl⟩;obtain ⟨j,hj⟩:∃ j,m - 1 - q = j:=⟨_,rfl⟩;obtain ⟨m1,hm1'⟩:∃ j,m - 1 = j:=⟨_,rfl⟩;obtain ⟨v,hv⟩:∃ v,(ybO m l).getD j 0 = v:=⟨_,rfl⟩;have hq1:q < m:=by omega
    have hr8:r < 8:=by omega
    have key:=ykz m l (by rw [hkl,hq];exact hq1) v (by rw [hkl,hq,hj];exact hv);rw [hkl,hq,hj,hr,<- htk] at key;obtain ⟨k1,k2,k3⟩:=key;obtain ⟨y1,y2,y3,y4⟩:=pow8 ⟨r,hr8⟩;simp only at y1 y2 y3 y4;obtain ⟨y,hy⟩:∃ y,UInt8.ofNat (2 ^ r) = y:=⟨_,rfl⟩;obtain ⟨z,hz⟩:∃ z,v ||| y = z:=⟨_,rfl⟩;rw [hy] at y1 y2 y3 y4 k1 k3;rw [hz] at k1 k3;have p0:=bor8 v y;rw [hz] at p0
    have p0':IntKind.u8.wrap ((v.toNat:Int) + (y.toNat:Int)) = (z.toNat:Int):=by
     have e:(v.toNat:Int) + (y.toNat:Int) = (z.toNat:Int):=by omega
     rw [e];exact yo3 z
    have e0:(v.toNat:Int) + (y.toNat:Int) = (z.toNat:Int):=by omega
    have f1:wr.cell? ⟨w.heap.size,j,none⟩ = some (.int .u8 (v.toNat:Int)):=by
     rw [ydf hO j (by rw [yek];omega),hv]
    have f2:=hO.frozen j;have p1:(k:Int).tdiv 8 = (q:Int):=by rw [Int.tdiv_eq_ediv_of_nonneg (by omega)];omega
    have p2:IntKind.i64.wrap (q:Int) = (q:Int):=jii _ (by omega);have p3:(k:Int).tmod 8 = (r:Int):=by rw [Int.tmod_eq_emod_of_nonneg (by omega)];omega
    have p4:IntKind.i64.wrap ((m:Int) - 1) = (m1:Int):=by rw [jii _ (by omega)];omega
    have p5:IntKind.i64.wrap ((m1:Int) - (q:Int)) = (j:Int):=by rw [jii _ (by omega)];omega
    have p6:IntKind.u64.wrap (r:Int) = (r:Int):=ypn r (by omega);have q1:(j:Int) < (m:Int):=by omega
    have q2:(k:Int) < (n:Int):=by omega
    have HS:=jh k1;have hO2:=hO.set_ j (.int .u8 (z.toNat:Int));rw [yfM,<- HS.out] at hO2;clear hq hr hj hm1' hv hy hz htk k1 k2 k3 y4 hm1;go_wp2_with fail
    go_still_tail 14,(by kernel_rfl)
    clear p0 p1 p2 p3 p4 p5 p6 y1 y2 y3 e0 p0'
    repeat go_step
    go_roundw
    case rel=>exact ⟨k + 1,by simp,by omega,hO2,yau (yar hG (p:=⟨w.heap.size,j,none⟩) (jle _) _)⟩
    case measure=>simp [intOf];omega
  ·have ht:xs.take k = xs:=jtl (by have:=HL.out;omega);rw [ht,<- HPK.out] at hO;have hfin:decide ((k:Int) < (n:Int)) = false:=by simp;omega
   have hfin2:decide (k < n) = false:=by simp;omega
   have hpl:(yaT xs).length = m:=by rw [HPK.out,yek]
   obtain ⟨L,hL⟩:∃ l,yaT xs = l:=⟨_,rfl⟩;rw [hL] at hO hpl
   have hcv:=run_convert_bytes_back (P:=jq) wr 43 9 5 ⟨w.heap.size,0,none⟩ m L (by kernel_rfl) (by kernel_rfl) (by kernel_rfl) (fun j hj=>by
    have:=ydf hO j hj;rw [Addr.add_mid,je1,this,jg,je hj];rfl)
   rw [hpl] at hcv;have HL2:=jh hL;clear ht hL hpl;go_wp2_with fail
   go_ret
   exact ⟨by rw [HL2.out];rfl,hG⟩
attribute [local go_sem] Oper.semAt_some
def ycC (l:List UInt8) (i:Nat):Bool:=yez (l.getD (l.length - 1 - i / 8) 0) (i % 8)
theorem ypb:∀ (x:Fin 256) (r:Fin 8),(((UInt8.ofNat (x.val / 2 ^ r.val)) &&& 1).toNat == 1) = yez (UInt8.ofNat x.val) r.val /\ (UInt8.ofNat (x.val / 2 ^ r.val)).toNat = x.val / 2 ^ r.val:=by decide +kernel
theorem ynY (N:Nat) (hN:1 <= N) (l Bs:Nat) (s:ByteArray) (hs:s.size <= 1000000) (J Jx:List (Fin (8 * s.size)) -> World -> Prop)
  (hY:∀ pre x W,J pre W -> pre.length < 8 * s.size -> YieldAt Fence.wide (N - 1) jq l #[.int .i64 (x.val:Int),.bool (ycC s.data.toList x.val)] W fun e W' =>
   (e = .returned (.bool true) /\ J (pre ++ [x]) W' /\ KeepS (fun k=>k = Bs) W W') \/ (e = .returned (.bool false) /\ Jx (pre ++ [x]) W'))
  (W:World) (hBs:W.cell? ⟨Bs,0,none⟩ = some (.string s)) (h0:J [] W) :
  CallsIn Fence.wide N jq 140 #[.func (.yield l) #[] #[],.pointer (some ⟨Bs,0,none⟩)] W fun e W'=>(∃ v,e = .returned v) /\
   ((∃ ys,ys = ja4 (8 * s.size) /\ J ys W') \/ (∃ pre,pre <+: ja4 (8 * s.size) /\ Jx pre W')):=by
 refine callsIn_of_wp Tryz.func140 rfl trivial ?_ rfl;simp only [Tryz.ntmps140,jd5,jlc,List.length_nil,Nat.reduceAdd,Nat.reduceSub,Array.replicate_succ,Array.replicate_zero,List.push_toArray,List.append_toArray,List.nil_append,jc9];obtain ⟨M,hM⟩:∃ M,8 * s.size = M:=⟨_,rfl⟩;have p0:IntKind.i64.wrap (8 * (s.size:Int)) = (M:Int):=by rw [jii _ (by omega)];omega
 have p0':8 * (s.size:Int) = (M:Int):=by omega
 have HM:=jh hM;gi_wp2
 gi_loopw [7] (fun i wr=>∃ k:Nat,i = .int .i64 (k:Int) /\ k <= M /\ J ((ja4 (8 * s.size)).take k) wr /\ KeepS (fun k=>k = Bs) W wr) (fun i _=>M - (intOf i).toNat)
 case atStart=>exact ⟨0,rfl,by omega,h0,KeepS.refl _ _⟩
 case round =>
  clear p0 p0' hM;obtain ⟨k,rfl,hk,hJ,hK⟩:=hrel;have c1:wr.cell? ⟨Bs,0,none⟩ = some (.string s):=(hK.cell (p:=⟨Bs,0,none⟩) rfl).trans hBs;by_cases hlt:k < M
  ·have hkp:k < 8 * s.size:=by have:=HM.out;omega
   obtain ⟨fn,tmps,assign,body,hy,hR⟩:=hY _ ⟨k,hkp⟩ wr hJ (by simp;omega)
   have htk:(ja4 (8 * s.size)).take k ++ [⟨k,hkp⟩] = (ja4 (8 * s.size)).take (k + 1):=by
    rw [jtk (by simp;exact hkp)]
    simp
   rw [htk] at hR;have hsl:s.data.toList.length = s.size:=yan s;obtain ⟨q,hq⟩:∃ q,k / 8 = q:=⟨_,rfl⟩;obtain ⟨r,hr⟩:∃ r,k % 8 = r:=⟨_,rfl⟩;obtain ⟨j,hj⟩:∃ j,s.size - 1 - q = j:=⟨_,rfl⟩;obtain ⟨m1,hm1⟩:∃ j,s.size - 1 = j:=⟨_,rfl⟩;obtain ⟨c,hc⟩:∃ c,s.data.toList[j]? = some c:=⟨_,je (by omega)⟩;have hr8:r < 8:=by omega
   obtain ⟨b1,b2⟩:=ypb ⟨c.toNat,c.toNat_lt⟩ ⟨r,hr8⟩;simp only [UInt8.ofNat_toNat] at b1 b2
   have hbit:ycC s.data.toList k = yez c r:=by
    unfold ycC;rw [hsl,hq,hj,hr,jg,hc];rfl
   rw [<- b1] at hbit;obtain ⟨y,hy1⟩:∃ y,UInt8.ofNat (c.toNat / 2 ^ r) = y:=⟨_,rfl⟩;obtain ⟨z,hz⟩:∃ z,y &&& 1 = z:=⟨_,rfl⟩;obtain ⟨t,ht⟩:∃ t,(z.toNat == 1) = t:=⟨_,rfl⟩;rw [hy1] at b2 hbit;rw [hz,ht] at hbit;rw [hbit] at hy;have hidx:=ycJ s j c hc;have p1:(k:Int).tdiv 8 = (q:Int):=by rw [Int.tdiv_eq_ediv_of_nonneg (by omega)];omega
   have p2:IntKind.i64.wrap (q:Int) = (q:Int):=jii _ (by omega);have p3:(k:Int).tmod 8 = (r:Int):=by rw [Int.tmod_eq_emod_of_nonneg (by omega)];omega
   have p4:IntKind.i64.wrap ((s.size:Int) - 1) = (m1:Int):=by rw [jii _ (by omega)];omega
   have p4':(s.size:Int) - 1 = (m1:Int):=by omega
   have p5:IntKind.i64.wrap ((m1:Int) - (q:Int)) = (j:Int):=by rw [jii _ (by omega)];omega
   have p5':(m1:Int) - (q:Int) = (j:Int):=by omega
   have p6:(c.toNat:Int) / 2 ^ r = (y.toNat:Int):=by rw [b2];simp
   have p7:=yql y 1;rw [hz] at p7;have p7':bits .and .u8 (y.toNat:Int) 1 = (z.toNat:Int):=p7;have p8:((z.toNat:Int) == 1) = t:=by rw [<- ht,Bool.eq_iff_iff];simp;omega
   have p1':(k:Int) / 8 = (q:Int):=by omega
   have p3':(k:Int) % 8 = (r:Int):=by omega
   clear htk hq hr hj hm1 hc hbit b1 b2 hy1 hz ht hsl p7;dsimp only at hy;gi_wp2
   refine hR.mono ?_;rintro e' W3 (⟨rfl,hJ3,hk3⟩ | ⟨rfl,hJx3⟩)
   ·have hK3:=hK.trans hk3;clear p1 p2 p3 p4 p4' p5 p5' p6 p7' p8 p1' p3';gi_wp2
    go_roundw
    case rel=>exact ⟨k + 1,by simp,by omega,hJ3,hK3⟩
    case measure=>simp [intOf];omega
   ·clear p1 p2 p3 p4 p4' p5 p5' p6 p7' p8 p1' p3';gi_wp2
    refine jbr (results_none rfl _ _ _) rfl ?_;exact ⟨⟨_,rfl⟩,.inr ⟨_,List.take_prefix _ _,hJx3⟩⟩
  ·have htk:(ja4 (8 * s.size)).take k = ja4 (8 * s.size):=jtl (by simp;have:=HM.out;omega);rw [htk] at hJ;have d1:decide ((k:Int) < (M:Int)) = false:=by simp;omega
   have d2:decide (k < M) = false:=by simp;omega
   gi_wp2
   go_end0
   exact ⟨⟨_,rfl⟩,.inl ⟨_,rfl,hJ⟩⟩
theorem ynW (s:ByteArray) (w:World) :
  Calls jq 114 #[.string s] w fun e w'=>e = .returned (.func (.func 140) #[] #[.pointer (some ⟨w.heap.size,0,none⟩)]) /\ w' = w.alloc (.cells #[.string s] 9):=by
 go_enter Tryz.func114,Tryz.ntmps114
 go_wp2
 go_ret
 exact ⟨rfl,rfl⟩
def yef (l:List UInt8) (n:Nat):Bool:=(List.range (8 * l.length)).any fun i=>decide (n <= i) && ycC l i
def ybd (l:List UInt8) (n:Int):Int:=if n < 0 \/ 4096 < n then 1 else if l.length ≠ (n.toNat + 7) / 8 then 2 else if yef l n.toNat then 8 else 0
def yaI (l:List UInt8) (n:Int):List Bool:=if ybd l n = 0 then (List.range n.toNat).map (ycC l) else []
def ybN (l:List UInt8) (n:Nat) {N:Nat} (pre:List (Fin N)):List Bool:=(pre.filter fun x=>decide (x.val < n)).map fun x=>ycC l x.val
theorem ylP (l:List UInt8) (n:Nat) {N:Nat} (pre:List (Fin N)) (x:Fin N) (h:x.val < n):ybN l n (pre ++ [x]) = ybN l n pre ++ [ycC l x.val]:=by simp [ybN,h]
theorem yky (l:List UInt8) (n:Nat) {N:Nat} (pre:List (Fin N)) (x:Fin N) (h:¬ x.val < n):ybN l n (pre ++ [x]) = ybN l n pre:=by simp [ybN,h]
theorem ylO (l:List UInt8) (n:Nat) {N:Nat} (pre:List (Fin N)):(ybN l n pre).length <= pre.length:=by simp [ybN,List.length_filter_le]
theorem ylQ (l:List UInt8) (n N:Nat) (h:n <= N):ybN l n (ja4 N) = (List.range n).map (ycC l):=by
 unfold ybN
 have e:∀ k,k <= N -> ((ja4 N).take k).filter (fun x=>decide (x.val < n)) = (ja4 N).take (min k n):=by
  intro k
  induction k with
  | zero=>intro _;simp
  | succ k ih =>
   intro hk;rw [jtk (by simp;omega),List.filter_append,ih (by omega)];by_cases hkn:k < n
   ·rw [show min k n = k by omega,show min (k + 1) n = k + 1 by omega,jtk (by simp;omega)];simp [hkn]
   ·rw [show min k n = n by omega,show min (k + 1) n = n by omega];simp [hkn]
 have e1:=e N (jle _);rw [jtl (by simp),show min N n = n by omega] at e1;rw [e1];apply List.ext_getElem (by simp;omega);intro i h1 h2
 simp
theorem yhE (l:List UInt8) (n N:Nat) (hN:N = 8 * l.length):yef l n = true ↔ ∃ x ∈ ja4 N,n <= x.val /\ ycC l x.val = true:=by
 unfold yef;rw [List.any_eq_true,hN];constructor
 ·rintro ⟨i,hi,h⟩;simp only [Bool.and_eq_true,decide_eq_true_eq] at h;exact ⟨⟨i,List.mem_range.1 hi⟩,List.mem_finRange _,h⟩
 ·rintro ⟨x,_,h⟩;exact ⟨x.val,List.mem_range.2 x.isLt,by simp only [Bool.and_eq_true,decide_eq_true_eq];exact h⟩
theorem yep:(jq.info? 4).map (fun i=>(i.zero,i.size,i.bytes)) = some (some (.bool false),1,1):=by kernel_rfl
theorem ygo (s:ByteArray) (n:Int) (hs:s.size <= 1000000) (w:World) :
  Calls jq 84 #[.string s,.int .i64 n] w fun e w'=>∃ v,e = .returned (.tuple #[v,.int .i64 (ybd s.data.toList n)]) /\
   w'.ownsRow w.heap.size 4 1 v (yaI s.data.toList n).length ((yaI s.data.toList n).map jc7) /\ Below w.heap.size w w':=by
 have hsl:=yan s;refine (callsIn_wide (n:=6)).1 ?_;refine callsIn_of_wp_marks Tryz.func84 rfl trivial ?_ rfl;simp only [Tryz.ntmps84,jd5,jlc,List.length_nil,Nat.reduceAdd,Nat.reduceSub,Array.replicate_succ,Array.replicate_zero,List.push_toArray,List.append_toArray,List.nil_append,jc9];by_cases hbad:n < 0 \/ 4096 < n
 ·have he:ybd s.data.toList n = 1:=by unfold ybd;rw [if_pos hbad]
  have hL:yaI s.data.toList n = []:=by unfold yaI;rw [he];rfl
  rw [he,hL];clear he hL;have hb:(decide (n < 0) || decide (4096 < n)) = true:=by simpa using hbad
  obtain ⟨x1,x2,x3,x4,_⟩:=box3 w (.int .i64 n) (.slice none 0 0) (.int .i64 1) 3 53 28;have y1:=x2.cell;have y2:=x3.cell;clear x1 x2 x3;by_cases h0:n < 0
  ·gi_wp2_with fail
   exact ⟨_,ybM rfl _ _ _ _ _ _ rfl rfl (ya3 Tryz.underlying53 rfl y1) (ya3 jc8 rfl y2),_,rfl,jon _ _ _ _,x4⟩
  ·have h1:4096 < n:=by omega
   gi_wp2_with fail
   exact ⟨_,ybM rfl _ _ _ _ _ _ rfl rfl (ya3 Tryz.underlying53 rfl y1) (ya3 jc8 rfl y2),_,rfl,jon _ _ _ _,x4⟩
 ·obtain ⟨k,rfl⟩:=jez (show 0 <= n by omega);have hk:k <= 4096:=by omega
  obtain ⟨m,hm⟩:∃ m,(k + 7) / 8 = m:=⟨_,rfl⟩;have hneed:=fun w=>yjE k (by omega) w;rw [hm] at hneed;have hb:(decide ((k:Int) < 0) || decide (4096 < (k:Int))) = false:=by simp;omega
  have h0:¬ ((k:Int) < 0):=by omega
  by_cases hlen:s.size = m
  ·have he1:ybd s.data.toList k = if yef s.data.toList k then 8 else 0:=by
    unfold ybd;rw [if_neg hbad,if_neg (by rw [hsl,jnc,hm];simpa using hlen),jnc]
   have hne:((s.size:Int) != (m:Int)) = false:=by simp;omega
   have hne2:(s.size != m) = false:=by simpa using hlen
   have hbad':=jh hbad;have hkN:k <= 8 * s.size:=by omega
   have HE:=jh he1;have hd2:decide (4096 < (k:Int)) = false:=by simp;omega
   have HLEN:=jh hlen;clear hm hbad he1 hlen hsl;obtain ⟨x1,x2,x3,x4,x5⟩:=box3 w (.int .i64 (k:Int)) (.slice none 0 0) (.int .i64 0) 3 53 28;have y1:=x2.cell;have y2:=x3.cell;have y0:=x1.cell;gi_wp2_with fail
   refine ⟨trivial,callsIn_wide.2 ((hneed _).mono ?_)⟩;rintro e w' ⟨rfl,rfl⟩;clear hneed;generalize ((w.alloc (.cells #[.int .i64 (k:Int)] 3)).alloc (.cells #[.slice none 0 0] 53)).alloc (.cells #[.int .i64 0] 28) = w1 at *;generalize hb0:w.heap.size = b at *;have HB0:=jh hb0;clear hb0 y0 y1 y2;have z3:=Boxed.new w1 53 (.slice none 0 0);have z0:=x1.alloc (.cells #[.slice none 0 0] 53);have z1:=x2.alloc (.cells #[.slice none 0 0] 53);have z2:=x3.alloc (.cells #[.slice none 0 0] 53);have zb:Below b w (w1.alloc (.cells #[.slice none 0 0] 53)):=x4.alloc (by omega) _;have zz:(w1.alloc (.cells #[.slice none 0 0] 53)).heap.size = b + 4:=by simp [x5]
   rw [x5] at z3;clear x1 x2 x3 x4;gi_wp2_with fail
   clear x5;generalize w1.alloc (.cells #[.slice none 0 0] 53) = w2 at *;refine ⟨trivial,callsIn_wide.2 ((ynW _ _).mono ?_)⟩;rintro e w4 ⟨rfl,hw4⟩;rw [zz];have v0:Boxed w4 b 3 (.int .i64 (k:Int)):=by rw [hw4];exact z0.alloc _
   have v1:Boxed w4 (b + 1) 53 (.slice none 0 0):=by rw [hw4];exact z1.alloc _
   have v2:Boxed w4 (b + 1 + 1) 28 (.int .i64 0):=by rw [hw4];exact z2.alloc _
   have v3:Boxed w4 (b + 3) 53 (.slice none 0 0):=by rw [hw4];exact z3.alloc _
   have v4:Boxed w4 (b + 4) 9 (.string s):=by rw [hw4,<- zz];exact Boxed.new w2 _ _
   have vb:Below b w w4:=by rw [hw4];exact zb.alloc (by omega) _
   have vz:w4.heap.size = b + 5:=by rw [hw4];simp [zz]
   have VZ:=jh vz;have vz5:b + 5 <= w4.heap.size:=by omega
   clear hw4 z0 z1 z2 z3 zb zz vz;gi_wp2_with fail
   obtain ⟨i0,hi,hz0,hz1,hz2⟩:=info_parts yep;obtain ⟨N,hN⟩:∃ N,8 * s.size = N:=⟨_,rfl⟩;have hN2:N <= 8000000:=by omega
   have hSS:∀ j,j = b + 4 -> j < w4.heap.size:=by intro j hj;omega
   refine wpIn_rangeFunc_ownG rfl (by omega) (gf:=140) (lb:=#[.pointer (some ⟨b + 4,0,none⟩)]) rfl trivial (jeo Tryz.func140 (by kernel_rfl) rfl)
    (encs:=fun x:Fin (8 * s.size)=>#[.int .i64 (x.val:Int),.bool (ycC s.data.toList x.val)]) (S:=fun ys=>ys = ja4 (8 * s.size)) (Sp:=fun pre=>pre <+: ja4 (8 * s.size)) (N:=8 * s.size) (w0:=w4) (Kp:=KeepS (fun j=>j = b + 4))
    (fun l J Jx W hW _ _ hY h0=>ynY 5 (by omega) l (b + 4) s hs J Jx hY W ((hW.cell (p:=⟨b + 4,0,none⟩) (by show b + 4 < w4.heap.size;omega)).trans v4.cell) h0)
    yiS (yiT hSS) (jd1 _ _) (fun _=>rfl)
    (fun pre W=>(∃ v,Boxed W (b + 3) 53 v /\ W.ownsRow b 4 1 v (ybN s.data.toList k pre).length ((ybN s.data.toList k pre).map jc7) /\ (∀ x ∈ pre,k <= x.val -> ycC s.data.toList x.val = false)) /\
     (Below b w W /\ (Boxed W b 3 (.int .i64 (k:Int)) /\ (Boxed W (b + 1) 53 (.slice none 0 0) /\ (Boxed W (b + 1 + 1) 28 (.int .i64 0) /\ Boxed W (b + 4) 9 (.string s))))))
    (fun c pre W=>(c = .ret /\ ∃ x ∈ pre,k <= x.val /\ ycC s.data.toList x.val = true) /\ (Below b w W /\ (Boxed W (b + 1) 53 (.slice none 0 0) /\ Boxed W (b + 1 + 1) 28 (.int .i64 8))))
    ?hI ?hIx
    ⟨⟨_,v3,jon _ _ _ _,by simp⟩,vb,v0,v1,v2,v4⟩
    (fun x=>{ tmps:=#[.string s,.int .i64 (k:Int),undef,.pointer (some ⟨b,0,none⟩),.pointer (some ⟨b + 1,0,none⟩),.pointer (some ⟨b + 1 + 1,0,none⟩),.pointer (some ⟨b + 3,0,none⟩),.int .i64 (x.val:Int),.bool (ycC s.data.toList x.val),.bool false,.int .i64 (k:Int),.bool false,.bool false,.int .i64 (k:Int),.bool false,.bool false,.bool false,.string s,.int .i64 (s.size:Int),.int .i64 (k:Int),.int .i64 (m:Int),.bool false,.string s,.func (.func 140) #[] #[.pointer (some ⟨b + 4,0,none⟩)],.int .i64 (x.val:Int),.bool (ycC s.data.toList x.val),undef,undef,undef,undef,undef,undef,undef,undef,undef],defers:=[] }) ?assign ?body ?done ?stop
   case hI=>exact OwnFrom.and (Own.from (holdsRow_own b (b + 3) 53 4 1 (fun pre:List (Fin (8 * s.size))=>(ybN s.data.toList k pre).length) (fun pre=>(ybN s.data.toList k pre).map jc7) (fun pre _=>∀ x ∈ pre,k <= x.val -> ycC s.data.toList x.val = false)) _) (OwnFrom.and (ownFrom_below (by have:=HB0.out;omega) (by omega)) (OwnFrom.and (Own.from (boxed_own _ _ (fun _=>_)) _) (OwnFrom.and (Own.from (boxed_own _ _ (fun _=>_)) _) (OwnFrom.and (Own.from (boxed_own _ _ (fun _=>_)) _) (Own.from (boxed_own _ _ (fun _=>_)) _)))))
   case hIx=>intro c;exact OwnFrom.and (ownFrom_pure _ _) (OwnFrom.and (ownFrom_below (by have:=HB0.out;omega) (by omega)) (OwnFrom.and (Own.from (boxed_own _ _ (fun _=>_)) _) (Own.from (boxed_own _ _ (fun _=>_)) _)))
   case assign =>
    intro l x W K hK;gi_wp2
    exact hK
   case body =>
    rintro l pre x W ⟨⟨v,hv,hrow,hsp⟩,hB,u0,u1,u2,u4⟩ hlt;have hc:=hv.cell;have e0:=u0.cell;have e1:=u1.cell;have f1:=u1.frozen;have e2:=u2.cell;have f2:=u2.frozen;have hpl:=ylO s.data.toList k pre;have hWz:b + 5 <= W.heap.size:=by have:=u4.lt;omega
    have hBz:b <= W.heap.size:=by omega
    generalize hbt:ycC s.data.toList x.val = t at *;have HBT:=jh hbt;clear hbt;by_cases hxk:x.val < k
    ·have hq:(x.val:Int) < (k:Int):=by omega
     have hpk:ybN s.data.toList k (pre ++ [x]) = ybN s.data.toList k pre ++ [t]:=by rw [ylP _ _ _ _ hxk,HBT.out]
     have HPK:=jh hpk;clear hpk;gi_wp2_with (gi_at_builtin;refine wpListIn_append_own _ rfl _ _ 53 rfl b 4 i0 (.bool false) 1 1 Tryz.underlying53 hi hz0 hz1 hz2 rfl (by decide) _ _ _ rfl (hrow.alloc _) ⟨W.heap.size,0,none⟩ 1 1 [.bool t] rfl rfl (cell_one_new _ _ _) (by simp [ja2]) (by simp only [maxLen];omega) (by omega) (by simp;omega) ?_;intro v' w5 hown' hgrow _;obtain ⟨g',cap',rfl⟩:=ownsRow_succ hown';obtain ⟨hv1,hv2,hr2,hk2,hb2⟩:=hv.appended (by decide) hrow hBz (by omega) hown' hgrow;have hc1:=hv1.cell;have hf1:=hv1.frozen)
     have a0:=KeepS.appendedBox (v':=.slice (some ⟨g',0,none⟩) ((ybN s.data.toList k pre).length + 1) cap') hBz u0 (by decide) hrow (B:=b + 3) (by omega) (by omega) hgrow;have a1:=KeepS.appendedBox (v':=.slice (some ⟨g',0,none⟩) ((ybN s.data.toList k pre).length + 1) cap') hBz u1 (by decide) hrow (B:=b + 3) (by omega) (by omega) hgrow;have a2:=KeepS.appendedBox (v':=.slice (some ⟨g',0,none⟩) ((ybN s.data.toList k pre).length + 1) cap') hBz u2 (by decide) hrow (B:=b + 3) (by omega) (by omega) hgrow;have a4:=KeepS.appendedBox (v':=.slice (some ⟨g',0,none⟩) ((ybN s.data.toList k pre).length + 1) cap') hBz u4 (by decide) hrow (B:=b + 3) (by omega) (by omega) hgrow
     exact ⟨hk2.from _,⟨a4.1.size,fun j hj=>a4.1.block j (.inr hj)⟩,⟨_,hv2,by rw [HPK.out];simpa using hr2,fun y hy hky=>by
      rcases List.mem_append.1 hy with hy | hy
      ·exact hsp y hy hky
      ·obtain rfl:y = x:=by simpa using hy
       omega⟩,hB.trans hb2,a0.2,a1.2,a2.2,a4.2⟩
    ·have hpk:ybN s.data.toList k (pre ++ [x]) = ybN s.data.toList k pre:=yky _ _ _ _ hxk;have HPK:=jh hpk;clear hpk;have hq:(k:Int) <= (x.val:Int):=by omega
     have hq2:decide ((x.val:Int) < (k:Int)) = false:=by simp;omega
     have hq3:decide (x.val < k) = false:=by simp;omega
     have hxk':=jh hxk;clear hxk;cases t
     ·gi_wp2
      exact ⟨KeepsFrom.refl _ _,KeepS.refl _ _,⟨v,hv,by rw [HPK.out];exact hrow,fun y hy hky=>by
       rcases List.mem_append.1 hy with hy | hy
       ·exact hsp y hy hky
       ·obtain rfl:y = x:=by simpa using hy
        exact HBT.out⟩,hB,u0,u1,u2,u4⟩
     ·gi_wp2
      exact ⟨((jks _ _ _).trans (jks _ _ _)).from _,⟨rfl,x,by simp,by have:=hxk'.out;omega,HBT.out⟩,(hB.setCell (p:=⟨b + 1,0,none⟩) (by show b <= b + 1;omega) _).setCell (p:=⟨b + 1 + 1,0,none⟩) (by show b <= b + 1 + 1;omega) _,(u1.set _).other (by omega) _,(u2.other (by omega) _).set _⟩
   case done =>
    rintro D ys W hD rfl ⟨⟨v,hv,hrow,hsp⟩,hB,u0,u1,u2,u4⟩ hK;have hc:=hv.cell;have e1:=u1.cell;have f1:=u1.frozen;have e2:=u2.cell;have f2:=u2.frozen;have hDW:D < W.heap.size:=(jes.1 hK).1
    have hns:yef s.data.toList k = false:=by
     rw [<- Bool.not_eq_true,yhE s.data.toList k (8 * s.size) (by rw [yan])];rintro ⟨x,hx,h1,h2⟩;rw [hsp x hx h1] at h2;cases h2
    have hE0:ybd s.data.toList (k:Int) = 0:=by rw [HE.out,hns];rfl
    have hL0:yaI s.data.toList (k:Int) = ybN s.data.toList k (ja4 (8 * s.size)):=by
     unfold yaI;rw [if_pos hE0,ylQ _ _ _ hkN];rfl
    obtain ⟨A0,c0,rfl,_⟩:=ybv hrow;gi_wp2
    refine ⟨by simp,.inl ⟨_,_,rfl,run_takeDeferred (((jks _ _ _).trans (jks _ _ _)).same D _ hK rfl),?_⟩⟩;have t1:Boxed ((W.setCell ⟨b + 1,0,none⟩ (.slice A0 (ybN s.data.toList k (ja4 (8 * s.size))).length c0)).setCell ⟨b + 1 + 1,0,none⟩ (.int .i64 0)) (b + 1) 53 _:=(u1.set _).other (by omega) _;have t2:Boxed ((W.setCell ⟨b + 1,0,none⟩ (.slice A0 (ybN s.data.toList k (ja4 (8 * s.size))).length c0)).setCell ⟨b + 1 + 1,0,none⟩ (.int .i64 0)) (b + 1 + 1) 28 (.int .i64 0):=(u2.other (by omega) _).set _;have tb:=(hB.setCell (p:=⟨b + 1,0,none⟩) (by show b <= b + 1;omega) (.slice A0 (ybN s.data.toList k (ja4 (8 * s.size))).length c0)).setCell (p:=⟨b + 1 + 1,0,none⟩) (by show b <= b + 1 + 1;omega) (.int .i64 0)
    have tr:((W.setCell ⟨b + 1,0,none⟩ (.slice A0 (ybN s.data.toList k (ja4 (8 * s.size))).length c0)).setCell ⟨b + 1 + 1,0,none⟩ (.int .i64 0)).ownsRow b 4 1 (.slice A0 (ybN s.data.toList k (ja4 (8 * s.size))).length c0) _ _ :=
     (hrow.kept (grownBy_setCell' W (b + 1) _) (.inr (u1.not_row (by decide) hrow).symm)).kept (grownBy_setCell' _ (b + 1 + 1) _) (.inr (u2.not_row (by decide) hrow).symm)
    have tK:=((jks W ⟨b + 1,0,none⟩ (.slice A0 (ybN s.data.toList k (ja4 (8 * s.size))).length c0)).trans (jks _ ⟨b + 1 + 1,0,none⟩ (.int .i64 0))).same D _ hK rfl;have q1:D ≠ b + 1:=by omega
    have q2:D ≠ b + 1 + 1:=by omega
    exact ⟨_,ybM rfl _ _ _ _ _ _ rfl rfl (ya3 Tryz.underlying53 rfl ((t1.kept (grownBy_putObj' _ D _) (by simp;omega)).cell)) (ya3 jc8 rfl ((t2.kept (grownBy_putObj' _ D _) (by simp;omega)).cell)),
     _,by rw [hE0],by rw [hL0,HB0.out];exact ownsRow_putObj tr _ tK rfl,by rw [HB0.out];exact tb.trans (belowK_b (w:=w) (by have:=HB0.out;omega) _ D _ _ (by have:=HB0.out;omega) tK rfl rfl)⟩
   case stop =>
    rintro D c pre W hD hpre ⟨⟨rfl,x,hx,hx1,hx2⟩,hB,u1,u2⟩ hK
    have hns:yef s.data.toList k = true:=by
     rw [yhE s.data.toList k (8 * s.size) (by rw [yan])];exact ⟨x,hpre.subset hx,hx1,hx2⟩
    have hE0:ybd s.data.toList (k:Int) = 8:=by rw [HE.out,hns];rfl
    have hL0:yaI s.data.toList (k:Int) = []:=by unfold yaI;rw [hE0];rfl
    gi_wp2
    have hDW:D < W.heap.size:=(jes.1 hK).1;refine ⟨by simp,.inl ⟨_,_,rfl,run_takeDeferred hK,?_⟩⟩
    exact ⟨_,ybM rfl _ _ _ _ _ _ rfl rfl (ya3 Tryz.underlying53 rfl ((u1.kept (grownBy_putObj' _ D _) (by simp;omega)).cell)) (ya3 jc8 rfl ((u2.kept (grownBy_putObj' _ D _) (by simp;omega)).cell)),
     _,by rw [hE0],by rw [hL0];exact jon _ _ _ _,by rw [HB0.out];exact hB.trans (belowK_b (w:=w) (by have:=HB0.out;omega) _ D _ _ (by have:=HB0.out;omega) hK rfl rfl)⟩
  ·have he:ybd s.data.toList k = 2:=by unfold ybd;rw [if_neg hbad,if_pos (by rw [hsl,jnc,hm];exact hlen)]
   have hL:yaI s.data.toList k = []:=by unfold yaI;rw [he];rfl
   rw [he,hL];have hne:((s.size:Int) != (m:Int)) = true:=by simp;omega
   have hne2:(s.size != m) = true:=by simpa using hlen
   have hbad':=jh hbad;clear he hL hm hlen hbad;obtain ⟨x1,x2,x3,x4,_⟩:=box3 w (.int .i64 (k:Int)) (.slice none 0 0) (.int .i64 2) 3 53 28;have y1:=x2.cell;have y2:=x3.cell;clear x1 x2 x3;gi_wp2_with fail
   refine ⟨trivial,callsIn_wide.2 ((hneed _).mono ?_)⟩;rintro e w' ⟨rfl,rfl⟩;gi_wp2_with fail
   exact ⟨_,ybM rfl _ _ _ _ _ _ rfl rfl (ya3 Tryz.underlying53 rfl y1) (ya3 jc8 rfl y2),_,rfl,jon _ _ _ _,x4⟩
def yc9 (l:Bool) (s:ByteArray):Int:=if l then 2 else ybF s.data.toList
def yaC (l:Bool) (s:ByteArray) (q:Nat):Nat:=if l then 0 else ydH s.data.toList q
theorem yiY (l:Bool) (s:ByteArray) (sv:Value) (hs:s.size <= 9223372036854775807) (w:World) :
  Calls jq 148 #[.agg #[.bool l,.string s,sv]] w fun e w'=>e = .returned (.tuple #[.agg #[.int .u64 (yaC l s 0:Nat),.int .u64 (yaC l s 1:Nat),.int .u64 (yaC l s 2:Nat),.int .u64 (yaC l s 3:Nat)],.int .i64 (yc9 l s)]) /\ w.grownBy w' none:=by
 have ho:=fun V=>yk1 l s sv (ybF s.data.toList) (yaC l s 0) (yaC l s 1) (yaC l s 2) (yaC l s 3) (fun h=>by
   have key:∀ q,yaC l s q = 0:=fun q=>by
    unfold yaC;rcases h with h | h
    ·split
     ·rfl
     ·exact if_neg h
    ·rw [h];rfl
   exact ⟨key 0,key 1,key 2,key 3⟩) (fun h W=>by
   have:=ylS s hs W;subst h;exact this) V
 rw [show (if l then (2:Int) else ybF s.data.toList) = yc9 l s from rfl] at ho;have HO:=jh ho;clear ho;generalize yaC l s 0 = a0 at *;generalize yaC l s 1 = a1 at *;generalize yaC l s 2 = a2 at *;generalize yaC l s 3 = a3 at *;generalize yc9 l s = E at *;have hB:=(Blk.new w 128 #[.bool l,.string s,sv]).alloc (.cells wZ 45);have hR:=Blk.new (w.alloc (.cells #[.bool l,.string s,sv] 128)) 45 wZ;rw [jsa] at hR;have hG:=yaa (yaa (jr w none) (.cells #[.bool l,.string s,sv] 128)) (.cells wZ 45);go_enter Tryz.func148,Tryz.ntmps148
 go_upto_region 1 with (fail)
 obtain ⟨b,hb⟩:∃ b,w.heap.size = b:=⟨_,rfl⟩;have HWS:=jh hb;rw [hb] at hB hR ⊢;clear hb;generalize (w.alloc (.cells #[.bool l,.string s,sv] 128)).alloc (.cells wZ 45) = W1 at *;have hle:w.heap.size <= b + 1:=by have:=HWS.out;omega
 have c0:=hB.cell 0;have c1:=hB.cell 1;have c2:=hB.cell 2;simp only [jta,jcz,jcs] at c0 c1 c2;have HR:=jh hR;have HG:=jh hG;clear hR hG hB;go_wp2_with fail
 refine (HO.out _).mono ?_;rintro e w3 ⟨rfl,hg3⟩;have hR:=HR.out.grown hg3 (by simp);have HB5:=jh (yff hR (.int .u64 (a0:Int)) (.int .u64 (a1:Int)) (.int .u64 (a2:Int)) (.int .u64 (a3:Int)));have HG5:=jh (yem (yab HG.out hg3 (by simp)) hle (.int .u64 (a0:Int)) (.int .u64 (a1:Int)) (.int .u64 (a2:Int)) (.int .u64 (a3:Int)));have r0:=hR.cell 0;have r1:=hR.cell 1;have r2:=hR.cell 2;have r3:=hR.cell 3;have f0:=hR.frozen 0;have f1:=hR.frozen 1;have f2:=hR.frozen 2;have f3:=hR.frozen 3;simp only [jta,jcz,jcs] at r0 r1 r2 r3;clear hg3 hR HR HG hle c0 c1 c2 HO;go_wp2_with fail
 refine jbr (yaJ (fn:=Tryz.f148) rfl _ _ _ _ rfl (yb2 HB5.out)) rfl ?_;exact ⟨rfl,HG5.out⟩
theorem ync (a0 a1 a2 a3:Nat) (h0:a0 < 18446744073709551616) (h1:a1 < 18446744073709551616) (h2:a2 < 18446744073709551616) (h3:a3 < 18446744073709551616) (w:World) :
  Calls jq 88 #[.agg #[.int .u64 (a0:Int),.int .u64 (a1:Int),.int .u64 (a2:Int),.int .u64 (a3:Int)]] w fun e w'=>e = .returned (.agg #[.bool false,.string ⟨(beN (ycX a0 a1 a2 a3)).toArray⟩,.slice none 0 0]) /\ w.grownBy w' none:=by
 have hbe:=fun V=>ydZ a0 a1 a2 a3 h0 h1 h2 h3 V;obtain ⟨t,ht⟩:∃ t:ByteArray,(⟨(beN (ycX a0 a1 a2 a3)).toArray⟩:ByteArray) = t:=⟨_,rfl⟩;rw [ht] at hbe ⊢;have HBe:=jh hbe;clear hbe ht h0 h1 h2 h3;have hX:=(Blk.new w 45 #[.int .u64 (a0:Int),.int .u64 (a1:Int),.int .u64 (a2:Int),.int .u64 (a3:Int)]).alloc (.cells #[.bool false,.string ⟨#[]⟩,.slice none 0 0] 128);have hB:=Blk.new (w.alloc (.cells #[.int .u64 (a0:Int),.int .u64 (a1:Int),.int .u64 (a2:Int),.int .u64 (a3:Int)] 45)) 128 #[.bool false,.string ⟨#[]⟩,.slice none 0 0];rw [jsa] at hB;have HG:=jh (yaa (yaa (jr w none) (.cells #[.int .u64 (a0:Int),.int .u64 (a1:Int),.int .u64 (a2:Int),.int .u64 (a3:Int)] 45)) (.cells #[.bool false,.string ⟨#[]⟩,.slice none 0 0] 128));go_enter Tryz.func88,Tryz.ntmps88
 go_upto_region 1 with (fail)
 obtain ⟨b,hb⟩:∃ b,w.heap.size = b:=⟨_,rfl⟩;have HW:=jh hb;rw [hb] at hB hX ⊢;clear hb;generalize (w.alloc (.cells #[.int .u64 (a0:Int),.int .u64 (a1:Int),.int .u64 (a2:Int),.int .u64 (a3:Int)] 45)).alloc (.cells #[.bool false,.string ⟨#[]⟩,.slice none 0 0] 128) = W1 at *;have x0:=hX.cell 0;have x1:=hX.cell 1;have x2:=hX.cell 2;have x3:=hX.cell 3;simp only [jta,jcz,jcs] at x0 x1 x2 x3;go_wp2_with fail
 refine (HBe.out _).mono ?_;rintro e w3 ⟨rfl,hg3⟩;have hB:=hB.grown hg3 (by simp);have HG3:=jh (yab HG.out hg3 (by simp));clear hg3 x0 x1 x2 x3 hX;go_wp2_with fail
 refine (yed t _).mono ?_;rintro e w4 ⟨rfl,hg4⟩;have hB:=hB.grown hg4 (by simp);have hG4:=yab HG3.out hg4 (by simp);have hle:w.heap.size <= b + 1:=by have:=HW.out;omega
 have HG5:=jh (yar (yar (yar hG4 (p:=⟨b + 1,0,none⟩) hle (.bool false)) (p:=⟨b + 1,1,none⟩) hle (.string t)) (p:=⟨b + 1,2,none⟩) hle (.slice none 0 0));have HB5:=jh (((hB.set_ 0 (.bool false)).set_ 1 (.string t)).set_ 2 (.slice none 0 0));have c0:=hB.cell 0;have c1:=hB.cell 1;have c2:=hB.cell 2;have d0:=hB.frozen 0;have d1:=hB.frozen 1;have d2:=hB.frozen 2;simp only [jta,jcz,jcs] at c0 c1 c2;clear hg4 hG4 hB hle;go_wp2_with fail
 refine jbr (ya6 (fn:=Tryz.f88) rfl _ _ _ _ rfl (yb5 HB5.out)) rfl ?_;exact ⟨rfl,HG5.out⟩
abbrev txt (s:ByteArray):Itm:=.mk false s []
def txtV (xs:List ByteArray):List Value:=xs.flatMap fun s=>[.bool false,.string s,.slice none 0 0]
theorem ylq (xs:List ByteArray) (s:ByteArray):txtV (xs ++ [s]) = txtV xs ++ [.bool false,.string s,.slice none 0 0]:=by simp [txtV]
theorem ykh (xs:List ByteArray):txtV xs = yb0 (xs.map txt) (jc4 xs.length (.slice none 0 0)):=by
 induction xs with
 | nil=>rfl
 | cons x xs ih =>
  rw [show txtV (x :: xs) = [.bool false,.string x,.slice none 0 0] ++ txtV xs from rfl,ih];rfl
theorem yo9 {u:World} {base k c:Nat} {A:Option Addr} {xs:List ByteArray} (hl:xs.length = k) (h:u.ownsRow base 128 3 (.slice A k c) k (txtV xs)):SubV (fun g=>base <= g) u (xs.map txt) (.slice A k c):=by
 subst hl;rw [ykh] at h;have hlen:(xs.map txt).length = xs.length:=by simp
 rw [<- hlen] at h ⊢;refine SubV.of_own (by simp) h (fun i hi=>?_) (fun g hg=>yal h hg);have hi':i < xs.length:=by simpa using hi
 have h1:((xs.map txt).getD i Itm.none_).items = []:=by
  rw [jg,jgm,je hi'];rfl
 have h2:(jc4 (xs.map txt).length (ja6 none 0 0)).getD i undef = .slice none 0 0:=by
  rw [jg,List.getElem?_replicate,if_pos hi];rfl
 rw [h1,h2];exact .mk [] none 0 [] (fun h=>by cases h) (fun i h=>by cases h)
theorem yee {S:Nat -> Prop} {W:World} {xs:List Itm} {v:Value} {g:Nat} (h:SubV S W xs v) (hg:¬ S g) (x y z:Value):SubV S (((W.setCell ⟨g,0,none⟩ x).setCell ⟨g,1,none⟩ y).setCell ⟨g,2,none⟩ z) xs v:=by
 refine h.keep fun p hp u hu=>?_;have hne:g ≠ p.block:=fun e=>hg (e ▸ hp);rw [World.cell?_setCell_far _ _ _ _ hne,World.cell?_setCell_far _ _ _ _ hne,World.cell?_setCell_far _ _ _ _ hne];exact hu
theorem yls (B:Nat) (A:Option Addr) (n c:Nat) (xs:List ByteArray) (w:World) (h:Reads w B 1 A n (xs.map jb2)) (hB:B <= w.heap.size) (hn:n <= 1000) :
  Calls jq 123 #[.slice A n c] w fun e w'=>∃ A' c',e = .returned (.agg #[.bool true,.string ⟨#[]⟩,.slice A' n c']) /\ SubV (fun g=>w.heap.size <= g) w' (xs.map txt) (.slice A' n c') /\ w.grownBy w' none:=by
 have hl:xs.length = n:=by have:=h.1;simpa using this
 have hRB:=Blk.new w 128 #[.bool false,.string ⟨#[]⟩,.slice none 0 0];have hG:=yaa (jr w none) (.cells #[.bool false,.string ⟨#[]⟩,.slice none 0 0] 128);go_enter Tryz.func123,Tryz.ntmps123
 go_upto_region 1 with (fail)
 obtain ⟨b,hb⟩:∃ b,w.heap.size = b:=⟨_,rfl⟩;have HW:=jh hb;rw [hb] at hRB ⊢;have hz:(w.alloc (.cells #[.bool false,.string ⟨#[]⟩,.slice none 0 0] 128)).heap.size = b + 1:=by simp [hb]
 have h:=h.alloc hB (.cells #[.bool false,.string ⟨#[]⟩,.slice none 0 0] 128);generalize w.alloc (.cells #[.bool false,.string ⟨#[]⟩,.slice none 0 0] 128) = W1 at *;go_wp2_with fail
 refine (yeZ _ ⟨_,_,_,rfl⟩ _).mono ?_;rintro e w3 ⟨rfl,hg3⟩;obtain ⟨b3,hb3⟩:∃ b,w3.heap.size = b:=⟨_,rfl⟩;have hz3:=hg3.size
 have K0:Held3 w3 b3 (.slice none 0 0) 0 (txtV (xs.take 0)) (w3.alloc (.cells #[.bool true,.string ⟨#[]⟩,.slice none 0 0] 128)):=by
  refine ⟨?_,jon _ _ _ _,yaa (jr w3 none) _,by simp;omega,by omega⟩;have:=Blk.new w3 128 #[.bool true,.string ⟨#[]⟩,.slice none 0 0]
  rwa [hb3] at this
 have h:=h.grown hg3 (by have:=HW.out;omega) (by simp);have h0:=jh h;have HL:=jh hl;have HB:Hid (B <= w3.heap.size):=jh (by have:=HW.out;omega);have HRB:=jh (hRB.grown hg3 (by simp));have HG:=jh (yab hG hg3 (by simp));have h:=h.alloc HB.out (.cells #[.bool true,.string ⟨#[]⟩,.slice none 0 0] 128);have HS:Hid (w.heap.size <= b3):=jh (by have:=HW.out;omega);have HZB:Hid (b + 1 <= b3):=jh (by omega);clear hG hg3 hl hB hRB;go_upto_region 2 with (fail)
 generalize w3.alloc (.cells #[.bool true,.string ⟨#[]⟩,.slice none 0 0] 128) = W4 at *;clear hz hz3 hb3;go_wp2_with fail
 go_loopw [9] (fun i wr=>∃ (k:Nat) (v:Value),i = .int .i64 k /\ k <= n /\ Held3 w3 b3 v k (txtV (xs.take k)) wr) (fun i _=>n - (intOf i).toNat)
 case atStart=>exact ⟨0,_,rfl,by omega,K0⟩
 case round =>
  clear K0 h;obtain ⟨k,v,rfl,hk,K0⟩:=hrel;have h:=h0.out.grown K0.grown HB.out (by simp);by_cases hlt:k < n
  ·obtain ⟨g,off,rfl,hg,hc⟩:=Reads.vals jb2 .empty h hlt;have c0:=hc k hlt;have q1:(k:Int) < (n:Int):=by omega
   have hTK:txtV (xs.take k) ++ [.bool false,.string (xs.getD k .empty),.slice none 0 0] = txtV (xs.take (k + 1)):=by
    rw [<- ylq,List.take_add_one,je (by have:=HL.out;omega),jg,je (by have:=HL.out;omega)];rfl
   obtain ⟨s,hs⟩:∃ s,xs.getD k .empty = s:=⟨_,rfl⟩;rw [hs] at c0 hTK;have HTK:=jh hTK;have H0:=jh h0.out;clear h hc hs h0 hTK;obtain ⟨vA,vc,rfl⟩:=ybe K0.own;go_wp2_with fail
   refine jwh (S:=fun _=>True) (by kernel_rfl) ?_;change wpAnyH _ _ _ _ _ _ _ _ wr.drew;replace K0:=K0.drew;generalize wr.drew = u0 at *;clear c0;refine zt 0 (.pointer (some ⟨b3,2,none⟩)) (some 13) rfl (fun W hW=>by go_simp) trivial ?_;simp only [jp,jb,jz,js];refine zt 2 (.string s) (some 15) rfl (fun W hW=>by go_simp) trivial ?_;simp only [jp,jb,jz,js];refine ybm (i:=1) (j:=3) (by kernel_rfl) ?_ ?_
   ·refine yaf (some 14) rfl rfl (.slice vA k vc) (yct 126 (.tmp 13) rfl _ rfl _ _ jc2 rfl (K0.blk.cell 2)) rfl trivial ?_;simp only [jp,jb,jz,js];refine yag (i:=3) (by kernel_rfl) ?_;refine yat (some 16) rfl rfl 89 #[.string s] (yam 89 (.tmp 15) _ rfl _ rfl rfl) rfl ((yed s _).mono ?_);rintro e u1 ⟨rfl,hgc⟩;have K1:=K0.kept hgc;refine ⟨_,rfl,trivial,?_⟩;simp only [jp,jb,jz,js];refine yag (i:=4) (by kernel_rfl) ?_;refine yaf (some 17) rfl rfl (.slice (some ⟨u1.heap.size,0,none⟩) 1 1) (by go_simp <;> rfl) rfl trivial ?_;simp only [jp,jb,jz,js];have K2:=K1.kept (yaa (jr u1 none) (.cells #[.bool false,.string s,.slice none 0 0] 128));obtain ⟨i0,hi,hz0,hzs,hzb⟩:=info_parts yce;obtain ⟨v',u2,hrun,hown',hgrow,hiff,hob⟩:=jra (P:=jq) (u1.alloc (.cells #[.bool false,.string s,.slice none 0 0] 128)) (b3 + 1) 126 126 128 i0 _ 3 48 jc2 hi hz0 hzs hzb rfl (by decide) (.slice vA k vc) k (txtV (xs.take k)) K2.own ⟨u1.heap.size,0,none⟩ 1 1 [.bool false,.string s,.slice none 0 0] rfl (yby _ _ _ _ _) (by simp [ja2]) (by simp only [maxLen];omega) (by omega) K2.size;obtain ⟨g',cap',rfl⟩:=ownsRow_succ hown';have K3:=K2.put hown' hgrow;refine yag (i:=5) (by kernel_rfl) ?_;refine yaf (some 18) rfl rfl (.slice (some ⟨g',0,none⟩) (k + 1) cap') (yaw (.tmp 14) (.tmp 17) 126 rfl _ _ _ rfl rfl hrun) rfl trivial ?_;simp only [jp,jb,jz,js];refine yag (i:=6) (by kernel_rfl) ?_;refine yaf (some 19) rfl rfl (.pointer (some ⟨b3,2,none⟩)) (by go_simp <;> rfl) rfl trivial ?_;simp only [jp,jb,jz,js];refine yag (i:=7) (by kernel_rfl) ?_;refine ybf rfl rfl (yaZ (.tmp 19) (.tmp 18) rfl rfl rfl (K2.blk.grown hgrow (fun e=>by have:=yal K2.own e.symm;omega)) (by simp)) trivial ?_;simp only [jp,jb,jz,js];refine jwd (by kernel_rfl) ?_ _;rw [HTK.out] at K3;clear hrun hown' hgrow hob K2 hiff;go_wp2_with fail
    go_roundw
    case rel=>exact ⟨k + 1,_,by go_num,by omega,K3⟩
    case measure=>simp [intOf];omega
   ·refine yat (some 16) rfl rfl 89 #[.string s] (yam 89 (.tmp 15) _ rfl _ rfl rfl) rfl ((yed s _).mono ?_);rintro e u1 ⟨rfl,hgc⟩;have K1:=K0.kept hgc;refine ⟨_,rfl,trivial,?_⟩;simp only [jp,jb,jz,js];refine ybm (i:=1) (j:=4) (by kernel_rfl) ?_ ?_
    ·refine yaf (some 14) rfl rfl (.slice vA k vc) (yct 126 (.tmp 13) rfl _ rfl _ _ jc2 rfl (K1.blk.cell 2)) rfl trivial ?_;simp only [jp,jb,jz,js];refine yag (i:=4) (by kernel_rfl) ?_;refine yaf (some 17) rfl rfl (.slice (some ⟨u1.heap.size,0,none⟩) 1 1) (by go_simp <;> rfl) rfl trivial ?_;simp only [jp,jb,jz,js];have K2:=K1.kept (yaa (jr u1 none) (.cells #[.bool false,.string s,.slice none 0 0] 128));obtain ⟨i0,hi,hz0,hzs,hzb⟩:=info_parts yce;obtain ⟨v',u2,hrun,hown',hgrow,hiff,hob⟩:=jra (P:=jq) (u1.alloc (.cells #[.bool false,.string s,.slice none 0 0] 128)) (b3 + 1) 126 126 128 i0 _ 3 48 jc2 hi hz0 hzs hzb rfl (by decide) (.slice vA k vc) k (txtV (xs.take k)) K2.own ⟨u1.heap.size,0,none⟩ 1 1 [.bool false,.string s,.slice none 0 0] rfl (yby _ _ _ _ _) (by simp [ja2]) (by simp only [maxLen];omega) (by omega) K2.size;obtain ⟨g',cap',rfl⟩:=ownsRow_succ hown';have K3:=K2.put hown' hgrow;refine yag (i:=5) (by kernel_rfl) ?_;refine yaf (some 18) rfl rfl (.slice (some ⟨g',0,none⟩) (k + 1) cap') (yaw (.tmp 14) (.tmp 17) 126 rfl _ _ _ rfl rfl hrun) rfl trivial ?_;simp only [jp,jb,jz,js];refine yag (i:=6) (by kernel_rfl) ?_;refine yaf (some 19) rfl rfl (.pointer (some ⟨b3,2,none⟩)) (by go_simp <;> rfl) rfl trivial ?_;simp only [jp,jb,jz,js];refine yag (i:=7) (by kernel_rfl) ?_;refine ybf rfl rfl (yaZ (.tmp 19) (.tmp 18) rfl rfl rfl (K2.blk.grown hgrow (fun e=>by have:=yal K2.own e.symm;omega)) (by simp)) trivial ?_;simp only [jp,jb,jz,js];refine jwd (by kernel_rfl) ?_ _;rw [HTK.out] at K3;clear hrun hown' hgrow hob K2 hiff;go_wp2_with fail
     go_roundw
     case rel=>exact ⟨k + 1,_,by go_num,by omega,K3⟩
     case measure=>simp [intOf];omega
    ·refine yaf (some 17) rfl rfl (.slice (some ⟨u1.heap.size,0,none⟩) 1 1) (by go_simp <;> rfl) rfl trivial ?_;simp only [jp,jb,jz,js];have K2:=K1.kept (yaa (jr u1 none) (.cells #[.bool false,.string s,.slice none 0 0] 128));refine yag (i:=1) (by kernel_rfl) ?_;refine yaf (some 14) rfl rfl (.slice vA k vc) (yct 126 (.tmp 13) rfl _ rfl _ _ jc2 rfl (K2.blk.cell 2)) rfl trivial ?_;simp only [jp,jb,jz,js];obtain ⟨i0,hi,hz0,hzs,hzb⟩:=info_parts yce;obtain ⟨v',u2,hrun,hown',hgrow,hiff,hob⟩:=jra (P:=jq) (u1.alloc (.cells #[.bool false,.string s,.slice none 0 0] 128)) (b3 + 1) 126 126 128 i0 _ 3 48 jc2 hi hz0 hzs hzb rfl (by decide) (.slice vA k vc) k (txtV (xs.take k)) K2.own ⟨u1.heap.size,0,none⟩ 1 1 [.bool false,.string s,.slice none 0 0] rfl (yby _ _ _ _ _) (by simp [ja2]) (by simp only [maxLen];omega) (by omega) K2.size;obtain ⟨g',cap',rfl⟩:=ownsRow_succ hown';have K3:=K2.put hown' hgrow;refine yag (i:=5) (by kernel_rfl) ?_;refine yaf (some 18) rfl rfl (.slice (some ⟨g',0,none⟩) (k + 1) cap') (yaw (.tmp 14) (.tmp 17) 126 rfl _ _ _ rfl rfl hrun) rfl trivial ?_;simp only [jp,jb,jz,js];refine yag (i:=6) (by kernel_rfl) ?_;refine yaf (some 19) rfl rfl (.pointer (some ⟨b3,2,none⟩)) (by go_simp <;> rfl) rfl trivial ?_;simp only [jp,jb,jz,js];refine yag (i:=7) (by kernel_rfl) ?_;refine ybf rfl rfl (yaZ (.tmp 19) (.tmp 18) rfl rfl rfl (K2.blk.grown hgrow (fun e=>by have:=yal K2.own e.symm;omega)) (by simp)) trivial ?_;simp only [jp,jb,jz,js];refine jwd (by kernel_rfl) ?_ _;rw [HTK.out] at K3;clear hrun hown' hgrow hob K2 hiff;go_wp2_with fail
     go_roundw
     case rel=>exact ⟨k + 1,_,by go_num,by omega,K3⟩
     case measure=>simp [intOf];omega
  ·obtain rfl:k = n:=by omega
   have hfin:decide ((k:Int) < (k:Int)) = false:=by simp
   clear h h0;have hRB:=HRB.out.grown K0.grown (by simp);obtain ⟨vA,vc,rfl⟩:=ybe K0.own;have hle:w.heap.size <= b:=by have:=HW.out;omega
   have hb3:b + 1 <= b3:=by have:=HZB.out;omega
   have ht:xs.take k = xs:=jtl (by have:=HL.out;omega);have hS:=yo9 HL.out (ht ▸ K0.own);have HS5:=jh (SubV.weak (yee (g:=b) hS (by omega) (.bool true) (.string ⟨#[]⟩) (.slice vA k vc)) (fun g (hg:b3 + 1 <= g)=>(show w.heap.size <= g by omega)));have HG5:=jh (yar (yar (yar (yab HG.out K0.grown (by simp)) (p:=⟨b,0,none⟩) hle (.bool true)) (p:=⟨b,1,none⟩) hle (.string ⟨#[]⟩)) (p:=⟨b,2,none⟩) hle (.slice vA k vc));have HB5:=jh (((hRB.set_ 0 (.bool true)).set_ 1 (.string ⟨#[]⟩)).set_ 2 (.slice vA k vc));have c0:=hRB.cell 0;have c1:=hRB.cell 1;have c2:=hRB.cell 2;have d0:=hRB.frozen 0;have d1:=hRB.frozen 1;have d2:=hRB.frozen 2;have e0:=K0.blk.cell 0;have e1:=K0.blk.cell 1;have e2:=K0.blk.cell 2;simp only [jta,jcz,jcs] at c0 c1 c2 e0 e1 e2;clear K0 hle hb3 ht hS hRB hk hlt;go_wp2_with fail
   refine jbr (ya6 (fn:=Tryz.f123) rfl _ _ _ _ rfl (yb5 HB5.out)) rfl ?_;exact ⟨_,_,rfl,HS5.out,HG5.out⟩
theorem SubV.grown {S:Nat -> Prop} {W W':World} {xs:List Itm} {v:Value} (h:SubV S W xs v) (hg:W.grownBy W' none):SubV S W' xs v:=h.keep fun p _ u hu=>hg.cell hu (by simp)
theorem yfz {w:World} {base base' size n:Nat} {e:TypeId} {v:Value} {xs:List Value} (h:w.ownsRow base e size v n xs) (hb:base' <= base):w.ownsRow base' e size v n xs:=by
 refine ⟨h.1,?_⟩;rcases h.2 with h1 | ⟨g,cap,cur,hv,hg,rest⟩
 ·exact .inl h1
 ·exact .inr ⟨g,cap,cur,hv,by omega,rest⟩
section
variable {P:Program}
theorem yah {ops:Array Oper} {rest:List Oper} {op:Oper} {a:Act} {w:World} {Q:Exit -> Act -> World -> Prop} (hgd:op.guard = none) (f:FuncId) (args:Array Value) (h:(execOp a.eval op).run P w = .ok (.enter f args) w)
  (hc:Calls P f args w fun e w'=>∃ v,e = .returned v /\ wpList P ops Q rest (a.put op.dst v) w'):wpList P ops Q (op :: rest) a w :=
 wpList_plain hgd fun K hK=>by
  unfold Oper.wp;rw [h];refine hc.mono fun e w' he=>?_;obtain ⟨v,rfl,hk⟩:=he;exact hK _ _ hk
theorem yaq {a:Act} {o:Oper} {W:World} (x:Operand) (ho:o.op = .move x) (v:Value) (hx:a.eval x = v):(execOp a.eval o).run P W = .ok (.value v) W:=by
 unfold execOp;simp only [ho,hx];rfl
end
theorem zm {P:Program} {ops:Array Oper} {rest:List Oper} {op:Oper} {a:Act} {w:World} {Q:Exit -> Act -> World -> Prop} (n:Nat) (v:Value) (hx:a.eval (.tmp n) = v) (hk:wpList P ops Q rest (a.put op.dst v) w) (hg:op.guard = none:=by rfl) (ho:op.op = .move (.tmp n):=by rfl):wpList P ops Q (op :: rest) a w :=
 yac hg v (yaq (.tmp n) ho v hx) hk
theorem yqe:(jq.info? 4).map (fun i=>(i.zero,i.size,i.bytes)) = some (some (.bool false),1,1):=by kernel_rfl
theorem yqd:(jq.info? 22).map (fun i=>(i.zero,i.size,i.bytes)) = some (some (.int .u64 0),1,8):=by kernel_rfl
theorem yp9:(jq.info? 9).map (fun i=>(i.zero,i.size,i.bytes)) = some (some (.string .empty),1,16):=by kernel_rfl
def colL {α:Type} (vf:TxV -> α) (pf:TxV -> Bool) (ls:List TxV):List α:=(ls.filter pf).map vf
theorem yfJ {α:Type} (vf:TxV -> α) (pf:TxV -> Bool) (ls:List TxV) (k:Nat) (hk:k < ls.length) (x:TxV) (hx:ls.getD k TxV.zero = x):colL vf pf (ls.take (k + 1)) = if pf x = true then colL vf pf (ls.take k) ++ [vf x] else colL vf pf (ls.take k):=by
 unfold colL;rw [jg,je hk] at hx;rw [List.take_add_one,je hk,List.filter_append,List.map_append];have hx:ls[k] = x:=hx;rw [hx];by_cases h:pf x = true
 ·rw [if_pos h];simp [h]
 ·rw [if_neg h];simp [h]
theorem ydD {α:Type} (vf:TxV -> α) (pf:TxV -> Bool) (ls:List TxV) (k:Nat):(colL vf pf (ls.take k)).length <= k:=by
 unfold colL;rw [jd8];exact jlt (List.length_filter_le _ _) (by simp;omega)
theorem yjl (f:FuncId) (vf:TxV -> Bool) (pf:TxV -> Bool) (hf:∀ (V:World) (v:Value),(callFunc f #[v]).run jq V = .ok (.enter f #[v]) V) (B:Nat) (A:Option Addr) (n c:Nat) (ls:List TxV) (w:World) (h:TxsR B w ls A n) (hB:B <= w.heap.size) (hn:n <= 100000)
  (hF:∀ x ∈ ls,∀ sa sb (V:World),TxIn B V x sa sb -> B <= V.heap.size -> Calls jq f #[.agg (txC x sa sb)] V fun e w'=>e = .returned (.tuple #[jc7 (vf x),.bool (pf x)]) /\ V.grownBy w' none) :
  Calls jq 41 #[.slice A n c,.func (.func f) #[] #[]] w fun e w'=>∃ v,e = .returned v /\ w'.ownsRow w.heap.size 4 1 v (colL vf pf ls).length ((colL vf pf ls).map (jc7)) /\ w.grownBy w' none:=by
 have HH:=jh h;have HB:=jh hB;have HL:=jh h.1;have HF:=jh hF;have HFF:=jh hf;obtain ⟨i0,hi,hz0,hz1,hz2⟩:=info_parts yqe;clear h hB hF hf;go_enter Tryz.func41,Tryz.ntmps41
 go_wp2_with fail
 go_loopw [5,12] (fun v i wr=>∃ k:Nat,i = .int .i64 k /\ k <= n /\ wr.ownsRow w.heap.size 4 1 v (colL vf pf (ls.take k)).length ((colL vf pf (ls.take k)).map (jc7)) /\ w.grownBy wr none) (fun _ i _=>n - (intOf i).toNat)
 case atStart=>exact ⟨0,rfl,by omega,jon _ _ _ _,jr _ _⟩
 case round =>
  obtain ⟨k,rfl,hk,hown,hg⟩:=hrel;obtain ⟨A',cc,rfl,_⟩:=ybv hown;have HGG:=jh hg;by_cases hlt:k < n
  ·obtain ⟨g,off,sa,sb,x,rfl,hx,mx,hcx,hin⟩:=(HH.out.grown hg HB.out).at_ hlt;obtain ⟨⟨pa,xa,rfl,hacc⟩,⟨pb,xb,rfl,haut⟩,la,lb⟩:=id hin;have hlen:=ydD vf pf ls k;have hnx:=yfJ vf pf ls k (by rw [HL.out];exact hlt) x hx;obtain ⟨ys,hys⟩:∃ ys,colL vf pf (ls.take k) = ys:=⟨_,rfl⟩;rw [hys] at hown hnx hlen ⊢;have q1:(k:Int) < (n:Int):=by omega
   have q2:(0:Int) <= (k:Int):=by omega
   have hB2:=jlt HB.out hg.size;have HCX:=jh hcx;have HNX:=jh hnx;have HCALL:=jh (fun (V:World) (hV:wr.grownBy V none)=>HF.out x mx (.slice pa x.acc.length xa) (.slice pb x.auths.length xb) V (hin.grown hV hB2) (jlt hB2 hV.size));have HONE1:=jh (ydO x pa pb x.acc.length xa x.auths.length xb);have HSZ:=jh (show (txC x (.slice pa x.acc.length xa) (.slice pb x.auths.length xb)).size = 36 from rfl);clear hx hg hcx hin hacc haut la lb mx hB2 hnx hys;go_upto_region 4 with (fail)
   refine jwl ?_
   iterate 3 go_step
   refine wp_load_mid 49 (.tmp 14) rfl g (off + k * 36) rfl (txL x (.slice pa x.acc.length xa) (.slice pb x.auths.length xb)) _ HCX.out ja5 rfl (by kernel_rfl) ?_;clear HCX;rw [show (txL x (.slice pa x.acc.length xa) (.slice pb x.auths.length xb)).toArray = txC x (.slice pa x.acc.length xa) (.slice pb x.auths.length xb) from rfl];generalize txC x (.slice pa x.acc.length xa) (.slice pb x.auths.length xb) = ct at *;have hga:=yaa (jr wr none) (.cells ct 49);have hbk:=Blk.new wr 49 ct
   iterate 5 go_step
   refine wp_store_row 49 (.tmp 7) (.tmp 15) rfl wr.heap.size ct rfl rfl 49 txZ (Blk.new wr _ txZ) ((show (jq.info? 49).map (·.size) = some 36 by kernel_rfl).trans (congrArg some HSZ.out.symm)) (by rw [HSZ.out];rfl) HONE1.out ?_;rw [World.setRow_alloc_new];obtain ⟨g6,hg6⟩:∃ g,wr.heap.size = g:=⟨_,rfl⟩;rw [hg6] at hbk ⊢;clear hg6;have HGA:=jh hga;have HCALL2:=jh (HCALL.out _ hga);have hown1:=hown.kept hga (Classical.em _);generalize wr.alloc (.cells ct 49) = w5 at *;have HBK:=jh hbk;clear hga hbk HCALL HONE1 hown;go_upto_region 5 with (fail)
   refine jwl ?_;refine zm 1 (.func (.func f) #[] #[]) rfl ?_;simp only [jp,jb,jz,js];refine yac rfl (.agg ct) (yai rfl rfl 49 ct _ HBK.out ja5 rfl ((show (jq.info? 49).map (·.size) = some 36 by kernel_rfl).trans (congrArg some HSZ.out.symm))) ?_;simp only [jp,jb,jz,js];refine yah rfl f #[.agg ct] (yc4 f (.tmp 17) (.tmp 18) _ rfl rfl _ rfl (HFF.out _ _)) (HCALL2.out.mono ?_);rintro e w6 ⟨rfl,hg6⟩;refine ⟨_,rfl,?_⟩;simp only [jp,jb,jz,js];have hown2:=hown1.kept hg6 (Classical.em _);have HG6:=jh (yab (yab HGG.out HGA.out (by simp)) hg6 (by simp));obtain ⟨vx,hvx⟩:∃ v,vf x = v:=⟨_,rfl⟩;obtain ⟨b,hb⟩:∃ b,pf x = b:=⟨_,rfl⟩;rw [hvx,hb];rw [hvx,hb] at HNX;clear hg6 HCALL2 HGA hown1 hvx hb HBK;have hsz2:=HG6.out.size;cases b with
   | true =>
    go_wp2_with (at_builtin;refine wpList_append_own _ rfl _ _ 53 rfl w.heap.size 4 i0 (.bool false) 1 1 Tryz.underlying53 hi hz0 hz1 hz2 rfl (by decide) _ _ _ rfl (hown2.alloc _) ⟨w6.heap.size,0,none⟩ 1 1 [jc7 vx] rfl rfl (cell_one_new _ _ _) (by simp [ja2]) (by simp only [maxLen];omega) (by omega) (by simp;omega) ?_;intro v' w8 hown4 hgrow _)
    obtain ⟨g',cap',rfl⟩:=ownsRow_succ hown4;have hg8:w.grownBy w8 none:=yab (yaa HG6.out _) hgrow (fun j hj=>.inr (yeJ hown2 hj));go_wp2_with fail
    go_roundw
    case rel=>exact ⟨k + 1,by go_num,by omega,by rw [HNX.out,if_pos rfl];simpa using hown4,hg8⟩
    case measure=>simp [intOf];omega
   | false =>
    go_wp2_with fail
    go_roundw
    case rel=>exact ⟨k + 1,by go_num,by omega,by rw [HNX.out,if_neg (by simp)];exact hown2,HG6.out⟩
    case measure=>simp [intOf];omega
  ·obtain rfl:k = n:=by omega
   have ht:ls.take k = ls:=jtl (by have:=HL.out;omega);rw [ht] at hown;have hfin:decide ((k:Int) < (k:Int)) = false:=by simp
   rw [ht];have HOW:=jh hown;clear hown hg ht;go_wp2_with fail
   go_ret
   exact ⟨_,rfl,HOW.out,HGG.out⟩
theorem yjj (f:FuncId) (vf:TxV -> ByteArray) (pf:TxV -> Bool) (hf:∀ (V:World) (v:Value),(callFunc f #[v]).run jq V = .ok (.enter f #[v]) V) (B:Nat) (A:Option Addr) (n c:Nat) (ls:List TxV) (w:World) (h:TxsR B w ls A n) (hB:B <= w.heap.size) (hn:n <= 100000)
  (hF:∀ x ∈ ls,∀ sa sb (V:World),TxIn B V x sa sb -> B <= V.heap.size -> Calls jq f #[.agg (txC x sa sb)] V fun e w'=>e = .returned (.tuple #[jb2 (vf x),.bool (pf x)]) /\ V.grownBy w' none) :
  Calls jq 45 #[.slice A n c,.func (.func f) #[] #[]] w fun e w'=>∃ v,e = .returned v /\ w'.ownsRow w.heap.size 9 1 v (colL vf pf ls).length ((colL vf pf ls).map (jb2)) /\ w.grownBy w' none:=by
 have HH:=jh h;have HB:=jh hB;have HL:=jh h.1;have HF:=jh hF;have HFF:=jh hf;obtain ⟨i0,hi,hz0,hz1,hz2⟩:=info_parts yp9;clear h hB hF hf;go_enter Tryz.func45,Tryz.ntmps45
 go_wp2_with fail
 go_loopw [5,12] (fun v i wr=>∃ k:Nat,i = .int .i64 k /\ k <= n /\ wr.ownsRow w.heap.size 9 1 v (colL vf pf (ls.take k)).length ((colL vf pf (ls.take k)).map (jb2)) /\ w.grownBy wr none) (fun _ i _=>n - (intOf i).toNat)
 case atStart=>exact ⟨0,rfl,by omega,jon _ _ _ _,jr _ _⟩
 case round =>
  obtain ⟨k,rfl,hk,hown,hg⟩:=hrel;obtain ⟨A',cc,rfl,_⟩:=ybv hown;have HGG:=jh hg;by_cases hlt:k < n
  ·obtain ⟨g,off,sa,sb,x,rfl,hx,mx,hcx,hin⟩:=(HH.out.grown hg HB.out).at_ hlt;obtain ⟨⟨pa,xa,rfl,hacc⟩,⟨pb,xb,rfl,haut⟩,la,lb⟩:=id hin;have hlen:=ydD vf pf ls k;have hnx:=yfJ vf pf ls k (by rw [HL.out];exact hlt) x hx;obtain ⟨ys,hys⟩:∃ ys,colL vf pf (ls.take k) = ys:=⟨_,rfl⟩;rw [hys] at hown hnx hlen ⊢;have q1:(k:Int) < (n:Int):=by omega
   have q2:(0:Int) <= (k:Int):=by omega
   have hB2:=jlt HB.out hg.size;have HCX:=jh hcx;have HNX:=jh hnx;have HCALL:=jh (fun (V:World) (hV:wr.grownBy V none)=>HF.out x mx (.slice pa x.acc.length xa) (.slice pb x.auths.length xb) V (hin.grown hV hB2) (jlt hB2 hV.size));have HONE1:=jh (ydO x pa pb x.acc.length xa x.auths.length xb);have HSZ:=jh (show (txC x (.slice pa x.acc.length xa) (.slice pb x.auths.length xb)).size = 36 from rfl);clear hx hg hcx hin hacc haut la lb mx hB2 hnx hys;go_upto_region 4 with (fail)
   refine jwl ?_
   iterate 3 go_step
   refine wp_load_mid 49 (.tmp 14) rfl g (off + k * 36) rfl (txL x (.slice pa x.acc.length xa) (.slice pb x.auths.length xb)) _ HCX.out ja5 rfl (by kernel_rfl) ?_;clear HCX;rw [show (txL x (.slice pa x.acc.length xa) (.slice pb x.auths.length xb)).toArray = txC x (.slice pa x.acc.length xa) (.slice pb x.auths.length xb) from rfl];generalize txC x (.slice pa x.acc.length xa) (.slice pb x.auths.length xb) = ct at *;have hga:=yaa (jr wr none) (.cells ct 49);have hbk:=Blk.new wr 49 ct
   iterate 5 go_step
   refine wp_store_row 49 (.tmp 7) (.tmp 15) rfl wr.heap.size ct rfl rfl 49 txZ (Blk.new wr _ txZ) ((show (jq.info? 49).map (·.size) = some 36 by kernel_rfl).trans (congrArg some HSZ.out.symm)) (by rw [HSZ.out];rfl) HONE1.out ?_;rw [World.setRow_alloc_new];obtain ⟨g6,hg6⟩:∃ g,wr.heap.size = g:=⟨_,rfl⟩;rw [hg6] at hbk ⊢;clear hg6;have HGA:=jh hga;have HCALL2:=jh (HCALL.out _ hga);have hown1:=hown.kept hga (Classical.em _);generalize wr.alloc (.cells ct 49) = w5 at *;have HBK:=jh hbk;clear hga hbk HCALL HONE1 hown;go_upto_region 5 with (fail)
   refine jwl ?_;refine zm 1 (.func (.func f) #[] #[]) rfl ?_;simp only [jp,jb,jz,js];refine yac rfl (.agg ct) (yai rfl rfl 49 ct _ HBK.out ja5 rfl ((show (jq.info? 49).map (·.size) = some 36 by kernel_rfl).trans (congrArg some HSZ.out.symm))) ?_;simp only [jp,jb,jz,js];refine yah rfl f #[.agg ct] (yc4 f (.tmp 17) (.tmp 18) _ rfl rfl _ rfl (HFF.out _ _)) (HCALL2.out.mono ?_);rintro e w6 ⟨rfl,hg6⟩;refine ⟨_,rfl,?_⟩;simp only [jp,jb,jz,js];have hown2:=hown1.kept hg6 (Classical.em _);have HG6:=jh (yab (yab HGG.out HGA.out (by simp)) hg6 (by simp));obtain ⟨vx,hvx⟩:∃ v,vf x = v:=⟨_,rfl⟩;obtain ⟨b,hb⟩:∃ b,pf x = b:=⟨_,rfl⟩;rw [hvx,hb];rw [hvx,hb] at HNX;clear hg6 HCALL2 HGA hown1 hvx hb HBK;have hsz2:=HG6.out.size;cases b with
   | true =>
    go_wp2_with (at_builtin;refine wpList_append_own _ rfl _ _ 56 rfl w.heap.size 9 i0 (.string .empty) 1 16 Tryz.underlying56 hi hz0 hz1 hz2 rfl (by decide) _ _ _ rfl (hown2.alloc _) ⟨w6.heap.size,0,none⟩ 1 1 [jb2 vx] rfl rfl (cell_one_new _ _ _) (by simp [ja2]) (by simp only [maxLen];omega) (by omega) (by simp;omega) ?_;intro v' w8 hown4 hgrow _)
    obtain ⟨g',cap',rfl⟩:=ownsRow_succ hown4;have hg8:w.grownBy w8 none:=yab (yaa HG6.out _) hgrow (fun j hj=>.inr (yeJ hown2 hj));go_wp2_with fail
    go_roundw
    case rel=>exact ⟨k + 1,by go_num,by omega,by rw [HNX.out,if_pos rfl];simpa using hown4,hg8⟩
    case measure=>simp [intOf];omega
   | false =>
    go_wp2_with fail
    go_roundw
    case rel=>exact ⟨k + 1,by go_num,by omega,by rw [HNX.out,if_neg (by simp)];exact hown2,HG6.out⟩
    case measure=>simp [intOf];omega
  ·obtain rfl:k = n:=by omega
   have ht:ls.take k = ls:=jtl (by have:=HL.out;omega);rw [ht] at hown;have hfin:decide ((k:Int) < (k:Int)) = false:=by simp
   rw [ht];have HOW:=jh hown;clear hown hg ht;go_wp2_with fail
   go_ret
   exact ⟨_,rfl,HOW.out,HGG.out⟩
theorem yjk (f:FuncId) (vf:TxV -> Int) (pf:TxV -> Bool) (hf:∀ (V:World) (v:Value),(callFunc f #[v]).run jq V = .ok (.enter f #[v]) V) (B:Nat) (A:Option Addr) (n c:Nat) (ls:List TxV) (w:World) (h:TxsR B w ls A n) (hB:B <= w.heap.size) (hn:n <= 100000)
  (hF:∀ x ∈ ls,∀ sa sb (V:World),TxIn B V x sa sb -> B <= V.heap.size -> Calls jq f #[.agg (txC x sa sb)] V fun e w'=>e = .returned (.tuple #[je3 .u64 (vf x),.bool (pf x)]) /\ V.grownBy w' none) :
  Calls jq 43 #[.slice A n c,.func (.func f) #[] #[]] w fun e w'=>∃ v,e = .returned v /\ w'.ownsRow w.heap.size 22 1 v (colL vf pf ls).length ((colL vf pf ls).map (je3 .u64)) /\ w.grownBy w' none:=by
 have HH:=jh h;have HB:=jh hB;have HL:=jh h.1;have HF:=jh hF;have HFF:=jh hf;obtain ⟨i0,hi,hz0,hz1,hz2⟩:=info_parts yqd;clear h hB hF hf;go_enter Tryz.func43,Tryz.ntmps43
 go_wp2_with fail
 go_loopw [5,12] (fun v i wr=>∃ k:Nat,i = .int .i64 k /\ k <= n /\ wr.ownsRow w.heap.size 22 1 v (colL vf pf (ls.take k)).length ((colL vf pf (ls.take k)).map (je3 .u64)) /\ w.grownBy wr none) (fun _ i _=>n - (intOf i).toNat)
 case atStart=>exact ⟨0,rfl,by omega,jon _ _ _ _,jr _ _⟩
 case round =>
  obtain ⟨k,rfl,hk,hown,hg⟩:=hrel;obtain ⟨A',cc,rfl,_⟩:=ybv hown;have HGG:=jh hg;by_cases hlt:k < n
  ·obtain ⟨g,off,sa,sb,x,rfl,hx,mx,hcx,hin⟩:=(HH.out.grown hg HB.out).at_ hlt;obtain ⟨⟨pa,xa,rfl,hacc⟩,⟨pb,xb,rfl,haut⟩,la,lb⟩:=id hin;have hlen:=ydD vf pf ls k;have hnx:=yfJ vf pf ls k (by rw [HL.out];exact hlt) x hx;obtain ⟨ys,hys⟩:∃ ys,colL vf pf (ls.take k) = ys:=⟨_,rfl⟩;rw [hys] at hown hnx hlen ⊢;have q1:(k:Int) < (n:Int):=by omega
   have q2:(0:Int) <= (k:Int):=by omega
   have hB2:=jlt HB.out hg.size;have HCX:=jh hcx;have HNX:=jh hnx;have HCALL:=jh (fun (V:World) (hV:wr.grownBy V none)=>HF.out x mx (.slice pa x.acc.length xa) (.slice pb x.auths.length xb) V (hin.grown hV hB2) (jlt hB2 hV.size));have HONE1:=jh (ydO x pa pb x.acc.length xa x.auths.length xb);have HSZ:=jh (show (txC x (.slice pa x.acc.length xa) (.slice pb x.auths.length xb)).size = 36 from rfl);clear hx hg hcx hin hacc haut la lb mx hB2 hnx hys;go_upto_region 4 with (fail)
   refine jwl ?_
   iterate 3 go_step
   refine wp_load_mid 49 (.tmp 14) rfl g (off + k * 36) rfl (txL x (.slice pa x.acc.length xa) (.slice pb x.auths.length xb)) _ HCX.out ja5 rfl (by kernel_rfl) ?_;clear HCX;rw [show (txL x (.slice pa x.acc.length xa) (.slice pb x.auths.length xb)).toArray = txC x (.slice pa x.acc.length xa) (.slice pb x.auths.length xb) from rfl];generalize txC x (.slice pa x.acc.length xa) (.slice pb x.auths.length xb) = ct at *;have hga:=yaa (jr wr none) (.cells ct 49);have hbk:=Blk.new wr 49 ct
   iterate 5 go_step
   refine wp_store_row 49 (.tmp 7) (.tmp 15) rfl wr.heap.size ct rfl rfl 49 txZ (Blk.new wr _ txZ) ((show (jq.info? 49).map (·.size) = some 36 by kernel_rfl).trans (congrArg some HSZ.out.symm)) (by rw [HSZ.out];rfl) HONE1.out ?_;rw [World.setRow_alloc_new];obtain ⟨g6,hg6⟩:∃ g,wr.heap.size = g:=⟨_,rfl⟩;rw [hg6] at hbk ⊢;clear hg6;have HGA:=jh hga;have HCALL2:=jh (HCALL.out _ hga);have hown1:=hown.kept hga (Classical.em _);generalize wr.alloc (.cells ct 49) = w5 at *;have HBK:=jh hbk;clear hga hbk HCALL HONE1 hown;go_upto_region 5 with (fail)
   refine jwl ?_;refine zm 1 (.func (.func f) #[] #[]) rfl ?_;simp only [jp,jb,jz,js];refine yac rfl (.agg ct) (yai rfl rfl 49 ct _ HBK.out ja5 rfl ((show (jq.info? 49).map (·.size) = some 36 by kernel_rfl).trans (congrArg some HSZ.out.symm))) ?_;simp only [jp,jb,jz,js];refine yah rfl f #[.agg ct] (yc4 f (.tmp 17) (.tmp 18) _ rfl rfl _ rfl (HFF.out _ _)) (HCALL2.out.mono ?_);rintro e w6 ⟨rfl,hg6⟩;refine ⟨_,rfl,?_⟩;simp only [jp,jb,jz,js];have hown2:=hown1.kept hg6 (Classical.em _);have HG6:=jh (yab (yab HGG.out HGA.out (by simp)) hg6 (by simp));obtain ⟨vx,hvx⟩:∃ v,vf x = v:=⟨_,rfl⟩;obtain ⟨b,hb⟩:∃ b,pf x = b:=⟨_,rfl⟩;rw [hvx,hb];rw [hvx,hb] at HNX;clear hg6 HCALL2 HGA hown1 hvx hb HBK;have hsz2:=HG6.out.size;cases b with
   | true =>
    go_wp2_with (at_builtin;refine wpList_append_own _ rfl _ _ 54 rfl w.heap.size 22 i0 (.int .u64 0) 1 8 Tryz.underlying54 hi hz0 hz1 hz2 rfl (by decide) _ _ _ rfl (hown2.alloc _) ⟨w6.heap.size,0,none⟩ 1 1 [je3 .u64 vx] rfl rfl (cell_one_new _ _ _) (by simp [ja2]) (by simp only [maxLen];omega) (by omega) (by simp;omega) ?_;intro v' w8 hown4 hgrow _)
    obtain ⟨g',cap',rfl⟩:=ownsRow_succ hown4;have hg8:w.grownBy w8 none:=yab (yaa HG6.out _) hgrow (fun j hj=>.inr (yeJ hown2 hj));go_wp2_with fail
    go_roundw
    case rel=>exact ⟨k + 1,by go_num,by omega,by rw [HNX.out,if_pos rfl];simpa using hown4,hg8⟩
    case measure=>simp [intOf];omega
   | false =>
    go_wp2_with fail
    go_roundw
    case rel=>exact ⟨k + 1,by go_num,by omega,by rw [HNX.out,if_neg (by simp)];exact hown2,HG6.out⟩
    case measure=>simp [intOf];omega
  ·obtain rfl:k = n:=by omega
   have ht:ls.take k = ls:=jtl (by have:=HL.out;omega);rw [ht] at hown;have hfin:decide ((k:Int) < (k:Int)) = false:=by simp
   rw [ht];have HOW:=jh hown;clear hown hg ht;go_wp2_with fail
   go_ret
   exact ⟨_,rfl,HOW.out,HGG.out⟩
def BkV.none_:BkV:=⟨false,[]⟩
def BksR (B:Nat) (W:World) (bs:List BkV) (A:Option Addr) (n:Nat):Prop :=
 bs.length = n /\ (0 < n -> ∃ g off,A = some ⟨g,off,none⟩ /\ g < B /\ ∀ i,i < n -> ∃ T m tc,W.cell? ⟨g,off + i * 2,none⟩ = some (.bool (bs.getD i BkV.none_).origin) /\ W.cell? ⟨g,off + i * 2 + 1,none⟩ = some (.slice T m tc) /\ TxsR B W (bs.getD i BkV.none_).txs T m)
theorem BksR.grown {B:Nat} {W W':World} {bs:List BkV} {A:Option Addr} {n:Nat} (h:BksR B W bs A n) (hg:W.grownBy W' none) (hB:B <= W.heap.size):BksR B W' bs A n:=by
 refine ⟨h.1,fun h0=>?_⟩;obtain ⟨g,off,h1,h2,h3⟩:=h.2 h0;refine ⟨g,off,h1,h2,fun i hi=>?_⟩;obtain ⟨T,m,tc,a,b,c⟩:=h3 i hi;exact ⟨T,m,tc,hg.cell a (by simp),hg.cell b (by simp),c.grown hg hB⟩
def spC (s:SpV) (A:Option Addr) (n c:Nat):Array Value:=#[.int .u64 (s.time:Int),.int .u64 (s.epoch:Int),.string s.parent,.string s.hash,.slice A n c]
structure SpMem (D:Nat) (A:Option Addr) (rs:List (List (List Value))) (n:Nat) (W:World):Prop where
 len:rs.length = n
 at_:∀ i,i < n -> ∃ g off T tc o,A = some ⟨g,off,none⟩ /\ g < D /\ W.cell? ⟨g,off + i * 2,none⟩ = some (.bool o) /\ W.cell? ⟨g,off + i * 2 + 1,none⟩ = some (.slice T (rs.getD i []).length tc) /\
  ∀ k,k < (rs.getD i []).length -> ∃ g' off',T = some ⟨g',off',none⟩ /\ g' < D /\ W.rangeAt g' (off' + k * 36) ((rs.getD i []).getD k []) /\ ((rs.getD i []).getD k []).length = 36 /\ (((rs.getD i []).getD k []).toArray.all (·.oneCell')) = true
theorem SpMem.keep {D:Nat} {A:Option Addr} {rs:List (List (List Value))} {n:Nat} {W W':World} (h:SpMem D A rs n W) (hk:KeepS (fun j=>j < D) W W'):SpMem D A rs n W':=by
 refine ⟨h.len,fun i hi=>?_⟩;obtain ⟨g,off,T,tc,o,h1,h2,h3,h4,h5⟩:=h.at_ i hi;refine ⟨g,off,T,tc,o,h1,h2,(hk.cell (p:=⟨g,off + i * 2,none⟩) h2).trans h3,(hk.cell (p:=⟨g,off + i * 2 + 1,none⟩) h2).trans h4,fun k hk'=>?_⟩;obtain ⟨g',off',a,b,c,d,e⟩:=h5 k hk';exact ⟨g',off',a,b,fun j v hv=>(hk.cell (p:=⟨g',off' + k * 36 + j,none⟩) b).trans (c j v hv),d,e⟩
def offS (rs:List (List (List Value))) (i:Nat):Nat:=(rs.take i).flatten.length
theorem yp3 (rs:List (List (List Value))):offS rs 0 = 0:=rfl
theorem yf1 (rs:List (List (List Value))) (i:Nat) (hi:i < rs.length):offS rs (i + 1) = offS rs i + (rs.getD i []).length:=by
 unfold offS;rw [jtk hi,List.flatten_append,jla,jg,je hi]
 simp
theorem yeX (rs:List (List (List Value))):offS rs rs.length = rs.flatten.length:=by unfold offS;rw [List.take_length]
theorem ym2 (rs:List (List (List Value))) (i k:Nat) (hi:i < rs.length) (hk:k < (rs.getD i []).length):rs.flatten[offS rs i + k]? = some ((rs.getD i []).getD k []):=by
 have e:rs = rs.take i ++ rs.getD i [] :: rs.drop (i + 1):=by
  rw [jg,je hi,Option.getD_some,<- jdc hi,jd0]
 have e2:rs.flatten = (rs.take i).flatten ++ (rs.getD i [] ++ (rs.drop (i + 1)).flatten):=by
  conv=>lhs;rw [e]
  rw [List.flatten_append,List.flatten_cons]
 rw [e2,offS,jar (by omega),jc3,jal hk,je hk];exact congrArg some (by rw [jg (l:=rs.getD i []),je hk];rfl)
theorem yoK (rs:List (List (List Value))) (i k:Nat) (hi:i < rs.length) (hk:k < (rs.getD i []).length):offS rs i + k < rs.flatten.length:=by
 rcases Nat.lt_or_ge (offS rs i + k) rs.flatten.length with h | h
 ·exact h
 ·have:=ym2 rs i k hi hk;rw [jc5 h] at this;cases this
section
variable {F:Fence} {n:Nat} {P:Program} {ops:Array Oper} {Q:Exit -> Act -> World -> Prop} {a:Act} {w w':World} {rest:List Oper} {op:Oper}
theorem ykb {n id:Nat} {Q:Exit -> Act -> World -> Prop} {a:Act} {w:World} {l:List Oper} (h:wpList P l.toArray Q l a w):(Code.region id l.toArray false).wpIn Fence.wide n P Q a w:=wpIn_wide.2 (wp_region_lit h)
structure yqm (p:Prop):Prop where
 out:p
theorem ydn {p:Prop} (h:yqm p):p:=h.out
theorem ydm (hgd:op.guard = none) (v:Value) (hf:op.about P w a.eval = none) (hd:∀ c,op.op ≠ .defer c) (h:(execOp a.eval op).run P w = .ok (.value v) w') (hk:wpListIn F n P ops Q rest (a.put op.dst v) w'):wpListIn F n P ops Q (op :: rest) a w :=
 wpListIn_plain hgd fun K hK=>by
  unfold Oper.wpIn;refine ⟨fun f hh=>(by rw [hf] at hh;cases hh),?_⟩;rw [Oper.semAt_eq _ _ _ hd,h];exact hK _ _ hk
end
theorem ynX (N:Nat) (hN:1 <= N) (l Bs:Nat) (A:Option Addr) (n c D:Nat) (rs:List (List (List Value))) (fl:List (List Value)) (hfl:rs.flatten = fl) (J Jx:List (Fin fl.length) -> World -> Prop) (W:World) (hD:D <= W.heap.size) (hBD:Bs < D) (hn:n <= 9223372036854775807) (hm:∀ r ∈ rs,r.length <= 9223372036854775807) (hJ:AbidesFrom W.heap.size J)
  (hM:SpMem D A rs n W) (hBs:W.cell? ⟨Bs,4,none⟩ = some (.slice A n c))
  (hY:∀ pre x W1,J pre W1 -> pre.length < fl.length -> YieldAt Fence.wide (N - 1) jq l #[.agg (fl[x.val]).toArray] W1 fun e W' =>
   (e = .returned (.bool true) /\ J (pre ++ [x]) W' /\ KeepS (fun j=>j < D) W1 W') \/ (e = .returned (.bool false) /\ Jx (pre ++ [x]) W')) (h0:J [] W) :
  CallsIn Fence.wide N jq 97 #[.func (.yield l) #[] #[],.pointer (some ⟨Bs,0,none⟩)] W fun e W'=>(∃ v,e = .returned v) /\
   ((∃ ys,ys = ja4 fl.length /\ J ys W') \/ (∃ pre,pre <+: ja4 fl.length /\ Jx pre W')):=by
 have hg0:∀ s V V',W.heap.size <= V.heap.size -> J s V -> V.grownBy V' none -> J s V':=fun s V V' _ hs hg=>hJ s V V' none hs hg (fun r e=>by cases e);refine callsIn_of_wp Tryz.func97 rfl trivial ?_ rfl;simp only [Tryz.ntmps97,jd5,jlc,List.length_nil,Nat.reduceAdd,Nat.reduceSub,Array.replicate_succ,Array.replicate_zero,List.push_toArray,List.append_toArray,List.nil_append,jc9];have HL:=jh hM.len;gi_wp2
 gi_loopw [10] (fun i wr=>∃ k:Nat,i = .int .i64 (k:Int) /\ k <= n /\ J ((ja4 fl.length).take (offS rs k)) wr /\ KeepS (fun j=>j < D) W wr) (fun i _=>n - (intOf i).toNat)
 case atStart=>exact ⟨0,rfl,by omega,by rw [yp3];exact h0,KeepS.refl _ _⟩
 case round =>
  obtain ⟨k,rfl,hk,hJk,hK⟩:=hrel;by_cases hlt:k < n
  ·have hkr:k < rs.length:=by rw [hM.len];exact hlt
   obtain ⟨g,off,T,tc,o,rfl,hgD,hc0,hc1,hrow⟩:=hM.at_ k hlt;have c0:=(hK.cell (p:=⟨g,off + k * 2,none⟩) hgD).trans hc0;have c1:=(hK.cell (p:=⟨g,off + k * 2 + 1,none⟩) hgD).trans hc1;obtain ⟨m,hmm⟩:∃ m,(rs.getD k []).length = m:=⟨_,rfl⟩
   have hmb:m <= 9223372036854775807:=by
    rw [<- hmm];exact hm _ (by rw [jg,je hkr];exact jc1 hkr)
   have hsucc:offS rs (k + 1) = offS rs k + m:=by rw [yf1 rs k hkr,hmm]
   have hin:∀ j,j < m -> offS rs k + j < fl.length:=fun j hj=>by rw [<- hfl];exact yoK rs k j hkr (by rw [hmm];exact hj)
   have hfa:∀ j (hj:j < m),fl[offS rs k + j]? = some ((rs.getD k []).getD j []):=fun j hj=>by rw [<- hfl];exact ym2 rs k j hkr (by rw [hmm];exact hj)
   rw [hmm] at c1 hrow;have q1:(k:Int) < (n:Int):=by omega
   have HC1:=jh c1;have HROW:=jh hrow;have HSU:=jh hsucc;have HIN:=jh hin;have HFL:=jh hfa;have HMM:=jh hmm;have HMB:=jh hmb;have HSZ:=jh hK.size;have hga:=yaa (jr wr none) (.cells #[.bool o,.slice T m tc] 41);have hbk:=Blk.new wr 41 #[.bool o,.slice T m tc];have HJ1:=jh (hg0 _ _ _ hK.size hJk hga);have HK1:=jh (hK.trans (KeepS.of_below (B:=wr.heap.size) (yaE hga) (fun j hj=>by have:=hK.size;omega)));have HBK:=jh hbk;clear hc0 hc1 hrow hmm hmb hsucc hin hfa hga hbk hJk hK hkr;gi_wp2
   generalize wr.alloc (.cells #[.bool o,.slice T m tc] 41) = wb at *;gi_loopw [17] (fun i w2=>∃ j:Nat,i = .int .i64 (j:Int) /\ j <= m /\ J ((ja4 fl.length).take (offS rs k + j)) w2 /\ KeepS (fun j=>j < D) W w2) (fun i _=>m - (intOf i).toNat)
   case atStart=>exact ⟨0,rfl,by omega,HJ1.out,HK1.out⟩
   case round =>
    obtain ⟨j,rfl,hj,hJj,hK2⟩:=hrel;by_cases hjl:j < m
    ·obtain ⟨g',off',rfl,hg',hra,h36,hone⟩:=HROW.out j hjl;obtain ⟨cl,hcl⟩:∃ x,(rs.getD k []).getD j [] = x:=⟨_,rfl⟩;have hfj:=HFL.out j hjl;have hpj:=HIN.out j hjl;rw [hcl] at hra h36 hone hfj;have hrb:wr.rangeAt g' (off' + j * 36) cl:=fun i v hv=>(hK2.cell (p:=⟨g',off' + j * 36 + i,none⟩) hg').trans (hra i v hv);have hga:=yaa (jr wr none) (.cells cl.toArray 49);have hbk:=Blk.new wr 49 cl.toArray;have hJ3:=hg0 _ _ _ hK2.size hJj hga;have hK3:=hK2.trans (KeepS.of_below (B:=wr.heap.size) (yaE hga) (fun j hj=>by have:=hK2.size;omega));obtain ⟨fn,tmps,assign,body,hy,hR⟩:=hY _ ⟨offS rs k + j,hpj⟩ _ hJ3 (by rw [jc0,List.length_finRange];omega)
     have htk:(ja4 fl.length).take (offS rs k + j) ++ [⟨offS rs k + j,hpj⟩] = (ja4 fl.length).take (offS rs k + (j + 1)):=by
      rw [<- Nat.add_assoc,jtk (by rw [List.length_finRange];exact hpj),List.getElem_finRange];rfl
     rw [htk] at hR;have hel:fl[offS rs k + j]'hpj = cl:=ji ((je hpj).symm.trans hfj);dsimp only at hy;rw [hel] at hy;have q2:(j:Int) < (m:Int):=by omega
     have HJL:=jh hjl;have HZ:=jh (show cl.toArray.size = 36 by simpa using h36);have HR:=jh hR;have HY:=jh hy;have HRB:=jh hrb;have HON:=jh hone;have HBK3:=jh hbk;have HK3:=jh hK3;clear hra h36 hone hfj hcl hga hbk hJ3 hK3 hy hR htk hel hJj hK2 hrb
     repeat (first | refine ykb (id:=5) (ydn ?_) | gi_step)
     refine ⟨?_⟩
     iterate 3 go_step
     refine yac rfl (.agg cl.toArray) (ycr rfl rfl cl HRB.out _ ja5 rfl ((show (jq.info? 49).map (·.size) = some 36 by kernel_rfl).trans (congrArg some (by have:=HZ.out;simpa using this.symm)))) ?_;simp only [jp,jb,jz,js]
     iterate 3 go_step
     refine jsw rfl 49 (.tmp 6) (.tmp 20) rfl wr.heap.size cl.toArray rfl rfl 49 txZ (Blk.new wr _ txZ) ((show (jq.info? 49).map (·.size) = some 36 by kernel_rfl).trans (congrArg some HZ.out.symm)) (by rw [HZ.out];rfl) HON.out ?_;refine jwn ?_;rw [World.setRow_alloc_new];generalize wr.alloc (.cells cl.toArray 49) = w3 at *
     repeat (first | refine wpIn_region_list (id:=6) (ydn ?_) | gi_step)
     refine ⟨?_⟩;simp only [jp,jb,jz,js];refine ydm rfl (.func (.yield l) #[] #[]) rfl (by intro c h;cases h) (yaq (.tmp 0) rfl _ rfl) ?_;simp only [jp,jb,jz,js];refine ydm rfl (.agg cl.toArray) rfl (by intro c h;cases h) (yai rfl rfl 49 _ _ HBK3.out ja5 rfl ((show (jq.info? 49).map (·.size) = some 36 by kernel_rfl).trans (congrArg some HZ.out.symm))) ?_;simp only [jp,jb,jz,js];have hy:=HY.out;gi_wp2
     refine HR.out.mono ?_;clear hy HY HR;rintro e' W3 (⟨rfl,hJ3,hk3⟩ | ⟨rfl,hJx3⟩)
     ·have HK4:=jh (HK3.out.trans hk3);have HJ4:=jh hJ3;clear hJ3 hk3 HK3 HBK3 HRB HON;have hwj:wrap64 ((j:Int) + 1) = ((j + 1:Nat):Int):=IntWalk.wrap64_in _ (by have:=HMB.out;have:=HJL.out;omega);have HWJ:=jh hwj;clear hwj;gi_wp2
      go_roundw
      case rel=>exact ⟨j + 1,by rw [HWJ.out],by have:=HJL.out;omega,HJ4.out,HK4.out⟩
      case measure=>have:=HJL.out;simp only [HWJ.out];simp [intOf];omega
     ·have HJX:=jh hJx3;clear hJx3 HK3 HBK3 HRB HON;gi_wp2
      refine jbr (results_none rfl _ _ _) rfl ?_;exact ⟨⟨_,rfl⟩,.inr ⟨_,List.take_prefix _ _,HJX.out⟩⟩
    ·have hjm:j = m:=by omega
     have d1:decide ((j:Int) < (m:Int)) = false:=by simp;omega
     have d2:decide (j < m) = false:=by simp;omega
     rw [hjm,<- HSU.out] at hJj;have HJ4:=jh hJj;have HK4:=jh hK2;have HLT:=jh hlt;clear hJj hK2 hjm;have hwk:wrap64 ((k:Int) + 1) = ((k + 1:Nat):Int):=IntWalk.wrap64_in _ (by have:=HLT.out;omega);have HWK:=jh hwk;clear hwk;gi_wp2
     go_roundw
     case rel=>exact ⟨k + 1,by simp,by have:=HLT.out;omega,HJ4.out,HK4.out⟩
     case measure=>have:=HLT.out;simp [intOf];omega
  ·have hkn:k = n:=by omega
   have htk:(ja4 fl.length).take (offS rs k) = ja4 fl.length:=jtl (by rw [hkn,<- HL.out,yeX,hfl,List.length_finRange];exact jle _);rw [htk] at hJk;have d1:decide ((k:Int) < (n:Int)) = false:=by simp;omega
   have d2:decide (k < n) = false:=by simp;omega
   gi_wp2
   go_end0
   exact ⟨⟨_,rfl⟩,.inl ⟨_,rfl,hJk⟩⟩
end Go.Proofs.YtmaggfokhlodnaaGreatDoor
