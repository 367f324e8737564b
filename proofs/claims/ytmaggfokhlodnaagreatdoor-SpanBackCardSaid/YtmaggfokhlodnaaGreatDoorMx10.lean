/- Merged: CoM, CoN, CoO, RlpL, UnrR, UnrS0, TSame, UnrU, UnlA0, UnlA, CgU, CgJ3, CgK0. -/
import Derived.Test.YtmaggfokhlodnaaGreatDoorMx1
import Derived.Test.YtmaggfokhlodnaaGreatDoorMx2
import Derived.Test.YtmaggfokhlodnaaGreatDoorMx4
import Derived.Test.YtmaggfokhlodnaaGreatDoorMx5
import Derived.Test.YtmaggfokhlodnaaGreatDoorMx6
import Derived.Test.YtmaggfokhlodnaaGreatDoorMx7
import Derived.Test.YtmaggfokhlodnaaGreatDoorMx8
import Derived.Test.YtmaggfokhlodnaaGreatDoorMx9
namespace Go.Proofs.YtmaggfokhlodnaaGreatDoor
open Go.RowKit Go.Shelf
open List renaming set_cons_zero → jz, set_cons_succ → js, setIfInBounds_toArray → jb
set_option linter.unusedVariables false
set_option linter.unusedSimpArgs false
set_option maxRecDepth 100000
set_option maxHeartbeats 16000000
open Lib renaming hid → jh
open Act renaming put → jp
open World.grownBy renaming refl → jr
open _root_.List renaming getD_eq_getElem?_getD → jg, getElem?_eq_getElem → je, length_append → jla, getElem?_append_left → jal, take_of_length_le → jtl, drop_eq_getElem_cons → jdc, length_cons → jlc, getElem?_take_of_lt → ja9, eq_nil_of_length_eq_zero → jb7, length_take → jc0, getElem?_eq_some_iff → jc6, cons_append → jc9, size_toArray → jd5
open _root_.Int renaming toNat_natCast → jnc
open World renaming size_alloc → jsa
open _root_.Nat renaming le_trans → jlt, le_refl → jle, lt_of_lt_of_le → jb6, zero_add → je1
open _root_.Go.Proofs.Tryz renaming prog → jq, underlying49 → ja5
open Go renaming wp_region_list → jwl
open _root_.Go.Proofs renaming enters_of → jeo
open _root_.Array renaming length_toList → jb0
open _root_.Classical renaming not_not → jb5
open Below renaming refl → jd1
def yfq (f:FuncId) (args:TxV -> Value) (B:Nat) (ls:List TxV):Prop:=∀ x ∈ ls,∀ sa sb (V:World),TxIn B V x sa sb -> B <= V.heap.size -> Calls jq f #[.agg (txC x sa sb)] V fun e w'=>e = .returned (args x) /\ V.grownBy w' none
theorem ylz (B:Nat) (ls:List TxV):yfq 47 (fun x=>.tuple #[.bool (decide (x.dst.size = 0)),.bool true]) B ls:=by
 intro x mx sa sb w h hB;obtain ⟨⟨pa,xa,rfl,hacc⟩,⟨pb,xb,rfl,haut⟩,la,lb⟩:=h;obtain ⟨na,hna⟩:∃ n,x.acc.length = n:=⟨_,rfl⟩;obtain ⟨nb,hnb⟩:∃ n,x.auths.length = n:=⟨_,rfl⟩;rw [hna] at hacc la ⊢;rw [hnb] at haut lb ⊢;have hG:=yaa (jr w none) (.cells (txC x (.slice pa na xa) (.slice pb nb xb)) 49);have hb:=Blk.new w 49 (txC x (.slice pa na xa) (.slice pb nb xb));have z:(txC x (.slice pa na xa) (.slice pb nb xb))[12]? = some (.string x.dst):=rfl;have e3:(x.dst.toList == []) = decide (x.dst.size = 0):=ygR x.dst;have e3i:x.dst.toList.isEmpty = decide (x.dst.size = 0):=by rw [<- ygR x.dst];cases x.dst.toList <;> rfl
 show Calls _ _ _ _ fun e w'=>e = .returned (.tuple #[.bool (decide (x.dst.size = 0)),.bool true]) /\ w.grownBy w' none;obtain ⟨dst,hd⟩:∃ d,x.dst = d:=⟨_,rfl⟩;rw [hd] at z e3 e3i ⊢;obtain ⟨d0,hd0⟩:∃ d0,decide (dst.size = 0) = d0:=⟨_,rfl⟩;rw [hd0] at e3 e3i ⊢;clear hd hd0;generalize (txC x (.slice pa na xa) (.slice pb nb xb)) = ct at *;clear hacc haut la lb hB mx hna hnb;go_enter Tryz.func47,Tryz.ntmps47
 go_upto_region 1 with (fail)
 obtain ⟨g,hg⟩:∃ g,w.heap.size = g:=⟨_,rfl⟩;rw [hg] at hb ⊢;clear hg;have HG:=jh hG;clear hG;generalize w.alloc (.cells ct 49) = w1 at *;have c:=(hb.cell 12).trans z;clear hb z;cases d0 <;>
 (go_wp2_with fail
  go_ret2
  exact ⟨rfl,HG.out⟩)
theorem yly (B:Nat) (ls:List TxV):yfq 49 (fun x=>.tuple #[.bool (decide (x.y = 1)),.bool true]) B ls:=by
 intro x mx sa sb w h hB;obtain ⟨⟨pa,xa,rfl,hacc⟩,⟨pb,xb,rfl,haut⟩,la,lb⟩:=h;obtain ⟨na,hna⟩:∃ n,x.acc.length = n:=⟨_,rfl⟩;obtain ⟨nb,hnb⟩:∃ n,x.auths.length = n:=⟨_,rfl⟩;rw [hna] at hacc la ⊢;rw [hnb] at haut lb ⊢;have hG:=yaa (jr w none) (.cells (txC x (.slice pa na xa) (.slice pb nb xb)) 49);have hb:=Blk.new w 49 (txC x (.slice pa na xa) (.slice pb nb xb));have z:(txC x (.slice pa na xa) (.slice pb nb xb))[20]? = some (.int .u64 (x.y:Int)):=rfl;have e3:((x.y:Int) == 1) = decide (x.y = 1):=yiz x.y 1;show Calls _ _ _ _ fun e w'=>e = .returned (.tuple #[.bool (decide (x.y = 1)),.bool true]) /\ w.grownBy w' none;obtain ⟨y,hd⟩:∃ d,x.y = d:=⟨_,rfl⟩;rw [hd] at z e3 ⊢;obtain ⟨d0,hd0⟩:∃ d0,decide (y = 1) = d0:=⟨_,rfl⟩;rw [hd0] at e3 ⊢;clear hd hd0;generalize (txC x (.slice pa na xa) (.slice pb nb xb)) = ct at *;clear hacc haut la lb hB mx hna hnb;go_enter Tryz.func49,Tryz.ntmps49
 go_upto_region 1 with (fail)
 obtain ⟨g,hg⟩:∃ g,w.heap.size = g:=⟨_,rfl⟩;rw [hg] at hb ⊢;clear hg;have HG:=jh hG;clear hG;generalize w.alloc (.cells ct 49) = w1 at *;have c:=(hb.cell 20).trans z;clear hb z;cases d0 <;>
 (go_wp2_with fail
  go_ret2
  exact ⟨rfl,HG.out⟩)
theorem ylw (B:Nat) (ls:List TxV):yfq 54 (fun x=>.tuple #[.string x.dst,.bool true]) B ls:=by
 intro x mx sa sb w h hB;obtain ⟨⟨pa,xa,rfl,hacc⟩,⟨pb,xb,rfl,haut⟩,la,lb⟩:=h;obtain ⟨na,hna⟩:∃ n,x.acc.length = n:=⟨_,rfl⟩;obtain ⟨nb,hnb⟩:∃ n,x.auths.length = n:=⟨_,rfl⟩;rw [hna] at hacc la ⊢;rw [hnb] at haut lb ⊢;have hG:=yaa (jr w none) (.cells (txC x (.slice pa na xa) (.slice pb nb xb)) 49);have hb:=Blk.new w 49 (txC x (.slice pa na xa) (.slice pb nb xb));have z:(txC x (.slice pa na xa) (.slice pb nb xb))[12]? = some (.string x.dst):=rfl;show Calls _ _ _ _ fun e w'=>e = .returned (.tuple #[.string x.dst,.bool true]) /\ w.grownBy w' none;generalize x.dst = d at *;generalize (txC x (.slice pa na xa) (.slice pb nb xb)) = ct at *;clear hacc haut la lb hB mx hna hnb;go_enter Tryz.func54,Tryz.ntmps54
 go_upto_region 1 with (fail)
 obtain ⟨g,hg⟩:∃ g,w.heap.size = g:=⟨_,rfl⟩;rw [hg] at hb ⊢;clear hg;have HG:=jh hG;clear hG;generalize w.alloc (.cells ct 49) = w1 at *;have c:=(hb.cell 12).trans z;clear hb z;go_wp2_with fail
 go_ret2
 exact ⟨rfl,HG.out⟩
theorem ylu (B:Nat) (ls:List TxV):yfq 59 (fun x=>.tuple #[.int .u64 (x.nonce:Int),.bool true]) B ls:=by
 intro x mx sa sb w h hB;obtain ⟨⟨pa,xa,rfl,hacc⟩,⟨pb,xb,rfl,haut⟩,la,lb⟩:=h;obtain ⟨na,hna⟩:∃ n,x.acc.length = n:=⟨_,rfl⟩;obtain ⟨nb,hnb⟩:∃ n,x.auths.length = n:=⟨_,rfl⟩;rw [hna] at hacc la ⊢;rw [hnb] at haut lb ⊢;have hG:=yaa (jr w none) (.cells (txC x (.slice pa na xa) (.slice pb nb xb)) 49);have hb:=Blk.new w 49 (txC x (.slice pa na xa) (.slice pb nb xb));have z:(txC x (.slice pa na xa) (.slice pb nb xb))[2]? = some (.int .u64 (x.nonce:Int)):=rfl;show Calls _ _ _ _ fun e w'=>e = .returned (.tuple #[.int .u64 (x.nonce:Int),.bool true]) /\ w.grownBy w' none;generalize x.nonce = d at *;generalize (txC x (.slice pa na xa) (.slice pb nb xb)) = ct at *;clear hacc haut la lb hB mx hna hnb;go_enter Tryz.func59,Tryz.ntmps59
 go_upto_region 1 with (fail)
 obtain ⟨g,hg⟩:∃ g,w.heap.size = g:=⟨_,rfl⟩;rw [hg] at hb ⊢;clear hg;have HG:=jh hG;clear hG;generalize w.alloc (.cells ct 49) = w1 at *;have c:=(hb.cell 2).trans z;clear hb z;go_wp2_with fail
 go_ret2
 exact ⟨rfl,HG.out⟩
theorem ykk (B:Nat) (ls:List TxV):yfq 61 (fun x=>.tuple #[.int .u64 (x.gas:Int),.bool true]) B ls:=by
 intro x mx sa sb w h hB;obtain ⟨⟨pa,xa,rfl,hacc⟩,⟨pb,xb,rfl,haut⟩,la,lb⟩:=h;obtain ⟨na,hna⟩:∃ n,x.acc.length = n:=⟨_,rfl⟩;obtain ⟨nb,hnb⟩:∃ n,x.auths.length = n:=⟨_,rfl⟩;rw [hna] at hacc la ⊢;rw [hnb] at haut lb ⊢;have hG:=yaa (jr w none) (.cells (txC x (.slice pa na xa) (.slice pb nb xb)) 49);have hb:=Blk.new w 49 (txC x (.slice pa na xa) (.slice pb nb xb));have z:(txC x (.slice pa na xa) (.slice pb nb xb))[11]? = some (.int .u64 (x.gas:Int)):=rfl;show Calls _ _ _ _ fun e w'=>e = .returned (.tuple #[.int .u64 (x.gas:Int),.bool true]) /\ w.grownBy w' none;generalize x.gas = d at *;generalize (txC x (.slice pa na xa) (.slice pb nb xb)) = ct at *;clear hacc haut la lb hB mx hna hnb;go_enter Tryz.func61,Tryz.ntmps61
 go_upto_region 1 with (fail)
 obtain ⟨g,hg⟩:∃ g,w.heap.size = g:=⟨_,rfl⟩;rw [hg] at hb ⊢;clear hg;have HG:=jh hG;clear hG;generalize w.alloc (.cells ct 49) = w1 at *;have c:=(hb.cell 11).trans z;clear hb z;go_wp2_with fail
 go_ret2
 exact ⟨rfl,HG.out⟩
theorem ykj (B:Nat) (ls:List TxV):yfq 63 (fun x=>.tuple #[.bool (decide (x.chain ≠ 0)),.bool (decide (x.kind = 0))]) B ls:=by
 intro x mx sa sb w h hB;obtain ⟨⟨pa,xa,rfl,hacc⟩,⟨pb,xb,rfl,haut⟩,la,lb⟩:=h;obtain ⟨na,hna⟩:∃ n,x.acc.length = n:=⟨_,rfl⟩;obtain ⟨nb,hnb⟩:∃ n,x.auths.length = n:=⟨_,rfl⟩;rw [hna] at hacc la ⊢;rw [hnb] at haut lb ⊢;have hG:=yaa (jr w none) (.cells (txC x (.slice pa na xa) (.slice pb nb xb)) 49);have hb:=Blk.new w 49 (txC x (.slice pa na xa) (.slice pb nb xb));have z0:(txC x (.slice pa na xa) (.slice pb nb xb))[0]? = some (.int .i64 x.kind):=rfl;have z1:(txC x (.slice pa na xa) (.slice pb nb xb))[1]? = some (.int .u64 (x.chain:Int)):=rfl;have e1:((x.chain:Int) != 0) = decide (x.chain ≠ 0):=by by_cases hh:x.chain = 0 <;> simp [hh]
 have e2:(x.kind == 0) = decide (x.kind = 0):=by by_cases hh:x.kind = 0 <;> simp [hh]
 show Calls _ _ _ _ fun e w'=>e = .returned (.tuple #[.bool (decide (x.chain ≠ 0)),.bool (decide (x.kind = 0))]) /\ w.grownBy w' none;obtain ⟨ch,hch⟩:∃ d,x.chain = d:=⟨_,rfl⟩;obtain ⟨kd,hkd⟩:∃ d,x.kind = d:=⟨_,rfl⟩;rw [hch] at z1 e1 ⊢;rw [hkd] at z0 e2 ⊢;obtain ⟨d1,hd1⟩:∃ d0,decide (ch ≠ 0) = d0:=⟨_,rfl⟩;obtain ⟨d2,hd2⟩:∃ d0,decide (kd = 0) = d0:=⟨_,rfl⟩;rw [hd1] at e1 ⊢;rw [hd2] at e2 ⊢;clear hch hkd hd1 hd2;generalize (txC x (.slice pa na xa) (.slice pb nb xb)) = ct at *;clear hacc haut la lb hB mx hna hnb;go_enter Tryz.func63,Tryz.ntmps63
 go_upto_region 1 with (fail)
 obtain ⟨g,hg⟩:∃ g,w.heap.size = g:=⟨_,rfl⟩;rw [hg] at hb ⊢;clear hg;have HG:=jh hG;clear hG;generalize w.alloc (.cells ct 49) = w1 at *;have c0:=(hb.cell 0).trans z0;have c1:=(hb.cell 1).trans z1;clear hb z0 z1;have HGD:=jh (fun q=>yab HG.out (yak (ybE (jd1 w1.heap.size w1) q)) (by simp));cases d1 <;> cases d2 <;>
 (go_quiet (fail)
  go_wp2_with fail
  go_ret2
  exact ⟨rfl,HGD.out _⟩)
def fixN (p:Nat):List UInt8:=fixL [wp p 0,wp p 1,wp p 2,wp p 3]
def sigT (x:TxV):ByteArray:=⟨(fixN x.r ++ fixN x.s).toArray⟩
theorem yfC (p:Nat) (w:World) :
  Calls jq 52 #[.agg #[.int .u64 (wp p 0:Nat),.int .u64 (wp p 1:Nat),.int .u64 (wp p 2:Nat),.int .u64 (wp p 3:Nat)]] w fun e w'=>e = .returned (.string ⟨(fixN p).toArray⟩) /\ w.grownBy w' none:=yil _ _ _ _ w
theorem ylx (B:Nat) (ls:List TxV):yfq 51 (fun x=>.tuple #[.string (sigT x),.bool true]) B ls:=by
 intro x mx sa sb w h hB;obtain ⟨⟨pa,xa,rfl,hacc⟩,⟨pb,xb,rfl,haut⟩,la,lb⟩:=h;obtain ⟨na,hna⟩:∃ n,x.acc.length = n:=⟨_,rfl⟩;obtain ⟨nb,hnb⟩:∃ n,x.auths.length = n:=⟨_,rfl⟩;rw [hna] at hacc la ⊢;rw [hnb] at haut lb ⊢;have hG:=yaa (jr w none) (.cells (txC x (.slice pa na xa) (.slice pb nb xb)) 49);have hb:=Blk.new w 49 (txC x (.slice pa na xa) (.slice pb nb xb));have zr0:(txC x (.slice pa na xa) (.slice pb nb xb))[21]? = some (.int .u64 (wp x.r 0:Nat)):=rfl;have zr1:(txC x (.slice pa na xa) (.slice pb nb xb))[22]? = some (.int .u64 (wp x.r 1:Nat)):=rfl;have zr2:(txC x (.slice pa na xa) (.slice pb nb xb))[23]? = some (.int .u64 (wp x.r 2:Nat)):=rfl;have zr3:(txC x (.slice pa na xa) (.slice pb nb xb))[24]? = some (.int .u64 (wp x.r 3:Nat)):=rfl;have zs0:(txC x (.slice pa na xa) (.slice pb nb xb))[25]? = some (.int .u64 (wp x.s 0:Nat)):=rfl;have zs1:(txC x (.slice pa na xa) (.slice pb nb xb))[26]? = some (.int .u64 (wp x.s 1:Nat)):=rfl;have zs2:(txC x (.slice pa na xa) (.slice pb nb xb))[27]? = some (.int .u64 (wp x.s 2:Nat)):=rfl;have zs3:(txC x (.slice pa na xa) (.slice pb nb xb))[28]? = some (.int .u64 (wp x.s 3:Nat)):=rfl;have hfr:=fun V=>yfC x.r V;have hfs:=fun V=>yfC x.s V;have hsg:sigT x = (⟨(fixN x.r).toArray⟩:ByteArray) ++ ⟨(fixN x.s).toArray⟩:=by rw [yoy];rfl
 have hlr:(fixN x.r).length = 32:=ydB _;have hls:(fixN x.s).length = 32:=ydB _;have hzr:(⟨(fixN x.r).toArray⟩:ByteArray).size = 32:=(ymV _).trans hlr;have hzs:(⟨(fixN x.s).toArray⟩:ByteArray).size = 32:=(ymV _).trans hls;show Calls _ _ _ _ fun e w'=>e = .returned (.tuple #[.string (sigT x),.bool true]) /\ w.grownBy w' none;rw [hsg];generalize (⟨(fixN x.r).toArray⟩:ByteArray) = p at *;generalize (⟨(fixN x.s).toArray⟩:ByteArray) = q at *;generalize x.r = r at *;generalize x.s = s at *;generalize (txC x (.slice pa na xa) (.slice pb nb xb)) = ct at *;have HFR:=jh hfr;have HFS:=jh hfs;have HZR:=jh hzr;have HZS:=jh hzs;clear hacc haut la lb hB mx hna hnb hfr hfs hsg hlr hls hzr hzs;go_enter Tryz.func51,Tryz.ntmps51
 go_upto_region 1 with (fail)
 obtain ⟨g,hg⟩:∃ g,w.heap.size = g:=⟨_,rfl⟩;rw [hg] at hb ⊢;clear hg;have HG:=jh hG;clear hG;have l1:=hb.lt;rw [show g = g from rfl] at *;generalize w.alloc (.cells ct 49) = w1 at *;have HB:=jh hb;clear hb;have hC0:(fun V=>Below w1.heap.size w1 V) w1.drew:=⟨rfl,rfl,rfl,jle _,fun _ _=>rfl⟩;refine ybK (fun V=>Below w1.heap.size w1 V) (by kernel_rfl) (by kernel_rfl) hC0 ?_;have hcc:=ydd hC0;(try simp only [jp])
 (repeat go_big_quiet_step (fail))
 refine yaB rfl (.agg #[.int .u64 (wp r 0:Nat),.int .u64 (wp r 1:Nat),.int .u64 (wp r 2:Nat),.int .u64 (wp r 3:Nat)]) (fun V hV=>ybp _ rfl rfl (((HB.out.below hV l1).cell 21).trans zr0) (((HB.out.below hV l1).cell 22).trans zr1) (((HB.out.below hV l1).cell 23).trans zr2) (((HB.out.below hV l1).cell 24).trans zr3)) ?_;simp only [jp,jb,jz,js];refine ybC (.string p) 52 #[.agg #[.int .u64 (wp r 0:Nat),.int .u64 (wp r 1:Nat),.int .u64 (wp r 2:Nat),.int .u64 (wp r 3:Nat)]] rfl (fun V=>yam _ (.tmp 5) _ rfl _ rfl (jeo Tryz.func52 (by kernel_rfl) rfl _ _)) (fun V hV=>HFR.out V) ?_;simp only [jp,jb,jz,js]
 (repeat go_big_quiet_step (fail))
 refine yaB rfl (.agg #[.int .u64 (wp s 0:Nat),.int .u64 (wp s 1:Nat),.int .u64 (wp s 2:Nat),.int .u64 (wp s 3:Nat)]) (fun V hV=>ybp _ rfl rfl (((HB.out.below hV l1).cell 25).trans zs0) (((HB.out.below hV l1).cell 26).trans zs1) (((HB.out.below hV l1).cell 27).trans zs2) (((HB.out.below hV l1).cell 28).trans zs3)) ?_;simp only [jp,jb,jz,js];refine ybC (.string q) 52 #[.agg #[.int .u64 (wp s 0:Nat),.int .u64 (wp s 1:Nat),.int .u64 (wp s 2:Nat),.int .u64 (wp s 3:Nat)]] rfl (fun V=>yam _ (.tmp 8) _ rfl _ rfl (jeo Tryz.func52 (by kernel_rfl) rfl _ _)) (fun V hV=>HFS.out V) ?_;simp only [jp,jb,jz,js];refine yaB rfl (.string (p ++ q)) (fun V hV=>yje _ _ (.tmp 6) (.tmp 9) rfl p q rfl rfl (by rw [HZR.out,HZS.out];decide)) ?_;simp only [jp,jb,jz,js]
 (repeat go_big_quiet_step (fail))
 refine wpQuiet_nil ?_;intro w3 hw3;have HG:=jh (yab HG.out (yak hw3) (by simp));clear hcc hC0 hw3;go_wp2_with fail
 go_ret2
 exact ⟨rfl,HG.out⟩
structure yjZ (x:TxV):Prop where
 ok:x.Ok
 kind:x.kind = 0 \/ x.kind = 1 \/ x.kind = 2
 acc:x.acc.length <= 16
 keys:∀ a ∈ x.acc,a.keys.length <= 1000
 wt:wtF (yb8 x) <= 1000000000
 len:(encB (yb8 x)).length <= 1000000000
def ycp (x:TxV):ByteArray:=⟨(ycj x).toArray⟩
theorem yks (x:TxV) (hx:yjZ x) (B:Nat) (pa:Option Addr) (na xa:Nat) (pb:Option Addr) (nb xb:Nat) (w:World) (hac:AccR B w x.acc pa na) (hB:B <= w.heap.size) (hna:na <= 16) :
  Calls jq 57 #[.agg (txC x (.slice pa na xa) (.slice pb nb xb))] w fun e w'=>e = .returned (.string (ycp x)) /\ w.grownBy w' none:=by
 obtain ⟨ok,kd,hacc,keys,wt,len⟩:=hx;exact ylE x B pa na xa pb nb xb w kd hac hB hna keys ok.value ok.tip ok.price wt len
theorem ylv (B:Nat) (ls:List TxV) (hR:∀ x ∈ ls,yjZ x):yfq 56 (fun x=>.tuple #[.string (ycp x),.bool true]) B ls:=by
 intro x mx sa sb w h hB;obtain ⟨⟨pa,xa,rfl,hacc⟩,⟨pb,xb,rfl,haut⟩,la,lb⟩:=h;obtain ⟨na,hna⟩:∃ n,x.acc.length = n:=⟨_,rfl⟩;obtain ⟨nb,hnb⟩:∃ n,x.auths.length = n:=⟨_,rfl⟩;rw [hna] at hacc la ⊢;rw [hnb] at haut lb ⊢;have hG:=yaa (jr w none) (.cells (txC x (.slice pa na xa) (.slice pb nb xb)) 49);have hb:=Blk.new w 49 (txC x (.slice pa na xa) (.slice pb nb xb));have hx:=hR x mx;have hac:=hacc.grown hG hB;have hcall:=fun V (hV:(w.alloc (.cells (txC x (.slice pa na xa) (.slice pb nb xb)) 49)).grownBy V none)=>yks x hx B pa na xa pb nb xb V (hac.grown hV (jlt hB hG.size)) (jlt (jlt hB hG.size) hV.size) (by rw [<- hna];exact hx.acc);have hsz:(txC x (.slice pa na xa) (.slice pb nb xb)).size = 36:=rfl;show Calls _ _ _ _ fun e w'=>e = .returned (.tuple #[.string (ycp x),.bool true]) /\ w.grownBy w' none;generalize ycp x = rt at *;generalize (txC x (.slice pa na xa) (.slice pb nb xb)) = ct at *;have HCALL:=jh hcall;have HSZ:=jh hsz;clear hacc haut la lb hB mx hna hnb hx hac hcall hsz;go_enter Tryz.func56,Tryz.ntmps56
 go_upto_region 1 with (fail)
 obtain ⟨g,hg⟩:∃ g,w.heap.size = g:=⟨_,rfl⟩;rw [hg] at hb ⊢;clear hg;have HG:=jh hG;clear hG;generalize w.alloc (.cells ct 49) = w1 at *;refine jwl ?_;refine yac rfl (.agg ct) (yai rfl rfl 49 ct _ hb ja5 rfl ((show (jq.info? 49).map (·.size) = some 36 by kernel_rfl).trans (congrArg some HSZ.out.symm))) ?_;simp only [jp,jb,jz,js];go_wp2_with fail
 refine (HCALL.out w1 (jr _ _)).mono ?_;rintro e w3 ⟨rfl,hg⟩;have HG:=jh (yab HG.out hg (by simp));clear hb hg;go_wp2_with fail
 go_ret2
 exact ⟨rfl,HG.out⟩
theorem yiH {w:World} {base:Nat} {e:TypeId} {n m c:Nat} {A:Option Addr} {xs:List Value} (h:w.ownsRow base e 1 (.slice A n c) m xs):n <= c:=by
 rcases h.2 with ⟨h1,_⟩ | ⟨g,cap,cur,hv,_,_,hn,_⟩
 ·injection h1 with _ h2 h3;omega
 ·injection hv with _ h2 h3;omega
theorem yf5 (f:FuncId) (vf:TxV -> Bool) (pf:TxV -> Bool) (hf:∀ (V:World) (v:Value),(callFunc f #[v]).run jq V = .ok (.enter f #[v]) V) (B:Nat) (A:Option Addr) (n c b:Nat) (ls:List TxV) (w:World) (h:TxsR B w ls A n) (hB:B <= w.heap.size) (hn:n <= 1000)
  (hbx:Boxed w b 39 (.slice A n c)) (hF:yfq f (fun x=>.tuple #[.bool (vf x),.bool (pf x)]) B ls) :
  Calls jq 40 #[.func (.func f) #[] #[],.pointer (some ⟨b,0,none⟩)] w fun e w'=>e = .returned (.string ⟨(yaT (colL vf pf ls)).toArray⟩) /\ w.grownBy w' none:=by
 have hcol:=yjl f vf pf hf B A n c ls w h hB (by omega) hF;have hlen:=ydD vf pf ls n;rw [jtl (by rw [h.1];exact jle _)] at hlen;have c0:=hbx.cell;obtain ⟨xs,hxs⟩:∃ xs,colL vf pf ls = xs:=⟨_,rfl⟩;rw [hxs] at hcol hlen ⊢;have HCOL:=jh hcol;have HLEN:=jh hlen;have HX:=jh hxs;clear hF h hB hcol hlen hxs hbx;go_enter Tryz.func40,Tryz.ntmps40
 go_wp2_with fail
 refine HCOL.out.mono ?_;rintro e w2 ⟨v,rfl,hown,hg⟩;obtain ⟨A',cc,rfl,hrd⟩:=ybv hown;have hcap:=yiH hown;have HRD:=jh hrd;have HG:=jh hg;have HCAP:=jh hcap;obtain ⟨m,hm⟩:∃ m,xs.length = m:=⟨_,rfl⟩;rw [hm] at HRD HLEN HCAP ⊢;clear hown hg hrd c0 hcap hm;go_wp2_with fail
 refine (yj7 _ A' m cc xs _ (jle _) HRD.out (by have:=HLEN.out;omega)).mono ?_;rintro e w3 ⟨rfl,hg⟩;have HG3:=jh (yab HG.out hg (by simp));clear hg;go_wp2_with fail
 go_ret
 exact ⟨rfl,HG3.out⟩
theorem yic (f:FuncId) (vf:TxV -> Int) (pf:TxV -> Bool) (hf:∀ (V:World) (v:Value),(callFunc f #[v]).run jq V = .ok (.enter f #[v]) V) (B:Nat) (A:Option Addr) (n c b:Nat) (ls:List TxV) (w:World) (h:TxsR B w ls A n) (hB:B <= w.heap.size) (hn:n <= 1000)
  (hbx:Boxed w b 39 (.slice A n c)) (hF:yfq f (fun x=>.tuple #[.int .u64 (vf x),.bool (pf x)]) B ls) (hw:∀ x ∈ ls,0 <= vf x /\ vf x <= 18446744073709551615) :
  Calls jq 42 #[.func (.func f) #[] #[],.pointer (some ⟨b,0,none⟩)] w fun e w'=>e = .returned (.string ⟨(rowL (colL vf pf ls)).toArray⟩) /\ w.grownBy w' none:=by
 have hcol:=yjk f vf pf hf B A n c ls w h hB (by omega) hF;have hlen:=ydD vf pf ls n;rw [jtl (by rw [h.1];exact jle _)] at hlen;have c0:=hbx.cell;obtain ⟨xs,hxs⟩:∃ xs,colL vf pf ls = xs:=⟨_,rfl⟩;rw [hxs] at hcol hlen ⊢;have HCOL:=jh hcol;have HLEN:=jh hlen;have HX:=jh hxs;clear hF h hB hcol hlen hxs hbx;go_enter Tryz.func42,Tryz.ntmps42
 go_wp2_with fail
 refine HCOL.out.mono ?_;rintro e w2 ⟨v,rfl,hown,hg⟩;obtain ⟨A',cc,rfl,hrd⟩:=ybv hown;have hcap:=yiH hown;have HRD:=jh hrd;have HG:=jh hg;have HCAP:=jh hcap;obtain ⟨m,hm⟩:∃ m,xs.length = m:=⟨_,rfl⟩;rw [hm] at HRD HLEN HCAP ⊢;clear hown hg hrd c0 hcap hm;go_wp2_with fail
 refine (ylB _ A' m cc xs _ (jle _) HRD.out (by rw [<- HX.out];intro x hx;unfold colL at hx;obtain ⟨t,ht,rfl⟩:=List.mem_map.1 hx;exact hw t (List.mem_filter.1 ht).1) (by have:=HLEN.out;omega)).mono ?_;rintro e w3 ⟨rfl,hg⟩;have HG3:=jh (yab HG.out (yak hg) (by simp));clear hg;go_wp2_with fail
 go_ret
 exact ⟨rfl,HG3.out⟩
theorem yf4 (f:FuncId) (vf:TxV -> ByteArray) (pf:TxV -> Bool) (hf:∀ (V:World) (v:Value),(callFunc f #[v]).run jq V = .ok (.enter f #[v]) V) (B:Nat) (A:Option Addr) (n c b:Nat) (ls:List TxV) (w:World) (h:TxsR B w ls A n) (hB:B <= w.heap.size) (hn:n <= 1000)
  (hbx:Boxed w b 39 (.slice A n c)) (hF:yfq f (fun x=>.tuple #[.string (vf x),.bool (pf x)]) B ls) (hlc:(catB (colL vf pf ls)).length <= 1000000000) :
  Calls jq 44 #[.func (.func f) #[] #[],.pointer (some ⟨b,0,none⟩)] w fun e w'=>e = .returned (.string ⟨(catB (colL vf pf ls)).toArray⟩) /\ w.grownBy w' none:=by
 have hcol:=yjj f vf pf hf B A n c ls w h hB (by omega) hF;have hlen:=ydD vf pf ls n;rw [jtl (by rw [h.1];exact jle _)] at hlen;have c0:=hbx.cell;obtain ⟨xs,hxs⟩:∃ xs,colL vf pf ls = xs:=⟨_,rfl⟩;rw [hxs] at hcol hlen ⊢;have HCOL:=jh hcol;have HLEN:=jh hlen;have HX:=jh hxs;clear hF h hB hcol hlen hxs hbx;go_enter Tryz.func44,Tryz.ntmps44
 go_wp2_with fail
 refine HCOL.out.mono ?_;rintro e w2 ⟨v,rfl,hown,hg⟩;obtain ⟨A',cc,rfl,hrd⟩:=ybv hown;have hcap:=yiH hown;have HRD:=jh hrd;have HG:=jh hg;have HCAP:=jh hcap;obtain ⟨m,hm⟩:∃ m,xs.length = m:=⟨_,rfl⟩;rw [hm] at HRD HLEN HCAP ⊢;clear hown hg hrd c0 hcap hm;go_wp2_with fail
 refine (yhb _ A' m cc xs _ (jle _) HRD.out (by have:=HLEN.out;omega) HCAP.out (by rw [<- HX.out];omega)).mono ?_;rintro e w3 ⟨rfl,hg⟩;have HG3:=jh (yab HG.out (yak hg) (by simp));clear hg;go_wp2_with fail
 go_ret
 exact ⟨rfl,HG3.out⟩
theorem yof (B:Nat) (A:Option Addr) (n c b p:Nat) (ls:List TxV) (w:World) (h:TxsR B w ls A n) (hB:B <= w.heap.size) (hn:n <= 1000) (hbx:Boxed w b 39 (.slice A n c)) (hp:Boxed w p 77 (.func (.func 40) #[] #[.pointer (some ⟨b,0,none⟩)])) :
  Calls jq 46 #[.pointer (some ⟨p,0,none⟩)] w fun e w'=>e = .returned (.string ⟨(yaT (colL (fun x:TxV=>decide (x.dst.size = 0)) (fun _=>true) ls)).toArray⟩) /\ w.grownBy w' none:=by
 have HC:=jh (yf5 47 (fun x=>decide (x.dst.size = 0)) (fun _=>true) (fun V v=>jeo Tryz.func47 (by kernel_rfl) rfl _ _) B A n c b ls w h hB hn hbx (ylz B ls));have c0:=hp.cell;obtain ⟨R,hR⟩:∃ R,yaT (colL (fun x:TxV=>decide (x.dst.size = 0)) (fun _=>true) ls) = R:=⟨_,rfl⟩;rw [hR] at HC ⊢;clear h hB hbx hp hR;go_enter Tryz.func46,Tryz.ntmps46
 go_wp2_with fail
 refine HC.out.mono ?_;rintro e w2 ⟨rfl,hg⟩;have HG:=jh hg;clear hg c0 HC;go_wp2_with fail
 go_ret
 exact ⟨rfl,HG.out⟩
theorem yoe (B:Nat) (A:Option Addr) (n c b p:Nat) (ls:List TxV) (w:World) (h:TxsR B w ls A n) (hB:B <= w.heap.size) (hn:n <= 1000) (hbx:Boxed w b 39 (.slice A n c)) (hp:Boxed w p 77 (.func (.func 40) #[] #[.pointer (some ⟨b,0,none⟩)])) :
  Calls jq 48 #[.pointer (some ⟨p,0,none⟩)] w fun e w'=>e = .returned (.string ⟨(yaT (colL (fun x:TxV=>decide (x.y = 1)) (fun _=>true) ls)).toArray⟩) /\ w.grownBy w' none:=by
 have HC:=jh (yf5 49 (fun x=>decide (x.y = 1)) (fun _=>true) (fun V v=>jeo Tryz.func49 (by kernel_rfl) rfl _ _) B A n c b ls w h hB hn hbx (yly B ls));have c0:=hp.cell;obtain ⟨R,hR⟩:∃ R,yaT (colL (fun x:TxV=>decide (x.y = 1)) (fun _=>true) ls) = R:=⟨_,rfl⟩;rw [hR] at HC ⊢;clear h hB hbx hp hR;go_enter Tryz.func48,Tryz.ntmps48
 go_wp2_with fail
 refine HC.out.mono ?_;rintro e w2 ⟨rfl,hg⟩;have HG:=jh hg;clear hg c0 HC;go_wp2_with fail
 go_ret
 exact ⟨rfl,HG.out⟩
theorem yod (B:Nat) (A:Option Addr) (n c b p:Nat) (ls:List TxV) (w:World) (h:TxsR B w ls A n) (hB:B <= w.heap.size) (hn:n <= 1000) (hbx:Boxed w b 39 (.slice A n c)) (hp:Boxed w p 83 (.func (.func 44) #[] #[.pointer (some ⟨b,0,none⟩)])) (hlc:(catB (colL sigT (fun _=>true) ls)).length <= 1000000000) :
  Calls jq 50 #[.pointer (some ⟨p,0,none⟩)] w fun e w'=>e = .returned (.string ⟨(catB (colL sigT (fun _=>true) ls)).toArray⟩) /\ w.grownBy w' none:=by
 have HC:=jh (yf4 51 sigT (fun _=>true) (fun V v=>jeo Tryz.func51 (by kernel_rfl) rfl _ _) B A n c b ls w h hB hn hbx (ylx B ls) hlc);have c0:=hp.cell;obtain ⟨R,hR⟩:∃ R,catB (colL sigT (fun _=>true) ls) = R:=⟨_,rfl⟩;rw [hR] at HC ⊢;clear h hB hbx hp hR;go_enter Tryz.func50,Tryz.ntmps50
 go_wp2_with fail
 refine HC.out.mono ?_;rintro e w2 ⟨rfl,hg⟩;have HG:=jh hg;clear hg c0 HC;go_wp2_with fail
 go_ret
 exact ⟨rfl,HG.out⟩
theorem yoc (B:Nat) (A:Option Addr) (n c b p:Nat) (ls:List TxV) (w:World) (h:TxsR B w ls A n) (hB:B <= w.heap.size) (hn:n <= 1000) (hbx:Boxed w b 39 (.slice A n c)) (hp:Boxed w p 83 (.func (.func 44) #[] #[.pointer (some ⟨b,0,none⟩)])) (hlc:(catB (colL (fun x:TxV=>x.dst) (fun _=>true) ls)).length <= 1000000000) :
  Calls jq 53 #[.pointer (some ⟨p,0,none⟩)] w fun e w'=>e = .returned (.string ⟨(catB (colL (fun x:TxV=>x.dst) (fun _=>true) ls)).toArray⟩) /\ w.grownBy w' none:=by
 have HC:=jh (yf4 54 (fun x=>x.dst) (fun _=>true) (fun V v=>jeo Tryz.func54 (by kernel_rfl) rfl _ _) B A n c b ls w h hB hn hbx (ylw B ls) hlc);have c0:=hp.cell;obtain ⟨R,hR⟩:∃ R,catB (colL (fun x:TxV=>x.dst) (fun _=>true) ls) = R:=⟨_,rfl⟩;rw [hR] at HC ⊢;clear h hB hbx hp hR;go_enter Tryz.func53,Tryz.ntmps53
 go_wp2_with fail
 refine HC.out.mono ?_;rintro e w2 ⟨rfl,hg⟩;have HG:=jh hg;clear hg c0 HC;go_wp2_with fail
 go_ret
 exact ⟨rfl,HG.out⟩
theorem yob (B:Nat) (A:Option Addr) (n c b p:Nat) (ls:List TxV) (w:World) (h:TxsR B w ls A n) (hB:B <= w.heap.size) (hn:n <= 1000) (hbx:Boxed w b 39 (.slice A n c)) (hp:Boxed w p 83 (.func (.func 44) #[] #[.pointer (some ⟨b,0,none⟩)])) (hRest:∀ x ∈ ls,yjZ x) (hlc:(catB (colL ycp (fun _=>true) ls)).length <= 1000000000) :
  Calls jq 55 #[.pointer (some ⟨p,0,none⟩)] w fun e w'=>e = .returned (.string ⟨(catB (colL ycp (fun _=>true) ls)).toArray⟩) /\ w.grownBy w' none:=by
 have HC:=jh (yf4 56 ycp (fun _=>true) (fun V v=>jeo Tryz.func56 (by kernel_rfl) rfl _ _) B A n c b ls w h hB hn hbx (ylv B ls hRest) hlc);have c0:=hp.cell;obtain ⟨R,hR⟩:∃ R,catB (colL ycp (fun _=>true) ls) = R:=⟨_,rfl⟩;rw [hR] at HC ⊢;clear h hB hbx hp hR;go_enter Tryz.func55,Tryz.ntmps55
 go_wp2_with fail
 refine HC.out.mono ?_;rintro e w2 ⟨rfl,hg⟩;have HG:=jh hg;clear hg c0 HC;go_wp2_with fail
 go_ret
 exact ⟨rfl,HG.out⟩
theorem yoa (B:Nat) (A:Option Addr) (n c b p:Nat) (ls:List TxV) (w:World) (h:TxsR B w ls A n) (hB:B <= w.heap.size) (hn:n <= 1000) (hbx:Boxed w b 39 (.slice A n c)) (hp:Boxed w p 80 (.func (.func 42) #[] #[.pointer (some ⟨b,0,none⟩)])) (hw:∀ x ∈ ls,x.Ok) :
  Calls jq 58 #[.pointer (some ⟨p,0,none⟩)] w fun e w'=>e = .returned (.string ⟨(rowL (colL (fun x:TxV=>(x.nonce:Int)) (fun _=>true) ls)).toArray⟩) /\ w.grownBy w' none:=by
 have HC:=jh (yic 59 (fun x=>(x.nonce:Int)) (fun _=>true) (fun V v=>jeo Tryz.func59 (by kernel_rfl) rfl _ _) B A n c b ls w h hB hn hbx (ylu B ls) (fun x hx=>by have:=(hw x hx).nonce;omega));have c0:=hp.cell;obtain ⟨R,hR⟩:∃ R,rowL (colL (fun x:TxV=>(x.nonce:Int)) (fun _=>true) ls) = R:=⟨_,rfl⟩;rw [hR] at HC ⊢;clear h hB hbx hp hR;go_enter Tryz.func58,Tryz.ntmps58
 go_wp2_with fail
 refine HC.out.mono ?_;rintro e w2 ⟨rfl,hg⟩;have HG:=jh hg;clear hg c0 HC;go_wp2_with fail
 go_ret
 exact ⟨rfl,HG.out⟩
theorem ymE (B:Nat) (A:Option Addr) (n c b p:Nat) (ls:List TxV) (w:World) (h:TxsR B w ls A n) (hB:B <= w.heap.size) (hn:n <= 1000) (hbx:Boxed w b 39 (.slice A n c)) (hp:Boxed w p 80 (.func (.func 42) #[] #[.pointer (some ⟨b,0,none⟩)])) (hw:∀ x ∈ ls,x.Ok) :
  Calls jq 60 #[.pointer (some ⟨p,0,none⟩)] w fun e w'=>e = .returned (.string ⟨(rowL (colL (fun x:TxV=>(x.gas:Int)) (fun _=>true) ls)).toArray⟩) /\ w.grownBy w' none:=by
 have HC:=jh (yic 61 (fun x=>(x.gas:Int)) (fun _=>true) (fun V v=>jeo Tryz.func61 (by kernel_rfl) rfl _ _) B A n c b ls w h hB hn hbx (ykk B ls) (fun x hx=>by have:=(hw x hx).gas;omega));have c0:=hp.cell;obtain ⟨R,hR⟩:∃ R,rowL (colL (fun x:TxV=>(x.gas:Int)) (fun _=>true) ls) = R:=⟨_,rfl⟩;rw [hR] at HC ⊢;clear h hB hbx hp hR;go_enter Tryz.func60,Tryz.ntmps60
 go_wp2_with fail
 refine HC.out.mono ?_;rintro e w2 ⟨rfl,hg⟩;have HG:=jh hg;clear hg c0 HC;go_wp2_with fail
 go_ret
 exact ⟨rfl,HG.out⟩
theorem ymD (B:Nat) (A:Option Addr) (n c b p:Nat) (ls:List TxV) (w:World) (h:TxsR B w ls A n) (hB:B <= w.heap.size) (hn:n <= 1000) (hbx:Boxed w b 39 (.slice A n c)) (hp:Boxed w p 77 (.func (.func 40) #[] #[.pointer (some ⟨b,0,none⟩)])) :
  Calls jq 62 #[.pointer (some ⟨p,0,none⟩)] w fun e w'=>e = .returned (.string ⟨(yaT (colL (fun x:TxV=>decide (x.chain ≠ 0)) (fun x:TxV=>decide (x.kind = 0)) ls)).toArray⟩) /\ w.grownBy w' none:=by
 have HC:=jh (yf5 63 (fun x=>decide (x.chain ≠ 0)) (fun x=>decide (x.kind = 0)) (fun V v=>jeo Tryz.func63 (by kernel_rfl) rfl _ _) B A n c b ls w h hB hn hbx (ykj B ls));have c0:=hp.cell;obtain ⟨R,hR⟩:∃ R,yaT (colL (fun x:TxV=>decide (x.chain ≠ 0)) (fun x:TxV=>decide (x.kind = 0)) ls) = R:=⟨_,rfl⟩;rw [hR] at HC ⊢;clear h hB hbx hp hR;go_enter Tryz.func62,Tryz.ntmps62
 go_wp2_with fail
 refine HC.out.mono ?_;rintro e w2 ⟨rfl,hg⟩;have HG:=jh hg;clear hg c0 HC;go_wp2_with fail
 go_ret
 exact ⟨rfl,HG.out⟩
def yfI (ls:List TxV):List ByteArray:=[⟨(yaT (colL (fun x:TxV=>decide (x.dst.size = 0)) (fun _=>true) ls)).toArray⟩,⟨(yaT (colL (fun x:TxV=>decide (x.y = 1)) (fun _=>true) ls)).toArray⟩,⟨(catB (colL sigT (fun _=>true) ls)).toArray⟩,⟨(catB (colL (fun x:TxV=>x.dst) (fun _=>true) ls)).toArray⟩,⟨(catB (colL ycp (fun _=>true) ls)).toArray⟩,⟨(rowL (colL (fun x:TxV=>(x.nonce:Int)) (fun _=>true) ls)).toArray⟩,⟨(rowL (colL (fun x:TxV=>(x.gas:Int)) (fun _=>true) ls)).toArray⟩,⟨(yaT (colL (fun x:TxV=>decide (x.chain ≠ 0)) (fun x:TxV=>decide (x.kind = 0)) ls)).toArray⟩]
def yd0 (ls:List TxV):List UInt8:=catB (yfI ls)
def ycZ (ls:List TxV) (chain:Nat):List UInt8:=if yaA ls chain = 0 then yd0 ls else []
structure ypN (ls:List TxV):Prop where
 rest:∀ x ∈ ls,yjZ x
 sizes:∀ s ∈ yfI ls,s.size <= 1000000000
theorem ybH {ys:List ByteArray} {k:Nat} (hk:k < ys.length):catB (ys.take (k + 1)) = catB (ys.take k) ++ (ys[k]).data.toList:=by
 unfold catB;rw [List.take_add_one,je hk,List.flatMap_append]
 simp
theorem ykW (B:Nat) (A:Option Addr) (n c:Nat) (ls:List TxV) (chain:Nat) (w:World) (h:TxsR B w ls A n) (hB:B <= w.heap.size) (hn:n <= 9223372036854775807) (ok:∀ t ∈ ls,t.Ok) (hco:yaA ls chain = 0 -> ypN ls) (hlen:yaA ls chain = 0 -> ls.length <= 512) :
  Calls jq 18 #[.slice A n c,.int .u64 (chain:Int)] w fun e w'=>e = .returned (.tuple #[.string ⟨(ycZ ls chain).toArray⟩,.int .i64 (yaA ls chain)]) /\ w.grownBy w' none:=by
 have hG:=yaa (jr w none) (.cells #[.slice A n c] 39);have hbx:=Boxed.new w 39 (.slice A n c);have hR:=h.grown hG hB;have hB1:=jlt hB hG.size;have hll:=h.1;have HCK:=jh (fun (V:World) (hV:(w.alloc (.cells #[.slice A n c] 39)).grownBy V none)=>yd1 B A n c ls chain V (hR.grown hV hB1) (jlt hB1 hV.size) hn ok);have HR:=jh hR;have HB1:=jh hB1;have HOK:=jh ok;have HLL:=jh hll;obtain ⟨E,hE⟩:∃ E,yaA ls chain = E:=⟨_,rfl⟩;obtain ⟨L,hL⟩:∃ L,ycZ ls chain = L:=⟨_,rfl⟩;have hLE:L = if E = 0 then yd0 ls else []:=by rw [<- hL,<- hE];rfl
 rw [hE] at HCK hco hlen;rw [hL,hE];have HCO:=jh hco;have HLEN:=jh hlen;have HLE:=jh hLE;clear h hB hR hB1 ok hco hlen hE hL hLE hn hll;go_enter Tryz.func18,Tryz.ntmps18
 go_upto_region 1 with (fail)
 obtain ⟨b,hb⟩:∃ b,w.heap.size = b:=⟨_,rfl⟩;rw [hb] at hbx ⊢;clear hb;generalize w.alloc (.cells #[.slice A n c] 39) = w1 at *;have c0:=hbx.cell;have HBX:=jh hbx;have HG:=jh hG;clear hbx hG;go_wp2_with fail
 refine (HCK.out w1 (jr _ _)).mono ?_;rintro e w2 ⟨rfl,hg⟩;replace HBX:=jh (HBX.out.kept hg (by simp));replace HR:=jh (HR.out.grown hg HB1.out);replace HB1:=jh (jlt HB1.out hg.size);replace HG:=jh (yab HG.out hg (by simp));clear hg c0 HCK;by_cases hE0:E = 0
 rotate_left
 ·have q1:(E != 0) = true:=by simpa using hE0
  have hL0:L = []:=by rw [HLE.out,if_neg hE0]
  subst hL0;clear hE0;go_wp2_with fail
  go_ret2
  exact ⟨rfl,HG.out⟩
 subst hE0;have HCOK:=jh (HCO.out rfl);have hN:n <= 1000:=by have:=HLEN.out rfl;rw [HLL.out] at this;omega
 have hLL:L = catB (yfI ls):=by rw [HLE.out,if_pos rfl];rfl
 have HLQ:=jh hLL;clear HCO HLEN HLE hLL;obtain ⟨q,hq⟩:∃ q,w2.heap.size = q:=⟨_,rfl⟩;have hz0:(w2.alloc (.cells #[.func (.func 40) #[] #[.pointer (some ⟨b,0,none⟩)]] 77)).heap.size = q + 1:=by simp [hq]
 have hz1:((w2.alloc (.cells #[.func (.func 40) #[] #[.pointer (some ⟨b,0,none⟩)]] 77)).alloc (.cells #[.func (.func 42) #[] #[.pointer (some ⟨b,0,none⟩)]] 80)).heap.size = q + 2:=by rw [jsa,hz0]
 have hz2:(((w2.alloc (.cells #[.func (.func 40) #[] #[.pointer (some ⟨b,0,none⟩)]] 77)).alloc (.cells #[.func (.func 42) #[] #[.pointer (some ⟨b,0,none⟩)]] 80)).alloc (.cells #[.func (.func 44) #[] #[.pointer (some ⟨b,0,none⟩)]] 83)).heap.size = q + 3:=by rw [jsa,hz1]
 have hp7:=((Boxed.new w2 77 (.func (.func 40) #[] #[.pointer (some ⟨b,0,none⟩)])).alloc (.cells #[.func (.func 42) #[] #[.pointer (some ⟨b,0,none⟩)]] 80)).alloc (.cells #[.func (.func 44) #[] #[.pointer (some ⟨b,0,none⟩)]] 83) |>.alloc (.cells #[.func (.func 46) #[] #[.pointer (some ⟨q,0,none⟩)],.func (.func 48) #[] #[.pointer (some ⟨q,0,none⟩)],.func (.func 50) #[] #[.pointer (some ⟨q + 2,0,none⟩)],.func (.func 53) #[] #[.pointer (some ⟨q + 2,0,none⟩)],.func (.func 55) #[] #[.pointer (some ⟨q + 2,0,none⟩)],.func (.func 58) #[] #[.pointer (some ⟨q + 1,0,none⟩)],.func (.func 60) #[] #[.pointer (some ⟨q + 1,0,none⟩)],.func (.func 62) #[] #[.pointer (some ⟨q,0,none⟩)]] 84);have hp8:=((Boxed.new (w2.alloc (.cells #[.func (.func 40) #[] #[.pointer (some ⟨b,0,none⟩)]] 77)) 80 (.func (.func 42) #[] #[.pointer (some ⟨b,0,none⟩)])).alloc (.cells #[.func (.func 44) #[] #[.pointer (some ⟨b,0,none⟩)]] 83)).alloc (.cells #[.func (.func 46) #[] #[.pointer (some ⟨q,0,none⟩)],.func (.func 48) #[] #[.pointer (some ⟨q,0,none⟩)],.func (.func 50) #[] #[.pointer (some ⟨q + 2,0,none⟩)],.func (.func 53) #[] #[.pointer (some ⟨q + 2,0,none⟩)],.func (.func 55) #[] #[.pointer (some ⟨q + 2,0,none⟩)],.func (.func 58) #[] #[.pointer (some ⟨q + 1,0,none⟩)],.func (.func 60) #[] #[.pointer (some ⟨q + 1,0,none⟩)],.func (.func 62) #[] #[.pointer (some ⟨q,0,none⟩)]] 84);have hp9:=(Boxed.new ((w2.alloc (.cells #[.func (.func 40) #[] #[.pointer (some ⟨b,0,none⟩)]] 77)).alloc (.cells #[.func (.func 42) #[] #[.pointer (some ⟨b,0,none⟩)]] 80)) 83 (.func (.func 44) #[] #[.pointer (some ⟨b,0,none⟩)])).alloc (.cells #[.func (.func 46) #[] #[.pointer (some ⟨q,0,none⟩)],.func (.func 48) #[] #[.pointer (some ⟨q,0,none⟩)],.func (.func 50) #[] #[.pointer (some ⟨q + 2,0,none⟩)],.func (.func 53) #[] #[.pointer (some ⟨q + 2,0,none⟩)],.func (.func 55) #[] #[.pointer (some ⟨q + 2,0,none⟩)],.func (.func 58) #[] #[.pointer (some ⟨q + 1,0,none⟩)],.func (.func 60) #[] #[.pointer (some ⟨q + 1,0,none⟩)],.func (.func 62) #[] #[.pointer (some ⟨q,0,none⟩)]] 84);have hbs:=Blk.new (((w2.alloc (.cells #[.func (.func 40) #[] #[.pointer (some ⟨b,0,none⟩)]] 77)).alloc (.cells #[.func (.func 42) #[] #[.pointer (some ⟨b,0,none⟩)]] 80)).alloc (.cells #[.func (.func 44) #[] #[.pointer (some ⟨b,0,none⟩)]] 83)) 84 #[.func (.func 46) #[] #[.pointer (some ⟨q,0,none⟩)],.func (.func 48) #[] #[.pointer (some ⟨q,0,none⟩)],.func (.func 50) #[] #[.pointer (some ⟨q + 2,0,none⟩)],.func (.func 53) #[] #[.pointer (some ⟨q + 2,0,none⟩)],.func (.func 55) #[] #[.pointer (some ⟨q + 2,0,none⟩)],.func (.func 58) #[] #[.pointer (some ⟨q + 1,0,none⟩)],.func (.func 60) #[] #[.pointer (some ⟨q + 1,0,none⟩)],.func (.func 62) #[] #[.pointer (some ⟨q,0,none⟩)]];have hg4:=yaa (yaa (yaa (yaa (jr w2 none) (.cells #[.func (.func 40) #[] #[.pointer (some ⟨b,0,none⟩)]] 77)) (.cells #[.func (.func 42) #[] #[.pointer (some ⟨b,0,none⟩)]] 80)) (.cells #[.func (.func 44) #[] #[.pointer (some ⟨b,0,none⟩)]] 83)) (.cells #[.func (.func 46) #[] #[.pointer (some ⟨q,0,none⟩)],.func (.func 48) #[] #[.pointer (some ⟨q,0,none⟩)],.func (.func 50) #[] #[.pointer (some ⟨q + 2,0,none⟩)],.func (.func 53) #[] #[.pointer (some ⟨q + 2,0,none⟩)],.func (.func 55) #[] #[.pointer (some ⟨q + 2,0,none⟩)],.func (.func 58) #[] #[.pointer (some ⟨q + 1,0,none⟩)],.func (.func 60) #[] #[.pointer (some ⟨q + 1,0,none⟩)],.func (.func 62) #[] #[.pointer (some ⟨q,0,none⟩)]] 84);rw [hq] at hp7;rw [hz0] at hp8;rw [hz1] at hp9;rw [hz2] at hbs;have HW3:=jh (⟨hp7,hp8,hp9,hbs,hg4⟩:_ /\ _ /\ _ /\ _ /\ _);clear hp7 hp8 hp9 hbs hg4 hz0 hz1 hz2;go_upto_region 8 with (fail)
 (try rw [hq]);clear hq;generalize ((((w2.alloc (.cells #[.func (.func 40) #[] #[.pointer (some ⟨b,0,none⟩)]] 77)).alloc (.cells #[.func (.func 42) #[] #[.pointer (some ⟨b,0,none⟩)]] 80)).alloc (.cells #[.func (.func 44) #[] #[.pointer (some ⟨b,0,none⟩)]] 83)).alloc (.cells #[.func (.func 46) #[] #[.pointer (some ⟨q,0,none⟩)],.func (.func 48) #[] #[.pointer (some ⟨q,0,none⟩)],.func (.func 50) #[] #[.pointer (some ⟨q + 2,0,none⟩)],.func (.func 53) #[] #[.pointer (some ⟨q + 2,0,none⟩)],.func (.func 55) #[] #[.pointer (some ⟨q + 2,0,none⟩)],.func (.func 58) #[] #[.pointer (some ⟨q + 1,0,none⟩)],.func (.func 60) #[] #[.pointer (some ⟨q + 1,0,none⟩)],.func (.func 62) #[] #[.pointer (some ⟨q,0,none⟩)]] 84)) = w3 at *;obtain ⟨hp7,hp8,hp9,hbs,hg4⟩:=HW3.out;have HP7:=jh hp7;have HP8:=jh hp8;have HP9:=jh hp9;have HBS:=jh hbs;replace HBX:=jh (HBX.out.kept hg4 (by simp));replace HR:=jh (HR.out.grown hg4 HB1.out);replace HB1:=jh (jlt HB1.out hg4.size);replace HG:=jh (yab HG.out hg4 (by simp));clear hp7 hp8 hp9 hbs hg4 HW3;have hsz:=HCOK.out.sizes;have HC0:=jh (fun (V:World) (hV:w3.grownBy V none)=>yof B A n c b (q) ls V (HR.out.grown hV HB1.out) (jlt HB1.out hV.size) hN (HBX.out.kept hV (by simp)) (HP7.out.kept hV (by simp)));have HC1:=jh (fun (V:World) (hV:w3.grownBy V none)=>yoe B A n c b (q) ls V (HR.out.grown hV HB1.out) (jlt HB1.out hV.size) hN (HBX.out.kept hV (by simp)) (HP7.out.kept hV (by simp)));have HC2:=jh (fun (V:World) (hV:w3.grownBy V none)=>yod B A n c b (q + 2) ls V (HR.out.grown hV HB1.out) (jlt HB1.out hV.size) hN (HBX.out.kept hV (by simp)) (HP9.out.kept hV (by simp)) (by have:=hsz _ (by unfold yfI;exact List.mem_iff_getElem.2 ⟨2,Nat.le_of_ble_eq_true rfl,rfl⟩);rw [ymV] at this;exact this));have HC3:=jh (fun (V:World) (hV:w3.grownBy V none)=>yoc B A n c b (q + 2) ls V (HR.out.grown hV HB1.out) (jlt HB1.out hV.size) hN (HBX.out.kept hV (by simp)) (HP9.out.kept hV (by simp)) (by have:=hsz _ (by unfold yfI;exact List.mem_iff_getElem.2 ⟨3,Nat.le_of_ble_eq_true rfl,rfl⟩);rw [ymV] at this;exact this));have HC4:=jh (fun (V:World) (hV:w3.grownBy V none)=>yob B A n c b (q + 2) ls V (HR.out.grown hV HB1.out) (jlt HB1.out hV.size) hN (HBX.out.kept hV (by simp)) (HP9.out.kept hV (by simp)) HCOK.out.rest (by have:=hsz _ (by unfold yfI;exact List.mem_iff_getElem.2 ⟨4,Nat.le_of_ble_eq_true rfl,rfl⟩);rw [ymV] at this;exact this));have HC5:=jh (fun (V:World) (hV:w3.grownBy V none)=>yoa B A n c b (q + 1) ls V (HR.out.grown hV HB1.out) (jlt HB1.out hV.size) hN (HBX.out.kept hV (by simp)) (HP8.out.kept hV (by simp)) HOK.out);have HC6:=jh (fun (V:World) (hV:w3.grownBy V none)=>ymE B A n c b (q + 1) ls V (HR.out.grown hV HB1.out) (jlt HB1.out hV.size) hN (HBX.out.kept hV (by simp)) (HP8.out.kept hV (by simp)) HOK.out);have HC7:=jh (fun (V:World) (hV:w3.grownBy V none)=>ymD B A n c b (q) ls V (HR.out.grown hV HB1.out) (jlt HB1.out hV.size) hN (HBX.out.kept hV (by simp)) (HP7.out.kept hV (by simp)));have HSZ:=jh hsz;have hcols:yfI ls = [⟨(yaT (colL (fun x:TxV=>decide (x.dst.size = 0)) (fun _=>true) ls)).toArray⟩,⟨(yaT (colL (fun x:TxV=>decide (x.y = 1)) (fun _=>true) ls)).toArray⟩,⟨(catB (colL sigT (fun _=>true) ls)).toArray⟩,⟨(catB (colL (fun x:TxV=>x.dst) (fun _=>true) ls)).toArray⟩,⟨(catB (colL ycp (fun _=>true) ls)).toArray⟩,⟨(rowL (colL (fun x:TxV=>(x.nonce:Int)) (fun _=>true) ls)).toArray⟩,⟨(rowL (colL (fun x:TxV=>(x.gas:Int)) (fun _=>true) ls)).toArray⟩,⟨(yaT (colL (fun x:TxV=>decide (x.chain ≠ 0)) (fun x:TxV=>decide (x.kind = 0)) ls)).toArray⟩]:=rfl;obtain ⟨Q0,hQ0⟩:∃ Q:ByteArray,(⟨(yaT (colL (fun x:TxV=>decide (x.dst.size = 0)) (fun _=>true) ls)).toArray⟩:ByteArray) = Q:=⟨_,rfl⟩;obtain ⟨Q1,hQ1⟩:∃ Q:ByteArray,(⟨(yaT (colL (fun x:TxV=>decide (x.y = 1)) (fun _=>true) ls)).toArray⟩:ByteArray) = Q:=⟨_,rfl⟩;obtain ⟨Q2,hQ2⟩:∃ Q:ByteArray,(⟨(catB (colL sigT (fun _=>true) ls)).toArray⟩:ByteArray) = Q:=⟨_,rfl⟩;obtain ⟨Q3,hQ3⟩:∃ Q:ByteArray,(⟨(catB (colL (fun x:TxV=>x.dst) (fun _=>true) ls)).toArray⟩:ByteArray) = Q:=⟨_,rfl⟩;obtain ⟨Q4,hQ4⟩:∃ Q:ByteArray,(⟨(catB (colL ycp (fun _=>true) ls)).toArray⟩:ByteArray) = Q:=⟨_,rfl⟩;obtain ⟨Q5,hQ5⟩:∃ Q:ByteArray,(⟨(rowL (colL (fun x:TxV=>(x.nonce:Int)) (fun _=>true) ls)).toArray⟩:ByteArray) = Q:=⟨_,rfl⟩;obtain ⟨Q6,hQ6⟩:∃ Q:ByteArray,(⟨(rowL (colL (fun x:TxV=>(x.gas:Int)) (fun _=>true) ls)).toArray⟩:ByteArray) = Q:=⟨_,rfl⟩;obtain ⟨Q7,hQ7⟩:∃ Q:ByteArray,(⟨(yaT (colL (fun x:TxV=>decide (x.chain ≠ 0)) (fun x:TxV=>decide (x.kind = 0)) ls)).toArray⟩:ByteArray) = Q:=⟨_,rfl⟩;rw [hQ0,hQ1,hQ2,hQ3,hQ4,hQ5,hQ6,hQ7] at hcols;rw [hQ0] at HC0;rw [hQ1] at HC1;rw [hQ2] at HC2;rw [hQ3] at HC3;rw [hQ4] at HC4;rw [hQ5] at HC5;rw [hQ6] at HC6;rw [hQ7] at HC7;rw [hcols] at HSZ HLQ;clear hsz hcols HCOK hQ0 hQ1 hQ2 hQ3 hQ4 hQ5 hQ6 hQ7;have HS0:Hid (Q0.size <= 1000000000):=jh (HSZ.out _ (by simp));have HS1:Hid (Q1.size <= 1000000000):=jh (HSZ.out _ (by simp));have HS2:Hid (Q2.size <= 1000000000):=jh (HSZ.out _ (by simp));have HS3:Hid (Q3.size <= 1000000000):=jh (HSZ.out _ (by simp));have HS4:Hid (Q4.size <= 1000000000):=jh (HSZ.out _ (by simp));have HS5:Hid (Q5.size <= 1000000000):=jh (HSZ.out _ (by simp));have HS6:Hid (Q6.size <= 1000000000):=jh (HSZ.out _ (by simp));have HS7:Hid (Q7.size <= 1000000000):=jh (HSZ.out _ (by simp));clear HSZ;go_wp2_with fail
 go_loopw [11,34] (fun v i wr=>∃ (k:Nat) (sb:ByteArray),i = .int .i64 k /\ v = .string sb /\ k <= 8 /\ sb.size <= k * 1000000000 /\ Hid (sb.data.toList = catB ([Q0,Q1,Q2,Q3,Q4,Q5,Q6,Q7].take k)) /\ w3.grownBy wr none) (fun _ i _=>8 - (intOf i).toNat)
 case atStart=>exact ⟨0,.empty,rfl,rfl,by omega,by simp,jh rfl,jr _ _⟩
 case round =>
  obtain ⟨k,sb,rfl,rfl,hk,hs,hsb,hg⟩:=hrel;have HSB:=jh hsb.out;have HGG:=jh hg;have hbs:=HBS.out.grown hg (by simp);clear hsb;rcases (by omega:k = 0 \/ k = 1 \/ k = 2 \/ k = 3 \/ k = 4 \/ k = 5 \/ k = 6 \/ k = 7 \/ k = 8) with rfl | rfl | rfl | rfl | rfl | rfl | rfl | rfl | rfl
  ·have cj:wr.cell? ⟨q + 3,0,none⟩ = some (.func (.func 46) #[] #[.pointer (some ⟨q,0,none⟩)]):=hbs.cell 0;clear hbs;go_wp2_with fail
   refine (HC0.out wr HGG.out).mono ?_;rintro e w6 ⟨rfl,hg6⟩;have hsum:sb.size + Q0.size <= 9223372036854775807:=by have:=HS0.out;omega
   have hsn:(sb ++ Q0).size <= 1 * 1000000000:=by have:=HS0.out;rw [ByteArray.size_append];omega
   have HSN:=jh hsn;have HSB2:Hid ((sb ++ Q0).data.toList = catB ([Q0,Q1,Q2,Q3,Q4,Q5,Q6,Q7].take 1)):=jh (by show _ = catB ([Q0,Q1,Q2,Q3,Q4,Q5,Q6,Q7].take (0 + 1));rw [ybH (by simp),<- HSB.out];simp);have HG6:=jh (yab HGG.out hg6 (by simp));clear hg6 cj hg hsn;go_wp2_with fail
   go_roundw
   case rel=>exact ⟨1,sb ++ Q0,by go_num,rfl,by omega,HSN.out,jh HSB2.out,HG6.out⟩
   case measure=>simp [intOf]
  ·have cj:wr.cell? ⟨q + 3,1,none⟩ = some (.func (.func 48) #[] #[.pointer (some ⟨q,0,none⟩)]):=hbs.cell 1;clear hbs;go_wp2_with fail
   refine (HC1.out wr HGG.out).mono ?_;rintro e w6 ⟨rfl,hg6⟩;have hsum:sb.size + Q1.size <= 9223372036854775807:=by have:=HS1.out;omega
   have hsn:(sb ++ Q1).size <= 2 * 1000000000:=by have:=HS1.out;rw [ByteArray.size_append];omega
   have HSN:=jh hsn;have HSB2:Hid ((sb ++ Q1).data.toList = catB ([Q0,Q1,Q2,Q3,Q4,Q5,Q6,Q7].take 2)):=jh (by show _ = catB ([Q0,Q1,Q2,Q3,Q4,Q5,Q6,Q7].take (1 + 1));rw [ybH (by simp),<- HSB.out];simp);have HG6:=jh (yab HGG.out hg6 (by simp));clear hg6 cj hg hsn;go_wp2_with fail
   go_roundw
   case rel=>exact ⟨2,sb ++ Q1,by go_num,rfl,by omega,HSN.out,jh HSB2.out,HG6.out⟩
   case measure=>simp [intOf]
  ·have cj:wr.cell? ⟨q + 3,2,none⟩ = some (.func (.func 50) #[] #[.pointer (some ⟨q + 2,0,none⟩)]):=hbs.cell 2;clear hbs;go_wp2_with fail
   refine (HC2.out wr HGG.out).mono ?_;rintro e w6 ⟨rfl,hg6⟩;have hsum:sb.size + Q2.size <= 9223372036854775807:=by have:=HS2.out;omega
   have hsn:(sb ++ Q2).size <= 3 * 1000000000:=by have:=HS2.out;rw [ByteArray.size_append];omega
   have HSN:=jh hsn;have HSB2:Hid ((sb ++ Q2).data.toList = catB ([Q0,Q1,Q2,Q3,Q4,Q5,Q6,Q7].take 3)):=jh (by show _ = catB ([Q0,Q1,Q2,Q3,Q4,Q5,Q6,Q7].take (2 + 1));rw [ybH (by simp),<- HSB.out];simp);have HG6:=jh (yab HGG.out hg6 (by simp));clear hg6 cj hg hsn;go_wp2_with fail
   go_roundw
   case rel=>exact ⟨3,sb ++ Q2,by go_num,rfl,by omega,HSN.out,jh HSB2.out,HG6.out⟩
   case measure=>simp [intOf]
  ·have cj:wr.cell? ⟨q + 3,3,none⟩ = some (.func (.func 53) #[] #[.pointer (some ⟨q + 2,0,none⟩)]):=hbs.cell 3;clear hbs;go_wp2_with fail
   refine (HC3.out wr HGG.out).mono ?_;rintro e w6 ⟨rfl,hg6⟩;have hsum:sb.size + Q3.size <= 9223372036854775807:=by have:=HS3.out;omega
   have hsn:(sb ++ Q3).size <= 4 * 1000000000:=by have:=HS3.out;rw [ByteArray.size_append];omega
   have HSN:=jh hsn;have HSB2:Hid ((sb ++ Q3).data.toList = catB ([Q0,Q1,Q2,Q3,Q4,Q5,Q6,Q7].take 4)):=jh (by show _ = catB ([Q0,Q1,Q2,Q3,Q4,Q5,Q6,Q7].take (3 + 1));rw [ybH (by simp),<- HSB.out];simp);have HG6:=jh (yab HGG.out hg6 (by simp));clear hg6 cj hg hsn;go_wp2_with fail
   go_roundw
   case rel=>exact ⟨4,sb ++ Q3,by go_num,rfl,by omega,HSN.out,jh HSB2.out,HG6.out⟩
   case measure=>simp [intOf]
  ·have cj:wr.cell? ⟨q + 3,4,none⟩ = some (.func (.func 55) #[] #[.pointer (some ⟨q + 2,0,none⟩)]):=hbs.cell 4;clear hbs;go_wp2_with fail
   refine (HC4.out wr HGG.out).mono ?_;rintro e w6 ⟨rfl,hg6⟩;have hsum:sb.size + Q4.size <= 9223372036854775807:=by have:=HS4.out;omega
   have hsn:(sb ++ Q4).size <= 5 * 1000000000:=by have:=HS4.out;rw [ByteArray.size_append];omega
   have HSN:=jh hsn;have HSB2:Hid ((sb ++ Q4).data.toList = catB ([Q0,Q1,Q2,Q3,Q4,Q5,Q6,Q7].take 5)):=jh (by show _ = catB ([Q0,Q1,Q2,Q3,Q4,Q5,Q6,Q7].take (4 + 1));rw [ybH (by simp),<- HSB.out];simp);have HG6:=jh (yab HGG.out hg6 (by simp));clear hg6 cj hg hsn;go_wp2_with fail
   go_roundw
   case rel=>exact ⟨5,sb ++ Q4,by go_num,rfl,by omega,HSN.out,jh HSB2.out,HG6.out⟩
   case measure=>simp [intOf]
  ·have cj:wr.cell? ⟨q + 3,5,none⟩ = some (.func (.func 58) #[] #[.pointer (some ⟨q + 1,0,none⟩)]):=hbs.cell 5;clear hbs;go_wp2_with fail
   refine (HC5.out wr HGG.out).mono ?_;rintro e w6 ⟨rfl,hg6⟩;have hsum:sb.size + Q5.size <= 9223372036854775807:=by have:=HS5.out;omega
   have hsn:(sb ++ Q5).size <= 6 * 1000000000:=by have:=HS5.out;rw [ByteArray.size_append];omega
   have HSN:=jh hsn;have HSB2:Hid ((sb ++ Q5).data.toList = catB ([Q0,Q1,Q2,Q3,Q4,Q5,Q6,Q7].take 6)):=jh (by show _ = catB ([Q0,Q1,Q2,Q3,Q4,Q5,Q6,Q7].take (5 + 1));rw [ybH (by simp),<- HSB.out];simp);have HG6:=jh (yab HGG.out hg6 (by simp));clear hg6 cj hg hsn;go_wp2_with fail
   go_roundw
   case rel=>exact ⟨6,sb ++ Q5,by go_num,rfl,by omega,HSN.out,jh HSB2.out,HG6.out⟩
   case measure=>simp [intOf]
  ·have cj:wr.cell? ⟨q + 3,6,none⟩ = some (.func (.func 60) #[] #[.pointer (some ⟨q + 1,0,none⟩)]):=hbs.cell 6;clear hbs;go_wp2_with fail
   refine (HC6.out wr HGG.out).mono ?_;rintro e w6 ⟨rfl,hg6⟩;have hsum:sb.size + Q6.size <= 9223372036854775807:=by have:=HS6.out;omega
   have hsn:(sb ++ Q6).size <= 7 * 1000000000:=by have:=HS6.out;rw [ByteArray.size_append];omega
   have HSN:=jh hsn;have HSB2:Hid ((sb ++ Q6).data.toList = catB ([Q0,Q1,Q2,Q3,Q4,Q5,Q6,Q7].take 7)):=jh (by show _ = catB ([Q0,Q1,Q2,Q3,Q4,Q5,Q6,Q7].take (6 + 1));rw [ybH (by simp),<- HSB.out];simp);have HG6:=jh (yab HGG.out hg6 (by simp));clear hg6 cj hg hsn;go_wp2_with fail
   go_roundw
   case rel=>exact ⟨7,sb ++ Q6,by go_num,rfl,by omega,HSN.out,jh HSB2.out,HG6.out⟩
   case measure=>simp [intOf]
  ·have cj:wr.cell? ⟨q + 3,7,none⟩ = some (.func (.func 62) #[] #[.pointer (some ⟨q,0,none⟩)]):=hbs.cell 7;clear hbs;go_wp2_with fail
   refine (HC7.out wr HGG.out).mono ?_;rintro e w6 ⟨rfl,hg6⟩;have hsum:sb.size + Q7.size <= 9223372036854775807:=by have:=HS7.out;omega
   have hsn:(sb ++ Q7).size <= 8 * 1000000000:=by have:=HS7.out;rw [ByteArray.size_append];omega
   have HSN:=jh hsn;have HSB2:Hid ((sb ++ Q7).data.toList = catB ([Q0,Q1,Q2,Q3,Q4,Q5,Q6,Q7].take 8)):=jh (by show _ = catB ([Q0,Q1,Q2,Q3,Q4,Q5,Q6,Q7].take (7 + 1));rw [ybH (by simp),<- HSB.out];simp);have HG6:=jh (yab HGG.out hg6 (by simp));clear hg6 cj hg hsn;go_wp2_with fail
   go_roundw
   case rel=>exact ⟨8,sb ++ Q7,by go_num,rfl,by omega,HSN.out,jh HSB2.out,HG6.out⟩
   case measure=>simp [intOf]
  ·have hL2:(⟨L.toArray⟩:ByteArray) = sb:=ycW (by rw [HSB.out,HLQ.out];rfl);have HL2:=jh hL2;clear hbs hL2;go_wp2_with fail
   go_ret2
   exact ⟨by rw [HL2.out];rfl,yab HG.out HGG.out (by simp)⟩
theorem yf9 (n p:Nat) (hn:n <= 1000000000) (hp:p = 128 \/ p = 192):∃ z l,ybb n p = z :: l /\ p <= z.toNat /\ z.toNat < p + 64:=by
 have l1:=yfg n (by omega);unfold ybb;split
 ·exact ⟨_,_,rfl,by rw [UInt8.toNat_ofNat'];omega,by rw [UInt8.toNat_ofNat'];omega⟩
 ·exact ⟨_,_,rfl,by rw [UInt8.toNat_ofNat'];omega,by rw [UInt8.toNat_ofNat'];omega⟩
theorem yiw (b:ByteArray) (h:b.size <= 1000000000):∃ z l,ycl b = z :: l /\ z.toNat < 192:=by
 unfold ycl;split
 ·rename_i h1
  have hl:b.data.toList.length = 1:=by rw [jb0];exact h1.1
  cases hb:b.data.toList with
  | nil=>rw [hb] at hl;cases hl
  | cons z l=>rw [hb] at h1;exact ⟨z,l,rfl,jb6 h1.2 (by omega)⟩
 ·obtain ⟨z,l,e,h1,h2⟩:=yf9 b.size 128 h (.inl rfl);exact ⟨z,l ++ b.data.toList,by rw [e];rfl,h2⟩
inductive Itm.Form:Itm -> Prop
 | text (b:ByteArray):Itm.Form (.mk false b [])
 | list (xs:List Itm) (h:∀ x,x ∈ xs -> Itm.Form x):Itm.Form (.mk true ⟨#[]⟩ xs)
theorem yeg {b:ByteArray} (h:b.size = 0):b = ⟨#[]⟩:=ycW (by
 have:b.data.toList.length = 0:=by rw [jb0];exact h
 exact jb7 this)
mutual
theorem ymy:∀ (x:Itm) (d:Nat),yaO x d = 0 -> x.Form
 | .mk l b xs,d,h=>by
  rw [yaO] at h;split at h
  ·cases h
  rename_i h1
  cases l with
  | false =>
   have:xs = []:=jb7 (Classical.byContradiction fun h2=>h1 (.inr ⟨rfl,h2⟩));subst this;exact .text b
  | true =>
   have hb:=yeg (b:=b) (Classical.byContradiction fun h2=>h1 (.inl ⟨rfl,h2⟩));subst hb;rw [if_neg (by simp)] at h;split at h
   ·cases h
   split at h
   ·cases h
   exact .list xs (form_ofL xs (d + 1) h)
theorem form_ofL:∀ (xs:List Itm) (d:Nat),formL xs d = 0 -> ∀ x,x ∈ xs -> x.Form
 | [],d,_,x,hx=>by cases hx
 | y :: ys,d,h,x,hx=>by
  rw [formL] at h;split at h
  ·rename_i h1;exact absurd h h1
  ·rename_i h1
   rcases List.mem_cons.1 hx with e | hx
   ·rw [e];exact ymy y d (by simpa using h1)
   ·exact form_ofL ys d h x hx
end
theorem ypl {xs:List Itm} {x:Itm} (h:x ∈ xs):wtF x <= wtL xs:=by
 induction xs with
 | nil=>cases h
 | cons y ys ih =>
  rw [wtL];rcases List.mem_cons.1 h with rfl | h
  ·omega
  ·have:=ih h;omega
theorem yix (x:Itm) (h:wtF x <= 1000000000):∃ z l,ya0 x = z :: l /\ (x.list = true -> 192 <= z.toNat) /\ (x.list = false -> z.toNat < 192):=by
 have hw:=yeI x;have hl:=bytesL_len x.items (by omega);rw [yey];cases hx:x.list with
 | true =>
  obtain ⟨z,l,e,h1,_⟩:=yf9 (bytesL x.items).length 192 (by omega) (.inr rfl);exact ⟨z,l ++ bytesL x.items,by rw [if_pos rfl,e];rfl,fun _=>h1,(fun h=>by cases h)⟩
 | false =>
  obtain ⟨z,l,e,h1⟩:=yiw x.bytes (by omega);exact ⟨z,l,by rw [if_neg (by simp)];exact e,(fun h=>by cases h),fun _=>h1⟩
theorem ykY {x:Itm} (h:ybG x = 0):x.Form /\ (ya0 x).length <= 65536 /\ yaO x 0 = 0:=by
 unfold ybG at h;split at h
 ·rename_i h1;exact absurd h h1
 ·rename_i h1
  have h1:yaO x 0 = 0:=by simpa using h1
  split at h
  ·cases h
  ·exact ⟨ymy x 0 h1,by omega,h1⟩

theorem ydv {k:Nat} {l:List UInt8} {a q:Nat} {x:Itm} (h:ybr k l a = .ok (x,q)):yaU l (a:Int) = 0 /\ x.list = ybJ l (a:Int) /\ q = yae l (a:Int) + ya1 l (a:Int):=by
 have key:∀ sub,ycR sub l a = .ok (x,q) -> yaU l (a:Int) = 0 /\ x.list = ybJ l (a:Int) /\ q = yae l (a:Int) + ya1 l (a:Int):=by
  intro sub h;unfold ycR at h;split at h
  ·cases h
  split at h
  ·cases h
  rename_i h2
  have h2:yaU l (a:Int) = 0:=by simpa using h2
  split at h
  ·rename_i h3
   injection h with h;injection h with h4 h5;subst h4;exact ⟨h2,by rw [h3];rfl,h5.symm⟩
  rename_i h3
  split at h
  ·cases h
  ·split at h
   ·cases h
   ·injection h with h;injection h with h4 h5;subst h4;exact ⟨h2,by rw [show ybJ l (a:Int) = true by simpa using h3];rfl,h5.symm⟩
 cases k with
 | zero=>exact key none h
 | succ k=>exact key _ h
theorem yfH {l:List UInt8} {x:Itm} (h:ybz l = .ok x):yaU l 0 = 0 /\ x.list = ybJ l 0 /\ yae l 0 + ya1 l 0 = l.length:=by
 unfold ybz at h;split at h
 ·cases h
 ·split at h
  ·cases h
  ·rename_i y q hi
   split at h
   ·cases h
   ·rename_i hq
    injection h with h;subst h;obtain ⟨h1,h2,h3⟩:=ydv hi;have h4:=(yb9 h1).2.1;simp only [Int.ofNat_zero] at h1 h2 h3 h4;exact ⟨h1,h2,by omega⟩
noncomputable section
open Classical
end
def Agree (l:List UInt8) (a:Nat) (l':List UInt8) (a' n:Nat):Prop:=∀ j,j < n -> l'[a' + j]? = l[a + j]?
theorem Agree.take {l l':List UInt8} {a a' n:Nat} (h:Agree l a l' a' n) {m1 m2:Nat} (hm:m1 + m2 <= n):(l'.drop (a' + m1)).take m2 = (l.drop (a + m1)).take m2:=by
 apply List.ext_getElem?;intro i;rw [List.getElem?_take,List.getElem?_take];split
 ·rw [List.getElem?_drop,List.getElem?_drop];have:=h (m1 + i) (by omega);rw [<- Nat.add_assoc,<- Nat.add_assoc] at this;exact this
 ·rfl
theorem Agree.head {l l':List UInt8} {a a' n:Nat} (h:Agree l a l' a' n) {m:Nat} (hm:m < n):yav l' (a' + m) = yav l (a + m):=by
 unfold yav;rw [jg,jg,h m hm]
theorem Agree.size {l l':List UInt8} {a a' n:Nat} (h:Agree l a l' a' n) (h0:0 < n) (hn:a + n <= l.length):a' + n <= l'.length:=by
 have:=h (n - 1) (by omega);rw [je (l:=l) (by omega)] at this;have:=(jc6.1 this).1;omega
theorem yeD {l l':List UInt8} {a a':Nat} (h:yaU l (a:Int) = 0) (hag:Agree l a l' a' (yae l (a:Int) + ya1 l (a:Int) - a)) :
  yaU l' (a':Int) = 0 /\ yae l' (a':Int) = a' + (yae l (a:Int) - a) /\ ya1 l' (a':Int) = ya1 l (a:Int) /\ ybJ l' (a':Int) = ybJ l (a:Int):=by
 obtain ⟨b0,b1,b2,b3,b4,b5⟩:=yb9 h;have e1:yae l (a:Int) = yaV l a:=by unfold yae;rw [if_pos h,jnc]
 have e2:ya1 l (a:Int) = rawN l a:=by unfold ya1;rw [if_pos h,jnc]
 rw [e1,e2] at hag b1 b3;rw [e1] at b2;have hsz:=hag.size (by omega) (by omega);have hc:yav l' a' = yav l a:=hag.head (m:=0) (by omega);have hl:yaU l (a:Int) = 0:=h;unfold yaU at h;split at h
 ·cases h
 split at h
 ·cases h
 rw [jnc] at h;split at h
 ·rename_i g;exact absurd h g
 rename_i g3
 split at h
 ·cases h
 rename_i g4
 split at h
 ·cases h
 rename_i g5
 have g3:rawE l a = 0:=by simpa using g3
 have key:rawE l' a' = 0 /\ yaV l' a' = a' + (yaV l a - a) /\ rawN l' a' = rawN l a:=by
  unfold rawE yaV rawN at *;rw [hc];split
  ·rename_i c1;simp only [if_pos c1] at *;exact ⟨trivial,by omega,trivial⟩
  ·rename_i c1
   simp only [if_neg c1] at *;split
   ·rename_i c2;simp only [if_pos c2] at *;exact ⟨trivial,by omega,trivial⟩
   ·rename_i c2
    simp only [if_neg c2] at *;generalize hm:(yav l a - 128) % 64 - 55 = m at *
    have hlB:lenB l' a' m = lenB l a m:=by
     unfold lenB;rw [hag.take (m1:=1) (m2:=m) (by omega)]
    have hb:yav l' (a' + 1) = yav l (a + 1):=hag.head (m:=1) (by omega);unfold yav at hb;refine ⟨?_,by omega,hlB⟩;unfold ybk at g3 ⊢;rw [hlB,hb];split at g3
    ·cases g3
    rename_i q1
    split at g3
    ·cases g3
    rename_i q2
    split at g3
    ·cases g3
    rename_i q3
    rw [if_neg q1,if_neg (by omega),if_neg q3]
 obtain ⟨k1,k2,k3⟩:=key
 have hE:yaU l' (a':Int) = 0:=by
  unfold yaU;rw [if_neg (by omega),if_neg (by omega),jnc,if_neg (by rw [k1];simp),if_neg (by omega),if_neg];rintro ⟨q1,q2⟩;rw [hc] at q1
  have hb:yav l' (a' + 1) = yav l (a + 1):=hag.head (m:=1) (by
   unfold yaV rawN;rw [q1];simp;omega)
  exact g5 ⟨q1,by rw [<- hb];exact q2⟩
 refine ⟨hE,?_,?_,?_⟩
 ·unfold yae;rw [if_pos hE,if_pos hl,jnc,jnc];exact k2
 ·unfold ya1;rw [if_pos hE,if_pos hl,jnc,jnc];exact k3
 ·unfold ybJ;rw [if_pos hE,if_pos hl,jnc,jnc,hc]
theorem yiV {rd rd':Nat -> Except Int (Itm × Nat)} {en d d':Nat} (hd:d <= en)
  (hrd:∀ p x q,d <= p -> p < en -> rd p = .ok (x,q) -> d <= q /\ rd' (p - d + d') = .ok (x,q - d + d')) (f:Nat):∀ (i p:Nat) (xs:List Itm),d <= p -> ya4 rd en f i p = .ok xs -> ya4 rd' (en - d + d') f i (p - d + d') = .ok xs:=by
 induction f with
 | zero=>intro i p xs _ h;cases h
 | succ f ih =>
  intro i p xs hp h;unfold ya4 at h ⊢;by_cases h1:p < en
  ·rw [if_pos h1] at h;rw [if_pos (by omega)];by_cases h2:512 <= i
   ·rw [if_pos h2] at h;cases h
   ·rw [if_neg h2] at h ⊢;split at h
    ·cases h
    ·rename_i x q hx
     obtain ⟨hq,hx'⟩:=hrd p x q hp h1 hx;rw [hx'];split at h
     ·cases h
     ·rename_i ys hys
      have:=ih (i + 1) q ys hq hys;show (match ya4 rd' (en - d + d') f (i + 1) (q - d + d') with | .error e=>_ | .ok ys=>_) = _;rw [this];exact h
  ·rw [if_neg h1] at h;rw [if_neg (by omega)];exact h
theorem ykE:∀ (k k':Nat),k <= k' -> ∀ {l l':List UInt8} {a a' q:Nat} {x:Itm},ybr k l a = .ok (x,q) -> Agree l a l' a' (q - a) -> ybr k' l' a' = .ok (x,q - a + a'):=by
 intro k
 induction k with
 | zero =>
  intro k' hk l l' a a' q x h hag;obtain ⟨h1,h2,h3⟩:=ydv h;subst h3;obtain ⟨b0,b1,b2,b3,b4,b5⟩:=yb9 h1;obtain ⟨s1,s2,s3,s4⟩:=yeD h1 hag;have h:ycR none l a = _:=h;unfold ycR at h;rw [if_neg (by rintro hh;rw [if_pos hh] at h;cases h),if_neg (by simpa using h1)] at h;split at h
  ·rename_i hl
   injection h with h;injection h with h _;rw [ybY (by rintro ⟨_,g,_⟩;rw [hl] at s4;rw [(yb9 s1).2.2.2.2.2] at s4;simp at s4;omega) s1 (by rw [s4,hl]),s2,s3,<- h];have:=hag.take (m1:=yae l (a:Int) - a) (m2:=ya1 l (a:Int)) (by omega);rw [show a + (yae l (a:Int) - a) = yae l (a:Int) by omega] at this;rw [this,show a' + (yae l (a:Int) - a) + ya1 l (a:Int) = yae l (a:Int) + ya1 l (a:Int) - a + a' by omega]
  ·cases h
 | succ k ih =>
  intro k' hk l l' a a' q x h hag;obtain ⟨k',rfl⟩:∃ j,k' = j + 1:=⟨k' - 1,by omega⟩;obtain ⟨h1,h2,h3⟩:=ydv h;subst h3;obtain ⟨b0,b1,b2,b3,b4,b5⟩:=yb9 h1;obtain ⟨s1,s2,s3,s4⟩:=yeD h1 hag;have hsz:=hag.size (by omega) (by omega);cases hl:ybJ l (a:Int) with
  | false =>
   rw [ybY (by rintro ⟨_,_,g⟩;cases g) h1 hl] at h;injection h with h;injection h with h _;rw [ybY (by rintro ⟨_,_,g⟩;cases g) s1 (by rw [s4,hl]),s2,s3,<- h];have:=hag.take (m1:=yae l (a:Int) - a) (m2:=ya1 l (a:Int)) (by omega);rw [show a + (yae l (a:Int) - a) = yae l (a:Int) by omega] at this;rw [this,show a' + (yae l (a:Int) - a) + ya1 l (a:Int) = yae l (a:Int) + ya1 l (a:Int) - a + a' by omega]
  | true =>
   rw [ydw h1 hl] at h;rw [ydw s1 (by rw [s4,hl]),s2,s3];generalize yae l (a:Int) = F at *;generalize ya1 l (a:Int) = N at *;have e1:a' + (F - a) + N = F + N - a + a':=by omega
   have e2:a' + (F - a) = F - a + a':=by omega
   rw [e1,e2];split at h
   ·cases h
   ·rename_i xs hxs
    injection h with h;injection h with h _
    have:=yiV (rd:=ybr k (l.take (F + N))) (rd':=ybr k' (l'.take (F + N - a + a'))) (en:=F + N) (d:=a) (d':=a') (by omega) (fun p y q hp hpe hy=>by
     obtain ⟨g1,g2,g3⟩:=ydv hy;obtain ⟨c0,c1,c2,c3,_,_⟩:=yb9 g1;rw [<- g3] at c1 c3;rw [jc0] at c1;refine ⟨by omega,?_⟩;rw [ih k' (by omega) hy (l':=l'.take (F + N - a + a')) (a':=p - a + a') (fun j hj=>?_),show q - p + (p - a + a') = q - a + a' by omega];rw [ja9 (by omega),ja9 (by omega)];have:=hag (p - a + j) (by omega);rw [show a' + (p - a + j) = p - a + a' + j by omega,show a + (p - a + j) = p + j by omega] at this;exact this) 513 0 F xs b2 hxs
    rw [this,<- h]
theorem yk9 {rd:Nat -> Except Int (Itm × Nat)} {en f i p:Nat} {x:Itm} {xs:List Itm} (h:ya4 rd en f i p = .ok (x :: xs)):p < en /\ ∃ q,rd p = .ok (x,q) /\ ya4 rd en (f - 1) (i + 1) q = .ok xs:=by
 cases f with
 | zero=>cases h
 | succ f =>
  unfold ya4 at h;by_cases h1:p < en
  ·rw [if_pos h1] at h;by_cases h2:512 <= i
   ·rw [if_pos h2] at h;cases h
   ·rw [if_neg h2] at h;split at h
    ·cases h
    ·rename_i y q hy
     split at h
     ·cases h
     ·rename_i ys hys
      injection h with h;injection h with h3 h4;subst h3;subst h4;exact ⟨h1,q,hy,hys⟩
  ·rw [if_neg h1] at h;injection h with h;cases h
theorem ykA {rd:Nat -> Except Int (Itm × Nat)} {en f i p:Nat} (h:ya4 rd en f i p = .ok []):¬ p < en:=by
 cases f with
 | zero=>cases h
 | succ f =>
  unfold ya4 at h;intro h1;rw [if_pos h1] at h;by_cases h2:512 <= i
  ·rw [if_pos h2] at h;cases h
  ·rw [if_neg h2] at h;split at h
   ·cases h
   ·split at h
    ·cases h
    ·injection h with h;cases h
theorem ynv (n base:Nat) (t:List UInt8) (hn:n <= 65536) (hb:base = 128 \/ base = 192) :
  128 <= yav (ybb n base ++ t) 0 /\ (192 <= yav (ybb n base ++ t) 0 ↔ base = 192) /\ rawE (ybb n base ++ t) 0 = 0 /\ yaV (ybb n base ++ t) 0 = (ybb n base).length /\ rawN (ybb n base ++ t) 0 = n /\ (yav (ybb n base ++ t) 0 = 129 -> base = 128 /\ n = 1):=by
 by_cases h:n < 56
 ·rw [show ybb n base = [UInt8.ofNat (base + n)] from if_pos h]
  have hc:yav ([UInt8.ofNat (base + n)] ++ t) 0 = base + n:=by
   show (UInt8.ofNat (base + n)).toNat = _;rw [UInt8.toNat_ofNat'];omega
  unfold rawE yaV rawN;rw [hc];have q1:¬ base + n < 128:=by omega
  have q2:(base + n - 128) % 64 = n:=by omega
  rw [if_neg q1,if_neg q1,if_neg q1,q2,if_pos h,if_pos h,if_pos h];exact ⟨by omega,by omega,rfl,rfl,rfl,by omega⟩
 ·rw [show ybb n base = UInt8.ofNat (base + 55 + (beN n).length) :: beN n from if_neg h];have hm3:=yok n (by omega);have hm1:=ypf (n:=n) (by omega) (by omega);have hv:=yhn n (Nat.lt_of_le_of_lt hn (by decide));have hf:=yi0 n;generalize beN n = r at *
  have hc:yav (UInt8.ofNat (base + 55 + r.length) :: r ++ t) 0 = base + 55 + r.length:=by
   show (UInt8.ofNat (base + 55 + r.length)).toNat = _;rw [UInt8.toNat_ofNat'];omega
  have hB:lenB (UInt8.ofNat (base + 55 + r.length) :: r ++ t) 0 r.length = n:=by
   unfold lenB;rw [show (UInt8.ofNat (base + 55 + r.length) :: r ++ t).drop (0 + 1) = r ++ t from rfl,List.take_left' rfl];exact hv
  have hz:(UInt8.ofNat (base + 55 + r.length) :: r ++ t).getD (0 + 1) 0 = r.getD 0 0:=by
   cases r with
   | nil=>simp at hm1
   | cons a r=>rfl
  have hE:ybk (UInt8.ofNat (base + 55 + r.length) :: r ++ t) 0 r.length = 0:=by
   unfold ybk;rw [if_neg (by omega),if_neg (by simp only [jc9,jlc,jla];omega),if_neg];rw [hz,hB];rintro (g | g)
   ·rcases hf with f | f
    ·rw [f] at hm1;simp at hm1
    ·exact f (UInt8.toNat_inj.1 (by rw [g];rfl))
   ·omega
  unfold rawE yaV rawN;rw [hc];have q1:¬ base + 55 + r.length < 128:=by omega
  have q2:(base + 55 + r.length - 128) % 64 = 55 + r.length:=by omega
  have q3:¬ 55 + r.length < 56:=by omega
  rw [if_neg q1,if_neg q1,if_neg q1,q2,if_neg q3,if_neg q3,if_neg q3,show 55 + r.length - 55 = r.length by omega,hE,hB];exact ⟨by omega,by omega,rfl,by simp;omega,rfl,by omega⟩
theorem yer (n base:Nat):1 <= (ybb n base).length:=by unfold ybb;split <;> simp
theorem yia (n base:Nat) (t:List UInt8) (hn:n <= 65536) (hb:base = 128 \/ base = 192) (ht:n <= t.length) (h1:¬ (base = 128 /\ n = 1 /\ (t.getD 0 0).toNat < 128)) :
  yaU (ybb n base ++ t) ((0:Nat):Int) = 0 /\ yae (ybb n base ++ t) ((0:Nat):Int) = (ybb n base).length /\ ya1 (ybb n base ++ t) ((0:Nat):Int) = n /\ ybJ (ybb n base ++ t) ((0:Nat):Int) = decide (base = 192):=by
 obtain ⟨r1,r2,r3,r4,r5,r6⟩:=ynv n base t hn hb;have hp:=yer n base;have hl:(ybb n base ++ t).length = (ybb n base).length + t.length:=jla
 have hE:yaU (ybb n base ++ t) ((0:Nat):Int) = 0:=by
  unfold yaU;rw [if_neg (by omega),if_neg (by omega),jnc,if_neg (by rw [r3];simp),if_neg (by omega),if_neg];rintro ⟨g1,g2⟩;obtain ⟨e1,e2⟩:=r6 g1;subst e1;subst e2
  exact h1 ⟨rfl,rfl,by cases t with
   | nil=>exact g2
   | cons a t=>exact g2⟩
 refine ⟨hE,?_,?_,?_⟩
 ·unfold yae;rw [if_pos hE,jnc,r4]
 ·unfold ya1;rw [if_pos hE,jnc,r5]
 ·unfold ybJ;rw [if_pos hE,jnc];exact decide_eq_decide.2 r2
theorem yle (b:ByteArray):1 <= (ycl b).length:=by
 have h2:b.data.toList.length = b.size:=jb0;unfold ycl;split
 ·omega
 ·rw [jla];have:=yer b.size 128;omega
theorem ygE (x:Itm):1 <= (ya0 x).length:=by
 rw [yey];split
 ·rw [jla];have:=yer (bytesL x.items).length 192;omega
 ·exact yle _
theorem yig {l:List UInt8} {a:Nat} (h:yaU l (a:Int) = 0) (hc:128 <= yav l a):(l.drop a).take (yae l (a:Int) - a) = ybb (ya1 l (a:Int)) (if 192 <= yav l a then 192 else 128):=by
 obtain ⟨b0,b1,b2,b3,b4,b5⟩:=yb9 h;have e1:yae l (a:Int) = yaV l a:=by unfold yae;rw [if_pos h,jnc]
 have e2:ya1 l (a:Int) = rawN l a:=by unfold ya1;rw [if_pos h,jnc]
 rw [e1] at b1 b2 b3 b4 ⊢;rw [e2] at b1 b3 ⊢;unfold yaU at h;rw [if_neg (by omega),if_neg (by omega),jnc] at h;split at h
 ·rename_i g;exact absurd h g
 rename_i g
 have g:rawE l a = 0:=by simpa using g
 clear h b5 e1 e2
 have hd:l.drop a = UInt8.ofNat (yav l a) :: l.drop (a + 1):=by
  rw [jdc b0];unfold yav;rw [UInt8.ofNat_toNat,jg,je b0];rfl
 have hlt:=yfc l a;unfold rawE at g;unfold yaV rawN at *;have n1:¬ yav l a < 128:=by omega
 simp only [if_neg n1] at *;by_cases h2:(yav l a - 128) % 64 < 56
 ·simp only [if_pos h2] at *;rw [show a + 1 - a = 1 by omega,hd];unfold ybb;rw [if_pos h2,show (if 192 <= yav l a then 192 else 128) + (yav l a - 128) % 64 = yav l a by split <;> omega];rfl
 ·simp only [if_neg h2] at *;generalize hm:(yav l a - 128) % 64 - 55 = m at *;unfold ybk at g;split at g
  ·cases g
  rename_i g1
  split at g
  ·cases g
  rename_i g2
  split at g
  ·cases g
  rename_i g3
  have hlen:((l.drop (a + 1)).take m).length = m:=by rw [jc0,List.length_drop];omega
  have hbe:beN (lenB l a m) = (l.drop (a + 1)).take m:=by
   show beN (beV _) = _;refine ymS _ (by omega) ?_;rw [jg,ja9 (by omega),List.getElem?_drop,Nat.add_zero,<- jg];intro e;exact g3 (.inl (by rw [e];rfl))
  unfold ybb;rw [if_neg (by omega),hbe,hlen,show a + 1 + m - a = m + 1 by omega,hd,List.take_succ_cons,show (if 192 <= yav l a then 192 else 128) + 55 + m = yav l a by split <;> omega]
theorem ylt (b:ByteArray) (k:Nat) (h:(ycl b).length <= 65536):ybr k (ycl b) 0 = .ok (.mk false b [],(ycl b).length):=by
 have h2:b.data.toList.length = b.size:=jb0;unfold ycl at h ⊢;by_cases h1:b.size = 1 /\ (b.data.toList.getD 0 0).toNat < 128
 ·rw [if_pos h1] at h ⊢;cases hb:b.data.toList with
  | nil=>rw [hb] at h2;simp at h2;omega
  | cons z r =>
   rw [hb] at h2 h1;obtain rfl:r = []:=jb7 (by simp at h2;omega);have hz:yav [z] 0 < 128:=h1.2;have e1:rawE [z] 0 = 0:=if_pos hz;have e2:yaV [z] 0 = 0:=if_pos hz;have e3:rawN [z] 0 = 1:=if_pos hz
   have hE:yaU [z] ((0:Nat):Int) = 0:=by
    unfold yaU;rw [if_neg (by simp),if_neg (by simp),jnc,if_neg (by rw [e1];simp),if_neg (by rw [e2,e3];simp),if_neg (by omega)]
   have hF:yae [z] ((0:Nat):Int) = 0:=by unfold yae;rw [if_pos hE,jnc,e2]
   have hN:ya1 [z] ((0:Nat):Int) = 1:=by unfold ya1;rw [if_pos hE,jnc,e3]
   have hL:ybJ [z] ((0:Nat):Int) = false:=by unfold ybJ;rw [if_pos hE,jnc];exact decide_eq_false (by omega)
   rw [ybY (by omega) hE hL,hF,hN];have:b = ⟨#[z]⟩:=ycW (by rw [hb]);rw [this];rfl
 ·rw [if_neg h1] at h ⊢;rw [jla,h2] at h;obtain ⟨q1,q2,q3,q4⟩:=yia b.size 128 b.data.toList (by omega) (.inl rfl) (by omega) (by rintro ⟨_,g1,g2⟩;exact h1 ⟨g1,g2⟩);have q4:ybJ (ybb b.size 128 ++ b.data.toList) ((0:Nat):Int) = false:=q4;have q5:=(yb9 q1).2.2.2.2.2;rw [q4] at q5;have q5:¬ 192 <= yav (ybb b.size 128 ++ b.data.toList) 0:=of_decide_eq_false q5.symm;rw [ybY (fun g=>q5 g.2.1) q1 q4,q2,q3,List.drop_left' rfl,jtl (by omega),jla,h2]
mutual
theorem yi1:∀ (x:Itm) (k:Nat),k <= 12 -> yaO x (12 - k) = 0 -> (ya0 x).length <= 65536 -> ybr k (ya0 x) 0 = .ok (x,(ya0 x).length)
 | .mk l b xs,k,hk,hf,hl=>by
  rw [yaO] at hf;rw [ya0] at hl ⊢;split at hf
  ·cases hf
  rename_i h1
  cases l with
  | false =>
   have:xs = []:=jb7 (Classical.byContradiction fun h2=>h1 (.inr ⟨rfl,h2⟩));subst this;exact ylt b k hl
  | true =>
   have hb:=yeg (b:=b) (Classical.byContradiction fun h2=>h1 (.inl ⟨rfl,h2⟩));subst hb;rw [if_neg (by simp)] at hf;split at hf
   ·cases hf
   rename_i h3
   split at hf
   ·cases hf
   rename_i h4
   obtain ⟨j,rfl⟩:∃ j,k = j + 1:=⟨k - 1,by omega⟩;rw [show 12 - (j + 1) + 1 = 12 - j by omega] at hf;rw [if_pos rfl] at hl ⊢;have hl2:=hl;rw [jla] at hl2;obtain ⟨q1,q2,q3,q4⟩:=yia (bytesL xs).length 192 (bytesL xs) (by omega) (.inr rfl) (by omega) (by omega)
   rw [ydw q1 (by rw [q4];rfl),q2,q3,<- jla,List.take_length,
    back_items xs j (by omega) hf (ybb (bytesL xs).length 192 ++ bytesL xs) (ybb (bytesL xs).length 192).length 0 513 hl (by rw [List.drop_left' rfl]) (by rw [jla]) (by omega) (by omega)]
   rfl
theorem back_items:∀ (xs:List Itm) (k:Nat),k <= 12 -> formL xs (12 - k) = 0 -> ∀ (L:List UInt8) (p i f:Nat),L.length <= 65536 -> L.drop p = bytesL xs -> p + (bytesL xs).length = L.length -> xs.length + i <= 512 -> xs.length < f -> ya4 (ybr k L) L.length f i p = .ok xs
 | [],k,hk,hf,L,p,i,f,hL,hd,hp,hi,hff=>by
  obtain ⟨f,rfl⟩:∃ j,f = j + 1:=⟨f - 1,by simp at hff;omega⟩;unfold ya4;rw [bytesL] at hp;rw [if_neg (by simp at hp;omega)]
 | x :: xs,k,hk,hf,L,p,i,f,hL,hd,hp,hi,hff=>by
  obtain ⟨f,rfl⟩:∃ j,f = j + 1:=⟨f - 1,by simp at hff;omega⟩;rw [formL] at hf;split at hf
  ·rename_i h1;exact absurd hf h1
  rename_i h1
  have h1:yaO x (12 - k) = 0:=by simpa using h1
  rw [bytesL] at hd hp;rw [jla] at hp;rw [jlc] at hi hff;have hx:=yi1 x k hk h1 (by omega)
  have hs:=ykE k k (jle _) hx (l':=L) (a':=p) (fun j hj=>by
   have:=congrArg (fun l=>l[j]?) hd;simp only [List.getElem?_drop] at this;rw [this,jal (by omega),je1])
  have hpos:=ygE x;rw [Nat.sub_zero] at hs
  have hr:=back_items xs k hk hf L ((ya0 x).length + p) (i + 1) f hL (by
   rw [Nat.add_comm,<- List.drop_drop,hd,List.drop_left' rfl]) (by omega) (by omega) (by omega)
  unfold ya4;rw [if_pos (by omega),if_neg (by omega),hs];show (match ya4 (ybr k L) L.length f (i + 1) ((ya0 x).length + p) with | .error e=>Except.error e | .ok ys=>.ok (x :: ys)) = _;rw [hr]
end
theorem yjh {x:Itm} (h:ybG x = 0):ybz (ya0 x) = .ok x:=by
 obtain ⟨h1,h2,h3⟩:=ykY h;unfold ybz;rw [if_neg (by omega),yi1 x 12 (by omega) h3 h2];exact if_neg (by omega)
theorem yk8 {l:List UInt8} {rd:Nat -> Except Int (Itm × Nat)} {en d:Nat} (hen:en <= l.length)
  (hrd:∀ p y q,rd p = .ok (y,q) -> p < q /\ q <= en /\ ya0 y = (l.drop p).take (q - p) /\ yaO y d = 0 /\ wtF y <= 11 * (q - p)) (f:Nat) :
  ∀ (i p:Nat) (xs:List Itm),p <= en -> i <= 512 -> ya4 rd en f i p = .ok xs -> bytesL xs = (l.drop p).take (en - p) /\ formL xs d = 0 /\ wtL xs <= 11 * (en - p) /\ xs.length + i <= 512:=by
 induction f with
 | zero=>intro i p xs _ _ h;cases h
 | succ f ih =>
  intro i p xs hp hi h;cases xs with
  | nil =>
   have:=ykA h;obtain rfl:p = en:=by omega
   rw [Nat.sub_self,List.take_zero];exact ⟨rfl,rfl,by simp [wtL],by simp;omega⟩
  | cons x xs =>
   obtain ⟨h1,q,h2,h3⟩:=yk9 h
   have hi2:i < 512:=by
    unfold ya4 at h;rw [if_pos h1] at h;by_cases g:512 <= i
    ·rw [if_pos g] at h;cases h
    ·omega
   obtain ⟨r1,r2,r3,r4,r5⟩:=hrd _ _ _ h2;obtain ⟨s1,s2,s3,s4⟩:=ih (i + 1) q xs r2 (by omega) h3;refine ⟨?_,?_,?_,?_⟩
   ·rw [bytesL,r3,s1,show en - p = (q - p) + (en - q) by omega,List.take_add,List.drop_drop,show p + (q - p) = q by omega]
   ·rw [formL,if_neg (by rw [r4];simp)];exact s2
   ·rw [wtL];omega
   ·rw [jlc];omega
theorem ylX:∀ (k:Nat),k <= 12 -> ∀ {l:List UInt8} {a q:Nat} {x:Itm},ybr k l a = .ok (x,q) -> ya0 x = (l.drop a).take (q - a) /\ yaO x (12 - k) = 0 /\ wtF x <= 11 * (q - a):=by
 have text:∀ {l:List UInt8} {a d:Nat},yaU l (a:Int) = 0 -> ybJ l (a:Int) = false -> ya0 (.mk false ⟨((l.drop (yae l a)).take (ya1 l a)).toArray⟩ []) = (l.drop a).take (yae l a + ya1 l a - a) /\ yaO (.mk false ⟨((l.drop (yae l a)).take (ya1 l a)).toArray⟩ []) d = 0 /\ wtF (.mk false ⟨((l.drop (yae l a)).take (ya1 l a)).toArray⟩ []) <= 11 * (yae l a + ya1 l a - a):=by
  intro l a d h hL;obtain ⟨b0,b1,b2,b3,b4,b5⟩:=yb9 h;rw [hL] at b5;have b5:¬ 192 <= yav l a:=of_decide_eq_false b5.symm;have hz:((l.drop (yae l a)).take (ya1 l a)).length = ya1 l a:=by rw [jc0,List.length_drop];omega
  refine ⟨?_,?_,?_⟩
  ·rw [ya0,if_neg (by simp)];unfold ycl
   have hsz:(ByteArray.mk ((l.drop (yae l a)).take (ya1 l a)).toArray).size = ya1 l a:=by
    show (List.toArray _).size = _;rw [jd5,hz]
   rw [hsz];show (if _ /\ ((((l.drop (yae l a)).take (ya1 l a))).getD 0 0).toNat < 128 then (l.drop (yae l a)).take (ya1 l a) else _ ++ (l.drop (yae l a)).take (ya1 l a)) = _
   have hg:0 < ya1 l a -> (((l.drop (yae l a)).take (ya1 l a)).getD 0 0).toNat = yav l (yae l a):=by
    intro h0;unfold yav;rw [jg,ja9 h0,List.getElem?_drop,Nat.add_zero,<- jg]
   by_cases hc:yav l a < 128
   ·have e1:yae l (a:Int) = a:=by unfold yae;rw [if_pos h,jnc];exact if_pos hc
    have e2:ya1 l (a:Int) = 1:=by unfold ya1;rw [if_pos h,jnc];exact if_pos hc
    rw [if_pos ⟨e2,by rw [hg (by omega),e1];exact hc⟩,e1,e2,show a + 1 - a = 1 by omega]
   ·have hh:=yig h (by omega);rw [if_neg b5] at hh;rw [if_neg,<- hh]
    ·conv=>rhs;rw [show yae l (a:Int) + ya1 l (a:Int) - a = (yae l (a:Int) - a) + ya1 l (a:Int) by omega,List.take_add,List.drop_drop,show a + (yae l (a:Int) - a) = yae l (a:Int) by omega]
    ·rintro ⟨g1,g2⟩;rw [hg (by omega)] at g2;have e1:yae l (a:Int) = yaV l a:=by unfold yae;rw [if_pos h,jnc]
     have e2:ya1 l (a:Int) = rawN l a:=by unfold ya1;rw [if_pos h,jnc]
     rw [e2] at g1;rw [e1] at g2;have h':=h;unfold yaU at h';rw [if_neg (by omega),if_neg (by omega),jnc] at h';split at h'
     ·rename_i g;exact absurd h' g
     rename_i gE
     have gE:rawE l a = 0:=by simpa using gE
     split at h'
     ·cases h'
     split at h'
     ·cases h'
     rename_i g4
     unfold rawE at gE;unfold rawN at g1;unfold yaV at g2;rw [if_neg hc] at gE g1 g2;have hlt:=yfc l a;split at g1
     ·rename_i g5
      rw [if_pos g5] at g2;exact g4 ⟨by omega,g2⟩
     ·rename_i g5
      rw [if_neg g5] at gE;unfold ybk at gE;split at gE
      ·cases gE
      split at gE
      ·cases gE
      split at gE
      ·cases gE
      rename_i g6
      exact g6 (.inr (by omega))
  ·rw [yaO,if_neg (by simp),if_pos rfl]
  ·rw [wtF];show 10 + (List.toArray _).size + wtL [] <= _;rw [jd5,hz,wtL];omega
 intro k
 induction k with
 | zero =>
  intro hk l a q x h;obtain ⟨h1,h2,h3⟩:=ydv h;subst h3;have hg:ycR none l a = _:=h;unfold ycR at hg;rw [if_neg (by rintro hh;rw [if_pos hh] at hg;cases hg),if_neg (by simpa using h1)] at hg;clear h;split at hg
  ·rename_i hL
   injection hg with h;injection h with h _;rw [<- h];exact text h1 hL
  ·cases hg
 | succ k ih =>
  intro hk l a q x h;obtain ⟨h1,h2,h3⟩:=ydv h;cases hL:ybJ l (a:Int) with
  | false =>
   rw [ybY (by rintro ⟨_,_,g⟩;cases g) h1 hL] at h;injection h with h;injection h with h _;subst h3;rw [<- h];exact text h1 hL
  | true =>
   obtain ⟨b0,b1,b2,b3,b4,b5⟩:=yb9 h1;rw [hL] at b5;have b5:192 <= yav l a:=of_decide_eq_true b5.symm;have hh:=yig h1 (by omega);rw [if_pos b5] at hh
   have hFa:a < yae l (a:Int):=by
    have e:=congrArg List.length hh;have:=yer (ya1 l (a:Int)) 192;rw [jc0] at e;omega
   rw [ydw h1 hL] at h;subst h3;split at h
   ·cases h
   ·rename_i xs hxs
    injection h with h;injection h with h _;rw [<- h]
    obtain ⟨r1,r2,r3,r4⟩:=yk8 (l:=l) (d:=12 - k) b1 (fun p y q hy=>by
     obtain ⟨s1,s2,s3⟩:=ydv hy;obtain ⟨c0,c1,c2,c3,_,_⟩:=yb9 s1;rw [<- s3] at c1 c3;obtain ⟨t1,t2,t3⟩:=ih (by omega) hy;rw [jc0] at c1;refine ⟨c3,by omega,?_,t2,t3⟩;rw [t1,List.drop_take,List.take_take,Nat.min_eq_left (by omega)]) 513 0 _ xs (by omega) (by omega) hxs
    rw [show yae l (a:Int) + ya1 l (a:Int) - yae l (a:Int) = ya1 l (a:Int) by omega] at r1 r3;have hbl:(bytesL xs).length = ya1 l (a:Int):=by rw [r1,jc0,List.length_drop];omega
    refine ⟨?_,?_,?_⟩
    ·rw [ya0,if_pos rfl,hbl,<- hh,r1]
     conv=>rhs;rw [show yae l (a:Int) + ya1 l (a:Int) - a = (yae l (a:Int) - a) + ya1 l (a:Int) by omega,List.take_add,List.drop_drop,show a + (yae l (a:Int) - a) = yae l (a:Int) by omega]
    ·rw [yaO,if_neg (by simp),if_neg (by simp),if_neg (by omega),if_neg (by omega),show 12 - (k + 1) + 1 = 12 - k by omega];exact r2
    ·rw [wtF,show ByteArray.empty.size = 0 from rfl];omega
theorem yfG {l:List UInt8} {x:Itm} (h:ybz l = .ok x):ybG x = 0 /\ ya0 x = l /\ wtF x <= 11 * l.length:=by
 obtain ⟨g1,g2,g3⟩:=yfH h;unfold ybz at h;split at h
 ·cases h
 rename_i hl
 split at h
 ·cases h
 ·rename_i y q hi
  split at h
  ·cases h
  ·rename_i hq
   injection h with h;subst h;obtain ⟨_,_,e⟩:=ydv hi;have e:q = l.length:=by rw [<- g3,e];rfl
   obtain ⟨r1,r2,r3⟩:=ylX 12 (by omega) hi;rw [e,Nat.sub_zero,List.drop_zero,List.take_length] at r1;rw [e] at r3;refine ⟨?_,r1,by omega⟩;unfold ybG;rw [if_neg (by rw [show (0:Nat) = 12 - 12 from rfl,r2];simp),if_neg (by rw [r1];omega)]
theorem yp8 {l:List UInt8} {a T:Nat} {y:Itm} (h:itR l a = .ok (y,T)) (hl:l.length <= 1000000000000):∀ z ∈ y.items,z.bytes.size <= 9223372036854775807:=by
 unfold itR at h;split at h
 ·cases h
 ·split at h
  ·cases h
  ·rename_i x hx
   cases h;obtain ⟨_,_,hw⟩:=yfG hx;intro z hz;have h1:=ypl hz;have h2:=yeI y;have h3:=yeI z;have h4:((l.drop a).take (yae l a + ya1 l a - a)).length <= l.length:=by simp;omega
   omega
theorem ynr {s:ByteArray} {a T:Nat} {E:Int} {zs:List Itm} (h:ycg s a E = .ok (zs,T)):E = 0 /\ zs.length = 3 + kdV s a E:=by
 unfold ycg at h;split at h
 ·cases h
 ·rename_i h0
  have hE:E = 0:=by
   by_cases hE:E = 0
   ·exact hE
   ·exact absurd (show kdE s a E ≠ 0 by unfold kdE;rw [if_pos hE];exact hE) h0
  split at h
  ·cases h
  ·split at h
   ·cases h
   ·rename_i h1
    split at h
    ·cases h
    ·cases h;refine ⟨hE,?_⟩;have h2:=ycK (ykl (show rwE _ _ _ _ 0 = 0 from jb5.1 h1)).2.2;omega
theorem ylD {s:ByteArray} {a:Nat} {E:Int} (hE:E ≠ 0):ycg s a E = .error E:=by
 have h:kdE s a E = E:=by unfold kdE;rw [if_pos hE]
 unfold ycg;rw [h,if_pos hE]
theorem AccQ.weak {o o' n:Nat} {u:World} {ls:List AccV} {A:Option Addr} (h:AccQ o u ls A n) (ho:o' <= o):AccQ o' u ls A n:=by
 refine ⟨h.1,fun h0=>?_⟩;obtain ⟨g,off,h1,h2,h3,h4⟩:=h.2 h0;refine ⟨g,off,h1,jlt ho h2,h3,fun i hi=>?_⟩;obtain ⟨T,tc,a,b,c,d⟩:=h4 i hi;exact ⟨T,tc,a,b,c.weak fun g hg=>jlt ho hg,d⟩
theorem ycD {α:Type} (ts:List α) (t d:α) {i:Nat} (h:i < ts.length):(ts ++ [t]).getD i d = ts.getD i d:=by
 rw [jg,jg,jal h]
theorem ycE {α:Type} (ts:List α) (t d:α) {i:Nat} (h:ts.length = i):(ts ++ [t]).getD i d = t:=by
 subst h;simp [jg]
theorem ynL (kd:Nat) (zs:List Itm) (y R S:Nat) (d:ByteArray):(gotT kd zs y R S d).acc = (gotA kd zs).1:=rfl
theorem GetS.next {wG u u':World} {s signs:ByteArray} {r sg l n k a sa yv R S:Nat} {d:ByteArray} {E SE:Int} {C:Array Value} {ks:List Nat} {ts:List TxV} {e:Ending} (h:GetS wG s signs r sg l n k a sa E SE C (txL (ycG yv R S d) (.slice none 0 0) (.slice none 0 0)) ks ts u) (hk:k < n)
  (he:yfT s a E r l (36 * k) C u e u'):e = .returned (.tuple #[]) /\ ∃ a' E' C' ts',GetS wG s signs r sg l n (k + 1) a' sa E' SE C' blankL (ks ++ [kdV s a E]) ts' u' /\ C'[36 * k]? = some (.int .i64 ((kdV s a E:Nat):Int)) /\
   ((E' ≠ 0 /\ ycg s a E = .error E' /\ ts' = ts) \/ (∃ zs,E' = 0 /\ ycg s a E = .ok (zs,a') /\ ts' = ts ++ [gotT (kdV s a E) zs yv R S d])):=by
 obtain ⟨a',E',C',rfl,hrd,ha',hrow,hsz,hfar,hkd,hg,hE⟩:=he;refine ⟨rfl,?_⟩;have hlk:=h.lk;have hrl:=h.rl;have hll:=h.ll;have hgs:=h.gr.size;have hcell:∀ (p:Addr) v,wG.heap.size <= p.block -> u.cell? p = some v -> u'.cell? p = some v:=fun p v hp hv=>hg.cell hv (by omega) (by omega)
 have base:∀ ts',(E' = 0 -> ts'.length = k + 1) -> (E' = 0 -> ∀ i,i < k + 1 -> ∃ sl,Win C' (36 * i) (txL (ts'.getD i TxV.zero) sl (.slice none 0 0)) /\ SlQ wG.heap.size u' (ts'.getD i TxV.zero) sl /\ (ts'.getD i TxV.zero).kind = (((ks ++ [kdV s a E]).getD i 0:Nat):Int)) ->
   GetS wG s signs r sg l n (k + 1) a' sa E' SE C' blankL (ks ++ [kdV s a E]) ts' u':=fun ts' h1 h2 =>
  ⟨hrd,(hg.block sg h.sd.lt (fun e=>h.rg e.symm) h.gw).trans h.sd,hrow,h.gr.rest hg,h.rl,h.gl,h.ll,h.rg,h.rw,h.gw,ha',h.hsa,hsz.trans h.size,hk,by simp [hlk],h1,
   fun i hi=>by
    by_cases hik:i < k
    ·rw [hfar _ (.inl (by omega)),h.kind i hik,ycD _ _ _ (by omega)]
    ·obtain rfl:i = k:=by omega
     rw [hkd,ycE _ _ _ hlk],
   h2,rfl,fun hk1 f hf=>(hfar _ (.inr (by omega))).trans (h.blank (k + 1) (by omega) hk1 f hf),fun i h3 h4 f hf=>(hfar _ (.inr (by omega))).trans (h.blank i (by omega) h4 f hf)⟩
 rcases hE with ⟨hne,hR⟩ | ⟨zs,T,A,c,vs,rfl,hR,rfl,rfl,hacc⟩
 ·exact ⟨a',E',C',ts,base ts (fun e=>absurd e hne) (fun e=>absurd e hne),hkd,.inl ⟨hne,hR,rfl⟩⟩
 ·obtain ⟨hE0,hlen⟩:=ynr hR;have hlt:=h.lt hE0;refine ⟨a',0,_,ts ++ [gotT (kdV s a E) zs yv R S d],base _ (fun _=>by simp [hlt]) (fun _ i hi=>?_),hkd,.inr ⟨zs,rfl,hR,rfl⟩⟩;by_cases hik:i < k
  ·rw [ycD _ _ _ (by omega),ycD _ _ _ (by omega)];obtain ⟨sl,w1,w2,w3⟩:=h.good hE0 i hik;exact ⟨sl,fun f hf=>(hfar _ (.inl (by omega))).trans (w1 f hf),w2.keep hg.size hcell,w3⟩
  ·obtain rfl:i = k:=by omega
   rw [ycE _ _ _ hlt,ycE _ _ _ hlk];refine ⟨_,yoR (kdV s a E) zs yv R S d C (36 * i) (.slice A (gotA (kdV s a E) zs).1.length c) (yjH s a E) hlen (h.win hk),?_,rfl⟩;by_cases h0:kdV s a E = 0
   ·rw [if_pos h0];have hz:(gotT (kdV s a E) zs yv R S d).acc = []:=by rw [ynL];unfold gotA;rw [if_pos h0]
    exact ⟨none,0,by rw [hz];rfl,by rw [hz];exact ⟨rfl,fun h=>absurd h (Nat.lt_irrefl _)⟩⟩
   ·rw [if_neg h0];exact ⟨A,c,rfl,(hacc h0).toQ.weak hgs⟩
theorem ynj {s:ByteArray} {a n:Nat} {E:Int} (h:tkE s a n E = 0):E = 0 /\ a + n <= s.size:=by
 unfold tkE at h;split at h
 ·split at h
  ·cases h
  ·rename_i h1 h2;exact ⟨h1,by omega⟩
 ·rename_i h1;exact absurd h h1
theorem yj2 {s:ByteArray} {a n:Nat} {E:Int} (h:tkE s a n E = 0):(tkS s a n E).size = n:=by
 have:=(ynj h).2;unfold tkS;rw [if_pos h,ByteArray.size_extract];omega
def InvG (s sgs:ByteArray) (nl yl:List Bool) (n k ak sa:Nat) (Ek SE E4:Int) (ts:List TxV) (tk:ByteArray) (R0:Except Int (List TxV × Nat)):Prop :=
 (Ek = 0 /\ SE = 0 /\ sa = 64 * k /\ E4 = 0 /\ R0 = ygc ts (ycA s sgs nl yl (n - k) k ak tk)) \/ (Ek ≠ 0 /\ R0 = .error Ek)
theorem InvG.step {s sgs:ByteArray} {nl yl:List Bool} {n k ak sa a' sa2 yv R S2:Nat} {Ek SE E4 E' SE2:Int} {ts ts':List TxV} {tk tk2 dv:ByteArray} {R0:Except Int (List TxV × Nat)} (h:InvG s sgs nl yl n k ak sa Ek SE E4 ts tk R0) (hk:k < n) (hsz:E4 = 0 -> sgs.size = 64 * n)
  (hR:wdN sgs sa SE = R) (hS2:wdN sgs (tkA sgs sa 32 SE) (tkE sgs sa 32 SE) = S2) (hsa2:tkA sgs (tkA sgs sa 32 SE) 32 (tkE sgs sa 32 SE) = sa2) (hSE2:tkE sgs (tkA sgs sa 32 SE) 32 (tkE sgs sa 32 SE) = SE2) (hyv:(if yl.getD k false then 1 else 0) = yv)
  (htk2:(if nl.getD k false = false /\ 20 <= tk.size then tk.extract 20 tk.size else tk) = tk2) (hdv:(if nl.getD k false = false /\ 20 <= tk.size then tk.extract 0 20 else ⟨#[]⟩) = dv)
  (hE:(E' ≠ 0 /\ ycg s ak Ek = .error E' /\ ts' = ts) \/ (∃ zs,E' = 0 /\ ycg s ak Ek = .ok (zs,a') /\ ts' = ts ++ [gotT (kdV s ak Ek) zs yv R S2 dv])) :
  InvG s sgs nl yl n (k + 1) a' sa2 E' SE2 E4 ts' tk2 R0:=by
 rcases h with ⟨rfl,rfl,rfl,h4,hR0⟩ | ⟨h1,h2⟩
 ·obtain ⟨m,hm⟩:∃ m,n - k = m + 1:=⟨n - k - 1,by omega⟩;have hm2:n - (k + 1) = m:=by omega
  rw [hm] at hR0;obtain ⟨x1,x2,x3,x4⟩:=yoo (hsz h4) hk;rw [x1,x2] at hS2 hsa2 hSE2;rw [x4] at hsa2;rw [x3] at hSE2;rcases hE with ⟨e1,e2,e3⟩ | ⟨zs,e1,e2,e3⟩
  ·rw [ymx e2] at hR0;exact .inr ⟨e1,hR0⟩
  ·rw [yg5 e2,ykG,hR,hS2,hyv,htk2,hdv] at hR0;refine .inl ⟨e1,hSE2.symm,hsa2.symm,h4,?_⟩;rw [hm2,e3];exact hR0
 ·rw [ylD h1] at hE;rcases hE with ⟨e1,e2,e3⟩ | ⟨zs,e1,e2,e3⟩
  ·cases e2;exact .inr ⟨h1,h2⟩
  ·cases e2
theorem ygD (ks:List Nat) (x:Nat):(ks ++ [x]).count 0 = ks.count 0 + if x = 0 then 1 else 0:=by
 rw [List.count_append];by_cases h:x = 0
 ·subst h;simp
 ·rw [if_neg h];simp [List.count_cons,h]
theorem yfj (l:List UInt8):∀ k a,(ya7 l k a).2.2 = 0 -> (ya7 l k a).1.length = k /\ ∀ x ∈ (ya7 l k a).1,0 <= x /\ x < 18446744073709551616
 | 0,a,_=>⟨rfl,fun x h=>by simp [ya7] at h⟩
 | k + 1,a,h=>by
  rw [ya7] at h ⊢;simp only at h ⊢;split at h
  ·rename_i h1;exact absurd h h1
  ·rename_i h1
   rw [if_neg h1];split at h
   ·rename_i h2;exact absurd h h2
   ·rename_i h2
    rw [if_neg h2];obtain ⟨g1,g2⟩:=yfj l k _ (jb5.1 h2);refine ⟨by simp [g1],fun x hx=>?_⟩;rcases List.mem_cons.1 hx with rfl | hx
    ·have:=(yaX l (a:Int)).1.isLt;constructor <;> omega
    ·exact g2 x hx
theorem yma (s:ByteArray) (a n:Nat) (E:Int) (ha:a <= s.size) (hn:n <= 4096):(nuL s a n E).length = n /\ ∀ x ∈ nuL s a n E,0 <= x /\ x < 18446744073709551616:=by
 unfold nuL;split
 ·rename_i h
  unfold nuE at h;split at h
  ·have hl:=yan s;unfold yaQ at h ⊢;rw [if_neg (by omega)] at h ⊢;simp only [jnc] at h ⊢;exact yfj _ _ _ h
  ·rename_i h1;exact absurd h h1
 ·exact ⟨by simp,fun x hx=>by rw [List.eq_of_mem_replicate hx];constructor <;> omega⟩
def nuN (s:ByteArray) (a n:Nat) (E:Int):List Nat:=(nuL s a n E).map Int.toNat
theorem ycP (s:ByteArray) (a n:Nat) (E:Int) (ha:a <= s.size) (hn:n <= 4096):(nuN s a n E).length = n /\ (∀ x ∈ nuN s a n E,x < 18446744073709551616) /\ nuL s a n E = (nuN s a n E).map (fun (x:Nat)=>(x:Int)):=by
 obtain ⟨h1,h2⟩:=yma s a n E ha hn;refine ⟨by simp [nuN,h1],fun x hx=>?_,?_⟩
 ·obtain ⟨y,hy,rfl⟩:=List.mem_map.1 hx;have:=h2 y hy;omega
 ·unfold nuN;rw [List.map_map]
  conv=>lhs;rw [<- List.map_id (nuL s a n E)]
  exact List.map_congr_left fun x hx=>by have:=h2 x hx;simp;omega
def ycq (chain:Nat) (t:TxV) (no ga:Nat) (ch:Bool):TxV:={ t with nonce:=no,gas:=ga,chain:=if ch then chain else 0 }
def yaY (chain:Nat):List TxV -> List Nat -> List Nat -> List Bool -> List TxV
 | [],_,_,_=>[]
 | t :: ts,ns,gs,cs=>if t.kind = 0 then ycq chain t (ns.headD 0) (gs.headD 0) (cs.headD false) :: yaY chain ts ns.tail gs.tail cs.tail else ycq chain t (ns.headD 0) (gs.headD 0) true :: yaY chain ts ns.tail gs.tail cs
theorem yg9 (chain:Nat):∀ (ts:List TxV) (ns gs:List Nat) (cs:List Bool),(yaY chain ts ns gs cs).length = ts.length
 | [],_,_,_=>rfl
 | t :: ts,ns,gs,cs=>by unfold yaY;split <;> simp [yg9 chain ts]
def legN (ts:List TxV):Nat:=(ts.map TxV.kind).count 0
def ynB (s:ByteArray) (n chain:Nat) (ts:List TxV) (a:Nat):Except Int (List TxV × Nat) :=
 if btE s (nuA s (nuA s a n 0) n (nuE s a n 0)) (legN ts) (nuE s (nuA s a n 0) n (nuE s a n 0)) ≠ 0 then .error (btE s (nuA s (nuA s a n 0) n (nuE s a n 0)) (legN ts) (nuE s (nuA s a n 0) n (nuE s a n 0)))
 else if yaA (yaY chain ts (nuN s a n 0) (nuN s (nuA s a n 0) n (nuE s a n 0)) (btL s (nuA s (nuA s a n 0) n (nuE s a n 0)) (legN ts) (nuE s (nuA s a n 0) n (nuE s a n 0)))) chain ≠ 0
  then .error (yaA (yaY chain ts (nuN s a n 0) (nuN s (nuA s a n 0) n (nuE s a n 0)) (btL s (nuA s (nuA s a n 0) n (nuE s a n 0)) (legN ts) (nuE s (nuA s a n 0) n (nuE s a n 0)))) chain)
 else .ok (yaY chain ts (nuN s a n 0) (nuN s (nuA s a n 0) n (nuE s a n 0)) (btL s (nuA s (nuA s a n 0) n (nuE s a n 0)) (legN ts) (nuE s (nuA s a n 0) n (nuE s a n 0))),btA s (nuA s (nuA s a n 0) n (nuE s a n 0)) (legN ts) (nuE s (nuA s a n 0) n (nuE s a n 0)))
def endR (s:ByteArray) (n chain:Nat):Except Int (List TxV × Nat) -> Except Int (List TxV × Nat)
 | .error e=>.error e
 | .ok (ts,a)=>ynB s n chain ts a
def fixR (s:ByteArray) (n:Nat) (nl:List Bool) (A1:Nat) (E1:Int):Except Int (List TxV × Nat) :=
 if tkE s (tkA s (btA s A1 n E1) (64 * n) (btE s A1 n E1)) (20 * (n - cntB nl)) (tkE s (btA s A1 n E1) (64 * n) (btE s A1 n E1)) ≠ 0 then .error (tkE s (tkA s (btA s A1 n E1) (64 * n) (btE s A1 n E1)) (20 * (n - cntB nl)) (tkE s (btA s A1 n E1) (64 * n) (btE s A1 n E1)))
 else ycA s (tkS s (btA s A1 n E1) (64 * n) (btE s A1 n E1)) nl (btL s A1 n E1) n 0 (tkA s (tkA s (btA s A1 n E1) (64 * n) (btE s A1 n E1)) (20 * (n - cntB nl)) (tkE s (btA s A1 n E1) (64 * n) (btE s A1 n E1))) (tkS s (tkA s (btA s A1 n E1) (64 * n) (btE s A1 n E1)) (20 * (n - cntB nl)) (tkE s (btA s A1 n E1) (64 * n) (btE s A1 n E1)))
def getR (s:ByteArray) (a n chain:Nat):Except Int (List TxV × Nat):=endR s n chain (fixR s n (btL s a n 0) (btA s a n 0) (btE s a n 0))
structure ydX (t:TxV):Prop where
 ok:t.Ok
 aut:t.auths = []
 acc:t.acc.length <= 16
 kind:t.kind = 0 \/ t.kind = 1 \/ t.kind = 2
theorem yj6:(256:Nat) ^ 32 = 115792089237316195423570985008687907853269984665640564039457584007913129639936:=by decide
theorem yox {l:List UInt8} (h:l.length <= 32):beV l < 115792089237316195423570985008687907853269984665640564039457584007913129639936:=by
 have h1:=ymP l;have h2:(256:Nat) ^ l.length <= 256 ^ 32:=Nat.pow_le_pow_right (by omega) h;rw [yj6] at h2;omega
theorem ymp (z:Itm):itW z < 115792089237316195423570985008687907853269984665640564039457584007913129639936:=by
 unfold itW;split
 ·rename_i h
  refine yox ?_;have h2:=h.2;unfold ybF at h2;split at h2
  ·cases h2
  ·omega
 ·decide
theorem ylo (s:ByteArray) (a:Nat) (E:Int):wdN s a E < 115792089237316195423570985008687907853269984665640564039457584007913129639936:=by
 unfold wdN;split
 ·refine yox ?_;rw [yan];exact yeU s a 32 E
 ·decide
theorem yi2:∀ (ys:List Itm) (E:Int),(yci ys E).1.length <= ys.length
 | [],E=>by simp [yci]
 | y :: ys,E=>by
  unfold yci;split
  ·simp
  ·simp only [jlc];have:=yi2 ys (prE y);omega
theorem yoE (x:Itm) (E:Int):(rwL 0 16 x E).length <= 16:=by
 unfold rwL;split
 ·rename_i h
  have:=ycK (ykl h).2.2;omega
 ·simp
theorem ynM (kd:Nat) (zs:List Itm):(gotA kd zs).1.length <= 16:=by
 unfold gotA;split
 ·simp
 ·exact jlt (yi2 _ _) (yoE _ _)
theorem yoS (kd:Nat) (zs:List Itm) (y R S:Nat) (d:ByteArray) (hk:kd = 0 \/ kd = 1 \/ kd = 2) (hy:y <= 1) (hR:R < 115792089237316195423570985008687907853269984665640564039457584007913129639936) (hS:S < 115792089237316195423570985008687907853269984665640564039457584007913129639936):ydX (gotT kd zs y R S d):=by
 refine ⟨⟨by show (0:Nat) < _;omega,by show (0:Nat) < _;omega,?_,ymp _,by show (0:Nat) < _;omega,ymp _,by show y < _;omega,hR,hS,by show (0:Nat) < _;omega,fun a h=>by cases h⟩,rfl,ynM kd zs,?_⟩
 ·show (if kd = 2 then itW (zs.getD 1 Itm.none_) else 0) < _;split
  ·exact ymp _
  ·omega
 ·show ((kd:Int) = 0 \/ (kd:Int) = 1 \/ (kd:Int) = 2);omega
theorem yg3 {s sgs:ByteArray} {nl yl:List Bool}:∀ {m i a b:Nat} {tos:ByteArray} {ts:List TxV},ycA s sgs nl yl m i a tos = .ok (ts,b) -> ts.length = m /\ ∀ t ∈ ts,ydX t
 | 0,i,a,b,tos,ts,h=>by
  rw [ycA] at h;cases h;exact ⟨rfl,fun t h=>by cases h⟩
 | m + 1,i,a,b,tos,ts,h=>by
  rw [ycA] at h;split at h
  ·cases h
  ·split at h
   ·cases h
   ·rename_i us c hg
    cases h;obtain ⟨h1,h2⟩:=yg3 hg;refine ⟨by simp [h1],fun t ht=>?_⟩;rcases List.mem_cons.1 ht with rfl | ht
    ·exact yoS _ _ _ _ _ _ (yjH _ _ _) (by split <;> omega) (ylo _ _ _) (ylo _ _ _)
    ·exact h2 t ht
theorem yjS {chain:Nat} {t:TxV} {no ga:Nat} {ch:Bool} (h:ydX t) (hc:chain < 18446744073709551616) (hn:no < 18446744073709551616) (hg:ga < 18446744073709551616):ydX (ycq chain t no ga ch):=by
 obtain ⟨⟨a1,a2,a3,a4,a5,a6,a7,a8,a9,a10,a11⟩,b,c,d⟩:=h;refine ⟨⟨?_,hn,a3,a4,hg,a6,a7,a8,a9,a10,a11⟩,b,c,d⟩;show (if ch then chain else 0) < _;split
 ·exact hc
 ·omega
end Go.Proofs.YtmaggfokhlodnaaGreatDoor
