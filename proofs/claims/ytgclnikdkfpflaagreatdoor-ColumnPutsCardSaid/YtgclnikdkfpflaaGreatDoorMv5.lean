/- Merged: WrdR, RlpA1, RlpE, RlpF, RlpG, RlpG1, DerA, DerB, DerC, FldV, DerD, CoJ, FldR, SzA, CoF, CoG, MapF, UwA, TxD, ExC. -/
import Derived.Test.YtgclnikdkfpflaaGreatDoorMv1
import Derived.Test.YtgclnikdkfpflaaGreatDoorMv2
import Derived.Test.YtgclnikdkfpflaaGreatDoorMv3
import Derived.Test.YtgclnikdkfpflaaGreatDoorMv4
import Derived.WalkLawsBesides
import Derived.Recover
import Derived.Defers
import Derived.MapKept
import Derived.RangeFuncRecord
namespace Go.Proofs.YtgclnikdkfpflaaGreatDoor
open Go.RowKit Go.Shelf
open List renaming set_cons_zero → jz, set_cons_succ → js, setIfInBounds_toArray → jb
set_option linter.unusedVariables false
set_option linter.unusedSimpArgs false
set_option maxRecDepth 100000
set_option maxHeartbeats 16000000
open Lib renaming hid → jh
open Act renaming put → jp
open World.grownBy renaming refl → jr
open _root_.List renaming getD_eq_getElem?_getD → jg, getElem?_eq_getElem → je, getElem?_cons_zero → jcz, getElem?_cons_succ → jcs, getElem?_toArray → jta, getElem?_append_right → jar, getElem?_append_left → jal, take_of_length_le → jtl, length_cons → jlc, getElem?_map → jgm, eq_nil_of_length_eq_zero → jb7, size_toArray → jd9
open _root_.Option.some renaming inj → ji
open _root_.Array renaming getElem?_eq_some_iff → jes, length_toList → jb0, getElem?_eq_getElem → jb4
open World renaming size_alloc → jsa, ownsRow_nil → jon, cell?_setCell_far → jd1
open IntWalk renaming i64_in → jii
open _root_.Nat renaming le_trans → jlt, le_refl → jle
open _root_.Go.Proofs.Tryz renaming prog → jq, underlying104 → ja7, underlying9 → ja9, underlying3 → jb8, underlying26 → je1
open Go renaming wp_region_list → jwl, bodyPost_ret → jbr, wpAnyH_done → jwd, wp_region_held → jwh, run_append_own_at → jra
open _root_.Go.Proofs renaming enters_of → jeo
open _root_.Option renaming some → ja1
open Value renaming oneCell' → ja2, slice → ja4, string → ja8, ownBlock → jc2
open Below renaming refl → jc5
open _root_.Int renaming tdiv_eq_ediv_of_nonneg → je2, tmod_eq_emod_of_nonneg → je3
theorem ym9 (a0 a1 a2 a3 m:Nat) (hm:m < 32) (w:World) :
  Calls jq 114 #[.agg #[.int .u64 (a0:Int),.int .u64 (a1:Int),.int .u64 (a2:Int),.int .u64 (a3:Int)],.int .i64 (m:Int)] w fun e w'=>e = .returned (.int .i64 ((yeN [a0,a1,a2,a3] m).toNat:Int)) /\ w.grownBy w' none:=by
 have hB:=Blk.new w 38 #[.int .u64 (a0:Int),.int .u64 (a1:Int),.int .u64 (a2:Int),.int .u64 (a3:Int)];have hG:=yaa (jr w none) (.cells #[.int .u64 (a0:Int),.int .u64 (a1:Int),.int .u64 (a2:Int),.int .u64 (a3:Int)] 38);obtain ⟨q,hq⟩:∃ q,m / 8 = q:=⟨_,rfl⟩;obtain ⟨r8,hr8⟩:∃ r,m % 8 = r:=⟨_,rfl⟩;obtain ⟨r,hr⟩:∃ r,r8 * 8 = r:=⟨_,rfl⟩;have f2:=yh2 hB q (by omega);obtain ⟨v,hv⟩:∃ v,[a0,a1,a2,a3].getD q 0 = v:=⟨_,rfl⟩;obtain ⟨z,hz⟩:∃ z,yeN [a0,a1,a2,a3] m = z:=⟨_,rfl⟩
 have hzz:z = UInt8.ofNat (v / 2 ^ r % 256):=by
  rw [<- hz];unfold yeN;rw [hq,hr8,hr,hv]
 rw [hv] at f2;have p1:(m:Int).tdiv 8 = (q:Int):=by rw [je2 (by omega)];omega
 have p2:IntKind.i64.wrap (q:Int) = (q:Int):=jii _ (by omega);have p3:(m:Int).tmod 8 = (r8:Int):=by rw [je3 (by omega)];omega
 have p4:IntKind.i64.wrap ((r8:Int) * 8) = (r:Int):=by rw [jii _ (by omega)];omega
 have p5:((v:Int) / 2 ^ r).tmod 256 = (z.toNat:Int):=by
  rw [show (v:Int) / 2 ^ r = ((v / 2 ^ r:Nat):Int) by simp,je3 (Int.natCast_nonneg _),hzz]
  simp
 have p7:IntKind.u64.wrap (z.toNat:Int) = (z.toNat:Int):=by have:=z.toNat_lt;simp [IntKind.wrap,IntKind.bits,IntKind.signed];omega
 have p9:IntKind.i64.wrap (z.toNat:Int) = (z.toNat:Int):=by have:=z.toNat_lt;exact jii _ (by omega)
 have p8:=yll r (by omega);have q1:(q:Int) < 4:=by omega
 have q3:r < 64:=by omega
 have HZ:=jh hz;clear hq hr8 hr hv hz hzz hB;go_enter Tryz.func114,Tryz.ntmps114
 go_upto_region 1 with (fail)
 generalize w.alloc (.cells #[.int .u64 (a0:Int),.int .u64 (a1:Int),.int .u64 (a2:Int),.int .u64 (a3:Int)] 38) = W at *;go_wp2_with fail
 go_ret
 exact ⟨by rw [HZ.out];rfl,hG⟩
theorem ym6 (a:List Nat) (m:Nat) (hm:m < 32):u8s ((fixL a).take (m + 1)) = u8s ((fixL a).take m) ++ [.int .u8 ((yeN a (31 - m)).toNat:Int)]:=by
 have:(fixL a).take (m + 1) = (fixL a).take m ++ [yeN a (31 - m)]:=by
  rw [List.take_add_one,show (fixL a)[m]? = some (yeN a (31 - m)) by unfold fixL;rw [jgm,List.getElem?_range hm];rfl];rfl
 rw [this];simp [u8s]
theorem yg7 (a0 a1 a2 a3:Nat) (w:World) :
  Calls jq 77 #[.agg #[.int .u64 (a0:Int),.int .u64 (a1:Int),.int .u64 (a2:Int),.int .u64 (a3:Int)]] w fun e w'=>e = .returned (.string ⟨(fixL [a0,a1,a2,a3]).toArray⟩) /\ w.grownBy w' none:=by
 have hB:=Blk.new w 38 #[.int .u64 (a0:Int),.int .u64 (a1:Int),.int .u64 (a2:Int),.int .u64 (a3:Int)];have hG:=yaa (jr w none) (.cells #[.int .u64 (a0:Int),.int .u64 (a1:Int),.int .u64 (a2:Int),.int .u64 (a3:Int)] 38);have hZ:(w.alloc (.cells #[.int .u64 (a0:Int),.int .u64 (a1:Int),.int .u64 (a2:Int),.int .u64 (a3:Int)] 38)).heap.size = w.heap.size + 1:=by simp
 have HD:=jh (fun m hm V=>ym9 a0 a1 a2 a3 m hm V);obtain ⟨i0,z0,hi,hz0,hz1,hz2,hz3⟩:=yfJ;go_enter Tryz.func77,Tryz.ntmps77
 go_upto_region 1 with (fail)
 generalize w.alloc (.cells #[.int .u64 (a0:Int),.int .u64 (a1:Int),.int .u64 (a2:Int),.int .u64 (a3:Int)] 38) = W at *;obtain ⟨b,hb⟩:∃ b,w.heap.size = b:=⟨_,rfl⟩;rw [hb] at hB hZ ⊢;go_wp2_with fail
 go_loopw [3,4] (fun v i wr=>∃ m:Nat,i = .int .i64 (31 - (m:Int)) /\ m <= 32 /\ wr.ownsRow (b + 1) 5 1 v m (u8s ((fixL [a0,a1,a2,a3]).take m)) /\ Blk wr b 38 #[.int .u64 (a0:Int),.int .u64 (a1:Int),.int .u64 (a2:Int),.int .u64 (a3:Int)] /\ w.grownBy wr none /\ b + 1 <= wr.heap.size) (fun _ i _=>(1 + intOf i).toNat)
 case atStart=>exact ⟨0,rfl,by omega,jon _ _ _ _,hB,hG,by omega⟩
 case round =>
  clear hB hG hZ;obtain ⟨m,rfl,hm,hO,hB,hG,hsz⟩:=hrel;by_cases hlt:m < 32
  ·obtain ⟨p,hp⟩:∃ p,31 - m = p:=⟨_,rfl⟩;have d0:(0:Int) <= 31 - (m:Int):=by omega
   have e0:31 - (m:Int) = (p:Int):=by omega
   rw [e0] at d0 ⊢;have hst:=ym6 [a0,a1,a2,a3] m hlt;rw [hp] at hst;have hdg:=fun V=>HD.out p (by omega) V;generalize yeN [a0,a1,a2,a3] p = z at *;have HDG:=jh hdg;have HS:=jh hst;have c0:=hB.cell 0;have c1:=hB.cell 1;have c2:=hB.cell 2;have c3:=hB.cell 3;simp only [jta,jcz,jcs] at c0 c1 c2 c3;have p7:IntKind.u8.wrap (z.toNat:Int) = (z.toNat:Int):=by have:=z.toNat_lt;simp [IntKind.wrap,IntKind.bits,IntKind.signed];omega
   have d9:(p:Int) <= 31:=by omega
   have HP0:=jh e0;clear hdg hst hp e0;obtain ⟨A,cc,rfl,_⟩:=yaN hO;go_wp2_with fail
   refine (HDG.out _).mono ?_;rintro e w2 ⟨rfl,hg2⟩;have hB:=hB.grown hg2 (by simp);have hO:=hO.kept hg2 (by cases A;exact .inl rfl;exact .inr (by simp [jc2]));have hsz2:=hg2.size;have hG:=yab hG hg2 (by simp);clear c0 c1 c2 c3;go_wp2_with (at_builtin;refine wpList_append_own _ rfl _ _ 43 rfl (b + 1) 5 i0 z0 1 1 Tryz.underlying43 hi hz0 hz1 hz2 hz3 (by decide) _ _ _ rfl (hO.alloc _) ⟨w2.heap.size,0,none⟩ 1 1 [.int .u8 (z.toNat:Int)] rfl rfl (cell_one_new _ _ _) (by simp [ja2]) (by simp only [maxLen];omega) (by omega) (by simp;omega) ?_;intro v' w4 hown4 hgrow _)
   obtain ⟨g',cap',rfl⟩:=ownsRow_succ hown4;have hne:∀ k,jc2 (.slice A m cc) = some k -> b + 1 <= k:=fun k hk=>yek hO hk;go_wp2_with fail
   go_roundw
   case rel =>
    refine ⟨m + 1,by have:=HP0.out;simp;omega,by omega,by rw [HS.out];exact hown4,?_,?_,?_⟩
    ·exact (hB.alloc _).grown hgrow (fun e=>by have:=hne b e.symm;omega)
    ·exact yab (yaa hG _) hgrow (fun j hj=>.inr (by have:=hne j hj;omega))
    ·have:=hgrow.size;simp at this;omega
   case measure=>simp [intOf];omega
  ·have hm:m = 32:=by omega
   have e32:(fixL [a0,a1,a2,a3]).take m = fixL [a0,a1,a2,a3]:=by rw [hm,jtl (by rw [ycq];omega)]
   rw [e32] at hO;have hfin:decide ((0:Int) <= 31 - (m:Int)) = false:=by simp;omega
   have hcv:=yc8 hO;obtain ⟨qq,hqq⟩:∃ x,fixL [a0,a1,a2,a3] = x:=⟨_,rfl⟩;rw [hqq] at hcv;have HQ:=jh hqq;have d2:(31:Int) - (m:Int) < 0:=by omega
   clear e32 hqq hO hm;go_wp2_with fail
   go_ret
   exact ⟨by rw [HQ.out];rfl,hG⟩
theorem ygG (a0 a1 a2 a3:Nat) (h0:a0 < 18446744073709551616) (h1:a1 < 18446744073709551616) (h2:a2 < 18446744073709551616) (h3:a3 < 18446744073709551616) (w:World) :
  Calls jq 149 #[.agg #[.int .u64 (a0:Int),.int .u64 (a1:Int),.int .u64 (a2:Int),.int .u64 (a3:Int)]] w fun e w'=>e = .returned (.string ⟨(beN (ycx a0 a1 a2 a3)).toArray⟩) /\ w.grownBy w' none:=by
 have hB:=Blk.new w 38 #[.int .u64 (a0:Int),.int .u64 (a1:Int),.int .u64 (a2:Int),.int .u64 (a3:Int)];have hG:=yaa (jr w none) (.cells #[.int .u64 (a0:Int),.int .u64 (a1:Int),.int .u64 (a2:Int),.int .u64 (a3:Int)] 38);have HF:=jh (fun V=>yg7 a0 a1 a2 a3 V);have HE:Hid (ycZ (fixL [a0,a1,a2,a3]) = beN (ycx a0 a1 a2 a3)):=jh (by rw [yjc _ _ _ _ h0 h1 h2 h3];rfl);have HL:Hid ((fixL [a0,a1,a2,a3]).length = 32):=jh (ycq _);go_enter Tryz.func149,Tryz.ntmps149
 go_wp2_with fail
 refine (HF.out _).mono ?_;rintro e w2 ⟨rfl,hg⟩;have hG:=jh (yab hG hg (by simp));obtain ⟨q,hq⟩:∃ q,fixL [a0,a1,a2,a3] = q:=⟨_,rfl⟩;rw [hq] at HE HL ⊢;clear hg hB hq;go_wp2_with fail
 go_loop [3] (fun v=>∃ t:ByteArray,v = .string t /\ t.size <= 32 /\ Hid (ycZ t.data.toList = ycZ q)) (fun v=>yl5 v)
 case atStart=>exact ⟨⟨q.toArray⟩,rfl,by show q.toArray.size <= 32;rw [jd9,HL.out];omega,jh rfl⟩
 case round =>
  obtain ⟨t,rfl,ht,hT⟩:=hrel;have HT:=jh hT.out;clear hT;cases hl:t.data.toList with
  | nil =>
   have hz:t.size = 0:=by have:=congrArg List.length hl;rw [jb0] at this;exact this
   have he:t = ⟨#[]⟩:=ybM hl;have HN:Hid (ycZ q = []):=jh (by rw [<- HT.out,hl];rfl);subst he;clear hl hz HT;go_wp2_with fail
   go_ret
   exact ⟨by rw [<- HE.out,HN.out];rfl,hG.out⟩
  | cons x r =>
   have hz:=yhH hl;have d1:0 < t.size:=by omega
   have hx:t[0]'d1 = x:=by
    have e:t.data.toList[0]? = some x:=by rw [hl];rfl
    have e2:t.data[0]? = some x:=by simpa using e
    obtain ⟨_,e3⟩:=jes.1 e2;exact e3
   have HZ:=jh hz;clear hz;have d2:(0:Int) < (t.size:Int):=by omega
   have d3:(1:Int) <= (t.size:Int):=by omega
   have d4:1 <= t.size:=by omega
   by_cases hxc:x = 0
   ·have e1:((x.toNat:Int) == 0) = true:=by rw [hxc];rfl
    have HN:Hid (ycZ (t.extract 1 t.size).data.toList = ycZ q):=jh (by
     rw [yeJ hl,<- HT.out,hl];show _ = List.dropWhile _ _;rw [List.dropWhile_cons_of_pos (by simp [hxc])];rfl)
    have HSZ:Hid ((t.extract 1 t.size).size = t.size - 1):=jh (by simp);clear hl HT hxc;go_wp2_with fail
    exact ⟨⟨_,rfl,by have:=HSZ.out;omega,HN⟩,by show (t.extract 1 t.size).size < t.size;have:=HSZ.out;omega⟩
   ·have e1:((x.toNat:Int) == 0) = false:=by
     rw [beq_eq_false_iff_ne];intro e;exact hxc (UInt8.toNat_inj.1 (by simp;omega))
    have HN:Hid (ycZ q = t.data.toList):=jh (by
     rw [<- HT.out,hl];show List.dropWhile _ _ = _;rw [List.dropWhile_cons_of_neg (by simp [hxc])])
    clear hl HT hxc;go_wp2_with fail
    go_ret
    exact ⟨by rw [<- HE.out,HN.out];rfl,hG.out⟩
theorem yoW (n:Nat) (hn:n < 18446744073709551616) (w:World) :
  Calls jq 172 #[.int .u64 (n:Int)] w fun e w'=>e = .returned (.string ⟨(beN n).toArray⟩) /\ w.grownBy w' none:=by
 have hb:=fun V=>ygG n 0 0 0 hn (by omega) (by omega) (by omega) V;rw [show ycx n 0 0 0 = n by unfold ycx;omega] at hb;have HB:=jh hb;clear hb;go_enter Tryz.func172,Tryz.ntmps172
 go_wp2_with fail
 refine (HB.out _).mono ?_;rintro e w3 ⟨rfl,hg⟩;go_wp2_with fail
 go_ret
 exact ⟨rfl,hg⟩
theorem yih (n base:Nat) (hn:n <= 1000000000) (hb:base <= 192) (w:World) :
  Calls jq 150 #[.int .i64 (n:Int),.int .i64 (base:Int)] w fun e w'=>e = .returned (.string ⟨(yaU n base).toArray⟩) /\ w.grownBy w' none:=by
 by_cases h:n < 56
 ·have hh:yaU n base = [UInt8.ofNat (base + n)]:=if_pos h;have v1:IntKind.i64.wrap ((base:Int) + (n:Int)) = (base:Int) + (n:Int):=jii _ (by omega);have v2:IntKind.u8.wrap ((base:Int) + (n:Int)) = ((UInt8.ofNat (base + n)).toNat:Int):=by rw [show (base:Int) + (n:Int) = ((base + n:Nat):Int) by omega];exact yjF _ (by omega)
  have d1:(n:Int) < 56:=by omega
  have hcv:=yfa w (UInt8.ofNat (base + n));have HH:=jh hh;generalize UInt8.ofNat (base + n) = z at *;clear hh;go_enter Tryz.func150,Tryz.ntmps150
  go_wp2_with fail
  go_ret
  exact ⟨by rw [HH.out];rfl,yaa (jr w none) _⟩
 ·have hh:yaU n base = UInt8.ofNat (base + 55 + (beN n).length) :: beN n:=if_neg h;have d1:decide ((n:Int) < 56) = false:=decide_eq_false (by omega);have hl:=yey n (by omega);have HB:=jh (fun V=>yoW n (by omega) V);have v0:IntKind.u64.wrap (n:Int) = (n:Int):=by simp [IntKind.wrap,IntKind.bits,IntKind.signed];omega
  have v1:IntKind.i64.wrap ((base:Int) + 55) = (base:Int) + 55:=jii _ (by omega);obtain ⟨q,hq⟩:∃ q,beN n = q:=⟨_,rfl⟩;rw [hq] at hh hl HB;have v3:IntKind.i64.wrap ((base:Int) + 55 + (q.length:Int)) = (base:Int) + 55 + (q.length:Int):=jii _ (by omega);have v4:IntKind.u8.wrap ((base:Int) + 55 + (q.length:Int)) = ((UInt8.ofNat (base + 55 + q.length)).toNat:Int):=by rw [show (base:Int) + 55 + (q.length:Int) = ((base + 55 + q.length:Nat):Int) by omega];exact yjF _ (by omega)
  have HH:=jh hh;obtain ⟨z,hz⟩:∃ z,UInt8.ofNat (base + 55 + q.length) = z:=⟨_,rfl⟩;rw [hz] at v4 HH;have hqs:(⟨q.toArray⟩:ByteArray).size = q.length:=by show q.toArray.size = _;simp
  have hsum:(1:Nat) + (⟨q.toArray⟩:ByteArray).size <= 9223372036854775807:=by rw [hqs];omega
  have hcat:∀ V,(binOp .add 9 (.string ⟨#[z]⟩) (.string ⟨q.toArray⟩)).run jq V = .ok (.string (⟨#[z]⟩ ++ ⟨q.toArray⟩)) V:=fun V=>run_string_add_sum (P:=jq) V ⟨#[z]⟩ ⟨q.toArray⟩ hsum;clear hh hq hz;go_enter Tryz.func150,Tryz.ntmps150
  go_wp2_with fail
  refine (HB.out _).mono ?_;rintro e w2 ⟨rfl,hg⟩;have hcv:=yfa w2 z;have hz0:q.toArray.size = q.length:=by simp
  have hG:=jh (yaa hg (.cells #[.int .u8 (z.toNat:Int)] 5));go_wp2_with fail
  go_ret
  refine ⟨?_,hG.out⟩;rw [HH.out];show Ending.returned (.string (⟨#[z]⟩ ++ ⟨q.toArray⟩)) = _;congr 2
def yhx (x:Itm):Prop:=∀ (W:World) (sx:Value),SubW W x.items sx -> wtF x <= 1000000000 ->
 Calls jq 117 #[.agg #[.bool x.list,.string x.bytes,sx]] W fun e W'=>e = .returned (.string ⟨(yau x).toArray⟩) /\ W.grownBy W' none
theorem yjZ (a b:ByteArray) (h:a.size + b.size <= 9223372036854775807):∀ V,(binOp .add 9 (.string a) (.string b)).run jq V = .ok (.string (a ++ b)) V:=fun V=>run_string_add_sum (P:=jq) V a b h
theorem ygK (l m:List UInt8):(⟨l.toArray⟩:ByteArray) ++ ⟨m.toArray⟩ = ⟨(l ++ m).toArray⟩:=ybM (by rw [ycg])
theorem ypa (l:List UInt8) (t:ByteArray):(⟨l.toArray⟩:ByteArray) ++ t = ⟨(l ++ t.data.toList).toArray⟩:=ybM (by rw [ycg])
theorem ydA (l:List UInt8):(⟨l.toArray⟩:ByteArray).size = l.length:=by show l.toArray.size = _;simp
theorem yjs (x:Itm) (hx:x.list = false):yhx x:=by
 intro W sx hsx hwt;obtain ⟨A,c,rfl⟩:=hsx.slice;have hbt:yau x = yce x.bytes:=by rw [ydo,hx];rfl
 have hwx:=ydO x;have HG:=jh (yaa (jr W none) (.cells #[.bool x.list,.string x.bytes,.slice A x.items.length c] 106));rw [hbt];rw [hx] at HG ⊢;have hlz:x.bytes.data.toList.length = x.bytes.size:=jb0;generalize x.items.length = n at *;generalize hb:x.bytes = t at *;by_cases h1:t.size = 1 /\ (t.data.toList.getD 0 0).toNat < 128
 ·have hT:yce t = t.data.toList:=if_pos h1;obtain ⟨h1,h2⟩:=h1;have d1:0 < t.size:=by omega
  have hc:((t[0]'d1).toNat:Int) < 128:=by
   have e2:t.data[0]? = some (t[0]'d1):=jb4 d1;have:t.data.toList.getD 0 0 = t[0]'d1:=by rw [jg,Array.getElem?_toList,e2];rfl
   rw [<- this];omega
  have e1:((t.size:Int) == 1) = true:=by rw [beq_iff_eq];omega
  have HT:=jh hT;clear hT hsx h1 h2 hlz hwx hb;go_enter Tryz.func117,Tryz.ntmps117
  go_wp2_with fail
  go_ret
  exact ⟨by rw [HT.out];rfl,HG.out⟩
 ·have hT:yce t = yaU t.size 128 ++ t.data.toList:=if_neg h1;have hls:=ydh t.size 128 (by omega);have hh:=fun V=>yih t.size 128 (by omega) (by omega) V;obtain ⟨r,hr⟩:∃ r,yaU t.size 128 = r:=⟨_,rfl⟩;rw [hr] at hT hh hls;have hcat:=yjZ ⟨r.toArray⟩ t (by rw [ydA];omega)
  have hguard:((t.size:Int) == 1) = false \/ (((t.size:Int) == 1) = true /\ ∃ d1:0 < t.size,decide (((t[0]'d1).toNat:Int) < 128) = false):=by
   by_cases hz:t.size = 1
   ·refine .inr ⟨by rw [beq_iff_eq];omega,by omega,?_⟩;have d1:0 < t.size:=by omega
    have e2:t.data[0]? = some (t[0]'d1):=jb4 d1;have:t.data.toList.getD 0 0 = t[0]'d1:=by rw [jg,Array.getElem?_toList,e2];rfl
    have h2:¬ (t.data.toList.getD 0 0).toNat < 128:=fun h=>h1 ⟨hz,h⟩;rw [this] at h2;exact decide_eq_false (by omega)
   ·exact .inl (by rw [beq_eq_false_iff_ne];omega)
  have HT:=jh hT;have HH:=jh hh;have HC:Hid ((⟨r.toArray⟩:ByteArray) ++ t = ⟨(r ++ t.data.toList).toArray⟩):=jh (ypa r t);have hsum:r.length + t.size <= 9223372036854775807:=by omega
  have hrz:r.toArray.size = r.length:=by simp
  clear hT hh hsx h1 hlz hwx hb hr hls;rcases hguard with e1 | ⟨e1,d1,e2⟩
  all_goals
   go_enter Tryz.func117,Tryz.ntmps117
   go_wp2_with fail
   refine (HH.out _).mono ?_;rintro e w2 ⟨rfl,hg1⟩;have HG:=jh (yab HG.out hg1 (by simp));clear hg1;go_wp2_with fail
   go_ret
   exact ⟨by rw [HT.out,<- HC.out];rfl,HG.out⟩
theorem yjt (x:Itm) (hx:x.list = true) (hC:∀ i,i < x.items.length -> yhx (x.items.getD i Itm.none_)):yhx x:=by
 intro W sx hsx hwt;obtain ⟨A,c,rfl⟩:=hsx.slice;have hbt:yau x = yaU (bytesL x.items).length 192 ++ bytesL x.items:=by rw [ydo,hx];rfl
 have hG1:=yaa (jr W none) (.cells #[.bool x.list,.string x.bytes,.slice A x.items.length c] 106);have hx0:=Blk.new W 106 #[.bool x.list,.string x.bytes,.slice A x.items.length c];have hS1:=hsx.grown hG1;have hwx:=ydO x;have hok:=(yhd x hwt).items;rw [hx] at hG1 hx0 hS1;have hlen:=bytesL_len x.items (by omega);obtain ⟨xs,hxs⟩:∃ xs,x.items = xs:=⟨_,rfl⟩;obtain ⟨n,hnn⟩:∃ n,xs.length = n:=⟨_,rfl⟩
 have hwi:∀ k,k < xs.length -> wtF (xs.getD k Itm.none_) + (bytesL (xs.take k)).length <= 1000000000:=by
  intro k hk;have h1:=ygN hk;have h2:=yj6 xs k;rw [hxs] at hwx;have h3:=bytesL_len (xs.take k) (by omega);omega
 rw [hxs] at hbt hG1 hx0 hS1 hC hok hlen ⊢;rw [hnn] at hG1 hx0 hS1 hok ⊢;have HBT:=jh hbt;have HC:=jh hC;have HN:=jh hnn;have HWI:=jh hwi;have hll:(bytesL xs).length <= 1000000000:=by rw [hxs] at hwx;omega
 have HLL:=jh hll;rw [hx];clear hbt hC hnn hxs hsx hwi hwx hwt hx hlen hll;go_enter Tryz.func117,Tryz.ntmps117
 go_upto_region 1 with (fail)
 generalize W.alloc (.cells #[.bool true,.string x.bytes,.slice A n c] 106) = W1 at *;obtain ⟨b0,hb0⟩:∃ b0,W.heap.size = b0:=⟨_,rfl⟩;rw [hb0] at hx0 ⊢;have c0:=hx0.cell 0;have c2:=hx0.cell 1;simp only [jta,jcz,jcs] at c0 c2;go_wp2_with fail
 clear c0 c2;go_loopw [3,4] (fun v i wr=>∃ k:Nat,i = .int .i64 k /\ k <= n /\ v = .string ⟨(bytesL (xs.take k)).toArray⟩ /\ W1.grownBy wr none) (fun _ i _=>n - (intOf i).toNat)
 case atStart=>exact ⟨0,rfl,by omega,rfl,jr _ _⟩
 case round =>
  obtain ⟨k,rfl,hk,rfl,hg⟩:=hrel;have hx1:=hx0.grown hg (by simp);have c1:=hx1.cell 2;simp only [jta,jcz,jcs] at c1;by_cases hlt:k < n
  ·have hS:=hS1.grown hg;obtain ⟨he,vs,hvs,hr⟩:=hS.row;rw [HN.out] at hvs hr;obtain ⟨g,off,rfl,hgB,hc⟩:=hr (by omega);obtain ⟨k0,k1,k2⟩:=hc k hlt;have hsv:=hvs k hlt;obtain ⟨y,hy⟩:∃ y,xs.getD k Itm.none_ = y:=⟨_,rfl⟩;have hCk:=HC.out k (by have:=HN.out;omega);have hw1:=HWI.out k (by have:=HN.out;omega);have htk:bytesL (xs.take (k + 1)) = bytesL (xs.take k) ++ yau y:=by rw [yfp (by have:=HN.out;omega),yfI,hy]
   rw [hy] at k0 k1 hsv hCk hw1;generalize vs.getD k undef = sv at *;obtain ⟨As,cs,rfl⟩:=hsv.slice;have HCK:=jh (hCk _ _ hsv (by omega));have hly:=yeB y (by omega);have HTK:=jh htk;have HG2:=jh hg;have q1:(k:Int) < (n:Int):=by omega
   generalize bytesL (xs.take k) = dk at *;obtain ⟨yl,hyl⟩:∃ yl,yau y = yl:=⟨_,rfl⟩;rw [hyl] at HCK HTK hly;have hcat:=yjZ ⟨dk.toArray⟩ ⟨yl.toArray⟩ (by rw [ydA,ydA];omega);rw [ygK] at hcat
   have hsum:dk.length + yl.length <= 9223372036854775807:=by omega
   clear hS hvs hr hc hCk hy htk hsv he hx1 hyl hw1 hly;go_wp2_with fail
   refine HCK.out.mono ?_;rintro e w3 ⟨rfl,hg3⟩;have hG3:=yab HG2.out hg3 (by simp);clear hg3 k0 k1 k2 HCK c1;go_wp2_with fail
   exact ⟨⟨k + 1,by go_num,by omega,by rw [HTK.out,ygK],hG3⟩,by simp [intOf];omega⟩
  ·obtain rfl:k = n:=by omega
   have hfin:decide ((k:Int) < (k:Int)) = false:=by simp
   have hall:xs.take k = xs:=by rw [<- HN.out,List.take_length]
   rw [hall];have HG2:=jh (yab hG1 hg (by simp));obtain ⟨l,hl⟩:∃ l,bytesL xs = l:=⟨_,rfl⟩;rw [hl];have hll:=HLL.out;rw [hl] at hll;have hls:=ydh l.length 192 hll;have hh:=fun V=>yih l.length 192 hll (by omega) V;obtain ⟨r,hr⟩:∃ r,yaU l.length 192 = r:=⟨_,rfl⟩;rw [hr] at hh hls;have HH:=jh hh;have HFIN:Hid (yau x = r ++ l):=jh (by rw [HBT.out,hl,hr]);have hsum:r.length + l.length <= 9223372036854775807:=by omega
   have hrz:r.toArray.size = r.length:=by simp
   have hlz:l.toArray.size = l.length:=by simp
   clear hall hx1 hr hl hll hls hh;go_wp2_with fail
   refine (HH.out _).mono ?_;rintro e w3 ⟨rfl,hg3⟩;have HG3:=jh (yab HG2.out hg3 (by simp));clear hg3;go_wp2_with fail
   go_ret
   exact ⟨by rw [HFIN.out,<- ygK];rfl,HG3.out⟩
theorem yju (x:Itm):yhx x:=by
 generalize hn:SizeOf.sizeOf x = n
 induction n using Nat.strongRecOn generalizing x with
 | _ n ih =>
  subst hn;cases hx:x.list with
  | true=>exact yjt x hx fun i hi=>ih _ (Itm.size_get hi) _ rfl
  | false=>exact yjs x hx
def yfn (E:Int):List PanicEntry:=[{ v:=.iface 178 (.agg #[.int .i64 E]),recovered:=false }]
theorem yhe (E:Int) (W:World):Calls jq 145 #[.bool true,.int .i64 E] W fun e W'=>e = .returned (.tuple #[]) /\ W' = W:=by
 go_enter Tryz.func145,Tryz.ntmps145
 go_wp2_with fail
 go_end0
 exact ⟨rfl,rfl⟩
theorem yiQ (E:Int) (W:World):Calls jq 145 #[.bool false,.int .i64 E] W fun e W'=>e = .panicked (yfn E) /\ W' = W:=by
 go_enter Tryz.func145,Tryz.ntmps145
 go_wp2_with fail
 exact ⟨rfl,rfl,rfl⟩
theorem yg6 {xs:List Itm} {d k:Nat} (hk:k < xs.length) (h:formL (xs.take k) d = 0):formL (xs.take (k + 1)) d = yaP (xs.getD k Itm.none_) d:=by
 rw [yfp hk];generalize xs.getD k Itm.none_ = y;generalize xs.take k = l at h ⊢
 induction l with
 | nil=>simp only [List.nil_append,formL];split <;> simp_all
 | cons z l ih =>
  rw [formL] at h;rw [List.cons_append,formL];split at h
  ·rename_i h1;exact absurd h h1
  ·rename_i h1;rw [if_neg h1];exact ih h
theorem ym2 {l m:List Itm} {d:Nat} (h:formL l d ≠ 0):formL (l ++ m) d = formL l d:=by
 induction l with
 | nil=>exact absurd rfl h
 | cons z l ih =>
  rw [formL] at h;rw [List.cons_append,formL,formL];split
  ·rfl
  ·rename_i h1;rw [if_neg h1] at h;exact ih h
theorem ym1 {xs:List Itm} {d k:Nat} (hk:k < xs.length) (h0:formL (xs.take k) d = 0) (h:yaP (xs.getD k Itm.none_) d ≠ 0):formL xs d = yaP (xs.getD k Itm.none_) d:=by
 have h1:=yg6 hk h0;have:=ym2 (l:=xs.take (k + 1)) (m:=xs.drop (k + 1)) (d:=d) (by rw [h1];exact h);rw [List.take_append_drop] at this;rw [this,h1]
def yd4 (E:Int):Ending:=if E = 0 then .returned (.tuple #[]) else .panicked (yfn E)
def yp0 (x:Itm):Prop:=∀ (W:World) (d:Nat) (sx:Value),SubW W x.items sx -> wtF x <= 1000000000 -> d <= 1000 ->
 Calls jq 144 #[.agg #[.bool x.list,.string x.bytes,sx],.int .i64 (d:Int)] W fun e W'=>e = yd4 (yaP x d) /\ W.grownBy W' none
theorem yib (x:Itm) (d:Nat) (W:World) (sx:Value) (hsx:SubW W x.items sx) (h:(x.list = true /\ x.bytes.size ≠ 0) \/ (x.list = false /\ x.items.length ≠ 0)) :
  Calls jq 144 #[.agg #[.bool x.list,.string x.bytes,sx],.int .i64 (d:Int)] W fun e W'=>e = yd4 (yaP x d) /\ W.grownBy W' none:=by
 obtain ⟨A,c,rfl⟩:=hsx.slice;have HF:Hid (yaP x d = 2):=jh (by rw [yer,if_pos h]);have HG:=jh (yaa (jr W none) (.cells #[.bool x.list,.string x.bytes,.slice A x.items.length c] 106));have HN:=jh (fun V=>yiQ 2 V);rcases h with ⟨h1,h2⟩ | ⟨h1,h2⟩
 ·rw [h1] at HG ⊢
  have e1:(x.bytes.toList == []) = false:=by
   have:=ygo (a:=x.bytes) (b:=⟨#[]⟩) (by intro e;rw [e] at h2;exact h2 rfl);simpa using this
  have e2:x.bytes.toList.isEmpty = false:=by simpa using e1
  generalize x.bytes = b at *;generalize x.items.length = n at *;clear h2 h1;go_enter Tryz.func144,Tryz.ntmps144
  go_wp2_with fail
  refine (HN.out _).mono ?_;rintro e w2 ⟨rfl,rfl⟩;exact ⟨rfl,by rw [HF.out];rfl,HG.out⟩
 ·rw [h1] at HG ⊢;generalize x.bytes = b at *;generalize x.items.length = n at *;have e1:((n:Int) == 0) = false:=by simpa using h2
  clear h2 h1;go_enter Tryz.func144,Tryz.ntmps144
  go_wp2_with fail
  refine (HN.out _).mono ?_;rintro e w2 ⟨rfl,rfl⟩;exact ⟨rfl,by rw [HF.out];rfl,HG.out⟩
theorem ygw (x:Itm) (d:Nat) (W:World) (sx:Value) (hsx:SubW W x.items sx) (hok:x.items.length <= 9223372036854775807) (h:(x.list = false /\ x.items.length = 0) \/ (x.list = true /\ x.bytes.size = 0 /\ (12 <= d \/ 512 < x.items.length))) :
  Calls jq 144 #[.agg #[.bool x.list,.string x.bytes,sx],.int .i64 (d:Int)] W fun e W'=>e = yd4 (yaP x d) /\ W.grownBy W' none:=by
 obtain ⟨A,c,rfl⟩:=hsx.slice;have HG:=jh (yaa (jr W none) (.cells #[.bool x.list,.string x.bytes,.slice A x.items.length c] 106));have HY:=jh (fun E V=>yhe E V);have HN:=jh (fun E V=>yiQ E V);have hf:=yer x d;rcases h with ⟨h1,h2⟩ | ⟨h1,h2,h3⟩
 ·have HF:Hid (yaP x d = 0):=jh (by rw [hf,if_neg (by rw [h1,h2];simp),if_pos h1]);rw [h1] at HG ⊢;generalize x.bytes = b at *;generalize x.items.length = n at *;have e1:((n:Int) == 0) = true:=by simpa using h2
  clear h2 h1 hf hsx hok;go_enter Tryz.func144,Tryz.ntmps144
  go_wp2_with fail
  refine (HY.out _ _).mono ?_;rintro e w2 ⟨rfl,rfl⟩;go_wp2_with fail
  refine jbr (results_none rfl _ _ _) rfl ?_;exact ⟨by rw [HF.out];rfl,HG.out⟩
 ·have hb:x.bytes = ⟨#[]⟩:=ybM (by
   have:x.bytes.data.toList.length = 0:=by rw [jb0];exact h2
   exact jb7 this)
  by_cases h4:12 <= d
  ·have HF:Hid (yaP x d = 7):=jh (by rw [hf,if_neg (by rw [h1,h2];simp),if_neg (by rw [h1];simp),if_pos h4]);rw [h1,hb] at HG ⊢;generalize x.items.length = n at *;have e1:decide ((d:Int) < 12) = false:=decide_eq_false (by omega);have hx0:=Blk.new W 106 #[.bool true,.string ⟨#[]⟩,.slice A n c];clear h2 h1 hf hsx h3 h4 hok hb;go_enter Tryz.func144,Tryz.ntmps144
   go_wp2_with fail
   refine (HY.out _ _).mono ?_;rintro e w2 ⟨rfl,rfl⟩;go_wp2_with fail
   refine (HN.out _ _).mono ?_;rintro e w2 ⟨rfl,rfl⟩;exact ⟨rfl,by rw [HF.out];rfl,HG.out⟩
  ·have h5:512 < x.items.length:=by omega
   have HF:Hid (yaP x d = 5):=jh (by rw [hf,if_neg (by rw [h1,h2];simp),if_neg (by rw [h1];simp),if_neg h4,if_pos h5]);rw [h1,hb] at HG ⊢;generalize x.items.length = n at *;have e0:(d:Int) < 12:=by omega
   have e1:decide ((n:Int) <= 512) = false:=decide_eq_false (by omega);clear h2 h1 hf hsx h3 h4 hb;go_enter Tryz.func144,Tryz.ntmps144
   go_wp2_with fail
   refine (HY.out _ _).mono ?_;rintro e w2 ⟨rfl,rfl⟩;go_wp2_with fail
   refine (HY.out _ _).mono ?_;rintro e w2 ⟨rfl,rfl⟩;go_wp2_with fail
   refine (HN.out _ _).mono ?_;rintro e w2 ⟨rfl,rfl⟩;exact ⟨rfl,by rw [HF.out];rfl,HG.out⟩
theorem yk9 (x:Itm) (hC:∀ i,i < x.items.length -> yp0 (x.items.getD i Itm.none_)) (d:Nat) (W:World) (sx:Value) (hsx:SubW W x.items sx) (hwt:wtF x <= 1000000000) (h1:x.list = true) (h2:x.bytes.size = 0) (h3:d < 12) (h4:x.items.length <= 512) :
  Calls jq 144 #[.agg #[.bool x.list,.string x.bytes,sx],.int .i64 (d:Int)] W fun e W'=>e = yd4 (yaP x d) /\ W.grownBy W' none:=by
 obtain ⟨A,c,rfl⟩:=hsx.slice;have HY:=jh (fun E V=>yhe E V);have hf:yaP x d = formL x.items (d + 1):=by rw [yer,if_neg (by rw [h1,h2];simp),if_neg (by rw [h1];simp),if_neg (by omega),if_neg (by omega)]
 have hb:x.bytes = ⟨#[]⟩:=ybM (by
  have:x.bytes.data.toList.length = 0:=by rw [jb0];exact h2
  exact jb7 this)
 have hG1:=yaa (jr W none) (.cells #[.bool x.list,.string x.bytes,.slice A x.items.length c] 106);have hx0:=Blk.new W 106 #[.bool x.list,.string x.bytes,.slice A x.items.length c];have hS1:=hsx.grown hG1;have hwx:=ydO x;rw [h1,hb] at hG1 hx0 hS1;rw [h1,hb];obtain ⟨xs,hxs⟩:∃ xs,x.items = xs:=⟨_,rfl⟩;obtain ⟨n,hnn⟩:∃ n,xs.length = n:=⟨_,rfl⟩
 have hwi:∀ k,k < xs.length -> wtF (xs.getD k Itm.none_) <= 1000000000:=by
  intro k hk;have:=ygN hk;rw [hxs] at hwx;omega
 rw [hxs] at hf hG1 hx0 hS1 hC h4 ⊢;rw [hnn] at hG1 hx0 hS1 h4 ⊢;have HFX:=jh hf;have HC:=jh hC;have HN:=jh hnn;have HWI:=jh hwi;have e0:(d:Int) < 12:=by omega
 have e1:(n:Int) <= 512:=by omega
 have v1:IntKind.i64.wrap ((d:Int) + 1) = (d:Int) + 1:=jii _ (by omega);clear hf hC hnn hxs hsx hwi hwx hwt h1 h2 hb;go_enter Tryz.func144,Tryz.ntmps144
 go_upto_region 1 with (fail)
 generalize W.alloc (.cells #[.bool true,.string ⟨#[]⟩,.slice A n c] 106) = W1 at *;obtain ⟨b0,hb0⟩:∃ b0,W.heap.size = b0:=⟨_,rfl⟩;rw [hb0] at hx0 ⊢;have c0:=hx0.cell 0;have c2:=hx0.cell 1;have c1:=hx0.cell 2;simp only [jta,jcz,jcs] at c0 c1 c2;go_wp2_with fail
 refine (HY.out _ _).mono ?_;rintro e w2 ⟨rfl,rfl⟩;go_wp2_with fail
 refine (HY.out _ _).mono ?_;rintro e w2 ⟨rfl,rfl⟩;go_wp2_with fail
 refine (HY.out _ _).mono ?_;rintro e w2 ⟨rfl,rfl⟩;go_wp2_with fail
 clear c0 c1 c2;go_loopw [39] (fun i wr=>∃ k:Nat,i = .int .i64 k /\ k <= n /\ w2.grownBy wr none /\ Hid (formL (xs.take k) (d + 1) = 0)) (fun i _=>n - (intOf i).toNat)
 case atStart=>exact ⟨0,rfl,by omega,jr _ _,jh rfl⟩
 case round =>
  obtain ⟨k,rfl,hk,hg,hI⟩:=hrel;have HI:=jh hI.out;by_cases hlt:k < n
  ·have hS:=hS1.grown hg;obtain ⟨he,vs,hvs,hr⟩:=hS.row;rw [HN.out] at hvs hr;obtain ⟨g,off,rfl,hgB,hc⟩:=hr (by omega);obtain ⟨k0,k1,k2⟩:=hc k hlt;have hsv:=hvs k hlt;obtain ⟨y,hy⟩:∃ y,xs.getD k Itm.none_ = y:=⟨_,rfl⟩;have hkx:k < xs.length:=by have:=HN.out;omega
   have hCk:=HC.out k hkx;have hw1:=HWI.out k hkx;have htk:=yg6 hkx HI.out;have herr:=ym1 hkx HI.out;rw [hy] at k0 k1 hsv hCk hw1 htk herr;generalize vs.getD k undef = sv at *;obtain ⟨As,cs,rfl⟩:=hsv.slice;have hgA:=yaa (jr wr none) (.cells #[.bool y.list,.string y.bytes,.slice As y.items.length cs] 106);have HCK:=jh (hCk _ (d + 1) _ (SubW.grown hsv hgA) hw1 (by omega));have HTK:=jh htk;have HERR:=jh herr;have HG2:=jh (yab hg hgA (by simp));have q1:(k:Int) < (n:Int):=by omega
   clear hS hvs hr hc hCk hy htk hsv he hgA herr hw1 hkx;go_wp2_with fail
   refine HCK.out.mono ?_;rintro e w3 ⟨rfl,hg3⟩;have hG3:=yab HG2.out hg3 (by simp);by_cases hE:yaP y (d + 1) = 0
   ·rw [hE,show yd4 0 = Ending.returned (.tuple #[]) from rfl];have HI3:Hid (formL (xs.take (k + 1)) (d + 1) = 0):=jh (by rw [HTK.out,hE]);clear hg3 k0 k1 k2 HCK hE;go_wp2_with fail
    exact ⟨⟨k + 1,by go_num,by omega,hG3,HI3⟩,by simp [intOf];omega⟩
   ·have e1:yd4 (yaP y (d + 1)) = .panicked (yfn (yaP y (d + 1))):=if_neg hE;rw [e1];exact ⟨rfl,by rw [HFX.out,HERR.out hE,e1],yab hG1 hG3 (by simp)⟩
  ·obtain rfl:k = n:=by omega
   have hfin:decide ((k:Int) < (k:Int)) = false:=by simp
   have hall:xs.take k = xs:=by rw [<- HN.out,List.take_length]
   have hI2:=HI.out;rw [hall] at hI2;have HI2:=jh hI2;have HG2:=jh (yab hG1 hg (by simp));clear hall hI2;go_wp2_with fail
   go_end0
   exact ⟨by rw [HFX.out,HI2.out];rfl,HG2.out⟩
theorem ymf (x:Itm):yp0 x:=by
 generalize hn:SizeOf.sizeOf x = n
 induction n using Nat.strongRecOn generalizing x with
 | _ n ih =>
  subst hn;intro W d sx hsx hwt hd;have hok:=(yhd x hwt).items;cases hl:x.list with
  | false =>
   rw [<- hl];by_cases h:x.items.length = 0
   ·exact ygw x d W sx hsx hok (.inl ⟨hl,h⟩)
   ·exact yib x d W sx hsx (.inr ⟨hl,h⟩)
  | true =>
   rw [<- hl];by_cases h:x.bytes.size = 0
   ·by_cases h3:12 <= d \/ 512 < x.items.length
    ·exact ygw x d W sx hsx hok (.inr ⟨hl,h,h3⟩)
    ·exact yk9 x (fun i hi=>ih _ (Itm.size_get hi) _ rfl) d W sx hsx hwt hl h (by omega) (by omega)
   ·exact yib x d W sx hsx (.inl ⟨hl,h⟩)
theorem yiv (b:Nat) (x:Value) (E:Int) (W:World) (hb:Boxed W b 26 x) :
  CallsD jq 143 #[.pointer (some ⟨b,0,none⟩)] (.panicking (yfn E)) W fun e u' w' =>
   e = .returned (.tuple #[]) /\ u' = .panicking [{ v:=.iface 178 (.agg #[.int .i64 E]),recovered:=true }] /\ w' = (W.alloc (.cells #[.int .i64 E] 178)).setCell ⟨b,0,none⟩ (.int .i64 E):=by
 have hb1:=hb.alloc (.cells #[.int .i64 E] 178);have c0:=hb1.cell;have f0:=hb1.frozen;have c1:=(Boxed.new W 178 (.int .i64 E)).cell;have ha:∀ (v:Value) (V:World),(Instr.typeAssert (.iface 178 v) 20 178 true).run jq V = .ok (.tuple #[v,.bool true]) V:=fun _ _=>by kernel_rfl
 refine callsD_of_wpS Tryz.func143 rfl fun c₀ cs hu=>?_;simp only [Tryz.ntmps143,jd9,jlc,List.length_nil,Nat.reduceAdd,Nat.reduceSub,Array.replicate_succ,Array.replicate_zero,List.push_toArray,List.append_toArray,List.nil_append,List.cons_append];apply wpS_seq;apply wpS_region;simp [wpOpsS,go_sem,recoverD,hu,Exit.thenS,yfn,ha];apply wpS_seq;apply wpS_region;simp [wpOpsS,go_sem,Exit.thenS];refine wpS_cond (t:=true) (by simp [Act.eval]) ?_;simp only [if_true];apply wpS_region;generalize W.alloc (.cells #[.int .i64 E] 178) = W1 at *;simp [wpOpsS,go_sem,c0,f0,c1,bodyPostS,results,Tryz.results143]
theorem ylc (b:Nat) (W:World) :
  CallsD jq 143 #[.pointer (some ⟨b,0,none⟩)] .returning W fun e u' w' =>
   e = .returned (.tuple #[]) /\ u' = .returning /\ w' = W.alloc (.cells #[.int .i64 0] 178):=by
 have ha:∀ (V:World),(Instr.typeAssert .nilIface 20 178 true).run jq V = .ok (.tuple #[.agg #[.int .i64 0],.bool false]) V:=fun _=>by kernel_rfl
 refine callsD_of_wpS Tryz.func143 rfl fun c₀ cs hu=>?_;simp only [Tryz.ntmps143,jd9,jlc,List.length_nil,Nat.reduceAdd,Nat.reduceSub,Array.replicate_succ,Array.replicate_zero,List.push_toArray,List.append_toArray,List.nil_append,List.cons_append];apply wpS_seq;apply wpS_region;simp [wpOpsS,go_sem,recoverD,hu,Exit.thenS,ha];apply wpS_seq;apply wpS_region;simp [wpOpsS,go_sem,Exit.thenS];refine wpS_cond (t:=false) (by simp [Act.eval]) ?_;simp only [Bool.false_eq_true,if_false];refine wpS_of_wp (wp_skip ?_);cases c₀
 simp_all [bodyPostS,results,Tryz.results143]
theorem yeG {R:Ending -> World -> Prop} {tmps:Array Value} {b:Nat} {x:Value} {E:Int} {W:World} (htm:tmps.getD 2 undef = .pointer (some ⟨b,0,none⟩)) (hb:Boxed W b 26 x)
  (hR:R (.returned (.int .i64 E)) ((W.alloc (.cells #[.int .i64 E] 178)).setCell ⟨b,0,none⟩ (.int .i64 E))) :
  Leaves jq Tryz.f112 tmps R [{ target:=.fn (.func 143) #[.pointer (some ⟨b,0,none⟩)],args:=#[] }] (.panicking (yfn E)) W:=by
 refine leaves_cons (f:=143) (args:=#[.pointer (some ⟨b,0,none⟩)]) (by simp) (by simp [go_sem]) ?_;refine (yiv b x E W hb).mono ?_;rintro e u' w'' ⟨rfl,rfl,rfl⟩;have hb1:=(hb.alloc (.cells #[.int .i64 E] 178)).set (.int .i64 E);exact ⟨_,yaw (fn:=Tryz.f112) rfl _ _ _ _ htm (ya8 je1 rfl hb1.cell),hR⟩
theorem ykC {R:Ending -> World -> Prop} {tmps:Array Value} {b:Nat} {E:Int} {W:World} (htm:tmps.getD 2 undef = .pointer (some ⟨b,0,none⟩)) (hb:Boxed W b 26 (.int .i64 E))
  (hR:R (.returned (.int .i64 E)) (W.alloc (.cells #[.int .i64 0] 178))) :
  Leaves jq Tryz.f112 tmps R [{ target:=.fn (.func 143) #[.pointer (some ⟨b,0,none⟩)],args:=#[] }] .returning W:=by
 refine leaves_cons (f:=143) (args:=#[.pointer (some ⟨b,0,none⟩)]) (by simp) (by simp [go_sem]) ?_;refine (ylc b W).mono ?_;rintro e u' w'' ⟨rfl,rfl,rfl⟩;exact ⟨_,yaw (fn:=Tryz.f112) rfl _ _ _ _ htm (ya8 je1 rfl (hb.alloc _).cell),hR⟩
def ybU (x:Itm):Int:=if yaP x 0 ≠ 0 then yaP x 0 else if 65536 < (yau x).length then 5 else 0
theorem ylb (x:Itm) (W:World) (sx:Value) (hsx:SubW W x.items sx) (hwt:wtF x <= 1000000000) :
  Calls jq 112 #[.agg #[.bool x.list,.string x.bytes,sx]] W fun e W'=>e = .returned (.int .i64 (ybU x)) /\ W.grownBy W' none:=by
 obtain ⟨A,c,rfl⟩:=hsx.slice;have hmf:∀ (fn:Fn) (first cap:Array Value) (w:World),(Instr.makeFunc fn first cap).run jq w = .ok (.func fn first cap) w:=fun _ _ _ _=>rfl;have hx0:=(Blk.new W 106 #[.bool x.list,.string x.bytes,.slice A x.items.length c]).alloc (.cells #[.int .i64 0] 26);have hr0:=Boxed.new (W.alloc (.cells #[.bool x.list,.string x.bytes,.slice A x.items.length c] 106)) 26 (.int .i64 0);rw [jsa] at hr0;have hG1:=yaa (yaa (jr W none) (.cells #[.bool x.list,.string x.bytes,.slice A x.items.length c] 106)) (.cells #[.int .i64 0] 26);have hS1:=hsx.grown hG1;go_enter_defers Tryz.func112,Tryz.ntmps112
 go_upto_region 2 with (fail)
 have HNY:=jh (fun E V=>yhe E V);have HNN:=jh (fun E V=>yiQ E V);obtain ⟨b,hb⟩:∃ b,W.heap.size = b:=⟨_,rfl⟩;rw [hb] at hx0 hr0 ⊢;have hbg:W.heap.size <= b + 1:=by omega
 generalize (W.alloc (.cells #[.bool x.list,.string x.bytes,.slice A x.items.length c] 106)).alloc (.cells #[.int .i64 0] 26) = W1 at *;have c0:=hx0.cell 0;have c1:=hx0.cell 1;have c2:=hx0.cell 2;simp only [jta,jcz,jcs] at c0 c1 c2;have hlk:=ymf x W1 0 _ hS1 hwt (by omega);have HL:=jh hlk;clear hlk hsx hb hmf;go_wp2_with fail
 refine HL.out.mono ?_;rintro e w2 ⟨rfl,hg2⟩;have hG2:=yab hG1 hg2 (by simp);have hr2:=hr0.kept hg2 (by simp);by_cases hE:yaP x 0 = 0
 ·rw [hE,show yd4 0 = Ending.returned (.tuple #[]) from rfl];have hx2:=hx0.grown hg2 (by simp);have hS2:=hS1.grown hg2;have c0:=hx2.cell 0;have c1:=hx2.cell 1;have c2:=hx2.cell 2;simp only [jta,jcz,jcs] at c0 c1 c2;have HS:=jh (yni x _ _ hS2 hwt);have hcF:ybU x = if 65536 < (yau x).length then 5 else 0:=by unfold ybU;rw [if_neg (by simpa using hE)]
  have HCF:=jh hcF;generalize hl:(yau x).length = l at *;clear hcF hE hg2 hS2 hx2 hG1 hr0 hS1 hx0 HL;go_wp2_with fail
  refine HS.out.mono ?_;rintro e w3 ⟨rfl,hg3⟩;have hG3:=yab hG2 hg3 (by simp);have hr3:=hr2.kept hg3 (by simp);by_cases h5:65536 < l
  ·have e1:decide ((l:Int) <= 65536) = false:=decide_eq_false (by omega);have HC5:Hid (ybU x = 5):=jh (by rw [HCF.out,if_pos h5]);clear h5 hg3;go_wp2_with fail
   refine (HNN.out _ _).mono ?_;rintro e w4 ⟨rfl,rfl⟩;refine yeG rfl hr3 ⟨by rw [HC5.out],?_⟩;exact yap (yaa hG3 _) (p:=⟨b + 1,0,none⟩) hbg _
  ·have e1:(l:Int) <= 65536:=by omega
   have HC5:Hid (ybU x = 0):=jh (by rw [HCF.out,if_neg h5]);clear h5 hg3;go_wp2_with fail
   refine (HNY.out _ _).mono ?_;rintro e w4 ⟨rfl,rfl⟩;have r0:=hr3.cell;have r1:=hr3.frozen;go_wp2_with fail
   refine ykC rfl (hr3.set (.int .i64 0)) ⟨by rw [HC5.out],?_⟩;exact yaa (yap hG3 (p:=⟨b + 1,0,none⟩) hbg _) _
 ·rw [show yd4 (yaP x 0) = .panicked (yfn (yaP x 0)) from if_neg hE];have hcF:ybU x = yaP x 0:=if_pos hE;refine yeG rfl hr2 ⟨by rw [hcF],?_⟩;exact yap (yaa hG2 _) (p:=⟨b + 1,0,none⟩) hbg _
def encB (x:Itm):List UInt8:=if ybU x = 0 then yau x else []
theorem yji (x:Itm) (W:World) (sx:Value) (hsx:SubW W x.items sx) (hwt:wtF x <= 1000000000) :
  Calls jq 76 #[.agg #[.bool x.list,.string x.bytes,sx]] W fun e W'=>e = .returned (.tuple #[.string ⟨(encB x).toArray⟩,.int .i64 (ybU x)]) /\ W.grownBy W' none:=by
 obtain ⟨A,c,rfl⟩:=hsx.slice;have hG1:=yaa (jr W none) (.cells #[.bool x.list,.string x.bytes,.slice A x.items.length c] 106);have hx0:=Blk.new W 106 #[.bool x.list,.string x.bytes,.slice A x.items.length c];have hS1:=hsx.grown hG1;have HK:=jh (ylb x _ _ hS1 hwt);have HG:=jh hG1;have HS:=jh hS1;have HX:=jh hx0;obtain ⟨E,hE⟩:∃ E,ybU x = E:=⟨_,rfl⟩;rw [hE] at HK ⊢;by_cases h0:E = 0
 ·have HB:Hid (encB x = yau x):=jh (if_pos (by rw [hE,h0]));rw [h0] at HK ⊢;clear hG1 hx0 hS1 hsx hE h0;go_enter Tryz.func76,Tryz.ntmps76
  go_wp2_with fail
  refine HK.out.mono ?_;rintro e w2 ⟨rfl,hg2⟩;have hx2:=HX.out.grown hg2 (by simp);have hS2:=HS.out.grown hg2;have HG:=jh (yab HG.out hg2 (by simp));have c0:=hx2.cell 0;have c1:=hx2.cell 1;have c2:=hx2.cell 2;simp only [jta,jcz,jcs] at c0 c1 c2;have HY:=jh (yiw x _ _ hS2 hwt);clear hg2 hx2 hS2 HK;go_wp2_with fail
  refine HY.out.mono ?_;rintro e w3 ⟨rfl,hg3⟩;have HG:=jh (yab HG.out hg3 (by simp));clear hg3;go_wp2_with fail
  go_ret2
  exact ⟨by rw [HB.out];rfl,HG.out⟩
 ·have HB:Hid (encB x = []):=jh (if_neg (by rw [hE];exact h0));have e1:(E != 0) = true:=by simpa using h0
  clear hG1 hx0 hS1 hsx hE h0;go_enter Tryz.func76,Tryz.ntmps76
  go_wp2_with fail
  refine HK.out.mono ?_;rintro e w2 ⟨rfl,hg2⟩;have HG:=jh (yab HG.out hg2 (by simp));clear hg2 HK;go_wp2_with fail
  go_ret2
  exact ⟨by rw [HB.out];rfl,HG.out⟩



theorem SubV.grown {S:Nat -> Prop} {W W':World} {xs:List Itm} {v:Value} (h:SubV S W xs v) (hg:W.grownBy W' none):SubV S W' xs v:=h.keep fun p _ u hu=>hg.cell hu (by simp)
theorem yfx {w:World} {base base' size n:Nat} {e:TypeId} {v:Value} {xs:List Value} (h:w.ownsRow base e size v n xs) (hb:base' <= base):w.ownsRow base' e size v n xs:=by
 refine ⟨h.1,?_⟩;rcases h.2 with h1 | ⟨g,cap,cur,hv,hg,rest⟩
 ·exact .inl h1
 ·exact .inr ⟨g,cap,cur,hv,by omega,rest⟩
structure RdI (w:World) (b3:Nat) (v:Value) (j:Nat) (xs:List Itm) (vs:List Value) (u:World):Prop where
 held:Held3 w b3 v j (yb2 xs vs) u
 lx:xs.length = j
 lv:vs.length = j
 sub:∀ i,i < j -> SubV (fun g=>b3 + 1 <= g /\ v.ownBlock ≠ some g) u (xs.getD i Itm.none_).items (vs.getD i undef)
theorem RdI.kept {w u u':World} {b3 j:Nat} {v:Value} {xs:List Itm} {vs:List Value} (h:RdI w b3 v j xs vs u) (hg:u.grownBy u' none):RdI w b3 v j xs vs u' :=
 ⟨h.held.kept hg,h.lx,h.lv,fun i hi=>(h.sub i hi).grown hg⟩
theorem RdI.put {w u u2:World} {b3 j g' cap':Nat} {v:Value} {xs:List Itm} {vs:List Value} (h:RdI w b3 v j xs vs u) (x:Itm) (sv:Value) (hx:SubV (fun g=>b3 + 1 <= g /\ v.ownBlock ≠ some g) u x.items sv)
  (hown:u2.ownsRow (b3 + 1) 106 3 (.slice (some ⟨g',0,none⟩) (j + 1) cap') (j + 1) (yb2 xs vs ++ [.bool x.list,.string x.bytes,sv])) (hg:u.grownBy u2 v.ownBlock) (hob:(ja4 (some ⟨g',0,none⟩) (j + 1) cap').ownBlock = v.ownBlock \/ (ja4 (some ⟨g',0,none⟩) (j + 1) cap').ownBlock = some u.heap.size) :
  RdI w b3 (.slice (some ⟨g',0,none⟩) (j + 1) cap') (j + 1) (xs ++ [x]) (vs ++ [sv]) (u2.setCell ⟨b3,2,none⟩ (.slice (some ⟨g',0,none⟩) (j + 1) cap')):=by
 have key:∀ ys sv',SubV (fun g=>b3 + 1 <= g /\ v.ownBlock ≠ some g) u ys sv' -> SubV (fun g=>b3 + 1 <= g /\ (ja4 (some ⟨g',0,none⟩) (j + 1) cap').ownBlock ≠ some g) (u2.setCell ⟨b3,2,none⟩ (.slice (some ⟨g',0,none⟩) (j + 1) cap')) ys sv':=by
  intro ys sv' hs;refine (hs.lt.keep fun p hp c hc=>?_).weak fun g hS=>⟨hS.1.1,fun e=>?_⟩
  ·rw [jd1 _ _ _ _ (by have:=hp.1.1;show b3 ≠ p.block;omega)];exact hg.cell hc (fun e=>hp.1.2 e.symm)
  ·rcases hob with e2 | e2
   ·exact hS.1.2 (e2.symm.trans e)
   ·have:=e2.symm.trans e;have:=ji this;have:=hS.2;omega
 refine ⟨h.held.put (by rw [yf5 xs vs (by rw [h.lx,h.lv])];exact hown) hg,by simp [h.lx],by simp [h.lv],fun i hi=>?_⟩;by_cases hij:i < j
 ·rw [jg,jal (by rw [h.lx];exact hij),<- jg,jg (l:=vs ++ [sv]),jal (by rw [h.lv];exact hij),<- jg];exact key _ _ (h.sub i hij)
 ·obtain rfl:i = j:=by omega
  rw [jg,jar (by rw [h.lx];omega),jg (l:=vs ++ [sv]),jar (by rw [h.lv];omega),h.lx,h.lv,Nat.sub_self];exact key _ _ hx
theorem RdI.row {w u:World} {b3 j c:Nat} {A:Option Addr} {xs:List Itm} {vs:List Value} (h:RdI w b3 (.slice A j c) j xs vs u):SubV (fun g=>b3 + 1 <= g) u xs (.slice A j c):=by
 obtain ⟨h1,h2,h3,h4⟩:=h;subst h2;exact SubV.of_own (by rw [h3]) h1.own (fun i hi=>(h4 i hi).weak fun g hg=>hg.1) (fun g hg=>yaj h1.own hg)
def ybt (a:AccV):Itm:=.mk true ⟨#[]⟩ [txt a.addr,.mk true ⟨#[]⟩ (a.keys.map txt)]
def accI (l:List AccV):Itm:=.mk true ⟨#[]⟩ (l.map ybt)
theorem yj8 (S:Nat -> Prop) (V:World) (p:ByteArray) (ys:List Itm) (A:Option Addr) (c:Nat) (hS:S V.heap.size) (h:SubV S V ys (.slice A ys.length c)) :
  SubV S (V.alloc (.cells #[.bool false,.string p,.slice none 0 0,.bool true,.string ⟨#[]⟩,.slice A ys.length c] 106)) [txt p,.mk true ⟨#[]⟩ ys] (.slice (some ⟨V.heap.size,0,none⟩) 2 2):=by
 have hb:=Blk.new V 106 #[.bool false,.string p,.slice none 0 0,.bool true,.string ⟨#[]⟩,.slice A ys.length c];have hg:=yaa (jr V none) (.cells #[.bool false,.string p,.slice none 0 0,.bool true,.string ⟨#[]⟩,.slice A ys.length c] 106);have hn:∀ W:World,SubV S W [] (.slice none 0 0):=fun W=>.mk [] none 0 [] (fun h=>by cases h) (fun i h=>by cases h);refine .mk [txt p,.mk true ⟨#[]⟩ ys] (some ⟨V.heap.size,0,none⟩) 2 [.slice none 0 0,.slice A ys.length c] ?_ ?_
 ·intro _;refine ⟨V.heap.size,0,rfl,hS,fun i hi=>?_⟩
  match i,hi with
  | 0,_=>exact ⟨hb.cell 0,hb.cell 1,hb.cell 2⟩
  | 1,_=>exact ⟨hb.cell 3,hb.cell 4,hb.cell 5⟩
 ·intro i hi
  match i,hi with
  | 0,_=>exact hn _
  | 1,_=>exact SubV.grown h hg
theorem yj2 (B:Nat) (A:Option Addr) (n c:Nat) (ls:List AccV) (w:World) (h:AccR B w ls A n) (hB:B <= w.heap.size) (hn:n <= 1000) (hts:∀ l ∈ ls,l.keys.length <= 1000) :
  Calls jq 75 #[.slice A n c] w fun e w'=>∃ A' c',e = .returned (.agg #[.bool true,.string ⟨#[]⟩,.slice A' n c']) /\ SubV (fun g=>w.heap.size <= g) w' (ls.map ybt) (.slice A' n c') /\ w.grownBy w' none:=by
 have hl:ls.length = n:=h.1;have hRB:=Blk.new w 106 #[.bool false,.string ⟨#[]⟩,.slice none 0 0];have hG:=yaa (jr w none) (.cells #[.bool false,.string ⟨#[]⟩,.slice none 0 0] 106);have h:=h.grown hG hB;have hB1:=jlt hB hG.size;go_enter Tryz.func75,Tryz.ntmps75
 go_upto_region 1 with (fail)
 obtain ⟨b,hb⟩:∃ b,w.heap.size = b:=⟨_,rfl⟩;have HW:=jh hb;rw [hb] at hRB ⊢;have hz:(w.alloc (.cells #[.bool false,.string ⟨#[]⟩,.slice none 0 0] 106)).heap.size = b + 1:=by simp [hb]
 clear hb;generalize w.alloc (.cells #[.bool false,.string ⟨#[]⟩,.slice none 0 0] 106) = W1 at *;go_wp2_with fail
 refine (yeW _ ⟨_,_,_,rfl⟩ _).mono ?_;rintro e w3 ⟨rfl,hg3⟩;obtain ⟨b3,hb3⟩:∃ b,w3.heap.size = b:=⟨_,rfl⟩;have hz3:=hg3.size
 have K0:RdI w3 b3 (.slice none 0 0) 0 ((ls.take 0).map ybt) [] (w3.alloc (.cells #[.bool true,.string ⟨#[]⟩,.slice none 0 0] 106)):=by
  refine ⟨⟨?_,jon _ _ _ _,yaa (jr w3 none) _,by simp;omega,by omega⟩,rfl,rfl,fun i hi=>absurd hi (by omega)⟩;have:=Blk.new w3 106 #[.bool true,.string ⟨#[]⟩,.slice none 0 0]
  rwa [hb3] at this
 have H0:=jh (h.grown hg3 hB1);have HL:=jh hl;have HB:Hid (B <= w3.heap.size):=jh (jlt hB1 hz3);have HB3:Hid (w3.heap.size = b3):=jh hb3;have HRB:=jh (hRB.grown hg3 (by simp));have HG:=jh (yab hG hg3 (by simp));have HZB:Hid (b + 1 <= b3):=jh (by omega);have HTS:=jh hts;clear hG hg3 hl hB hB1 hRB h hts;go_upto_region 2 with (fail)
 generalize w3.alloc (.cells #[.bool true,.string ⟨#[]⟩,.slice none 0 0] 106) = W4 at *;clear hz hz3 hb3;go_wp2_with fail
 go_loopw [9] (fun i wr=>∃ (k:Nat) (v:Value) (vs:List Value),i = .int .i64 k /\ k <= n /\ RdI w3 b3 v k ((ls.take k).map ybt) vs wr) (fun i _=>n - (intOf i).toNat)
 case atStart=>exact ⟨0,_,_,rfl,by omega,K0⟩
 case round =>
  clear K0;obtain ⟨k,v,vs,rfl,hk,K0⟩:=hrel;by_cases hlt:k < n
  ·obtain ⟨q,off,T,tc,x,rfl,hx,hmem,c0,c1,hT,_⟩:=(H0.out.grown K0.held.grown HB.out).at_ hlt;have q1:(k:Int) < (n:Int):=by omega
   have htl:=HTS.out x hmem
   have hTK:(ls.take k).map ybt ++ [ybt x] = (ls.take (k + 1)).map ybt:=by
    rw [List.take_add_one,je (by have:=HL.out;omega),List.map_append];rw [<- hx,jg,je (by have:=HL.out;omega)];rfl
   have HTK:=jh hTK;obtain ⟨its,hits⟩:∃ its,(ls.take k).map ybt = its:=⟨_,rfl⟩;rw [hits] at HTK K0;obtain ⟨ad,keys⟩:=x;simp only at c0 c1 hT htl;obtain ⟨kn,hkn⟩:∃ m,keys.length = m:=⟨_,rfl⟩;have hkl:(keys.map txt).length = kn:=by simp [hkn]
   rw [hkn] at c1 hT htl;have HBW:=jh (jlt HB.out K0.held.grown.size);have HTX:Hid (∀ V,wr.grownBy V none -> Calls jq 111 #[.slice T kn tc] V fun e w'=>∃ A' c',e = .returned (.agg #[.bool true,.string ⟨#[]⟩,.slice A' kn c']) /\ SubV (fun g=>V.heap.size <= g) w' (keys.map txt) (.slice A' kn c') /\ V.grownBy w' none):=jh fun V hV=>ylv B T kn tc keys V (hT.grown hV HBW.out (by simp)) (jlt HBW.out hV.size) htl;clear hx hmem hT hTK hits htl hkn;obtain ⟨vA,vc,rfl⟩:=yaK K0.held.own;have hb7:=Blk.new wr 82 #[.string ad,.slice T kn tc];have hN7:(ja4 vA k vc).ownBlock ≠ some wr.heap.size:=fun e=>by have:=ycH K0.held.own e;omega
   have hB7:b3 ≠ wr.heap.size:=by have:=K0.held.size;omega
   have K0:=K0.kept (yaa (jr wr none) (.cells #[.string ad,.slice T kn tc] 82));have hgu:=yaa (jr wr none) (.cells #[.string ad,.slice T kn tc] 82);go_upto_region 5 with (fail)
   obtain ⟨b7,hb7e⟩:∃ g,wr.heap.size = g:=⟨_,rfl⟩;rw [hb7e] at hb7 hN7 hB7 ⊢;have HN7:=jh hN7;have HB7:=jh hB7;clear hb7e hN7 hB7 c0 c1;generalize wr.alloc (.cells #[.string ad,.slice T kn tc] 82) = w5 at *;refine yci 13 (fun b W=>b = false -> W.cell? ⟨b3,2,none⟩ = some (.slice vA k vc) /\ W.cell? ⟨b7,0,none⟩ = some (.string ad) /\ W.cell? ⟨b7,1,none⟩ = some (.slice T kn tc)) (by kernel_rfl) ?_;replace hb7:Blk w5.drew b7 82 #[.string ad,.slice T kn tc]:=hb7;replace hgu:=ya2 hgu;replace K0:RdI w3 b3 (.slice vA k vc) k its vs w5.drew:=K0.kept (ya2 (jr w5 none));generalize w5.drew = u0 at *;have hS0:false = false -> u0.cell? ⟨b3,2,none⟩ = some (.slice vA k vc) /\ u0.cell? ⟨b7,0,none⟩ = some (.string ad) /\ u0.cell? ⟨b7,1,none⟩ = some (.slice T kn tc):=fun _=>⟨K0.held.blk.cell 2,hb7.cell 0,hb7.cell 1⟩;refine zf 0 (.pointer (some ⟨b3,2,none⟩)) (some 13) rfl (fun W hW=>by go_simp) hS0 ?_;simp only [jp,jb,jz,js];refine zf 1 (.slice vA k vc) (some 14) rfl (fun W hW=>yaf 104 (.tmp 13) rfl _ rfl _ _ ja7 rfl (hW rfl).1) hS0 ?_;simp only [jp,jb,jz,js];refine zf 2 (.pointer (some ⟨b7,0,none⟩)) (some 15) rfl (fun W hW=>by go_simp) hS0 ?_;simp only [jp,jb,jz,js];refine zf 3 (.string ad) (some 16) rfl (fun W hW=>yaf 9 (.tmp 15) rfl _ rfl _ _ ja9 rfl (hW rfl).2.1) hS0 ?_;simp only [jp,jb,jz,js];refine zf 5 (.pointer (some ⟨b7,1,none⟩)) (some 18) rfl (fun W hW=>by go_simp) hS0 ?_;simp only [jp,jb,jz,js];refine zf 6 (.slice T kn tc) (some 19) rfl (fun W hW=>yaf 57 (.tmp 18) rfl _ rfl _ _ Tryz.underlying57 rfl (hW rfl).2.2) hS0 ?_;simp only [jp,jb,jz,js];clear hS0;refine yb6 (i:=4) (by kernel_rfl) ?_;refine ycJ (some 17) rfl rfl 74 #[.string ad] (yak _ (.tmp 16) _ rfl _ rfl (jeo Tryz.func74 (by kernel_rfl) rfl _ _)) rfl false (by kernel_rfl) ((yeh ad u0).mono ?_);rintro e u1 ⟨rfl,hg1⟩;replace K0:=K0.kept hg1;replace hb7:=hb7.grown hg1 (by simp);replace hgu:=yab hgu hg1 (by simp);refine ⟨_,rfl,(fun _=>⟨K0.held.blk.cell 2,hb7.cell 0,hb7.cell 1⟩),?_⟩;simp only [jp,jb,jz,js];refine yb6 (i:=7) (by kernel_rfl) ?_;refine ycJ (some 20) rfl rfl 111 #[.slice T kn tc] (yak _ (.tmp 19) _ rfl _ rfl (jeo Tryz.func111 (by kernel_rfl) rfl _ _)) rfl false (by kernel_rfl) ((HTX.out u1 hgu).mono ?_);rintro e u2 ⟨A',c',rfl,hsub,hg2⟩;have hx1:SubV (fun g=>b3 + 1 <= g /\ (ja4 vA k vc).ownBlock ≠ some g) u2 (keys.map txt) (.slice A' kn c'):=hsub.weak (fun g (h:u1.heap.size <= g)=>⟨by have:=K0.held.size;omega,fun e=>by have:=ycH K0.held.own e;omega⟩);replace K0:=K0.kept hg2;replace hb7:=hb7.grown hg2 (by simp);clear hsub hg1 hg2 hgu HTX;refine ⟨_,rfl,(fun _=>⟨K0.held.blk.cell 2,hb7.cell 0,hb7.cell 1⟩),?_⟩;simp only [jp,jb,jz,js];refine yb6 (i:=8) (by kernel_rfl) ?_;rw [<- hkl] at hx1;have hx2:=yj8 (fun g=>b3 + 1 <= g /\ (ja4 vA k vc).ownBlock ≠ some g) u2 ad (keys.map txt) A' c' ⟨by have:=K0.held.size;omega,fun e=>by have:=ycH K0.held.own e;omega⟩ hx1;rw [hkl] at hx2;have hga:=yaa (jr u2 none) (.cells #[.bool false,.string ad,.slice none 0 0,.bool true,.string ⟨#[]⟩,.slice A' kn c'] 106);replace K0:=K0.kept hga;replace hb7:=hb7.grown hga (by simp);refine ybs (some 21) rfl rfl (.slice (some ⟨u2.heap.size,0,none⟩) 2 2) (w':=u2.alloc (.cells #[.bool false,.string ad,.slice none 0 0,.bool true,.string ⟨#[]⟩,.slice A' kn c'] 106)) (by go_simp <;> rfl) rfl false (by kernel_rfl) (fun _=>⟨K0.held.blk.cell 2,hb7.cell 0,hb7.cell 1⟩) ?_;simp only [jp,jb,jz,js];obtain ⟨z,hz⟩:∃ z,u2.heap.size = z:=⟨_,rfl⟩;rw [hz] at hx2;clear hga hx1;generalize u2.alloc (.cells #[.bool false,.string ad,.slice none 0 0,.bool true,.string ⟨#[]⟩,.slice A' kn c'] 106) = u3 at *;refine yb6 (i:=9) (by kernel_rfl) ?_;refine ycJ (some 22) rfl rfl 72 #[.slice (some ⟨z,0,none⟩) 2 2] (yak _ (.tmp 21) _ rfl _ (by rw [<- hz];rfl) (jeo Tryz.func72 (by kernel_rfl) rfl _ _)) rfl false (by kernel_rfl) ((yeW (.slice (some ⟨z,0,none⟩) 2 2) ⟨_,_,_,rfl⟩ u3).mono ?_);rintro e u4 ⟨rfl,hg4⟩;replace K0:=K0.kept hg4;replace hb7:=hb7.grown hg4 (by simp);replace hx2:=SubV.grown hx2 hg4;refine ⟨_,rfl,(fun _=>⟨K0.held.blk.cell 2,hb7.cell 0,hb7.cell 1⟩),?_⟩;simp only [jp,jb,jz,js];clear hg4;refine yb6 (i:=10) (by kernel_rfl) ?_;have hga:=yaa (jr u4 none) (.cells #[.bool true,.string ⟨#[]⟩,.slice (some ⟨z,0,none⟩) 2 2] 106);replace K0:=K0.kept hga;replace hb7:=hb7.grown hga (by simp);replace hx2:=SubV.grown hx2 hga;refine ybs (some 23) rfl rfl (.slice (some ⟨u4.heap.size,0,none⟩) 1 1) (w':=u4.alloc (.cells #[.bool true,.string ⟨#[]⟩,.slice (some ⟨z,0,none⟩) 2 2] 106)) (by go_simp <;> rfl) rfl false (by kernel_rfl) (fun _=>⟨K0.held.blk.cell 2,hb7.cell 0,hb7.cell 1⟩) ?_;simp only [jp,jb,jz,js];obtain ⟨i0,hi,hz0,hzs,hzb⟩:=info_parts ybr;obtain ⟨v',u6,hrun,hown',hgrow,hiff,hob⟩:=jra (P:=jq) (u4.alloc (.cells #[.bool true,.string ⟨#[]⟩,.slice (some ⟨z,0,none⟩) 2 2] 106)) (b3 + 1) 104 104 106 i0 _ 3 48 ja7 hi hz0 hzs hzb rfl (by decide) (.slice vA k vc) k (yb2 its vs) K0.held.own ⟨u4.heap.size,0,none⟩ 1 1 [.bool true,.string ⟨#[]⟩,.slice (some ⟨z,0,none⟩) 2 2] rfl (yaJ _ _ _ _ _) (by simp [ja2]) (by simp only [maxLen];omega) (by omega) K0.held.size;obtain ⟨g',cap',rfl⟩:=ownsRow_succ hown';have K3:=K0.put (ybt ⟨ad,keys⟩) (.slice (some ⟨z,0,none⟩) 2 2) hx2 hown' hgrow hob;have hb8:=hb7.grown hgrow (fun e=>HN7.out e.symm);have hbb:=K0.held.blk.grown hgrow (fun e=>by have:=yaj K0.held.own e.symm;omega);refine yb6 (i:=11) (by kernel_rfl) ?_;refine ybs (some 24) rfl rfl (.slice (some ⟨g',0,none⟩) (k + 1) cap') (ya7 (.tmp 14) (.tmp 23) 104 rfl _ _ _ rfl rfl hrun) rfl false (by kernel_rfl) (fun _=>⟨hbb.cell 2,hb8.cell 0,hb8.cell 1⟩) ?_;simp only [jp,jb,jz,js];refine yb6 (i:=12) (by kernel_rfl) ?_;refine ybs (some 25) rfl rfl (.pointer (some ⟨b3,2,none⟩)) (by go_simp <;> rfl) rfl false (by kernel_rfl) (fun _=>⟨hbb.cell 2,hb8.cell 0,hb8.cell 1⟩) ?_;simp only [jp,jb,jz,js];refine yb6 (i:=13) (by kernel_rfl) ?_;refine ygA rfl rfl rfl (yaG (.tmp 25) (.tmp 24) rfl rfl rfl hbb (by simp)) true (by kernel_rfl) (fun e=>by cases e) ?_;(try simp only [jp,jb,jz,js]);refine ygB (by kernel_rfl) ?_ _;rw [HTK.out] at K3;clear hrun hown' hgrow hob hiff hx2 K0 hb7 hb8 hbb hga hz;go_wp2_with fail
   go_roundw
   case rel=>exact ⟨k + 1,_,_,by go_num,by omega,K3⟩
   case measure=>simp [intOf];omega
  ·obtain rfl:k = n:=by omega
   have hfin:decide ((k:Int) < (k:Int)) = false:=by simp
   have hRB:=HRB.out.grown K0.held.grown (by simp);obtain ⟨vA,vc,rfl⟩:=yaK K0.held.own;have hle:w.heap.size <= b:=by have:=HW.out;omega
   have hb3:b + 1 <= b3:=by have:=HZB.out;omega
   have ht:ls.take k = ls:=jtl (by have:=HL.out;omega);rw [ht] at K0;have hS:=K0.row;have HS5:=jh (SubV.weak (ydq (g:=b) hS (by omega) (.bool true) (.string ⟨#[]⟩) (.slice vA k vc)) (fun g (hg:b3 + 1 <= g)=>(show w.heap.size <= g by omega)));have HG5:=jh (yap (yap (yap (yab HG.out K0.held.grown (by simp)) (p:=⟨b,0,none⟩) hle (.bool true)) (p:=⟨b,1,none⟩) hle (.string ⟨#[]⟩)) (p:=⟨b,2,none⟩) hle (.slice vA k vc));have HB5:=jh (((hRB.set_ 0 (.bool true)).set_ 1 (.string ⟨#[]⟩)).set_ 2 (.slice vA k vc));have c0:=hRB.cell 0;have c1:=hRB.cell 1;have c2:=hRB.cell 2;have d0:=hRB.frozen 0;have d1:=hRB.frozen 1;have d2:=hRB.frozen 2;have e0:=K0.held.blk.cell 0;have e1:=K0.held.blk.cell 1;have e2:=K0.held.blk.cell 2;simp only [jta,jcz,jcs] at c0 c1 c2 e0 e1 e2;clear K0 hle hb3 ht hS hRB hk hlt;go_wp2_with fail
   refine jbr (yaw (fn:=Tryz.f75) rfl _ _ _ _ rfl (yaX HB5.out)) rfl ?_;exact ⟨_,_,rfl,HS5.out,HG5.out⟩
theorem ykf (a0 a1 a2 a3:Nat) (h0:a0 < 18446744073709551616) (h1:a1 < 18446744073709551616) (h2:a2 < 18446744073709551616) (h3:a3 < 18446744073709551616) (w:World) :
  Calls jq 115 #[.agg #[.int .u64 (a0:Int),.int .u64 (a1:Int),.int .u64 (a2:Int),.int .u64 (a3:Int)]] w fun e w'=>e = .returned (.agg #[.bool false,.string ⟨(beN (ycx a0 a1 a2 a3)).toArray⟩,.slice none 0 0]) /\ w.grownBy w' none:=by
 have hbe:=fun V=>ygG a0 a1 a2 a3 h0 h1 h2 h3 V;obtain ⟨t,ht⟩:∃ t:ByteArray,(⟨(beN (ycx a0 a1 a2 a3)).toArray⟩:ByteArray) = t:=⟨_,rfl⟩;rw [ht] at hbe ⊢;have HBe:=jh hbe;clear hbe ht h0 h1 h2 h3;have hX:=(Blk.new w 38 #[.int .u64 (a0:Int),.int .u64 (a1:Int),.int .u64 (a2:Int),.int .u64 (a3:Int)]).alloc (.cells #[.bool false,.string ⟨#[]⟩,.slice none 0 0] 106);have hB:=Blk.new (w.alloc (.cells #[.int .u64 (a0:Int),.int .u64 (a1:Int),.int .u64 (a2:Int),.int .u64 (a3:Int)] 38)) 106 #[.bool false,.string ⟨#[]⟩,.slice none 0 0];rw [jsa] at hB;have HG:=jh (yaa (yaa (jr w none) (.cells #[.int .u64 (a0:Int),.int .u64 (a1:Int),.int .u64 (a2:Int),.int .u64 (a3:Int)] 38)) (.cells #[.bool false,.string ⟨#[]⟩,.slice none 0 0] 106));go_enter Tryz.func115,Tryz.ntmps115
 go_upto_region 1 with (fail)
 obtain ⟨b,hb⟩:∃ b,w.heap.size = b:=⟨_,rfl⟩;have HW:=jh hb;rw [hb] at hB hX ⊢;clear hb;generalize (w.alloc (.cells #[.int .u64 (a0:Int),.int .u64 (a1:Int),.int .u64 (a2:Int),.int .u64 (a3:Int)] 38)).alloc (.cells #[.bool false,.string ⟨#[]⟩,.slice none 0 0] 106) = W1 at *;have x0:=hX.cell 0;have x1:=hX.cell 1;have x2:=hX.cell 2;have x3:=hX.cell 3;simp only [jta,jcz,jcs] at x0 x1 x2 x3;go_wp2_with fail
 refine (HBe.out _).mono ?_;rintro e w3 ⟨rfl,hg3⟩;have hB:=hB.grown hg3 (by simp);have hG4:=yab HG.out hg3 (by simp);have hle:w.heap.size <= b + 1:=by have:=HW.out;omega
 have HG5:=jh (yap (yap (yap hG4 (p:=⟨b + 1,0,none⟩) hle (.bool false)) (p:=⟨b + 1,1,none⟩) hle (.string t)) (p:=⟨b + 1,2,none⟩) hle (.slice none 0 0));have HB5:=jh (((hB.set_ 0 (.bool false)).set_ 1 (.string t)).set_ 2 (.slice none 0 0));have c0:=hB.cell 0;have c1:=hB.cell 1;have c2:=hB.cell 2;have d0:=hB.frozen 0;have d1:=hB.frozen 1;have d2:=hB.frozen 2;simp only [jta,jcz,jcs] at c0 c1 c2;clear hg3 hG4 hB hle x0 x1 x2 x3 hX;go_wp2_with fail
 refine jbr (yaw (fn:=Tryz.f115) rfl _ _ _ _ rfl (yaX HB5.out)) rfl ?_;exact ⟨rfl,HG5.out⟩
theorem ydC (s:ByteArray) (w:World) :
  Calls jq 116 #[.string s] w fun e w'=>e = .returned (.agg #[.bool false,.string s,.slice none 0 0]) /\ w.grownBy w' none:=by
 have hB:=Blk.new w 106 #[.bool false,.string s,.slice none 0 0];have hG:=yaa (jr w none) (.cells #[.bool false,.string s,.slice none 0 0] 106);go_enter Tryz.func116,Tryz.ntmps116
 go_wp2_with fail
 refine jbr (yaw (fn:=Tryz.f116) rfl _ _ _ _ rfl (yaX hB)) rfl ?_;exact ⟨rfl,hG⟩
theorem ydI (sv:Value) (hsv:∃ A n c,sv = .slice A n c) (w:World) :
  Calls jq 118 #[sv] w fun e w'=>e = .returned (.agg #[.bool true,.string ⟨#[]⟩,sv]) /\ w.grownBy w' none:=by
 obtain ⟨A,n,c,rfl⟩:=hsv;have hB:=Blk.new w 106 #[.bool true,.string ⟨#[]⟩,.slice A n c];have hG:=yaa (jr w none) (.cells #[.bool true,.string ⟨#[]⟩,.slice A n c] 106);go_enter Tryz.func118,Tryz.ntmps118
 go_wp2_with fail
 refine jbr (yaw (fn:=Tryz.f118) rfl _ _ _ _ rfl (yaX hB)) rfl ?_;exact ⟨rfl,hG⟩
theorem yiF (B:Nat) (A:Option Addr) (n c:Nat) (xs:List ByteArray) (w:World) (h:Reads w B 1 A n (xs.map ja8)) (hB:B <= w.heap.size) (hn:n <= 1000) :
  Calls jq 151 #[.slice A n c] w fun e w'=>∃ A' c',e = .returned (.agg #[.bool true,.string ⟨#[]⟩,.slice A' n c']) /\ SubV (fun g=>w.heap.size <= g) w' (xs.map txt) (.slice A' n c') /\ w.grownBy w' none:=by
 have hl:xs.length = n:=by have:=h.1;simpa using this
 have hRB:=Blk.new w 106 #[.bool false,.string ⟨#[]⟩,.slice none 0 0];have hG:=yaa (jr w none) (.cells #[.bool false,.string ⟨#[]⟩,.slice none 0 0] 106);go_enter Tryz.func151,Tryz.ntmps151
 go_upto_region 1 with (fail)
 obtain ⟨b,hb⟩:∃ b,w.heap.size = b:=⟨_,rfl⟩;have HW:=jh hb;rw [hb] at hRB ⊢;have hz:(w.alloc (.cells #[.bool false,.string ⟨#[]⟩,.slice none 0 0] 106)).heap.size = b + 1:=by simp [hb]
 have h:=h.alloc hB (.cells #[.bool false,.string ⟨#[]⟩,.slice none 0 0] 106);generalize w.alloc (.cells #[.bool false,.string ⟨#[]⟩,.slice none 0 0] 106) = W1 at *;obtain ⟨w3,hw3⟩:∃ w3,W1 = w3:=⟨_,rfl⟩;have hg3:W1.grownBy w3 none:=hw3 ▸ jr W1 none;rw [hw3];obtain ⟨b3,hb3⟩:∃ b,w3.heap.size = b:=⟨_,rfl⟩;have hz3:=hg3.size
 have K0:Held3 w3 b3 (.slice none 0 0) 0 (txtV (xs.take 0)) (w3.alloc (.cells #[.bool true,.string ⟨#[]⟩,.slice none 0 0] 106)):=by
  refine ⟨?_,jon _ _ _ _,yaa (jr w3 none) _,by simp;omega,by omega⟩;have:=Blk.new w3 106 #[.bool true,.string ⟨#[]⟩,.slice none 0 0]
  rwa [hb3] at this
 have h:=h.grown hg3 (by have:=HW.out;omega) (by simp);have h0:=jh h;have HL:=jh hl;have HB:Hid (B <= w3.heap.size):=jh (by have:=HW.out;omega);have HRB:=jh (hRB.grown hg3 (by simp));have HG:=jh (yab hG hg3 (by simp));have h:=h.alloc HB.out (.cells #[.bool true,.string ⟨#[]⟩,.slice none 0 0] 106);have HB3:Hid (w3.heap.size = b3):=jh hb3;have HS:Hid (w.heap.size <= b3):=jh (by have:=HW.out;omega);have HZB:Hid (b + 1 <= b3):=jh (by omega);clear hG hg3 hl hB hRB hw3;go_upto_region 2 with (fail)
 generalize w3.alloc (.cells #[.bool true,.string ⟨#[]⟩,.slice none 0 0] 106) = W4 at *;clear hz hz3 hb3;go_wp2_with fail
 go_loopw [4] (fun i wr=>∃ (k:Nat) (v:Value),i = .int .i64 k /\ k <= n /\ Held3 w3 b3 v k (txtV (xs.take k)) wr) (fun i _=>n - (intOf i).toNat)
 case atStart=>exact ⟨0,_,rfl,by omega,K0⟩
 case round =>
  clear K0 h;obtain ⟨k,v,rfl,hk,K0⟩:=hrel;have h:=h0.out.grown K0.grown HB.out (by simp);by_cases hlt:k < n
  ·obtain ⟨g,off,rfl,hg,hc⟩:=Reads.vals ja8 .empty h hlt;have c0:=hc k hlt;have q1:(k:Int) < (n:Int):=by omega
   have hTK:txtV (xs.take k) ++ [.bool false,.string (xs.getD k .empty),.slice none 0 0] = txtV (xs.take (k + 1)):=by
    rw [<- yh7,List.take_add_one,je (by have:=HL.out;omega),jg,je (by have:=HL.out;omega)];rfl
   obtain ⟨s,hs⟩:∃ s,xs.getD k .empty = s:=⟨_,rfl⟩;rw [hs] at c0 hTK;have HTK:=jh hTK;have H0:=jh h0.out;have HGB:Hid (g < b3):=jh (by have:=HB.out;have:=HB3.out;omega);clear h hc hs h0 hTK;obtain ⟨vA,vc,rfl⟩:=yaK K0.own;go_wp2_with fail
   refine jwh (S:=fun W=>W.cell? ⟨g,off + k,none⟩ = some (.string s)) (by kernel_rfl) ?_;change wpAnyH _ _ _ _ _ _ _ _ wr.drew;have hS0:wr.drew.cell? ⟨g,off + k,none⟩ = some (.string s):=c0;replace K0:=K0.drew;generalize wr.drew = u0 at *;clear c0;have hgb:g < b3:=HGB.out;refine zt 0 (.pointer (some ⟨b3,2,none⟩)) (some 12) rfl (fun W hW=>by go_simp) hS0 ?_;simp only [jp,jb,jz,js];refine zt 2 (.slice (some ⟨g,off,none⟩) n c) (some 14) rfl (fun W hW=>by go_simp) hS0 ?_;simp only [jp,jb,jz,js];refine zt 3 (.int .i64 (k:Int)) (some 15) rfl (fun W hW=>by go_simp) hS0 ?_;simp only [jp,jb,jz,js];refine zt 4 (.pointer (some ⟨g,off + k,none⟩)) (some 16) rfl (fun W hW=>by go_simp) hS0 ?_;simp only [jp,jb,jz,js];refine zt 5 (.string s) (some 17) rfl (fun W hW=>by have q:W.cell? ⟨g,off + k,none⟩ = some (.string s):=hW;go_simp) hS0 ?_;simp only [jp,jb,jz,js];refine yc5 (i:=1) (j:=6) (by kernel_rfl) ?_ ?_
   ·refine yal (some 13) rfl rfl (.slice vA k vc) (ybI 104 (.tmp 12) rfl _ rfl _ _ ja7 rfl (K0.blk.cell 2)) rfl hS0 ?_;simp only [jp,jb,jz,js];refine yam (i:=6) (by kernel_rfl) ?_;refine ybe (some 18) rfl rfl 116 #[.string s] (yak 116 (.tmp 17) _ rfl _ rfl rfl) rfl ((ydC s _).mono ?_);rintro e u1 ⟨rfl,hgc⟩;have hS1:u1.cell? ⟨g,off + k,none⟩ = some (.string s):=hgc.cell hS0 (by simp);have K1:=K0.kept hgc;refine ⟨_,rfl,hS1,?_⟩;simp only [jp,jb,jz,js];refine yam (i:=7) (by kernel_rfl) ?_;have hS2:(u1.alloc (.cells #[.bool false,.string s,.slice none 0 0] 106)).cell? ⟨g,off + k,none⟩ = some (.string s):=(yaa (jr u1 none) _).cell hS1 (by simp);refine yal (some 19) rfl rfl (.slice (some ⟨u1.heap.size,0,none⟩) 1 1) (by go_simp <;> rfl) rfl hS2 ?_;simp only [jp,jb,jz,js];have K2:=K1.kept (yaa (jr u1 none) (.cells #[.bool false,.string s,.slice none 0 0] 106));obtain ⟨i0,hi,hz0,hzs,hzb⟩:=info_parts ybr;obtain ⟨v',u2,hrun,hown',hgrow,hiff,hob⟩:=jra (P:=jq) (u1.alloc (.cells #[.bool false,.string s,.slice none 0 0] 106)) (b3 + 1) 104 104 106 i0 _ 3 48 ja7 hi hz0 hzs hzb rfl (by decide) (.slice vA k vc) k (txtV (xs.take k)) K2.own ⟨u1.heap.size,0,none⟩ 1 1 [.bool false,.string s,.slice none 0 0] rfl (yaJ _ _ _ _ _) (by simp [ja2]) (by simp only [maxLen];omega) (by omega) K2.size;have hS3:u2.cell? ⟨g,off + k,none⟩ = some (.string s):=hgrow.cell hS2 (fun e=>by have e2:b3 + 1 <= g:=yaj K2.own e.symm;omega);obtain ⟨g',cap',rfl⟩:=ownsRow_succ hown';have K3:=K2.put hown' hgrow;refine yam (i:=8) (by kernel_rfl) ?_;refine yal (some 20) rfl rfl (.slice (some ⟨g',0,none⟩) (k + 1) cap') (ya7 (.tmp 13) (.tmp 19) 104 rfl _ _ _ rfl rfl hrun) rfl hS3 ?_;simp only [jp,jb,jz,js];refine yam (i:=9) (by kernel_rfl) ?_;refine yal (some 21) rfl rfl (.pointer (some ⟨b3,2,none⟩)) (by go_simp <;> rfl) rfl hS3 ?_;simp only [jp,jb,jz,js];refine yam (i:=10) (by kernel_rfl) ?_;have hS4:(u2.setCell ⟨b3,2,none⟩ (.slice (some ⟨g',0,none⟩) (k + 1) cap')).cell? ⟨g,off + k,none⟩ = some (.string s):=by rw [jd1 _ _ _ _ (by show b3 ≠ g;omega)];exact hS3
    refine yaO rfl rfl (yaG (.tmp 21) (.tmp 20) rfl rfl rfl (K2.blk.grown hgrow (fun e=>by have:=yaj K2.own e.symm;omega)) (by simp)) hS4 ?_;simp only [jp,jb,jz,js];refine jwd (by kernel_rfl) ?_ _;rw [HTK.out] at K3;clear hrun hown' hgrow hob K2 hiff;go_wp2_with fail
    go_roundw
    case rel=>exact ⟨k + 1,_,by go_num,by omega,K3⟩
    case measure=>simp [intOf];omega
   ·refine ybe (some 18) rfl rfl 116 #[.string s] (yak 116 (.tmp 17) _ rfl _ rfl rfl) rfl ((ydC s _).mono ?_);rintro e u1 ⟨rfl,hgc⟩;have hS1:u1.cell? ⟨g,off + k,none⟩ = some (.string s):=hgc.cell hS0 (by simp);have K1:=K0.kept hgc;refine ⟨_,rfl,hS1,?_⟩;simp only [jp,jb,jz,js];refine yc5 (i:=1) (j:=7) (by kernel_rfl) ?_ ?_
    ·refine yal (some 13) rfl rfl (.slice vA k vc) (ybI 104 (.tmp 12) rfl _ rfl _ _ ja7 rfl (K1.blk.cell 2)) rfl hS1 ?_;simp only [jp,jb,jz,js];refine yam (i:=7) (by kernel_rfl) ?_;have hS2:(u1.alloc (.cells #[.bool false,.string s,.slice none 0 0] 106)).cell? ⟨g,off + k,none⟩ = some (.string s):=(yaa (jr u1 none) _).cell hS1 (by simp);refine yal (some 19) rfl rfl (.slice (some ⟨u1.heap.size,0,none⟩) 1 1) (by go_simp <;> rfl) rfl hS2 ?_;simp only [jp,jb,jz,js];have K2:=K1.kept (yaa (jr u1 none) (.cells #[.bool false,.string s,.slice none 0 0] 106));obtain ⟨i0,hi,hz0,hzs,hzb⟩:=info_parts ybr;obtain ⟨v',u2,hrun,hown',hgrow,hiff,hob⟩:=jra (P:=jq) (u1.alloc (.cells #[.bool false,.string s,.slice none 0 0] 106)) (b3 + 1) 104 104 106 i0 _ 3 48 ja7 hi hz0 hzs hzb rfl (by decide) (.slice vA k vc) k (txtV (xs.take k)) K2.own ⟨u1.heap.size,0,none⟩ 1 1 [.bool false,.string s,.slice none 0 0] rfl (yaJ _ _ _ _ _) (by simp [ja2]) (by simp only [maxLen];omega) (by omega) K2.size;have hS3:u2.cell? ⟨g,off + k,none⟩ = some (.string s):=hgrow.cell hS2 (fun e=>by have e2:b3 + 1 <= g:=yaj K2.own e.symm;omega);obtain ⟨g',cap',rfl⟩:=ownsRow_succ hown';have K3:=K2.put hown' hgrow;refine yam (i:=8) (by kernel_rfl) ?_;refine yal (some 20) rfl rfl (.slice (some ⟨g',0,none⟩) (k + 1) cap') (ya7 (.tmp 13) (.tmp 19) 104 rfl _ _ _ rfl rfl hrun) rfl hS3 ?_;simp only [jp,jb,jz,js];refine yam (i:=9) (by kernel_rfl) ?_;refine yal (some 21) rfl rfl (.pointer (some ⟨b3,2,none⟩)) (by go_simp <;> rfl) rfl hS3 ?_;simp only [jp,jb,jz,js];refine yam (i:=10) (by kernel_rfl) ?_;have hS4:(u2.setCell ⟨b3,2,none⟩ (.slice (some ⟨g',0,none⟩) (k + 1) cap')).cell? ⟨g,off + k,none⟩ = some (.string s):=by rw [jd1 _ _ _ _ (by show b3 ≠ g;omega)];exact hS3
     refine yaO rfl rfl (yaG (.tmp 21) (.tmp 20) rfl rfl rfl (K2.blk.grown hgrow (fun e=>by have:=yaj K2.own e.symm;omega)) (by simp)) hS4 ?_;simp only [jp,jb,jz,js];refine jwd (by kernel_rfl) ?_ _;rw [HTK.out] at K3;clear hrun hown' hgrow hob K2 hiff;go_wp2_with fail
     go_roundw
     case rel=>exact ⟨k + 1,_,by go_num,by omega,K3⟩
     case measure=>simp [intOf];omega
    ·have hS2:(u1.alloc (.cells #[.bool false,.string s,.slice none 0 0] 106)).cell? ⟨g,off + k,none⟩ = some (.string s):=(yaa (jr u1 none) _).cell hS1 (by simp);refine yal (some 19) rfl rfl (.slice (some ⟨u1.heap.size,0,none⟩) 1 1) (by go_simp <;> rfl) rfl hS2 ?_;simp only [jp,jb,jz,js];have K2:=K1.kept (yaa (jr u1 none) (.cells #[.bool false,.string s,.slice none 0 0] 106));refine yam (i:=1) (by kernel_rfl) ?_;refine yal (some 13) rfl rfl (.slice vA k vc) (ybI 104 (.tmp 12) rfl _ rfl _ _ ja7 rfl (K2.blk.cell 2)) rfl hS2 ?_;simp only [jp,jb,jz,js];obtain ⟨i0,hi,hz0,hzs,hzb⟩:=info_parts ybr;obtain ⟨v',u2,hrun,hown',hgrow,hiff,hob⟩:=jra (P:=jq) (u1.alloc (.cells #[.bool false,.string s,.slice none 0 0] 106)) (b3 + 1) 104 104 106 i0 _ 3 48 ja7 hi hz0 hzs hzb rfl (by decide) (.slice vA k vc) k (txtV (xs.take k)) K2.own ⟨u1.heap.size,0,none⟩ 1 1 [.bool false,.string s,.slice none 0 0] rfl (yaJ _ _ _ _ _) (by simp [ja2]) (by simp only [maxLen];omega) (by omega) K2.size;have hS3:u2.cell? ⟨g,off + k,none⟩ = some (.string s):=hgrow.cell hS2 (fun e=>by have e2:b3 + 1 <= g:=yaj K2.own e.symm;omega);obtain ⟨g',cap',rfl⟩:=ownsRow_succ hown';have K3:=K2.put hown' hgrow;refine yam (i:=8) (by kernel_rfl) ?_;refine yal (some 20) rfl rfl (.slice (some ⟨g',0,none⟩) (k + 1) cap') (ya7 (.tmp 13) (.tmp 19) 104 rfl _ _ _ rfl rfl hrun) rfl hS3 ?_;simp only [jp,jb,jz,js];refine yam (i:=9) (by kernel_rfl) ?_;refine yal (some 21) rfl rfl (.pointer (some ⟨b3,2,none⟩)) (by go_simp <;> rfl) rfl hS3 ?_;simp only [jp,jb,jz,js];refine yam (i:=10) (by kernel_rfl) ?_;have hS4:(u2.setCell ⟨b3,2,none⟩ (.slice (some ⟨g',0,none⟩) (k + 1) cap')).cell? ⟨g,off + k,none⟩ = some (.string s):=by rw [jd1 _ _ _ _ (by show b3 ≠ g;omega)];exact hS3
     refine yaO rfl rfl (yaG (.tmp 21) (.tmp 20) rfl rfl rfl (K2.blk.grown hgrow (fun e=>by have:=yaj K2.own e.symm;omega)) (by simp)) hS4 ?_;simp only [jp,jb,jz,js];refine jwd (by kernel_rfl) ?_ _;rw [HTK.out] at K3;clear hrun hown' hgrow hob K2 hiff;go_wp2_with fail
     go_roundw
     case rel=>exact ⟨k + 1,_,by go_num,by omega,K3⟩
     case measure=>simp [intOf];omega
  ·obtain rfl:k = n:=by omega
   have hfin:decide ((k:Int) < (k:Int)) = false:=by simp
   clear h h0;have hRB:=HRB.out.grown K0.grown (by simp);obtain ⟨vA,vc,rfl⟩:=yaK K0.own;have hle:w.heap.size <= b:=by have:=HW.out;omega
   have hb3:b + 1 <= b3:=by have:=HZB.out;omega
   have ht:xs.take k = xs:=jtl (by have:=HL.out;omega);have hS:=ylt HL.out (ht ▸ K0.own);have HS5:=jh (SubV.weak (ydq (g:=b) hS (by omega) (.bool true) (.string ⟨#[]⟩) (.slice vA k vc)) (fun g (hg:b3 + 1 <= g)=>(show w.heap.size <= g by omega)));have HG5:=jh (yap (yap (yap (yab HG.out K0.grown (by simp)) (p:=⟨b,0,none⟩) hle (.bool true)) (p:=⟨b,1,none⟩) hle (.string ⟨#[]⟩)) (p:=⟨b,2,none⟩) hle (.slice vA k vc));have HB5:=jh (((hRB.set_ 0 (.bool true)).set_ 1 (.string ⟨#[]⟩)).set_ 2 (.slice vA k vc));have c0:=hRB.cell 0;have c1:=hRB.cell 1;have c2:=hRB.cell 2;have d0:=hRB.frozen 0;have d1:=hRB.frozen 1;have d2:=hRB.frozen 2;have e0:=K0.blk.cell 0;have e1:=K0.blk.cell 1;have e2:=K0.blk.cell 2;simp only [jta,jcz,jcs] at c0 c1 c2 e0 e1 e2;clear K0 hle hb3 ht hS hRB hk hlt;go_wp2_with fail
   refine jbr (yaw (fn:=Tryz.f151) rfl _ _ _ _ rfl (yaX HB5.out)) rfl ?_;exact ⟨_,_,rfl,HS5.out,HG5.out⟩
def ybP (s:ByteArray):Bool:=decide (s.size ≠ 32)
def ybc (a:AccV):Bool:=decide (a.addr.size ≠ 20) || a.keys.any ybP
def ybm (a:AutV):Bool:=decide (a.addr.size ≠ 20) || decide (1 < a.y)
def yb8 (a:AccV):Bool:=decide (16 < a.keys.length)
theorem ydd {α:Type} {d:α} {xs:List α} {p:α -> Bool} {k:Nat} (hk:k < xs.length) (h:p (xs.getD k d) = true):xs.any p = true:=by
 rw [List.any_eq_true];refine ⟨xs.getD k d,?_,h⟩;rw [jg,je hk];exact List.getElem_mem hk
theorem ycw {α:Type} {d:α} {xs:List α} {p:α -> Bool} (h:∀ i,i < xs.length -> p (xs.getD i d) = false):xs.any p = false:=by
 rw [List.any_eq_false];intro x hx;obtain ⟨i,hi,rfl⟩:=List.getElem_of_mem hx;have:=h i hi;rw [jg,je hi] at this;simpa using this
theorem yk7 (s:ByteArray) (w:World):Calls jq 102 #[.string s] w fun e w'=>e = .returned (.bool (ybP s)) /\ w' = w:=by
 obtain ⟨r,hr⟩:∃ r,ybP s = r:=⟨_,rfl⟩;rw [hr];by_cases h:s.size = 32
 ·have hf:r = false:=by rw [<- hr];simp [ybP,h]
  subst hf;have q:((s.size:Int) != 32) = false:=by simp;omega
  clear hr h;go_enter Tryz.func102,Tryz.ntmps102
  go_wp2_with fail
  go_ret
  exact ⟨rfl,rfl⟩
 ·have hf:r = true:=by rw [<- hr];simp [ybP,h]
  subst hf;have q:((s.size:Int) != 32) = true:=by simp;omega
  clear hr h;go_enter Tryz.func102,Tryz.ntmps102
  go_wp2_with fail
  go_ret
  exact ⟨rfl,rfl⟩
theorem yhg (B:Nat) (A:Option Addr) (n c:Nat) (xs:List ByteArray) (w:World) (h:Reads w B 1 A n (xs.map ja8)) (hn:n <= 9223372036854775807) :
  Calls jq 138 #[.slice A n c,.func (.func 102) #[] #[]] w fun e w'=>(∃ i:Int,e = .returned (.int .i64 i) /\ decide (0 <= i) = xs.any ybP) /\ w' = w:=by
 have hl:xs.length = n:=by have:=h.1;simpa using this
 have HL:=jh hl;have HR:=jh h;clear hl h;go_enter Tryz.func138,Tryz.ntmps138
 go_wp2_with fail
 go_loopw [8] (fun i wr=>∃ k:Nat,i = .int .i64 k /\ k <= n /\ w = wr /\ Hid (∀ i:Nat,i < k -> ybP (xs.getD i .empty) = false)) (fun i _=>n - (intOf i).toNat)
 case atStart=>exact ⟨0,rfl,by omega,rfl,jh (by intro i h1;omega)⟩
 case round =>
  obtain ⟨k,rfl,hk,rfl,h2⟩:=hrel;have h2':=jh h2.out;by_cases hlt:k < n
  ·obtain ⟨q,off,rfl,hq,hc⟩:=Reads.vals ja8 .empty HR.out hlt;have c0:=hc k hlt;have q1:(k:Int) < (n:Int):=by omega
   obtain ⟨x,hx⟩:∃ x,xs.getD k .empty = x:=⟨_,rfl⟩;rw [hx] at c0;have HX:=jh hx;clear h2 hc hx;go_wp2_with fail
   refine (yk7 x _).mono ?_;rintro e w2 ⟨rfl,rfl⟩;obtain ⟨r,hr⟩:∃ r,ybP x = r:=⟨_,rfl⟩;rw [hr];have HRR:=jh hr;clear c0 hr;cases r with
   | true =>
    go_wp2_with fail
    go_ret
    refine ⟨⟨(k:Int),rfl,?_⟩,rfl⟩;rw [ydd (d:=.empty) (k:=k) (by rw [HL.out];exact hlt) (by rw [HX.out];exact HRR.out)];exact decide_eq_true (by omega)
   | false =>
    go_wp2_with fail
    refine ⟨⟨k + 1,by go_num,by omega,by first | rfl | trivial,jh fun i hi=>?_⟩,by simp [intOf];omega⟩;by_cases hik:i = k
    ·rw [hik,HX.out];exact HRR.out
    ·exact h2'.out i (by omega)
  ·have q1:(n:Int) <= (k:Int):=by omega
   have hno:=ycw (d:=.empty) (p:=ybP) (xs:=xs) (fun i hi=>h2.out i (by have:=HL.out;omega));have HNO:=jh hno;clear h2 h2' hno;go_wp2_with fail
   go_ret
   exact ⟨⟨-1,rfl,by rw [HNO.out];rfl⟩,rfl⟩
theorem yeM (B:Nat) (A:Option Addr) (n c:Nat) (xs:List ByteArray) (w:World) (h:Reads w B 1 A n (xs.map ja8)) (hn:n <= 9223372036854775807) :
  Calls jq 104 #[.slice A n c,.func (.func 102) #[] #[]] w fun e w'=>e = .returned (.bool (xs.any ybP)) /\ w' = w:=by
 have HI:=jh (yhg B A n c xs w h hn);clear h;go_enter Tryz.func104,Tryz.ntmps104
 go_wp2_with fail
 refine HI.out.mono ?_;rintro e w2 ⟨⟨i,rfl,hi⟩,rfl⟩;have HI2:=jh hi;clear hi;go_wp2_with fail
 go_ret
 exact ⟨by rw [<- HI2.out];rfl,rfl⟩
theorem yiO (l:AccV) (B:Nat) (T:Option Addr) (tc p:Nat) (w:World) (hp:Boxed w p 138 (.func (.func 102) #[] #[])) (h:Reads w B 1 T l.keys.length (l.keys.map ja8)) (hB:B <= w.heap.size) (hn:l.keys.length <= 9223372036854775807) :
  Calls jq 103 #[.agg (accC l T tc),.pointer (some ⟨p,0,none⟩)] w fun e w'=>e = .returned (.bool (ybc l)) /\ w.grownBy w' none:=by
 have hG:=yaa (jr w none) (.cells (accC l T tc) 82);have hb:=Blk.new w 82 (accC l T tc);have hp1:=hp.alloc (.cells (accC l T tc) 82);have hR:=h.grown hG hB (by simp);have hpl:=hp.lt;obtain ⟨ad,xs⟩:=l;simp only [accC] at *;obtain ⟨r,hr⟩:∃ r,ybc ⟨ad,xs⟩ = r:=⟨_,rfl⟩;rw [hr];have HRR:=jh hr;obtain ⟨n,hl⟩:∃ n,xs.length = n:=⟨_,rfl⟩;rw [hl] at hb hR hG hp1 hn ⊢;have HC:=jh (fun V (hV:Reads V B 1 T n (xs.map ja8))=>yeM B T n tc xs V hV hn);have HR:=jh hR;clear hr h hR hB hp hl hn;go_enter Tryz.func103,Tryz.ntmps103
 go_upto_region 1 with (fail)
 obtain ⟨g,hg⟩:∃ g,w.heap.size = g:=⟨_,rfl⟩;rw [hg] at hb hpl ⊢;clear hg;generalize w.alloc (.cells #[.string ad,.slice T n tc] 82) = w1 at *;have c0:=hb.cell 0;have c1:=hb.cell 1;have cp:=hp1.cell;simp only [jta,jcz,jcs] at c0 c1;have HG:=jh hG;clear hb hp1 hG;by_cases ha:ad.size = 20
 ·have q:((ad.size:Int) != 20) = false:=by simp;omega
  have HA:=jh ha;clear ha;go_wp2_with fail
  refine (HC.out _ HR.out).mono ?_;rintro e w2 ⟨rfl,rfl⟩;obtain ⟨s,hs⟩:∃ s,xs.any ybP = s:=⟨_,rfl⟩;rw [hs];have HSS:=jh hs;clear hs;go_wp2_with fail
  go_ret
  refine ⟨?_,HG.out⟩;rw [<- HRR.out];show _ = Ending.returned (.bool (decide (ad.size ≠ 20) || xs.any ybP));rw [HSS.out,HA.out];rfl
 ·have q:((ad.size:Int) != 20) = true:=by simp;omega
  have HA:=jh ha;clear ha;go_wp2_with fail
  go_ret
  refine ⟨?_,HG.out⟩;rw [<- HRR.out];show _ = Ending.returned (.bool (decide (ad.size ≠ 20) || xs.any ybP));rw [decide_eq_true HA.out];rfl
theorem yjz (l:AccV) (T:Option Addr) (tc:Nat) (w:World) :
  Calls jq 57 #[.agg (accC l T tc)] w fun e w'=>e = .returned (.bool (yb8 l)) /\ w.grownBy w' none:=by
 have hG:=yaa (jr w none) (.cells (accC l T tc) 82);have hb:=Blk.new w 82 (accC l T tc);obtain ⟨ad,xs⟩:=l;simp only [accC] at *;have hr:yb8 ⟨ad,xs⟩ = decide (16 < xs.length):=rfl;rw [hr];clear hr;obtain ⟨n,hl⟩:∃ n,xs.length = n:=⟨_,rfl⟩;rw [hl] at hb hG ⊢;clear hl;have e1:decide (16 < n) = decide ((16:Int) < (n:Int)):=decide_eq_decide.2 (by omega);rw [e1];clear e1;go_enter Tryz.func57,Tryz.ntmps57
 go_upto_region 1 with (fail)
 obtain ⟨g,hg⟩:∃ g,w.heap.size = g:=⟨_,rfl⟩;rw [hg] at hb ⊢;clear hg;generalize w.alloc (.cells #[.string ad,.slice T n tc] 82) = w1 at *;have c1:=hb.cell 1;simp only [jta,jcz,jcs] at c1;have HG:=jh hG;clear hb hG;cases h1:decide ((16:Int) < (n:Int)) with
 | true =>
  have K1:=jh h1;go_wp2_with fail
  go_ret
  exact ⟨by rw [K1.out];rfl,HG.out⟩
 | false =>
  have K1:=jh h1;go_wp2_with fail
  go_ret
  exact ⟨by rw [K1.out];rfl,HG.out⟩
theorem yiP (l:AutV) (w:World) :
  Calls jq 105 #[.agg (autL l).toArray] w fun e w'=>e = .returned (.bool (ybm l)) /\ w.grownBy w' none:=by
 have hG:=yaa (jr w none) (.cells (autL l).toArray 89);have hb:=Blk.new w 89 (autL l).toArray;have hr:ybm l = (decide (l.addr.size ≠ 20) || decide (1 < l.y)):=rfl;rw [hr];obtain ⟨ad,had⟩:∃ a,l.addr = a:=⟨_,rfl⟩;obtain ⟨y,hy⟩:∃ a,l.y = a:=⟨_,rfl⟩;have z1:(autL l).toArray[1]? = some (.string ad):=by rw [<- had];rfl
 have z3:(autL l).toArray[3]? = some (.int .u64 (y:Int)):=by rw [<- hy];rfl
 rw [had,hy,show decide (1 < y) = decide ((1:Int) < (y:Int)) from decide_eq_decide.2 (by omega)];clear hr had hy;generalize (autL l).toArray = cl at *;go_enter Tryz.func105,Tryz.ntmps105
 go_upto_region 1 with (fail)
 obtain ⟨g,hg⟩:∃ g,w.heap.size = g:=⟨_,rfl⟩;rw [hg] at hb ⊢;clear hg;generalize w.alloc (.cells cl 89) = w1 at *;have c1:=(hb.cell 1).trans z1;have c3:=(hb.cell 3).trans z3;have HG:=jh hG;clear hb hG z1 z3;by_cases ha:ad.size = 20
 ·have q:((ad.size:Int) != 20) = false:=by simp;omega
  have HA:=jh ha;clear ha;cases h1:decide ((1:Int) < (y:Int)) with
  | true =>
   have K1:=jh h1;go_wp2_with fail
   go_ret
   exact ⟨by rw [K1.out];simp,HG.out⟩
  | false =>
   have K1:=jh h1;go_wp2_with fail
   go_ret
   exact ⟨by rw [K1.out];simp [HA.out],HG.out⟩
 ·have q:((ad.size:Int) != 20) = true:=by simp;omega
  have HA:=jh ha;clear ha;go_wp2_with fail
  go_ret
  exact ⟨by rw [decide_eq_true HA.out];rfl,HG.out⟩
theorem yfY (B:Nat) (A:Option Addr) (n c:Nat) (p:Nat) (ls:List AccV) (w:World) (hp:Boxed w p 138 (.func (.func 102) #[] #[])) (h:AccR B w ls A n) (hB:B <= w.heap.size) (hn:n <= 9223372036854775807) :
  Calls jq 107 #[.slice A n c,.func (.func 103) #[] #[.pointer (some ⟨p,0,none⟩)]] w fun e w'=>(∃ i:Int,e = .returned (.int .i64 i) /\ decide (0 <= i) = ls.any ybc) /\ w.grownBy w' none:=by
 have HR:=jh h;have HB:=jh hB;have HL:=jh h.1;clear h hB;go_enter Tryz.func107,Tryz.ntmps107
 go_wp2_with fail
 go_loopw [8] (fun i wr=>∃ k:Nat,i = .int .i64 k /\ k <= n /\ w.grownBy wr none /\ Hid (∀ i:Nat,i < k -> ybc (ls.getD i AccV.none_) = false)) (fun i _=>n - (intOf i).toNat)
 case atStart=>exact ⟨0,rfl,by omega,jr _ _,jh (by intro i h1;omega)⟩
 case round =>
  obtain ⟨k,rfl,hk,hg,h2⟩:=hrel;have h2':=jh h2.out;have HGG:=jh hg;by_cases hlt:k < n
  ·obtain ⟨q,off,T,tc,x,rfl,hx,_,c0,c1,hT,hTn⟩:=(HR.out.grown hg HB.out).at_ hlt;have q1:(k:Int) < (n:Int):=by omega
   have HX:=jh hx;have HCALL:=jh (yiO x B T tc p _ (hp.kept hg (by simp)) hT (jlt HB.out hg.size) hTn);clear h2 hx hT hTn hg;obtain ⟨r,hr⟩:∃ r,ybc x = r:=⟨_,rfl⟩;rw [hr] at HCALL;have HRR:=jh hr;clear hr;simp only [accC] at HCALL;go_wp2_with fail
   refine HCALL.out.mono ?_;rintro e w2 ⟨rfl,hg2⟩;have HG2:=jh (yab HGG.out hg2 (by simp));clear c0 c1 hg2 HCALL;cases r with
   | true =>
    go_wp2_with fail
    go_ret
    refine ⟨⟨(k:Int),rfl,?_⟩,HG2.out⟩;rw [ydd (d:=AccV.none_) (k:=k) (by rw [HL.out];exact hlt) (by rw [HX.out];exact HRR.out)];exact decide_eq_true (by omega)
   | false =>
    go_wp2_with fail
    refine ⟨⟨k + 1,by go_num,by omega,HG2.out,jh fun i hi=>?_⟩,by simp [intOf];omega⟩;by_cases hik:i = k
    ·rw [hik,HX.out];exact HRR.out
    ·exact h2'.out i (by omega)
  ·have q1:(n:Int) <= (k:Int):=by omega
   have hno:=ycw (d:=AccV.none_) (p:=ybc) (xs:=ls) (fun i hi=>h2.out i (by have:=HL.out;omega));have HNO:=jh hno;clear h2 h2' hno hg;go_wp2_with fail
   go_ret
   exact ⟨⟨-1,rfl,by rw [HNO.out];rfl⟩,HGG.out⟩
theorem ye2 (B:Nat) (A:Option Addr) (n c:Nat) (p:Nat) (ls:List AccV) (w:World) (hp:Boxed w p 138 (.func (.func 102) #[] #[])) (h:AccR B w ls A n) (hB:B <= w.heap.size) (hn:n <= 9223372036854775807) :
  Calls jq 62 #[.slice A n c,.func (.func 103) #[] #[.pointer (some ⟨p,0,none⟩)]] w fun e w'=>e = .returned (.bool (ls.any ybc)) /\ w.grownBy w' none:=by
 have HI:=jh (yfY B A n c p ls w hp h hB hn);clear h;go_enter Tryz.func62,Tryz.ntmps62
 go_wp2_with fail
 refine HI.out.mono ?_;rintro e w2 ⟨⟨i,rfl,hi⟩,hg⟩;have HI2:=jh hi;have HG:=jh hg;clear hi hg;go_wp2_with fail
 go_ret
 exact ⟨by rw [<- HI2.out];rfl,HG.out⟩
theorem yhs (B:Nat) (A:Option Addr) (n c:Nat) (ls:List AccV) (w:World) (h:AccR B w ls A n) (hB:B <= w.heap.size) (hn:n <= 9223372036854775807) :
  Calls jq 107 #[.slice A n c,.func (.func 57) #[] #[]] w fun e w'=>(∃ i:Int,e = .returned (.int .i64 i) /\ decide (0 <= i) = ls.any yb8) /\ w.grownBy w' none:=by
 have HR:=jh h;have HB:=jh hB;have HL:=jh h.1;clear h hB;go_enter Tryz.func107,Tryz.ntmps107
 go_wp2_with fail
 go_loopw [8] (fun i wr=>∃ k:Nat,i = .int .i64 k /\ k <= n /\ w.grownBy wr none /\ Hid (∀ i:Nat,i < k -> yb8 (ls.getD i AccV.none_) = false)) (fun i _=>n - (intOf i).toNat)
 case atStart=>exact ⟨0,rfl,by omega,jr _ _,jh (by intro i h1;omega)⟩
 case round =>
  obtain ⟨k,rfl,hk,hg,h2⟩:=hrel;have h2':=jh h2.out;have HGG:=jh hg;by_cases hlt:k < n
  ·obtain ⟨q,off,T,tc,x,rfl,hx,_,c0,c1,hT,hTn⟩:=(HR.out.grown hg HB.out).at_ hlt;have q1:(k:Int) < (n:Int):=by omega
   have HX:=jh hx;have HCALL:=jh (yjz x T tc wr);clear h2 hx hT hTn hg;obtain ⟨r,hr⟩:∃ r,yb8 x = r:=⟨_,rfl⟩;rw [hr] at HCALL;have HRR:=jh hr;clear hr;simp only [accC] at HCALL;go_wp2_with fail
   refine HCALL.out.mono ?_;rintro e w2 ⟨rfl,hg2⟩;have HG2:=jh (yab HGG.out hg2 (by simp));clear c0 c1 hg2 HCALL;cases r with
   | true =>
    go_wp2_with fail
    go_ret
    refine ⟨⟨(k:Int),rfl,?_⟩,HG2.out⟩;rw [ydd (d:=AccV.none_) (k:=k) (by rw [HL.out];exact hlt) (by rw [HX.out];exact HRR.out)];exact decide_eq_true (by omega)
   | false =>
    go_wp2_with fail
    refine ⟨⟨k + 1,by go_num,by omega,HG2.out,jh fun i hi=>?_⟩,by simp [intOf];omega⟩;by_cases hik:i = k
    ·rw [hik,HX.out];exact HRR.out
    ·exact h2'.out i (by omega)
  ·have q1:(n:Int) <= (k:Int):=by omega
   have hno:=ycw (d:=AccV.none_) (p:=yb8) (xs:=ls) (fun i hi=>h2.out i (by have:=HL.out;omega));have HNO:=jh hno;clear h2 h2' hno hg;go_wp2_with fail
   go_ret
   exact ⟨⟨-1,rfl,by rw [HNO.out];rfl⟩,HGG.out⟩
theorem yeO (B:Nat) (A:Option Addr) (n c:Nat) (ls:List AccV) (w:World) (h:AccR B w ls A n) (hB:B <= w.heap.size) (hn:n <= 9223372036854775807) :
  Calls jq 62 #[.slice A n c,.func (.func 57) #[] #[]] w fun e w'=>e = .returned (.bool (ls.any yb8)) /\ w.grownBy w' none:=by
 have HI:=jh (yhs B A n c ls w h hB hn);clear h;go_enter Tryz.func62,Tryz.ntmps62
 go_wp2_with fail
 refine HI.out.mono ?_;rintro e w2 ⟨⟨i,rfl,hi⟩,hg⟩;have HI2:=jh hi;have HG:=jh hg;clear hi hg;go_wp2_with fail
 go_ret
 exact ⟨by rw [<- HI2.out];rfl,HG.out⟩
theorem ygc (B:Nat) (A:Option Addr) (n c:Nat) (ls:List AutV) (w:World) (h:AutR B w ls A n) (hn:n <= 9223372036854775807) :
  Calls jq 139 #[.slice A n c,.func (.func 105) #[] #[]] w fun e w'=>(∃ i:Int,e = .returned (.int .i64 i) /\ decide (0 <= i) = ls.any ybm) /\ w.grownBy w' none:=by
 have HR:=jh h;have HL:=jh h.1;clear h;go_enter Tryz.func139,Tryz.ntmps139
 go_wp2_with fail
 go_loopw [8] (fun i wr=>∃ k:Nat,i = .int .i64 k /\ k <= n /\ w.grownBy wr none /\ Hid (∀ i:Nat,i < k -> ybm (ls.getD i AutV.none_) = false)) (fun i _=>n - (intOf i).toNat)
 case atStart=>exact ⟨0,rfl,by omega,jr _ _,jh (by intro i h1;omega)⟩
 case round =>
  obtain ⟨k,rfl,hk,hg,h2⟩:=hrel;have h2':=jh h2.out;have HGG:=jh hg;by_cases hlt:k < n
  ·obtain ⟨q,off,x,rfl,hx,_,hcx⟩:=(HR.out.grown hg).at_ hlt;have q1:(k:Int) < (n:Int):=by omega
   have q2:(0:Int) <= (k:Int):=by omega
   have HX:=jh hx;have HCX:=jh hcx;have HCALL:=jh (yiP x wr);clear h2 hx hg hcx;obtain ⟨r,hr⟩:∃ r,ybm x = r:=⟨_,rfl⟩;rw [hr] at HCALL;have HRR:=jh hr;clear hr;go_upto_region 4 with (fail)
   refine jwl ?_
   iterate 12 go_step
   refine wp_load_mid 89 (.tmp 14) rfl q (off + k * 12) rfl (autL x) _ HCX.out Tryz.underlying89 rfl (by kernel_rfl) ?_;simp only [jp,jb,jz,js];generalize (autL x).toArray = cx at *;go_wp2_with fail
   refine HCALL.out.mono ?_;rintro e w2 ⟨rfl,hg2⟩;have HG2:=jh (yab HGG.out hg2 (by simp));clear hg2 HCALL;cases r with
   | true =>
    go_wp2_with fail
    go_ret
    refine ⟨⟨(k:Int),rfl,?_⟩,HG2.out⟩;rw [ydd (d:=AutV.none_) (k:=k) (by rw [HL.out];exact hlt) (by rw [HX.out];exact HRR.out)];exact decide_eq_true (by omega)
   | false =>
    go_wp2_with fail
    refine ⟨⟨k + 1,by go_num,by omega,HG2.out,jh fun i hi=>?_⟩,by simp [intOf];omega⟩;by_cases hik:i = k
    ·rw [hik,HX.out];exact HRR.out
    ·exact h2'.out i (by omega)
  ·have q1:(n:Int) <= (k:Int):=by omega
   have hno:=ycw (d:=AutV.none_) (p:=ybm) (xs:=ls) (fun i hi=>h2.out i (by have:=HL.out;omega));have HNO:=jh hno;clear h2 h2' hno hg;go_wp2_with fail
   go_ret
   exact ⟨⟨-1,rfl,by rw [HNO.out];rfl⟩,HGG.out⟩
theorem yeC (B:Nat) (A:Option Addr) (n c:Nat) (ls:List AutV) (w:World) (h:AutR B w ls A n) (hn:n <= 9223372036854775807) :
  Calls jq 106 #[.slice A n c,.func (.func 105) #[] #[]] w fun e w'=>e = .returned (.bool (ls.any ybm)) /\ w.grownBy w' none:=by
 have HI:=jh (ygc B A n c ls w h hn);clear h;go_enter Tryz.func106,Tryz.ntmps106
 go_wp2_with fail
 refine HI.out.mono ?_;rintro e w2 ⟨⟨i,rfl,hi⟩,hg⟩;have HI2:=jh hi;have HG:=jh hg;clear hi hg;go_wp2_with fail
 go_ret
 exact ⟨by rw [<- HI2.out];rfl,HG.out⟩
def ydx (k:Int) (b1 p a c1 d0 d20 a0 s32 f20:Bool):Bool:=if (b1 || p || a) = true then false else if k = 0 then c1 && (d0 || d20) else if k = 4 then d20 && a0 else if k = 126 then (s32 && f20) && (d0 || d20) else d0 || d20
def ygp (t:TxV):Bool:=ydx t.kind (decide (1 < t.y)) (t.acc.any ybc) (t.auths.any ybm) (decide (t.chain <= 4611686018427387904)) (decide (t.dst.size = 0)) (decide (t.dst.size = 20)) (decide (0 < t.auths.length)) (decide (t.source.size = 32)) (decide (t.frm.size = 20))
theorem yfs (s:ByteArray):(s.toList == []) = decide (s.size = 0):=by
 rw [Lib.toList_data];have h:s.data.toList.length = s.size:=jb0;by_cases e:s.size = 0
 ·rw [decide_eq_true e];have:s.data.toList = []:=List.length_eq_zero_iff.1 (by omega);rw [this];rfl
 ·rw [decide_eq_false e];cases hh:s.data.toList with
  | nil=>rw [hh] at h;simp at h;omega
  | cons a b=>rfl
theorem yi0 (s n:Nat):((s:Int) == (n:Int)) = decide (s = n):=by
 by_cases e:s = n
 ·subst e;simp
 ·rw [decide_eq_false e];simp;omega
theorem yh9 (t:TxV) (B:Nat) (sa sb:Value) (w:World) (h:TxIn B w t sa sb) (hB:B <= w.heap.size) :
  Calls jq 61 #[.agg (txC t sa sb)] w fun e w'=>e = .returned (.bool (ygp t)) /\ w.grownBy w' none:=by
 have hG:=yaa (yaa (jr w none) (.cells (txC t sa sb) 42)) (.cells #[.func (.func 102) #[] #[]] 138);have hb:=(Blk.new w 42 (txC t sa sb)).alloc (.cells #[.func (.func 102) #[] #[]] 138);have hp:=Boxed.new (w.alloc (.cells (txC t sa sb) 42)) 138 (.func (.func 102) #[] #[]);rw [jsa] at hp;have hI:=h.grown hG hB;have hB1:=jlt hB hG.size;obtain ⟨⟨pa,xa,rfl,hacc⟩,⟨pb,xb,rfl,haut⟩,la,lb⟩:=hI;have hS:ygp t = ydx t.kind (decide (1 < t.y)) (t.acc.any ybc) (t.auths.any ybm) (decide (t.chain <= 4611686018427387904)) (decide (t.dst.size = 0)) (decide (t.dst.size = 20)) (decide (0 < t.auths.length)) (decide (t.source.size = 32)) (decide (t.frm.size = 20)):=rfl;rw [hS];clear hS;have z0:(txC t (.slice pa t.acc.length xa) (.slice pb t.auths.length xb))[0]? = some (.int .i64 t.kind):=rfl;have z1:(txC t (.slice pa t.acc.length xa) (.slice pb t.auths.length xb))[1]? = some (.int .u64 (t.chain:Int)):=rfl;have z12:(txC t (.slice pa t.acc.length xa) (.slice pb t.auths.length xb))[12]? = some (.string t.dst):=rfl;have z18:(txC t (.slice pa t.acc.length xa) (.slice pb t.auths.length xb))[18]? = some (.slice pa t.acc.length xa):=rfl;have z19:(txC t (.slice pa t.acc.length xa) (.slice pb t.auths.length xb))[19]? = some (.slice pb t.auths.length xb):=rfl;have z20:(txC t (.slice pa t.acc.length xa) (.slice pb t.auths.length xb))[20]? = some (.int .u64 (t.y:Int)):=rfl;have z29:(txC t (.slice pa t.acc.length xa) (.slice pb t.auths.length xb))[29]? = some (.string t.source):=rfl;have z30:(txC t (.slice pa t.acc.length xa) (.slice pb t.auths.length xb))[30]? = some (.string t.frm):=rfl;generalize txC t (.slice pa t.acc.length xa) (.slice pb t.auths.length xb) = ct at *;obtain ⟨kind,chain,nonce,tip,price,gas,dst,value,data,acc,auths,y,r,s,source,frm,mint,system⟩:=t;simp only at *;obtain ⟨na,hna⟩:∃ n,acc.length = n:=⟨_,rfl⟩;obtain ⟨nb,hnb⟩:∃ n,auths.length = n:=⟨_,rfl⟩;rw [hna] at hacc la z18;rw [hnb] at haut lb z19 ⊢;have HPA:=jh (fun (V:World) p hp hR hB=>ye2 B pa na xa p acc V hp hR hB la);have HAU:=jh (fun (V:World) hR=>yeC B pb nb xb auths V hR lb);have e1:decide ((1:Int) < (y:Int)) = decide (1 < y):=decide_eq_decide.2 (by omega);have e2:decide ((chain:Int) <= 4611686018427387904) = decide (chain <= 4611686018427387904):=decide_eq_decide.2 (by omega);have e3:(dst.toList == []) = decide (dst.size = 0):=yfs dst;have e4:((dst.size:Int) == 20) = decide (dst.size = 20):=yi0 dst.size 20;have e5:decide ((0:Int) < (nb:Int)) = decide (0 < nb):=decide_eq_decide.2 (by omega);have e6:((source.size:Int) == 32) = decide (source.size = 32):=yi0 source.size 32;have e7:((frm.size:Int) == 20) = decide (frm.size = 20):=yi0 frm.size 20;have e3i:dst.toList.isEmpty = decide (dst.size = 0):=by rw [<- yfs dst];cases dst.toList <;> rfl
 generalize decide (1 < y) = b1 at *;generalize decide (chain <= 4611686018427387904) = c1 at *;generalize decide (dst.size = 0) = d0 at *;generalize decide (dst.size = 20) = d20 at *;generalize decide (0 < nb) = a0 at *;generalize decide (source.size = 32) = s32 at *;generalize decide (frm.size = 20) = f20 at *;generalize acc.any ybc = oa at *;generalize auths.any ybm = ob at *;have E2:=jh e2;have E3:=jh e3;have E4:=jh e4;have E5:=jh e5;have E6:=jh e6;have E7:=jh e7;have E3I:=jh e3i;clear e2 e3 e4 e5 e6 e7 e3i h hB hna hnb la lb;go_enter Tryz.func61,Tryz.ntmps61
 go_upto_region 2 with (fail)
 obtain ⟨g,hg⟩:∃ g,w.heap.size = g:=⟨_,rfl⟩;rw [hg] at hb hp ⊢;clear hg;generalize (w.alloc (.cells ct 42)).alloc (.cells #[.func (.func 102) #[] #[]] 138) = w1 at *;have HACC:=jh hacc;have HAUT:=jh haut;have HB1:=jh hB1;have HG:=jh hG;have HB:=jh hb;have HP:=jh hp;clear hacc haut hB1 hG hb hp;have c18:=(HB.out.cell 18).trans z18;have c20:=(HB.out.cell 20).trans z20;cases b1 with
 | true =>
  go_wp2_with fail
  go_ret
  exact ⟨by simp [ydx],HG.out⟩
 | false =>
 go_wp2_with fail
 refine (HPA.out _ _ HP.out HACC.out HB1.out).mono ?_;rintro e w2 ⟨rfl,hg⟩;replace HG:=jh (yab HG.out hg (by simp));replace HAUT:=jh (HAUT.out.grown hg);replace HB:=jh (HB.out.grown hg (by simp));clear hg c18 c20 e1 HPA HACC HP HB1;have c19:=(HB.out.cell 19).trans z19;cases oa with
 | true =>
  go_wp2_with fail
  go_ret
  exact ⟨by simp [ydx],HG.out⟩
 | false =>
 go_wp2_with fail
 refine (HAU.out _ HAUT.out).mono ?_;rintro e w3 ⟨rfl,hg⟩;replace HG:=jh (yab HG.out hg (by simp));replace HB:=jh (HB.out.grown hg (by simp));clear hg c19 HAU HAUT;cases ob with
 | true =>
  go_wp2_with fail
  go_ret
  exact ⟨by simp [ydx],HG.out⟩
 | false =>
 have c0:=(HB.out.cell 0).trans z0;have c1':=(HB.out.cell 1).trans z1;have c12:=(HB.out.cell 12).trans z12;have c19:=(HB.out.cell 19).trans z19;have c29:=(HB.out.cell 29).trans z29;have c30:=(HB.out.cell 30).trans z30;have e2:=E2.out;have e3:=E3.out;have e4:=E4.out;have e5:=E5.out;have e6:=E6.out;have e7:=E7.out;have e3i:=E3I.out;clear z0 z1 z12 z18 z19 z20 z29 z30 E2 E3 E4 E5 E6 E7 E3I;by_cases k0:kind = 0
 ·subst k0;cases c1 <;> cases d0 <;> cases d20 <;>
  (go_wp2_with fail
   go_ret
   exact ⟨by simp [ydx],HG.out⟩)
 have q0:(kind == 0) = false:=by simpa using k0
 by_cases k4:kind = 4
 ·subst k4;have K5:=jh e5;cases d20 <;> cases a0 <;>
  (go_wp2_with fail
   go_ret
   exact ⟨by have q:=K5.out;simp only [decide_eq_false_iff_not,decide_eq_true_eq] at q;simp [ydx] <;> omega,HG.out⟩)
 have q4:(kind == 4) = false:=by simpa using k4
 by_cases k126:kind = 126
 ·subst k126;cases s32 <;> cases f20 <;> cases d0 <;> cases d20 <;>
  (go_wp2_with fail
   go_ret
   exact ⟨by simp [ydx],HG.out⟩)
 have q126:(kind == 126) = false:=by simpa using k126
 have K0:=jh k0;have K4:=jh k4;have K126:=jh k126;clear k0 k4 k126;cases d0 <;> cases d20 <;>
 (go_wp2_with fail
  go_ret
  exact ⟨by simp [ydx,K0.out,K4.out,K126.out],HG.out⟩)
section
variable {P:Program}
theorem ykr {mty kt et:TypeId} {d:TypeDesc} {r clock:Nat} {es:Array MapEntry} {key val:Value} {w:World} (hm:P.underlying mty = some (.map kt et)) (hk:P.underlying kt = some d) (hkey:MapKept.IsKey d key) (hb:w.heap[r]? = some (.map es clock)) (hf:Instr.findNow d key es.toList 0 = some none) :
  (Instr.mapUpdate mty (.map (some r)) key val).run P w = .ok () (w.putObj r (.map (es.push { key:=key,val:=val,born:=clock }) (clock + 1))):=by
 have hc:(Instr.checkKey false 10000 kt key).run P w = .ok () w:=MapKept.run_checkKey hk hkey false 9999;simp [Instr.mapUpdate,run_underlying hm,MapKept.run_getObj_map hb,hc,MapKept.run_findKey hk hf,MapKept.run_setObj_map _ hb,Result.andThen,World.putObj]
theorem yks {mty kt et:TypeId} {d:TypeDesc} {r clock i:Nat} {es:Array MapEntry} {key val:Value} {w:World} (hm:P.underlying mty = some (.map kt et)) (hk:P.underlying kt = some d) (hkey:MapKept.IsKey d key) (hb:w.heap[r]? = some (.map es clock)) (hf:Instr.findNow d key es.toList 0 = some (some (i,val))) :
  (Instr.lookup mty (.map (some r)) key false).run P w = .ok val w:=by
 have hc:(Instr.checkKey es.isEmpty 10000 kt key).run P w = .ok () w:=MapKept.run_checkKey hk hkey _ 9999;simp [Instr.lookup,run_underlying hm,MapKept.run_getObj_map hb,hc,MapKept.run_findKey hk hf,Result.andThen]
end
theorem ynE:∃ i,jq.info? 3 = some i /\ i.zero = some (.int .i64 0) /\ i.size = 1 /\ i.bytes = 8:=by
 have h:(jq.info? 3).map (fun i=>(i.zero,i.size,i.bytes)) = some (some (.int .i64 0),1,8):=by kernel_rfl
 cases hi:jq.info? 3 with
 | none=>rw [hi] at h;cases h
 | some i =>
  rw [hi] at h;simp only [Option.map_some,ja1.injEq,Prod.mk.injEq] at h;exact ⟨i,rfl,h.1,h.2.1,h.2.2⟩
def yn2:Array MapEntry:=#[{ key:=.int .i64 0,val:=.int .i64 9,born:=0 },{ key:=.int .i64 1,val:=.int .i64 11,born:=1 },{ key:=.int .i64 2,val:=.int .i64 12,born:=2 },{ key:=.int .i64 4,val:=.int .i64 13,born:=3 },{ key:=.int .i64 126,val:=.int .i64 8,born:=4 }]
def ydT (n:Int):Bool:=decide (n = 0 \/ n = 1 \/ n = 2 \/ n = 4 \/ n = 126)
def yiS (n:Int):Int:=if n = 0 then 9 else if n = 1 then 11 else if n = 2 then 12 else if n = 4 then 13 else if n = 126 then 8 else 0
theorem yoI (n:Int):yiS n = 0 ↔ ydT n = false:=by
 unfold yiS ydT;by_cases h0:n = 0 <;> by_cases h1:n = 1 <;> by_cases h2:n = 2 <;> by_cases h4:n = 4 <;> by_cases h6:n = 126 <;> simp [h0,h1,h2,h4,h6]
section
variable {P:Program}
theorem yiH {mty kt et:TypeId} {d:TypeDesc} {r clock:Nat} {es:Array MapEntry} {key z:Value} {i:TypeInfo} {w:World} (hm:P.underlying mty = some (.map kt et)) (hk:P.underlying kt = some d) (hkey:MapKept.IsKey d key) (hb:w.heap[r]? = some (.map es clock)) (hf:Instr.findNow d key es.toList 0 = some none) (hi:P.info? et = some i) (hz:i.zero = some z) :
  (Instr.lookup mty (.map (some r)) key false).run P w = .ok z w:=by
 have hc:(Instr.checkKey es.isEmpty 10000 kt key).run P w = .ok () w:=MapKept.run_checkKey hk hkey _ 9999;simp [Instr.lookup,run_underlying hm,MapKept.run_getObj_map hb,hc,MapKept.run_findKey hk hf,Result.andThen,zeroValue,typeInfo,hi,hz]
end
theorem yfu {w:World} {r clock:Nat} {es:Array MapEntry} (k v:Int) (hb:w.heap[r]? = some (.map es clock)) (hf:Instr.findNow (.int .i64) (.int .i64 k) es.toList 0 = some none):∃ w',(Instr.mapUpdate 84 (.map (some r)) (.int .i64 k) (.int .i64 v)).run jq w = .ok () w' /\ w'.heap[r]? = some (.map (es.push { key:=.int .i64 k,val:=.int .i64 v,born:=clock }) (clock + 1)) /\ Below r w w' /\ w'.heap.size = w.heap.size:=by
 have hr:r < w.heap.size:=(jes.1 hb).1;refine ⟨_,ykr (val:=.int .i64 v) Tryz.underlying84 jb8 (key:=.int .i64 k) (by simp [MapKept.IsKey]) hb hf,World.putObj_heap_same hr,⟨rfl,rfl,rfl,by simp [World.putObj],fun j hj=>World.putObj_heap_other (by omega)⟩,by simp [World.putObj]⟩
theorem ykl (w:World):Calls jq 58 #[] w fun e w'=>e = .returned (.map (some w.heap.size)) /\ w'.heap[w.heap.size]? = some (.map yn2 5) /\ w.grownBy w' none:=by
 have hb0:Below w.heap.size w (w.alloc (.map #[] 0)):=(jc5 _ w).alloc (jle _) _;have h0:(w.alloc (.map #[] 0)).heap[w.heap.size]? = some (.map #[] 0):=World.alloc_heap_new w _;have hmm:=@run_makeMap jq;obtain ⟨w1,e1,k1,b1,z1⟩:=yfu 0 9 h0 rfl;obtain ⟨w2,e2,k2,b2,z2⟩:=yfu 1 11 k1 rfl;obtain ⟨w3,e3,k3,b3,z3⟩:=yfu 2 12 k2 rfl;obtain ⟨w4,e4,k4,b4,z4⟩:=yfu 4 13 k3 rfl;obtain ⟨w5,e5,k5,b5,z5⟩:=yfu 126 8 k4 rfl;have HG:=jh (yae (((((hb0.trans b1).trans b2).trans b3).trans b4).trans b5));have HK:=jh (show w5.heap[w.heap.size]? = some (.map yn2 5) from k5);clear h0 hb0 k1 k2 k3 k4 k5 b1 b2 b3 b4 b5 z1 z2 z3 z4 z5;go_enter Tryz.func58,Tryz.ntmps58
 go_wp2_with fail
 go_ret
 exact ⟨rfl,HK.out,HG.out⟩
theorem yn4 (n:Int) (r:Nat) (V:World) (h:V.heap[r]? = some (.map yn2 5)):(Instr.lookup 84 (.map (some r)) (.int .i64 n) false).run jq V = .ok (.int .i64 (yiS n)) V:=by
 have hk:MapKept.IsKey (.int .i64) (.int .i64 n):=by simp [MapKept.IsKey]
 have g:=fun i v hf=>yks (P:=jq) (i:=i) (val:=v) (key:=.int .i64 n) Tryz.underlying84 jb8 hk h hf;by_cases h0:n = 0
 ·subst h0;exact g 0 _ rfl
 by_cases h1:n = 1
 ·subst h1;exact g 1 _ rfl
 by_cases h2:n = 2
 ·subst h2;exact g 2 _ rfl
 by_cases h4:n = 4
 ·subst h4;exact g 3 _ rfl
 by_cases h6:n = 126
 ·subst h6;exact g 4 _ rfl
 have hm:yiS n = 0:=by unfold yiS;rw [if_neg h0,if_neg h1,if_neg h2,if_neg h4,if_neg h6]
 rw [hm]
 obtain ⟨i,hi,hz,_⟩:∃ i,jq.info? 3 = some i /\ i.zero = some (.int .i64 0) /\ True:=by
  obtain ⟨i,a,b,_⟩:=ynE;exact ⟨i,a,b,trivial⟩
 refine yiH Tryz.underlying84 jb8 hk h ?_ hi hz;have b0:(n == 0) = false:=by simpa using h0
 have b1:(n == 1) = false:=by simpa using h1
 have b2:(n == 2) = false:=by simpa using h2
 have b4:(n == 4) = false:=by simpa using h4
 have b6:(n == 126) = false:=by simpa using h6
 simp [yn2,Instr.findNow,Instr.sameNow,b0,b1,b2,b4,b6]
theorem ykS {P:Program} {a:Act} {o:Oper} {W:World} (f:FuncId) (ho:o.op = .call { callee:=.value (.func f),args:=#[],argTypes:=#[] }) (hf:(callFunc f #[]).run P W = .ok (.enter f #[]) W):(execOp a.eval o).run P W = .ok (.enter f #[]) W:=by
 have he:a.eval (.func f) = .func (.func f) #[] #[]:=rfl;unfold execOp;generalize a.eval = ev at *;simp only [ho];simp [resolve,invoke,go_sem,he,hf]
theorem yje {P:Program} {a:Act} {o:Oper} {W:World} {v:Value} (t:TypeId) (x y:Operand) (ho:o.op = .lookup t x y false) (m k:Value) (hx:a.eval x = m) (hy:a.eval y = k) (h:(Instr.lookup t m k false).run P W = .ok v W):(execOp a.eval o).run P W = .ok (.value v) W:=by
 unfold execOp;generalize a.eval = ev at *;simp only [ho];simp [go_sem,hx,hy,h]
end Go.Proofs.YtgclnikdkfpflaaGreatDoor
