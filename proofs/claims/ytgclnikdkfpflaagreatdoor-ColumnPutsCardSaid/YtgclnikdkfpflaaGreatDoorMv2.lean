/- Merged: Unfx, Prs, WEq, Tree, RlpA, RlpB, One, FldA, FldB, FldC, FldD, UnrB, UnrCh, UnrC, BoxLoop, UnrD, UnrE, UnrF, App. -/
import Derived.Test.YtgclnikdkfpflaaGreatDoorMv1
import Derived.StillTailTactics
import Derived.Laws.StructEq
import Derived.Maps.AppendAt
namespace Go.Proofs.YtgclnikdkfpflaaGreatDoor
open Go.RowKit Go.Shelf
open List renaming set_cons_zero → jz, set_cons_succ → js, setIfInBounds_toArray → jb
set_option linter.unusedVariables false
set_option linter.unusedSimpArgs false
set_option maxRecDepth 100000
set_option maxHeartbeats 16000000
open Lib renaming hid → jh, IsBuilder → jd3
open World.grownBy renaming refl → jr
open _root_.List renaming getD_eq_getElem?_getD → jg, getElem?_eq_getElem → je, getElem?_cons_zero → jcz, getElem?_cons_succ → jcs, getElem?_toArray → jta, length_append → jla, getElem?_append_right → jar, getElem?_append_left → jal, take_succ_eq_append_getElem → jtk, drop_eq_getElem_cons → jdc, length_cons → jlc, setIfInBounds_toArray → jb2, map_cons → jb5, getElem?_take_of_lt → jc3, getElem?_eq_none → jc6, length_take → jd4, size_toArray → jd9, set_cons_zero → je0
open _root_.Array renaming getElem?_eq_some_iff → jes, length_toList → jb0, getElem?_eq_getElem → jb4, getElem?_eq_none → jc8
open _root_.Int renaming toNat_natCast → jnc, eq_ofNat_of_zero_le → jez, tdiv_eq_ediv_of_nonneg → je2, tmod_eq_emod_of_nonneg → je3
open World renaming size_alloc → jsa, setCell → jd5
open Below renaming heap_setCell → jhs
open IntWalk renaming i64_in → jii
open _root_.Nat renaming le_trans → jlt, le_refl → jle, zero_add → jd6
open _root_.Go.Proofs.Tryz renaming prog → jq, underlying104 → ja7
open Go renaming bodyPost_ret → jbr
open _root_.Option renaming some → ja1
open Value renaming slice → ja4, string → ja8, ownBlock → jc2, bool → jc7
open Region renaming wanted → jb6
theorem ybH {P:Program} {fn:Func} {p q:Tmp} {t:TypeId} (h:fn.results = #[.cell p t,.tmp q]) (tmps:Array Value) (w:World) (a:Addr) (x:Value) (hp:tmps.getD p undef = .pointer (some a))
  (hx:(loadVar t a).run P w = .ok x w):(results fn tmps).run P w = .ok (.tuple #[x,tmps.getD q undef]) w:=by
 have hp':tmps[p]?.getD undef = .pointer (some a):=by simpa using hp
 simp [results,h,hp',asAddr,hx]
theorem yls (a b:Nat) (ha:a < 18446744073709551616) (hb:b < 18446744073709551616):bits .or .u64 (a:Int) (b:Int) = ((a ||| b:Nat):Int):=by
 have hx:a ||| b < 2 ^ 64:=Nat.or_lt_two_pow (by omega) (by omega);show IntKind.u64.wrap ((BitVec.ofInt 64 (a:Int) ||| BitVec.ofInt 64 (b:Int)).toNat:Int) = _;rw [BitVec.toNat_or,BitVec.ofInt_natCast,BitVec.ofInt_natCast,BitVec.toNat_ofNat,BitVec.toNat_ofNat,Nat.mod_eq_of_lt (by omega),Nat.mod_eq_of_lt (by omega)];simp [IntKind.wrap,IntKind.bits,IntKind.signed];omega
theorem yfj (x:Nat) (h:x < 18446744073709551616):IntKind.u64.wrap (x:Int) = (x:Int):=by
 simp [IntKind.wrap,IntKind.bits,IntKind.signed];omega
def ybp (N:Nat):Array Value:=#[.int .u64 (wp N 0:Nat),.int .u64 (wp N 1:Nat),.int .u64 (wp N 2:Nat),.int .u64 (wp N 3:Nat)]
theorem ykh {w:World} {g:Nat} {t:TypeId} {N:Nat} (h:Blk w g t (ybp N)) (q:Nat) (hq:q < 4):w.cell? ⟨g,q,none⟩ = some (.int .u64 ((wp N q:Nat):Int)):=by
 rw [h.cell];have:q = 0 \/ q = 1 \/ q = 2 \/ q = 3:=by omega
 rcases this with rfl | rfl | rfl | rfl <;> rfl
theorem ykg (l:List UInt8) (m:Nat) (h:m < l.length) (hm:m < 32):(ybp (lowN l m)).setIfInBounds (m / 8) (.int .u64 (wp (lowN l (m + 1)) (m / 8):Nat)) = ybp (lowN l (m + 1)):=by
 have e:∀ q,q ≠ m / 8 -> wp (lowN l (m + 1)) q = wp (lowN l m) q:=fun q hq=>by rw [yhZ l m q h,if_neg hq]
 have:m / 8 = 0 \/ m / 8 = 1 \/ m / 8 = 2 \/ m / 8 = 3:=by omega
 unfold ybp;rcases this with hq | hq | hq | hq
 all_goals
  rw [hq];rw [hq] at e
 ·rw [e 1 (by omega),e 2 (by omega),e 3 (by omega)];rfl
 ·rw [e 0 (by omega),e 2 (by omega),e 3 (by omega)];rfl
 ·rw [e 0 (by omega),e 1 (by omega),e 3 (by omega)];rfl
 ·rw [e 0 (by omega),e 1 (by omega),e 2 (by omega)];rfl
theorem yfi (S:ByteArray) (hS:S.size = 32) (w:World) :
  Calls jq 84 #[.string S] w fun e w'=>e = .returned (.tuple #[.agg (ybp (beV S.data.toList)),.int .i64 0]) /\ w.grownBy w' none:=by
 obtain ⟨l,hl⟩:∃ l,S.data.toList = l:=⟨_,rfl⟩;have hlz:l.length = 32:=by rw [<- hl,jb0];exact hS
 have hall:lowN l 32 = beV l:=by rw [<- hlz];exact yn3 l
 rw [hl,<- hall];have HS:=jh hl;clear hl hall;have e0:((S.size:Int) != 32) = false:=by simp;omega
 have hZ4:Hid ((#[.int .u64 0,.int .u64 0,.int .u64 0,.int .u64 0]:Array Value) = ybp 0):=jh (by unfold ybp;rw [ydU,ydU,ydU,ydU];rfl);have hB:=Blk.new w 38 #[.int .u64 0,.int .u64 0,.int .u64 0,.int .u64 0];have hO:=Blk.new (w.alloc (.cells #[.int .u64 0,.int .u64 0,.int .u64 0,.int .u64 0] 38)) 38 #[.int .u64 0,.int .u64 0,.int .u64 0,.int .u64 0];rw [jsa] at hO;have hB:=hB.alloc (.cells #[.int .u64 0,.int .u64 0,.int .u64 0,.int .u64 0] 38);have hG:=yaa (yaa (jr w none) (.cells #[.int .u64 0,.int .u64 0,.int .u64 0,.int .u64 0] 38)) (.cells #[.int .u64 0,.int .u64 0,.int .u64 0,.int .u64 0] 38);go_enter Tryz.func84,Tryz.ntmps84
 go_upto_region 4 with (fail)
 obtain ⟨b,hb⟩:∃ b,w.heap.size = b:=⟨_,rfl⟩;rw [hb] at hB hO ⊢;generalize (w.alloc (.cells #[.int .u64 0,.int .u64 0,.int .u64 0,.int .u64 0] 38)).alloc (.cells #[.int .u64 0,.int .u64 0,.int .u64 0,.int .u64 0] 38) = W1 at *;rw [hZ4.out,<- ymd l] at hO;clear hZ4;go_wp2_with fail
 go_loopw [10] (fun i wr=>∃ m:Nat,i = .int .i64 (m:Int) /\ m <= 32 /\ Blk wr (b + 1) 38 (ybp (lowN l m)) /\ Blk wr b 38 #[.int .u64 0,.int .u64 0,.int .u64 0,.int .u64 0] /\ w.grownBy wr none) (fun i _=>32 - (intOf i).toNat)
 case atStart=>exact ⟨0,rfl,by omega,hO,hB,hG⟩
 case round =>
  clear hO hB hG;obtain ⟨m,rfl,hm,hO,hB,hG⟩:=hrel;by_cases hlt:m < 32
  ·obtain ⟨q,hq⟩:∃ q,m / 8 = q:=⟨_,rfl⟩;obtain ⟨r8,hr8⟩:∃ r,m % 8 = r:=⟨_,rfl⟩;obtain ⟨r,hr⟩:∃ r,r8 * 8 = r:=⟨_,rfl⟩;obtain ⟨p,hp⟩:∃ p,31 - m = p:=⟨_,rfl⟩;have hst:=ykg l m (by omega) hlt;have hwz:=yhZ l m (m / 8) (by omega);rw [if_pos rfl,hr8,hr,hlz,show 32 - 1 - m = p by omega,hq] at hwz;rw [hq] at hst;have f2:=ykh hO q (by omega);have f3:=hO.frozen q;have hid:=fun W=>ydb S p (l.getD p 0) (by rw [HS.out,jg,je (by omega)];rfl) W;have hzl:=yee (lowN l (m + 1)) q;have hvl:=yee (lowN l m) q;have hrm:=ylm (lowN l m) m (yiU l m);rw [hq,hr8,hr] at hrm;obtain ⟨z,hz⟩:∃ z,wp (lowN l (m + 1)) q = z:=⟨_,rfl⟩;obtain ⟨v,hv⟩:∃ v,wp (lowN l m) q = v:=⟨_,rfl⟩;rw [hv] at hwz f2 hvl hrm;rw [hz] at hwz hzl hst;have hch:=(l.getD p 0).toNat_lt;obtain ⟨ch,hch2⟩:∃ ch,(l.getD p 0).toNat = ch:=⟨_,rfl⟩;rw [hch2] at hwz hid hch;have hadd:=ypg v ch r hrm;obtain ⟨x,hx⟩:∃ x,ch * 2 ^ r = x:=⟨_,rfl⟩;rw [hx] at hwz hadd;have p8:bits .or .u64 (v:Int) (x:Int) = (z:Int):=by rw [yls v x hvl (by omega),hwz]
   have p5:IntKind.u64.wrap ((ch:Int) * 2 ^ r) = (x:Int):=by
    have:(ch:Int) * 2 ^ r = (x:Int):=by rw [<- hx];simp
    rw [this,yfj x (by omega)]
   have p9:IntKind.u64.wrap (ch:Int) = (ch:Int):=yfj ch (by omega);have p1:(m:Int).tdiv 8 = (q:Int):=by rw [je2 (by omega)];omega
   have p2:IntKind.i64.wrap (q:Int) = (q:Int):=jii _ (by omega);have p3:(m:Int).tmod 8 = (r8:Int):=by rw [je3 (by omega)];omega
   have p4:IntKind.i64.wrap ((r8:Int) * 8) = (r:Int):=by rw [jii _ (by omega)];omega
   have p6:IntKind.i64.wrap (31 - (m:Int)) = (p:Int):=by rw [jii _ (by omega)];omega
   have p7:31 - (m:Int) = (p:Int):=by omega
   have q1:(q:Int) < 4:=by omega
   have q1':q < 4:=by omega
   have q2:(m:Int) < 32:=by omega
   have q3:r < 64:=by omega
   have q4:(p:Int) < 32:=by omega
   have q5:(p:Int) < (S.size:Int):=by omega
   have q6:p < S.size:=by omega
   have p10:IntKind.i64.wrap (p:Int) = (p:Int):=jii _ (by omega)
   have hgx:((S[p]'q6).toNat:Int) = (ch:Int):=by
    have e2:S.data[p]? = some (l.getD p 0):=by
     have:S.data.toList[p]? = some (l.getD p 0):=by rw [HS.out,jg,je (by omega)];rfl
     simpa using this
    obtain ⟨_,e3⟩:=jes.1 e2;have:S[p]'q6 = l.getD p 0:=e3;rw [this,hch2]
   have HST:=jh hst;clear hq hr8 hr hst hwz hzl hvl hrm hz hv hch2 hadd hx hp;have hO2:=hO.set_ q (.int .u64 (z:Int));rw [HST.out] at hO2;go_wp2_with fail
   go_still_tail 15,(by kernel_rfl)
   clear p1 p2 p3 p4 p5 p6 p7 p8 p9 p10 hgx hid
   repeat go_step
   go_roundw
   case rel=>exact ⟨m + 1,by go_num,by omega,hO2,hB.far (p:=⟨b + 1,q,none⟩) (by show b ≠ b + 1;omega) _,ya2 (yap hG (p:=⟨b + 1,q,none⟩) (by show w.heap.size <= b + 1;omega) _)⟩
   case measure=>simp [intOf];omega
  ·obtain rfl:m = 32:=by omega
   have hO':=hO;unfold ybp at hO';have c0:=hO'.cell 0;have c1:=hO'.cell 1;have c2:=hO'.cell 2;have c3:=hO'.cell 3;have d0:=hB.frozen 0;have d1:=hB.frozen 1;have d2:=hB.frozen 2;have d3:=hB.frozen 3;have x0:=hB.cell 0;have x1:=hB.cell 1;have x2:=hB.cell 2;have x3:=hB.cell 3;simp only [jta,jcz,jcs] at c0 c1 c2 c3 x0 x1 x2 x3;have hG2:=yap (yap (yap (yap hG (p:=⟨b,0,none⟩) (by show w.heap.size <= b;omega) (.int .u64 (wp (lowN l 32) 0:Nat))) (p:=⟨b,1,none⟩) (by show w.heap.size <= b;omega) (.int .u64 (wp (lowN l 32) 1:Nat))) (p:=⟨b,2,none⟩) (by show w.heap.size <= b;omega) (.int .u64 (wp (lowN l 32) 2:Nat))) (p:=⟨b,3,none⟩) (by show w.heap.size <= b;omega) (.int .u64 (wp (lowN l 32) 3:Nat));have hB2:=(((hB.set_ 0 (.int .u64 (wp (lowN l 32) 0:Nat))).set_ 1 (.int .u64 (wp (lowN l 32) 1:Nat))).set_ 2 (.int .u64 (wp (lowN l 32) 2:Nat))).set_ 3 (.int .u64 (wp (lowN l 32) 3:Nat));have HG2:=jh hG2;have HB2:=jh hB2;clear hG2 hB2;go_wp2_with fail
   refine jbr (ybH (fn:=Tryz.f84) rfl _ _ _ _ rfl (ybB HB2.out)) rfl ?_;exact ⟨rfl,HG2.out⟩
def yhR (l:List UInt8):Array Value:=#[.int .u64 (ydR l 0:Nat),.int .u64 (ydR l 1:Nat),.int .u64 (ydR l 2:Nat),.int .u64 (ydR l 3:Nat)]
theorem ygs {l:List UInt8} {E:Int} (h:ybT l = E) (h0:E ≠ 0):yhR l = #[.int .u64 0,.int .u64 0,.int .u64 0,.int .u64 0]:=by
 have:∀ q,ydR l q = 0:=fun q=>if_neg (by rw [h];exact h0);unfold yhR;rw [this,this,this,this];rfl
theorem yiJ {l:List UInt8} (h:ybT l = 0):yhR l = ybp (beV l):=by
 have:∀ q,ydR l q = wp (beV l) q:=fun q=>if_pos h;unfold yhR ybp;rw [this,this,this,this]
theorem yiI (l:List UInt8):Lib.hasPrefix l [0] = decide (l.head? = some 0):=by
 cases l with
 | nil=>rfl
 | cons a l =>
  show ((0:UInt8) == a && List.isPrefixOf [] l) = _;by_cases h:a = 0
  ·subst h;simp
  ·rw [decide_eq_false (by intro e;injection e with e;exact h e)];have:((0:UInt8) == a) = false:=by rw [beq_eq_false_iff_ne];exact fun e=>h e.symm
   rw [this];rfl
theorem ylP (S:ByteArray) (hs:S.size <= 9223372036854775807) (w:World) :
  Calls jq 126 #[.string S] w fun e w'=>e = .returned (.tuple #[.agg (yhR S.data.toList),.int .i64 (ybT S.data.toList)]) /\ w.grownBy w' none:=by
 obtain ⟨l,hl⟩:∃ l,S.data.toList = l:=⟨_,rfl⟩;have hlz:l.length = S.size:=by rw [<- hl,jb0];rfl
 have hpre:=fun V=>yhh S ⟨#[0]⟩ V;rw [hl] at hpre ⊢;have hpz:Lib.hasPrefix l [0] = decide (l.head? = some 0):=yiI l;have HS:=jh hl;clear hl;have hB:=Blk.new w 38 #[.int .u64 0,.int .u64 0,.int .u64 0,.int .u64 0];have hG:=yaa (jr w none) (.cells #[.int .u64 0,.int .u64 0,.int .u64 0,.int .u64 0] 38)
 have set4:∀ {V:World} (h:w.grownBy V none) (a c d e:Value),w.grownBy ((((V.setCell ⟨w.heap.size,0,none⟩ a).setCell ⟨w.heap.size,1,none⟩ c).setCell ⟨w.heap.size,2,none⟩ d).setCell ⟨w.heap.size,3,none⟩ e) none:=fun h a c d e =>
  yap (yap (yap (yap h (p:=⟨w.heap.size,0,none⟩) (jle _) a) (p:=⟨w.heap.size,1,none⟩) (jle _) c) (p:=⟨w.heap.size,2,none⟩) (jle _) d) (p:=⟨w.heap.size,3,none⟩) (jle _) e
 by_cases h1:32 < S.size
 ·have hE:ybT l = 5:=if_pos (by omega);rw [hE,ygs hE (by decide)];have d1:(32:Int) < (S.size:Int):=by omega
  have HG2:=jh hG;have HB2:=jh hB;have c0:=hB.cell 0;have c1:=hB.cell 1;have c2:=hB.cell 2;have c3:=hB.cell 3;have d0:=hB.frozen 0;have d1':=hB.frozen 1;have d2:=hB.frozen 2;have d3:=hB.frozen 3;simp only [jta,jcz,jcs] at c0 c1 c2 c3;clear hE hpre hpz hB hG set4;go_enter Tryz.func126,Tryz.ntmps126
  go_wp2_with fail
  refine jbr (ybH (fn:=Tryz.f126) rfl _ _ _ _ rfl (ybB HB2.out)) rfl ?_;exact ⟨rfl,HG2.out⟩
 have d1:decide ((32:Int) < (S.size:Int)) = false:=decide_eq_false (by omega);by_cases h2:l.head? = some 0
 ·have hE:ybT l = 8:=by unfold ybT;rw [if_neg (by omega),if_pos h2]
  rw [hE,ygs hE (by decide)];rw [decide_eq_true h2] at hpz
  have HP:Hid (∀ V,Calls jq 155 #[.string S,.string ⟨#[0]⟩] V fun e w'=>e = .returned (.bool true) /\ w' = V):=jh fun V=>by
   have:=hpre V;rw [show (ByteArray.mk #[0]).data.toList = [0] from rfl,hpz] at this;exact this
  have HG2:=jh hG;have HB2:=jh hB;have c0:=hB.cell 0;have c1:=hB.cell 1;have c2:=hB.cell 2;have c3:=hB.cell 3;have d0:=hB.frozen 0;have d1':=hB.frozen 1;have d2:=hB.frozen 2;have d3:=hB.frozen 3;simp only [jta,jcz,jcs] at c0 c1 c2 c3;clear hE hpre hpz hB hG set4 h2;go_enter Tryz.func126,Tryz.ntmps126
  go_wp2_with fail
  refine (HP.out _).mono ?_;rintro e w2 ⟨rfl,rfl⟩;go_wp2_with fail
  refine jbr (ybH (fn:=Tryz.f126) rfl _ _ _ _ rfl (ybB HB2.out)) rfl ?_;exact ⟨rfl,HG2.out⟩
 ·have hE:ybT l = 0:=by unfold ybT;rw [if_neg (by omega),if_neg h2]
  rw [hE,yiJ hE];rw [decide_eq_false h2] at hpz
  have HP:Hid (∀ V,Calls jq 155 #[.string S,.string ⟨#[0]⟩] V fun e w'=>e = .returned (.bool false) /\ w' = V):=jh fun V=>by
   have:=hpre V;rw [show (ByteArray.mk #[0]).data.toList = [0] from rfl,hpz] at this;exact this
  obtain ⟨k,hk⟩:∃ k,32 - S.size = k:=⟨_,rfl⟩;obtain ⟨Z,hZ⟩:∃ Z:ByteArray,(⟨(zs k).toArray⟩:ByteArray) = Z:=⟨_,rfl⟩;have hZl:Z.data.toList = zs k:=by rw [<- hZ]
  have hZz:Z.size = k:=by have:=congrArg List.length hZl;rw [jb0,List.length_replicate] at this;exact this
  have HR:Hid (∀ V,Calls jq 156 #[.string ⟨#[0]⟩,.int .i64 (k:Int)] V fun e w'=>e = .returned (.string Z) /\ V.grownBy w' none):=jh fun V=>by
   refine (yk0 ⟨#[0]⟩ rfl k V (by omega)).mono ?_;rintro e w' ⟨he,hb⟩;rw [hZ] at he;exact ⟨he,yae hb⟩
  have hsum:(Z ++ S).size = 32:=by
   have:=congrArg List.length (ycg Z S);rw [jb0,jla,jb0,jb0] at this;have e:(Z ++ S).size = Z.size + S.size:=this;omega
  have hval:beV (Z ++ S).data.toList = beV l:=by rw [ycg,hZl,HS.out,yoV]
  have HU:Hid (∀ V,Calls jq 84 #[.string (Z ++ S)] V fun e w'=>e = .returned (.tuple #[.agg (ybp (beV l)),.int .i64 0]) /\ V.grownBy w' none):=jh fun V=>by
   have:=yfi (Z ++ S) hsum V;rw [hval] at this;exact this
  have v1:IntKind.i64.wrap (32 - (S.size:Int)) = (k:Int):=by rw [jii _ (by omega)];omega
  have HB:=jh hB;have HG:=jh hG;have SET:=jh (fun (V:World) h a c d e=>@set4 V h a c d e);clear hE hpre hpz hB hG set4 h2 hval hsum hZ hZl;go_enter Tryz.func126,Tryz.ntmps126
  go_wp2_with fail
  refine (HP.out _).mono ?_;rintro e w2 ⟨rfl,rfl⟩;go_wp2_with fail
  refine (HR.out _).mono ?_;rintro e w3 ⟨rfl,hg3⟩;have HB3:=jh (HB.out.grown hg3 (by simp));have HG3:=jh (yab HG.out hg3 (by simp));clear hg3 HB HG HR;go_wp2_with fail
  refine (HU.out _).mono ?_;rintro e w4 ⟨rfl,hg4⟩;have hB:=HB3.out.grown hg4 (by simp);have HG2:=jh (SET.out w4 (yab HG3.out hg4 (by simp)) (.int .u64 (wp (beV l) 0:Nat)) (.int .u64 (wp (beV l) 1:Nat)) (.int .u64 (wp (beV l) 2:Nat)) (.int .u64 (wp (beV l) 3:Nat)));have HB2:=jh ((((hB.set_ 0 (.int .u64 (wp (beV l) 0:Nat))).set_ 1 (.int .u64 (wp (beV l) 1:Nat))).set_ 2 (.int .u64 (wp (beV l) 2:Nat))).set_ 3 (.int .u64 (wp (beV l) 3:Nat)));have c0:=hB.cell 0;have c1:=hB.cell 1;have c2:=hB.cell 2;have c3:=hB.cell 3;have d0:=hB.frozen 0;have d1':=hB.frozen 1;have d2:=hB.frozen 2;have d3:=hB.frozen 3;simp only [jta,jcz,jcs] at c0 c1 c2 c3;clear hg4 HB3 HG3 HU SET hB;unfold ybp;go_wp2_with fail
  refine jbr (ybH (fn:=Tryz.f126) rfl _ _ _ _ rfl (ybB HB2.out)) rfl ?_;exact ⟨rfl,HG2.out⟩
def wv (x:Nat):Value:=.int .u64 (x:Int)
theorem yez:∀ (xs ys:List Nat),xs.length = ys.length -> ((List.range xs.length).all fun i=>xs.getD i 0 == ys.getD i 0) = (xs == ys)
 | [],[],_=>rfl
 | x :: xs,y :: ys,h=>by
  have ih:=yez xs ys (by simpa using h);rw [jlc,List.range_succ_eq_map,List.all_cons,List.all_map];simp only [List.getD_cons_zero,Function.comp_def,List.getD_cons_succ,ih];simp [List.cons_beq_cons]
 | [],_ :: _,h=>by simp at h
 | _ :: _,[],h=>by simp at h
section
variable {P:Program} (w:World)
theorem ye1 (d:Nat) (t e:TypeId) (n:Nat) (ht:P.underlying t = some (.array n e)) (he:P.underlying e = some (.int .u64)) (hsz:∀ w,(sizeOf e).run P w = .ok 1 w)
  (xs ys:List Nat) (hx:xs.length = n) (hy:ys.length = n) :
  (Op.equalIn (d + 2) t (.agg (xs.map wv).toArray) (.agg (ys.map wv).toArray)).run P w = .ok (xs == ys) w:=by
 rw [<- yez xs ys (hx.trans hy.symm),hx,List.range_eq_range',Op.equalIn];simp only [Sem.run_bind,run_underlying ht,Result.andThen_ok,hsz,Std.Legacy.Range.forIn_eq_forIn_range',Std.Legacy.Range.size,Nat.sub_zero,Nat.add_sub_cancel,Nat.div_one];have hl:∀ i ∈ List.range' 0 n 1,i < n:=fun i hi=>by simpa using (List.mem_range'_1.1 hi).2
 generalize List.range' 0 n 1 = l at hl ⊢
 induction l with
 | nil=>simp
 | cons i l ih =>
  have hi:i < n:=hl i (by simp)
  have px:(part e (xs.map wv).toArray (i * 1)).run P w = .ok (wv (xs.getD i 0)) w:=by
   simp [part,isAgg,run_underlying he,List.getD,je (show i < xs.length by omega)]
  have py:(part e (ys.map wv).toArray (i * 1)).run P w = .ok (wv (ys.getD i 0)) w:=by
   simp [part,isAgg,run_underlying he,List.getD,je (show i < ys.length by omega)]
  have pe:(Op.equalIn (d + 1) e (wv (xs.getD i 0)) (wv (ys.getD i 0))).run P w = .ok (xs.getD i 0 == ys.getD i 0) w:=by
   rw [wv,wv,run_equalIn_int w d e .u64 .u64 _ _ he];congr 1;rw [Bool.eq_iff_iff]
   simp;omega
  simp only [List.forIn_cons,Sem.run_bind,px,py,pe,Result.andThen_ok,List.all_cons];cases hb:(xs.getD i 0 == ys.getD i 0)
  ·simp
  ·simp only [Bool.not_true,Bool.false_eq_true,if_false,Sem.run_pure,Result.andThen_ok,Bool.true_and];exact ih fun j hj=>hl j (by simp [hj])
end
theorem yl6 (w:World):(sizeOf 23).run jq w = .ok 1 w:=by kernel_rfl
theorem yaA {W:World} {a:Act} {o:Oper} {b off:Nat} {x0 x1 x2 x3:Value} (x:Operand) (ho:o.op = .load 38 x) (hx:a.eval x = .pointer (some ⟨b,off,none⟩))
  (c0:W.cell? ⟨b,off,none⟩ = some x0) (c1:W.cell? ⟨b,off + 1,none⟩ = some x1) (c2:W.cell? ⟨b,off + 2,none⟩ = some x2) (c3:W.cell? ⟨b,off + 3,none⟩ = some x3) :
  (execOp a.eval o).run jq W = .ok (.value (.agg #[x0,x1,x2,x3])) W:=by
 have hagg:=Tryz.isAgg38;have hsz:=Tryz.sizeOf38;unfold execOp;simp only [ho,hx];simp [go_sem,c0,c1,c2,c3,hagg,hsz]
section
variable {P:Program} {ops:Array Oper} {C:World -> Prop} {Q:Act -> Prop} {a:Act} {o:Oper} {rest:List Oper}
end
inductive Itm where
 | mk (list:Bool) (bytes:ByteArray) (items:List Itm)
def Itm.list:Itm -> Bool | .mk l _ _=>l
def Itm.bytes:Itm -> ByteArray | .mk _ b _=>b
def Itm.items:Itm -> List Itm | .mk _ _ xs=>xs
def Itm.none_:Itm:=.mk false .empty []
inductive SubV (S:Nat -> Prop) (W:World):List Itm -> Value -> Prop
 | mk (xs:List Itm) (A:Option Addr) (c:Nat) (vs:List Value)
   (hr:0 < xs.length -> ∃ b off,A = some ⟨b,off,none⟩ /\ S b /\ ∀ i,i < xs.length -> W.cell? ⟨b,off + i * 3,none⟩ = some (.bool (xs.getD i Itm.none_).list) /\ W.cell? ⟨b,off + i * 3 + 1,none⟩ = some (.string (xs.getD i Itm.none_).bytes) /\ W.cell? ⟨b,off + i * 3 + 2,none⟩ = some (vs.getD i undef))
   (hx:∀ i,i < xs.length -> SubV S W (xs.getD i Itm.none_).items (vs.getD i undef))
   (hcap:xs.length <= c:=by first | exact jle _ | exact Nat.zero_le _ | simp | omega):SubV S W xs (.slice A xs.length c)
theorem SubV.keep {S:Nat -> Prop} {W W':World} {xs:List Itm} {v:Value} (h:SubV S W xs v) (hk:∀ p:Addr,S p.block -> ∀ u,W.cell? p = some u -> W'.cell? p = some u):SubV S W' xs v:=by
 induction h with
 | mk xs A c vs hr hx hcap ih =>
  refine .mk xs A c vs (fun h0=>?_) ih hcap;obtain ⟨b,off,hA,hb,hc⟩:=hr h0;exact ⟨b,off,hA,hb,fun i hi=>⟨hk ⟨b,_,none⟩ hb _ (hc i hi).1,hk ⟨b,_,none⟩ hb _ (hc i hi).2.1,hk ⟨b,_,none⟩ hb _ (hc i hi).2.2⟩⟩
theorem SubV.weak {S S':Nat -> Prop} {W:World} {xs:List Itm} {v:Value} (h:SubV S W xs v) (hs:∀ b,S b -> S' b):SubV S' W xs v:=by
 induction h with
 | mk xs A c vs hr hx hcap ih =>
  refine .mk xs A c vs (fun h0=>?_) ih hcap;obtain ⟨b,off,hA,hb,hc⟩:=hr h0;exact ⟨b,off,hA,hs b hb,hc⟩
theorem SubV.slice {S:Nat -> Prop} {W:World} {xs:List Itm} {v:Value} (h:SubV S W xs v):∃ A c,v = .slice A xs.length c:=by cases h;exact ⟨_,_,rfl⟩
theorem SubV.cap {S:Nat -> Prop} {W:World} {xs:List Itm} {A:Option Addr} {n c:Nat} (h:SubV S W xs (.slice A n c)):n <= c:=by cases h;assumption
theorem SubV.one {S:Nat -> Prop} {W:World} {xs:List Itm} {v:Value} (h:SubV S W xs v):v.oneCell' = true:=by obtain ⟨A,c,rfl⟩:=h.slice;rfl
theorem SubV.lt {S:Nat -> Prop} {W:World} {xs:List Itm} {v:Value} (h:SubV S W xs v):SubV (fun b=>S b /\ b < W.heap.size) W xs v:=by
 induction h with
 | mk xs A c vs hr hx hcap ih =>
  refine .mk xs A c vs (fun h0=>?_) ih hcap;obtain ⟨b,off,hA,hb,hc⟩:=hr h0;refine ⟨b,off,hA,⟨hb,?_⟩,hc⟩;have:=(hc 0 h0).1;rcases Nat.lt_or_ge b W.heap.size with h1 | h1
  ·exact h1
  ·unfold World.cell? at this;rw [jc8 h1] at this;cases this
def yb2 (xs:List Itm) (vs:List Value):List Value:=(xs.zip vs).flatMap fun p=>[.bool p.1.list,.string p.1.bytes,p.2]
theorem yf5 (xs:List Itm) (vs:List Value) (h:xs.length = vs.length) (x:Itm) (v:Value):yb2 (xs ++ [x]) (vs ++ [v]) = yb2 xs vs ++ [.bool x.list,.string x.bytes,v]:=by
 unfold yb2;rw [List.zip_append h,List.flatMap_append];rfl
theorem ye6 (xs:List Itm) (vs:List Value) (h:xs.length = vs.length) (i:Nat) (hi:i < xs.length) (q:Nat) (hq:q < 3):(yb2 xs vs)[i * 3 + q]? = [jc7 (xs.getD i Itm.none_).list,.string (xs.getD i Itm.none_).bytes,vs.getD i undef][q]?:=by
 induction xs generalizing vs i with
 | nil=>cases hi
 | cons x xs ih =>
  cases vs with
  | nil=>cases h
  | cons v vs =>
   have e:yb2 (x :: xs) (v :: vs) = [.bool x.list,.string x.bytes,v] ++ yb2 xs vs:=rfl;rw [e];cases i with
   | zero=>rw [Nat.zero_mul,jd6,jal (by simpa using hq)];rfl
   | succ i =>
    rw [jar (by simp;omega),show (i + 1) * 3 + q - [jc7 x.list,.string x.bytes,v].length = i * 3 + q by simp;omega,ih vs (by simpa using h) i (by simpa using hi)];rfl
theorem SubV.of_own {S:Nat -> Prop} {W:World} {base c:Nat} {A:Option Addr} {xs:List Itm} {vs:List Value} (hl:xs.length = vs.length) (h:W.ownsRow base 106 3 (.slice A xs.length c) xs.length (yb2 xs vs))
  (hx:∀ i,i < xs.length -> SubV S W (xs.getD i Itm.none_).items (vs.getD i undef)) (hS:∀ g,(ja4 A xs.length c).ownBlock = some g -> S g):SubV S W xs (.slice A xs.length c):=by
 refine .mk xs A c vs (fun h0=>?_) hx (by
  rcases h.2 with ⟨h1,_⟩ | ⟨g,cap,cur,hv,_,_,hn,_⟩
  ·injection h1 with _ h2 h3;omega
  ·injection hv with _ _ h3;omega)
 rcases h.2 with ⟨_,h1⟩ | ⟨g,cap,cur,hv,_,hg,_,_,_,ht⟩
 ·omega
 ·injection hv with hA;subst hA;refine ⟨g,0,rfl,hS g rfl,fun i hi=>?_⟩
  have key:∀ q,q < 3 -> W.cell? ⟨g,0 + i * 3 + q,none⟩ = (yb2 xs vs)[i * 3 + q]?:=by
   intro q hq;rw [jd6,cell_of_row W g (i * 3 + q) cur 106 (0,0) hg,<- ht,jc3 (by omega)]
   simp
  refine ⟨?_,?_,?_⟩
  ·have:=key 0 (by omega);rw [ye6 xs vs hl i hi 0 (by omega)] at this;exact this
  ·have:=key 1 (by omega);rw [ye6 xs vs hl i hi 1 (by omega)] at this;exact this
  ·have:=key 2 (by omega);rw [ye6 xs vs hl i hi 2 (by omega)] at this;exact this
theorem Itm.size_get {x:Itm} {i:Nat} (h:i < x.items.length):SizeOf.sizeOf (x.items.getD i Itm.none_) < SizeOf.sizeOf x:=by
 obtain ⟨l,b,xs⟩:=x;have h:i < xs.length:=h
 have:xs.getD i Itm.none_ ∈ xs:=by
  rw [jg,je h];exact List.getElem_mem h
 have:=List.sizeOf_lt_of_mem this;simp only [Itm.items,Itm.mk.sizeOf_spec];omega
abbrev SubW (W:World) (xs:List Itm) (v:Value):Prop:=SubV (fun g=>g < W.heap.size) W xs v
theorem SubW.grown {W W':World} {xs:List Itm} {v:Value} (h:SubW W xs v) (hg:W.grownBy W' none):SubW W' xs v :=
 (h.keep fun p hp u hu=>by rw [World.cell?_of_block (w:=W) (hg.block p.block hp (by simp))];exact hu).weak fun g h1=>by have:=hg.size;omega
theorem SubV.here {S:Nat -> Prop} {W:World} {xs:List Itm} {v:Value} (h:SubV S W xs v):SubW W xs v:=h.lt.weak fun _ h=>h.2
theorem SubV.row {S:Nat -> Prop} {W:World} {xs:List Itm} {A:Option Addr} {n c:Nat} (h:SubV S W xs (.slice A n c)):n = xs.length /\ ∃ vs:List Value,(∀ i,i < xs.length -> SubV S W (xs.getD i Itm.none_).items (vs.getD i undef)) /\
  (0 < xs.length -> ∃ b off,A = some ⟨b,off,none⟩ /\ S b /\ ∀ i,i < xs.length -> W.cell? ⟨b,off + i * 3,none⟩ = some (.bool (xs.getD i Itm.none_).list) /\ W.cell? ⟨b,off + i * 3 + 1,none⟩ = some (.string (xs.getD i Itm.none_).bytes) /\ W.cell? ⟨b,off + i * 3 + 2,none⟩ = some (vs.getD i undef)):=by
 cases h with
 | mk xs A c vs hr hx=>exact ⟨rfl,vs,hx,hr⟩
inductive Itm.Ok:Itm -> Prop
 | mk (l:Bool) (b:ByteArray) (xs:List Itm) (hb:b.size <= 9223372036854775807) (hn:xs.length <= 9223372036854775807) (h:∀ i,i < xs.length -> Itm.Ok (xs.getD i Itm.none_)):Itm.Ok (.mk l b xs)
theorem Itm.Ok.bytes {x:Itm} (h:x.Ok):x.bytes.size <= 9223372036854775807:=by cases h;assumption
theorem Itm.Ok.items {x:Itm} (h:x.Ok):x.items.length <= 9223372036854775807:=by cases h;assumption
theorem Itm.Ok.get {x:Itm} (h:x.Ok):∀ i,i < x.items.length -> (x.items.getD i Itm.none_).Ok:=by cases h;assumption
def yaU (n base:Nat):List UInt8:=if n < 56 then [UInt8.ofNat (base + n)] else UInt8.ofNat (base + 55 + (beN n).length) :: beN n
theorem ymk (B:Nat) (A:Option Addr) (n c:Nat) (xs:List ByteArray) (w:World) (hB:B <= w.heap.size) (h:Reads w B 1 A n (xs.map ja8)) (hnm:n <= 1000000) (hnc:n <= c) (hlen:(catB xs).length <= 140737488355328) :
  Calls jq 170 #[.slice A n c] w fun e w'=>e = .returned (.string ⟨(catB xs).toArray⟩) /\ Below w.heap.size w w':=by
 have hj:=yjO B A n c xs w hB h hnm hnc hlen;have HJ:=jh hj;clear hj h;go_enter Tryz.func170,Tryz.ntmps170
 go_wp2_with fail
 refine HJ.out.mono ?_;rintro e w2 ⟨rfl,hb⟩;go_wp2_with fail
 go_ret
 exact ⟨rfl,hb⟩
theorem yjN (s t:ByteArray) (w:World) (hlen:s.size + t.size <= 140737488355328) :
  Calls jq 170 #[.slice (some ⟨w.heap.size,0,none⟩) 2 2] (w.alloc (.cells #[.string s,.string t] 9)) fun e w'=>e = .returned (.string (s ++ t)) /\ w.grownBy w' none:=by
 have hr:Reads (w.alloc (.cells #[.string s,.string t] 9)) (w.heap.size + 1) 1 (some ⟨w.heap.size,0,none⟩) 2 ([s,t].map ja8):=ylH (heap_alloc_new w _) (by omega) 2 rfl;have hc:catB [s,t] = (s ++ t).data.toList:=by simp [catB]
 refine (ymk (w.heap.size + 1) _ 2 2 [s,t] _ (by simp) hr (by omega) (by omega) (by rw [hc];rw [ycg,jla,yar,yar];exact hlen)).mono ?_;rintro e w' ⟨rfl,hb⟩;refine ⟨by rw [hc],?_⟩;exact yab (yaa (jr w none) (.cells #[.string s,.string t] 9)) (yae hb) (by simp)
theorem ync (n:Nat) (h:n < 256):((UInt8.ofNat n).toNat:Int) = (n:Int):=by
 rw [UInt8.toNat_ofNat'];omega
theorem yjF (n:Nat) (h:n < 256):IntKind.u8.wrap (n:Int) = ((UInt8.ofNat n).toNat:Int):=by
 rw [ync n h];simp [IntKind.wrap,IntKind.bits,IntKind.signed];omega
theorem yfa (w:World) (z:UInt8):(convert 43 9 (.slice (some ⟨w.heap.size,0,none⟩) 1 1)).run jq (w.alloc (.cells #[.int .u8 (z.toNat:Int)] 5)) = .ok (.string ⟨#[z]⟩) (w.alloc (.cells #[.int .u8 (z.toNat:Int)] 5)) :=
 yc8 (yhb w z)
theorem yms (n base:Nat) (hn:n <= 1000000000) (hb:base <= 192) (w:World) :
  Calls jq 171 #[.int .i64 (n:Int),.int .i64 (base:Int)] w fun e w'=>e = .returned (.string ⟨(yaU n base).toArray⟩) /\ w.grownBy w' none:=by
 by_cases h:n < 56
 ·have hh:yaU n base = [UInt8.ofNat (base + n)]:=if_pos h;have v1:IntKind.i64.wrap ((base:Int) + (n:Int)) = (base:Int) + (n:Int):=jii _ (by omega);have v2:IntKind.u8.wrap ((base:Int) + (n:Int)) = ((UInt8.ofNat (base + n)).toNat:Int):=by rw [show (base:Int) + (n:Int) = ((base + n:Nat):Int) by omega];exact yjF _ (by omega)
  have d1:(n:Int) < 56:=by omega
  have hcv:=yfa w (UInt8.ofNat (base + n));have HH:=jh hh;generalize UInt8.ofNat (base + n) = z at *;clear hh;go_enter Tryz.func171,Tryz.ntmps171
  go_wp2_with fail
  go_ret
  exact ⟨by rw [HH.out];rfl,yaa (jr w none) _⟩
 ·have hh:yaU n base = UInt8.ofNat (base + 55 + (beN n).length) :: beN n:=if_neg h;have d1:decide ((n:Int) < 56) = false:=decide_eq_false (by omega);have hl:=yey n (by omega);have HB:=jh (fun V=>ypy n (by omega) V);have v0:IntKind.u64.wrap (n:Int) = (n:Int):=by simp [IntKind.wrap,IntKind.bits,IntKind.signed];omega
  have v1:IntKind.i64.wrap ((base:Int) + 56) = (base:Int) + 56:=jii _ (by omega);have v2:IntKind.i64.wrap ((base:Int) + 56 - 1) = (base:Int) + 55:=by rw [jii _ (by omega)];omega
  obtain ⟨q,hq⟩:∃ q,beN n = q:=⟨_,rfl⟩;rw [hq] at hh hl HB;have v3:IntKind.i64.wrap ((base:Int) + 55 + (q.length:Int)) = (base:Int) + 55 + (q.length:Int):=jii _ (by omega);have v4:IntKind.u8.wrap ((base:Int) + 55 + (q.length:Int)) = ((UInt8.ofNat (base + 55 + q.length)).toNat:Int):=by rw [show (base:Int) + 55 + (q.length:Int) = ((base + 55 + q.length:Nat):Int) by omega];exact yjF _ (by omega)
  have HH:=jh hh;obtain ⟨z,hz⟩:∃ z,UInt8.ofNat (base + 55 + q.length) = z:=⟨_,rfl⟩;rw [hz] at v4 HH;have e1:(base:Int) + 56 - 1 = (base:Int) + 55:=by omega
  clear hh hq hz;go_enter Tryz.func171,Tryz.ntmps171
  go_wp2_with fail
  refine (HB.out _).mono ?_;rintro e w2 ⟨rfl,hg⟩;have hcv:=yfa w2 z;have hz0:q.toArray.size = q.length:=by simp
  go_wp2_with fail
  have hj:=yjN ⟨#[z]⟩ ⟨q.toArray⟩ (w2.alloc (.cells #[.int .u8 (z.toNat:Int)] 5)) (by show 1 + q.toArray.size <= _;omega);rw [jsa] at hj;have hG:=yaa hg (.cells #[.int .u8 (z.toNat:Int)] 5);refine hj.mono ?_;rintro e w3 ⟨rfl,hg3⟩;have hG:=jh (yab hG hg3 (by simp));clear hg hg3 hj hcv;go_wp2_with fail
  go_ret
  refine ⟨?_,hG.out⟩;rw [HH.out];show Ending.returned (.string (⟨#[z]⟩ ++ ⟨q.toArray⟩)) = _;congr 2
theorem ygz (s:ByteArray) (base:Nat) (hs:s.size <= 1000000000) (hb:base <= 192) (w:World) :
  Calls jq 148 #[.string s,.int .i64 (base:Int)] w fun e w'=>e = .returned (.string ⟨(yaU s.size base ++ s.data.toList).toArray⟩) /\ w.grownBy w' none:=by
 have HH:=jh (fun V=>yms s.size base hs hb V)
 have hl:(yaU s.size base).length <= 9:=by
  unfold yaU;have:=yey s.size (by omega);split <;> simp;omega
 obtain ⟨q,hq⟩:∃ q,yaU s.size base = q:=⟨_,rfl⟩;rw [hq] at HH hl;have HQ:=jh hq;clear hq;go_enter Tryz.func148,Tryz.ntmps148
 go_wp2_with fail
 refine (HH.out _).mono ?_;rintro e w2 ⟨rfl,hg⟩;go_wp2_with fail
 have hj:=yjN ⟨q.toArray⟩ s w2 (by show q.toArray.size + s.size <= _;rw [jd9];omega);refine hj.mono ?_;rintro e w3 ⟨rfl,hg3⟩;have hG:=jh (yab hg hg3 (by simp));clear hg hg3 hj;go_wp2_with fail
 go_ret
 refine ⟨?_,hG.out⟩;rw [HQ.out];show Ending.returned (.string (⟨q.toArray⟩ ++ s)) = _;congr 2
def yce (b:ByteArray):List UInt8:=if b.size = 1 /\ (b.data.toList.getD 0 0).toNat < 128 then b.data.toList else yaU b.size 128 ++ b.data.toList
mutual
def yau:Itm -> List UInt8
 | .mk l b xs=>if l then yaU (bytesL xs).length 192 ++ bytesL xs else yce b
def bytesL:List Itm -> List UInt8
 | []=>[]
 | x :: xs=>yau x ++ bytesL xs
end
mutual
def yaP:Itm -> Nat -> Int
 | .mk l b xs,d=>if (l = true /\ b.size ≠ 0) \/ (l = false /\ xs.length ≠ 0) then 2 else if l = false then 0 else if 12 <= d then 7 else if 512 < xs.length then 5 else formL xs (d + 1)
def formL:List Itm -> Nat -> Int
 | [],_=>0
 | x :: xs,d=>if yaP x d ≠ 0 then yaP x d else formL xs d
end
mutual
def wtF:Itm -> Nat
 | .mk l b xs=>10 + b.size + wtL xs
def wtL:List Itm -> Nat
 | []=>0
 | x :: xs=>wtF x + wtL xs
end
theorem ydo (x:Itm):yau x = if x.list then yaU (bytesL x.items).length 192 ++ bytesL x.items else yce x.bytes:=by cases x;rw [yau];rfl
theorem yer (x:Itm) (d:Nat):yaP x d = if (x.list = true /\ x.bytes.size ≠ 0) \/ (x.list = false /\ x.items.length ≠ 0) then 2 else if x.list = false then 0 else if 12 <= d then 7 else if 512 < x.items.length then 5 else formL x.items (d + 1):=by cases x;rw [yaP];rfl
theorem ydO (x:Itm):wtF x = 10 + x.bytes.size + wtL x.items:=by cases x;rw [wtF];rfl
theorem yfI (xs:List Itm) (x:Itm):bytesL (xs ++ [x]) = bytesL xs ++ yau x:=by
 induction xs with
 | nil=>simp [bytesL]
 | cons y xs ih=>simp [bytesL,ih]
theorem ygd (xs ys:List Itm):wtL (xs ++ ys) = wtL xs + wtL ys:=by
 induction xs with
 | nil=>simp [wtL]
 | cons y xs ih=>simp [wtL,ih];omega
theorem yfp {xs:List Itm} {k:Nat} (h:k < xs.length):xs.take (k + 1) = xs.take k ++ [xs.getD k Itm.none_]:=by
 rw [jtk h,jg,je h];rfl
theorem ynA {xs:List Itm} {k:Nat} (h:k < xs.length):xs = xs.take k ++ xs.getD k Itm.none_ :: xs.drop (k + 1):=by
 have:xs.drop k = xs.getD k Itm.none_ :: xs.drop (k + 1):=by
  rw [jdc h,jg,je h];rfl
 rw [<- this,List.take_append_drop]
theorem ygN {xs:List Itm} {k:Nat} (h:k < xs.length):wtF (xs.getD k Itm.none_) + wtL (xs.take k) <= wtL xs:=by
 have e:=congrArg wtL (ynA h);rw [ygd,wtL] at e;omega
theorem ydh (n base:Nat) (h:n <= 1000000000):(yaU n base).length <= 9 /\ 1 <= (yaU n base).length:=by
 unfold yaU;have:=yey n (by omega);split <;> simp <;> omega
theorem ylg (b:ByteArray) (h:b.size <= 1000000000):(yce b).length <= 9 + b.size:=by
 unfold yce;have h2:b.data.toList.length = b.size:=jb0;split
 ·omega
 ·rw [jla];have:=(ydh b.size 128 h).1;omega
mutual
theorem yeB:∀ x:Itm,wtF x <= 1000000000 -> (yau x).length + 1 <= wtF x
 | .mk l b xs,h=>by
  rw [wtF] at h ⊢;rw [yau];have h1:=bytesL_len xs (by omega);split
  ·rw [jla];have:=(ydh (bytesL xs).length 192 (by omega)).1;omega
  ·have:=ylg b (by omega);omega
theorem bytesL_len:∀ xs:List Itm,wtL xs <= 1000000000 -> (bytesL xs).length <= wtL xs
 | [],_=>by simp [bytesL]
 | x :: xs,h=>by
  rw [wtL] at h ⊢;rw [bytesL,jla];have:=yeB x (by omega);have:=bytesL_len xs (by omega);omega
end
theorem ypf {x:Itm} {k:Nat} (h:k < x.items.length):wtF (x.items.getD k Itm.none_) <= wtF x:=by
 have:=ygN h;rw [ydO x];omega
theorem yj6 (xs:List Itm) (k:Nat):wtL (xs.take k) <= wtL xs:=by
 have:=congrArg wtL (List.take_append_drop k xs);rw [ygd] at this;omega
theorem yo0 (xs:List Itm):10 * xs.length <= wtL xs:=by
 induction xs with
 | nil=>simp [wtL]
 | cons x xs ih=>rw [wtL,ydO];simp;omega
theorem yhd (x:Itm) (h:wtF x <= 1000000000):x.Ok:=by
 generalize hn:SizeOf.sizeOf x = n
 induction n using Nat.strongRecOn generalizing x with
 | _ n ih =>
  subst hn;cases x with
  | mk l b xs =>
   have h':=h;rw [wtF] at h';have:=yo0 xs;exact .mk l b xs (by omega) (by omega) fun i hi=>ih _ (Itm.size_get (x:=.mk l b xs) hi) _ (jlt (ypf (x:=.mk l b xs) hi) h) rfl
theorem BuilderAt.grown_' {T e:TypeId} {B b:Nat} {p:Value} {bs:List Value} {w w':World} (h:Lib.BuilderAt T e B b p bs w) (hg:w.grownBy w' none):Lib.BuilderAt T e B b p bs w':=by
 obtain ⟨h1,v,h2,h3,h4⟩:=h;refine ⟨h1,v,(hg.block b (jes.1 h2).1 (by simp)).trans h2,h3.kept hg ?_,h4⟩;rcases h3.2 with ⟨rfl,_⟩ | ⟨g,cap,cur,rfl,_⟩
 ·exact .inl rfl
 ·exact .inr (by simp [jc2])
theorem ycf {T e:TypeId} {B b:Nat} {bs:List Value} {w w':World} (h:jd3 T e B b bs w) (hg:w.grownBy w' none):jd3 T e B b bs w':=h.elim (fun h=>.inl (BuilderAt.grown_' h hg)) (fun h=>.inr (BuilderAt.grown_' h hg))
theorem yli {T e:TypeId} {B b:Nat} {bs:List Value} {w:World} (h:jd3 T e B b bs w):b < w.heap.size /\ B <= b:=h.elim (fun h=>⟨h.lt,h.1⟩) (fun h=>⟨h.lt,h.1⟩)
structure One (W0 W:World) (b:Nat) (x:Itm) (sx:Value):Prop where
 hg:W0.grownBy W none
 bx:Blk W b 106 #[.bool x.list,.string x.bytes,sx]
 sx:SubW W x.items sx
theorem One.grown {W0 W W':World} {b:Nat} {x:Itm} {sx:Value} (h:One W0 W b x sx) (hg:W.grownBy W' none):One W0 W' b x sx :=
 ⟨yab h.hg hg (by simp),h.bx.grown hg (by simp),h.sx.grown hg⟩
theorem One.cells {W0 W:World} {b:Nat} {x:Itm} {sx:Value} (h:One W0 W b x sx):W.cell? ⟨b,0,none⟩ = some (.bool x.list) /\ W.cell? ⟨b,1,none⟩ = some (.string x.bytes) /\ W.cell? ⟨b,2,none⟩ = some sx :=
 ⟨h.bx.cell 0,h.bx.cell 1,h.bx.cell 2⟩
theorem One.below {W0 W:World} {b:Nat} {x:Itm} {sx:Value} (h:One W0 W b x sx):Below W0.heap.size W0 W:=ybd h.hg
theorem yaX {w:World} {g:Nat} {a b c:Value} (hg:Blk w g 106 #[a,b,c]):(loadVar 106 ⟨g,0,none⟩).run jq w = .ok (.agg #[a,b,c]) w :=
 run_loadVar_row w g 106 106 _ (0,0) _ hg Tryz.underlying106 rfl (by kernel_rfl)
theorem yeh (s:ByteArray) (w:World) :
  Calls jq 74 #[.string s] w fun e w'=>e = .returned (.agg #[.bool false,.string s,.slice none 0 0]) /\ w.grownBy w' none:=by
 have hB:=Blk.new w 106 #[.bool false,.string s,.slice none 0 0];have hG:=yaa (jr w none) (.cells #[.bool false,.string s,.slice none 0 0] 106);go_enter Tryz.func74,Tryz.ntmps74
 go_wp2_with fail
 refine jbr (yaw (fn:=Tryz.f74) rfl _ _ _ _ rfl (yaX hB)) rfl ?_;exact ⟨rfl,hG⟩
theorem ygf (n a b:Int) (w:World) :
  Calls jq 129 #[.int .i64 n,.int .i64 a,.int .i64 b] w fun e w'=>e = .returned (.int .i64 (if n < a then 3 else if b < n then 5 else 0)) /\ w' = w:=by
 by_cases h1:n < a
 ·rw [if_pos h1];go_enter Tryz.func129,Tryz.ntmps129
  go_wp2_with fail
  go_ret
  exact ⟨rfl,rfl⟩
 ·rw [if_neg h1];have d1:decide (n < a) = false:=decide_eq_false h1;by_cases h2:b < n
  ·rw [if_pos h2];clear h1;go_enter Tryz.func129,Tryz.ntmps129
   go_wp2_with fail
   go_ret
   exact ⟨rfl,rfl⟩
  ·rw [if_neg h2];have d2:decide (b < n) = false:=decide_eq_false h2;clear h1 h2;go_enter Tryz.func129,Tryz.ntmps129
   go_wp2_with fail
   go_ret
   exact ⟨rfl,rfl⟩
theorem yeW (sv:Value) (hsv:∃ A n c,sv = .slice A n c) (w:World) :
  Calls jq 72 #[sv] w fun e w'=>e = .returned (.agg #[.bool true,.string ⟨#[]⟩,sv]) /\ w.grownBy w' none:=by
 obtain ⟨A,n,c,rfl⟩:=hsv;have hB:=Blk.new w 106 #[.bool true,.string ⟨#[]⟩,.slice A n c];have hG:=yaa (jr w none) (.cells #[.bool true,.string ⟨#[]⟩,.slice A n c] 106);go_enter Tryz.func72,Tryz.ntmps72
 go_wp2_with fail
 refine jbr (yaw (fn:=Tryz.f72) rfl _ _ _ _ rfl (yaX hB)) rfl ?_;exact ⟨rfl,hG⟩
theorem yk6 (p q:Addr) (l:Bool) (s:ByteArray) (sv:Value) (w:World) (E:Int) (v:ByteArray) (hU:∀ W,w.grownBy W none -> Calls jq 128 #[.string s,.pointer (some p),.pointer (some q)] W fun e w'=>e = .returned (.tuple #[.string v,.int .i64 E]) /\ w' = W) :
  Calls jq 127 #[.agg #[.bool l,.string s,sv],.func (Fn.func 128) #[] #[.pointer (some p),.pointer (some q)]] w fun e w'=>e = .returned (.tuple #[.string (if l = false /\ E = 0 then v else ⟨#[]⟩),.int .i64 (if l then 2 else E)]) /\ w.grownBy w' none:=by
 have hB:=Blk.new w 106 #[.bool l,.string s,sv];have hG:=yaa (jr w none) (.cells #[.bool l,.string s,sv] 106);have HU:=jh hU;have HG:=jh hG;clear hU hG;obtain ⟨m,hm⟩:∃ m,(if l = false /\ E = 0 then v else ⟨#[]⟩) = m:=⟨_,rfl⟩;rw [hm];have HM:=jh hm;clear hm;cases l with
 | true =>
  obtain rfl:⟨#[]⟩ = m:=HM.out;rw [show (if true = true then (2:Int) else E) = 2 from rfl];clear HU HM;go_enter Tryz.func127,Tryz.ntmps127
  go_upto_region 1 with (fail)
  obtain ⟨b,hb⟩:∃ b,w.heap.size = b:=⟨_,rfl⟩;rw [hb] at hB ⊢;generalize w.alloc (.cells #[.bool true,.string s,sv] 106) = W1 at *;have c0:=hB.cell 0;simp only [jta,jcz,jcs] at c0;go_wp2_with fail
  go_ret2
  exact ⟨rfl,HG.out⟩
 | false =>
  rw [show (if false = true then (2:Int) else E) = E from rfl];go_enter Tryz.func127,Tryz.ntmps127
  go_upto_region 1 with (fail)
  obtain ⟨b,hb⟩:∃ b,w.heap.size = b:=⟨_,rfl⟩;rw [hb] at hB ⊢;generalize w.alloc (.cells #[.bool false,.string s,sv] 106) = W1 at *;have c0:=hB.cell 0;have c1:=hB.cell 1;simp only [jta,jcz,jcs] at c0 c1;go_wp2_with fail
  refine (HU.out _ HG.out).mono ?_;rintro e w3 ⟨rfl,hw3⟩;rw [hw3];clear hw3 c0 c1 hB HU;by_cases h0:E = 0
  ·subst h0;obtain rfl:v = m:=HM.out;clear HM;go_wp2_with fail
   go_ret2
   exact ⟨rfl,HG.out⟩
  ·have g1:(E != 0) = true:=by simpa using h0
   obtain rfl:⟨#[]⟩ = m:=by have:=HM.out;rwa [if_neg (fun h=>h0 h.2)] at this
   clear HM;go_wp2_with fail
   go_ret2
   exact ⟨rfl,HG.out⟩
def ych (n:Nat) (least most:Int):Int:=if (n:Int) < least then 3 else if most < (n:Int) then 5 else 0
theorem yij (s:ByteArray) (ga gb:Nat) (least most:Int) (W:World) (h1:W.cell? ⟨ga,0,none⟩ = some (.int .i64 least)) (h2:W.cell? ⟨gb,0,none⟩ = some (.int .i64 most)) :
  Calls jq 128 #[.string s,.pointer (some ⟨ga,0,none⟩),.pointer (some ⟨gb,0,none⟩)] W fun e w'=>e = .returned (.tuple #[.string s,.int .i64 (ych s.size least most)]) /\ w' = W:=by
 have hw:=fun V=>ygf (s.size:Int) least most V;obtain ⟨E,hE⟩:∃ E,ych s.size least most = E:=⟨_,rfl⟩;unfold ych at hE;rw [hE] at hw;rw [show ych s.size least most = E from hE];have HW:=jh hw;clear hw hE;go_enter Tryz.func128,Tryz.ntmps128
 go_wp2_with fail
 refine (HW.out _).mono ?_;rintro e w3 ⟨rfl,hw3⟩;rw [hw3];clear hw3;go_wp2_with fail
 go_ret2
 exact ⟨rfl,rfl⟩
theorem yja (l:Bool) (s:ByteArray) (sv:Value) (least most:Int) (w:World) :
  Calls jq 90 #[.agg #[.bool l,.string s,sv],.int .i64 least,.int .i64 most] w fun e w'=>e = .returned (.tuple #[.string (if l = false /\ ych s.size least most = 0 then s else ⟨#[]⟩),.int .i64 (if l then 2 else ych s.size least most)]) /\ w.grownBy w' none:=by
 have hG:=yaa (yaa (yaa (jr w none) (.cells #[.bool l,.string s,sv] 106)) (.cells #[.int .i64 least] 3)) (.cells #[.int .i64 most] 3);have hB1:=Blk.new (w.alloc (.cells #[.bool l,.string s,sv] 106)) 3 #[.int .i64 least];have hB1:=hB1.alloc (.cells #[.int .i64 most] 3);have hB2:=Blk.new ((w.alloc (.cells #[.bool l,.string s,sv] 106)).alloc (.cells #[.int .i64 least] 3)) 3 #[.int .i64 most];rw [jsa] at hB1;rw [jsa,jsa] at hB2;have ho:=fun V (hV1:Blk V (w.heap.size + 1) 3 #[.int .i64 least]) (hV2:Blk V (w.heap.size + 1 + 1) 3 #[.int .i64 most])=>yk6 ⟨w.heap.size + 1,0,none⟩ ⟨w.heap.size + 1 + 1,0,none⟩ l s sv V (ych s.size least most) s (fun U hU=>yij s (w.heap.size + 1) (w.heap.size + 1 + 1) least most U ((hV1.grown hU (by simp)).cell 0) ((hV2.grown hU (by simp)).cell 0));obtain ⟨m,hm⟩:∃ m,(if l = false /\ ych s.size least most = 0 then s else ⟨#[]⟩) = m:=⟨_,rfl⟩;obtain ⟨q,hq⟩:∃ q,(if l then 2 else ych s.size least most) = q:=⟨_,rfl⟩;rw [hm,hq] at ho;rw [hm,hq];have HO:=jh (ho _ hB1 hB2);have HG:=jh hG;clear ho hm hq hB1 hB2 hG;go_enter Tryz.func90,Tryz.ntmps90
 go_wp2_with fail
 refine HO.out.mono ?_;rintro e w3 ⟨rfl,hg3⟩;have HG3:=jh (yab HG.out hg3 (by simp));clear hg3 HO;go_wp2_with fail
 go_ret2
 exact ⟨rfl,HG3.out⟩
abbrev wZ:Array Value:=#[.int .u64 0,.int .u64 0,.int .u64 0,.int .u64 0]
theorem yen {a W:World} {b:Nat} (h:a.grownBy W none) (hb:a.heap.size <= b) (x y z u:Value):a.grownBy ((((W.setCell ⟨b,0,none⟩ x).setCell ⟨b,1,none⟩ y).setCell ⟨b,2,none⟩ z).setCell ⟨b,3,none⟩ u) none :=
 yap (yap (yap (yap h (p:=⟨b,0,none⟩) hb x) (p:=⟨b,1,none⟩) hb y) (p:=⟨b,2,none⟩) hb z) (p:=⟨b,3,none⟩) hb u
theorem yfb {W:World} {b:Nat} {t:TypeId} {p q r s:Value} (h:Blk W b t #[p,q,r,s]) (x y z u:Value):Blk ((((W.setCell ⟨b,0,none⟩ x).setCell ⟨b,1,none⟩ y).setCell ⟨b,2,none⟩ z).setCell ⟨b,3,none⟩ u) b t #[x,y,z,u] :=
 (((h.set_ 0 x).set_ 1 y).set_ 2 z).set_ 3 u
theorem yjb (l:Bool) (s:ByteArray) (A:Option Addr) (n c:Nat) (least most:Int) (w:World) :
  Calls jq 122 #[.agg #[.bool l,.string s,.slice A n c],.int .i64 least,.int .i64 most] w fun e w'=>e = .returned (.tuple #[if l = true /\ ych n least most = 0 then .slice A n c else .slice none 0 0,.int .i64 (if l then ych n least most else 2)]) /\ w.grownBy w' none:=by
 have hB:=Blk.new w 106 #[.bool l,.string s,.slice A n c];have HG:=jh (yaa (jr w none) (.cells #[.bool l,.string s,.slice A n c] 106));cases l with
 | false =>
  rw [show (if false = true /\ ych n least most = 0 then ja4 A n c else .slice none 0 0) = .slice none 0 0 from if_neg (by simp),show (if false = true then ych n least most else 2) = 2 from rfl];go_enter Tryz.func122,Tryz.ntmps122
  go_upto_region 1 with (fail)
  obtain ⟨b,hb⟩:∃ b,w.heap.size = b:=⟨_,rfl⟩;rw [hb] at hB ⊢;generalize w.alloc (.cells #[.bool false,.string s,.slice A n c] 106) = W1 at *;have c0:=hB.cell 0;simp only [jta,jcz,jcs] at c0;go_wp2_with fail
  go_ret2
  exact ⟨rfl,HG.out⟩
 | true =>
  have hw:=fun V=>ygf (n:Int) least most V;obtain ⟨E,hE⟩:∃ E,ych n least most = E:=⟨_,rfl⟩;rw [show (if true = true then ych n least most else 2) = ych n least most from rfl,hE];obtain ⟨m,hm⟩:∃ m,(if true = true /\ E = 0 then ja4 A n c else .slice none 0 0) = m:=⟨_,rfl⟩;rw [hm];unfold ych at hE;rw [hE] at hw;have HW:=jh hw;have HM:=jh hm;clear hw hm hE;go_enter Tryz.func122,Tryz.ntmps122
  go_upto_region 1 with (fail)
  obtain ⟨b,hb⟩:∃ b,w.heap.size = b:=⟨_,rfl⟩;rw [hb] at hB ⊢;generalize w.alloc (.cells #[.bool true,.string s,.slice A n c] 106) = W1 at *;have c0:=hB.cell 0;have c2:=hB.cell 2;simp only [jta,jcz,jcs] at c0 c2;go_wp2_with fail
  refine (HW.out _).mono ?_;rintro e w3 ⟨rfl,hw3⟩;rw [hw3];clear hw3;by_cases h0:E = 0
  ·subst h0;have hm:ja4 A n c = m:=HM.out;clear HM;go_wp2_with fail
   go_ret2
   exact ⟨by rw [<- hm];rfl,HG.out⟩
  ·have g1:(E != 0) = true:=by simpa using h0
   have hm:Hid (ja4 none 0 0 = m):=jh (by have:=HM.out;rwa [if_neg (fun h=>h0 h.2)] at this);clear HM;go_wp2_with fail
   go_ret2
   exact ⟨by rw [<- hm.out];rfl,HG.out⟩
theorem yk5 (l:Bool) (s:ByteArray) (sv:Value) (E:Int) (a0 a1 a2 a3:Nat) (hz:E ≠ 0 \/ l = true -> a0 = 0 /\ a1 = 0 /\ a2 = 0 /\ a3 = 0)
  (hU:l = false -> ∀ W,Calls jq 126 #[.string s] W fun e w'=>e = .returned (.tuple #[.agg #[.int .u64 (a0:Int),.int .u64 (a1:Int),.int .u64 (a2:Int),.int .u64 (a3:Int)],.int .i64 E]) /\ W.grownBy w' none) (w:World) :
  Calls jq 125 #[.agg #[.bool l,.string s,sv],.func (Fn.func 126) #[] #[]] w fun e w'=>e = .returned (.tuple #[.agg #[.int .u64 (a0:Int),.int .u64 (a1:Int),.int .u64 (a2:Int),.int .u64 (a3:Int)],.int .i64 (if l then 2 else E)]) /\ w.grownBy w' none:=by
 have hB:=((Blk.new w 106 #[.bool l,.string s,sv]).alloc (.cells wZ 38)).alloc (.cells wZ 38);have hR:=(Blk.new (w.alloc (.cells #[.bool l,.string s,sv] 106)) 38 wZ).alloc (.cells wZ 38);have hN:=Blk.new ((w.alloc (.cells #[.bool l,.string s,sv] 106)).alloc (.cells wZ 38)) 38 wZ;rw [jsa] at hR;rw [jsa,jsa] at hN;have hG:=yaa (yaa (yaa (jr w none) (.cells #[.bool l,.string s,sv] 106)) (.cells wZ 38)) (.cells wZ 38);have HZ:=jh hz;have HU:=jh hU;clear hz hU;go_enter Tryz.func125,Tryz.ntmps125
 go_upto_region 2 with (fail)
 obtain ⟨b,hb⟩:∃ b,w.heap.size = b:=⟨_,rfl⟩;have HWS:=jh hb;rw [hb] at hB hR hN ⊢;clear hb;generalize ((w.alloc (.cells #[.bool l,.string s,sv] 106)).alloc (.cells wZ 38)).alloc (.cells wZ 38) = W1 at *;have hle:w.heap.size <= b + 1:=by have:=HWS.out;omega
 have c0:=hB.cell 0;have c1:=hB.cell 1;have n0:=hN.cell 0;have n1:=hN.cell 1;have n2:=hN.cell 2;have n3:=hN.cell 3;have r0:=hR.cell 0;have r1:=hR.cell 1;have r2:=hR.cell 2;have r3:=hR.cell 3;have f0:=hR.frozen 0;have f1:=hR.frozen 1;have f2:=hR.frozen 2;have f3:=hR.frozen 3;simp only [jta,jcz,jcs] at c0 c1 n0 n1 n2 n3 r0 r1 r2 r3;cases l with
 | true =>
  obtain ⟨rfl,rfl,rfl,rfl⟩:=HZ.out (.inr rfl);have HB5:=jh (yfb hR (.int .u64 0) (.int .u64 0) (.int .u64 0) (.int .u64 0));have HG5:=jh (yen hG hle (.int .u64 0) (.int .u64 0) (.int .u64 0) (.int .u64 0));clear HZ HU hG hB hR hN hle;go_wp2_with fail
  refine jbr (ybH (fn:=Tryz.f125) rfl _ _ _ _ rfl (ybB HB5.out)) rfl ?_;exact ⟨rfl,HG5.out⟩
 | false =>
  have hU:=jh (HU.out rfl);have HG:=jh hG;have HB:=jh hB;have HR:=jh hR;have HN:=jh hN;clear HU hG hB hR hN;go_wp2_with fail
  refine (hU.out _).mono ?_;rintro e w3 ⟨rfl,hg3⟩;have hR:=(HR.out.grown hg3 (by simp)).alloc (.cells #[.int .u64 (a0:Int),.int .u64 (a1:Int),.int .u64 (a2:Int),.int .u64 (a3:Int)] 38);have hN:=(HN.out.grown hg3 (by simp)).alloc (.cells #[.int .u64 (a0:Int),.int .u64 (a1:Int),.int .u64 (a2:Int),.int .u64 (a3:Int)] 38);have hV:=Blk.new w3 38 #[.int .u64 (a0:Int),.int .u64 (a1:Int),.int .u64 (a2:Int),.int .u64 (a3:Int)];have hG:=yaa (yab HG.out hg3 (by simp)) (.cells #[.int .u64 (a0:Int),.int .u64 (a1:Int),.int .u64 (a2:Int),.int .u64 (a3:Int)] 38);clear hg3 HG HB HR HN hU c0 c1 n0 n1 n2 n3 r0 r1 r2 r3 f0 f1 f2 f3;go_upto_region 5 with (fail)
  obtain ⟨b3,hb3⟩:∃ b,w3.heap.size = b:=⟨_,rfl⟩;rw [hb3] at hV ⊢;clear hb3;generalize w3.alloc (.cells #[.int .u64 (a0:Int),.int .u64 (a1:Int),.int .u64 (a2:Int),.int .u64 (a3:Int)] 38) = W4 at *;have n0:=hN.cell 0;have n1:=hN.cell 1;have n2:=hN.cell 2;have n3:=hN.cell 3;have v0:=hV.cell 0;have v1:=hV.cell 1;have v2:=hV.cell 2;have v3:=hV.cell 3;have r0:=hR.cell 0;have r1:=hR.cell 1;have r2:=hR.cell 2;have r3:=hR.cell 3;have f0:=hR.frozen 0;have f1:=hR.frozen 1;have f2:=hR.frozen 2;have f3:=hR.frozen 3;simp only [jta,jcz,jcs] at n0 n1 n2 n3 v0 v1 v2 v3 r0 r1 r2 r3;by_cases h0:E = 0
  ·subst h0;have HB5:=jh (yfb hR (.int .u64 (a0:Int)) (.int .u64 (a1:Int)) (.int .u64 (a2:Int)) (.int .u64 (a3:Int)));have HG5:=jh (yen hG hle (.int .u64 (a0:Int)) (.int .u64 (a1:Int)) (.int .u64 (a2:Int)) (.int .u64 (a3:Int)));clear HZ hG hR hN hV hle;go_wp2_with fail
   refine jbr (ybH (fn:=Tryz.f125) rfl _ _ _ _ rfl (ybB HB5.out)) rfl ?_;exact ⟨rfl,HG5.out⟩
  ·obtain ⟨rfl,rfl,rfl,rfl⟩:=HZ.out (.inl h0);have g1:(E != 0) = true:=by simpa using h0
   have HB5:=jh (yfb hR (.int .u64 0) (.int .u64 0) (.int .u64 0) (.int .u64 0));have HG5:=jh (yen hG hle (.int .u64 0) (.int .u64 0) (.int .u64 0) (.int .u64 0));clear HZ hG hR hN hV hle;go_wp2_with fail
   refine jbr (ybH (fn:=Tryz.f125) rfl _ _ _ _ rfl (ybB HB5.out)) rfl ?_;exact ⟨rfl,HG5.out⟩
def ya1 (l:List UInt8) (a:Nat):Nat:=(l.getD a 0).toNat
def rawE (l:List UInt8) (a:Nat):Int:=if ya1 l a < 128 then 0 else if (ya1 l a - 128) % 64 < 56 then 0 else ybn l a ((ya1 l a - 128) % 64 - 55)
def ybb (l:List UInt8) (a:Nat):Nat:=if ya1 l a < 128 then a else if (ya1 l a - 128) % 64 < 56 then a + 1 else a + 1 + ((ya1 l a - 128) % 64 - 55)
def rawN (l:List UInt8) (a:Nat):Nat:=if ya1 l a < 128 then 1 else if (ya1 l a - 128) % 64 < 56 then (ya1 l a - 128) % 64 else lenB l a ((ya1 l a - 128) % 64 - 55)
def yaV (l:List UInt8) (i:Int):Int :=
 if i < 0 \/ (l.length:Int) < i then 1 else if i = l.length then 3 else if rawE l i.toNat ≠ 0 then rawE l i.toNat else
 if l.length < ybb l i.toNat + rawN l i.toNat then 3 else if ya1 l i.toNat = 129 /\ ya1 l (i.toNat + 1) < 128 then 8 else 0
def yag (l:List UInt8) (i:Int):Nat:=if yaV l i = 0 then ybb l i.toNat else 0
def ya5 (l:List UInt8) (i:Int):Nat:=if yaV l i = 0 then rawN l i.toNat else 0
def ybW (l:List UInt8) (i:Int):Bool:=if yaV l i = 0 then decide (192 <= ya1 l i.toNat) else false
theorem yeo {l:List UInt8} {i e:Int} (h:yaV l i = e) (h0:e ≠ 0):yag l i = 0 /\ ya5 l i = 0 /\ ybW l i = false:=by
 subst h;exact ⟨if_neg h0,if_neg h0,if_neg h0⟩
theorem yeX (l:List UInt8) (a:Nat):ya1 l a < 256:=by unfold ya1;exact (l.getD a 0).toNat_lt
theorem yem {a w:World} (h:a.grownBy w none) (row:Option Nat):a.grownBy w row:=⟨h.os,h.tape,h.output,h.size,fun i hi _=>h.block i hi (by simp)⟩
theorem ygq {l:List UInt8} {a:Nat} (ha:a < l.length) (h:rawE l a = 0):ybb l a <= l.length /\ a <= ybb l a /\ ybb l a <= a + 4 /\ a < ybb l a + rawN l a /\ rawN l a <= 16777215:=by
 unfold rawE at h;unfold ybb rawN;split at h
 ·rename_i h1;rw [if_pos h1,if_pos h1];omega
 ·rename_i h1
  rw [if_neg h1,if_neg h1];split at h
  ·rename_i h2;rw [if_pos h2,if_pos h2];have:=yeX l a;omega
  ·rename_i h2
   rw [if_neg h2,if_neg h2];unfold ybn at h;split at h
   ·cases h
   ·rename_i h3
    split at h
    ·cases h
    ·have:=yf0 l a ((ya1 l a - 128) % 64 - 55) (by omega);omega
theorem ybN {l:List UInt8} {a:Nat} (h:yaV l (a:Int) = 0):a < l.length /\ yag l (a:Int) + ya5 l (a:Int) <= l.length /\ a <= yag l (a:Int) /\ a < yag l (a:Int) + ya5 l (a:Int) /\ yag l (a:Int) <= a + 4 /\ ybW l (a:Int) = decide (192 <= ya1 l a):=by
 have h1:yag l (a:Int) = ybb l a:=by unfold yag;rw [if_pos h,jnc]
 have h2:ya5 l (a:Int) = rawN l a:=by unfold ya5;rw [if_pos h,jnc]
 have h3:ybW l (a:Int) = decide (192 <= ya1 l a):=by unfold ybW;rw [if_pos h,jnc]
 rw [h1,h2,h3];unfold yaV at h;split at h
 ·cases h
 rename_i g1
 split at h
 ·cases h
 rename_i g2
 rw [jnc] at h;split at h
 ·rename_i g3;exact absurd h g3
 rename_i g3
 split at h
 ·cases h
 have:=ygq (l:=l) (a:=a) (by omega) (by omega);exact ⟨by omega,by omega,by omega,by omega,by omega,rfl⟩
theorem ybK {w:World} {g:Nat} {t:TypeId} {a b c:Value} (h:Blk w g t #[a,b,c]) (x y z:Value):Blk (((w.setCell ⟨g,0,none⟩ x).setCell ⟨g,1,none⟩ y).setCell ⟨g,2,none⟩ z) g t #[x,y,z]:=by
 have:=((h.set_ 0 x).set_ 1 y).set_ 2 z;simpa using this
theorem yb0 {a w:World} {row:Option Nat} (h:a.grownBy w row) {g:Nat} (hg:a.heap.size <= g) (x y z:Value):a.grownBy (((w.setCell ⟨g,0,none⟩ x).setCell ⟨g,1,none⟩ y).setCell ⟨g,2,none⟩ z) row :=
 yap (yap (yap h (p:=⟨g,0,none⟩) hg x) (p:=⟨g,1,none⟩) hg y) (p:=⟨g,2,none⟩) hg z
theorem yeU (s:ByteArray) (i:Int) (hs:s.size <= 9223372036854770000) (w:World) :
  Calls jq 153 #[.string s,.int .i64 i] w fun e w'=>e = .returned (.tuple #[.agg #[.int .i64 (yag s.data.toList i:Nat),.int .i64 (ya5 s.data.toList i:Nat),.bool (ybW s.data.toList i)],.int .i64 (yaV s.data.toList i)]) /\ w.grownBy w' none:=by
 obtain ⟨l,hl⟩:∃ l,s.data.toList = l:=⟨_,rfl⟩;have hlz:l.length = s.size:=by rw [<- hl,yar]
 have hlen:=fun a m h1 h2 h3 W=>ykA s a m h1 (by omega) h2 h3 W;rw [hl] at hlen ⊢;have HS:=jh hl;have HZ:=jh hlz;clear hl;have hw0:=Blk.new w 188 #[.int .i64 0,.int .i64 0,.bool false];have hG0:w.grownBy (w.alloc (.cells #[.int .i64 0,.int .i64 0,.bool false] 188)) none:=yaa (jr _ _) _;by_cases h1:i < 0 \/ (s.size:Int) < i
 ·have hE:yaV l i = 1:=by unfold yaV;rw [if_pos (by rw [hlz];exact h1)]
  obtain ⟨b1,b2,b3⟩:=yeo hE (by decide);rw [hE,b1,b2,b3];clear hE b1 b2 b3 hlz hlen;by_cases h2:i < 0
  ·clear h1;go_enter Tryz.func153,Tryz.ntmps153
   go_wp2_with fail
   refine jbr (ya3 (fn:=Tryz.f153) rfl _ _ _ _ rfl (ybl hw0)) rfl ?_;exact ⟨by simp,hG0⟩
  ·have d1:decide (i < 0) = false:=decide_eq_false h2;have h3:(s.size:Int) < i:=by omega
   clear h1 h2;go_enter Tryz.func153,Tryz.ntmps153
   go_wp2_with fail
   refine jbr (ya3 (fn:=Tryz.f153) rfl _ _ _ _ rfl (ybl hw0)) rfl ?_;exact ⟨by simp,hG0⟩
 obtain ⟨a,rfl⟩:=jez (show 0 <= i by omega);have ha:a <= s.size:=by omega
 have d1:decide ((a:Int) < 0) = false:=decide_eq_false (by omega);have d1':decide ((s.size:Int) < (a:Int)) = false:=decide_eq_false (by omega);have d1'':decide (s.size < a) = false:=decide_eq_false (by omega);by_cases h2:a = s.size
 ·have hE:yaV l (a:Int) = 3:=by unfold yaV;rw [if_neg (by rw [hlz];exact h1),if_pos (by omega)]
  obtain ⟨b1,b2,b3⟩:=yeo hE (by decide);rw [hE,b1,b2,b3];clear hE b1 b2 b3 hlz hlen h1;subst h2;go_enter Tryz.func153,Tryz.ntmps153
  go_wp2_with fail
  refine jbr (ya3 (fn:=Tryz.f153) rfl _ _ _ _ rfl (ybl hw0)) rfl ?_;exact ⟨by simp,hG0⟩
 have hal:a < l.length:=by omega
 have d2:((a:Int) == (s.size:Int)) = false:=by simp;omega
 have d2':(a == s.size) = false:=by simp;omega
 have hE0:yaV l (a:Int) = if rawE l a ≠ 0 then rawE l a else if l.length < ybb l a + rawN l a then 3 else if ya1 l a = 129 /\ ya1 l (a + 1) < 128 then 8 else 0:=by
  unfold yaV;rw [if_neg (by rw [hlz];exact h1),if_neg (by omega),jnc]
 have hid:=fun W=>ydb s a (l.getD a 0) (by rw [HS.out];exact ydB 0 hal) W;have hcl:=yeX l a;have hrle:=ygq hal
 have hfr:yaV l (a:Int) = 0 -> yag l (a:Int) = ybb l a /\ ya5 l (a:Int) = rawN l a /\ ybW l (a:Int) = decide (192 <= ya1 l a):=fun h=>by
  unfold yag ya5 ybW;rw [if_pos h,if_pos h,if_pos h,jnc];exact ⟨rfl,rfl,rfl⟩
 have hcE:rawE l a = if ya1 l a < 128 then 0 else if (ya1 l a - 128) % 64 < 56 then 0 else ybn l a ((ya1 l a - 128) % 64 - 55):=rfl
 have hcF:ybb l a = if ya1 l a < 128 then a else if (ya1 l a - 128) % 64 < 56 then a + 1 else a + 1 + ((ya1 l a - 128) % 64 - 55):=rfl
 have hcN:rawN l a = if ya1 l a < 128 then 1 else if (ya1 l a - 128) % 64 < 56 then (ya1 l a - 128) % 64 else lenB l a ((ya1 l a - 128) % 64 - 55):=rfl
 change ∀ W,(Instr.index 9 (.string s) (.int .i64 (a:Int))).run jq W = .ok (.int .u8 ((ya1 l a:Nat):Int)) W at hid;obtain ⟨c,hc⟩:∃ c,ya1 l a = c:=⟨_,rfl⟩;rw [hc] at hid hcl hfr hcE hcF hcN hE0;obtain ⟨E,hE⟩:∃ e,yaV l (a:Int) = e:=⟨_,rfl⟩;obtain ⟨F,hF⟩:∃ e,yag l (a:Int) = e:=⟨_,rfl⟩;obtain ⟨N,hN⟩:∃ e,ya5 l (a:Int) = e:=⟨_,rfl⟩;obtain ⟨L,hL⟩:∃ e,ybW l (a:Int) = e:=⟨_,rfl⟩;have hbad:=fun e (h:yaV l (a:Int) = e) h0=>yeo h h0;rw [hF,hN,hL] at hbad hfr;rw [hE] at hE0 hfr hbad;rw [hE,hF,hN,hL];clear hF hN hL hE hc;have HBAD:=jh hbad;have HFR:=jh hfr;have HE0:=jh hE0;have HR:=jh hrle;clear hbad hfr hE0 hrle h1 h2;by_cases h3:c < 128
 ·rw [if_pos h3] at hcE hcF hcN;have hE:E = 0:=by rw [HE0.out,hcE,hcF,hcN,if_neg (by simp),if_neg (by omega),if_neg (by omega)]
  obtain ⟨rfl,rfl,rfl⟩:=HFR.out hE;rw [hcF,hcN,decide_eq_false (by omega)];subst hE;have d3:decide ((c:Int) < 128) = true:=decide_eq_true (by omega);have d3':decide (c < 128) = true:=decide_eq_true h3;clear hcE hcF hcN hlen hlz h3;go_enter Tryz.func153,Tryz.ntmps153
  go_wp2_with fail
  refine jbr (ya3 (fn:=Tryz.f153) rfl _ _ _ _ rfl (ybl (Blk.new w _ _))) rfl ?_;exact ⟨by simp,yaa (jr _ _) _⟩
 rw [if_neg h3] at hcE hcF hcN;have d3:decide ((c:Int) < 128) = false:=decide_eq_false (by omega);have d3':decide (c < 128) = false:=decide_eq_false h3;obtain ⟨b,hb⟩:∃ b,(c - 128) % 64 = b:=⟨_,rfl⟩;have hb64:b < 64:=by omega
 have v0:IntKind.i64.wrap (c:Int) = (c:Int):=jii _ (by omega);have v1:IntKind.i64.wrap ((c:Int) - 128) = (c:Int) - 128:=jii _ (by omega);have v2:((c:Int) - 128).tmod 64 = (b:Int):=by rw [je3 (by omega)];omega
 have v3:((c:Int) - 128) % 64 = (b:Int):=by omega
 have v4:IntKind.i64.wrap (b:Int) = (b:Int):=jii _ (by omega);have v5:IntKind.i64.wrap ((a:Int) + 1) = (a:Int) + 1:=jii _ (by omega);rw [hb] at hcE hcF hcN;by_cases h4:b < 56
 ·rw [if_pos h4] at hcE hcF hcN;have d4:decide ((56:Int) <= (b:Int)) = false:=decide_eq_false (by omega);have d4':decide (56 <= b) = false:=decide_eq_false (by omega);have v6:IntKind.i64.wrap ((s.size:Int) - ((a:Int) + 1)) = (s.size:Int) - ((a:Int) + 1):=jii _ (by omega);by_cases h5:l.length < a + 1 + b
  ·have hE:E = 3:=by rw [HE0.out,hcE,hcF,hcN,if_neg (by simp),if_pos h5]
   obtain ⟨rfl,rfl,rfl⟩:=HBAD.out _ rfl (by rw [hE];decide);subst hE;have d5:decide ((s.size:Int) - ((a:Int) + 1) < (b:Int)) = true:=decide_eq_true (by omega);have d5':(s.size:Int) - ((a:Int) + 1) < (b:Int):=by omega
   clear hcE hcF hcN hlen hlz h3 h4 h5;go_enter Tryz.func153,Tryz.ntmps153
   go_wp2_with fail
   refine jbr (ya3 (fn:=Tryz.f153) rfl _ _ _ _ rfl (ybl (hw0.alloc _))) rfl ?_;exact ⟨by simp,yaa hG0 _⟩
  ·have d5:decide ((s.size:Int) - ((a:Int) + 1) < (b:Int)) = false:=decide_eq_false (by omega);have d5':¬ ((s.size:Int) - ((a:Int) + 1) < (b:Int)):=by omega
   have hE1:E = if c = 129 /\ ya1 l (a + 1) < 128 then 8 else 0:=by rw [HE0.out,hcE,hcF,hcN,if_neg (by simp),if_neg h5]
   by_cases h6:c = 129
   ·have hl1:a + 1 < l.length:=by omega
    have hid1:∀ W,(Instr.index 9 (.string s) (.int .i64 ((a:Int) + 1))).run jq W = .ok (.int .u8 ((ya1 l (a + 1):Nat):Int)) W:=fun W=>by
     have:=ydb s (a + 1) (l.getD (a + 1) 0) (by rw [HS.out];exact ydB 0 hl1) W;exact this
    generalize ya1 l (a + 1) = c1 at *;obtain rfl:b = 1:=by omega
    by_cases h7:c1 < 128
    ·have hE:E = 8:=by rw [hE1,if_pos ⟨h6,h7⟩]
     obtain ⟨rfl,rfl,rfl⟩:=HBAD.out _ rfl (by rw [hE];decide);subst hE;subst h6;have d7:decide ((c1:Int) < 128) = true:=decide_eq_true (by omega);have d7':decide (c1 < 128) = true:=decide_eq_true h7;clear hcE hcF hcN hlen hlz h3 h4 h5 hE1 h7 hb;go_enter Tryz.func153,Tryz.ntmps153
     go_wp2_with fail
     refine jbr (ya3 (fn:=Tryz.f153) rfl _ _ _ _ rfl (ybl (hw0.alloc _))) rfl ?_;exact ⟨by simp,yaa hG0 _⟩
    ·have hE:E = 0:=by rw [hE1,if_neg (by omega)]
     obtain ⟨rfl,rfl,rfl⟩:=HFR.out hE;rw [hcF,hcN,decide_eq_false (by omega)];subst hE;subst h6;have d7:decide ((c1:Int) < 128) = false:=decide_eq_false (by omega);have d7':decide (c1 < 128) = false:=decide_eq_false h7;clear hcE hcF hcN hlen hlz h3 h4 h5 hE1 h7 hb;go_enter Tryz.func153,Tryz.ntmps153
     go_wp2_with fail
     refine jbr (ya3 (fn:=Tryz.f153) rfl _ _ _ _ rfl (ybl ((Blk.new w _ _).alloc _))) rfl ?_;exact ⟨by simp,yaa (yaa (jr _ _) _) _⟩
   ·have hE:E = 0:=by rw [hE1,if_neg (by omega)]
    obtain ⟨rfl,rfl,rfl⟩:=HFR.out hE;rw [hcF,hcN];subst hE;have d6:((c:Int) == 129) = false:=by simp;omega
    have d6':(c == 129) = false:=by simpa using h6
    obtain ⟨L0,hL0⟩:∃ x,decide (192 <= c) = x:=⟨_,rfl⟩;have d8:decide ((192:Int) <= (c:Int)) = L0:=by rw [<- hL0];apply decide_eq_decide.2;omega
    rw [hL0];clear hcE hcF hcN hlen hlz h3 h4 h5 hE1 h6 hb;go_enter Tryz.func153,Tryz.ntmps153
    go_wp2_with fail
    refine jbr (ya3 (fn:=Tryz.f153) rfl _ _ _ _ rfl (ybl ((Blk.new w _ _).alloc _))) rfl ?_;exact ⟨by simp,yaa (yaa (jr _ _) _) _⟩
 ·rw [if_neg h4] at hcE hcF hcN;have d4:decide ((56:Int) <= (b:Int)) = true:=decide_eq_true (by omega);have d4':decide (56 <= b) = true:=decide_eq_true (by omega);obtain ⟨m,hm⟩:∃ m,b - 55 = m:=⟨_,rfl⟩;have v7:IntKind.i64.wrap ((b:Int) - 56) = (b:Int) - 56:=jii _ (by omega);have v8:IntKind.i64.wrap ((b:Int) - 56 + 1) = (m:Int):=by rw [jii _ (by omega)];omega
  have v9:(b:Int) - 56 + 1 = (m:Int):=by omega
  have v10:IntKind.i64.wrap (m:Int) = (m:Int):=jii _ (by omega);have d6:((c:Int) == 129) = false:=by simp;omega
  have d6':(c == 129) = false:=by simp;omega
  have h6:¬ c = 129:=by omega
  rw [hm] at hcE hcF hcN;have hl:=hlen a m (by omega) (by omega) (by omega);have hlb:=yf0 l a m
  have hlE:ybn l a m = 0 -> m <= 3 /\ a + 1 + m <= l.length:=fun h=>by
   unfold ybn at h;split at h
   ·cases h
   ·split at h
    ·cases h
    ·omega
  generalize ybn l a m = e0 at *;generalize lenB l a m = V at *;have HLB:=jh hlb;have HLE:=jh hlE;clear hlen hlb hlE;have hx0:=hw0.alloc (.cells #[.int .i64 ((a:Int) + 1),.int .i64 (b:Int),.bool false] 188);have hx1:=Blk.new (w.alloc (.cells #[.int .i64 0,.int .i64 0,.bool false] 188)) 188 #[.int .i64 ((a:Int) + 1),.int .i64 (b:Int),.bool false];rw [jsa] at hx1;have hG1:w.grownBy ((w.alloc (.cells #[.int .i64 0,.int .i64 0,.bool false] 188)).alloc (.cells #[.int .i64 ((a:Int) + 1),.int .i64 (b:Int),.bool false] 188)) none:=yaa hG0 _;clear h3 h4 hb hm;go_enter Tryz.func153,Tryz.ntmps153
  go_wp2_with fail
  refine (hl _).mono ?_;rintro e w2 ⟨rfl,hg⟩;have y0:=hx0.grown hg (by simp);have y1:=hx1.grown hg (by simp);have hG2:=yem (yab hG1 hg (by simp)) none;clear hl hx0 hx1 hG0 hG1 hg hw0;have k0:=y0.cell 0;have k1:=y0.cell 1;have k2:=y0.cell 2;have j0:=y1.cell 0;have j1:=y1.cell 1;have j2:=y1.cell 2;have f0:=y0.frozen 0;have f1:=y0.frozen 1;have f2:=y0.frozen 2;have g0:=y1.frozen 0;have g1:=y1.frozen 1;have g2:=y1.frozen 2;simp only [jta,jcz,jcs] at k0 k1 k2 j0 j1 j2;by_cases h7:e0 = 0
  ·subst h7;simp only [if_true];obtain ⟨hm3,hml⟩:=HLE.out rfl;have hV:=HLB.out hm3;have w2':IntKind.i64.wrap ((s.size:Int) - ((a:Int) + 1 + (m:Int))) = (s.size:Int) - ((a:Int) + 1 + (m:Int)):=jii _ (by omega);by_cases h8:l.length < a + 1 + m + V
   ·have hE:E = 3:=by rw [HE0.out,hcE,hcF,hcN,if_neg (by simp),if_pos h8]
    obtain ⟨rfl,rfl,rfl⟩:=HBAD.out _ rfl (by rw [hE];decide);subst hE;have d5':(s.size:Int) - ((a:Int) + 1 + (m:Int)) < (V:Int):=by omega
    clear hcE hcF hcN hlz h6 h8;have y2:=ybK y1 (.int .i64 ((a:Int) + 1 + (m:Int))) (.int .i64 (V:Int)) (.bool false);have hG3:=yb0 hG2 (g:=w.heap.size + 1) (by omega) (.int .i64 ((a:Int) + 1 + (m:Int))) (.int .i64 (V:Int)) (.bool false);have y3:Blk (((w2.setCell ⟨w.heap.size + 1,0,none⟩ (.int .i64 ((a:Int) + 1 + (m:Int)))).setCell ⟨w.heap.size + 1,1,none⟩ (.int .i64 (V:Int))).setCell ⟨w.heap.size + 1,2,none⟩ (.bool false)) w.heap.size 188 #[.int .i64 0,.int .i64 0,.bool false]:=((y0.far (p:=⟨w.heap.size + 1,0,none⟩) (by simp) _).far (p:=⟨w.heap.size + 1,1,none⟩) (by simp) _).far (p:=⟨w.heap.size + 1,2,none⟩) (by simp) _;go_wp2_with fail
    refine jbr (ya3 (fn:=Tryz.f153) rfl _ _ _ _ rfl (ybl (ybK y3 _ _ _))) rfl ?_;exact ⟨by simp,yb0 hG3 (jle _) _ _ _⟩
   ·have hE:E = 0:=by rw [HE0.out,hcE,hcF,hcN,if_neg (by simp),if_neg h8,if_neg (by omega)]
    obtain ⟨hF1,hF2,hF3⟩:=HFR.out hE;rw [hcF] at hF1;rw [hcN] at hF2;subst hF1;subst hF2;subst hE;have d5':¬ ((s.size:Int) - ((a:Int) + 1 + (m:Int)) < (N:Int)):=by omega
    have d5:decide ((s.size:Int) - ((a:Int) + 1 + (m:Int)) < (N:Int)) = false:=decide_eq_false d5';obtain ⟨L0,hL0⟩:∃ x,decide (192 <= c) = x:=⟨_,rfl⟩;have d8:decide ((192:Int) <= (c:Int)) = L0:=by rw [<- hL0];apply decide_eq_decide.2;omega
    rw [hL0] at hF3;subst hF3;clear hcE hcF hcN hlz h6 h8;have y2:=(ybK y1 (.int .i64 ((a:Int) + 1 + (m:Int))) (.int .i64 (N:Int)) (.bool false)).set_ 2 (.bool L);have hG3:=yap (yb0 hG2 (g:=w.heap.size + 1) (by omega) (.int .i64 ((a:Int) + 1 + (m:Int))) (.int .i64 (N:Int)) (.bool false)) (p:=⟨w.heap.size + 1,2,none⟩) (by simp) (.bool L);have y3:=(((y0.far (p:=⟨w.heap.size + 1,0,none⟩) (by simp) (.int .i64 ((a:Int) + 1 + (m:Int)))).far (p:=⟨w.heap.size + 1,1,none⟩) (by simp) (.int .i64 (N:Int))).far (p:=⟨w.heap.size + 1,2,none⟩) (by simp) (.bool false)).far (p:=⟨w.heap.size + 1,2,none⟩) (by simp) (.bool L);have hld:=ybl y2;have i0:=y2.cell 0;have i1:=y2.cell 1;have i2:=y2.cell 2;have h0:=y3.cell 0;have h1:=y3.cell 1;have h2:=y3.cell 2;have q0:=y3.frozen 0;have q1:=y3.frozen 1;have q2:=y3.frozen 2;simp only [jb2,je0,List.set_cons_succ,jta,jcz,jcs] at i0 i1 i2 h0 h1 h2 hld;go_wp2_with fail
    refine jbr (ya3 (fn:=Tryz.f153) rfl _ _ _ _ rfl (ybl (ybK y3 _ _ _))) rfl ?_;exact ⟨by simp,yb0 hG3 (jle _) _ _ _⟩
  ·have hE:E = e0:=by rw [HE0.out,hcE,if_pos h7]
   obtain ⟨rfl,rfl,rfl⟩:=HBAD.out _ rfl (by rw [hE];exact h7);subst hE;have d9:(E != 0) = true:=by simpa using h7
   have h7':=jh h7;clear hcE hcF hcN hlz h6;simp only [if_neg h7];clear h7;have y3:=((y0.far (p:=⟨w.heap.size + 1,0,none⟩) (by simp) (.int .i64 0)).far (p:=⟨w.heap.size + 1,1,none⟩) (by simp) (.int .i64 0)).far (p:=⟨w.heap.size + 1,2,none⟩) (by simp) (.bool false);have hG3:=yb0 hG2 (g:=w.heap.size + 1) (by omega) (.int .i64 0) (.int .i64 0) (.bool false);go_wp2_with fail
   refine jbr (ya3 (fn:=Tryz.f153) rfl _ _ _ _ rfl (ybl (ybK y3 _ _ _))) rfl ?_;exact ⟨by simp,yb0 hG3 (jle _) _ _ _⟩

theorem yn0 (s:ByteArray) (i:Int) (hs:s.size <= 9223372036854770000) (w:World) (hFN:yag s.data.toList i + ya5 s.data.toList i <= 9223372036854770000) :
  Calls jq 123 #[.string s,.int .i64 i] w fun e w'=>e = .returned (.tuple #[.int .i64 ((yag s.data.toList i + ya5 s.data.toList i:Nat):Int),.int .i64 (yaV s.data.toList i)]) /\ w.grownBy w' none:=by
 have hk:=fun W=>yeU s i hs W;generalize yag s.data.toList i = F at *;generalize ya5 s.data.toList i = N at *;generalize ybW s.data.toList i = L at *;generalize yaV s.data.toList i = E at *;have v:IntKind.i64.wrap ((F:Int) + (N:Int)) = (F:Int) + (N:Int):=jii _ (by omega);go_enter Tryz.func123,Tryz.ntmps123
 go_wp2_with fail
 refine (hk w).mono ?_;rintro e w2 ⟨rfl,hg⟩;have hG:=yaa hg (.cells #[.int .i64 (F:Int),.int .i64 (N:Int),.bool L] 188);go_wp2_with fail
 go_ret2
 exact ⟨by simp,hG⟩
section
variable {F:Fence} {n:Nat} {P:Program} {α:Type}
end
attribute [local go_sem] Oper.semAt_some
structure yhv (pf pe pr rf:Nat) (caps:Array Value) (en p:Int) (W:World):Prop where
 from_:Boxed W pf 3 (.int .i64 p)
 end_:Boxed W pe 3 (.int .i64 en)
 read_:Boxed W pr 92 (.func (.func rf) #[] caps)
theorem ylK (n:Nat) (hn:1 <= n) (l pf pe pr rf:Nat) (caps:Array Value) (en p0:Int) (M:Nat) (hM:M <= 1000000) (J J2:Nat -> Int -> World -> Prop) (Jx:World -> Prop)
  (hJ:∀ i p W,J i p W -> yhv pf pe pr rf caps en p W /\ i <= M) (hJ2:∀ i p W,J2 i p W -> yhv pf pe pr rf caps en p W /\ i < M)
  (hent:∀ args W,(callFunc rf args).run jq W = .ok (.enter rf args) W)
  (hY:∀ i p W,J i p W -> p < en -> YieldAt Fence.wide (n - 1) jq l #[.int .i64 (i:Int),.int .i64 p] W fun e W'=>(e = .returned (.bool true) /\ J2 i p W') \/ (e = .returned (.bool false) /\ Jx W'))
  (hR:∀ i p W,J2 i p W -> CallsIn Fence.wide (n - 1) jq rf (#[.int .i64 p] ++ caps) W fun e W'=>∃ p',e = .returned (.int .i64 p') /\ Boxed W' pf 3 (.int .i64 p) /\ J (i + 1) p' (W'.setCell ⟨pf,0,none⟩ (.int .i64 p')))
  (W:World) (h0:J 0 p0 W) :
  CallsIn Fence.wide n jq 201 #[.func (.yield l) #[] #[],.pointer (some ⟨pf,0,none⟩),.pointer (some ⟨pe,0,none⟩),.pointer (some ⟨pr,0,none⟩)] W fun e W'=>(∃ v,e = .returned v) /\
   ((∃ i p,¬ p < en /\ J i p W') \/ Jx W'):=by
 refine callsIn_of_wp Tryz.func201 rfl trivial ?_ rfl;simp only [Tryz.ntmps201,jd9,jlc,List.length_nil,Nat.reduceAdd,Nat.reduceSub,Array.replicate_succ,Array.replicate_zero,List.push_toArray,List.append_toArray,List.nil_append,List.cons_append];gi_wp2
 gi_loopw [5] (fun i wr=>∃ (k:Nat) (p:Int),i = .int .i64 (k:Int) /\ J k p wr) (fun i _=>M + 1 - (intOf i).toNat)
 case atStart=>exact ⟨0,p0,rfl,h0⟩
 case round =>
  obtain ⟨k,p,rfl,hJk⟩:=hrel;obtain ⟨⟨b1,b2,b3⟩,hkM⟩:=hJ k p wr hJk;have c1:=b1.cell;have c2:=b2.cell;have c3:=b3.cell;by_cases hlt:p < en
  ·obtain ⟨fn,tmps,assign,body,hy,hRr⟩:=hY k p wr hJk hlt;clear b1 b2 b3;gi_wp2
   refine hRr.mono ?_;rintro e' W3 (⟨rfl,hJ3⟩ | ⟨rfl,hJx3⟩)
   ·obtain ⟨⟨b1,b2,b3⟩,hkM3⟩:=hJ2 k p W3 hJ3;have hread:=hR k p W3 hJ3;clear c1 c2 c3 hy hRr;have c1:=b1.cell;have c3:=b3.cell;gi_wp2
    refine ⟨trivial,hread.mono ?_⟩;rintro e w4 ⟨p',rfl,bx,hJ4⟩;clear c1 c3 b1 b2 b3 hread;have c1:=bx.cell;have f1:=bx.frozen;gi_wp2
    exact ⟨⟨k + 1,p',by simp,hJ4⟩,by simp [intOf];omega⟩
   ·clear hy hRr c1 c2 c3;gi_wp2
    refine jbr (results_none rfl _ _ _) rfl ?_;exact ⟨⟨_,rfl⟩,.inr hJx3⟩
  ·have d1:decide (p < en) = false:=decide_eq_false hlt;have hl:=jh hlt;clear hlt b1 b2 b3;gi_wp2
   go_end0
   exact ⟨⟨_,rfl⟩,.inl ⟨k,p,hl.out,hJk⟩⟩
def ypP (B:Nat) (I2:World -> Prop) (Ix:Code -> World -> Prop) (W:World):Exit -> Act -> World -> Prop
 | .normal,_,W'=>KeepsFrom B W W' /\ I2 W'
 | .ret,_,W'=>KeepsFrom B W W' /\ Ix .ret W'
 | .exit id,_,W'=>KeepsFrom B W W' /\ Ix (.exit id) W'
 | .goto t,_,W'=>KeepsFrom B W W' /\ Ix (.goto t) W'
 | .panic _,_,_=>False
 | .outgrown,_,_=>False
theorem yhO {n:Nat} {g:Operand} {ps:Array Tmp} {assign body:Code} {Q:Exit -> Act -> World -> Prop} {a:Act} {w:World} (pf pe pr rf:Nat) (caps:Array Value) (en p0:Int) (M:Nat) (hM:M <= 1000000)
  (h1:2 <= n) (hg:a.eval g = .func (.func 201) #[] #[.pointer (some ⟨pf,0,none⟩),.pointer (some ⟨pe,0,none⟩),.pointer (some ⟨pr,0,none⟩)])
  (eg:∀ args w,(callFunc 201 args).run jq w = .ok (.enter 201 args) w) (hent:∀ args W,(callFunc rf args).run jq W = .ok (.enter rf args) W) (hps:ps.size = 2)
  (I I2:Nat -> Int -> World -> Prop) (Ix:Code -> World -> Prop) (hpf:pf < w.heap.size)
  (hI:OwnFrom w.heap.size (fun (s:Nat × Int)=>I s.1 s.2)) (hI2:OwnFrom w.heap.size (fun (s:Nat × Int)=>I2 s.1 s.2)) (hIx:∀ c,OwnFrom w.heap.size (fun (_:Unit)=>Ix c))
  (hbI:∀ i p W,I i p W -> yhv pf pe pr rf caps en p W /\ i <= M) (hbI2:∀ i p W,I2 i p W -> yhv pf pe pr rf caps en p W /\ i < M) (h0:I 0 p0 w) (Ax:Nat -> Int -> Act -> Prop)
  (hassign:∀ (l i:Nat) (p:Int) (W:World) (K:Act -> World -> Prop),I i p W -> (∀ a',Ax i p a' -> K a' W) -> assign.wpIn (Fence.wide.inRound l) (n - 1 - 1) jq (Exit.then K (fun _ _ _=>False)) { tmps:=(ps.zip #[.int .i64 (i:Int),.int .i64 p]).foldl (fun t (p,v)=>t.setIfInBounds p v) a.tmps,defers:=[] } W)
  (hbody:∀ (l i:Nat) (p:Int) (a':Act) (W:World),I i p W -> p < en -> Ax i p a' -> body.wpIn (Fence.wide.inRound l) (n - 1 - 1) jq (ypP w.heap.size (I2 i p) Ix W) a' W)
  (hread:∀ i p W,I2 i p W -> CallsIn Fence.wide (n - 1 - 1) jq rf (#[.int .i64 p] ++ caps) W fun e W'=>∃ p',e = .returned (.int .i64 p') /\ Boxed W' pf 3 (.int .i64 p) /\ KeepsFrom w.heap.size W W' /\ I (i + 1) p' (W'.setCell ⟨pf,0,none⟩ (.int .i64 p')))
  (hdone:∀ (E i:Nat) (p:Int) (W:World),w.heap.size <= E -> ¬ p < en -> I i p W -> W.heap[E]? = some (.deferred (some [])) -> Q .normal { a with defers:={ target:=.collected E,args:=#[] } :: a.defers } W)
  (hstop:∀ (E:Nat) (c:Code) (W:World),w.heap.size <= E -> Ix c W -> W.heap[E]? = some (.deferred (some [])) -> c.wpIn Fence.wide n jq Q { a with defers:={ target:=.collected E,args:=#[] } :: a.defers } W) :
  (Code.rangeFunc g ps assign body).wpIn Fence.wide n jq Q a w:=by
 refine wpIn_rangeFunc fun fn hfn=>?_;rw [show Fence.wide.round = none from rfl];generalize hd:w.heap.size = d at *;obtain ⟨R,hR⟩:∃ R:LoopState -> Option Code -> Loop,R = fun st pe=>{ state:=st,pending:=pe,fn,tmps:=a.tmps,params:=ps,assign,body,defers:=d }:=⟨_,rfl⟩;obtain ⟨V,hV⟩:∃ V,(w.alloc (.deferred (some []))).alloc (.loop (R .ready none)) = V:=⟨_,rfl⟩
 have vL:V.heap[d + 1]? = some (.loop (R .ready none)):=by
  have:=World.alloc_heap_new (w.alloc (.deferred (some []))) (.loop (R .ready none));rw [jsa,hd] at this;rw [<- hV];exact this
 have vD:V.heap[d]? = some (.deferred (some [])):=by
  have:=World.alloc_heap_new w (.deferred (some []));rw [hd] at this;rw [<- hV];exact (Below.heap_alloc _ _ _ (by simp [hd])).trans this
 have vI:I 0 p0 V:=by
  have e1:=hI.alloc (s:=(0,p0)) (.deferred (some [])) h0;have e2:=hI.alloc (s:=(0,p0)) (.loop (R .ready none)) e1;rw [<- hV];exact e2
 refine ⟨d + 1,[{ target:=.collected d,args:=#[] }],V,{ target:=.fn (.func 201) #[.pointer (some ⟨pf,0,none⟩),.pointer (some ⟨pe,0,none⟩),.pointer (some ⟨pr,0,none⟩)],args:=#[.func (.yield (d + 1)) #[] #[]] },V,201,#[.func (.yield (d + 1)) #[] #[]] ++ #[.pointer (some ⟨pf,0,none⟩),.pointer (some ⟨pe,0,none⟩),.pointer (some ⟨pr,0,none⟩)],V,?_,?_,?_,?_,fun _=>by omega,?_⟩
 ·rw [<- hV,hR,<- hd];exact run_enterLoop_outer _ _ _ _ _
 ·simp only [resolve,hg];simp [go_sem]
 ·intro f' hf';simp [Target.leads] at hf';subst hf';trivial
 ·simp [invoke,go_sem,eg]
 have hs:=ylK (n - 1) (by omega) (d + 1) pf pe pr rf caps en p0 M hM
  (fun i p W=>I i p W /\ W.heap[d + 1]? = some (.loop (R .ready none)) /\ W.heap[d]? = some (.deferred (some [])))
  (fun i p W=>I2 i p W /\ W.heap[d + 1]? = some (.loop (R .ready none)) /\ W.heap[d]? = some (.deferred (some [])))
  (fun W=>∃ c,Ix c W /\ W.heap[d + 1]? = some (.loop (R .done (some c))) /\ W.heap[d]? = some (.deferred (some [])))
  (fun i p W h=>hbI i p W h.1) (fun i p W h=>hbI2 i p W h.1) hent ?_ ?_ V ⟨vI,vL,vD⟩
 ·refine hs.mono ?_;rintro e Y ⟨⟨v,rfl⟩,(⟨i,p,hlt,y1,y2,y3⟩ | ⟨c,y1,y2,y3⟩)⟩
  ·have e:=run_endLoop (P:=jq) y2 (by rw [hR];simp);rw [hR] at e;exact ⟨none,_,e,hdone d i p _ (by omega) hlt (hI.putObj (s:=(i,p)) _ y1 (by omega) y2 rfl) ((World.putObj_heap_other (by omega)).trans y3)⟩
  ·have e:=run_endLoop (P:=jq) y2 (by rw [hR];simp);rw [hR] at e;exact ⟨some c,_,e,hstop d c _ (by omega) ((hIx c).putObj (s:=()) _ y1 (by omega) y2 rfl) ((World.putObj_heap_other (by omega)).trans y3)⟩
 ·rintro i p W0 ⟨hi0,hl0,hk0⟩ hlt;have hy:=run_yield (P:=jq) (args:=#[.int .i64 (i:Int),.int .i64 p]) hl0 (by rw [hR];exact hps.symm);rw [hR] at hy;refine ⟨fn,_,assign,body,hy,roundIn_of_wpIn hfn (hassign _ i p W0 _ hi0 fun a' hax=>?_)⟩;have hltd:d + 1 < W0.heap.size:=(jes.1 hl0).1;refine ⟨_,run_beginRound hl0 (by rw [hR]),?_⟩;obtain ⟨X,hX⟩:∃ X,W0.putObj (d + 1) (.loop { R .ready none with state:=.busy }) = X:=⟨_,rfl⟩;have xL:X.heap[d + 1]? = some (.loop { R .ready none with state:=.busy }):=by rw [<- hX];exact World.putObj_heap_same hltd
  have xD:X.heap[d]? = some (.deferred (some [])):=by rw [<- hX];exact (World.putObj_heap_other (by omega)).trans hk0
  have xI:I i p X:=by rw [<- hX];exact hI.putObj (s:=(i,p)) _ hi0 (by omega) hl0 rfl
  rw [hX]
  have close:∀ (j:Option Code) (Y:World),KeepsFrom d X Y -> ∃ Z,Z = Y.putObj (d + 1) (.loop (R (if j.isNone then .ready else .done) j)) /\ (Instr.endRound (d + 1) j).run jq Y = .ok (.bool j.isNone) Z /\ Y.heap[d + 1]? = some (.loop { R .ready none with state:=.busy }) /\
    Z.heap[d + 1]? = some (.loop (R (if j.isNone then .ready else .done) j)) /\ Z.heap[d]? = some (.deferred (some [])):=by
   intro j Y hXY;have yL:=hXY.same _ _ (by omega) xL rfl;have yD:=hXY.same _ _ (jle _) xD rfl;have he:=run_endRound (P:=jq) j yL;refine ⟨_,rfl,?_,yL,World.putObj_heap_same (jes.1 yL).1,(World.putObj_heap_other (by omega)).trans yD⟩;rw [hR] at he ⊢;exact he
  refine wpIn_mono (hbody _ i p a' X xI hlt hax) ?_
  have jump:∀ (c:Code) (Y:World),KeepsFrom d X Y -> Ix c Y -> ∃ v Z,(Instr.endRound (d + 1) (some c)).run jq Y = .ok v Z /\
    ((Ending.returned v = .returned (.bool true) /\ (I2 i p Z /\ Z.heap[d + 1]? = some (.loop (R .ready none)) /\ Z.heap[d]? = some (.deferred (some [])))) \/
     (Ending.returned v = .returned (.bool false) /\ ∃ c,Ix c Z /\ Z.heap[d + 1]? = some (.loop (R .done (some c))) /\ Z.heap[d]? = some (.deferred (some [])))):=by
   intro c Y hXY hc;obtain ⟨Z,hZ,z1,z2,z3,z4⟩:=close (some c) Y hXY;exact ⟨_,Z,z1,.inr ⟨rfl,c,by rw [hZ];exact (hIx c).putObj (s:=()) _ hc (by omega) z2 rfl,z3,z4⟩⟩
  intro e a3 Y hp;cases e with
  | normal =>
   obtain ⟨p1,p3⟩:=hp;obtain ⟨Z,hZ,z1,z2,z3,z4⟩:=close none Y p1;exact ⟨_,Z,z1,.inl ⟨rfl,⟨by rw [hZ];exact hI2.putObj (s:=(i,p)) _ p3 (by omega) z2 rfl,z3,z4⟩⟩⟩
  | ret=>exact jump .ret Y hp.1 hp.2
  | exit id=>exact jump (.exit id) Y hp.1 hp.2
  | goto t=>exact jump (.goto t) Y hp.1 hp.2
  | panic ch=>exact hp.elim
  | outgrown=>exact hp.elim
 ·rintro i p W0 ⟨hi0,hl0,hk0⟩;refine (hread i p W0 hi0).mono ?_;rintro e W' ⟨p',rfl,bx,hk,hi⟩;refine ⟨p',rfl,bx,hi,?_,?_⟩
  ·exact (jhs W' ⟨pf,0,none⟩ _ (d + 1) (by show d + 1 ≠ pf;omega)).trans (hk.same _ _ (by omega) hl0 rfl)
  ·exact (jhs W' ⟨pf,0,none⟩ _ d (by show d ≠ pf;omega)).trans (hk.same _ _ (jle _) hk0 rfl)
def ya9 (rd:Nat -> Except Int (Itm × Nat)) (en:Nat):Nat -> Nat -> Nat -> Except Int (List Itm)
 | 0,_,_=>.error 5
 | f + 1,i,p=>if p < en then (if 512 <= i then .error 5 else match rd p with
   | .error e=>.error e
   | .ok (x,q)=>match ya9 rd en f (i + 1) q with
    | .error e=>.error e
    | .ok xs=>.ok (x :: xs)) else .ok []
def ydg (sub:Option (List UInt8 -> Nat -> Except Int (Itm × Nat))) (l:List UInt8) (a:Nat):Except Int (Itm × Nat) :=
 if a < l.length /\ 192 <= ya1 l a /\ sub.isNone = true then .error 7 else
 if yaV l (a:Int) ≠ 0 then .error (yaV l (a:Int)) else
 if ybW l (a:Int) = false then .ok (.mk false ⟨((l.drop (yag l a)).take (ya5 l a)).toArray⟩ [],yag l a + ya5 l a) else
 match sub with
 | none=>.error 7
 | some rd=>match ya9 (rd (l.take (yag l a + ya5 l a))) (yag l a + ya5 l a) 513 0 (yag l a) with
  | .error e=>.error e
  | .ok xs=>.ok (.mk true .empty xs,yag l a + ya5 l a)
def ybx:Nat -> List UInt8 -> Nat -> Except Int (Itm × Nat)
 | 0=>ydg none
 | k + 1=>ydg (some (ybx k))
structure KeepsW (S:Nat -> Prop) (W W':World):Prop where
 os:W'.os = W.os
 tape:W'.tape = W.tape
 output:W'.output = W.output
 size:W.heap.size <= W'.heap.size
 block:∀ k,S k -> W'.heap[k]? = W.heap[k]?
theorem ybr:(jq.info? 106).map (fun i=>(i.zero,i.size,i.bytes)) = some (some (.agg #[.bool false,.string .empty,.slice none 0 0]),3,48):=by kernel_rfl
theorem ykP {W:World} {a:Act} {o:Oper} {b off:Nat} {x0 x1 x2:Value} (x:Operand) (ho:o.op = .load 106 x) (hx:a.eval x = .pointer (some ⟨b,off,none⟩))
  (c0:W.cell? ⟨b,off,none⟩ = some x0) (c1:W.cell? ⟨b,off + 1,none⟩ = some x1) (c2:W.cell? ⟨b,off + 2,none⟩ = some x2) :
  (execOp a.eval o).run jq W = .ok (.value (.agg #[x0,x1,x2])) W:=by
 have hagg:=Tryz.isAgg106;have hsz:=Tryz.sizeOf106;unfold execOp;simp only [ho,hx];simp [go_sem,c0,c1,c2,hagg,hsz]
theorem ybI {P:Program} {a:Act} {o:Oper} {W:World} (ty:TypeId) (x:Operand) (ho:o.op = .load ty x) (p:Addr) (hx:a.eval x = .pointer (some p)) (v:Value) (d:TypeDesc)
  (hu:P.underlying ty = some d) (hd:(match d with | .struct _ | .array _ _=>true | _=>false) = false) (hc:W.cell? p = some v):(execOp a.eval o).run P W = .ok (.value v) W:=by
 unfold execOp;simp only [ho,hx,Instr.loadAt,Instr.sureAddr,Sem.run_bind,Sem.run_pure,Result.andThen_ok,ya8 hu hd hc]
theorem yaO {P:Program} {ops:Array Oper} {md:Region.Mode} {Q:Exit -> Act -> World -> Prop} {S:World -> Prop} {i fuel:Nat} {listed:Array Bool} {oi:Oper} {a:Act} {w w':World} (hi:ops[i]? = some oi) (hw:jb6 oi (yielded ops a.tmps) = true) (hrun:(execOp a.eval oi).run P w = .ok .skip w') (hS:S w')
  (h:wpAnyH P md ops Q S fuel (listed.setIfInBounds i true) (a.put oi.dst undef) w'):wpOp P ops Q i (yfR P ops md Q S fuel listed i) a w:=by
 unfold wpOp;simp only [hi,hw,if_true];refine .inl ?_;unfold Oper.wp;rw [hrun];exact ⟨hS,h⟩
theorem ycK {W:World} {a:Act} {o:Oper} {g off:Nat} {cur:Array Value} {t:TypeId} {b0:Bool} {s0:ByteArray} {A:Option Addr} {n c:Nat} (x y:Operand) (ho:o.op = .store 106 x y) (hx:a.eval x = .pointer (some ⟨g,off,none⟩)) (hy:a.eval y = .agg #[.bool b0,.string s0,.slice A n c])
  (hb:Blk W g t cur) (hsz:off + 2 < cur.size) :
  (execOp a.eval o).run jq W = .ok .skip (((W.setCell ⟨g,off,none⟩ (.bool b0)).setCell ⟨g,off + 1,none⟩ (.string s0)).setCell ⟨g,off + 2,none⟩ (.slice A n c)):=by
 have hsz':=Tryz.sizeOf106;have c0:W.cell? ⟨g,off,none⟩ = some cur[off]:=by rw [hb.cell];exact jb4 (by omega)
 have c1:W.cell? ⟨g,off + 1,none⟩ = some cur[off + 1]:=by rw [hb.cell];exact jb4 (by omega)
 have c2:W.cell? ⟨g,off + 2,none⟩ = some cur[off + 2]:=by rw [hb.cell];exact jb4 (by omega)
 have f0:=hb.frozen off;have f1:=hb.frozen (off + 1);have f2:=hb.frozen (off + 2);unfold execOp;simp only [ho,hx,hy];simp [go_sem,c0,c1,c2,f0,f1,f2,hsz']
theorem yeT {W:World} {base g cap k:Nat} {cells:List Value} {z0 z1 z2:Value} (x0 x1 x2:Value) (hl:cells.length = k * 3) (h:W.ownsRow base 106 3 (.slice (some ⟨g,0,none⟩) (k + 1) cap) (k + 1) (cells ++ [z0,z1,z2])) :
  ∃ cur,Blk W g 106 cur /\ k * 3 + 2 < cur.size /\ (((W.setCell ⟨g,k * 3,none⟩ x0).setCell ⟨g,k * 3 + 1,none⟩ x1).setCell ⟨g,k * 3 + 2,none⟩ x2).ownsRow base 106 3 (.slice (some ⟨g,0,none⟩) (k + 1) cap) (k + 1) (cells ++ [x0,x1,x2]):=by
 rcases h.2 with ⟨hv,_⟩ | ⟨g',cap',cur,hv,hb,hh,hn,hc,hz,hx⟩
 ·cases hv
 simp only [ja4.injEq,ja1.injEq,Addr.mk.injEq] at hv;obtain ⟨⟨rfl,_,_⟩,_,rfl⟩:=hv;have hB:Blk W g 106 cur:=hh
 have hsz:k * 3 + 2 < cur.size:=by
  have:(k + 1) * 3 <= cap * 3:=Nat.mul_le_mul_right _ hn;omega
 refine ⟨cur,hB,hsz,by simp [hl];omega,.inr ⟨g,cap,_,rfl,hb,((hB.set_ (k * 3) x0).set_ (k * 3 + 1) x1).set_ (k * 3 + 2) x2,hn,hc,by simpa using hz,?_⟩⟩;refine List.ext_getElem? fun j=>?_;have hxj:∀ j,j < (k + 1) * 3 -> cur[j]? = (cells ++ [z0,z1,z2])[j]?:=fun j hj=>by rw [<- hx,jc3 hj];simp
 by_cases hj:j < (k + 1) * 3
 ·rw [jc3 hj,Array.getElem?_toList,Array.getElem?_setIfInBounds,Array.getElem?_setIfInBounds,Array.getElem?_setIfInBounds];by_cases h1:j < k * 3
  ·rw [if_neg (by omega),if_neg (by omega),if_neg (by omega),hxj j hj,jal (by omega),jal (by omega)]
  ·rw [jar (by omega),hl];obtain ⟨q,rfl⟩:∃ q,j = k * 3 + q:=⟨j - k * 3,by omega⟩;rw [show k * 3 + q - k * 3 = q by omega];have hq:q = 0 \/ q = 1 \/ q = 2:=by omega
   rcases hq with rfl | rfl | rfl
   ·rw [if_neg (by omega),if_neg (by omega),if_pos (by omega)];simp;omega
   ·rw [if_neg (by omega),if_pos (by omega)];simp;omega
   ·rw [if_pos (by omega)];simp;omega
 ·rw [jc6 (by rw [jd4];simp;omega),jc6 (by simp [hl];omega)]
theorem ya7 {P:Program} {a:Act} {o:Oper} {w w':World} (x y:Operand) (t:TypeId) (ho:o.op = .call { callee:=.builtin .append,args:=#[x,y],argTypes:=#[t,t] }) (v u v':Value) (hx:a.eval x = v) (hy:a.eval y = u) (hr:(Builtin.append_ #[t,t] o.type #[v,u]).run P w = .ok v' w'):(execOp a.eval o).run P w = .ok (.value v') w':=by
 unfold execOp;simp only [ho,resolve,invoke,builtin,Sem.run_bind,Sem.run_pure,Result.andThen_ok,List.map_toArray,jb5,List.map_nil,hx,hy,hr]
theorem yda {W:World} {base g size n cap:Nat} {e:TypeId} {xs:List Value} (h:W.ownsRow base e size (.slice (some ⟨g,0,none⟩) n cap) n xs) {p:Addr} (hp:g ≠ p.block) (u:Value):(W.setCell p u).ownsRow base e size (.slice (some ⟨g,0,none⟩) n cap) n xs:=by
 refine ⟨h.1,?_⟩;rcases h.2 with h1 | ⟨g',cap',cur,hv,hb,hh,rest⟩
 ·exact .inl h1
 ·refine .inr ⟨g',cap',cur,hv,hb,?_,rest⟩;have:g = g':=by injection hv with h1;injection h1 with h1;injection h1
  subst this;exact (jhs W p u g hp).trans hh
theorem KeepsW.set {S:Nat -> Prop} {W W':World} (h:KeepsW S W W') {p:Addr} (hp:¬ S p.block) (u:Value):KeepsW S W (W'.setCell p u) :=
 ⟨h.os,h.tape,h.output,by simpa [jd5] using h.size,fun k hk=>(jhs W' p u k (fun e=>hp (e ▸ hk))).trans (h.block k hk)⟩
theorem yaG {W:World} {a:Act} {o:Oper} {g off:Nat} {cur:Array Value} {t:TypeId} {A:Option Addr} {n c:Nat} (x y:Operand) (ho:o.op = .store 104 x y) (hx:a.eval x = .pointer (some ⟨g,off,none⟩)) (hy:a.eval y = .slice A n c)
  (hb:Blk W g t cur) (hsz:off < cur.size):(execOp a.eval o).run jq W = .ok .skip (W.setCell ⟨g,off,none⟩ (.slice A n c)):=by
 have c0:W.cell? ⟨g,off,none⟩ = some cur[off]:=by rw [hb.cell];exact jb4 (by omega)
 have f0:=hb.frozen off;have hu:=ja7;have hagg:=Tryz.isAgg104;unfold execOp;simp only [ho,hx,hy];simp [go_sem,c0,f0]
theorem yaK {w:World} {base:Nat} {e:TypeId} {size:Nat} {v:Value} {n:Nat} {xs:List Value} (h:w.ownsRow base e size v n xs):∃ A c,v = .slice A n c:=by
 rcases h.2 with ⟨rfl,h0⟩ | ⟨g,cap,cur,rfl,_⟩
 ·exact ⟨none,0,by rw [h0]⟩
 ·exact ⟨_,_,rfl⟩
theorem ynu {w:World} {base:Nat} {e:TypeId} {size:Nat} {v:Value} {k:Nat} {xs:List Value} (h:w.ownsRow base e size v k xs):v.ownBlock ≠ some w.heap.size:=by
 rcases h.2 with ⟨rfl,_⟩ | ⟨g,cap,cur,rfl,_,hh,_⟩
 ·simp [jc2]
 ·intro e';have:g = w.heap.size:=by simpa [jc2] using e'
  subst this;have:=(jes.1 hh).1;omega
theorem ycH {w:World} {base:Nat} {e:TypeId} {size:Nat} {v:Value} {k g:Nat} {xs:List Value} (h:w.ownsRow base e size v k xs) (hg:v.ownBlock = some g):g < w.heap.size:=by
 rcases h.2 with ⟨rfl,_⟩ | ⟨g',cap,cur,rfl,_,hh,_⟩
 ·simp [jc2] at hg
 ·obtain rfl:g' = g:=by simpa [jc2] using hg
  exact (jes.1 hh).1
theorem yaJ (W:World) (x0 x1 x2:Value) (t:TypeId):∀ (j:Nat) (u:Value),[x0,x1,x2][j]? = some u -> (W.alloc (.cells #[x0,x1,x2] t)).cell? ((⟨W.heap.size,0,none⟩:Addr).add j) = some u:=by
 intro j u hj;have hb:=Blk.new W t #[x0,x1,x2];have:=hb.cell j;rw [Addr.add_mid,jd6,this];simpa using hj
structure Held3 (w:World) (b3:Nat) (v:Value) (k:Nat) (cells:List Value) (u:World):Prop where
 blk:Blk u b3 106 #[.bool true,.string ⟨#[]⟩,v]
 own:u.ownsRow (b3 + 1) 106 3 v k cells
 grown:w.grownBy u none
 size:b3 + 1 <= u.heap.size
 low:w.heap.size <= b3
theorem Held3.kept {w u u':World} {b3 k:Nat} {v:Value} {cells:List Value} (h:Held3 w b3 v k cells u) (hg:u.grownBy u' none):Held3 w b3 v k cells u':=by
 obtain ⟨A,c,rfl⟩:=yaK h.own;refine ⟨h.blk.grown hg (by simp),h.own.kept hg (by cases A;exact .inl rfl;exact .inr (by simp [jc2])),yab h.grown hg (by simp),?_,h.low⟩;have:=hg.size;have:=h.size;omega
theorem Held3.drew {w u:World} {b3 k:Nat} {v:Value} {cells:List Value} (h:Held3 w b3 v k cells u):Held3 w b3 v k cells u.drew:=h.kept (ya2 (jr u none))
theorem Held3.drewN {w u:World} {b3 k:Nat} {v:Value} {cells:List Value} (h:Held3 w b3 v k cells u) (n:Nat):Held3 w b3 v k cells (u.drewN n):=h.kept (ygu (jr u none) n)
theorem Held3.put {w u u2:World} {b3 k g' cap':Nat} {v:Value} {cells news:List Value} (h:Held3 w b3 v k cells u) (hown:u2.ownsRow (b3 + 1) 106 3 (.slice (some ⟨g',0,none⟩) (k + 1) cap') (k + 1) news) (hg:u.grownBy u2 v.ownBlock) :
  Held3 w b3 (.slice (some ⟨g',0,none⟩) (k + 1) cap') (k + 1) news (u2.setCell ⟨b3,2,none⟩ (.slice (some ⟨g',0,none⟩) (k + 1) cap')):=by
 have hge:b3 + 1 <= g':=yaj hown rfl;have hb:=(h.blk.grown hg (fun e=>by have:=yaj h.own e.symm;omega)).set_ 2 (.slice (some ⟨g',0,none⟩) (k + 1) cap');refine ⟨by simpa using hb,yda hown (p:=⟨b3,2,none⟩) (by show g' ≠ b3;omega) _,yap (yab h.grown hg (fun j hj=>.inr (by have:=yaj h.own hj;have:=h.low;omega))) (p:=⟨b3,2,none⟩) h.low _,?_,h.low⟩;have:=hg.size;have:=h.size;simp [jd5];omega
end Go.Proofs.YtgclnikdkfpflaaGreatDoor
