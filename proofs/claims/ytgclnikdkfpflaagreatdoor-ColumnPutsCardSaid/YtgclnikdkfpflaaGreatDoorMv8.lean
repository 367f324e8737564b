/- Merged: Unvar, Unrow, CgB, CgC, CgD, CgE, UnrP, UnrQ. -/
import Derived.Test.YtgclnikdkfpflaaGreatDoorMv1
import Derived.Test.YtgclnikdkfpflaaGreatDoorMv3
import Derived.Test.YtgclnikdkfpflaaGreatDoorMv4
import Derived.Test.YtgclnikdkfpflaaGreatDoorMv5
import Derived.Test.YtgclnikdkfpflaaGreatDoorMv6
import Derived.Test.YtgclnikdkfpflaaGreatDoorMv7
import Derived.Laws.EntriesVeiled
namespace Go.Proofs.YtgclnikdkfpflaaGreatDoor
open Go.RowKit Go.Shelf
open List renaming set_cons_zero → jz, set_cons_succ → js, setIfInBounds_toArray → jb
set_option linter.unusedVariables false
set_option linter.unusedSimpArgs false
set_option maxRecDepth 100000
set_option maxHeartbeats 16000000
open Lib renaming hid → jh
open Act renaming put → jp
open World.grownBy renaming refl → jr
open _root_.List renaming getD_eq_getElem?_getD → jg, getElem?_eq_getElem → je, getElem?_cons_zero → jcz, getElem?_cons_succ → jcs, getElem?_toArray → jta, length_append → jla, take_succ_eq_append_getElem → jtk, take_of_length_le → jtl, length_cons → jlc, setIfInBounds_toArray → jb2, finRange → jb3, replicate → jc1, getElem?_eq_none → jc6, size_toArray → jd9, cons → je5
open _root_.Option.some renaming inj → ji
open _root_.Array renaming getElem?_eq_some_iff → jes, getElem?_eq_none → jc8, replicate → je4
open World renaming size_alloc → jsa, ownsRow_nil → jon, block_lt_of_cell? → jd0
open _root_.Int renaming eq_ofNat_of_zero_le → jez, tdiv_eq_ediv_of_nonneg → je2
open KeepsOthers renaming setCell → jks
open Below renaming heap_setCell → jhs, refl → jc5
open IntWalk renaming i64_in → jii
open _root_.Nat renaming le_trans → jlt, le_refl → jle
open _root_.Go.Proofs.Tryz renaming prog → jq, underlying23 → ja5, underlying9 → ja9, underlying3 → jb8, underlying26 → je1
open Go renaming bodyPost_ret → jbr, wpAnyH_done → jwd, wp_region_held → jwh
open _root_.Go.Proofs renaming enters_of → jeo
open _root_.Option renaming some → ja1
open Value renaming oneCell' → ja2, slice → ja4, ownBlock → jc2, bool → jc7
open _root_.Classical renaming not_not → jb9
attribute [local go_sem] Oper.semAt_some
def cB (l:List UInt8) (a i:Nat):UInt8:=l.getD (a + i) 0
def ycS (s:ByteArray) (a:Nat):Nat:=min 10 (s.size - a)
theorem ynM (s:ByteArray) (a:Int) (w:World) :
  Calls jq 158 #[.string s,.int .i64 a] w fun e w'=>e = .returned (.func (.func 178) #[] #[.pointer (some ⟨w.heap.size,0,none⟩),.pointer (some ⟨w.heap.size + 1,0,none⟩)]) /\ w' = (w.alloc (.cells #[.string s] 9)).alloc (.cells #[.int .i64 a] 3):=by
 go_enter Tryz.func158,Tryz.ntmps158
 go_wp2
 go_ret
 exact ⟨rfl,rfl⟩
theorem yeZ (e:Int) (w:World):Calls jq 157 #[.int .i64 e] w fun e' w'=>e' = .returned (.tuple #[.int .u64 0,.int .i64 0,.int .i64 e]) /\ w = w':=by
 go_enter Tryz.func157,Tryz.ntmps157
 go_wp2
 go_ret3
 exact ⟨rfl,rfl⟩
theorem ynN (N:Nat) (hN:1 <= N) (l Bs Ba:Nat) (s:ByteArray) (hs:s.size <= 1000000000000) (a:Nat) (ha:a <= s.size) (J Jx:List (Fin (ycS s a)) -> World -> Prop)
  (hY:∀ pre x W,J pre W -> pre.length < ycS s a -> YieldAt Fence.wide (N - 1) jq l #[.int .i64 (x.val:Int),.int .u8 ((cB s.data.toList a x.val).toNat:Int)] W fun e W' =>
   (e = .returned (.bool true) /\ J (pre ++ [x]) W' /\ KeepS (fun k=>k = Bs \/ k = Ba) W W') \/ (e = .returned (.bool false) /\ Jx (pre ++ [x]) W'))
  (W:World) (hBs:W.cell? ⟨Bs,0,none⟩ = some (.string s)) (hBa:W.cell? ⟨Ba,0,none⟩ = some (.int .i64 (a:Int))) (h0:J [] W) :
  CallsIn Fence.wide N jq 178 #[.func (.yield l) #[] #[],.pointer (some ⟨Bs,0,none⟩),.pointer (some ⟨Ba,0,none⟩)] W fun e W'=>(∃ v,e = .returned v) /\
   ((∃ ys,ys = jb3 (ycS s a) /\ J ys W') \/ (∃ pre,pre <+: jb3 (ycS s a) /\ Jx pre W')):=by
 refine callsIn_of_wp Tryz.func178 rfl trivial ?_ rfl;simp only [Tryz.ntmps178,jd9,jlc,List.length_nil,Nat.reduceAdd,Nat.reduceSub,Array.replicate_succ,Array.replicate_zero,List.push_toArray,List.append_toArray,List.nil_append,List.cons_append];obtain ⟨M,hM⟩:∃ M,ycS s a = M:=⟨_,rfl⟩;have hM2:min 10 (s.size - a) = M:=hM;have p0:IntKind.i64.wrap ((s.size:Int) - (a:Int)) = (s.size:Int) - (a:Int):=jii _ (by omega);have p1:min (10:Int) ((s.size:Int) - (a:Int)) = (M:Int):=by omega
 have p1':(if (s.size:Int) - (a:Int) < 10 then (s.size:Int) - (a:Int) else 10) = (M:Int):=by split <;> omega
 have HM:=jh hM;have HM2:=jh hM2;have hMs:a + M <= s.size:=by omega
 clear hM hM2;gi_wp2
 gi_loopw [10] (fun i wr=>∃ k:Nat,i = .int .i64 (k:Int) /\ k <= M /\ J ((jb3 (ycS s a)).take k) wr /\ KeepS (fun k=>k = Bs \/ k = Ba) W wr) (fun i _=>M - (intOf i).toNat)
 case atStart=>exact ⟨0,rfl,by omega,h0,KeepS.refl _ _⟩
 case round =>
  clear p0 p1 p1';obtain ⟨k,rfl,hk,hJ,hK⟩:=hrel;have c1:wr.cell? ⟨Bs,0,none⟩ = some (.string s):=(hK.cell (p:=⟨Bs,0,none⟩) (.inl rfl)).trans hBs;have c2:wr.cell? ⟨Ba,0,none⟩ = some (.int .i64 (a:Int)):=(hK.cell (p:=⟨Ba,0,none⟩) (.inr rfl)).trans hBa;by_cases hlt:k < M
  ·have hkp:k < ycS s a:=by have:=HM.out;omega
   obtain ⟨fn,tmps,assign,body,hy,hR⟩:=hY _ ⟨k,hkp⟩ wr hJ (by simp;omega)
   have htk:(jb3 (ycS s a)).take k ++ [⟨k,hkp⟩] = (jb3 (ycS s a)).take (k + 1):=by
    rw [jtk (by simp;exact hkp)]
    simp
   rw [htk] at hR;have hsl:s.data.toList.length = s.size:=yar s;obtain ⟨j,hj⟩:∃ j,a + k = j:=⟨_,rfl⟩;obtain ⟨c,hc⟩:∃ c,s.data.toList[j]? = some c:=⟨_,je (by omega)⟩;have hcd:cB s.data.toList a k = c:=by unfold cB;rw [hj,jg,hc];rfl
   have hidx:=ydb s j c hc;dsimp only at hy;rw [hcd] at hy;have p3:IntKind.i64.wrap ((a:Int) + (k:Int)) = (j:Int):=by rw [jii _ (by omega)];omega
   have p3':(a:Int) + (k:Int) = (j:Int):=by omega
   clear htk hj hc hsl hcd;gi_wp2
   refine hR.mono ?_;rintro e' W3 (⟨rfl,hJ3,hk3⟩ | ⟨rfl,hJx3⟩)
   ·have hK3:=hK.trans hk3;clear p3 p3';gi_wp2
    go_roundw
    case rel=>exact ⟨k + 1,by simp,by omega,hJ3,hK3⟩
    case measure=>simp [intOf];omega
   ·clear p3 p3';gi_wp2
    refine jbr (results_none rfl _ _ _) rfl ?_;exact ⟨⟨_,rfl⟩,.inr ⟨_,List.take_prefix _ _,hJx3⟩⟩
  ·have htk:(jb3 (ycS s a)).take k = jb3 (ycS s a):=jtl (by simp;have:=HM.out;omega);rw [htk] at hJ;have d1:decide ((k:Int) < (M:Int)) = false:=by simp;omega
   have d2:decide (k < M) = false:=by simp;omega
   gi_wp2
   go_end0
   exact ⟨⟨_,rfl⟩,.inl ⟨_,rfl,hJ⟩⟩
def ye8 (l:List UInt8) (a i:Nat):Prop:=128 <= (cB l a i).toNat /\ i ≠ 9
def nOf (l:List UInt8) (a:Nat) {M:Nat} (pre:List (Fin M)):BitVec 64:=pre.foldl (fun n x=>n ||| digB (cB l a x.val) x.val) 0
theorem yjL (l:List UInt8) (a:Nat) {M:Nat} (pre:List (Fin M)) (x:Fin M):nOf l a (pre ++ [x]) = nOf l a pre ||| digB (cB l a x.val) x.val:=by simp [nOf]
def ydw (l:List UInt8) (a i:Nat) (n:BitVec 64):BitVec 64 × Nat × Int :=
 if i = 9 /\ 1 < (cB l a i).toNat then (0,0,5) else if 0 < i /\ (cB l a i).toNat = 0 then (0,0,8) else (n ||| digB (cB l a i) i,a + i + 1,0)
theorem yiY (l:List UInt8) (a M:Nat) (hM:M <= 10) (ha:a + M <= l.length):∀ k,k <= M -> (∀ y ∈ (jb3 M).take k,ye8 l a y.val) -> yb5 l a 10 0 0 = yb5 l a (10 - k) k (nOf l a ((jb3 M).take k))
 | 0,_,_=>by simp [nOf]
 | k + 1,hk,h=>by
  have e:(jb3 M).take (k + 1) = (jb3 M).take k ++ [⟨k,by omega⟩]:=by
   rw [jtk (by simp;omega)]
   simp
  rw [e] at h ⊢;rw [yiY l a M hM ha k (by omega) (fun y hy=>h y (List.mem_append_left _ hy))];obtain ⟨h1,h2⟩:=h ⟨k,by omega⟩ (by simp);simp only at h1 h2
  have hg:l[a + k]? = some (cB l a k):=by
   unfold cB;rw [jg,je (by omega)];rfl
  rw [show 10 - k = (10 - (k + 1)) + 1 by omega,yb5,hg];simp only;rw [if_neg (by omega),if_pos h1,yjL]
theorem ynJ (l:List UInt8) (a M:Nat) (hM:M <= 10) (ha:a + M <= l.length) (pre:List (Fin M)) (x:Fin M) (hp:pre ++ [x] <+: jb3 M) (h:∀ y ∈ pre,ye8 l a y.val) (hx:¬ ye8 l a x.val) :
  yb5 l a 10 0 0 = ydw l a x.val (nOf l a pre):=by
 have hp1:pre <+: jb3 M:=(List.prefix_append pre [x]).trans hp;have e1:=List.prefix_iff_eq_take.1 hp1;obtain ⟨k,hk⟩:∃ k,pre.length = k:=⟨_,rfl⟩;rw [hk] at e1;have hlen:=hp.length_le;rw [jla,hk] at hlen;simp only [List.length_singleton,List.length_finRange] at hlen;have e2:=List.prefix_iff_eq_take.1 hp;rw [jla,List.length_singleton,hk,jtk (by simp;omega),<- e1] at e2;have e3:=List.append_cancel_left e2;simp only [je5.injEq,and_true,List.getElem_finRange] at e3;have hxk:x.val = k:=by rw [e3];simp
 rw [yiY l a M hM ha k (by omega) (by rw [<- e1];exact h),<- e1,hxk]
 have hg:l[a + k]? = some (cB l a k):=by
  unfold cB;rw [jg,je (by omega)];rfl
 have hkM:k < M:=by omega
 rw [show 10 - k = (10 - (k + 1)) + 1 by omega,yb5,hg];rw [hxk] at hx;unfold ye8 at hx;unfold ydw;simp only;by_cases h9:k = 9 /\ 1 < (cB l a k).toNat
 ·rw [if_pos h9,if_pos h9]
 ·rw [if_neg h9,if_neg h9,if_neg (by omega)]
theorem yoM (l:List UInt8) (a M:Nat) (hM:M = min 10 (l.length - a)) (ha:a <= l.length) (h:∀ y ∈ jb3 M,ye8 l a y.val):yb5 l a 10 0 0 = (0,0,3):=by
 have hM9:M < 10:=by
  rcases Nat.lt_or_ge M 10 with hh | hh
  ·exact hh
  ·exact absurd rfl (h ⟨9,by omega⟩ (List.mem_finRange _)).2
 have e:(jb3 M).take M = jb3 M:=jtl (by simp);rw [yiY l a M (by omega) (by omega) M (jle _) (by rw [e];exact h)];rw [show 10 - M = (10 - (M + 1)) + 1 by omega,yb5,jc6 (by omega)]
theorem yk4 {β γ:Type} {B:Nat} {I:γ -> β -> World -> Prop} (h:∀ c,OwnFrom B (I c)):OwnFrom B (fun s W=>∃ c,I c s W):=fun s W W' row ⟨c,hc⟩ hg hr=>⟨c,h c s W W' row hc hg hr⟩
theorem ylW (x:BitVec 64):BitVec.ofInt 64 (x.toNat:Int) = x:=by
 rw [BitVec.ofInt_natCast,BitVec.ofNat_toNat];simp
theorem yo1 (x:BitVec 64):IntKind.u64.wrap (x.toNat:Int) = (x.toNat:Int):=by
 have:=x.isLt;simp [IntKind.wrap,IntKind.bits,IntKind.signed];omega
theorem ypO (x y:BitVec 64):bits .or .u64 (x.toNat:Int) (y.toNat:Int) = ((x ||| y).toNat:Int):=by
 show IntKind.u64.wrap ((BitVec.ofInt 64 (x.toNat:Int) ||| BitVec.ofInt 64 (y.toNat:Int)).toNat:Int) = _;rw [ylW,ylW,yo1]
theorem ypz:∀ c:Fin 256,bits .and .u8 ((c.val:Nat):Int) 127 = ((c.val % 128:Nat):Int):=by decide +kernel
theorem ypD (d k:Nat) (hd:d < 256) (x:BitVec 64) (h:BitVec.ofNat 64 d <<< k = x):IntKind.u64.wrap ((d:Int) * 2 ^ k) = (x.toNat:Int):=by
 rw [<- h,BitVec.toNat_shiftLeft,Nat.shiftLeft_eq,BitVec.toNat_ofNat,Nat.mod_eq_of_lt (show d < 2 ^ 64 by omega)];simp [IntKind.wrap,IntKind.bits,IntKind.signed]
theorem yo2 (d:Nat) (hd:d < 256):IntKind.u64.wrap (d:Int) = (d:Int):=by
 simp [IntKind.wrap,IntKind.bits,IntKind.signed];omega
theorem ylp (s:ByteArray) (at_:Int) (hs:s.size <= 1000000000000) (w:World) :
  Calls jq 131 #[.string s,.int .i64 at_] w fun e w'=>e = .returned (.tuple #[.int .u64 ((ybR s.data.toList at_).1.toNat:Int),.int .i64 ((ybR s.data.toList at_).2.1:Int),.int .i64 (ybR s.data.toList at_).2.2]) /\ Below w.heap.size w w':=by
 have hsl:=yar s;refine (callsIn_wide (n:=6)).1 ?_;refine callsIn_of_wp_marks Tryz.func131 rfl trivial ?_ rfl;simp only [Tryz.ntmps131,jd9,jlc,List.length_nil,Nat.reduceAdd,Nat.reduceSub,Array.replicate_succ,Array.replicate_zero,List.push_toArray,List.append_toArray,List.nil_append,List.cons_append];by_cases hbad:at_ < 0 \/ (s.size:Int) < at_
 ·have he:ybR s.data.toList at_ = (0,0,1):=by unfold ybR;rw [if_pos (by rw [hsl];exact hbad)]
  rw [he];clear he hsl;obtain ⟨x1,x2,x3,x4,x5,_⟩:=box4 w (.int .i64 at_) (.int .u64 0) (.int .i64 0) (.int .i64 1) 3 23 3 26;have y1:=x2.cell;have y2:=x3.cell;have y3:=x4.cell;clear x1 x2 x3 x4;by_cases h0:at_ < 0
  ·gi_wp2_with fail
   exact ⟨_,yc3 rfl _ _ _ _ _ _ _ _ rfl rfl rfl (ya8 ja5 rfl y1) (ya8 jb8 rfl y2) (ya8 je1 rfl y3),rfl,x5⟩
  ·have h1:(s.size:Int) < at_:=by omega
   gi_wp2_with fail
   exact ⟨_,yc3 rfl _ _ _ _ _ _ _ _ rfl rfl rfl (ya8 ja5 rfl y1) (ya8 jb8 rfl y2) (ya8 je1 rfl y3),rfl,x5⟩
 ·obtain ⟨a,rfl⟩:=jez (show 0 <= at_ by omega);have ha:a <= s.size:=by omega
  have he:ybR s.data.toList (a:Int) = yb5 s.data.toList a 10 0 0:=by unfold ybR;rw [if_neg (by rw [hsl];exact hbad)];rfl
  rw [he];have d0:decide ((a:Int) < 0) = false:=by simp
  have d1:decide ((s.size:Int) < (a:Int)) = false:=by simp;omega
  have d2:decide (s.size < a) = false:=by simp;omega
  clear he hbad;obtain ⟨x1,x2,x3,x4,x5,x6⟩:=box4 w (.int .i64 (a:Int)) (.int .u64 0) (.int .i64 0) (.int .i64 0) 3 23 3 26;have y1:=x1.cell;gi_wp2_with fail
  have z5:=Boxed.new (((((w.alloc (.cells #[.int .i64 (a:Int)] 3)).alloc (.cells #[.int .u64 0] 23)).alloc (.cells #[.int .i64 0] 3)).alloc (.cells #[.int .i64 0] 26)).alloc (.cells #[.func (.func 157) #[] #[]] 197)) 23 (.int .u64 0);have z4:=(Boxed.new ((((w.alloc (.cells #[.int .i64 (a:Int)] 3)).alloc (.cells #[.int .u64 0] 23)).alloc (.cells #[.int .i64 0] 3)).alloc (.cells #[.int .i64 0] 26)) 197 (.func (.func 157) #[] #[])).alloc (.cells #[.int .u64 0] 23);have z0:=(x1.alloc (.cells #[.func (.func 157) #[] #[]] 197)).alloc (.cells #[.int .u64 0] 23);have z1:=(x2.alloc (.cells #[.func (.func 157) #[] #[]] 197)).alloc (.cells #[.int .u64 0] 23);have z2:=(x3.alloc (.cells #[.func (.func 157) #[] #[]] 197)).alloc (.cells #[.int .u64 0] 23);have z3:=(x4.alloc (.cells #[.func (.func 157) #[] #[]] 197)).alloc (.cells #[.int .u64 0] 23);have zb:=(x5.alloc (by omega) (.cells #[.func (.func 157) #[] #[]] 197)).alloc (by simp;omega) (.cells #[.int .u64 0] 23);rw [jsa,x6] at z5;rw [x6] at z4;have zz:((((((w.alloc (.cells #[.int .i64 (a:Int)] 3)).alloc (.cells #[.int .u64 0] 23)).alloc (.cells #[.int .i64 0] 3)).alloc (.cells #[.int .i64 0] 26)).alloc (.cells #[.func (.func 157) #[] #[]] 197)).alloc (.cells #[.int .u64 0] 23)).heap.size = w.heap.size + 6:=by rw [jsa,jsa,x6]
  clear x1 x2 x3 x4 x5 x6 y1;generalize (((((w.alloc (.cells #[.int .i64 (a:Int)] 3)).alloc (.cells #[.int .u64 0] 23)).alloc (.cells #[.int .i64 0] 3)).alloc (.cells #[.int .i64 0] 26)).alloc (.cells #[.func (.func 157) #[] #[]] 197)).alloc (.cells #[.int .u64 0] 23) = w2 at *;refine ⟨trivial,callsIn_wide.2 ((ynM _ _ _).mono ?_)⟩;rintro e w4 ⟨rfl,hw4⟩;generalize hb:w.heap.size = b at *;have HB:=jh hb;clear hb;rw [zz];have v0:Boxed w4 b 3 (.int .i64 (a:Int)):=by rw [hw4];exact (z0.alloc _).alloc _
  have v1:Boxed w4 (b + 1) 23 (.int .u64 0):=by rw [hw4];exact (z1.alloc _).alloc _
  have v2:Boxed w4 (b + 1 + 1) 3 (.int .i64 0):=by rw [hw4];exact (z2.alloc _).alloc _
  have v3:Boxed w4 (b + 1 + 1 + 1) 26 (.int .i64 0):=by rw [hw4];exact (z3.alloc _).alloc _
  have v4:Boxed w4 (b + 4) 197 (.func (.func 157) #[] #[]):=by rw [hw4];exact (z4.alloc _).alloc _
  have v5:Boxed w4 (b + 4 + 1) 23 (.int .u64 0):=by rw [hw4];exact (z5.alloc _).alloc _
  have v6:Boxed w4 (b + 6) 9 (.string s):=by rw [hw4,<- zz];exact (Boxed.new w2 _ _).alloc _
  have v7:Boxed w4 (b + 7) 3 (.int .i64 (a:Int)):=by
   have:=Boxed.new (w2.alloc (.cells #[.string s] 9)) 3 (.int .i64 (a:Int));rw [jsa,zz] at this;rw [hw4];exact this
  have vb:Below b w w4:=by rw [hw4];exact (zb.alloc (by omega) _).alloc (by simp;omega) _
  have vz:w4.heap.size = b + 8:=by rw [hw4];simp [zz]
  have VZ:=jh vz;have vz5:b + 8 <= w4.heap.size:=by omega
  clear hw4 z0 z1 z2 z3 z4 z5 zb zz vz;gi_wp2_with fail
  have hSS:∀ j,(j = b + 6 \/ j = b + 7) -> j < w4.heap.size:=by intro j hj;omega
  refine wpIn_rangeFunc_ownG rfl (by omega) (gf:=178) (lb:=#[.pointer (some ⟨b + 6,0,none⟩),.pointer (some ⟨b + 7,0,none⟩)]) rfl trivial (jeo Tryz.func178 (by kernel_rfl) rfl)
   (encs:=fun x:Fin (ycS s a)=>#[.int .i64 (x.val:Int),.int .u8 ((cB s.data.toList a x.val).toNat:Int)]) (S:=fun ys=>ys = jb3 (ycS s a)) (Sp:=fun pre=>pre <+: jb3 (ycS s a)) (N:=ycS s a) (w0:=w4) (Kp:=KeepS (fun j=>j = b + 6 \/ j = b + 7))
   (fun l J Jx W hW _ _ hY h0=>ynN 5 (by omega) l (b + 6) (b + 7) s hs a ha J Jx hY W ((hW.cell (p:=⟨b + 6,0,none⟩) (by show b + 6 < w4.heap.size;omega)).trans v6.cell) ((hW.cell (p:=⟨b + 7,0,none⟩) (by show b + 7 < w4.heap.size;omega)).trans v7.cell) h0)
   ymi (ymj hSS) (jc5 _ _) (fun _=>rfl)
   (fun pre W=>(∀ y ∈ pre,ye8 s.data.toList a y.val) /\ (Below b w W /\ (Boxed W b 3 (.int .i64 (a:Int)) /\ (Boxed W (b + 1) 23 (.int .u64 0) /\ (Boxed W (b + 1 + 1) 3 (.int .i64 0) /\ (Boxed W (b + 1 + 1 + 1) 26 (.int .i64 0) /\ (Boxed W (b + 4) 197 (.func (.func 157) #[] #[]) /\ (Boxed W (b + 4 + 1) 23 (.int .u64 ((nOf s.data.toList a pre).toNat:Int)) /\ (Boxed W (b + 6) 9 (.string s) /\ Boxed W (b + 7) 3 (.int .i64 (a:Int)))))))))))
   (fun c pre W=>∃ R:BitVec 64 × Nat × Int,(c = .ret /\ ∃ pre' x,pre = pre' ++ [x] /\ (∀ y ∈ pre',ye8 s.data.toList a y.val) /\ ¬ ye8 s.data.toList a x.val /\ R = ydw s.data.toList a x.val (nOf s.data.toList a pre')) /\ (Below b w W /\ (Boxed W (b + 1) 23 (.int .u64 (R.1.toNat:Int)) /\ (Boxed W (b + 1 + 1) 3 (.int .i64 (R.2.1:Int)) /\ Boxed W (b + 1 + 1 + 1) 26 (.int .i64 R.2.2)))))
   ?hI ?hIx
   ⟨by simp,vb,v0,v1,v2,v3,v4,v5,v6,v7⟩
   (fun x=>{ tmps:=#[.string s,.int .i64 (a:Int),undef,.pointer (some ⟨b,0,none⟩),.pointer (some ⟨b + 1,0,none⟩),.pointer (some ⟨b + 1 + 1,0,none⟩),.pointer (some ⟨b + 1 + 1 + 1,0,none⟩),.pointer (some ⟨b + 4,0,none⟩),.pointer (some ⟨b + 4 + 1,0,none⟩),.int .i64 (x.val:Int),.int .u8 ((cB s.data.toList a x.val).toNat:Int),.int .i64 (a:Int),.bool false,.bool false,.int .i64 (a:Int),.string s,.int .i64 (s.size:Int),.bool false,.bool false,.string s,.int .i64 (a:Int),.func (.func 178) #[] #[.pointer (some ⟨b + 6,0,none⟩),.pointer (some ⟨b + 7,0,none⟩)],.int .i64 (x.val:Int),.int .u8 ((cB s.data.toList a x.val).toNat:Int),undef,undef,undef,undef,undef,undef,undef,undef,undef,undef,undef,undef,undef,undef,undef,undef,undef,undef,undef,undef,undef,undef,undef,undef,undef,undef,undef,undef,undef,undef,undef,undef,undef,undef,undef,undef,undef,undef,undef,undef,undef,undef,undef,undef,undef],defers:=[] }) ?assign ?body ?done ?stop
  case hI=>exact OwnFrom.and (ownFrom_pure _ _) (OwnFrom.and (ownFrom_below (by have:=HB.out;omega) (by omega)) (OwnFrom.and (Own.from (boxed_own _ _ (fun _=>_)) _) (OwnFrom.and (Own.from (boxed_own _ _ (fun _=>_)) _) (OwnFrom.and (Own.from (boxed_own _ _ (fun _=>_)) _) (OwnFrom.and (Own.from (boxed_own _ _ (fun _=>_)) _) (OwnFrom.and (Own.from (boxed_own _ _ (fun _=>_)) _) (OwnFrom.and (Own.from (boxed_own _ _ (fun pre:List (Fin (ycS s a))=>.int .u64 ((nOf s.data.toList a pre).toNat:Int))) _) (OwnFrom.and (Own.from (boxed_own _ _ (fun _=>_)) _) (Own.from (boxed_own _ _ (fun _=>_)) _)))))))))
  case hIx=>intro c;exact yk4 fun R=>OwnFrom.and (ownFrom_pure _ _) (OwnFrom.and (ownFrom_below (by have:=HB.out;omega) (by omega)) (OwnFrom.and (Own.from (boxed_own _ _ (fun _=>_)) _) (OwnFrom.and (Own.from (boxed_own _ _ (fun _=>_)) _) (Own.from (boxed_own _ _ (fun _=>_)) _))))
  case assign =>
   intro l x W K hK;gi_wp2
   exact hK
  case body =>
   rintro l pre x W ⟨hco,hB,u0,u1,u2,u3,u4,u5,u6,u7⟩ hlt;have hx10:x.val < 10:=by have:=x.isLt;unfold ycS at this;omega
   have hxs:a + x.val < s.size:=by have:=x.isLt;unfold ycS at this;omega
   have e0:=u0.cell;have e1:=u1.cell;have f1:=u1.frozen;have e2:=u2.cell;have f2:=u2.frozen;have e3:=u3.cell;have f3:=u3.frozen;have e4:=u4.cell;have e5:=u5.cell;have f5:=u5.frozen;have hWz:b + 8 <= W.heap.size:=by have:=u7.lt;omega
   have hnx:=yjL s.data.toList a pre x;generalize hnn:nOf s.data.toList a pre = nn at *;have HNN:=jh hnn;clear hnn
   have hcx:∀ c,cB s.data.toList a x.val = c -> ydw s.data.toList a x.val nn = if x.val = 9 /\ 1 < c.toNat then (0,0,5) else if 0 < x.val /\ c.toNat = 0 then (0,0,8) else (nn ||| digB c x.val,a + x.val + 1,0):=by
    intro c h;unfold ydw;rw [h]
   have hcc:∀ c,cB s.data.toList a x.val = c -> (ye8 s.data.toList a x.val ↔ 128 <= c.toNat /\ x.val ≠ 9):=by
    intro c h;unfold ye8;rw [h]
   obtain ⟨c,hc⟩:∃ c,cB s.data.toList a x.val = c:=⟨_,rfl⟩;rw [hc] at hnx ⊢;have HX:=hcx c hc;have HC:=hcc c hc;clear hcx hcc hc;obtain ⟨i,hi⟩:∃ i,x.val = i:=⟨_,rfl⟩;rw [hi] at HX HC hnx hx10 hxs ⊢;obtain ⟨d,hd⟩:∃ d,c.toNat % 128 = d:=⟨_,rfl⟩;obtain ⟨j,hj⟩:∃ j,7 * i = j:=⟨_,rfl⟩;obtain ⟨y,hy⟩:∃ y,digB c i = y:=⟨_,rfl⟩;have hy2:BitVec.ofNat 64 d <<< j = y:=by rw [<- hy,<- hd,<- hj];rfl
   obtain ⟨z,hz⟩:∃ z,nn ||| y = z:=⟨_,rfl⟩;rw [hy,hz] at HX hnx;have hc256:=c.toNat_lt;have p1:bits .and .u8 (c.toNat:Int) 127 = (d:Int):=by rw [<- hd];exact ypz ⟨c.toNat,hc256⟩
   have p2:=yo2 d (by omega);have p3:IntKind.i64.wrap (7 * (i:Int)) = (j:Int):=by rw [jii _ (by omega)];omega
   have p4:=ypD d j (by omega) y hy2;have p5:=ypO nn y;rw [hz] at p5;have q1:j < 64:=by omega
   have HXH:=jh HX;have HCH:=jh HC;have HNX:=jh hnx;have HI:=jh hi;have HCO:=jh hco;generalize hcn:c.toNat = cn at *;clear hi hd hj hy hy2 hz HX HC hnx hco hcn;have g1:Boxed (W.setCell ⟨b + 4 + 1,0,none⟩ (.int .u64 (z.toNat:Int))) (b + 4 + 1) 23 (.int .u64 (z.toNat:Int)):=u5.set _;gi_wp2
   refine yfe 8 (by kernel_rfl) (by kernel_rfl) rfl (fun _ _ h=>h) ?_;simp only [List.take_succ_cons,List.take_zero,List.drop_succ_cons,List.drop_zero]
   repeat still_step
   refine wpStill_nil ?_;clear p1 p2 p3 p4 p5;go_wp2_with fail
   have hn1:1 <= 6 - 1 - 1:=by omega
   have hKF:KeepsFrom w4.heap.size W (W.setCell ⟨b + 4 + 1,0,none⟩ (.int .u64 (z.toNat:Int))).drew:=((jks _ _ _).trans (KeepsOthers.drew _)).from _;have hB2:Below b w (W.setCell ⟨b + 4 + 1,0,none⟩ (.int .u64 (z.toNat:Int))).drew:=by have:=hB.setCell (p:=⟨b + 4 + 1,0,none⟩) (by show b <= b + 4 + 1;omega) (.int .u64 (z.toNat:Int));exact ⟨this.os,this.tape,this.output,this.size,this.block⟩
   have u0:Boxed (W.setCell ⟨b + 4 + 1,0,none⟩ (.int .u64 (z.toNat:Int))).drew b 3 _:=u0.other (by omega) _;have u1:Boxed (W.setCell ⟨b + 4 + 1,0,none⟩ (.int .u64 (z.toNat:Int))).drew (b + 1) 23 _:=u1.other (by omega) _;have u2:Boxed (W.setCell ⟨b + 4 + 1,0,none⟩ (.int .u64 (z.toNat:Int))).drew (b + 1 + 1) 3 _:=u2.other (by omega) _;have u3:Boxed (W.setCell ⟨b + 4 + 1,0,none⟩ (.int .u64 (z.toNat:Int))).drew (b + 1 + 1 + 1) 26 _:=u3.other (by omega) _;have u4:Boxed (W.setCell ⟨b + 4 + 1,0,none⟩ (.int .u64 (z.toNat:Int))).drew (b + 4) 197 _:=u4.other (by omega) _;have u5:Boxed (W.setCell ⟨b + 4 + 1,0,none⟩ (.int .u64 (z.toNat:Int))).drew (b + 4 + 1) 23 (.int .u64 (z.toNat:Int)):=g1
   have hKS:KeepS (fun j=>j = b + 6 \/ j = b + 7) W (W.setCell ⟨b + 4 + 1,0,none⟩ (.int .u64 (z.toNat:Int))).drew:=by
    have:=(KeepS.refl (fun j=>j = b + 6 \/ j = b + 7) W).setCell (p:=⟨b + 4 + 1,0,none⟩) (by show ¬ (b + 4 + 1 = b + 6 \/ b + 4 + 1 = b + 7);omega) (.int .u64 (z.toNat:Int));exact ⟨this.size,this.block⟩
   have u6:Boxed (W.setCell ⟨b + 4 + 1,0,none⟩ (.int .u64 (z.toNat:Int))).drew (b + 6) 9 _:=u6.other (by omega) _;have u7:Boxed (W.setCell ⟨b + 4 + 1,0,none⟩ (.int .u64 (z.toNat:Int))).drew (b + 7) 3 _:=u7.other (by omega) _;generalize (W.setCell ⟨b + 4 + 1,0,none⟩ (.int .u64 (z.toNat:Int))).drew = W2 at *;clear g1 e0 e1 f1 e2 f2 e3 f3 e4 e5 f5;have e0:=u0.cell;have e1:=u1.cell;have f1:=u1.frozen;have e2:=u2.cell;have f2:=u2.frozen;have e3:=u3.cell;have f3:=u3.frozen;have e4:=u4.cell;have e5:=u5.cell;by_cases h9:i = 9 /\ 1 < cn
   ·obtain ⟨h91,h92⟩:=h9;have t1:((i:Int) == 9) = true:=by simp;omega
    have t2:(1:Int) < (cn:Int):=by omega
    have hst:ydw s.data.toList a x.val nn = (0,0,5):=by rw [HI.out,HXH.out,if_pos ⟨h91,h92⟩]
    have HST:=jh hst;have hnc:¬ ye8 s.data.toList a x.val:=by rw [HI.out,HCH.out];omega
    have HNC:=jh hnc;have H91:=jh h91;clear hst hnc h91;gi_wp2_with fail
    refine ⟨trivial,(CallsIn.inRound l (callsIn_wide.2 (yeZ _ _))).mono ?_⟩;rintro e w' ⟨rfl,rfl⟩;gi_wp2_with fail
    exact ⟨(hKF.trans ((((jks _ _ _).trans (jks _ _ _)).trans (jks _ _ _)).from _)),(0,0,5),⟨rfl,pre,x,rfl,HCO.out,HNC.out,by rw [HNN.out];exact HST.out.symm⟩,((hB2.setCell (p:=⟨b + 1,0,none⟩) (by show b <= b + 1;omega) _).setCell (p:=⟨b + 1 + 1,0,none⟩) (by show b <= b + 1 + 1;omega) _).setCell (p:=⟨b + 1 + 1 + 1,0,none⟩) (by show b <= b + 1 + 1 + 1;omega) _,((u1.set _).other (by omega) _).other (by omega) _,((u2.other (by omega) _).set _).other (by omega) _,((u3.other (by omega) _).other (by omega) _).set _⟩
   ·have hst9:ydw s.data.toList a x.val nn = if 0 < i /\ cn = 0 then (0,0,8) else (z,a + i + 1,0):=by rw [HI.out,HXH.out,if_neg h9]
    have HST9:=jh hst9;clear hst9;by_cases h128:128 <= cn
    ·have hi9:i ≠ 9:=by omega
     have t1:((i:Int) == 9) = false:=by simp;omega
     have hcy:ye8 s.data.toList a x.val:=by rw [HI.out];exact HCH.out.2 ⟨h128,hi9⟩
     have HCY:=jh hcy;have H9:=jh h9;clear hcy h9 hi9;gi_wp2
     exact ⟨hKF,hKS,fun y hy=>by
      rcases List.mem_append.1 hy with hy | hy
      ·exact HCO.out y hy
      ·obtain rfl:y = x:=by simpa using hy
       exact HCY.out,hB2,u0,u1,u2,u3,u4,by rw [HNX.out];exact u5,u6,u7⟩
    ·have hnc:¬ ye8 s.data.toList a x.val:=by rw [HI.out,HCH.out];omega
     have HNC:=jh hnc;have t3:decide ((128:Int) <= (cn:Int)) = false:=by simp;omega
     have t4:(cn:Int) < 128:=by omega
     clear hnc;by_cases hi9:i = 9
     ·have t1:((i:Int) == 9) = true:=by simp;omega
      have t2:decide ((1:Int) < (cn:Int)) = false:=by simp;omega
      have t6:(0:Int) < (i:Int):=by omega
      have H9:=jh h9;have HI9:=jh hi9;by_cases hc0:cn = 0
      ·have t5:((cn:Int) == 0) = true:=by simp;omega
       have hst:ydw s.data.toList a x.val nn = (0,0,8):=by rw [HST9.out,if_pos ⟨by omega,hc0⟩]
       have HST:=jh hst;have HC0:=jh hc0;clear hst hc0 h9 hi9;gi_wp2_with fail
       refine ⟨trivial,(CallsIn.inRound l (callsIn_wide.2 (yeZ _ _))).mono ?_⟩;rintro e w' ⟨rfl,rfl⟩;gi_wp2_with fail
       exact ⟨(hKF.trans ((((jks _ _ _).trans (jks _ _ _)).trans (jks _ _ _)).from _)),(0,0,8),⟨rfl,pre,x,rfl,HCO.out,HNC.out,by rw [HNN.out];exact HST.out.symm⟩,((hB2.setCell (p:=⟨b + 1,0,none⟩) (by show b <= b + 1;omega) _).setCell (p:=⟨b + 1 + 1,0,none⟩) (by show b <= b + 1 + 1;omega) _).setCell (p:=⟨b + 1 + 1 + 1,0,none⟩) (by show b <= b + 1 + 1 + 1;omega) _,((u1.set _).other (by omega) _).other (by omega) _,((u2.other (by omega) _).set _).other (by omega) _,((u3.other (by omega) _).other (by omega) _).set _⟩
      ·have t5:((cn:Int) == 0) = false:=by simp;omega
       have hst:ydw s.data.toList a x.val nn = (z,a + i + 1,0):=by rw [HST9.out,if_neg (by rintro ⟨_,h⟩;exact hc0 h)]
       have HST:=jh hst;have HC0:=jh hc0;clear hst hc0 h9 hi9;have w1:IntKind.i64.wrap ((a:Int) + (i:Int)) = (a:Int) + (i:Int):=jii _ (by omega);have w2:IntKind.i64.wrap ((a:Int) + (i:Int) + 1) = (a:Int) + (i:Int) + 1:=jii _ (by omega);gi_wp2
       have hS0:W2.drew.cell? ⟨b + 4 + 1,0,none⟩ = some (.int .u64 (z.toNat:Int)) /\ W2.drew.cell? ⟨b,0,none⟩ = some (.int .i64 (a:Int)):=⟨e5,e0⟩;have hB2d:Below b w W2.drew:=⟨hB2.os,hB2.tape,hB2.output,hB2.size,hB2.block⟩;refine ycB (fun W=>W.cell? ⟨b + 4 + 1,0,none⟩ = some (.int .u64 (z.toNat:Int)) /\ W.cell? ⟨b,0,none⟩ = some (.int .i64 (a:Int))) (by kernel_rfl) rfl (fun _ _ h=>h) ?_;refine wpAnyH_take (i:=0) (v:=.int .u64 (z.toNat:Int)) rfl (by kernel_rfl) (by kernel_rfl) (by kernel_rfl) (fun _ _ _ h=>h) (Or.inl ⟨by rfl,fun W hW=>by obtain ⟨h1,h2⟩:=hW;go_simp⟩) hS0 ?_;refine wpAnyH_take (i:=1) (v:=.int .i64 (a:Int)) rfl (by kernel_rfl) (by kernel_rfl) (by kernel_rfl) (fun _ _ _ h=>h) (Or.inl ⟨by rfl,fun W hW=>by obtain ⟨h1,h2⟩:=hW;go_simp⟩) hS0 ?_;refine wpAnyH_take (i:=2) (v:=.int .i64 (i:Int)) rfl (by kernel_rfl) (by kernel_rfl) (by kernel_rfl) (fun _ _ _ h=>h) (Or.inl ⟨by rfl,fun W hW=>by go_simp⟩) hS0 ?_;refine wpAnyH_take (i:=3) (v:=.int .i64 ((a + i:Nat):Int)) rfl (by kernel_rfl) (by kernel_rfl) (by kernel_rfl) (fun _ _ _ h=>h) (Or.inl ⟨by rfl,fun W hW=>by go_simp⟩) hS0 ?_;refine wpAnyH_take (i:=4) (v:=.int .i64 ((a + i + 1:Nat):Int)) rfl (by kernel_rfl) (by kernel_rfl) (by kernel_rfl) (fun _ _ _ h=>h) (Or.inl ⟨by rfl,fun W hW=>by go_simp⟩) hS0 ?_;simp only [jp,jb2];refine ybF (i:=5) rfl (by kernel_rfl) rfl (by go_simp;rfl) (by constructor <;> go_simp) ?_;refine ybF (i:=6) rfl (by kernel_rfl) rfl (by go_simp;rfl) (by constructor <;> go_simp) ?_;refine ybF (i:=7) rfl (by kernel_rfl) rfl (by go_simp;rfl) (by constructor <;> go_simp) ?_;refine jwd (by kernel_rfl) ?_ _;clear w1 w2;gi_wp2
       exact ⟨(hKF.trans (((((KeepsOthers.drew _).trans (jks _ _ _)).trans (jks _ _ _)).trans (jks _ _ _)).from _)),z,a + i + 1,0,⟨rfl,pre,x,rfl,HCO.out,HNC.out,by rw [HNN.out];exact HST.out.symm⟩,((hB2d.setCell (p:=⟨b + 1,0,none⟩) (by show b <= b + 1;omega) _).setCell (p:=⟨b + 1 + 1,0,none⟩) (by show b <= b + 1 + 1;omega) _).setCell (p:=⟨b + 1 + 1 + 1,0,none⟩) (by show b <= b + 1 + 1 + 1;omega) _,((u1.set _).other (by omega) _).other (by omega) _,((u2.other (by omega) _).set _).other (by omega) _,((u3.other (by omega) _).other (by omega) _).set _⟩
     ·have t1:((i:Int) == 9) = false:=by simp;omega
      have H9:=jh h9;have HI9:=jh hi9;by_cases hi0:0 < i
      ·have t6:(0:Int) < (i:Int):=by omega
       by_cases hc0:cn = 0
       ·have t5:((cn:Int) == 0) = true:=by simp;omega
        have hst:ydw s.data.toList a x.val nn = (0,0,8):=by rw [HST9.out,if_pos ⟨by omega,hc0⟩]
        have HST:=jh hst;have HC0:=jh hc0;clear hst hc0 h9 hi9;gi_wp2_with fail
        refine ⟨trivial,(CallsIn.inRound l (callsIn_wide.2 (yeZ _ _))).mono ?_⟩;rintro e w' ⟨rfl,rfl⟩;gi_wp2_with fail
        exact ⟨(hKF.trans ((((jks _ _ _).trans (jks _ _ _)).trans (jks _ _ _)).from _)),(0,0,8),⟨rfl,pre,x,rfl,HCO.out,HNC.out,by rw [HNN.out];exact HST.out.symm⟩,((hB2.setCell (p:=⟨b + 1,0,none⟩) (by show b <= b + 1;omega) _).setCell (p:=⟨b + 1 + 1,0,none⟩) (by show b <= b + 1 + 1;omega) _).setCell (p:=⟨b + 1 + 1 + 1,0,none⟩) (by show b <= b + 1 + 1 + 1;omega) _,((u1.set _).other (by omega) _).other (by omega) _,((u2.other (by omega) _).set _).other (by omega) _,((u3.other (by omega) _).other (by omega) _).set _⟩
       ·have t5:((cn:Int) == 0) = false:=by simp;omega
        have hst:ydw s.data.toList a x.val nn = (z,a + i + 1,0):=by rw [HST9.out,if_neg (by rintro ⟨_,h⟩;exact hc0 h)]
        have HST:=jh hst;have HC0:=jh hc0;clear hst hc0 h9 hi9;have w1:IntKind.i64.wrap ((a:Int) + (i:Int)) = (a:Int) + (i:Int):=jii _ (by omega);have w2:IntKind.i64.wrap ((a:Int) + (i:Int) + 1) = (a:Int) + (i:Int) + 1:=jii _ (by omega);gi_wp2
        have hS0:W2.drew.cell? ⟨b + 4 + 1,0,none⟩ = some (.int .u64 (z.toNat:Int)) /\ W2.drew.cell? ⟨b,0,none⟩ = some (.int .i64 (a:Int)):=⟨e5,e0⟩;have hB2d:Below b w W2.drew:=⟨hB2.os,hB2.tape,hB2.output,hB2.size,hB2.block⟩;refine ycB (fun W=>W.cell? ⟨b + 4 + 1,0,none⟩ = some (.int .u64 (z.toNat:Int)) /\ W.cell? ⟨b,0,none⟩ = some (.int .i64 (a:Int))) (by kernel_rfl) rfl (fun _ _ h=>h) ?_;refine wpAnyH_take (i:=0) (v:=.int .u64 (z.toNat:Int)) rfl (by kernel_rfl) (by kernel_rfl) (by kernel_rfl) (fun _ _ _ h=>h) (Or.inl ⟨by rfl,fun W hW=>by obtain ⟨h1,h2⟩:=hW;go_simp⟩) hS0 ?_;refine wpAnyH_take (i:=1) (v:=.int .i64 (a:Int)) rfl (by kernel_rfl) (by kernel_rfl) (by kernel_rfl) (fun _ _ _ h=>h) (Or.inl ⟨by rfl,fun W hW=>by obtain ⟨h1,h2⟩:=hW;go_simp⟩) hS0 ?_;refine wpAnyH_take (i:=2) (v:=.int .i64 (i:Int)) rfl (by kernel_rfl) (by kernel_rfl) (by kernel_rfl) (fun _ _ _ h=>h) (Or.inl ⟨by rfl,fun W hW=>by go_simp⟩) hS0 ?_;refine wpAnyH_take (i:=3) (v:=.int .i64 ((a + i:Nat):Int)) rfl (by kernel_rfl) (by kernel_rfl) (by kernel_rfl) (fun _ _ _ h=>h) (Or.inl ⟨by rfl,fun W hW=>by go_simp⟩) hS0 ?_;refine wpAnyH_take (i:=4) (v:=.int .i64 ((a + i + 1:Nat):Int)) rfl (by kernel_rfl) (by kernel_rfl) (by kernel_rfl) (fun _ _ _ h=>h) (Or.inl ⟨by rfl,fun W hW=>by go_simp⟩) hS0 ?_;simp only [jp,jb2];refine ybF (i:=5) rfl (by kernel_rfl) rfl (by go_simp;rfl) (by constructor <;> go_simp) ?_;refine ybF (i:=6) rfl (by kernel_rfl) rfl (by go_simp;rfl) (by constructor <;> go_simp) ?_;refine ybF (i:=7) rfl (by kernel_rfl) rfl (by go_simp;rfl) (by constructor <;> go_simp) ?_;refine jwd (by kernel_rfl) ?_ _;clear w1 w2;gi_wp2
        exact ⟨(hKF.trans (((((KeepsOthers.drew _).trans (jks _ _ _)).trans (jks _ _ _)).trans (jks _ _ _)).from _)),z,a + i + 1,0,⟨rfl,pre,x,rfl,HCO.out,HNC.out,by rw [HNN.out];exact HST.out.symm⟩,((hB2d.setCell (p:=⟨b + 1,0,none⟩) (by show b <= b + 1;omega) _).setCell (p:=⟨b + 1 + 1,0,none⟩) (by show b <= b + 1 + 1;omega) _).setCell (p:=⟨b + 1 + 1 + 1,0,none⟩) (by show b <= b + 1 + 1 + 1;omega) _,((u1.set _).other (by omega) _).other (by omega) _,((u2.other (by omega) _).set _).other (by omega) _,((u3.other (by omega) _).other (by omega) _).set _⟩
      ·have t6:decide ((0:Int) < (i:Int)) = false:=by simp;omega
       have hst:ydw s.data.toList a x.val nn = (z,a + i + 1,0):=by rw [HST9.out,if_neg (by rintro ⟨h,_⟩;omega)]
       have HST:=jh hst;have HI0:=jh hi0;clear hst h9 hi9 hi0;have w1:IntKind.i64.wrap ((a:Int) + (i:Int)) = (a:Int) + (i:Int):=jii _ (by omega);have w2:IntKind.i64.wrap ((a:Int) + (i:Int) + 1) = (a:Int) + (i:Int) + 1:=jii _ (by omega);gi_wp2
       have hS0:W2.drew.cell? ⟨b + 4 + 1,0,none⟩ = some (.int .u64 (z.toNat:Int)) /\ W2.drew.cell? ⟨b,0,none⟩ = some (.int .i64 (a:Int)):=⟨e5,e0⟩;have hB2d:Below b w W2.drew:=⟨hB2.os,hB2.tape,hB2.output,hB2.size,hB2.block⟩;refine ycB (fun W=>W.cell? ⟨b + 4 + 1,0,none⟩ = some (.int .u64 (z.toNat:Int)) /\ W.cell? ⟨b,0,none⟩ = some (.int .i64 (a:Int))) (by kernel_rfl) rfl (fun _ _ h=>h) ?_;refine wpAnyH_take (i:=0) (v:=.int .u64 (z.toNat:Int)) rfl (by kernel_rfl) (by kernel_rfl) (by kernel_rfl) (fun _ _ _ h=>h) (Or.inl ⟨by rfl,fun W hW=>by obtain ⟨h1,h2⟩:=hW;go_simp⟩) hS0 ?_;refine wpAnyH_take (i:=1) (v:=.int .i64 (a:Int)) rfl (by kernel_rfl) (by kernel_rfl) (by kernel_rfl) (fun _ _ _ h=>h) (Or.inl ⟨by rfl,fun W hW=>by obtain ⟨h1,h2⟩:=hW;go_simp⟩) hS0 ?_;refine wpAnyH_take (i:=2) (v:=.int .i64 (i:Int)) rfl (by kernel_rfl) (by kernel_rfl) (by kernel_rfl) (fun _ _ _ h=>h) (Or.inl ⟨by rfl,fun W hW=>by go_simp⟩) hS0 ?_;refine wpAnyH_take (i:=3) (v:=.int .i64 ((a + i:Nat):Int)) rfl (by kernel_rfl) (by kernel_rfl) (by kernel_rfl) (fun _ _ _ h=>h) (Or.inl ⟨by rfl,fun W hW=>by go_simp⟩) hS0 ?_;refine wpAnyH_take (i:=4) (v:=.int .i64 ((a + i + 1:Nat):Int)) rfl (by kernel_rfl) (by kernel_rfl) (by kernel_rfl) (fun _ _ _ h=>h) (Or.inl ⟨by rfl,fun W hW=>by go_simp⟩) hS0 ?_;simp only [jp,jb2];refine ybF (i:=5) rfl (by kernel_rfl) rfl (by go_simp;rfl) (by constructor <;> go_simp) ?_;refine ybF (i:=6) rfl (by kernel_rfl) rfl (by go_simp;rfl) (by constructor <;> go_simp) ?_;refine ybF (i:=7) rfl (by kernel_rfl) rfl (by go_simp;rfl) (by constructor <;> go_simp) ?_;refine jwd (by kernel_rfl) ?_ _;clear w1 w2;gi_wp2
       exact ⟨(hKF.trans (((((KeepsOthers.drew _).trans (jks _ _ _)).trans (jks _ _ _)).trans (jks _ _ _)).from _)),z,a + i + 1,0,⟨rfl,pre,x,rfl,HCO.out,HNC.out,by rw [HNN.out];exact HST.out.symm⟩,((hB2d.setCell (p:=⟨b + 1,0,none⟩) (by show b <= b + 1;omega) _).setCell (p:=⟨b + 1 + 1,0,none⟩) (by show b <= b + 1 + 1;omega) _).setCell (p:=⟨b + 1 + 1 + 1,0,none⟩) (by show b <= b + 1 + 1 + 1;omega) _,((u1.set _).other (by omega) _).other (by omega) _,((u2.other (by omega) _).set _).other (by omega) _,((u3.other (by omega) _).other (by omega) _).set _⟩
  case done =>
   rintro D ys W hD rfl ⟨hco,hB,u0,u1,u2,u3,u4,u5,u6,u7⟩ hK;have e1:=u1.cell;have f1:=u1.frozen;have e2:=u2.cell;have f2:=u2.frozen;have e3:=u3.cell;have f3:=u3.frozen;have e4:=u4.cell;have hDW:D < W.heap.size:=(jes.1 hK).1;have hgo:yb5 s.data.toList a 10 0 0 = (0,0,3):=yoM s.data.toList a (ycS s a) (by rw [hsl];rfl) (by rw [hsl];exact ha) hco;have HGO:=jh hgo;clear hgo hco hsl;gi_wp2_with fail
   refine ⟨trivial,callsIn_wide.2 ((yeZ _ _).mono ?_)⟩;rintro e w' ⟨rfl,rfl⟩;gi_wp2_with fail
   have hK3:=(((jks W ⟨b + 1,0,none⟩ (.int .u64 0)).trans (jks _ ⟨b + 1 + 1,0,none⟩ (.int .i64 0))).trans (jks _ ⟨b + 1 + 1 + 1,0,none⟩ (.int .i64 3))).same D _ hK rfl;have t1:Boxed (((W.setCell ⟨b + 1,0,none⟩ (.int .u64 0)).setCell ⟨b + 1 + 1,0,none⟩ (.int .i64 0)).setCell ⟨b + 1 + 1 + 1,0,none⟩ (.int .i64 3)) (b + 1) 23 (.int .u64 0):=((u1.set _).other (by omega) _).other (by omega) _;have t2:Boxed (((W.setCell ⟨b + 1,0,none⟩ (.int .u64 0)).setCell ⟨b + 1 + 1,0,none⟩ (.int .i64 0)).setCell ⟨b + 1 + 1 + 1,0,none⟩ (.int .i64 3)) (b + 1 + 1) 3 (.int .i64 0):=((u2.other (by omega) _).set _).other (by omega) _;have t3:Boxed (((W.setCell ⟨b + 1,0,none⟩ (.int .u64 0)).setCell ⟨b + 1 + 1,0,none⟩ (.int .i64 0)).setCell ⟨b + 1 + 1 + 1,0,none⟩ (.int .i64 3)) (b + 1 + 1 + 1) 26 (.int .i64 3):=((u3.other (by omega) _).other (by omega) _).set _;have tb:=((hB.setCell (p:=⟨b + 1,0,none⟩) (by show b <= b + 1;omega) (.int .u64 0)).setCell (p:=⟨b + 1 + 1,0,none⟩) (by show b <= b + 1 + 1;omega) (.int .i64 0)).setCell (p:=⟨b + 1 + 1 + 1,0,none⟩) (by show b <= b + 1 + 1 + 1;omega) (.int .i64 3);refine ⟨by simp,.inl ⟨_,_,rfl,run_takeDeferred hK3,?_⟩⟩
   exact ⟨_,yc3 rfl _ _ _ _ _ _ _ _ rfl rfl rfl (ya8 ja5 rfl ((t1.kept (grownBy_putObj' _ D _) (by simp;omega)).cell)) (ya8 jb8 rfl ((t2.kept (grownBy_putObj' _ D _) (by simp;omega)).cell)) (ya8 je1 rfl ((t3.kept (grownBy_putObj' _ D _) (by simp;omega)).cell)),
    by rw [HGO.out];rfl,by first | exact tb.trans (belowK_b (w:=w) (by have:=HB.out;omega) _ D _ _ (by have:=HB.out;omega) hK3 rfl rfl) | (rw [HB.out];exact tb.trans (belowK_b (w:=w) (by have:=HB.out;omega) _ D _ _ (by have:=HB.out;omega) hK3 rfl rfl))⟩
  case stop =>
   rintro D c pre W hD hpre ⟨R,⟨rfl,pre',x,rfl,hco,hx,hR⟩,hB,u1,u2,u3⟩ hK;have hDW:D < W.heap.size:=(jes.1 hK).1
   have hgo:yb5 s.data.toList a 10 0 0 = R:=by
    rw [hR];exact ynJ s.data.toList a (ycS s a) (by unfold ycS;omega) (by rw [hsl];unfold ycS;omega) pre' x hpre hco hx
   have HGO:=jh hgo;clear hgo hco hsl hR hx;gi_wp2
   refine ⟨by simp,.inl ⟨_,_,rfl,run_takeDeferred hK,?_⟩⟩
   exact ⟨_,yc3 rfl _ _ _ _ _ _ _ _ rfl rfl rfl (ya8 ja5 rfl ((u1.kept (grownBy_putObj' _ D _) (by simp;omega)).cell)) (ya8 jb8 rfl ((u2.kept (grownBy_putObj' _ D _) (by simp;omega)).cell)) (ya8 je1 rfl ((u3.kept (grownBy_putObj' _ D _) (by simp;omega)).cell)),
    by rw [HGO.out],by first | exact hB.trans (belowK_b (w:=w) (by have:=HB.out;omega) _ D _ _ (by have:=HB.out;omega) hK rfl rfl) | (rw [HB.out];exact hB.trans (belowK_b (w:=w) (by have:=HB.out;omega) _ D _ _ (by have:=HB.out;omega) hK rfl rfl))⟩
def yaB (l:List UInt8):Nat -> Nat -> List Int × Nat × Int
 | 0,a=>([],a,0)
 | k + 1,a=>let r:=ybR l (a:Int)
  if r.2.2 ≠ 0 then ([],0,r.2.2) else let q:=yaB l k r.2.1
   if q.2.2 ≠ 0 then ([],0,q.2.2) else ((r.1.toNat:Int) :: q.1,q.2.1,0)
def yeP (xs:List Int) (q:List Int × Nat × Int):List Int × Nat × Int:=if q.2.2 ≠ 0 then ([],0,q.2.2) else (xs ++ q.1,q.2.1,0)
theorem ylq (l:List UInt8):∀ k a,(yaB l k a).2.2 ≠ 0 -> (yaB l k a).1 = [] /\ (yaB l k a).2.1 = 0
 | 0,a,h=>absurd rfl h
 | k + 1,a,h=>by
  rw [yaB] at h ⊢;simp only at h ⊢;split at h
  ·rename_i h1;rw [if_pos h1];exact ⟨rfl,rfl⟩
  ·rename_i h1
   rw [if_neg h1];split at h
   ·rename_i h2;rw [if_pos h2];exact ⟨rfl,rfl⟩
   ·exact absurd rfl h
theorem ymU (l:List UInt8) (k a:Nat):yeP [] (yaB l k a) = yaB l k a:=by
 unfold yeP;split
 ·rename_i h
  obtain ⟨h1,h2⟩:=ylq l k a h;rw [<- h1,<- h2]
 ·rename_i h
  have:(yaB l k a).2.2 = 0:=jb9.1 h;rw [<- this];rfl
theorem ylj (l:List UInt8) (xs:List Int) (k a:Nat) (r:BitVec 64) (tz:Nat) (h:ybR l (a:Int) = (r,tz,0)):yeP xs (yaB l (k + 1) a) = yeP (xs ++ [(r.toNat:Int)]) (yaB l k tz):=by
 rw [yaB];simp only [h];rw [if_neg (by simp)];by_cases h2:(yaB l k tz).2.2 ≠ 0
 ·rw [if_pos h2];simp [yeP,h2]
 ·rw [if_neg h2];simp [yeP,h2]
theorem ylk (l:List UInt8) (xs:List Int) (k a:Nat) (r:BitVec 64) (tz:Nat) (e:Int) (he:e ≠ 0) (h:ybR l (a:Int) = (r,tz,e)):yeP xs (yaB l (k + 1) a) = ([],0,e):=by
 rw [yaB];simp only [h];rw [if_pos he];simp [yeP,he]
def ybz (l:List UInt8) (at_ n:Int):List Int × Nat × Int:=if n < 0 \/ 4096 < n \/ at_ < 0 \/ (l.length:Int) < at_ then ([],0,1) else yaB l n.toNat at_.toNat
theorem yh6 (l:List UInt8) (a:Nat) (r:BitVec 64) (tz:Nat) (h:ybR l (a:Int) = (r,tz,0)):tz <= l.length:=(yff l a r tz h).2.1
theorem ynF:(jq.info? 23).map (fun i=>(i.zero,i.size,i.bytes)) = some (some (.int .u64 0),1,8):=by kernel_rfl
theorem ylr (s:ByteArray) (at_ n:Int) (hs:s.size <= 1000000000000) (w:World) :
  Calls jq 92 #[.string s,.int .i64 at_,.int .i64 n] w fun e w'=>∃ v,e = .returned (.tuple #[v,.int .i64 ((ybz s.data.toList at_ n).2.1:Int),.int .i64 (ybz s.data.toList at_ n).2.2]) /\
   w'.ownsRow w.heap.size 23 1 v (ybz s.data.toList at_ n).1.length ((ybz s.data.toList at_ n).1.map (Value.int .u64)) /\ Below w.heap.size w w':=by
 have hsl:=yar s;by_cases hbad:n < 0 \/ 4096 < n \/ at_ < 0 \/ (s.size:Int) < at_
 ·have he:ybz s.data.toList at_ n = ([],0,1):=by unfold ybz;rw [if_pos (by rw [hsl];exact hbad)]
  rw [he];clear he hsl;go_enter Tryz.func92,Tryz.ntmps92
  by_cases h1:n < 0
  ·go_wp2_with fail
   go_ret3
   exact ⟨_,rfl,jon _ _ _ _,jc5 _ _⟩
  ·by_cases h2:4096 < n
   ·go_wp2_with fail
    go_ret3
    exact ⟨_,rfl,jon _ _ _ _,jc5 _ _⟩
   ·have d1:decide (n < 0) = false:=by simpa using h1
    have d2:decide (4096 < n) = false:=by simpa using h2
    by_cases h3:at_ < 0
    ·go_wp2_with fail
     go_ret3
     exact ⟨_,rfl,jon _ _ _ _,jc5 _ _⟩
    ·have d3:decide (at_ < 0) = false:=by simpa using h3
     have h4:(s.size:Int) < at_:=by omega
     go_wp2_with fail
     go_ret3
     exact ⟨_,rfl,jon _ _ _ _,jc5 _ _⟩
 ·obtain ⟨a0,rfl⟩:=jez (show 0 <= at_ by omega);obtain ⟨N,rfl⟩:=jez (show 0 <= n by omega);have he:ybz s.data.toList (a0:Int) (N:Int) = yaB s.data.toList N a0:=by unfold ybz;rw [if_neg (by rw [hsl];exact hbad)];rfl
  rw [he];have hN:N <= 4096:=by omega
  have ha:a0 <= s.size:=by omega
  have d1:decide ((N:Int) < 0) = false:=by simp
  have d2:decide (4096 < (N:Int)) = false:=by simp;omega
  have d3:decide ((a0:Int) < 0) = false:=by simp
  have d4:decide ((s.size:Int) < (a0:Int)) = false:=by simp;omega
  have d5:decide (s.size < a0) = false:=by simp;omega
  obtain ⟨R,hR⟩:∃ R,yaB s.data.toList N a0 = R:=⟨_,rfl⟩;rw [hR];have HR:=jh hR;have HSL:=jh hsl;clear he hbad hR hsl;obtain ⟨i0,hi,hz0,hz1,hz2⟩:=info_parts ynF;go_enter Tryz.func92,Tryz.ntmps92
  go_wp2_with fail
  go_loopw [1,9,30] (fun p v i wr=>∃ (k a:Nat) (xs:List Int),i = .int .i64 (k:Int) /\ p = .int .i64 (a:Int) /\ k <= N /\ a <= s.size /\ wr.ownsRow w.heap.size 23 1 v xs.length (xs.map (Value.int .u64)) /\ xs.length <= k /\ Hid (yeP xs (yaB s.data.toList (N - k) a) = R) /\ Below w.heap.size w wr) (fun _ _ i _=>N - (intOf i).toNat)
  case atStart=>exact ⟨0,a0,[],rfl,rfl,by omega,ha,jon _ _ _ _,by simp,by show yeP [] (yaB _ (N - 0) a0) = R;rw [ymU];exact HR.out,jc5 _ _⟩
  case round =>
   obtain ⟨k,a,xs,rfl,rfl,hk,ha,hown,hxk,hst,hbel⟩:=hrel;have hsz:=hbel.size;obtain ⟨A,cc,rfl,_⟩:=yaN hown;by_cases hlt:k < N
   ·have hun:=ylp s (a:Int) hs wr;obtain ⟨r,tz,e0,hr⟩:∃ r tz e0,ybR s.data.toList (a:Int) = (r,tz,e0):=⟨_,_,_,rfl⟩;rw [hr] at hun;obtain ⟨m,hm⟩:∃ m,N - k = m + 1:=⟨N - k - 1,by omega⟩;have hst':=hst.out;rw [hm] at hst';by_cases he0:e0 = 0
    ·subst he0;have hto:=yh6 _ _ _ _ hr;rw [HSL.out] at hto;rw [ylj _ _ _ _ _ _ hr] at hst';have HST:=jh hst';have HM:=jh hm;clear hr hst hst' hm;go_wp2_with fail
     refine hun.mono ?_;rintro e w2 ⟨rfl,hb2⟩;have hown2:=hown.kept (yae hb2) (Classical.em _);have hbel2:Below w.heap.size w w2:=hbel.trans (hb2.mono hsz);have hsz2:=hbel2.size;clear hun hown hbel hb2;go_wp2_with (at_builtin;refine wpList_append_own _ rfl _ _ 52 rfl w.heap.size 23 i0 (.int .u64 0) 1 8 Tryz.underlying52 hi hz0 hz1 hz2 rfl (by decide) _ _ _ rfl (hown2.alloc _) ⟨w2.heap.size,0,none⟩ 1 1 [.int .u64 (r.toNat:Int)] rfl rfl (cell_one_new _ _ _) (by simp [ja2]) (by simp only [maxLen];omega) (by omega) (by simp;omega) ?_;intro v' w4 hown4 hgrow _)
     obtain ⟨g',cap',rfl⟩:=ownsRow_succ hown4;have hb4:Below w.heap.size w w4:=(hbel2.alloc hsz2 _).grown hgrow (by simp;omega) (fun j hj=>yek hown2 hj);go_wp2_with fail
     go_roundw
     case rel=>exact ⟨k + 1,tz,xs ++ [(r.toNat:Int)],by simp,rfl,by omega,hto,by simpa using hown4,by simp;omega,by show yeP _ (yaB _ (N - (k + 1)) tz) = R;rw [show N - (k + 1) = m by have:=HM.out;omega];exact HST.out,hb4⟩
     case measure=>simp [intOf];omega
    ·rw [ylk _ _ _ _ _ _ _ he0 hr] at hst';have HST:=jh hst';have hne:(e0 != 0) = true:=by simpa using he0
     clear hr hst hst' hm he0;go_wp2_with fail
     refine hun.mono ?_;rintro e w2 ⟨rfl,hb2⟩;have hbel2:Below w.heap.size w w2:=hbel.trans (hb2.mono hsz);go_wp2_with fail
     go_ret3
     exact ⟨_,by rw [<- HST.out];rfl,by rw [<- HST.out];exact jon _ _ _ _,hbel2⟩
   ·have hst':=hst.out;rw [show N - k = 0 by omega] at hst';have hR2:R = (xs,a,0):=by rw [<- hst'];simp [yeP,yaB]
    have HR2:=jh hR2;have hfin:decide ((k:Int) < (N:Int)) = false:=by simp;omega
    have hfin2:decide (k < N) = false:=by simp;omega
    clear hst hst' hR2;go_wp2_with fail
    go_ret3
    exact ⟨_,by rw [HR2.out];rfl,by rw [HR2.out];exact hown,hbel⟩
theorem ypI (m:Nat) (hm:m <= 1000000) (w:World):(Instr.makeSlice 47 (.int .i64 (m:Int)) (.int .i64 (m:Int))).run jq w =
  .ok (.slice (some ⟨w.heap.size,0,none⟩) m m) (w.alloc (.cells (je4 m (.bool false)) 4)):=by
 have hs:(jq.info? 4).isSome = true:=by kernel_rfl
 obtain ⟨i,hi⟩:=Option.isSome_iff_exists.1 hs;have hb:(jq.info? 4).map (·.bytes) = some 1:=by kernel_rfl
 have hsz:(jq.info? 4).map (·.size) = some 1:=by kernel_rfl
 have hz:(jq.info? 4).bind (·.zero) = some (.bool false):=by kernel_rfl
 rw [hi] at hb hsz hz;simp only [Option.map_some,ja1.injEq,Option.bind_some] at hb hsz hz;have hmk:=ybY (P:=jq) 47 4 i _ (by kernel_rfl) hi hz .i64 .i64 m m (jle _) (by rw [hb];omega) (by omega) w;rw [hmk,hsz];congr 3;refine Array.ext_getElem? fun j=>?_;by_cases hj:j < m
 ·simp [madeCells,hj,Value.cells,Nat.mod_one]
 ·rw [jc8 (by simp [madeCells];omega),jc8 (by simp;omega)]
theorem ypH (m:Nat) (hm:m <= 1000000) (w:World):(Instr.makeSlice 52 (.int .i64 (m:Int)) (.int .i64 (m:Int))).run jq w =
  .ok (.slice (some ⟨w.heap.size,0,none⟩) m m) (w.alloc (.cells (je4 m (.int .u64 0)) 23)):=by
 have hs:(jq.info? 23).isSome = true:=by kernel_rfl
 obtain ⟨i,hi⟩:=Option.isSome_iff_exists.1 hs;have hb:(jq.info? 23).map (·.bytes) = some 8:=by kernel_rfl
 have hsz:(jq.info? 23).map (·.size) = some 1:=by kernel_rfl
 have hz:(jq.info? 23).bind (·.zero) = some (.int .u64 0):=by kernel_rfl
 rw [hi] at hb hsz hz;simp only [Option.map_some,ja1.injEq,Option.bind_some] at hb hsz hz;have hmk:=ybY (P:=jq) 52 23 i _ (by kernel_rfl) hi hz .i64 .i64 m m (jle _) (by rw [hb];omega) (by omega) w;rw [hmk,hsz];congr 3;refine Array.ext_getElem? fun j=>?_;by_cases hj:j < m
 ·simp [madeCells,hj,Value.cells,Nat.mod_one]
 ·rw [jc8 (by simp [madeCells];omega),jc8 (by simp;omega)]
theorem yha {W:World} {t:TypeId} (m:Nat) (v:Value) {base:Nat} (hm:m <= 1000000) (hb:base <= W.heap.size):(W.alloc (.cells (je4 m v) t)).ownsRow base t 1 (.slice (some ⟨W.heap.size,0,none⟩) m m) m (jc1 m v) :=
 ⟨by simp,.inr ⟨W.heap.size,m,je4 m v,rfl,hb,Blk.new W t _,jle _,by simp only [maxLen];omega,by simp,by simp⟩⟩
def btE (s:ByteArray) (a n:Nat) (E:Int):Int:=if tkE s a ((n + 7) / 8) E = 0 then ybq (tkS s a ((n + 7) / 8) E).data.toList n else tkE s a ((n + 7) / 8) E
def btA (s:ByteArray) (a n:Nat) (E:Int):Nat:=tkA s a ((n + 7) / 8) E
def btL (s:ByteArray) (a n:Nat) (E:Int):List Bool:=if btE s a n E = 0 then yaR (tkS s a ((n + 7) / 8) E).data.toList n else jc1 n false
theorem ygV (s:ByteArray) (a n:Nat) (E:Int):(tkS s a n E).size <= n:=by
 unfold tkS;split
 ·rw [ByteArray.size_extract];omega
 ·simp
theorem yfM (s:ByteArray) (a n:Nat) (E:Int) (r:Nat) (w:World) (h:Blk w r 67 (rdC s a E)) (hs:s.size <= 1000000000000) (ha:a <= s.size) (hn:n <= 4096) :
  Calls jq 48 #[.pointer (some ⟨r,0,none⟩),.int .i64 (n:Int)] w fun x w'=>∃ v,x = .returned v /\ w'.ownsRow w.heap.size 4 1 v (btL s a n E).length ((btL s a n E).map jc7) /\ Blk w' r 67 (rdC s (btA s a n E) (btE s a n E)) /\ w.grownBy w' (some r):=by
 have hr:=h.lt;obtain ⟨m,hm⟩:∃ m,(n + 7) / 8 = m:=⟨_,rfl⟩;have p:((n:Int) + 8 - 1).tdiv 8 = (m:Int):=by rw [je2 (by omega)];omega
 have p2:((n:Int) + 8 - 1) / 8 = (m:Int):=by omega
 have HT:=jh (ycE s a m E r w h hs ha (by omega));have e1:btE s a n E = if tkE s a m E = 0 then ybq (tkS s a m E).data.toList n else tkE s a m E:=by unfold btE;rw [hm]
 have e2:btA s a n E = tkA s a m E:=by unfold btA;rw [hm]
 have e3:btL s a n E = if btE s a n E = 0 then yaR (tkS s a m E).data.toList n else jc1 n false:=by unfold btL;rw [hm]
 have HSZ:=jh (jlt (ygV s a m E) (show m <= 1000 by omega));obtain ⟨T,hT⟩:∃ T,tkE s a m E = T:=⟨_,rfl⟩;obtain ⟨A,hA⟩:∃ T,tkA s a m E = T:=⟨_,rfl⟩;obtain ⟨p0,hp0⟩:∃ T,tkS s a m E = T:=⟨_,rfl⟩;obtain ⟨BE,hBE⟩:∃ T,btE s a n E = T:=⟨_,rfl⟩;obtain ⟨BL,hBL⟩:∃ T,btL s a n E = T:=⟨_,rfl⟩;rw [hT,hA,hp0] at HT;rw [hp0] at HSZ;rw [hBE,hT,hp0] at e1;rw [hA] at e2;rw [hBL,hBE,hp0] at e3;rw [e2,hBE,hBL];have HE1:=jh e1;have HE3:=jh e3;have HR:=jh hr;clear h hs ha e1 e2 e3 hT hA hp0 hBE hBL hm hr;go_enter Tryz.func48,Tryz.ntmps48
 go_wp2_with fail
 refine HT.out.mono ?_;rintro e w2 ⟨rfl,hb2,hg2⟩;have HB2:=jh hb2;have HG2:=jh hg2;have HZ:=jh hg2.size;clear hb2 hg2 HT p p2;have hmk:=fun V=>ypI n (by omega) V;by_cases h0:T = 0
 rotate_left
 ·have hBE:BE = T:=by rw [HE1.out,if_neg h0]
  have hBL:BL = jc1 n false:=by rw [HE3.out,if_neg (by rw [hBE];exact h0)]
  subst hBE hBL;rw [decide_eq_false h0];have HOW:=jh (yha (W:=w2) (t:=4) (base:=w.heap.size) n (.bool false) (by omega) HZ.out);clear h0;go_wp2_with fail
  go_ret
  exact ⟨_,rfl,by rw [List.length_replicate,List.map_replicate];exact HOW.out,HB2.out.alloc _,yaa HG2.out _⟩
 subst h0;go_wp2_with fail
 refine (ykj p0 n (by have:=HSZ.out;omega) w2).mono ?_;rintro e w3 ⟨v,rfl,hown,hb3⟩;have hg3:=yae hb3;obtain ⟨A',cc,rfl,_⟩:=yaN hown;have HOWN:=jh hown;obtain ⟨U,hU⟩:∃ U,ybq p0.data.toList n = U:=⟨_,rfl⟩;have HBU:Hid (BE = U):=jh (by have:=HE1.out;simpa [hU] using this);rw [hU];obtain ⟨m2,hm2⟩:∃ k,(yaR p0.data.toList n).length = k:=⟨_,rfl⟩;rw [hm2] at HOWN ⊢;have HM2:=jh hm2;have HB3:=jh (HB2.out.grown hg3 (by simp));have HG3:=jh (yab HG2.out hg3 (by simp));have HZ3:=jh hg3.size;clear hown hb3 hg3 hU hm2;go_wp2_with fail
 refine (yb1 s A 0 U r w3 HB3.out).mono ?_;rintro e w4 ⟨rfl,hb4,hg4⟩;rw [show kE 0 U = U from if_pos rfl] at hb4 ⊢;have hown4:=HOWN.out.kept hg4 (by right;intro e;have:=yaj HOWN.out e;have:=HZ.out;have:=HR.out;omega);have HOW4:=jh (yfx hown4 HZ.out);have HB4:=jh hb4;have HG4:=jh (yab HG3.out hg4 (by intro k hk;exact .inl hk));have HZ4:Hid (w.heap.size <= w4.heap.size):=jh (jlt HZ.out (jlt HZ3.out hg4.size));clear hb4 hg4 hown4;have hBE:BE = U:=HBU.out;subst hBE;by_cases hu:BE = 0
 ·subst hu;have hBL:BL = yaR p0.data.toList n:=by rw [HE3.out,if_pos rfl]
  subst hBL;go_wp2_with fail
  go_ret
  exact ⟨_,rfl,by rw [HM2.out];exact HOW4.out,HB4.out,HG4.out⟩
 ·have hBL:BL = jc1 n false:=by rw [HE3.out,if_neg hu]
  subst hBL;rw [decide_eq_false hu];have HOW:=jh (yha (W:=w4) (t:=4) (base:=w.heap.size) n (.bool false) (by omega) HZ4.out);clear hu;go_wp2_with fail
  go_ret
  exact ⟨_,rfl,by rw [List.length_replicate,List.map_replicate];exact HOW.out,HB4.out.alloc _,yaa HG4.out _⟩
theorem yfD {P:Program} {a:Act} {o:Oper} {W:World} (f:FuncId) (x y z:Operand) (ts:Array TypeId) (ho:o.op = .call { callee:=.value (.func f),args:=#[x,y,z],argTypes:=ts }) (v u t:Value) (hx:a.eval x = v) (hy:a.eval y = u) (hz:a.eval z = t)
  (hf:(callFunc f #[v,u,t]).run P W = .ok (.enter f #[v,u,t]) W):(execOp a.eval o).run P W = .ok (.enter f #[v,u,t]) W:=by
 have he:a.eval (.func f) = .func (.func f) #[] #[]:=rfl;unfold execOp;generalize a.eval = ev at *;simp only [ho];simp [resolve,invoke,go_sem,hx,hy,hz,he,hf]
theorem ynt {W:World} {base n c:Nat} {e:TypeId} {A:Option Addr} {xs:List Value} (h:W.ownsRow base e 1 (.slice A n c) n xs) {p:Addr} (hne:(ja4 A n c).ownBlock ≠ some p.block) (u:Value):(W.setCell p u).ownsRow base e 1 (.slice A n c) n xs:=by
 have h':=h;rcases h.2 with ⟨h1,h2⟩ | ⟨g,cap,cur,hv,hb,hg,rest⟩
 ·exact ⟨h.1,.inl ⟨h1,h2⟩⟩
 ·cases hv;exact yda h' (p:=p) (fun e=>hne (by simp [jc2,e])) u
def nuE (s:ByteArray) (a n:Nat) (E:Int):Int:=if E = 0 then (ybz s.data.toList a n).2.2 else E
def nuA (s:ByteArray) (a n:Nat) (E:Int):Nat:=if nuE s a n E = 0 then (ybz s.data.toList a n).2.1 else a
def nuL (s:ByteArray) (a n:Nat) (E:Int):List Int:=if nuE s a n E = 0 then (ybz s.data.toList a n).1 else jc1 n 0
theorem yeF (s:ByteArray) (a n:Nat) (E:Int) (r:Nat) (w:World) (h:Blk w r 67 (rdC s a E)) (hs:s.size <= 1000000000000) (ha:a <= s.size) (hn:n <= 4096) :
  Calls jq 53 #[.pointer (some ⟨r,0,none⟩),.int .i64 (n:Int)] w fun x w'=>∃ v,x = .returned v /\ w'.ownsRow w.heap.size 23 1 v (nuL s a n E).length ((nuL s a n E).map (Value.int .u64)) /\ Blk w' r 67 (rdC s (nuA s a n E) (nuE s a n E)) /\ w.grownBy w' (some r):=by
 have hr:=h.lt;have HR:=jh hr;have hmk:=fun V=>ypH n (by omega) V;have c2:=h.cell 2;simp only [rdC,jta,jcz,jcs] at c2;by_cases h0:E = 0
 rotate_left
 ·have e1:(E != 0) = true:=by simpa using h0
  have t1:nuE s a n E = E:=if_neg h0;have t2:nuA s a n E = a:=by unfold nuA;rw [t1,if_neg h0]
  have t3:nuL s a n E = jc1 n 0:=by unfold nuL;rw [t1,if_neg h0]
  rw [t1,t2,t3];have HOW:=jh (yha (W:=w) (t:=23) (base:=w.heap.size) n (.int .u64 0) (by omega) (jle _));have HB:=jh h;clear h0 t1 t2 t3 h;go_enter Tryz.func53,Tryz.ntmps53
  go_wp2_with fail
  go_ret
  exact ⟨_,rfl,by rw [List.length_replicate,List.map_replicate];exact HOW.out,HB.out.alloc _,yaa (jr w _) _⟩
 subst h0;obtain ⟨L,hL⟩:∃ L,(ybz s.data.toList a n).1 = L:=⟨_,rfl⟩;obtain ⟨to_,hto⟩:∃ L,(ybz s.data.toList a n).2.1 = L:=⟨_,rfl⟩;obtain ⟨U,hU⟩:∃ L,(ybz s.data.toList a n).2.2 = L:=⟨_,rfl⟩;have t1:nuE s a n 0 = U:=by unfold nuE;rw [if_pos rfl,hU]
 have t2:nuA s a n 0 = if U = 0 then to_ else a:=by unfold nuA;rw [t1,hto]
 have t3:nuL s a n 0 = if U = 0 then L else jc1 n 0:=by unfold nuL;rw [t1,hL]
 have HUN:=jh (fun V=>ylr s a n hs V);rw [hL,hto,hU] at HUN;obtain ⟨RA,hRA⟩:∃ x,nuA s a n 0 = x:=⟨_,rfl⟩;obtain ⟨RL,hRL⟩:∃ x,nuL s a n 0 = x:=⟨_,rfl⟩;rw [hRA] at t2;rw [hRL] at t3;have HRA:=jh t2;have HRL:=jh t3;rw [t1,hRA,hRL];have HB:=jh h;clear h t1 t2 t3 hL hto hU hRA hRL;go_enter Tryz.func53,Tryz.ntmps53
 go_upto_region 3 with (fail)
 clear c2;refine jwh (S:=fun V=>Blk V r 67 (rdC s a 0)) (by kernel_rfl) ?_;change wpAnyH _ _ _ _ _ _ _ _ w.drew;have hS0:Blk w.drew r 67 (rdC s a 0):=HB.out;have hg0:w.grownBy w.drew none:=ya2 (jr w none);generalize w.drew = u0 at *;refine zt 0 (.pointer (some ⟨r,0,none⟩)) (some 16) rfl (fun W hW=>by go_simp) hS0 ?_;simp only [jp,jb,jz,js];refine zt 1 (.pointer (some ⟨r,0,none⟩)) (some 17) rfl (fun W hW=>by go_simp) hS0 ?_;simp only [jp,jb,jz,js];refine zt 2 (.pointer (some ⟨r,0,none⟩)) (some 18) rfl (fun W hW=>by go_simp) hS0 ?_;simp only [jp,jb,jz,js];refine zt 3 (.string s) (some 19) rfl (fun W hW=>yaf 9 (.tmp 18) rfl _ rfl _ _ ja9 rfl ((Blk.cell hW 0).trans rfl)) hS0 ?_;simp only [jp,jb,jz,js];refine zt 4 (.pointer (some ⟨r,0,none⟩)) (some 20) rfl (fun W hW=>by go_simp) hS0 ?_;simp only [jp,jb,jz,js];refine zt 5 (.pointer (some ⟨r,0,none⟩)) (some 21) rfl (fun W hW=>by go_simp) hS0 ?_;simp only [jp,jb,jz,js];refine zt 6 (.pointer (some ⟨r,1,none⟩)) (some 22) rfl (fun W hW=>by go_simp) hS0 ?_;simp only [jp,jb,jz,js];refine zt 7 (.int .i64 (a:Int)) (some 23) rfl (fun W hW=>yaf 3 (.tmp 22) rfl _ rfl _ _ jb8 rfl ((Blk.cell hW 1).trans rfl)) hS0 ?_;simp only [jp,jb,jz,js];refine zt 8 (.int .i64 (n:Int)) (some 24) rfl (fun W hW=>by go_simp) hS0 ?_;simp only [jp,jb,jz,js];refine yam (i:=9) (by kernel_rfl) ?_;refine ybe (some 25) rfl rfl 92 #[.string s,.int .i64 (a:Int),.int .i64 (n:Int)] (yfD _ (.tmp 19) (.tmp 23) (.tmp 24) _ rfl _ _ _ rfl rfl rfl (jeo Tryz.func92 (by kernel_rfl) rfl _ _)) rfl ((HUN.out u0).mono ?_);rintro e w3 ⟨v,rfl,hown,hb3⟩;have hg3:=yae hb3;obtain ⟨A',cc,rfl,_⟩:=yaN hown;obtain ⟨m,hm⟩:∃ k,L.length = k:=⟨_,rfl⟩;rw [hm] at hown ⊢;have HOWN:=jh hown;have HM:=jh hm;have HG3:=jh (yab hg0 hg3 (by simp));have hZ:w.heap.size <= u0.heap.size:=hg0.size;have HZ:=jh hZ;have HZ3:=jh hg3.size;replace hS0:=hS0.grown hg3 (by simp);refine ⟨_,rfl,hS0,?_⟩;simp only [jp,jb,jz,js];clear hown hb3 hg3 hm hZ hg0;refine zt 10 (.tuple #[.slice A' m cc,.int .i64 (to_:Int),.int .i64 U]) (some 15) rfl (fun W hW=>yan (.tmp 25) rfl _ rfl) hS0 ?_;simp only [jp,jb,jz,js];refine zt 11 (.slice A' m cc) (some 26) rfl (fun W hW=>by go_simp) hS0 ?_;simp only [jp,jb,jz,js];refine zt 12 (.int .i64 (to_:Int)) (some 27) rfl (fun W hW=>by go_simp) hS0 ?_;simp only [jp,jb,jz,js];refine zt 13 (.int .i64 U) (some 28) rfl (fun W hW=>by go_simp) hS0 ?_;simp only [jp,jb,jz,js];refine zt 14 (.slice A' m cc) (some 5) rfl (fun W hW=>by go_simp) hS0 ?_;simp only [jp,jb,jz,js];refine zt 15 (.int .i64 (to_:Int)) (some 6) rfl (fun W hW=>by go_simp) hS0 ?_;simp only [jp,jb,jz,js];refine zt 16 (.int .i64 U) (some 7) rfl (fun W hW=>by go_simp) hS0 ?_;simp only [jp,jb,jz,js];refine jwd (by kernel_rfl) ?_ _;have HB3:=jh hS0;clear hS0;go_wp2_with fail
 refine (yb1 s a 0 U r w3 HB3.out).mono ?_;rintro e w4 ⟨rfl,hb4,hg4⟩;rw [show kE 0 U = U from if_pos rfl] at hb4 ⊢;have hown4:=HOWN.out.kept hg4 (by right;intro e;have:=yaj HOWN.out e;have:=HZ.out;have:=HR.out;omega);have HOW4:=jh (yfx hown4 HZ.out);have HB4:=jh hb4;have HG4:=jh (yab (yb4 HG3.out (some r)) hg4 (fun k hk=>.inl hk));have HZ4:Hid (w.heap.size <= w4.heap.size):=jh (jlt HZ.out (jlt HZ3.out hg4.size));clear hb4 hg4 hown4;by_cases hu:U = 0
 ·subst hu;obtain rfl:RA = to_:=by have:=HRA.out;simpa using this
  obtain rfl:RL = L:=by have:=HRL.out;simpa using this
  have c1:=HB4.out.cell 1;simp only [rdC,jta,jcz,jcs] at c1;have f1:=HB4.out.frozen 1;have HB5:=jh (HB4.out.set_ 1 (.int .i64 (RA:Int)));have HG5:=jh (ybg HG4.out 1 (.int .i64 (RA:Int)));have HOW5:=jh (ynt HOW4.out (p:=⟨r,1,none⟩) (fun e=>by have:=yaj HOW4.out (show _ = some r from e);have:=HR.out;omega) (.int .i64 (RA:Int)));go_wp2_with fail
  go_ret
  exact ⟨_,rfl,by rw [HM.out];exact HOW5.out,HB5.out,HG5.out⟩
 ·obtain rfl:RA = a:=by have:=HRA.out;rwa [if_neg hu] at this
  obtain rfl:RL = jc1 n 0:=by have:=HRL.out;rwa [if_neg hu] at this
  have HOW:=jh (yha (W:=w4) (t:=23) (base:=w.heap.size) n (.int .u64 0) (by omega) HZ4.out);rw [decide_eq_false hu];have HU:=jh hu;clear hu;go_wp2_with fail
  go_ret
  exact ⟨_,rfl,by rw [List.length_replicate,List.map_replicate];exact HOW.out,HB4.out.alloc _,yaa HG4.out _⟩
theorem yfT (S:ByteArray) (hS:S.size ≠ 32) (w:World) :
  Calls jq 84 #[.string S] w fun e w'=>e = .returned (.tuple #[.agg (ybp 0),.int .i64 2]) /\ w.grownBy w' none:=by
 have q:((S.size:Int) != 32) = true:=by simp;omega
 have hG:=yaa (jr w none) (.cells #[.int .u64 0,.int .u64 0,.int .u64 0,.int .u64 0] 38);have hb:=Blk.new w 38 #[.int .u64 0,.int .u64 0,.int .u64 0,.int .u64 0];have HG:=jh hG;have HB:=jh hb;clear hS hG hb;go_enter Tryz.func84,Tryz.ntmps84
 go_wp2_with fail
 refine jbr (ybH (fn:=Tryz.f84) rfl _ _ _ _ rfl (ybB HB.out)) rfl ?_;exact ⟨by simp [ybp,ydU],HG.out⟩
def wdN (s:ByteArray) (a:Nat) (E:Int):Nat:=if tkE s a 32 E = 0 then beV (tkS s a 32 E).data.toList else 0
theorem yh3 (s:ByteArray) (a:Nat) (E:Int) (r:Nat) (w:World) (h:Blk w r 67 (rdC s a E)) (hs:s.size <= 1000000000000) (ha:a <= s.size) :
  Calls jq 51 #[.pointer (some ⟨r,0,none⟩)] w fun x w'=>x = .returned (.agg (ybp (wdN s a E))) /\ Blk w' r 67 (rdC s (tkA s a 32 E) (tkE s a 32 E)) /\ w.grownBy w' (some r):=by
 obtain ⟨N,hN⟩:∃ N,wdN s a E = N:=⟨_,rfl⟩
 have huf:∃ UE:Int,∀ V,Calls jq 84 #[.string (tkS s a 32 E)] V fun e w'=>e = .returned (.tuple #[.agg (ybp N),.int .i64 UE]) /\ V.grownBy w' none:=by
  by_cases ht:tkE s a 32 E = 0
  ·have hz:(tkS s a 32 E).size = 32:=by
    have hle:¬ s.size < a + 32:=by
     intro hh;unfold tkE at ht;by_cases h0:E = 0
     ·rw [if_pos h0,if_pos hh] at ht;cases ht
     ·rw [if_neg h0] at ht;exact h0 ht
    unfold tkS;rw [if_pos ht,ByteArray.size_extract];omega
   refine ⟨0,fun V=>?_⟩;have hNN:N = beV (tkS s a 32 E).data.toList:=by rw [<- hN];unfold wdN;rw [if_pos ht]
   rw [hNN];exact yfi _ hz V
  ·have hz:(tkS s a 32 E).size ≠ 32:=by unfold tkS;rw [if_neg ht];simp
   refine ⟨2,fun V=>?_⟩;have hNN:N = 0:=by rw [<- hN];unfold wdN;rw [if_neg ht]
   rw [hNN];exact yfT _ hz V
 obtain ⟨UE,huf⟩:=huf;have hG0:=yaa (jr w none) (.cells #[.int .u64 0,.int .u64 0,.int .u64 0,.int .u64 0] 38);have hR0:=Blk.new w 38 #[.int .u64 0,.int .u64 0,.int .u64 0,.int .u64 0];have hr:=h.lt;have HT:=jh (ycE s a 32 E r _ (h.alloc (.cells #[.int .u64 0,.int .u64 0,.int .u64 0,.int .u64 0] 38)) hs ha (by omega));obtain ⟨T,hT⟩:∃ T,tkE s a 32 E = T:=⟨_,rfl⟩;obtain ⟨A,hA⟩:∃ T,tkA s a 32 E = T:=⟨_,rfl⟩;obtain ⟨p0,hp0⟩:∃ T,tkS s a 32 E = T:=⟨_,rfl⟩;obtain ⟨tb,htb⟩:∃ b,decide (T = 0) = b:=⟨_,rfl⟩;rw [hT,hA,hp0,htb] at HT;rw [hp0] at huf;rw [hT,hA,hN];have HUF:=jh huf;have HG0:=jh (yb4 hG0 (some r));have HR:=jh hr;clear h hs ha hT hA hp0 hN huf hG0 htb hr;go_enter Tryz.func51,Tryz.ntmps51
 go_upto_region 1 with (fail)
 obtain ⟨b,hb⟩:∃ b,w.heap.size = b:=⟨_,rfl⟩;have HW:=jh hb;rw [hb] at hR0 ⊢;clear hb;generalize w.alloc (.cells #[.int .u64 0,.int .u64 0,.int .u64 0,.int .u64 0] 38) = w1 at *;have HR0:=jh hR0;clear hR0;go_wp2_with fail
 refine HT.out.mono ?_;rintro e w2 ⟨rfl,hb2,hg2⟩;have HB2:=jh hb2;have HG2:=jh (yab HG0.out hg2 (fun k hk=>.inl hk));have HR2:=jh (HR0.out.grown hg2 (fun e=>by have:=ji e;have:=HR.out;have:=HW.out;omega));clear hb2 hg2 HT;go_wp2_with fail
 refine (HUF.out w2).mono ?_;rintro e w3 ⟨rfl,hg3⟩;have HB3:=jh (HB2.out.grown hg3 (by simp));have HG3:=jh (yab HG2.out hg3 (by simp));have HR3:=jh (HR2.out.grown hg3 (by simp));clear hg3;simp only [ybp];have hga:=yaa (jr w3 none) (.cells #[.int .u64 (wp N 0:Nat),.int .u64 (wp N 1:Nat),.int .u64 (wp N 2:Nat),.int .u64 (wp N 3:Nat)] 38);have hT5:=Blk.new w3 38 #[.int .u64 (wp N 0:Nat),.int .u64 (wp N 1:Nat),.int .u64 (wp N 2:Nat),.int .u64 (wp N 3:Nat)];go_upto_region 3 with (fail)
 obtain ⟨g5,hg5⟩:∃ b,w3.heap.size = b:=⟨_,rfl⟩;rw [hg5] at hT5 ⊢;clear hg5;have HB4:=jh (HB3.out.grown hga (by simp));have HG4:=jh (yab HG3.out hga (by simp));have HR4:=jh (HR3.out.grown hga (by simp));generalize w3.alloc (.cells #[.int .u64 (wp N 0:Nat),.int .u64 (wp N 1:Nat),.int .u64 (wp N 2:Nat),.int .u64 (wp N 3:Nat)] 38) = w4 at *;have x0:=hT5.cell 0;have x1:=hT5.cell 1;have x2:=hT5.cell 2;have x3:=hT5.cell 3;have c0:=HR4.out.cell 0;have c1:=HR4.out.cell 1;have c2:=HR4.out.cell 2;have c3:=HR4.out.cell 3;have d0:=HR4.out.frozen 0;have d1:=HR4.out.frozen 1;have d2:=HR4.out.frozen 2;have d3:=HR4.out.frozen 3;simp only [jta,jcz,jcs] at c0 c1 c2 c3 x0 x1 x2 x3;clear hga hT5;generalize hv0:((wp N 0:Nat):Int) = v0 at *;generalize hv1:((wp N 1:Nat):Int) = v1 at *;generalize hv2:((wp N 2:Nat):Int) = v2 at *;generalize hv3:((wp N 3:Nat):Int) = v3 at *;have HV:=jh (⟨hv0,hv1,hv2,hv3⟩:_ /\ _ /\ _ /\ _);clear hv0 hv1 hv2 hv3;have HR5:=jh ((((HR4.out.set_ 0 (.int .u64 v0)).set_ 1 (.int .u64 v1)).set_ 2 (.int .u64 v2)).set_ 3 (.int .u64 v3));have hwb:w.heap.size <= b:=by have:=HW.out;omega
 have HG5:=jh (yap (yap (yap (yap HG4.out (p:=⟨b,0,none⟩) hwb (.int .u64 v0)) (p:=⟨b,1,none⟩) hwb (.int .u64 v1)) (p:=⟨b,2,none⟩) hwb (.int .u64 v2)) (p:=⟨b,3,none⟩) hwb (.int .u64 v3));have hbr:r ≠ b:=by have:=HR.out;have:=HW.out;omega
 have HB5:=jh (yaF (yaF (yaF (yaF HB4.out hbr 0 (.int .u64 v0)) hbr 1 (.int .u64 v1)) hbr 2 (.int .u64 v2)) hbr 3 (.int .u64 v3));clear hwb hbr;go_wp2_with fail
 refine jbr (yaw (fn:=Tryz.f51) rfl _ _ _ _ rfl (ybB HR5.out)) rfl ?_;refine ⟨?_,HB5.out,HG5.out⟩;obtain ⟨hv0,hv1,hv2,hv3⟩:=HV.out;unfold ybp;rw [hv0,hv1,hv2,hv3]
def rwE (l:Bool) (n:Nat) (few many:Int) (E:Int):Int:=if E = 0 then (if l then ych n few many else 2) else E
theorem ydE (s:ByteArray) (a:Nat) (E:Int) (r:Nat) (l:Bool) (b:ByteArray) (A:Option Addr) (n c:Nat) (few many:Int) (w:World) (h:Blk w r 67 (rdC s a E)) :
  Calls jq 86 #[.pointer (some ⟨r,0,none⟩),.agg #[.bool l,.string b,.slice A n c],.int .i64 few,.int .i64 many] w fun x w'=>x = .returned (if rwE l n few many E = 0 then .slice A n c else .slice none 0 0) /\ Blk w' r 67 (rdC s a (rwE l n few many E)) /\ w.grownBy w' (some r):=by
 have hga:=yaa (jr w none) (.cells #[.bool l,.string b,.slice A n c] 106);have hbx:=Blk.new w 106 #[.bool l,.string b,.slice A n c];have h1:=h.alloc (.cells #[.bool l,.string b,.slice A n c] 106);have c2:=h1.cell 2;simp only [rdC,jta,jcz,jcs] at c2;by_cases h0:E = 0
 rotate_left
 ·have e1:(E != 0) = true:=by simpa using h0
  have t1:rwE l n few many E = E:=if_neg h0;rw [t1,if_neg h0];have HB:=jh h1;have HG:=jh (yb4 hga (some r));clear h0 t1 h1 hga h hbx;go_enter Tryz.func86,Tryz.ntmps86
  go_upto_region 1 with (fail)
  generalize w.alloc (.cells #[.bool l,.string b,.slice A n c] 106) = w1 at *;go_wp2_with fail
  go_ret
  exact ⟨rfl,HB.out,HG.out⟩
 subst h0;obtain ⟨U,hU⟩:∃ U,(if l then ych n few many else 2) = U:=⟨_,rfl⟩;have t1:rwE l n few many 0 = U:=by unfold rwE;rw [if_pos rfl,hU]
 have hv:(if l = true /\ ych n few many = 0 then (ja4 A n c) else .slice none 0 0) = if U = 0 then .slice A n c else .slice none 0 0:=by
  rw [<- hU];cases l <;> simp
 rw [t1];have HGL:=jh (fun V=>yjb l b A n c few many V);rw [hU] at HGL;have hgl2:∃ A' n' c',(if U = 0 then ja4 A n c else .slice none 0 0) = .slice A' n' c':=by split;exact ⟨_,_,_,rfl⟩;exact ⟨_,_,_,rfl⟩
 obtain ⟨A',n',c',hgl2⟩:=hgl2;rw [hv,hgl2] at HGL;rw [hgl2];have HB:=jh h1;have HG:=jh (yb4 hga (some r));clear h1 hga h t1 hv hgl2 hU;go_enter Tryz.func86,Tryz.ntmps86
 go_upto_region 1 with (fail)
 obtain ⟨g,hg⟩:∃ b,w.heap.size = b:=⟨_,rfl⟩;rw [hg] at hbx ⊢;clear hg;generalize w.alloc (.cells #[.bool l,.string b,.slice A n c] 106) = w1 at *;have x0:=hbx.cell 0;have x1:=hbx.cell 1;have x2:=hbx.cell 2;simp only [jta,jcz,jcs] at x0 x1 x2;clear hbx;go_wp2_with fail
 refine (HGL.out w1).mono ?_;rintro e w2 ⟨rfl,hg2⟩;have HB2:=jh (HB.out.grown hg2 (by simp));have HG2:=jh (yab HG.out hg2 (by simp));clear hg2 x0 x1 x2 c2;go_wp2_with fail
 refine (yb1 s a 0 U r w2 HB2.out).mono ?_;rintro e w3 ⟨rfl,hb3,hg3⟩;rw [show kE 0 U = U from if_pos rfl] at hb3 ⊢;have HB3:=jh hb3;have HG3:=jh (yab HG2.out hg3 (fun k hk=>.inl hk));clear hb3 hg3;go_wp2_with fail
 go_ret
 exact ⟨rfl,HB3.out,HG3.out⟩
def exE (l:Bool) (z n:Nat) (E:Int):Int:=kE E (if (l || decide (z ≠ n)) = true then 2 else 0)
theorem ygD (s:ByteArray) (a:Nat) (E:Int) (r:Nat) (l:Bool) (b:ByteArray) (A:Option Addr) (k c n:Nat) (w:World) (h:Blk w r 67 (rdC s a E)) :
  Calls jq 130 #[.pointer (some ⟨r,0,none⟩),.agg #[.bool l,.string b,.slice A k c],.int .i64 (n:Int)] w fun x w'=>x = .returned (.string b) /\ Blk w' r 67 (rdC s a (exE l b.size n E)) /\ w.grownBy w' (some r):=by
 have hga:=yaa (jr w none) (.cells #[.bool l,.string b,.slice A k c] 106);have hbx:=Blk.new w 106 #[.bool l,.string b,.slice A k c];have h1:=h.alloc (.cells #[.bool l,.string b,.slice A k c] 106);have e1:((b.size:Int) != (n:Int)) = decide (b.size ≠ n):=by rw [bne,yi0];by_cases hh:b.size = n <;> simp [hh]
 obtain ⟨d,hd⟩:∃ d,decide (b.size ≠ n) = d:=⟨_,rfl⟩;have hx:exE l b.size n E = kE E (if (l || d) = true then 2 else 0):=by rw [<- hd];rfl
 rw [hd] at e1;rw [hx];have HB:=jh h1;have HG:=jh (yb4 hga (some r));have hkk:kE E 0 = E:=by unfold kE;split;exact (by assumption:E = 0).symm;rfl
 have HKK:=jh hkk;have HR:=jh h.lt;clear h h1 hga hd hx hkk;go_enter Tryz.func130,Tryz.ntmps130
 go_upto_region 1 with (fail)
 obtain ⟨g,hg⟩:∃ b,w.heap.size = b:=⟨_,rfl⟩;have HW:=jh hg;rw [hg] at hbx ⊢;clear hg;generalize w.alloc (.cells #[.bool l,.string b,.slice A k c] 106) = w1 at *;have x0:=hbx.cell 0;have x1:=hbx.cell 1;simp only [jta,jcz,jcs] at x0 x1;have HX:=jh hbx;clear hbx;cases l with
 | true =>
  go_wp2_with fail
  refine (yb1 s a E 2 r w1 HB.out).mono ?_;rintro e w2 ⟨rfl,hb2,hg2⟩;have HB2:=jh hb2;have HG2:=jh (yab HG.out hg2 (fun k hk=>.inl hk));have hrg:r ≠ g:=by have:=HR.out;have:=HW.out;omega
  have x1:=(HX.out.grown hg2 (fun e=>hrg (ji e).symm)).cell 1;simp only [jta,jcz,jcs] at x1;clear hb2 hg2 hrg;go_wp2_with fail
  go_ret
  exact ⟨rfl,HB2.out,HG2.out⟩
 | false =>
  cases d with
  | true =>
   go_wp2_with fail
   refine (yb1 s a E 2 r w1 HB.out).mono ?_;rintro e w2 ⟨rfl,hb2,hg2⟩;have HB2:=jh hb2;have HG2:=jh (yab HG.out hg2 (fun k hk=>.inl hk));have hrg:r ≠ g:=by have:=HR.out;have:=HW.out;omega
   have x1:=(HX.out.grown hg2 (fun e=>hrg (ji e).symm)).cell 1;simp only [jta,jcz,jcs] at x1;clear hb2 hg2 e1 hrg;go_wp2_with fail
   go_ret
   exact ⟨rfl,HB2.out,HG2.out⟩
  | false =>
   go_wp2_with fail
   go_ret
   exact ⟨rfl,by have:=HB.out;rwa [<- HKK.out] at this,HG.out⟩
def byt (s:ByteArray) (i:Nat):Nat:=(s.data.toList.getD i 0).toNat
theorem yov (s:ByteArray) (i:Nat):byt s i < 256:=(s.data.toList.getD i 0).toNat_lt
def kdE (s:ByteArray) (a:Nat) (E:Int):Int :=
 if E ≠ 0 then E else if s.size < a + 1 then 3 else if 192 <= byt s a then 0 else if byt s a ≠ 1 /\ byt s a ≠ 2 then 9 else if s.size < a + 2 then 3 else if byt s (a + 1) < 192 then 2 else 0
def kdV (s:ByteArray) (a:Nat) (E:Int):Nat :=
 if E ≠ 0 then 0 else if s.size < a + 1 then 0 else if 192 <= byt s a then 0 else if byt s a ≠ 1 /\ byt s a ≠ 2 then 0 else byt s a
def kdA (s:ByteArray) (a:Nat):Nat:=if 192 <= byt s a then a else a + 1
theorem yjG (s:ByteArray) (a:Nat) (h:a < s.size) (w:World):(Instr.index 9 (.string (s.extract a (a + 1))) (.int .i64 0)).run jq w = .ok (.int .u8 (byt s a:Int)) w:=by
 refine ydb (s.extract a (a + 1)) 0 (s.data.toList.getD a 0) ?_ w;have hl:s.data.toList.length = s.size:=yar s;have hx:s.data.toList[a]? = some (s.data.toList.getD a 0):=ydB 0 (by omega);generalize s.data.toList.getD a 0 = y at *;rw [Lib.extract_data];simp [List.getElem?_take,List.getElem?_drop] at hx ⊢;exact hx
theorem ymh (s:ByteArray) (a:Nat) (E:Int) (r:Nat) (w:World) (h:Blk w r 67 (rdC s a E)) (hs:s.size <= 1000000000000) (ha:a <= s.size) :
  Calls jq 85 #[.pointer (some ⟨r,0,none⟩)] w fun x w'=>x = .returned (.int .i64 (kdV s a E:Int)) /\ (∃ a',a' <= s.size /\ (kdE s a E = 0 -> a' = kdA s a) /\ Blk w' r 67 (rdC s a' (kdE s a E))) /\ w.grownBy w' (some r):=by
 have HT:=jh (ycE s a 1 E r w h hs ha (by omega));by_cases h0:E = 0
 rotate_left
 ·have t1:tkE s a 1 E = E:=if_neg h0;have t2:tkA s a 1 E = a:=by unfold tkA;rw [t1,if_neg h0]
  have t3:tkS s a 1 E = .empty:=by unfold tkS;rw [t1,if_neg h0]
  have k1:kdE s a E = E:=if_pos h0;have k2:kdV s a E = 0:=if_pos h0;rw [t1,t2,t3,decide_eq_false h0] at HT;rw [k1,k2];have HA:=jh ha;have HN:=jh h0;clear h hs ha h0 t1 t2 t3 k1 k2;go_enter Tryz.func85,Tryz.ntmps85
  go_wp2_with fail
  refine HT.out.mono ?_;rintro e w2 ⟨rfl,hb2,hg2⟩;have HB2:=jh hb2;have HG2:=jh hg2;clear hb2 hg2;go_wp2_with fail
  go_ret
  exact ⟨rfl,⟨a,HA.out,fun e=>absurd e HN.out,HB2.out⟩,HG2.out⟩
 subst h0;by_cases h1:s.size < a + 1
 ·have t1:tkE s a 1 0 = 3:=by unfold tkE;rw [if_pos rfl,if_pos h1]
  have t2:tkA s a 1 0 = a:=by unfold tkA;rw [t1,if_neg (by decide)]
  have t3:tkS s a 1 0 = .empty:=by unfold tkS;rw [t1,if_neg (by decide)]
  have k1:kdE s a 0 = 3:=by unfold kdE;rw [if_neg (by simp),if_pos h1]
  have k2:kdV s a 0 = 0:=by unfold kdV;rw [if_neg (by simp),if_pos h1]
  rw [t1,t2,t3,show decide ((3:Int) = 0) = false from rfl] at HT;rw [k1,k2];have HA:=jh ha;clear h hs ha h1 t1 t2 t3 k1 k2;go_enter Tryz.func85,Tryz.ntmps85
  go_wp2_with fail
  refine HT.out.mono ?_;rintro e w2 ⟨rfl,hb2,hg2⟩;have HB2:=jh hb2;have HG2:=jh hg2;clear hb2 hg2;go_wp2_with fail
  go_ret
  exact ⟨rfl,⟨a,HA.out,fun (e:(3:Int) = 0)=>absurd e (by decide),HB2.out⟩,HG2.out⟩
 have t1:tkE s a 1 0 = 0:=by unfold tkE;rw [if_pos rfl,if_neg h1]
 have t2:tkA s a 1 0 = a + 1:=by unfold tkA;rw [t1,if_pos rfl]
 have t3:tkS s a 1 0 = s.extract a (a + 1):=by unfold tkS;rw [t1,if_pos rfl]
 rw [t1,t2,t3,show decide ((0:Int) = 0) = true from rfl] at HT;have hid:=fun V=>yjG s a (by omega) V;have hsz:(s.extract a (a + 1)).size = 1:=by rw [ByteArray.size_extract];omega
 have hal:a < s.size:=by omega
 have hC:=yov s a;have hkA:kdA s a = if 192 <= byt s a then a else a + 1:=rfl
 have hkE:kdE s a 0 = if 192 <= byt s a then 0 else if byt s a ≠ 1 /\ byt s a ≠ 2 then 9 else if s.size < a + 2 then 3 else if byt s (a + 1) < 192 then 2 else 0:=by unfold kdE;rw [if_neg (by simp),if_neg h1]
 have hkV:kdV s a 0 = if 192 <= byt s a then 0 else if byt s a ≠ 1 /\ byt s a ≠ 2 then 0 else byt s a:=by unfold kdV;rw [if_neg (by simp),if_neg h1]
 obtain ⟨KE,hKE⟩:∃ x,kdE s a 0 = x:=⟨_,rfl⟩;obtain ⟨KV,hKV⟩:∃ x,kdV s a 0 = x:=⟨_,rfl⟩;obtain ⟨KA,hKA⟩:∃ x,kdA s a = x:=⟨_,rfl⟩;rw [hKE] at hkE;rw [hKV] at hkV;rw [hKA] at hkA;rw [hKE,hKV,hKA];obtain ⟨p,hp⟩:∃ p,s.extract a (a + 1) = p:=⟨_,rfl⟩;rw [hp] at HT hid hsz;obtain ⟨C,hCC⟩:∃ C,byt s a = C:=⟨_,rfl⟩;rw [hCC] at hid hC hkA hkE hkV;have HKE:=jh hkE;have HKV:=jh hkV;have HKA:=jh hkA;have HAL:=jh hal;have HS:=jh hs;clear h t1 t2 t3 hp hCC hKE hKV hKA hkE hkV hkA ha;have hw1:IntKind.i64.wrap ((a + 1:Nat) - 1:Int) = (a:Int):=by rw [show ((a + 1:Nat):Int) - 1 = (a:Int) by omega];exact yaM (by omega)
 by_cases hc:192 <= C
 ·have g1:decide ((192:Int) <= (C:Int)) = true:=decide_eq_true (by omega);obtain rfl:KE = 0:=by have:=HKE.out;rwa [if_pos hc] at this
  obtain rfl:KV = 0:=by have:=HKV.out;rwa [if_pos hc] at this
  obtain rfl:KA = a:=by have:=HKA.out;rwa [if_pos hc] at this
  obtain ⟨a1,ha1⟩:∃ a1,KA + 1 = a1:=⟨_,rfl⟩;rw [ha1] at HT hw1;clear hc h1 ha1 hal hs;go_enter Tryz.func85,Tryz.ntmps85
  go_wp2_with fail
  refine HT.out.mono ?_;rintro e w2 ⟨rfl,hb2,hg2⟩;have HB2:=jh hb2;have HG2:=jh hg2;have c1:=hb2.cell 1;simp only [rdC,jta,jcz,jcs] at c1;have f1:=hb2.frozen 1;clear hb2 hg2;go_wp2_with fail
  go_ret
  exact ⟨rfl,⟨KA,Nat.le_of_lt HAL.out,fun _=>rfl,HB2.out.set_ 1 (.int .i64 (KA:Int))⟩,ybg HG2.out 1 _⟩
 have g1:decide ((192:Int) <= (C:Int)) = false:=decide_eq_false (by omega);have hwc:IntKind.i64.wrap (C:Int) = (C:Int):=yaM (by omega);by_cases hb:C ≠ 1 /\ C ≠ 2
 ·obtain rfl:KE = 9:=by have:=HKE.out;rwa [if_neg hc,if_pos hb] at this
  obtain rfl:KV = 0:=by have:=HKV.out;rwa [if_neg hc,if_pos hb] at this
  have q1:((C:Int) != 1) = true:=by simp;omega
  have q2:((C:Int) != 2) = true:=by simp;omega
  clear hc hb h1 hal hs hw1;go_enter Tryz.func85,Tryz.ntmps85
  go_wp2_with fail
  refine HT.out.mono ?_;rintro e w2 ⟨rfl,hb2,hg2⟩;have HB2:=jh hb2;have HG2:=jh hg2;clear hb2 hg2;go_wp2_with fail
  refine (yb1 s (a + 1) 0 9 r w2 HB2.out).mono ?_;rintro e w3 ⟨rfl,hb3,hg3⟩;rw [show kE 0 9 = 9 from rfl] at hb3;have HB3:=jh hb3;have HG3:=jh (yab HG2.out hg3 (fun k hk=>.inl hk));clear hb3 hg3;go_wp2_with fail
  go_ret
  exact ⟨rfl,⟨a + 1,HAL.out,fun (e:(9:Int) = 0)=>absurd e (by decide),HB3.out⟩,HG3.out⟩
 have hC12:C = 1 \/ C = 2:=by omega
 have hkv:KV = C:=by have:=HKV.out;rwa [if_neg hc,if_neg hb] at this
 have hke:KE = if s.size < a + 2 then 3 else if byt s (a + 1) < 192 then 2 else 0:=by have:=HKE.out;rwa [if_neg hc,if_neg hb] at this
 have hka:KA = a + 1:=by have:=HKA.out;rwa [if_neg hc] at this
 have HT2:=jh (fun V h=>ycE s (a + 1) 1 0 r V h HS.out HAL.out (by omega));have q12:((C:Int) != 1 && (C:Int) != 2) = false:=by rcases hC12 with rfl | rfl <;> rfl
 subst hkv;subst hka;have HKE2:=jh hke;by_cases h2:s.size < a + 2
 ·obtain rfl:KE = 3:=by have:=HKE2.out;rwa [if_pos h2] at this
  have t1:tkE s (a + 1) 1 0 = 3:=by unfold tkE;rw [if_pos rfl,if_pos (by omega)]
  have t2:tkA s (a + 1) 1 0 = a + 1:=by unfold tkA;rw [t1,if_neg (by decide)]
  have t3:tkS s (a + 1) 1 0 = .empty:=by unfold tkS;rw [t1,if_neg (by decide)]
  rw [t1,t2,t3,show decide ((3:Int) = 0) = false from rfl] at HT2;obtain ⟨a1,ha1⟩:∃ a1,a + 1 = a1:=⟨_,rfl⟩;rw [ha1] at HT HT2 hw1;clear hc hb h1 hal hs h2 t1 t2 t3 hke;rcases hC12 with rfl | rfl
  all_goals
   go_enter Tryz.func85,Tryz.ntmps85
   go_wp2_with fail
   refine HT.out.mono ?_;rintro e w2 ⟨rfl,hb2,hg2⟩;have HB2:=jh hb2;have HG2:=jh hg2;clear hb2 hg2;go_wp2_with fail
   refine (HT2.out w2 HB2.out).mono ?_;rintro e w3 ⟨rfl,hb3,hg3⟩;have HB3:=jh hb3;have HG3:=jh (yab HG2.out hg3 (fun k hk=>.inl hk));have c1:=hb3.cell 1;simp only [rdC,jta,jcz,jcs] at c1;have f1:=hb3.frozen 1;clear hb3 hg3;go_wp2_with fail
   go_ret
   exact ⟨rfl,⟨a,Nat.le_of_lt HAL.out,fun (e:(3:Int) = 0)=>absurd e (by decide),HB3.out.set_ 1 (.int .i64 (a:Int))⟩,ybg HG3.out 1 _⟩
 have t1:tkE s (a + 1) 1 0 = 0:=by unfold tkE;rw [if_pos rfl,if_neg (by omega)]
 have t2:tkA s (a + 1) 1 0 = a + 1 + 1:=by unfold tkA;rw [t1,if_pos rfl]
 have t3:tkS s (a + 1) 1 0 = s.extract (a + 1) (a + 1 + 1):=by unfold tkS;rw [t1,if_pos rfl]
 rw [t1,t2,t3,show decide ((0:Int) = 0) = true from rfl] at HT2;have hid2:=fun V=>yjG s (a + 1) (by omega) V;have hsz2:(s.extract (a + 1) (a + 1 + 1)).size = 1:=by rw [ByteArray.size_extract];omega
 have hD:=yov s (a + 1);obtain ⟨p2,hp2⟩:∃ p,s.extract (a + 1) (a + 1 + 1) = p:=⟨_,rfl⟩;rw [hp2] at HT2 hid2 hsz2;obtain ⟨D,hDD⟩:∃ C,byt s (a + 1) = C:=⟨_,rfl⟩;rw [hDD] at hid2 hD HKE2;have hw2:IntKind.i64.wrap ((a + 1 + 1:Nat) - 1:Int) = ((a + 1:Nat):Int):=by rw [show ((a + 1 + 1:Nat):Int) - 1 = ((a + 1:Nat):Int) by omega];exact yaM (by omega)
 obtain ⟨a2,ha2⟩:∃ a2,a + 1 + 1 = a2:=⟨_,rfl⟩;obtain ⟨a1,ha1⟩:∃ a1,a + 1 = a1:=⟨_,rfl⟩;rw [ha2] at HT2 hw2;have HAL1:Hid (a1 <= s.size):=jh (by have:=HAL.out;omega);rw [ha1] at HT HT2 hw1 hw2 ⊢;have HX:Hid (KE = if D < 192 then 2 else 0):=jh (by have:=HKE2.out;rwa [if_neg h2] at this);clear hc hb h1 hal hs h2 t1 t2 t3 hke hp2 hDD ha2 HKE HKE2 HKV HKA;by_cases hd:D < 192
 ·obtain rfl:KE = 2:=by have:=HX.out;rwa [if_pos hd] at this
  have g2:decide ((D:Int) < 192) = true:=decide_eq_true (by omega);clear hd;rcases hC12 with rfl | rfl
  all_goals
   go_enter Tryz.func85,Tryz.ntmps85
   go_wp2_with fail
   refine HT.out.mono ?_;rintro e w2 ⟨rfl,hb2,hg2⟩;have HB2:=jh hb2;have HG2:=jh hg2;clear hb2 hg2;go_wp2_with fail
   refine (HT2.out w2 HB2.out).mono ?_;rintro e w3 ⟨rfl,hb3,hg3⟩;have HB3:=jh hb3;have HG3:=jh (yab HG2.out hg3 (fun k hk=>.inl hk));clear hb3 hg3;go_wp2_with fail
   refine (yb1 s a2 0 2 r w3 HB3.out).mono ?_;rintro e w4 ⟨rfl,hb4,hg4⟩;rw [show kE 0 2 = 2 from rfl] at hb4;have HB4:=jh hb4;have HG4:=jh (yab HG3.out hg4 (fun k hk=>.inl hk));have c1:=hb4.cell 1;simp only [rdC,jta,jcz,jcs] at c1;have f1:=hb4.frozen 1;clear hb4 hg4;go_wp2_with fail
   go_ret
   exact ⟨rfl,⟨a1,HAL1.out,fun (e:(2:Int) = 0)=>absurd e (by decide),HB4.out.set_ 1 (.int .i64 (a1:Int))⟩,ybg HG4.out 1 _⟩
 ·obtain rfl:KE = 0:=by have:=HX.out;rwa [if_neg hd] at this
  have g2:decide ((D:Int) < 192) = false:=decide_eq_false (by omega);clear hd;rcases hC12 with rfl | rfl
  all_goals
   go_enter Tryz.func85,Tryz.ntmps85
   go_wp2_with fail
   refine HT.out.mono ?_;rintro e w2 ⟨rfl,hb2,hg2⟩;have HB2:=jh hb2;have HG2:=jh hg2;clear hb2 hg2;go_wp2_with fail
   refine (HT2.out w2 HB2.out).mono ?_;rintro e w3 ⟨rfl,hb3,hg3⟩;have HB3:=jh hb3;have HG3:=jh (yab HG2.out hg3 (fun k hk=>.inl hk));have c1:=hb3.cell 1;simp only [rdC,jta,jcz,jcs] at c1;have f1:=hb3.frozen 1;clear hb3 hg3;go_wp2_with fail
   go_ret
   exact ⟨rfl,⟨a1,HAL1.out,fun _=>rfl,HB3.out.set_ 1 (.int .i64 (a1:Int))⟩,ybg HG3.out 1 _⟩
theorem ykR {P:Program} {a:Act} {o:Oper} {W:World} (f:FuncId) (x y z:Operand) (ts:Array TypeId) (ho:o.op = .call { callee:=.value (.func f),args:=#[x,y,z],argTypes:=ts }) (v u t:Value) (hx:a.eval x = v) (hy:a.eval y = u) (hz:a.eval z = t)
  (hf:(callFunc f #[v,u,t]).run P W = .ok (.enter f #[v,u,t]) W):(execOp a.eval o).run P W = .ok (.enter f #[v,u,t]) W:=by
 have he:a.eval (.func f) = .func (.func f) #[] #[]:=rfl;unfold execOp;generalize a.eval = ev at *;simp only [ho];simp [resolve,invoke,go_sem,hx,hy,hz,he,hf]
theorem yoY {s:ByteArray} {N:Nat}:(s.extract 0 N).data.toList = s.data.toList.take N:=by
 rw [Lib.extract_data];simp
theorem yn8 (k:Nat) (hk:k <= 11) (hC:yom k) (s:ByteArray) (a r:Nat) (W:World) (hs:s.size <= 65536) (ha:a <= s.size) (hr:Blk W r 193 #[.int .i64 ((12 - (k + 1):Nat):Int),.int .i64 0])
  (he:yaV s.data.toList (a:Int) = 0) (hl:ybW s.data.toList (a:Int) = true) :
  Calls jq 154 #[.pointer (some ⟨r,0,none⟩),.string s,.int .i64 (a:Int)] W fun e W1=>∃ l b sA sn sc tq,e = .returned (.tuple #[.agg #[.bool l,.string b,.slice sA sn sc],.int .i64 tq]) /\ W.grownBy W1 (some r) /\ yc9 (k + 1) s.data.toList a r W l b (.slice sA sn sc) tq W1:=by
 have hlz:s.data.toList.length = s.size:=yar s;have hlk:=fun V=>yeU s (a:Int) (by omega) V;have hrl:=hr.lt;have hG:=yhi (k:=k + 1) ha (by omega);have hi:=yd6 (k:=k) he hl;obtain ⟨b0,b1,b2,b3,b4,b5⟩:=ybN he;rw [hl] at b5;have b6:192 <= ya1 s.data.toList a:=by simpa using b5.symm
 rw [hl,he] at hlk;have hxA:=Blk.new W 106 #[.bool false,.string ⟨#[]⟩,.slice none 0 0];have hrA:=hr.alloc (.cells #[.bool false,.string ⟨#[]⟩,.slice none 0 0] 106);have hGA:W.grownBy (W.alloc (.cells #[.bool false,.string ⟨#[]⟩,.slice none 0 0] 106)) none:=yaa (jr _ _) _;have k1:=(hr.alloc (.cells #[.bool false,.string ⟨#[]⟩,.slice none 0 0] 106)).cell 0;simp only [jta,jcz] at k1;have hcalls:=fun V (hV:Blk V r 193 #[.int .i64 ((11 - k:Nat):Int),.int .i64 0])=>yml k hk hC (s.extract 0 (yag s.data.toList (a:Int) + ya5 s.data.toList (a:Int))) (yag s.data.toList (a:Int)) r V (by simp;omega) hV;rw [hlz] at b1;have hex:(s.extract 0 (yag s.data.toList (a:Int) + ya5 s.data.toList (a:Int))).size = yag s.data.toList (a:Int) + ya5 s.data.toList (a:Int):=by simp;omega
 rw [yoY,hex] at hcalls;have hd:(12 - (k + 1):Nat) = 11 - k:=by omega
 rw [hd] at hr hrA hG k1;clear he hl b5 hex hd;generalize yag s.data.toList (a:Int) = F at *;generalize ya5 s.data.toList (a:Int) = N at *;generalize hR:ya9 (ybx k (s.data.toList.take (F + N))) (F + N) 513 0 F = R at *;have HI:=jh hi;have HC:=jh hcalls;clear hi hcalls hR;have v1:IntKind.i64.wrap ((F:Int) + (N:Int)) = (F:Int) + (N:Int):=jii _ (by omega);rcases hG with ⟨d1,d1'⟩ | ⟨d1,hid,d2⟩ | ⟨d1,hid,d2,d3⟩
 ·exfalso;simp at d1';omega
 ·exfalso;simp at d2;omega
 generalize ya1 s.data.toList a = c at *;go_enter Tryz.func154,Tryz.ntmps154
 go_wp2_with fail
 refine (hlk _).mono ?_;rintro e w2 ⟨rfl,hg⟩;have y0:=hxA.grown hg (by simp);have y1:=hrA.grown hg (by simp);have hG2:=yem (yab hGA hg (by simp)) (some r);have z0:=y0.alloc (.cells #[.int .i64 (F:Int),.int .i64 (N:Int),.bool true] 188);have z1:=y1.alloc (.cells #[.int .i64 (F:Int),.int .i64 (N:Int),.bool true] 188);have z2:=Blk.new w2 188 #[.int .i64 (F:Int),.int .i64 (N:Int),.bool true];have hG3:=yaa hG2 (.cells #[.int .i64 (F:Int),.int .i64 (N:Int),.bool true] 188);have hz2:W.heap.size < w2.heap.size:=by have:=hg.size;simp at this;omega
 clear hxA hrA hGA hg hlk hG2 y0 y1 k1 hr;go_upto_region 8 with (fail)
 generalize w2.alloc (.cells #[.int .i64 (F:Int),.int .i64 (N:Int),.bool true] 188) = w3 at *;have r0:=z2.cell 0;have r1:=z2.cell 1;have r2:=z2.cell 2;simp only [jta,jcz,jcs] at r0 r1 r2;go_upto_region 11 with (fail)
 generalize w2.heap.size = b2 at *;clear r0 r1 r2;refine jwh (S:=fun V=>Blk V b2 188 #[.int .i64 (F:Int),.int .i64 (N:Int),.bool true]) (by kernel_rfl) ?_;change wpAnyH _ _ _ _ _ _ _ _ w3.drew;replace z0:Blk w3.drew W.heap.size 106 #[.bool false,.string ⟨#[]⟩,.slice none 0 0]:=z0;replace z1:Blk w3.drew r 193 #[.int .i64 ((11 - k:Nat):Int),.int .i64 0]:=z1;replace z2:Blk w3.drew b2 188 #[.int .i64 (F:Int),.int .i64 (N:Int),.bool true]:=z2;replace hG3:W.grownBy w3.drew (some r):=⟨hG3.os,hG3.tape,hG3.output,hG3.size,hG3.block⟩;generalize w3.drew = u0 at *;refine zt 0 (.pointer (some ⟨r,0,none⟩)) (some 62) rfl (fun V hV=>by go_simp) z2 ?_;simp only [jp,jb,jz,js];refine zt 1 (.string s) (some 63) rfl (fun V hV=>by go_simp) z2 ?_;simp only [jp,jb,jz,js];refine zt 2 (.int .i64 ((F:Int) + (N:Int))) (some 64) rfl (fun V hV=>by go_simp) z2 ?_;simp only [jp,jb,jz,js];refine zt 3 (.string (s.extract 0 (F + N))) (some 65) rfl (fun V hV=>by go_simp;rw [if_pos ⟨by omega,by omega⟩,show ((F:Int) + (N:Int)).toNat = F + N by omega]) z2 ?_;simp only [jp,jb,jz,js];refine zt 4 (.pointer (some ⟨b2,0,none⟩)) (some 66) rfl (fun V hV=>by go_simp) z2 ?_;simp only [jp,jb,jz,js];refine zt 5 (.int .i64 (F:Int)) (some 67) rfl (fun V hV=>ybI 3 (.tmp 66) rfl _ rfl _ _ jb8 rfl (hV.cell 0)) z2 ?_;simp only [jp,jb,jz,js];refine zt 7 (.int .i64 ((F:Int) + (N:Int))) (some 69) rfl (fun V hV=>by go_simp) z2 ?_;simp only [jp,jb,jz,js];refine yam (i:=6) (by kernel_rfl) ?_;refine ybe (some 68) rfl rfl 174 #[.pointer (some ⟨r,0,none⟩),.string (s.extract 0 (F + N)),.int .i64 (F:Int)] (ykR _ (.tmp 62) (.tmp 65) (.tmp 67) _ rfl _ _ _ rfl rfl rfl rfl) rfl ?_;refine (HC.out u0 z1).mono ?_;rintro e w4 ⟨sA,sn,sc,rfl,hg,hpost⟩;have z2':=z2.grown hg (by simp;omega);have z0':=z0.grown hg (by simp;omega);refine ⟨_,rfl,z2',?_⟩;simp only [jp,jb,jz,js];have t2:=ybK z0' (.bool true) (.string .empty) (.slice sA sn sc);have t4:=yb0 (yab hG3 hg (fun q e=>.inl e)) (g:=W.heap.size) (jle _) (.bool true) (.string .empty) (.slice sA sn sc);have t5:=((z2'.far (p:=⟨W.heap.size,0,none⟩) (by show b2 ≠ W.heap.size;omega) (.bool true)).far (p:=⟨W.heap.size,1,none⟩) (by show b2 ≠ W.heap.size;omega) (.string .empty)).far (p:=⟨W.heap.size,2,none⟩) (by show b2 ≠ W.heap.size;omega) (.slice sA sn sc);refine yam (i:=8) (by kernel_rfl) ?_;refine yaO rfl rfl (ycK (.tmp 6) (.tmp 68) rfl rfl rfl z0' (by simp)) t5 ?_;simp only [jp,jb,jz,js];refine yam (i:=9) (by kernel_rfl) ?_;refine yal (some 7) rfl rfl (.int .i64 ((F:Int) + (N:Int))) (by go_simp) rfl t5 ?_;simp only [jp,jb,jz,js];refine jwd (by kernel_rfl) ?_ _;have T2:=jh t2;have T4:=jh t4
 have st:Stays (fun g=>g = W.heap.size) w4 (((w4.setCell ⟨W.heap.size,0,none⟩ (.bool true)).setCell ⟨W.heap.size,1,none⟩ (.string .empty)).setCell ⟨W.heap.size,2,none⟩ (.slice sA sn sc)):=by
  intro g o ho _ hx;exact (jhs _ _ _ g hx).trans ((jhs _ _ _ g hx).trans ((jhs _ _ _ g hx).trans ho))
 have hsz:=z2.lt
 have HP:Hid (yc9 (k + 1) s.data.toList a r W true .empty (.slice sA sn sc) ((F:Int) + (N:Int)) (((w4.setCell ⟨W.heap.size,0,none⟩ (.bool true)).setCell ⟨W.heap.size,1,none⟩ (.string .empty)).setCell ⟨W.heap.size,2,none⟩ (.slice sA sn sc))):=by
  refine jh ?_;have e12:(12 - (k + 1):Nat) = 11 - k:=by omega
  unfold yc9;rw [e12];rcases hpost with ⟨xs,h1,h2,h3⟩ | ⟨E,h1,h2,h3⟩
  ·refine .inl ⟨_,_,by rw [HI.out,h1],by simp,rfl,rfl,st.blk h2 (by omega),?_⟩;exact (st.sub (h3.weak (S':=fun g=>u0.heap.size <= g) fun g h=>h) (by intro g h e;omega)).weak fun g h=>by omega
  ·exact .inr ⟨E,by rw [HI.out,h1],h2,st.blk h3 (by omega)⟩
 clear t2 t4 t5 z2' z0' z0 z1 z2 hG3 hg hpost st;go_wp2_with fail
 refine jbr (ya3 (fn:=Tryz.f154) rfl _ _ _ _ rfl (ycd T2.out)) rfl ?_;exact .inr ⟨.empty,sA,sn,sc,(F:Int) + (N:Int),rfl,T4.out,HP.out⟩
theorem ynB (k:Nat) (hk:k <= 12):yom k:=by
 induction k with
 | zero =>
  intro s a r W hs ha hr;have hlz:s.data.toList.length = s.size:=yar s;by_cases h1:a < s.size /\ 192 <= ya1 s.data.toList a
  ·exact ymn s a r W hs h1.1 h1.2 hr
  ·by_cases he:yaV s.data.toList (a:Int) = 0
   ·refine yjP 0 s a r W hs ha hr (by rintro ⟨h2,h3,_⟩;exact h1 ⟨h2,h3⟩) he ?_;obtain ⟨b0,_,_,_,_,b5⟩:=ybN he;rw [b5];exact decide_eq_false (fun h=>h1 ⟨by omega,h⟩)
   ·exact yjQ 0 s a r W hs ha hr (by rintro ⟨h2,h3,_⟩;exact h1 ⟨h2,h3⟩) he
 | succ k ih =>
  intro s a r W hs ha hr;by_cases he:yaV s.data.toList (a:Int) = 0
  ·by_cases hl:ybW s.data.toList (a:Int) = true
   ·exact yn8 k (by omega) (ih (by omega)) s a r W hs ha hr he hl
   ·exact yjP (k + 1) s a r W hs ha hr (by omega) he (by simpa using hl)
  ·exact yjQ (k + 1) s a r W hs ha hr (by omega) he
def yb7 (l:List UInt8):Except Int Itm :=
 if 65536 < l.length then .error 5 else match ybx 12 l 0 with
  | .error e=>.error e
  | .ok (x,q)=>if q < l.length then .error 4 else .ok x
def yhw (l:List UInt8) (W:World) (lst:Bool) (b:ByteArray) (sv:Value) (E:Int) (W1:World):Prop :=
 (∃ x,yb7 l = .ok x /\ E = 0 /\ lst = x.list /\ b = x.bytes /\ SubV (fun g=>W.heap.size <= g) W1 x.items sv) \/
 (yb7 l = .error E /\ E ≠ 0 /\ lst = false /\ b = ⟨#[]⟩ /\ sv = .slice none 0 0)
def ymX (l:List UInt8) (W:World) (e:Ending) (W1:World):Prop :=
 ∃ lst b sA sn sc E,e = .returned (.tuple #[.agg #[.bool lst,.string b,.slice sA sn sc],.int .i64 E]) /\ W.grownBy W1 none /\ yhw l W lst b (.slice sA sn sc) E W1
theorem yjj (s:ByteArray) (W:World) (hs:65536 < s.size) (hs2:s.size <= 9223372036854775807) :
  Calls jq 124 #[.string s] W (ymX s.data.toList W):=by
 have hd:Hid (yb7 s.data.toList = .error 5):=jh (by unfold yb7;rw [if_pos (by rw [yar];exact hs)]);have d1:(65536:Int) < (s.size:Int):=by omega
 have hxA:=Blk.new W 106 #[.bool false,.string ⟨#[]⟩,.slice none 0 0];have hGA:W.grownBy (W.alloc (.cells #[.bool false,.string ⟨#[]⟩,.slice none 0 0] 106)) none:=yaa (jr _ _) _;go_enter Tryz.func124,Tryz.ntmps124
 go_wp2_with fail
 refine jbr (ya3 (fn:=Tryz.f124) rfl _ _ _ _ rfl (ycd hxA)) rfl ?_;exact ⟨_,_,_,_,_,_,rfl,hGA,.inr ⟨hd.out,by decide,rfl,rfl,rfl⟩⟩
theorem yis (s:ByteArray) (W:World) (hs:s.size <= 65536) :
  Calls jq 124 #[.string s] W (ymX s.data.toList W):=by
 have hlz:s.data.toList.length = s.size:=yar s;have d1:decide ((65536:Int) < (s.size:Int)) = false:=decide_eq_false (by omega);have hxA:=Blk.new W 106 #[.bool false,.string ⟨#[]⟩,.slice none 0 0];have hGA:W.grownBy (W.alloc (.cells #[.bool false,.string ⟨#[]⟩,.slice none 0 0] 106)) none:=yaa (jr _ _) _;have hit:=fun V (h:Blk V (W.heap.size + 1) 193 #[.int .i64 0,.int .i64 0])=>ynB 12 (by decide) s 0 (W.heap.size + 1) V hs (by omega) h;have HIT:=jh hit;clear hit;go_enter Tryz.func124,Tryz.ntmps124
 go_wp2_with fail
 have hrB:=Blk.new (W.alloc (.cells #[.bool false,.string ⟨#[]⟩,.slice none 0 0] 106)) 193 #[.int .i64 0,.int .i64 0];rw [jsa] at hrB;have hxB:=hxA.alloc (.cells #[.int .i64 0,.int .i64 0] 193);have hGB:=yaa hGA (.cells #[.int .i64 0,.int .i64 0] 193);refine (HIT.out _ hrB).mono ?_;rintro e w4 ⟨l,b,sA,sn,sc,tq,rfl,hg,hpost⟩;have hxC:=hxB.grown hg (by simp);have hGC:=yab hGB hg (fun q e=>.inr (by injection e;omega));have hz4:=hg.size;simp only [jsa] at hz4;have e12:(12 - 12:Nat) = 0:=rfl;unfold yc9 at hpost;rw [e12,Int.ofNat_zero] at hpost;have hnew:=Blk.new w4 106 #[.bool l,.string b,.slice sA sn sc];have hxD:=hxC.alloc (.cells #[.bool l,.string b,.slice sA sn sc] 106);have hGD:=yaa hGC (.cells #[.bool l,.string b,.slice sA sn sc] 106);have hlt:W.heap.size + 1 < w4.heap.size:=by omega
 have hz5:(w4.alloc (.cells #[.bool l,.string b,.slice sA sn sc] 106)).heap.size = w4.heap.size + 1:=by simp
 have hz2:W.heap.size <= ((W.alloc (.cells #[.bool false,.string ⟨#[]⟩,.slice none 0 0] 106)).alloc (.cells #[.int .i64 0,.int .i64 0] 193)).heap.size:=by simp;omega
 rcases hpost with ⟨x,q,h1,rfl,rfl,rfl,h2,h3⟩ | ⟨E,h1,h2,h3⟩
 ·have hrD:=h2.alloc (.cells #[.bool x.list,.string x.bytes,.slice sA sn sc] 106);have hsub:=h3.keep (W':=w4.alloc (.cells #[.bool x.list,.string x.bytes,.slice sA sn sc] 106)) (fun p hp u hu=>by rw [World.cell?_alloc_lt w4 _ p (jd0 w4 p hu)];exact hu);have hsub:=hsub.weak (S':=fun g=>W.heap.size + 2 <= g) (fun g hg'=>by simpa using hg');have hne:w4.heap.size ≠ W.heap.size:=by omega
  clear hxA hxB hxC hrB hGA hGB hGC hg h2 h3 HIT;go_upto_region 5 with (fail)
  generalize w4.alloc (.cells #[.bool x.list,.string x.bytes,.slice sA sn sc] 106) = w5 at *;have c1:=hrD.cell 1;simp only [jta,jcz,jcs] at c1;by_cases hq:q < s.size
  ·have hd:Hid (yb7 s.data.toList = .error 4):=jh (by unfold yb7;rw [if_neg (by omega),h1];exact if_pos (by omega));have d2:(q:Int) < (s.size:Int):=by omega
   have c0:=hxD.cell 0;have c2:=hxD.cell 1;have c3:=hxD.cell 2;have f0:=hxD.frozen 0;have f1:=hxD.frozen 1;have f2:=hxD.frozen 2;simp only [jta,jcz,jcs] at c0 c2 c3;have t2:=ybK hxD (.bool false) (.string ⟨#[]⟩) (.slice none 0 0);have t4:=yb0 hGD (g:=W.heap.size) (jle _) (.bool false) (.string ⟨#[]⟩) (.slice none 0 0);have T2:=jh t2;have T4:=jh t4;clear t2 t4 hxD hGD hrD hnew h1 hsub;go_wp2_with fail
   refine jbr (ya3 (fn:=Tryz.f124) rfl _ _ _ _ rfl (ycd T2.out)) rfl ?_;exact ⟨_,_,_,_,_,_,rfl,T4.out,.inr ⟨hd.out,by decide,rfl,rfl,rfl⟩⟩
  ·have hd:Hid (yb7 s.data.toList = .ok x):=jh (by unfold yb7;rw [if_neg (by omega),h1];exact if_neg (by omega));have d2:decide ((q:Int) < (s.size:Int)) = false:=decide_eq_false (by omega);have d3:decide (q < s.size) = false:=decide_eq_false hq;go_upto_region 9 with (fail)
   have c0:=hxD.cell 0;have c2:=hxD.cell 1;have c3:=hxD.cell 2;have f0:=hxD.frozen 0;have f1:=hxD.frozen 1;have f2:=hxD.frozen 2;have l0:=hnew.cell 0;have l2:=hnew.cell 1;have l3:=hnew.cell 2;simp only [jta,jcz,jcs] at c0 c2 c3 l0 l2 l3;have t2:=ybK hxD (.bool x.list) (.string x.bytes) (.slice sA sn sc);have t4:=yb0 hGD (g:=W.heap.size) (jle _) (.bool x.list) (.string x.bytes) (.slice sA sn sc)
   have t5:=(hsub.keep (W':=((w5.setCell ⟨W.heap.size,0,none⟩ (.bool x.list)).setCell ⟨W.heap.size,1,none⟩ (.string x.bytes)).setCell ⟨W.heap.size,2,none⟩ (.slice sA sn sc)) (fun p hp u hu=>by
    rw [World.cell?_setCell_other _ _ _ _ (by intro e;subst e;have hp':W.heap.size + 2 <= W.heap.size:=hp;omega),World.cell?_setCell_other _ _ _ _ (by intro e;subst e;have hp':W.heap.size + 2 <= W.heap.size:=hp;omega),World.cell?_setCell_other _ _ _ _ (by intro e;subst e;have hp':W.heap.size + 2 <= W.heap.size:=hp;omega)];exact hu)).weak (S':=fun g=>W.heap.size <= g) (fun g hg'=>by omega)
   have T2:=jh t2;have T4:=jh t4;have T5:=jh t5;clear t2 t4 t5 hxD hGD hrD hnew h1 hsub;go_wp2_with fail
   refine jbr (ya3 (fn:=Tryz.f124) rfl _ _ _ _ rfl (ycd T2.out)) rfl ?_;exact ⟨_,_,_,_,_,_,rfl,T4.out,.inl ⟨x,hd.out,rfl,rfl,rfl,T5.out⟩⟩
 ·have hd:Hid (yb7 s.data.toList = .error E):=jh (by unfold yb7;rw [if_neg (by omega),h1]);have hrD:=h3.alloc (.cells #[.bool l,.string b,.slice sA sn sc] 106);have e1:(E != 0) = true:=by simpa using h2
  have HE:=jh h2;clear hxA hxB hxC hrB hGA hGB hGC hg h3 h2 HIT;go_upto_region 5 with (fail)
  generalize w4.alloc (.cells #[.bool l,.string b,.slice sA sn sc] 106) = w5 at *;have c1:=hrD.cell 1;have c0:=hxD.cell 0;have c2:=hxD.cell 1;have c3:=hxD.cell 2;have f0:=hxD.frozen 0;have f1:=hxD.frozen 1;have f2:=hxD.frozen 2;simp only [jta,jcz,jcs] at c0 c2 c3 c1;have t2:=ybK hxD (.bool false) (.string ⟨#[]⟩) (.slice none 0 0);have t4:=yb0 hGD (g:=W.heap.size) (jle _) (.bool false) (.string ⟨#[]⟩) (.slice none 0 0);have T2:=jh t2;have T4:=jh t4;clear t2 t4 hxD hGD hrD hnew h1;go_upto_region 6 with (fail)
  go_region
  all_goals go_wp2_with fail
  all_goals
   refine jbr (ya3 (fn:=Tryz.f124) rfl _ _ _ _ rfl (ycd (Blk.drew T2.out))) rfl ?_;exact ⟨_,_,_,_,_,_,rfl,⟨T4.out.os,T4.out.tape,T4.out.output,T4.out.size,T4.out.block⟩,.inr ⟨hd.out,HE.out,rfl,rfl,rfl⟩⟩
theorem ykU (s:ByteArray) (W:World) (hs:s.size <= 9223372036854775807):Calls jq 124 #[.string s] W (ymX s.data.toList W):=by
 rcases Nat.lt_or_ge 65536 s.size with h | h
 ·exact yjj s W h hs
 ·exact yis s W h
end Go.Proofs.YtgclnikdkfpflaaGreatDoor
