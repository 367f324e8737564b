/- Merged: SpD, SpB, CgJ, TxtR, RtA, RtB0, RtB, RtC, CpF. -/
import Derived.Test.YtmaggfokhlodnaaGreatDoorMx1
import Derived.Test.YtmaggfokhlodnaaGreatDoorMx5
import Derived.Test.YtmaggfokhlodnaaGreatDoorMx7
import Derived.Test.YtmaggfokhlodnaaGreatDoorMx11
import Derived.Deep.DeepCutAuto
namespace Go.Proofs.YtmaggfokhlodnaaGreatDoor
open Go.RowKit Go.Shelf
open List renaming set_cons_zero → jz, set_cons_succ → js, setIfInBounds_toArray → jb
set_option linter.unusedVariables false
set_option linter.unusedSimpArgs false
set_option maxRecDepth 100000
set_option maxHeartbeats 16000000
open Lib renaming hid → jh
open Act renaming put → jp
open World.grownBy renaming refl → jr
open _root_.List renaming getD_eq_getElem?_getD → jg, getElem?_eq_getElem → je, getElem?_cons_zero → jcz, getElem?_cons_succ → jcs, getElem?_toArray → jta, length_append → jla, length_cons → jlc, getElem?_map → jgm, map_cons → ja8, length_map → jd8
open _root_.Option.some renaming inj → ji
open World renaming size_alloc → jsa
open _root_.Nat renaming le_refl → jle, lt_of_lt_of_le → jb6
open _root_.Go.Proofs.Tryz renaming prog → jq, underlying22 → jb3, underlying9 → jb8, underlying3 → jb9, underlying28 → jc8
open Go renaming wp_region_list → jwl, wpList_nil → jwn, wpAnyH_done → jwd, wp_region_held → jwh
open _root_.Go.Proofs renaming enters_of → jeo
open Value renaming oneCell' → ja2, bool → jc7, int → je3
open Region renaming wanted → jd9
def rdS (ch:Nat) (s:ByteArray) (a:Nat) (e:Int):Array Value:=#[.string s,.int .i64 (a:Int),.int .i64 e,.int .u64 (ch:Int)]
theorem yc2 (ch:Nat) (s:ByteArray) (a:Nat) (E e:Int) (r:Nat) (w:World) (h:Blk w r 70 (rdS ch s a E)) :
  Calls jq 83 #[.pointer (some ⟨r,0,none⟩),.int .i64 e] w fun x w'=>x = .returned (.bool (decide (kE E e = 0))) /\ Blk w' r 70 (rdS ch s a (kE E e)) /\ w.grownBy w' (some r):=by
 have HB:=jh h;have c2:=h.cell 2;have f2:=h.frozen 2;simp only [rdS,jta,jcz,jcs] at c2;clear h;by_cases h0:E = 0
 ·subst h0;rw [show kE 0 e = e from if_pos rfl];by_cases h1:e = 0
  ·subst h1;go_enter Tryz.func83,Tryz.ntmps83
   go_wp2_with fail
   go_ret
   refine ⟨rfl,?_,?_⟩
   ·first | exact HB.out | exact HB.out.set_ 2 (.int .i64 0)
   ·first | exact jr w _ | exact ya9 (jr w _) 2 _
  ·have e1:(e == 0) = false:=by simpa using h1
   have hd:decide (e = 0) = false:=decide_eq_false h1;rw [hd];clear h1 hd;go_enter Tryz.func83,Tryz.ntmps83
   go_wp2_with fail
   go_ret
   exact ⟨rfl,HB.out.set_ 2 (.int .i64 e),ya9 (jr w _) 2 _⟩
 ·have e1:(E == 0) = false:=by simpa using h0
  rw [show kE E e = E from if_neg h0,decide_eq_false h0];clear h0;go_enter Tryz.func83,Tryz.ntmps83
  go_wp2_with fail
  go_ret
  exact ⟨rfl,HB.out,jr w _⟩
theorem yhB (ch:Nat) (s:ByteArray) (a n:Nat) (E:Int) (r:Nat) (w:World) (h:Blk w r 70 (rdS ch s a E)) (hs:s.size <= 1000000000000) (ha:a <= s.size) (hn:n <= 1000000000000) :
  Calls jq 82 #[.pointer (some ⟨r,0,none⟩),.int .i64 (n:Int)] w fun x w'=>x = .returned (.string (tkS s a n E)) /\ Blk w' r 70 (rdS ch s (tkA s a n E) (tkE s a n E)) /\ w.grownBy w' (some r):=by
 have HB:=jh h;have c0:=h.cell 0;have c1:=h.cell 1;have c2:=h.cell 2;have f1:=h.frozen 1;have f2:=h.frozen 2;simp only [rdS,jta,jcz,jcs] at c0 c1 c2;clear h;by_cases h0:E = 0
 rotate_left
 ·have e1:(E == 0) = false:=by simpa using h0
  have e2:(E != 0) = true:=by simpa using h0
  have t1:tkE s a n E = E:=if_neg h0;have t2:tkA s a n E = a:=by unfold tkA;rw [t1,if_neg h0]
  have t3:tkS s a n E = .empty:=by unfold tkS;rw [t1,if_neg h0]
  rw [t1,t2,t3];clear h0 t1 t2 t3;go_enter Tryz.func82,Tryz.ntmps82
  go_upto_region 3 with (go_quiet (fail))
  go_wp2_with fail
  go_ret
  exact ⟨rfl,HB.out,yaS _ _ _⟩
 subst h0;obtain ⟨d,hd⟩:∃ d,s.size = a + d:=⟨s.size - a,by omega⟩;have hw1:IntKind.i64.wrap ((s.size:Int) - (a:Int)) = (d:Int):=by rw [show (s.size:Int) - (a:Int) = (d:Int) by omega];exact ya5 (by omega)
 by_cases hsh:s.size < a + n
 ·have t1:tkE s a n 0 = 3:=by unfold tkE;rw [if_pos rfl,if_pos hsh]
  have t2:tkA s a n 0 = a:=by unfold tkA;rw [t1,if_neg (by decide)]
  have t3:tkS s a n 0 = .empty:=by unfold tkS;rw [t1,if_neg (by decide)]
  rw [t1,t2,t3];have g1:decide ((d:Int) < (n:Int)) = true:=decide_eq_true (by omega);have g1n:decide (d < n) = true:=decide_eq_true (by omega);clear hsh t1 t2 t3 hd;go_enter Tryz.func82,Tryz.ntmps82
  go_upto_region 2 with (go_quiet (fail))
  go_wp2_with fail
  go_ret
  exact ⟨rfl,(show Blk _ r _ _ from HB.out).set_ 2 (.int .i64 3),ya9 (yaS _ _ _) 2 _⟩
 ·have t1:tkE s a n 0 = 0:=by unfold tkE;rw [if_pos rfl,if_neg hsh]
  have t2:tkA s a n 0 = a + n:=by unfold tkA;rw [t1,if_pos rfl]
  have t3:tkS s a n 0 = s.extract a (a + n):=by unfold tkS;rw [t1,if_pos rfl]
  rw [t1,t2,t3];have g1:decide ((d:Int) < (n:Int)) = false:=decide_eq_false (by omega);have g1n:decide (d < n) = false:=decide_eq_false (by omega);obtain ⟨b,hb⟩:∃ b,a + n = b:=⟨_,rfl⟩;have hw2:IntKind.i64.wrap ((a:Int) + (n:Int)) = (b:Int):=by rw [show (a:Int) + (n:Int) = (b:Int) by omega];exact ya5 (by omega)
  have hw3:IntKind.i64.wrap ((b:Int) - (n:Int)) = (a:Int):=by rw [show (b:Int) - (n:Int) = (a:Int) by omega];exact ya5 (by omega)
  have hab:a <= b:=by omega
  have hbs:b <= s.size:=by omega
  rw [hb];clear hsh t1 t2 t3 hd hb;go_enter Tryz.func82,Tryz.ntmps82
  go_upto_region 6 with (go_quiet (fail))
  have hb2:Blk ((w.drewN nq).setCell ⟨r,1,none⟩ (.int .i64 (b:Int))) r 70 (rdS ch s b 0):=(show Blk (w.drewN nq) r _ _ from HB.out).set_ 1 (.int .i64 (b:Int));have hg2:w.grownBy ((w.drewN nq).setCell ⟨r,1,none⟩ (.int .i64 (b:Int))) (some r):=ya9 (yaS _ _ _) 1 _;clear c0 c1 c2 f1 f2;generalize (w.drewN nq).setCell ⟨r,1,none⟩ (.int .i64 (b:Int)) = w2 at *;have c0:=hb2.cell 0;have c1:=hb2.cell 1;simp only [rdS,jta,jcz,jcs] at c0 c1;have HB2:=jh hb2;have HG2:=jh hg2;clear hb2 hg2;go_quiet (fail)
  go_wp2_with fail
  go_ret
  exact ⟨rfl,HB2.out,ye9 HG2.out _⟩
section
variable {P:Program} {ops:Array Oper} {md:Region.Mode} {Q:Exit -> Act -> World -> Prop} {fuel:Nat} {listed:Array Bool} {a:Act} {w:World} {S:World -> Prop} {oi:Oper}
theorem cV (i d:Nat) (v:Value) (hi:ops[i]? = some oi) (hS:S w) (h:wpAnyH P md ops Q S fuel (listed.setIfInBounds i true) (a.put (some d) v) w)
  (hd:oi.dst = some d:=by rfl) (hQ:∀ c a w,Q (.panic c) (a.put oi.dst v) w -> Q (.panic c) a w:=by exact fun _ _ _ h=>h) (hs:Region.noSelect ops = true:=by kernel_rfl) (hf:Region.free md ops listed i = true:=by kernel_rfl) (hr:(Region.ready md ops listed).contains i = true:=by kernel_rfl) (hw:jd9 oi (yielded ops a.tmps) = true:=by kernel_rfl)
  (hy:∀ W,(execOp a.eval oi).run P W = .ok (.value v) W:=by intro W;go_simp):wpAnyH P md ops Q S (fuel + 1) listed a w :=
 yeq (i:=i) (v:=v) (some d) hi hs hf hr hQ hd (Or.inl ⟨hw,fun W _=>hy W⟩) hS h
end
theorem ydS (ch:Nat) (s:ByteArray) (a:Nat) (E:Int) (r:Nat) (w:World) (h:Blk w r 70 (rdS ch s a E)) (hs:s.size <= 1000000000000) :
  Calls jq 81 #[.pointer (some ⟨r,0,none⟩)] w fun x w'=>x = .returned (.int .u64 (noN s a E:Int)) /\ Blk w' r 70 (rdS ch s (noA s a E) (noE s a E)) /\ w.grownBy w' (some r):=by
 have c0:=h.cell 0;have c1:=h.cell 1;have c2:=h.cell 2;simp only [rdS,jta,jcz,jcs] at c0 c1 c2;by_cases h0:E = 0
 rotate_left
 ·have e1:(E != 0) = true:=by simpa using h0
  have t1:noE s a E = E:=if_neg h0;have t2:noA s a E = a:=by unfold noA;rw [t1,if_neg h0]
  have t3:noN s a E = 0:=if_neg h0;rw [t1,t2,t3];have HB:=jh h;clear h0 t1 t2 t3 h;go_enter Tryz.func81,Tryz.ntmps81
  go_wp2_with fail
  go_ret
  exact ⟨rfl,HB.out,jr w _⟩
 subst h0;have HU:=jh (fun V=>yh1 s a hs V);obtain ⟨n,hn⟩:∃ L,(yaX s.data.toList a).1.toNat = L:=⟨_,rfl⟩;obtain ⟨to_,hto⟩:∃ L,(yaX s.data.toList a).2.1 = L:=⟨_,rfl⟩;obtain ⟨U,hU⟩:∃ L,(yaX s.data.toList a).2.2 = L:=⟨_,rfl⟩;have t1:noE s a 0 = U:=by unfold noE;rw [if_pos rfl,hU]
 have t2:noA s a 0 = if U = 0 then to_ else a:=by unfold noA;rw [t1,hto]
 have t3:noN s a 0 = n:=by unfold noN;rw [if_pos rfl,hn]
 rw [hn,hto,hU] at HU;obtain ⟨RA,hRA⟩:∃ x,noA s a 0 = x:=⟨_,rfl⟩;rw [hRA] at t2;have HRA:=jh t2;rw [t1,t3,hRA];have HB:=jh h;clear h t1 t2 t3 hn hto hU hRA;go_enter Tryz.func81,Tryz.ntmps81
 go_upto_region 3 with (fail)
 refine jwh (S:=fun V=>Blk V r 70 (rdS ch s a 0)) (by kernel_rfl) ?_;change wpAnyH _ _ _ _ _ _ _ _ w.drew;have hS0:Blk w.drew r 70 (rdS ch s a 0):=HB.out;have hg0:w.grownBy w.drew none:=yau (jr w none);clear c0 c1 c2;generalize w.drew = u0 at *;refine cP r 0 12 0 rfl hS0 ?_;simp only [jp,jb,jz,js];refine cP r 1 13 0 rfl hS0 ?_;simp only [jp,jb,jz,js];refine cP r 2 14 0 rfl hS0 ?_;simp only [jp,jb,jz,js];refine cL 3 15 (.string s) rfl (fun W hW=>yaj 9 _ rfl _ rfl _ _ jb8 rfl ((Blk.cell hW 0).trans rfl)) hS0 ?_;simp only [jp,jb,jz,js];refine cP r 4 16 0 rfl hS0 ?_;simp only [jp,jb,jz,js];refine cP r 5 17 0 rfl hS0 ?_;simp only [jp,jb,jz,js];refine cP r 6 18 1 rfl hS0 ?_;simp only [jp,jb,jz,js];refine cL 7 19 (.int .i64 (a:Int)) rfl (fun W hW=>yaj 3 _ rfl _ rfl _ _ jb9 rfl ((Blk.cell hW 1).trans rfl)) hS0 ?_;simp only [jp,jb,jz,js];refine yag (i:=8) (by kernel_rfl) ?_;refine yat (some 20) rfl rfl 113 #[.string s,.int .i64 (a:Int)] (yao _ (.tmp 15) (.tmp 19) _ rfl _ _ rfl rfl (jeo Tryz.func113 (by kernel_rfl) rfl _ _)) rfl ((HU.out _).mono ?_);rintro e w2 ⟨rfl,hg2⟩;have hS1:Blk w2 r 70 (rdS ch s a 0):=Blk.below hS0 hg2 hS0.lt;have HG2:=jh (show w.grownBy w2 none from yab hg0 (yak hg2) (by simp));refine ⟨_,rfl,hS1,?_⟩;simp only [jp,jb,jz,js];refine cV 9 11 (.tuple #[.int .u64 (n:Int),.int .i64 (to_:Int),.int .i64 U]) rfl hS1 ?_;simp only [jp,jb,jz,js];refine cV 10 21 (.int .u64 (n:Int)) rfl hS1 ?_;simp only [jp,jb,jz,js];refine cV 11 22 (.int .i64 (to_:Int)) rfl hS1 ?_;simp only [jp,jb,jz,js];refine cV 12 23 (.int .i64 U) rfl hS1 ?_;simp only [jp,jb,jz,js];refine cV 13 3 (.int .u64 (n:Int)) rfl hS1 ?_;simp only [jp,jb,jz,js];refine cV 14 4 (.int .i64 (to_:Int)) rfl hS1 ?_;simp only [jp,jb,jz,js];refine cV 15 5 (.int .i64 U) rfl hS1 ?_;simp only [jp,jb,jz,js];refine jwd (by kernel_rfl) ?_ _;have hb2:=hS1;have HKP:=jh (yc2 ch s a 0 U r w2 hb2);clear hg2 hb2 HU hS0 hS1 hg0;go_wp2_with fail
 refine HKP.out.mono ?_;rintro e w3 ⟨rfl,hb3,hg3⟩;rw [show kE 0 U = U from if_pos rfl] at hb3 ⊢;have hG3:w.grownBy w3 (some r):=(yaK HG2.out (some r)).trans hg3;have f1:=hb3.frozen 1;have c1:=hb3.cell 1;simp only [rdS,jta,jcz,jcs] at c1;have HB3:=jh hb3;have HG3:=jh hG3;clear hb3 hG3 hg3 HKP;by_cases hU:U = 0
 ·have hRA:RA = to_:=by have:=HRA.out;rw [if_pos hU] at this;exact this
  subst hU hRA;clear HRA;go_wp2_with fail
  go_ret
  exact ⟨rfl,HB3.out.set_ 1 (.int .i64 (RA:Int)),ya9 HG3.out 1 _⟩
 ·have hRA:RA = a:=by have:=HRA.out;rw [if_neg hU] at this;exact this
  have hd:decide (U = 0) = false:=decide_eq_false hU;subst hRA;clear HRA hU;go_wp2_with fail
  go_ret
  exact ⟨rfl,HB3.out,HG3.out⟩
theorem ycU {s:SpV} {chain:Nat} (h:ybt s chain = 0):s.parent.size = 20 /\ s.hash.size = 20 /\ 0 < s.blocks.length /\ s.blocks.length <= 16 /\ yaA s.all chain = 0:=by
 unfold ybt at h;split at h
 ·cases h
 rename_i h1
 split at h
 ·cases h
 rename_i h2
 simp only [Bool.or_eq_true,decide_eq_true_eq,not_or] at h1;exact ⟨by omega,by omega,by omega,by omega,h⟩
theorem yho {a b:ByteArray} (h:a.data.toList = b.data.toList):a = b:=ByteArray.ext (Array.ext' h)
theorem yjW (s:SpV):ycf s = (s.blocks.map fun b=>b.txs.length).map fun (x:Nat)=>(x:Int):=by
 unfold ycf;rw [List.map_map];rfl
theorem ypE {bs:List BkV} (h:(bs.flatMap BkV.txs).length <= 512):∀ x ∈ bs.map (fun b=>b.txs.length),x <= 512:=by
 induction bs with
 | nil=>intro x hx;cases hx
 | cons b bs ih =>
  rw [List.flatMap_cons,jla] at h;intro x hx;rcases List.mem_cons.1 hx with rfl | hx
  ·show b.txs.length <= 512;omega
  ·exact ih (by omega) x hx
theorem yjN {b:ByteArray} {s:SpV} {chain:Nat} {y:List UInt8} (hck:ybt s chain = 0) (ok:s.Ok) (hb:b.data.toList = spL s ++ y):ybR b chain = if y = [] then .ok s else .error 4:=by
 obtain ⟨hp,hh,hn0,hn1,hcol⟩:=ycU hck;obtain ⟨hc0,hc1,hall,_⟩:=ycV hcol;have hcle:=ypE hall;have hsum:=ynk s.blocks hall;have hcut:=ynZ s.blocks;have hpl:s.parent.data.toList.length = 20:=by rw [yan];exact hp
 have hhl:s.hash.data.toList.length = 20:=by rw [yan];exact hh
 have h0:At b.data.toList 0 (spL s):=⟨y,by rw [List.drop_zero,hb]⟩;have hzz:b.size = (spL s).length + y.length:=by rw [<- yan,hb,jla]
 unfold spL at h0;have r1:=h0.right;have r1:At b.data.toList 1 _:=r1
 have hlen:(spL s).length = 1 + ((varL s.time).length + ((varL s.epoch).length + (20 + (20 + ((varL s.blocks.length).length + ((yaT (s.blocks.map BkV.origin)).length + ((rowL (ycf s)).length + (yd0 s.all).length))))))):=by
  unfold spL;simp only [jla,hpl,hhl,jlc,List.length_nil]
 rw [hlen] at hzz;obtain ⟨a1,a2,a3⟩:=yiN r1.left (by omega) ok.time;have r2:=r1.right;obtain ⟨b1,b2,b3⟩:=yiN r2.left (by omega) ok.epoch;have r3:=r2.right;have e1:hdE1 b = 0:=a1;have e2:hdA1 b = 1 + (varL s.time).length:=a2;have e3:hdE2 b = 0:=by unfold hdE2;rw [e1,e2];exact b1
 have e4:hdA2 b = 1 + (varL s.time).length + (varL s.epoch).length:=by unfold hdA2;rw [e1,e2];exact b2
 have r4:=r3.right;rw [hpl] at r4;have r5:=r4.right;rw [hhl] at r5;have x1:=r3.left.take;have x2:=r4.left.take;rw [hpl] at x1;rw [hhl] at x2;have e5:hdE b = 0:=by unfold hdE tkE;rw [e3,e4,if_pos rfl,if_neg (by omega)]
 have e6:hdA b = 1 + (varL s.time).length + (varL s.epoch).length + 20 + 20:=by unfold hdA tkA;rw [show tkE b (hdA2 b) 40 (hdE2 b) = 0 from e5,if_pos rfl,e4]
 obtain ⟨c1,c2,c3⟩:=yiN r5.left (by omega) (show s.blocks.length < 18446744073709551616 by omega);have r6:=r5.right;have e7:bkN b = s.blocks.length:=by unfold bkN;rw [e5,e6];exact c3
 have e8:bkA1 b = 1 + (varL s.time).length + (varL s.epoch).length + 20 + 20 + (varL s.blocks.length).length:=by unfold bkA1;rw [e5,e6];exact c2
 have e9:bkE1 b = 0:=by unfold bkE1;rw [e7,if_neg (by omega),if_neg (by omega),e5,e6,c1];rfl
 obtain ⟨d1,d2,d3⟩:=yhk (n:=s.blocks.length) r6.left (by omega) (by simp) (by omega);have r7:=r6.right;have e10:bkE2 b = 0:=by unfold bkE2;rw [e9,if_pos rfl,e8,e7];exact d1
 have e11:bkA2 b = 1 + (varL s.time).length + (varL s.epoch).length + 20 + 20 + (varL s.blocks.length).length + (yaT (s.blocks.map BkV.origin)).length:=by unfold bkA2;rw [e9,if_pos rfl,e8,e7];exact d2
 have e12:bkL b = s.blocks.map BkV.origin:=by unfold bkL;rw [e9,if_pos rfl,e8,e7];exact d3
 have r8:=r7.right;rw [yjW] at r7 r8 hzz;obtain ⟨f1,f2,f3⟩:=yeA (n:=s.blocks.length) r7.left (by omega) (by simp) (by omega) (fun x hx=>by have:=hcle x hx;omega);have e13:bkE3 b = 0:=by unfold bkE3;rw [e10,if_pos rfl,e11,e7];exact f1
 have e14:bkA3 b = 1 + (varL s.time).length + (varL s.epoch).length + 20 + 20 + (varL s.blocks.length).length + (yaT (s.blocks.map BkV.origin)).length + (rowL ((s.blocks.map fun b=>b.txs.length).map fun (x:Nat)=>(x:Int))).length:=by unfold bkA3;rw [e10,if_pos rfl,e11,e7];exact f2
 have e15:bkC b = s.blocks.map fun b=>b.txs.length:=by unfold bkC;rw [e10,if_pos rfl,e11,e7,f1,if_pos rfl];exact f3
 have e16:sumS (bkC b) = s.all.length:=by rw [e15];exact hsum
 have e17:txE b = 0:=by unfold txE;rw [e13,e16,if_neg (by omega)];rfl
 have hg:=ynO (s:=b) (chain:=chain) hcol ok.txs r8 (by omega);unfold ybR;have hd:b.data.toList.getD 0 0 = 1:=by rw [hb];rfl
 have hyl:y = [] \/ 0 < y.length:=by cases y <;> simp
 rw [if_neg (by simp only [Bool.or_eq_true,decide_eq_true_eq];omega),if_neg (by omega),hd,if_neg (by simp),e17,if_neg (by simp),e14,e16,hg];unfold ynn;dsimp only;rcases hyl with rfl | hy
 rotate_left
 ·rw [if_pos (by omega),if_neg (by intro h;rw [h] at hy;exact absurd hy (by simp))]
 have hy:([]:List UInt8).length = 0:=rfl;rw [if_neg (by omega),e12,e15,if_pos rfl];have p1:b.extract (hdA2 b) (hdA2 b + 20) = s.parent:=yho (by rw [ybj,e4];exact x1);have p2:b.extract (hdA2 b + 20) (hdA2 b + 40) = s.hash:=yho (by rw [show hdA2 b + 40 = hdA2 b + 20 + 20 by omega,ybj,e4];exact x2);rw [p1,p2,show noN b 1 0 = s.time from a3,show noN b (hdA1 b) (hdE1 b) = s.epoch by rw [e1,e2];exact b3];have hc2:cutB (s.blocks.map BkV.origin) (s.blocks.map fun b=>b.txs.length) s.all = s.blocks:=hcut;rw [hc2]
theorem yfA {b:ByteArray} {s:SpV} {chain:Nat} (hck:ybt s chain = 0) (ok:s.Ok) (hb:b.data.toList = spL s):ybR b chain = .ok s:=by
 rw [yjN hck ok (y:=[]) (by rw [hb,List.append_nil]),if_pos rfl]
theorem yoU (s:ByteArray) (a n chain:Nat) (w:World) (hs:s.size <= 1000000000000) (ha:a <= s.size) (hn:n <= 512) (hc0:0 < chain) (hc1:chain <= 4611686018427387904) :
  Calls jq 86 #[.string s,.int .i64 (a:Int),.int .i64 (n:Int),.int .u64 (chain:Int)] w (GetEnd s a n chain w):=by
 have e1:((chain:Int) == 0) = false:=(yiz chain 0).trans (decide_eq_false (by omega));have e2:decide ((4611686018427387904:Int) < (chain:Int)) = false:=decide_eq_false (by omega);have e3:decide ((n:Int) < 0) = false:=decide_eq_false (by omega);have e4:decide ((512:Int) < (n:Int)) = false:=decide_eq_false (by omega);have e5:decide ((a:Int) < 0) = false:=decide_eq_false (by omega);have e6:decide ((s.size:Int) < (a:Int)) = false:=decide_eq_false (by omega);have e7:decide (s.size < a) = false:=decide_eq_false (by omega);have e8:¬ s.size < a:=by omega
 have HS:=jh hs;have HA:=jh ha;have HN:=jh hn;have HC0:=jh hc0;have HC1:=jh hc1;have hmk:=fun V=>ypW n (by omega) V;have hg:=yaa (yaa (jr w none) (.cells (rdC s a 0) 155)) (.cells (ycH n) 49);have hr:=(Blk.new w 155 (rdC s a 0)).alloc (.cells (ycH n) 49);have hl:=Blk.new (w.alloc (.cells (rdC s a 0) 155)) 49 (ycH n);have hz:((w.alloc (.cells (rdC s a 0) 155)).alloc (.cells (ycH n) 49)).heap.size = w.heap.size + 2:=by simp
 rw [jsa] at hl;have HG:=jh hg;have HR:=jh hr;have HL:=jh hl;have HZ:=jh hz;clear hs ha hn hc0 hc1 hg hr hl hz;go_enter Tryz.func86,Tryz.ntmps86
 go_upto_region 4 with (fail)
 clear e1 e2 e3 e4 e5 e6 e7 e8;go_upto_region 5 with (fail)
 change Code.wp _ _ _ _ ((w.alloc (.cells (rdC s a 0) 155)).alloc (.cells (ycH n) 49));generalize (w.alloc (.cells (rdC s a 0) 155)).alloc (.cells (ycH n) 49) = w4 at *;clear hmk;obtain ⟨r,hr0⟩:∃ r,w.heap.size = r:=⟨_,rfl⟩;rw [hr0] at HR HL HZ ⊢;have HR0:=jh hr0;clear hr0;refine jwl ?_;refine zm 11 (.pointer (some ⟨r,0,none⟩)) rfl ?_;refine zm 2 (.int .i64 (n:Int)) rfl ?_;simp only [jp,jb,jz,js];refine yah rfl 115 #[.pointer (some ⟨r,0,none⟩),.int .i64 (n:Int)] (yao _ (.tmp 57) (.tmp 58) _ rfl _ _ rfl rfl (jeo Tryz.func115 (by kernel_rfl) rfl _ _)) ((yfO s a n 0 r w4 HR.out HS.out HA.out (by have:=HN.out;omega)).mono ?_);rintro e w5 ⟨v1,rfl,ho1,hr5,hg5⟩;refine ⟨_,rfl,?_⟩;simp only [jp,jb,jz,js];have hl5:=HL.out.grown hg5 (fun e=>by have:=ji e;omega);have hG5:=yab HG.out hg5 (fun k hk=>.inr (by have:=ji hk;have:=HR0.out;omega));have hA1:btA s a n 0 <= s.size:=by unfold btA;exact yec HA.out
 obtain ⟨E1,hE1⟩:∃ x,btE s a n 0 = x:=⟨_,rfl⟩;obtain ⟨A1,hA1e⟩:∃ x,btA s a n 0 = x:=⟨_,rfl⟩;rw [hE1,hA1e] at hr5;rw [hA1e] at hA1;have HE1:=jh hE1;have HA1:=jh hA1e;have HB1:=jh hA1;have HR5:=jh hr5;have HL5:=jh hl5;have HG5:=jh hG5;have HZ5:=jh hg5.size;have HO1:=jh (RowQ.of_own ho1);clear hE1 hA1 hA1e hr5 hl5 hG5 ho1 hg5 HR HL HG;refine zm 11 (.pointer (some ⟨r,0,none⟩)) rfl ?_;refine zm 2 (.int .i64 (n:Int)) rfl ?_;simp only [jp,jb,jz,js];refine yah rfl 115 #[.pointer (some ⟨r,0,none⟩),.int .i64 (n:Int)] (yao _ (.tmp 60) (.tmp 61) _ rfl _ _ rfl rfl (jeo Tryz.func115 (by kernel_rfl) rfl _ _)) ((yfO s A1 n E1 r w5 HR5.out HS.out HB1.out (by have:=HN.out;omega)).mono ?_);rintro e w6 ⟨v2,rfl,ho2,hr6,hg6⟩;refine ⟨_,rfl,?_⟩;simp only [jp,jb,jz,js];have hl6:=HL5.out.grown hg6 (fun e=>by have:=ji e;omega);have hG6:=yab HG5.out hg6 (fun k hk=>.inr (by have:=ji hk;have:=HR0.out;omega));have hA2:btA s A1 n E1 <= s.size:=by unfold btA;exact yec HB1.out
 have hO1:=HO1.out.keep (w':=w6) (fun p u h1 _ hu=>hg6.cell hu (fun e=>by have:=ji e;have:=HZ.out;omega));obtain ⟨E2,hE2⟩:∃ x,btE s A1 n E1 = x:=⟨_,rfl⟩;obtain ⟨A2,hA2e⟩:∃ x,btA s A1 n E1 = x:=⟨_,rfl⟩;rw [hE2,hA2e] at hr6;rw [hA2e] at hA2;have HE2:=jh hE2;have HA2:=jh hA2e;have HB2:=jh hA2;have HR6:=jh hr6;have HL6:=jh hl6;have HG6:=jh hG6;have HZ6:=jh hg6.size;have HP1:=jh hO1;have HO2:=jh (RowQ.of_own ho2);clear hE2 hA2 hA2e hr6 hl6 hG6 ho2 hg6 hO1 HO1 HR5 HL5 HG5;refine zg (v1) ?_;simp only [jp,jb,jz,js];refine zg (v2) ?_;simp only [jp,jb,jz,js];refine jwn ?_
 have hw:IntKind.i64.wrap (64 * (n:Int)) = 64 * (n:Int):=by
  have:=ya5 (k:=64 * n) (by have:=HN.out;omega);simpa using this
 go_upto_region 6 with (fail)
 refine jwl ?_;refine zm 11 (.pointer (some ⟨r,0,none⟩)) rfl ?_;refine zm 2 (.int .i64 (n:Int)) rfl ?_;simp only [jp,jb,jz,js];refine zg (.int .i64 (64 * (n:Int))) ?_;simp only [jp,jb,jz,js];have htk:=ycy s A2 (64 * n) E2 r w6 HR6.out HS.out HB2.out (by have:=HN.out;omega);rw [show ((64 * n:Nat):Int) = 64 * (n:Int) by omega] at htk;clear hw;refine yah rfl 116 #[.pointer (some ⟨r,0,none⟩),.int .i64 (64 * (n:Int))] (yao _ (.tmp 64) (.tmp 66) _ rfl _ _ rfl rfl (jeo Tryz.func116 (by kernel_rfl) rfl _ _)) (htk.mono ?_);clear htk;rintro e w7 ⟨rfl,hr7,hg7⟩;obtain ⟨sgs,hsgs⟩:∃ x,tkS s A2 (64 * n) E2 = x:=⟨_,rfl⟩;obtain ⟨E3,hE3⟩:∃ x,tkE s A2 (64 * n) E2 = x:=⟨_,rfl⟩;have hA3:tkA s A2 (64 * n) E2 <= s.size:=yec HB2.out;obtain ⟨A3,hA3e⟩:∃ x,tkA s A2 (64 * n) E2 = x:=⟨_,rfl⟩;have hl7:=HL6.out.grown hg7 (fun e=>by have:=ji e;omega);have hG7:=yab HG6.out hg7 (fun k hk=>.inr (by have:=ji hk;have:=HR0.out;omega));have hO1:=HP1.out.keep (w':=w7) (fun p u h1 _ hu=>hg7.cell hu (fun e=>by have:=ji e;have:=HZ.out;omega));have hO2:=HO2.out.keep (w':=w7) (fun p u h1 _ hu=>hg7.cell hu (fun e=>by have:=ji e;have:=HZ.out;have:=HZ5.out;omega));have hsz9:sgs.size <= 1000000000000:=by rw [<- hsgs];have:=yeU s A2 (64 * n) E2;have:=HN.out;omega
 have HSGZ:=jh hsz9;clear hsz9;rw [hsgs,hE3];rw [hE3,hA3e] at hr7;rw [hA3e] at hA3;have HSG:=jh hsgs;have HE3:=jh hE3;have HA3:=jh hA3e;have HB3:=jh hA3;have HR7:=jh hr7;have HL7:=jh hl7;have HG7:=jh hG7;have HZ7:=jh hg7.size;have HQ1:=jh hO1;have HQ2:=jh hO2;clear hsgs hE3 hA3e hA3 hr7 hl7 hG7 hg7 hO1 hO2 HP1 HO2 HR6 HL6 HG6;refine ⟨_,rfl,?_⟩;simp only [jp,jb,jz,js];refine zm 67 (.tuple #[.string sgs,.bool (decide (E3 = 0))]) rfl ?_;simp only [jp,jb,jz,js];refine zg (.string sgs) ?_;simp only [jp,jb,jz,js];refine zg (.bool (decide (E3 = 0))) ?_;simp only [jp,jb,jz,js];refine zg (.string sgs) ?_;simp only [jp,jb,jz,js];refine zg (.bool (decide (E3 = 0))) ?_;simp only [jp,jb,jz,js];refine jwn ?_;have hga:=yaa (jr w7 none) (.cells (rdC sgs 0 0) 155);have hb8:=Blk.new w7 155 (rdC sgs 0 0);have HGA:=jh hga;have HB8:=jh hb8;clear hga hb8;go_upto_region 9 with (fail)
 change Code.wp _ _ _ _ (w7.alloc (.cells (rdC sgs 0 0) 155));generalize w7.alloc (.cells (rdC sgs 0 0) 155) = w8 at *;have hsz8:w7.heap.size <= w8.heap.size:=HGA.out.size;have hl8:=HL7.out.grown HGA.out (by simp);have hr8:=HR7.out.grown HGA.out (by simp);have hG8:=yab HG7.out HGA.out (by simp);have hO1:=HQ1.out.keep (w':=w8) (fun p u _ _ hu=>HGA.out.cell hu (by simp));have hO2:=HQ2.out.keep (w':=w8) (fun p u _ _ hu=>HGA.out.cell hu (by simp));obtain ⟨nl,hnl⟩:∃ x,btL s a n 0 = x:=⟨_,rfl⟩;have hln:nl.length = n:=by rw [<- hnl];exact yfN s a n 0
 rw [hnl] at hO1;obtain ⟨AN,cN,hv1,hrn⟩:=hO1.reads;rw [jd8,hln] at hv1 hrn;subst hv1;have hcnt:=ykU _ AN n cN nl w8 hrn (by have:=HN.out;omega);have hcle:cntB nl <= n:=by rw [<- hln];exact ymG nl
 obtain ⟨m,hm⟩:∃ m,n - cntB nl = m:=⟨_,rfl⟩;have hm2:(n:Int) - (cntB nl:Int) = (m:Int):=by omega
 have hmn:m <= n:=by omega
 have hw1:IntKind.i64.wrap (m:Int) = (m:Int):=ya5 (by have:=HN.out;omega)
 have hw2:IntKind.i64.wrap (20 * (m:Int)) = 20 * (m:Int):=by
  have:=ya5 (k:=20 * m) (by have:=HN.out;omega);simpa using this
 have HLN:=jh hln;have HNL:=jh hnl;have HM:=jh hm;have HMN:=jh hmn;have HL8:=jh hl8;have HR8:=jh hr8;have HG8:=jh hG8;have HZ8:=jh hsz8;have HT1:=jh hO1;have HT2:=jh hO2;have HM2:=jh hm2;have HW1:=jh hw1;have HW2:=jh hw2;clear hln hnl hm hmn hl8 hr8 hG8 hsz8 hO1 hO2 hcle hrn HQ1 HQ2 HL7 HR7 HG7 hm2 hw1 hw2;refine jwl ?_;refine zm 18 (.func (.func 116) #[.pointer (some ⟨r,0,none⟩)] #[]) rfl ?_;refine zm 2 (.int .i64 (n:Int)) rfl ?_;refine zm 13 (.slice AN n cN) rfl ?_;simp only [jp,jb,jz,js];refine yah rfl 117 #[.slice AN n cN] (yam _ (.tmp 78) _ rfl _ rfl (jeo Tryz.func117 (by kernel_rfl) rfl _ _)) (hcnt.mono ?_);clear hcnt;rintro e w9 ⟨rfl,rfl⟩;refine ⟨_,rfl,?_⟩;simp only [jp,jb,jz,js];have hm2:=HM2.out;have hw1:=HW1.out;have hw2:=HW2.out;refine yac rfl (.int .i64 (m:Int)) (by go_simp <;> first | rfl | (rw [hm2,hw1]) | (simp [hm2,hw1])) ?_;simp only [jp,jb,jz,js];refine zg (.int .i64 (20 * (m:Int))) ?_;simp only [jp,jb,jz,js];clear hm2 hw1 hw2;have htk:=ycy s A3 (20 * m) E3 r w8 HR8.out HS.out HB3.out (by have:=HN.out;have:=HMN.out;omega);rw [show ((20 * m:Nat):Int) = 20 * (m:Int) by omega] at htk;refine yah rfl 116 #[.pointer (some ⟨r,0,none⟩),.int .i64 (20 * (m:Int))] (yjd _ (.tmp 76) (.tmp 81) _ _ rfl rfl _ rfl (jeo Tryz.func116 (by kernel_rfl) rfl _ _)) (htk.mono ?_);clear htk;rintro e w10 ⟨rfl,hr10,hg10⟩;obtain ⟨tos,htos⟩:∃ x,tkS s A3 (20 * m) E3 = x:=⟨_,rfl⟩;obtain ⟨E4,hE4⟩:∃ x,tkE s A3 (20 * m) E3 = x:=⟨_,rfl⟩;have hA4:tkA s A3 (20 * m) E3 <= s.size:=yec HB3.out;obtain ⟨A4,hA4e⟩:∃ x,tkA s A3 (20 * m) E3 = x:=⟨_,rfl⟩;have hl10:=HL8.out.grown hg10 (fun e=>by have:=ji e;omega);have hs10:=HB8.out.grown hg10 (fun e=>by have:=ji e;have:=HZ.out;have:=HZ5.out;have:=HZ6.out;have:=HZ7.out;omega);have hG10:=yab HG8.out hg10 (fun k hk=>.inr (by have:=ji hk;have:=HR0.out;omega));have hO1:=HT1.out.keep (w':=w10) (fun p u h1 _ hu=>hg10.cell hu (fun e=>by have:=ji e;have:=HZ.out;omega));have hO2:=HT2.out.keep (w':=w10) (fun p u h1 _ hu=>hg10.cell hu (fun e=>by have:=ji e;have:=HZ.out;have:=HZ5.out;omega));rw [htos,hE4];rw [hE4,hA4e] at hr10;rw [hA4e] at hA4;have HTO:=jh htos;have HE4:=jh hE4;have HA4:=jh hA4e;have HB4:=jh hA4;have HR10:=jh hr10;have HL10:=jh hl10;have HS10:=jh hs10;have HG10:=jh hG10;have HZ10:=jh hg10.size;have HSZ64:Hid (E4 = 0 -> sgs.size = 64 * n):=jh (fun h4=>by rw [<- hE4] at h4;rw [<- HSG.out];exact yj2 (HE3.out.trans (ynj h4).1));have HU1:=jh hO1;have HU2:=jh hO2;clear htos hE4 hA4e hA4 hr10 hl10 hs10 hG10 hg10 hO1 hO2 HT1 HT2 HR8 HL8 HG8 HB8;refine ⟨_,rfl,?_⟩;simp only [jp,jb,jz,js];refine zm 82 (.tuple #[.string tos,.bool (decide (E4 = 0))]) rfl ?_;simp only [jp,jb,jz,js];refine zg (.string tos) ?_;simp only [jp,jb,jz,js];refine zg (.bool (decide (E4 = 0))) ?_;simp only [jp,jb,jz,js];refine zg (.string tos) ?_;simp only [jp,jb,jz,js];refine zg (.bool (decide (E4 = 0))) ?_;simp only [jp,jb,jz,js];refine jwn ?_;obtain ⟨yl,hyl⟩:∃ x,btL s A1 n E1 = x:=⟨_,rfl⟩;have hly:yl.length = n:=by rw [<- hyl];exact yfN s A1 n E1
 obtain ⟨AY,cY,hv2,_⟩:=HU2.out;rw [hyl] at HU2;rw [hyl,jd8,hly] at hv2;subst hv2;have HYL:=jh hyl;have HLY:=jh hly;clear hyl hly;obtain ⟨l,hl⟩:∃ x,r + 1 = x:=⟨_,rfl⟩;obtain ⟨sg,hsg⟩:∃ x,w7.heap.size = x:=⟨_,rfl⟩;rw [hl] at HL10;rw [hsg] at HS10;simp only [hl,hsg];obtain ⟨R0,hR0⟩:∃ x,(if E4 ≠ 0 then (.error E4:Except Int (List TxV × Nat)) else ycA s sgs nl yl n 0 A4 tos) = x:=⟨_,rfl⟩;have HRR:=jh hR0
 have hst:GetS w10 s sgs r sg l n 0 A4 0 E4 0 (ycH n) blankL [] [] w10:=by
  have h1:=HR10.out.lt;have h2:=HL10.out.lt;have h3:=HS10.out.lt;have z1:=HZ.out;have z2:=HZ5.out;have z3:=HZ6.out;have z4:=HZ7.out;exact ⟨HR10.out,HS10.out,HL10.out,Gr3.refl _ _ _ _,h1,h3,h2,by omega,by omega,by omega,HB4.out,Nat.zero_le _,yjs n,Nat.zero_le _,rfl,fun _=>rfl,fun i hi=>by omega,fun _ i hi=>by omega,rfl,fun hi=>ygG n 0 hi,fun i _ hi=>ygG n i hi⟩
 have HST:=jh hst;have HL0:=jh hl;have HSG0:=jh hsg;clear hst hl hsg hR0 HR10 HL10 HS10;go_wp2_with fail
 go_loopw [87,19,21] (fun i v19 v21 wr=>∃ (k:Nat) (tk:ByteArray) (lg:Nat) (ak sa:Nat) (Ek SE:Int) (C:Array Value) (ks:List Nat) (ts:List TxV),i = .int .i64 k /\ v19 = .string tk /\ v21 = .int .i64 (lg:Int) /\ k <= n /\ GetS w10 s sgs r sg l n k ak sa Ek SE C blankL ks ts wr /\ lg = ks.count 0 /\ Hid (InvG s sgs nl yl n k ak sa Ek SE E4 ts tk R0)) (fun i _ _ _=>n - (intOf i).toNat)
 case atStart =>
  refine ⟨0,tos,0,A4,0,E4,0,ycH n,[],[],rfl,rfl,rfl,Nat.zero_le _,HST.out,rfl,jh ?_⟩;rw [<- HRR.out];by_cases h4:E4 = 0
  ·exact .inl ⟨h4,rfl,rfl,h4,by rw [if_neg (by simpa using h4),ymv];rfl⟩
  ·exact .inr ⟨h4,by rw [if_pos h4]⟩
 case round =>
  obtain ⟨k,tk,lg,ak,sa,Ek,SE,C,ks,ts,rfl,rfl,rfl,hk,hG,hlg,hinv⟩:=hrel;by_cases hlt:k < n
  ·have q1:(k:Int) < n:=by omega
   have HGS:=jh hG;have HIN:=jh hinv.out;have HLG:=jh hlg;clear hG hinv hlg hk;go_upto_region 14 with (fail)
   refine jwl ?_;refine zm 12 (.slice (some ⟨l,0,none⟩) n n) rfl ?_;refine zm 22 (.int .i64 (k:Int)) rfl ?_;refine zm 12 (.slice (some ⟨l,0,none⟩) n n) rfl ?_;refine zm 22 (.int .i64 (k:Int)) rfl ?_;refine zm 17 (.pointer (some ⟨sg,0,none⟩)) rfl ?_;simp only [jp,jb,jz,js];have hG0:=HGS.out;have hwd:=yhy sgs sa SE sg wr hG0.sd (by have:=HSGZ.out;omega) hG0.hsa;refine yah rfl 118 #[.pointer (some ⟨sg,0,none⟩)] (yam _ (.tmp 94) _ rfl _ rfl (jeo Tryz.func118 (by kernel_rfl) rfl _ _)) (hwd.mono ?_);clear hwd;rintro e u1 ⟨rfl,hb,hg⟩;have hG1:=hG0.sign hg hb (yec hG0.hsa);clear hb hg;refine ⟨_,rfl,?_⟩;simp only [jp,jb,jz,js];refine zm 17 (.pointer (some ⟨sg,0,none⟩)) rfl ?_;simp only [jp,jb,jz,js];have hwd:=yhy sgs _ _ sg u1 hG1.sd (by have:=HSGZ.out;omega) hG1.hsa;refine yah rfl 118 #[.pointer (some ⟨sg,0,none⟩)] (yam _ (.tmp 96) _ rfl _ rfl (jeo Tryz.func118 (by kernel_rfl) rfl _ _)) (hwd.mono ?_);clear hwd;rintro e u2 ⟨rfl,hb,hg⟩;have hG2:=hG1.sign hg hb (yec hG1.hsa);clear hb hg;refine ⟨_,rfl,?_⟩;simp only [jp,jb,jz,js];refine zg (.pointer (some ⟨l,36 * k,none⟩)) ?_;simp only [jp,jb,jz,js];refine zg (.pointer (some ⟨l,36 * k + 21,none⟩)) ?_;simp only [jp,jb,jz,js];have hrow:=hG2.row;have hsz:=hG2.size;have hG3:=hG2.put 21 (ybn (wdN sgs sa SE)).toList (by simp [ybn]) hlt;refine yaF rfl rfl (w':=u2.setRow l (putA (36 * k + 21) (ybn (wdN sgs sa SE)).toList _)) (by rw [<- ya2 hrow (36 * k + 21) (ybn (wdN sgs sa SE)).toList];exact yap 45 (.tmp 99) (.tmp 95) rfl l (36 * k + 21) rfl _ rfl (ybn (wdN sgs sa SE)) rfl (ya8 hrow (by rw [hsz];simp [ybn];omega)) (by kernel_rfl) (by simp [ybn,ja2])) ?_;generalize u2.setRow l (putA (36 * k + 21) (ybn (wdN sgs sa SE)).toList _) = u3 at *;clear hrow hsz;refine zg (.pointer (some ⟨l,36 * k,none⟩)) ?_;simp only [jp,jb,jz,js];refine zg (.pointer (some ⟨l,36 * k + 25,none⟩)) ?_;simp only [jp,jb,jz,js];have hrow:=hG3.row;have hsz:=hG3.size;have hG4:=hG3.put 25 (ybn (wdN sgs (tkA sgs sa 32 SE) (tkE sgs sa 32 SE))).toList (by simp [ybn]) hlt;refine yaF rfl rfl (w':=u3.setRow l (putA (36 * k + 25) (ybn (wdN sgs (tkA sgs sa 32 SE) (tkE sgs sa 32 SE))).toList _)) (by rw [<- ya2 hrow (36 * k + 25) (ybn (wdN sgs (tkA sgs sa 32 SE) (tkE sgs sa 32 SE))).toList];exact yap 45 (.tmp 101) (.tmp 97) rfl l (36 * k + 25) rfl _ rfl (ybn (wdN sgs (tkA sgs sa 32 SE) (tkE sgs sa 32 SE))) rfl (ya8 hrow (by rw [hsz];simp [ybn];omega)) (by kernel_rfl) (by simp [ybn,ja2])) ?_;generalize u3.setRow l (putA (36 * k + 25) (ybn (wdN sgs (tkA sgs sa 32 SE) (tkE sgs sa 32 SE))).toList _) = u4 at *;clear hrow hsz;refine jwn ?_;have HG4:=jh hG4;clear hG0 hG1 hG2 hG3 hG4;obtain ⟨gy,oy,rfl,hy1,hy2,hy3⟩:=HU2.out.at_ hlt;rw [jgm,je (by rw [HLY.out];exact hlt)] at hy3;obtain ⟨yb,hyb⟩:∃ b,yl[k]'(by rw [HLY.out];exact hlt) = b:=⟨_,rfl⟩;rw [hyb] at hy3
   have hyc:u4.cell? ⟨gy,oy + k,none⟩ = some (.bool yb):=by
    have:=HG4.out.gr.cell (p:=⟨gy,oy + k,none⟩) hy3 (by have:=HZ.out;have:=HZ5.out;show gy ≠ r;omega) (by have:=HZ6.out;have:=HZ7.out;have:=HZ8.out;have:=HSG0.out;show gy ≠ sg;omega) (by have:=HZ.out;have:=HZ5.out;have:=HL0.out;show gy ≠ l;omega);exact this
   have HYB:Hid (yl.getD k false = yb):=jh (by rw [jg,je (by rw [HLY.out];exact hlt),Option.getD_some,hyb]);clear hyb hy1 hy2 hy3;go_upto_if 105 with (fail)
   clear hyc;go_cut [] (fun wx=>∃ C1:Array Value,GetS w10 s sgs r sg l n k ak (tkA sgs (tkA sgs sa 32 SE) 32 (tkE sgs sa 32 SE)) Ek (tkE sgs (tkA sgs sa 32 SE) 32 (tkE sgs sa 32 SE)) C1 (txL (ycG (if yl.getD k false then 1 else 0) (wdN sgs sa SE) (wdN sgs (tkA sgs sa 32 SE) (tkE sgs sa 32 SE)) ⟨#[]⟩) (.slice none 0 0) (.slice none 0 0)) ks ts wx)
   case first =>
    have hG4:=HG4.out;have hG5:=hG4.eqc (cur2 _ _);have HG5:=jh hG5;clear hG4 hG5 HG4;cases yb
    ·go_wp2_with fail
     go_meet
     case rel=>exact ⟨_,HG5.out.eqc (by rw [HYB.out];rfl)⟩
    ·go_upto_region 16 with (fail)
     refine jwl ?_;refine zm 12 (.slice (some ⟨l,0,none⟩) n n) rfl ?_;refine zm 22 (.int .i64 (k:Int)) rfl ?_;simp only [jp,jb,jz,js];refine zg (.pointer (some ⟨l,36 * k,none⟩)) ?_;simp only [jp,jb,jz,js];refine zg (.pointer (some ⟨l,36 * k + 20,none⟩)) ?_;simp only [jp,jb,jz,js];have hG5:=HG5.out;have hrow:=hG5.row;have hsz:=hG5.size;have hG6:=hG5.put 20 [.int .u64 1] (by simp) hlt;refine yaF rfl rfl (w':=u4.setRow l (putA (36 * k + 20) [.int .u64 1] _)) (by rw [<- ya2 hrow (36 * k + 20) [.int .u64 1]];exact yap 22 (.tmp 109) (.const (.int .u64 1)) rfl l (36 * k + 20) rfl _ rfl #[.int .u64 1] rfl (ya8 hrow (by rw [hsz];simp;omega)) (by kernel_rfl) (by simp [ja2])) ?_;generalize u4.setRow l (putA (36 * k + 20) [.int .u64 1] _) = u5 at *;clear hrow hsz;refine jwn ?_;have HG6:=jh (hG6.eqc (cur3 _ _ _));clear hG5 hG6;go_wp2_with fail
     go_meet
     case rel=>exact ⟨_,HG6.out.eqc (by rw [HYB.out];rfl)⟩
   case rest =>
    obtain ⟨C1,hG5⟩:=hcut;clear HG4 HYB;obtain ⟨R,hR⟩:∃ x,wdN sgs sa SE = x:=⟨_,rfl⟩;obtain ⟨S2,hS2⟩:∃ x,wdN sgs (tkA sgs sa 32 SE) (tkE sgs sa 32 SE) = x:=⟨_,rfl⟩;obtain ⟨sa2,hsa2⟩:∃ x,tkA sgs (tkA sgs sa 32 SE) 32 (tkE sgs sa 32 SE) = x:=⟨_,rfl⟩;obtain ⟨SE2,hSE2⟩:∃ x,tkE sgs (tkA sgs sa 32 SE) 32 (tkE sgs sa 32 SE) = x:=⟨_,rfl⟩;obtain ⟨yv,hyv⟩:∃ x,(if yl.getD k false then 1 else 0) = x:=⟨_,rfl⟩;rw [hR,hS2,hsa2,hSE2,hyv] at hG5;have HR1:=jh hR;have HS2:=jh hS2;have HSA2:=jh hsa2;have HSE2:=jh hSE2;have HYV:=jh hyv;clear hR hS2 hsa2 hSE2 hyv;have HG5:=jh hG5;clear hG5;go_upto_region 17 with (fail)
    generalize wc = u6 at *;obtain ⟨gn,on_,rfl,hn1,hn2,hn3⟩:=HU1.out.at_ hlt;rw [jgm,je (by rw [HLN.out];exact hlt)] at hn3;obtain ⟨nb,hnb⟩:∃ b,nl[k]'(by rw [HLN.out];exact hlt) = b:=⟨_,rfl⟩;rw [hnb] at hn3
    have hnc:u6.cell? ⟨gn,on_ + k,none⟩ = some (.bool nb):=by
     have:=HG5.out.gr.cell (p:=⟨gn,on_ + k,none⟩) hn3 (by have:=HZ.out;show gn ≠ r;omega) (by have:=HZ6.out;have:=HZ7.out;have:=HZ8.out;have:=HSG0.out;show gn ≠ sg;omega) (by have:=HZ.out;have:=HL0.out;show gn ≠ l;omega);exact this
    have HNB:Hid (nl.getD k false = nb):=jh (by rw [jg,je (by rw [HLN.out];exact hlt),Option.getD_some,hnb]);clear hnb hn1 hn2 hn3;go_cut [119] (fun v wx=>v = .bool (decide (nl.getD k false = false /\ 20 <= tk.size)) /\ wx = u6)
    case first =>
     cases nb
     ·by_cases h20:20 <= tk.size
      ·have q2:decide ((20:Int) <= (tk.size:Int)) = true:=decide_eq_true (by omega);go_wp2_with fail
       go_meet
       case rel=>exact ⟨congrArg jc7 (decide_eq_true ⟨HNB.out,h20⟩).symm,rfl⟩
      ·have q2:decide ((20:Int) <= (tk.size:Int)) = false:=decide_eq_false (by omega);go_wp2_with fail
       go_meet
       case rel=>exact ⟨congrArg jc7 (decide_eq_false (fun h=>h20 h.2)).symm,rfl⟩
     ·go_wp2_with fail
      go_meet
      case rel=>exact ⟨congrArg jc7 (decide_eq_false (fun h=>by have:=HNB.out;rw [this] at h;exact absurd h.1 (by simp))).symm,rfl⟩
    case rest =>
     obtain ⟨rfl,rfl⟩:=hcut;clear hnc;obtain ⟨cb,hcb⟩:∃ b,decide (nl.getD k false = false /\ 20 <= tk.size) = b:=⟨_,rfl⟩;rw [hcb];have HCB:=jh hcb;clear hcb HNB;go_upto_if 119 with (fail)
     go_cut [19] (fun v19 wx=>∃ C1:Array Value,v19 = .string (if nl.getD k false = false /\ 20 <= tk.size then tk.extract 20 tk.size else tk) /\ GetS w10 s sgs r sg l n k ak sa2 Ek SE2 C1 (txL (ycG yv R S2 (if nl.getD k false = false /\ 20 <= tk.size then tk.extract 0 20 else ⟨#[]⟩)) (.slice none 0 0) (.slice none 0 0)) ks ts wx)
     case first =>
      cases cb
      ·go_wp2_with fail
       go_meet
       have hc:=of_decide_eq_false HCB.out
       case rel=>exact ⟨C1,by rw [if_neg hc],by rw [if_neg hc];exact HG5.out⟩
      ·have hc:=of_decide_eq_true HCB.out;have HC:=jh hc;have htz:=hc.2;clear hc HCB;go_upto_region 18 with (fail)
       refine jwh (S:=fun _=>True) (by kernel_rfl) ?_;change wpAnyH _ _ _ _ _ _ _ _ wc.drew;have hG5:=HG5.out.kept (yau (jr wc none));generalize wc.drew = u7 at *;clear HG5;refine zt 0 (.slice (some ⟨l,0,none⟩) n n) (some 120) rfl (fun W hW=>by go_simp) trivial ?_;simp only [jp,jb,jz,js];refine zt 1 (.int .i64 (k:Int)) (some 121) rfl (fun W hW=>by go_simp) trivial ?_;simp only [jp,jb,jz,js];refine zt 2 (.string tk) (some 122) rfl (fun W hW=>by go_simp) trivial ?_;simp only [jp,jb,jz,js];refine zt 3 (.string (tk.extract 0 20)) (some 123) rfl (fun W hW=>by go_simp <;> first | rfl | (intro h;omega)) trivial ?_;simp only [jp,jb,jz,js];refine zt 4 (.string tk) (some 124) rfl (fun W hW=>by go_simp) trivial ?_;simp only [jp,jb,jz,js];refine zt 5 (.string (tk.extract 20 tk.size)) (some 125) rfl (fun W hW=>by go_simp <;> first | rfl | (intro h;omega)) trivial ?_;simp only [jp,jb,jz,js];refine zt 6 (.pointer (some ⟨l,36 * k,none⟩)) (some 126) rfl (fun W hW=>by go_simp <;> rfl) trivial ?_;simp only [jp,jb,jz,js];refine zt 7 (.pointer (some ⟨l,36 * k + 12,none⟩)) (some 127) rfl (fun W hW=>by go_simp <;> rfl) trivial ?_;simp only [jp,jb,jz,js];have hrow:=hG5.row;have hsz:=hG5.size;have hG6:=hG5.put 12 [.string (tk.extract 0 20)] (by simp) hlt;refine yag (i:=8) (by kernel_rfl) ?_;refine ybo rfl rfl rfl (w':=u7.setRow l (putA (36 * k + 12) [.string (tk.extract 0 20)] C1)) (by rw [<- ya2 hrow (36 * k + 12) [.string (tk.extract 0 20)]];exact yap 9 (.tmp 127) (.tmp 123) rfl l (36 * k + 12) rfl _ rfl #[.string (tk.extract 0 20)] rfl (ya8 hrow (by rw [hsz];simp;omega)) (by kernel_rfl) (by simp [ja2])) trivial ?_;(try simp only [jp,jb,jz,js]);generalize u7.setRow l (putA (36 * k + 12) [.string (tk.extract 0 20)] C1) = u8 at *;refine yag (i:=9) (by kernel_rfl) ?_;refine yaf (some 19) rfl rfl (.string (tk.extract 20 tk.size)) (by go_simp <;> rfl) rfl trivial ?_;simp only [jp,jb,jz,js];refine jwd (by kernel_rfl) ?_ _;have HG6:=jh (hG6.eqc (cur4 _ _ _ _ _));clear hrow hsz hG5 hG6 htz;go_wp2_with fail
       go_meet
       case rel=>exact ⟨_,by rw [if_pos HC.out],by rw [if_pos HC.out];exact HG6.out⟩
     case rest =>
      obtain ⟨C2,rfl,hG6⟩:=hcut;clear HG5 HCB;obtain ⟨tk2,htk2⟩:∃ x,(if nl.getD k false = false /\ 20 <= tk.size then tk.extract 20 tk.size else tk) = x:=⟨_,rfl⟩;obtain ⟨dv,hdv⟩:∃ x,(if nl.getD k false = false /\ 20 <= tk.size then tk.extract 0 20 else ⟨#[]⟩) = x:=⟨_,rfl⟩;rw [hdv] at hG6;rw [htk2];have HG6:=jh hG6;have HTK2:=jh htk2;have HDV:=jh hdv;clear hG6 htk2 hdv;go_upto_region 19 with (fail)
      refine jwl ?_;refine zm 11 (.pointer (some ⟨r,0,none⟩)) rfl ?_;refine zm 12 (.slice (some ⟨l,0,none⟩) n n) rfl ?_;refine zm 22 (.int .i64 (k:Int)) rfl ?_;simp only [jp,jb,jz,js];refine zg (.pointer (some ⟨l,36 * k,none⟩)) ?_;simp only [jp,jb,jz,js];have hre:=ylF s ak Ek r l (36 * k) C2 wc HG6.out.rd HG6.out.row (by rw [HG6.out.size];omega) HG6.out.rw HS.out HG6.out.ha (fun y T h=>yp8 h (by rw [yan];exact HS.out));refine yah rfl 119 #[.pointer (some ⟨r,0,none⟩),.pointer (some ⟨l,36 * k,none⟩)] (yao _ (.tmp 128) (.tmp 131) _ rfl _ _ rfl rfl (jeo Tryz.func119 (by kernel_rfl) rfl _ _)) (hre.mono ?_);clear hre;rintro e u7 he;obtain ⟨rfl,a',E',C3,ts2,hG7,hkd,hE⟩:=HG6.out.next hlt he;have hinv:=InvG.step HIN.out hlt HSZ64.out HR1.out HS2.out HSA2.out HSE2.out HYV.out HTK2.out HDV.out hE;obtain ⟨kv,hkv⟩:∃ x,kdV s ak Ek = x:=⟨_,rfl⟩;rw [hkv] at hG7 hkd;have hlc:=List.count_le_length (a:=0) (l:=ks);have hlg1:(lg:Int) + 1 <= 1000:=by have:=HLG.out;have:=HG6.out.lk;have:=HN.out;omega
      have hkc:u7.cell? ⟨l,36 * k,none⟩ = some (.int .i64 (kv:Int)):=(hG7.row.cell _).trans hkd;have HG7:=jh hG7;have HIN7:=jh hinv;clear he hkd hE hinv hG7 hkv hlc HG6 HGS HIN;refine ⟨_,rfl,?_⟩;simp only [jp,jb,jz,js];refine jwn ?_;have hw1:IntKind.i64.wrap ((lg:Int) + 1) = ((lg + 1:Nat):Int):=ya5 (k:=lg + 1) (by omega);have hwk:IntKind.i64.wrap ((k:Int) + 1) = ((k + 1:Nat):Int):=ya5 (k:=k + 1) (by have:=HN.out;omega);go_upto_region 20 with (fail)
      by_cases hk0:kv = 0
      ·have q0:((kv:Int) == 0) = true:=by simp [hk0]
       have hl2:lg + 1 = (ks ++ [kv]).count 0:=by rw [ygD,if_pos hk0,HLG.out]
       have HL2:=jh hl2;clear hl2 hk0;refine jwl ?_;refine zm 12 (.slice (some ⟨l,0,none⟩) n n) rfl ?_;refine zm 22 (.int .i64 (k:Int)) rfl ?_;simp only [jp,jb,jz,js];refine zg (.pointer (some ⟨l,36 * k,none⟩)) ?_;simp only [jp,jb,jz,js];refine zg (.pointer (some ⟨l,36 * k,none⟩)) ?_;simp only [jp,jb,jz,js];refine yac rfl (.int .i64 (kv:Int)) (yaj 3 (.tmp 136) rfl _ rfl _ _ jb9 rfl hkc) ?_;simp only [jp,jb,jz,js];refine yac rfl (.bool true) (by go_simp <;> first | rfl | (rw [q0];rfl) | simp [q0]) ?_;simp only [jp,jb,jz,js];refine jwn ?_;clear hkc;go_wp2_with fail
       go_roundw
       case rel=>exact ⟨k + 1,tk2,lg + 1,a',sa2,E',SE2,C3,ks ++ [kv],ts2,by go_num,rfl,by go_num,by omega,HG7.out,HL2.out,HIN7⟩
       case measure=>simp [intOf];omega
      ·have q0:((kv:Int) == 0) = false:=by simpa using hk0
       have hl2:lg = (ks ++ [kv]).count 0:=by rw [ygD,if_neg hk0,HLG.out];rfl
       have HL2:=jh hl2;clear hl2 hk0;refine jwl ?_;refine zm 12 (.slice (some ⟨l,0,none⟩) n n) rfl ?_;refine zm 22 (.int .i64 (k:Int)) rfl ?_;simp only [jp,jb,jz,js];refine zg (.pointer (some ⟨l,36 * k,none⟩)) ?_;simp only [jp,jb,jz,js];refine zg (.pointer (some ⟨l,36 * k,none⟩)) ?_;simp only [jp,jb,jz,js];refine yac rfl (.int .i64 (kv:Int)) (yaj 3 (.tmp 136) rfl _ rfl _ _ jb9 rfl hkc) ?_;simp only [jp,jb,jz,js];refine yac rfl (.bool false) (by go_simp <;> first | rfl | (rw [q0];rfl) | simp [q0]) ?_;simp only [jp,jb,jz,js];refine jwn ?_;clear hkc;go_wp2_with fail
       go_roundw
       case rel=>exact ⟨k + 1,tk2,lg,a',sa2,E',SE2,C3,ks ++ [kv],ts2,by go_num,rfl,rfl,by omega,HG7.out,HL2.out,HIN7⟩
       case measure=>simp [intOf];omega
  ·have q1:¬ ((k:Int) < n):=by omega
   have hkn:k = n:=by omega
   have HKN:=jh hkn;have HGS:=jh hG;have HIN:=hinv;have HLG:=jh hlg;have HLEG:Hid (Ek = 0 -> lg = legN ts):=jh (fun h0=>by rw [yk6 (by rw [hG.lt h0,hG.lk]) (fun i hi=>by obtain ⟨_,_,_,h⟩:=hG.good h0 i (by have:=hG.lk;omega);exact h)];exact HLG.out);have HRW:=jh (jb6 hG.rl hG.gr.size);have HLW:=jh (jb6 hG.ll hG.gr.size);have HSW:=jh (jb6 hG.gl hG.gr.size);clear hG hinv hlg hk hlt hkn;go_upto_region 23 with (fail)
   refine jwl ?_;refine zm 11 (.pointer (some ⟨r,0,none⟩)) rfl ?_;refine zm 2 (.int .i64 (n:Int)) rfl ?_;simp only [jp,jb,jz,js];have hnu:=yeK s ak n Ek r wr HGS.out.rd HS.out HGS.out.ha (by have:=HN.out;omega);obtain ⟨hnl,hnx,hne⟩:=ycP s ak n Ek HGS.out.ha (by have:=HN.out;omega);rw [hne] at hnu;have hae:=yjD (n:=n) (E:=Ek) HGS.out.ha;have h0e:=fun h=>yoL (s:=s) (a:=ak) (n:=n) (E:=Ek) h;refine yah rfl 120 #[.pointer (some ⟨r,0,none⟩),.int .i64 (n:Int)] (yao _ (.tmp 142) (.tmp 143) _ rfl _ _ rfl rfl (jeo Tryz.func120 (by kernel_rfl) rfl _ _)) (hnu.mono ?_);clear hnu hne;obtain ⟨ns,hns⟩:∃ x,nuN s ak n Ek = x:=⟨_,rfl⟩;obtain ⟨A5,hA5⟩:∃ x,nuA s ak n Ek = x:=⟨_,rfl⟩;obtain ⟨E5,hE5⟩:∃ x,nuE s ak n Ek = x:=⟨_,rfl⟩;rw [hns] at hnl hnx;rw [hns,hA5,hE5];rw [hA5] at hae;rw [hE5] at h0e;rintro e w11 ⟨v5,rfl,ho,hr,hg⟩;have HGA5:=jh (HGS.out.read hg hr hae h0e);have RA:=jh (RowC.of_own ho);have ZRA:=jh hg.size;have LRA:=jh hnl;have XRA:=jh hnx;have NRA:=jh hns;have ARA:=jh hA5;have ERA:=jh hE5;have QRA:=jh h0e;have GRA:=jh hg;clear ho hr hg hae h0e hnl hnx hns hA5 hE5;refine ⟨_,rfl,?_⟩;simp only [jp,jb,jz,js];refine zm 11 (.pointer (some ⟨r,0,none⟩)) rfl ?_;refine zm 2 (.int .i64 (n:Int)) rfl ?_;simp only [jp,jb,jz,js];have hnu:=yeK s A5 n E5 r w11 HGA5.out.rd HS.out HGA5.out.ha (by have:=HN.out;omega);obtain ⟨hnl,hnx,hne⟩:=ycP s A5 n E5 HGA5.out.ha (by have:=HN.out;omega);rw [hne] at hnu;have hae:=yjD (n:=n) (E:=E5) HGA5.out.ha;have h0e:=fun h=>yoL (s:=s) (a:=A5) (n:=n) (E:=E5) h;refine yah rfl 120 #[.pointer (some ⟨r,0,none⟩),.int .i64 (n:Int)] (yao _ (.tmp 145) (.tmp 146) _ rfl _ _ rfl rfl (jeo Tryz.func120 (by kernel_rfl) rfl _ _)) (hnu.mono ?_);clear hnu hne;obtain ⟨gs,hgs⟩:∃ x,nuN s A5 n E5 = x:=⟨_,rfl⟩;obtain ⟨A6,hA6⟩:∃ x,nuA s A5 n E5 = x:=⟨_,rfl⟩;obtain ⟨E6,hE6⟩:∃ x,nuE s A5 n E5 = x:=⟨_,rfl⟩;rw [hgs] at hnl hnx;rw [hgs,hA6,hE6];rw [hA6] at hae;rw [hE6] at h0e;rintro e w12 ⟨v6,rfl,ho,hr,hg⟩;have HGA6:=jh (HGA5.out.read hg hr hae h0e);have RB:=jh (RowC.of_own ho);have ZRB:=jh hg.size;have LRB:=jh hnl;have XRB:=jh hnx;have NRB:=jh hgs;have ARB:=jh hA6;have ERB:=jh hE6;have QRB:=jh h0e;have GRB:=jh hg;clear ho hr hg hae h0e hnl hnx hgs hA6 hE6;refine ⟨_,rfl,?_⟩;simp only [jp,jb,jz,js];refine zg (v5) ?_;simp only [jp,jb,jz,js];refine zg (v6) ?_;simp only [jp,jb,jz,js];refine jwn ?_;have hlg:lg <= 512:=by have:=HLG.out;have:=List.count_le_length (a:=0) (l:=ks);have:=HGS.out.lk;have:=HKN.out;have:=HN.out;omega
   have HLE:=jh hlg;clear hlg HGS;go_upto_region 24 with (fail)
   refine jwl ?_;refine zm 11 (.pointer (some ⟨r,0,none⟩)) rfl ?_;refine zm 21 (.int .i64 (lg:Int)) rfl ?_;simp only [jp,jb,jz,js];have hbt:=yfO s A6 lg E6 r w12 HGA6.out.rd HS.out HGA6.out.ha (by have:=HLE.out;omega);rw [yfN] at hbt;refine yah rfl 115 #[.pointer (some ⟨r,0,none⟩),.int .i64 (lg:Int)] (yao _ (.tmp 148) (.tmp 149) _ rfl _ _ rfl rfl (jeo Tryz.func115 (by kernel_rfl) rfl _ _)) (hbt.mono ?_);clear hbt;have hae:btA s A6 lg E6 <= s.size:=by unfold btA;exact yec HGA6.out.ha
   have h0e:=fun h=>yqi (s:=s) (a:=A6) (n:=lg) (E:=E6) h;have hcl:=yfN s A6 lg E6;obtain ⟨cs,hcs⟩:∃ x,btL s A6 lg E6 = x:=⟨_,rfl⟩;obtain ⟨A7,hA7⟩:∃ x,btA s A6 lg E6 = x:=⟨_,rfl⟩;obtain ⟨E7,hE7⟩:∃ x,btE s A6 lg E6 = x:=⟨_,rfl⟩;rw [hcs,hA7,hE7];rw [hA7] at hae;rw [hE7] at h0e;rw [hcs] at hcl;rintro e w13 ⟨v7,rfl,ho,hr,hg⟩;have HGA7:=jh (HGA6.out.read hg hr hae h0e);have RD:=jh (RowC.of_own ho);have ZRD:=jh hg.size;have GRD:=jh hg;have NRD:=jh hcs;have ARD:=jh hA7;have ERD:=jh hE7;have QRD:=jh h0e;have LRD:=jh hcl;clear ho hr hg hae h0e hcl hcs hA7 hE7;refine ⟨_,rfl,?_⟩;simp only [jp,jb,jz,js];refine zg (v7) ?_;simp only [jp,jb,jz,js];refine jwn ?_;have RA2:=jh ((RA.out.keep (w':=w12) (fun p u h1 _ hu=>GRB.out.cell hu (fun e=>by have:=ji e;have:=HRW.out;omega))).keep (w':=w13) (fun p u h1 _ hu=>GRD.out.cell hu (fun e=>by have:=ji e;have:=HRW.out;omega)));have RB2:=jh (RB.out.keep (w':=w13) (fun p u h1 _ hu=>GRD.out.cell hu (fun e=>by have:=ji e;have:=HRW.out;have:=ZRA.out;omega)));obtain ⟨A5s,c5,hv5,_,_⟩:=RA2.out;rw [jd8,jd8,LRA.out] at hv5;subst hv5;obtain ⟨A6s,c6,hv6,_,_⟩:=RB2.out;rw [jd8,jd8,LRB.out] at hv6;subst hv6;have HF:=jh (FilS.of HGA7.out HKN.out);obtain ⟨F0,hF0⟩:∃ x,yaY chain ts ns gs cs = x:=⟨_,rfl⟩;have HF0:=jh hF0;have hif:InvF chain ts [] ns gs cs E7 0 F0:=fun _=>by rw [<- hF0];rfl
   have HIF:=jh hif
   have HEND:Hid (getR s a n chain = if E7 ≠ 0 then .error E7 else if yaA F0 chain ≠ 0 then .error (yaA F0 chain) else .ok (F0,A7)):=jh (by
    unfold getR;rw [yoV HNL.out HA1.out HE1.out HE2.out HA2.out HYL.out HM.out HSG.out HE3.out HA3.out HE4.out HA4.out HTO.out HRR.out,<- hF0];exact ynP HIN.out HKN.out ERA.out ARA.out NRA.out ERB.out ARB.out NRB.out ERD.out ARD.out NRD.out HLEG.out)
   have HROK:Hid (E7 = 0 -> ∀ u ∈ F0,ydX u):=jh (fun h0=>by
    rw [<- hF0];exact yfF (by have:=HC1.out;omega) (InvG.rows HIN.out HKN.out (QRA.out (QRB.out (QRD.out h0))) HRR.out) XRA.out XRB.out)
   clear hF0 hif RA RB HGA5 HGA6;go_wp2_with fail
   go_loopw [153,25] (fun i v25 wr2=>∃ (j:Nat) (C2:Array Value) (us:List TxV) (csr:List Bool),i = .int .i64 j /\ j <= n /\ FilS w13 w10.heap.size s r sg l n j A7 E7 C2 (curT (ts.getD j TxV.zero)) ks ts us wr2 /\ Hid (RowC w12.heap.size w13.heap.size wr2 v25 (csr.map jc7)) /\ Hid (csr.length = (ks.drop j).count 0) /\ Hid (InvF chain ts us ns gs csr E7 j F0)) (fun i _ _=>n - (intOf i).toNat)
   case atStart=>exact ⟨0,C,[],cs,rfl,Nat.zero_le _,HF.out,RD,jh (by rw [LRD.out,HLG.out];rfl),HIF⟩
   case round =>
    obtain ⟨j,C2,us,csr,rfl,hjn,hG,HRC,HCL,HIJ⟩:=hrel;by_cases hlt:j < n
    ·have q2:(j:Int) < n:=by omega
     have HG:=jh hG;obtain ⟨gno,ono,rfl,hn1,hn2,hn3⟩:=RA2.out.at_ (by omega);have hnc:=hn3 j hlt;obtain ⟨gga,oga,rfl,hm1,hm2,hm3⟩:=RB2.out.at_ (by omega);have hmc:=hm3 j hlt;clear hn3 hm3;obtain ⟨nv,hnv⟩:∃ x,ns.getD j 0 = x:=⟨_,rfl⟩;obtain ⟨gv,hgv⟩:∃ x,gs.getD j 0 = x:=⟨_,rfl⟩
     have hnc2:wr.cell? ⟨gno,ono + j,none⟩ = some (.int .u64 (nv:Int)):=by
      have e:((ns.map (fun (x:Nat)=>(x:Int))).map (je3 .u64))[j]? = some (.int .u64 (nv:Int)):=by
       rw [jgm,jgm,je (by rw [LRA.out];exact hlt),<- hnv,jg,je (by rw [LRA.out];exact hlt)];rfl
      exact HG.out.gr.cell (hnc.trans e) (by have:=HRW.out;show gno ≠ r;omega) (by have:=HSW.out;show gno ≠ sg;omega) (by have:=HLW.out;show gno ≠ l;omega)
     have hmc2:wr.cell? ⟨gga,oga + j,none⟩ = some (.int .u64 (gv:Int)):=by
      have e:((gs.map (fun (x:Nat)=>(x:Int))).map (je3 .u64))[j]? = some (.int .u64 (gv:Int)):=by
       rw [jgm,jgm,je (by rw [LRB.out];exact hlt),<- hgv,jg,je (by rw [LRB.out];exact hlt)];rfl
      exact HG.out.gr.cell (hmc.trans e) (by have:=HRW.out;have:=ZRA.out;show gga ≠ r;omega) (by have:=HSW.out;have:=ZRA.out;show gga ≠ sg;omega) (by have:=HLW.out;have:=ZRA.out;show gga ≠ l;omega)
     have hnl:gno ≠ l:=by have:=HLW.out;omega
     have hml:gga ≠ l:=by have:=HLW.out;have:=ZRA.out;omega
     clear hnc hmc hn1 hn2 hm1 hm2;have HNV:=jh hnv;have HGV:=jh hgv;have HJN:=jh hjn;have HNL:=jh hnl;have HML:=jh hml;clear hnv hgv hG hjn hnl hml;go_upto_region 28 with (fail)
     refine jwh (S:=fun W=>W.cell? ⟨gno,ono + j,none⟩ = some (.int .u64 (nv:Int)) /\ W.cell? ⟨gga,oga + j,none⟩ = some (.int .u64 (gv:Int))) (by kernel_rfl) ?_;change wpAnyH _ _ _ _ _ _ _ _ wr.drew;have hgd:=yau (jr wr none);have hG:=HG.out.kept hgd;have hS:wr.drew.cell? ⟨gno,ono + j,none⟩ = some (.int .u64 (nv:Int)) /\ wr.drew.cell? ⟨gga,oga + j,none⟩ = some (.int .u64 (gv:Int)):=⟨hgd.cell hnc2 (by simp),hgd.cell hmc2 (by simp)⟩;have hRC:RowC w12.heap.size w13.heap.size wr.drew u25 (csr.map jc7):=HRC.out.keep fun p u _ _ hu=>hgd.cell hu (by simp);clear hgd hnc2 hmc2 HG HRC;generalize wr.drew = x0 at *
     skip
     refine zt 0 (.slice (some ⟨l,0,none⟩) n n) (some 156) rfl (fun W hW=>by go_simp) hS ?_;simp only [jp,jb,jz,js];refine zt 1 (.int .i64 (j:Int)) (some 157) rfl (fun W hW=>by go_simp) hS ?_;simp only [jp,jb,jz,js];refine zt 2 (.slice (some ⟨l,0,none⟩) n n) (some 158) rfl (fun W hW=>by go_simp) hS ?_;simp only [jp,jb,jz,js];refine zt 3 (.int .i64 (j:Int)) (some 159) rfl (fun W hW=>by go_simp) hS ?_;simp only [jp,jb,jz,js];refine zt 4 (.slice (some ⟨l,0,none⟩) n n) (some 160) rfl (fun W hW=>by go_simp) hS ?_;simp only [jp,jb,jz,js];refine zt 5 (.int .i64 (j:Int)) (some 161) rfl (fun W hW=>by go_simp) hS ?_;simp only [jp,jb,jz,js];refine zt 6 (.slice (some ⟨gno,ono,none⟩) n c5) (some 162) rfl (fun W hW=>by go_simp) hS ?_;simp only [jp,jb,jz,js];refine zt 7 (.int .i64 (j:Int)) (some 163) rfl (fun W hW=>by go_simp) hS ?_;simp only [jp,jb,jz,js];refine zt 8 (.pointer (some ⟨gno,ono + j,none⟩)) (some 164) rfl (fun W hW=>by go_simp <;> rfl) hS ?_;simp only [jp,jb,jz,js];refine zt 9 (.int .u64 (nv:Int)) (some 165) rfl (fun W hW=>yaj 22 (.tmp 164) rfl _ rfl _ _ jb3 rfl hW.1) hS ?_;simp only [jp,jb,jz,js];refine zt 10 (.slice (some ⟨gga,oga,none⟩) n c6) (some 166) rfl (fun W hW=>by go_simp) hS ?_;simp only [jp,jb,jz,js];refine zt 11 (.int .i64 (j:Int)) (some 167) rfl (fun W hW=>by go_simp) hS ?_;simp only [jp,jb,jz,js];refine zt 12 (.pointer (some ⟨gga,oga + j,none⟩)) (some 168) rfl (fun W hW=>by go_simp <;> rfl) hS ?_;simp only [jp,jb,jz,js];refine zt 13 (.int .u64 (gv:Int)) (some 169) rfl (fun W hW=>yaj 22 (.tmp 168) rfl _ rfl _ _ jb3 rfl hW.2) hS ?_;simp only [jp,jb,jz,js];refine zt 14 (.int .u64 (chain:Int)) (some 170) rfl (fun W hW=>by go_simp) hS ?_;simp only [jp,jb,jz,js];refine zt 15 (.pointer (some ⟨l,36 * j,none⟩)) (some 171) rfl (fun W hW=>by go_simp <;> rfl) hS ?_;simp only [jp,jb,jz,js];refine zt 16 (.pointer (some ⟨l,36 * j + 2,none⟩)) (some 172) rfl (fun W hW=>by go_simp <;> rfl) hS ?_;simp only [jp,jb,jz,js];have hrow:=hG.row;have hsz:=hG.size;have hG1:=(hG.put 2 [.int .u64 (nv:Int)] (by omega) (by simp) hlt).eqc (fun sl=>yqh _ _ sl);replace hS:(x0.setRow l (putA (36 * j + 2) [.int .u64 (nv:Int)] C2)).cell? ⟨gno,ono + j,none⟩ = some (.int .u64 (nv:Int)) /\ (x0.setRow l (putA (36 * j + 2) [.int .u64 (nv:Int)] C2)).cell? ⟨gga,oga + j,none⟩ = some (.int .u64 (gv:Int)):=⟨yaM HNL.out hS.1,yaM HML.out hS.2⟩;replace hRC:RowC w12.heap.size w13.heap.size (x0.setRow l (putA (36 * j + 2) [.int .u64 (nv:Int)] C2)) u25 (csr.map jc7):=hRC.keep fun p u h1 _ hu=>yaM (by have:=HLW.out;have:=ZRA.out;have:=ZRB.out;omega) hu;refine yag (i:=17) (by kernel_rfl) ?_;refine ybo rfl rfl rfl (w':=x0.setRow l (putA (36 * j + 2) [.int .u64 (nv:Int)] C2)) (by rw [<- ya2 hrow (36 * j + 2) [.int .u64 (nv:Int)]];exact yap 22 (.tmp 172) (.tmp 165) rfl l (36 * j + 2) rfl _ rfl #[.int .u64 (nv:Int)] rfl (ya8 hrow (by rw [hsz];simp;omega)) (by kernel_rfl) (by simp [ja2])) hS ?_;(try simp only [jp,jb,jz,js]);clear hrow hsz hG;generalize x0.setRow l (putA (36 * j + 2) [.int .u64 (nv:Int)] C2) = x1 at *;refine zt 18 (.pointer (some ⟨l,36 * j,none⟩)) (some 173) rfl (fun W hW=>by go_simp <;> rfl) hS ?_;simp only [jp,jb,jz,js];refine zt 19 (.pointer (some ⟨l,36 * j + 11,none⟩)) (some 174) rfl (fun W hW=>by go_simp <;> rfl) hS ?_;simp only [jp,jb,jz,js];have hrow:=hG1.row;have hsz:=hG1.size;have hG2:=(hG1.put 11 [.int .u64 (gv:Int)] (by omega) (by simp) hlt).eqc (fun sl=>yqg _ _ sl);replace hS:(x1.setRow l (putA (36 * j + 11) [.int .u64 (gv:Int)] (putA (36 * j + 2) [.int .u64 (nv:Int)] C2))).cell? ⟨gno,ono + j,none⟩ = some (.int .u64 (nv:Int)) /\ (x1.setRow l (putA (36 * j + 11) [.int .u64 (gv:Int)] (putA (36 * j + 2) [.int .u64 (nv:Int)] C2))).cell? ⟨gga,oga + j,none⟩ = some (.int .u64 (gv:Int)):=⟨yaM HNL.out hS.1,yaM HML.out hS.2⟩;replace hRC:RowC w12.heap.size w13.heap.size (x1.setRow l (putA (36 * j + 11) [.int .u64 (gv:Int)] (putA (36 * j + 2) [.int .u64 (nv:Int)] C2))) u25 (csr.map jc7):=hRC.keep fun p u h1 _ hu=>yaM (by have:=HLW.out;have:=ZRA.out;have:=ZRB.out;omega) hu;refine yag (i:=20) (by kernel_rfl) ?_;refine ybo rfl rfl rfl (w':=x1.setRow l (putA (36 * j + 11) [.int .u64 (gv:Int)] (putA (36 * j + 2) [.int .u64 (nv:Int)] C2))) (by rw [<- ya2 hrow (36 * j + 11) [.int .u64 (gv:Int)]];exact yap 22 (.tmp 174) (.tmp 169) rfl l (36 * j + 11) rfl _ rfl #[.int .u64 (gv:Int)] rfl (ya8 hrow (by rw [hsz];simp;omega)) (by kernel_rfl) (by simp [ja2])) hS ?_;(try simp only [jp,jb,jz,js]);clear hrow hsz hG1;generalize x1.setRow l (putA (36 * j + 11) [.int .u64 (gv:Int)] (putA (36 * j + 2) [.int .u64 (nv:Int)] C2)) = x2 at *;refine zt 21 (.pointer (some ⟨l,36 * j,none⟩)) (some 175) rfl (fun W hW=>by go_simp <;> rfl) hS ?_;simp only [jp,jb,jz,js];refine zt 22 (.pointer (some ⟨l,36 * j + 1,none⟩)) (some 176) rfl (fun W hW=>by go_simp <;> rfl) hS ?_;simp only [jp,jb,jz,js];have hrow:=hG2.row;have hsz:=hG2.size;have hG3:=(hG2.put 1 [.int .u64 (chain:Int)] (by omega) (by simp) hlt).eqc (fun sl=>yqf _ _ sl);replace hS:(x2.setRow l (putA (36 * j + 1) [.int .u64 (chain:Int)] (putA (36 * j + 11) [.int .u64 (gv:Int)] (putA (36 * j + 2) [.int .u64 (nv:Int)] C2)))).cell? ⟨gno,ono + j,none⟩ = some (.int .u64 (nv:Int)) /\ (x2.setRow l (putA (36 * j + 1) [.int .u64 (chain:Int)] (putA (36 * j + 11) [.int .u64 (gv:Int)] (putA (36 * j + 2) [.int .u64 (nv:Int)] C2)))).cell? ⟨gga,oga + j,none⟩ = some (.int .u64 (gv:Int)):=⟨yaM HNL.out hS.1,yaM HML.out hS.2⟩;replace hRC:RowC w12.heap.size w13.heap.size (x2.setRow l (putA (36 * j + 1) [.int .u64 (chain:Int)] (putA (36 * j + 11) [.int .u64 (gv:Int)] (putA (36 * j + 2) [.int .u64 (nv:Int)] C2)))) u25 (csr.map jc7):=hRC.keep fun p u h1 _ hu=>yaM (by have:=HLW.out;have:=ZRA.out;have:=ZRB.out;omega) hu;refine yag (i:=23) (by kernel_rfl) ?_;refine ybo rfl rfl rfl (w':=x2.setRow l (putA (36 * j + 1) [.int .u64 (chain:Int)] (putA (36 * j + 11) [.int .u64 (gv:Int)] (putA (36 * j + 2) [.int .u64 (nv:Int)] C2)))) (by rw [<- ya2 hrow (36 * j + 1) [.int .u64 (chain:Int)]];exact yap 22 (.tmp 176) (.tmp 170) rfl l (36 * j + 1) rfl _ rfl #[.int .u64 (chain:Int)] rfl (ya8 hrow (by rw [hsz];simp;omega)) (by kernel_rfl) (by simp [ja2])) hS ?_;(try simp only [jp,jb,jz,js]);clear hrow hsz hG2;generalize x2.setRow l (putA (36 * j + 1) [.int .u64 (chain:Int)] (putA (36 * j + 11) [.int .u64 (gv:Int)] (putA (36 * j + 2) [.int .u64 (nv:Int)] C2))) = x3 at *;refine jwd (by kernel_rfl) ?_ _;obtain ⟨C3,hC3⟩:∃ x,putA (36 * j + 1) [.int .u64 (chain:Int)] (putA (36 * j + 11) [.int .u64 (gv:Int)] (putA (36 * j + 2) [.int .u64 (nv:Int)] C2)) = x:=⟨_,rfl⟩;rw [hC3] at hG3;have HG4:=jh (hG3.eqc (cur':=curT (ycq chain (ts.getD j TxV.zero) nv gv true)) (fun sl=>rfl));have hkc:x3.cell? ⟨l,36 * j,none⟩ = some (.int .i64 ((ks.getD j 0:Nat):Int)):=(hG3.row.cell _).trans (hG3.kind j hlt);have hkl:E7 = 0 -> j < ts.length /\ (ts.getD j TxV.zero).kind = ((ks.getD j 0:Nat):Int):=fun h0=>⟨by rw [hG3.lt h0];exact hlt,by obtain ⟨_,_,_,h⟩:=hG3.at_ h0 hlt;exact h⟩;have hcd:=ykT ks (j:=j) (by rw [hG3.lk];exact hlt);obtain ⟨kv,hkv⟩:∃ x,ks.getD j 0 = x:=⟨_,rfl⟩;rw [hkv] at hkc hkl hcd;have HKL:=jh hkl;have HCD:=jh hcd;have HKV:=jh hkv;have HRC:=jh hRC;have hwj:IntKind.i64.wrap ((j:Int) + 1) = ((j + 1:Nat):Int):=ya5 (k:=j + 1) (by have:=HN.out;omega);have HWJ:=jh hwj;clear hC3 hG3 hS hRC hkl hcd hkv hwj;go_upto_region 29 with (fail)
     by_cases hk0:kv = 0
     ·have q0:((kv:Int) == 0) = true:=by simp [hk0]
      obtain ⟨b,csr',rfl⟩:∃ b csr',csr = b :: csr':=by
       cases csr with
       | nil=>exfalso;have h1:=HCL.out;have h2:=HCD.out;rw [if_pos hk0] at h2;simp at h1;omega
       | cons b r=>exact ⟨b,r,rfl⟩
      have hinv:=InvF.step0 HIJ.out HKL.out hk0;have hcl2:csr'.length = (ks.drop (j + 1)).count 0:=by have h1:=HCL.out;have h2:=HCD.out;rw [if_pos hk0] at h2;simp only [jlc] at h1;omega
      rw [HNV.out,HGV.out] at hinv;have HIV:=jh hinv;have HC2:=jh hcl2;have hrc:=HRC.out;rw [ja8] at hrc;obtain ⟨gb,ob,cb,rfl,hcb,hb1,hb2,hbc,hrc2⟩:=hrc.cons;obtain ⟨m,hm⟩:∃ x,(csr'.map jc7).length = x:=⟨_,rfl⟩;rw [hm] at hrc2 hcb ⊢;have HRC2:=jh hrc2;have HHM:=jh hm;clear hinv hcl2 hrc hrc2 hk0 HRC HIJ HCL HCD HKL hb1 hb2 hm;refine jwl ?_;refine zm 12 (.slice (some ⟨l,0,none⟩) n n) rfl ?_;refine zm 26 (.int .i64 (j:Int)) rfl ?_;simp only [jp,jb,jz,js];refine zg (.pointer (some ⟨l,36 * j,none⟩)) ?_;simp only [jp,jb,jz,js];refine zg (.pointer (some ⟨l,36 * j,none⟩)) ?_;simp only [jp,jb,jz,js];refine yac rfl (.int .i64 (kv:Int)) (yaj 3 (.tmp 180) rfl _ rfl _ _ jb9 rfl hkc) ?_;simp only [jp,jb,jz,js];refine yac rfl (.bool true) (by go_simp <;> first | rfl | (rw [q0];rfl) | simp [q0]) ?_;simp only [jp,jb,jz,js];refine jwn ?_;clear hkc;go_upto_region 30 with (fail)
      refine jwl ?_;refine zm 25 (.slice (some ⟨gb,ob,none⟩) (m + 1) cb) rfl ?_;simp only [jp,jb,jz,js];refine zg (.pointer (some ⟨gb,ob,none⟩)) ?_;simp only [jp,jb,jz,js];refine yac rfl (.bool b) (yaj 4 (.tmp 184) rfl _ rfl _ _ Tryz.underlying4 rfl hbc) ?_;simp only [jp,jb,jz,js];refine zg (.bool (!b)) ?_;simp only [jp,jb,jz,js];refine jwn ?_;clear hbc;have h1c:(1:Nat) <= m + 1:=by omega
      cases b
      ·simp only [Bool.not_false];go_upto_region 31 with (fail)
       refine jwl ?_;refine zm 12 (.slice (some ⟨l,0,none⟩) n n) rfl ?_;refine zm 26 (.int .i64 (j:Int)) rfl ?_;simp only [jp,jb,jz,js];refine zg (.pointer (some ⟨l,36 * j,none⟩)) ?_;simp only [jp,jb,jz,js];refine zg (.pointer (some ⟨l,36 * j + 1,none⟩)) ?_;simp only [jp,jb,jz,js];have hrow:=HG4.out.row;have hsz:=HG4.out.size;have hG5:=(HG4.out.put 1 [.int .u64 0] (by omega) (by simp) hlt).eqc (cur':=curT (ycq chain (ts.getD j TxV.zero) nv gv false)) (fun sl=>rfl);have HRC3:=jh (HRC2.out.keep (w':=x3.setRow l (putA (36 * j + 1) [.int .u64 0] C3)) fun p u h1 _ hu=>yaM (by have:=HLW.out;have:=ZRA.out;have:=ZRB.out;omega) hu);refine yaF rfl rfl (w':=x3.setRow l (putA (36 * j + 1) [.int .u64 0] C3)) (by rw [<- ya2 hrow (36 * j + 1) [.int .u64 0]];exact yap 22 (.tmp 190) (.const (.int .u64 0)) rfl l (36 * j + 1) rfl _ rfl #[.int .u64 0] rfl (ya8 hrow (by rw [hsz];simp;omega)) (by kernel_rfl) (by simp [ja2])) ?_;clear hrow hsz;have HG5:=jh hG5;clear hG5 HRC2 HG4;generalize x3.setRow l (putA (36 * j + 1) [.int .u64 0] C3) = x4 at *;refine jwn ?_;go_upto_region 32 with (fail)
       refine jwl ?_;refine zm 25 (.slice (some ⟨gb,ob,none⟩) (m + 1) cb) rfl ?_;simp only [jp,jb,jz,js];refine yac rfl (.slice (if cb = 1 then some ⟨gb,ob,none⟩ else some ⟨gb,ob + 1,none⟩) m (cb - 1)) (by go_simp <;> first | rfl | (rw [if_pos (by omega)])) ?_;simp only [jp,jb,jz,js];refine zg (.slice (if cb = 1 then some ⟨gb,ob,none⟩ else some ⟨gb,ob + 1,none⟩) m (cb - 1)) ?_;simp only [jp,jb,jz,js];refine jwn ?_;obtain ⟨A',hA'⟩:∃ A',(if cb = 1 then some ⟨gb,ob,none⟩ else some ⟨gb,ob + 1,none⟩:Option Addr) = A':=⟨_,rfl⟩;have hrc4:=HRC3.out;rw [hA'] at hrc4 ⊢;have HRC4:=jh hrc4;clear hrc4 hA' HRC3;have hwj:=HWJ.out;go_wp2_with fail
       go_roundw
       case rel=>exact ⟨j + 1,_,us ++ [ycq chain (ts.getD j TxV.zero) nv gv false],csr',by go_num,by omega,HG5.out.step hlt,HRC4,HC2,HIV⟩
       case measure=>simp [intOf];omega
      ·simp only [Bool.not_true];go_upto_region 32 with (fail)
       refine jwl ?_;refine zm 25 (.slice (some ⟨gb,ob,none⟩) (m + 1) cb) rfl ?_;simp only [jp,jb,jz,js];refine yac rfl (.slice (if cb = 1 then some ⟨gb,ob,none⟩ else some ⟨gb,ob + 1,none⟩) m (cb - 1)) (by go_simp <;> first | rfl | (rw [if_pos (by omega)])) ?_;simp only [jp,jb,jz,js];refine zg (.slice (if cb = 1 then some ⟨gb,ob,none⟩ else some ⟨gb,ob + 1,none⟩) m (cb - 1)) ?_;simp only [jp,jb,jz,js];refine jwn ?_;obtain ⟨A',hA'⟩:∃ A',(if cb = 1 then some ⟨gb,ob,none⟩ else some ⟨gb,ob + 1,none⟩:Option Addr) = A':=⟨_,rfl⟩;have hrc4:=HRC2.out;rw [hA'] at hrc4 ⊢;have HRC4:=jh hrc4;clear hrc4 hA' HRC2;have hwj:=HWJ.out;go_wp2_with fail
       go_roundw
       case rel=>exact ⟨j + 1,C3,us ++ [ycq chain (ts.getD j TxV.zero) nv gv true],csr',by go_num,by omega,HG4.out.step hlt,HRC4,HC2,HIV⟩
       case measure=>simp [intOf];omega
     ·have q0:((kv:Int) == 0) = false:=by simpa using hk0
      have hinv:=InvF.step1 HIJ.out HKL.out hk0;have hcl2:csr.length = (ks.drop (j + 1)).count 0:=by have h1:=HCL.out;have h2:=HCD.out;rw [if_neg hk0] at h2;omega
      rw [HNV.out,HGV.out] at hinv;have HIV:=jh hinv;have HC2:=jh hcl2;clear hinv hcl2 hk0 HIJ HCL HCD HKL;refine jwl ?_;refine zm 12 (.slice (some ⟨l,0,none⟩) n n) rfl ?_;refine zm 26 (.int .i64 (j:Int)) rfl ?_;simp only [jp,jb,jz,js];refine zg (.pointer (some ⟨l,36 * j,none⟩)) ?_;simp only [jp,jb,jz,js];refine zg (.pointer (some ⟨l,36 * j,none⟩)) ?_;simp only [jp,jb,jz,js];refine yac rfl (.int .i64 (kv:Int)) (yaj 3 (.tmp 180) rfl _ rfl _ _ jb9 rfl hkc) ?_;simp only [jp,jb,jz,js];refine yac rfl (.bool false) (by go_simp <;> first | rfl | (rw [q0];rfl) | simp [q0]) ?_;simp only [jp,jb,jz,js];refine jwn ?_;clear hkc;have hwj:=HWJ.out;go_wp2_with fail
      go_roundw
      case rel=>exact ⟨j + 1,C3,us ++ [ycq chain (ts.getD j TxV.zero) nv gv true],csr,by go_num,by omega,HG4.out.step hlt,HRC,HC2,HIV⟩
      case measure=>simp [intOf];omega
    ·have q2:¬ ((j:Int) < n):=by omega
     have hjn2:j = n:=by omega
     have HG:=jh hG;have HJN:=jh hjn2
     have hrdb:wr.cell? ⟨r,2,none⟩ = some (.int .i64 E7):=by
      have:=hG.rd.cell 2;simp only [rdC,jta,jcz,jcs] at this;exact this
     clear hG hjn2 hjn HRC HCL;have hgrow:∀ u,Gr3 w13 u r sg l -> w.grownBy u none:=fun u h=>Gr3.close HG10.out (HGA7.out.gr.trans h) (by have:=HR0.out;omega) (by have:=HR0.out;have:=HZ.out;have:=HZ5.out;have:=HZ6.out;have:=HZ7.out;have:=HSG0.out;omega) (by have:=HR0.out;have:=HL0.out;omega);have HGW:=jh hgrow;clear hgrow;by_cases h7:E7 = 0
     ·have q3:(E7 != 0) = false:=by simp [h7]
      have hus:us = F0:=by
       have h1:=HIJ.out h7;have h2:=HG.out.lt h7;rw [List.drop_eq_nil_of_le (by have:=HJN.out;omega),yaY,List.append_nil] at h1;exact h1
      have hrows:=HG.out.rows HJN.out h7 (by rw [hus];exact HROK.out h7);rw [hus] at hrows;have hend:=HEND.out;rw [if_neg (by simpa using h7)] at hend;have HUS:=jh hus;have HROWS:=jh hrows;have HEN:=jh hend;have H7:=jh h7;clear hus hrows hend h7;go_upto_region 34 with (fail)
      refine jwl ?_;refine zm 11 (.pointer (some ⟨r,0,none⟩)) rfl ?_;simp only [jp,jb,jz,js];refine zg (.pointer (some ⟨r,0,none⟩)) ?_;simp only [jp,jb,jz,js];refine zg (.pointer (some ⟨r,2,none⟩)) ?_;simp only [jp,jb,jz,js];refine yac rfl (.int .i64 E7) (yaj 28 (.tmp 196) rfl _ rfl _ _ jc8 rfl hrdb) ?_;simp only [jp,jb,jz,js];refine yac rfl (.bool false) (by go_simp <;> first | rfl | (rw [q3];rfl) | simp [q3]) ?_;simp only [jp,jb,jz,js];refine zm 198 (.bool false) rfl ?_;simp only [jp,jb,jz,js];refine yad rfl (.pointer (some ⟨r,0,none⟩)) (yaq (.tmp 11) rfl _ rfl) ?_;simp only [jp,jb,jz,js];refine yad rfl (.slice (some ⟨l,0,none⟩) n n) (yaq (.tmp 12) rfl _ rfl) ?_;simp only [jp,jb,jz,js];refine yad rfl (.int .u64 (chain:Int)) (yaq (.tmp 3) rfl _ rfl) ?_;simp only [jp,jb,jz,js];have hck:=yd1 wr.heap.size (some ⟨l,0,none⟩) n n F0 chain wr HROWS.out (jle _) (by have:=HN.out;omega) (fun t ht=>(HROK.out H7.out t ht).ok);refine yaG rfl 32 #[.slice (some ⟨l,0,none⟩) n n,.int .u64 (chain:Int)] (yao _ (.tmp 201) (.tmp 202) _ rfl _ _ rfl rfl (jeo Tryz.func32 (by kernel_rfl) rfl _ _)) (hck.mono ?_);clear hck;rintro e x1 ⟨rfl,hgx⟩;have hG1:=HG.out.kept hgx;have hr1:=HROWS.out.grown hgx (jle _);obtain ⟨CE,hCE⟩:∃ x,yaA F0 chain = x:=⟨_,rfl⟩;have hen:=HEN.out;rw [hCE] at hen;rw [hCE];have HEN2:=jh hen;have HG1:=jh hG1;have HRW1:=jh hr1;have HSX:=jh hgx.size;clear hCE hG1 hr1 hgx hen HG HROWS hrdb;refine ⟨_,rfl,?_⟩;simp only [jp,jb,jz,js];refine yaG rfl 121 #[.pointer (some ⟨r,0,none⟩),.int .i64 CE] (yao _ (.tmp 200) (.tmp 203) _ rfl _ _ rfl rfl (jeo Tryz.func121 (by kernel_rfl) rfl _ _)) ((ybx s A7 E7 CE r x1 HG1.out.rd).mono ?_);rintro e x2 ⟨rfl,hrd2,hg2⟩;have hke:kE E7 CE = CE:=by unfold kE;rw [if_pos H7.out]
      rw [hke] at hrd2 ⊢;have hgw:=HGW.out _ (HG1.out.gr.grown hg2 (fun k e=>.inl (ji e).symm));have HRD2:=jh hrd2;have HGW2:=jh hgw;have HG2:=jh hg2;clear hke hrd2 hgw hg2;refine ⟨_,rfl,?_⟩;simp only [jp,jb,jz,js];by_cases hc0:CE = 0
      ·subst hc0;simp only [decide_true];refine yad rfl (.bool false) (by go_simp <;> rfl) ?_;simp only [jp,jb,jz,js];refine zg (.bool false) ?_;simp only [jp,jb,jz,js];refine jwn ?_;have hend:=HEN2.out;rw [if_neg (by simp)] at hend;have hrl:=HG1.out.rw;have hro:=HRW.out;have hlo:=HLW.out
       have htx:TxsR x2.heap.size x2 F0 (some ⟨l,0,none⟩) n:=by
        have hg3:=HG1.out.read HG2.out (by rw [H7.out];exact HRD2.out) HGA7.out.rl;have:=hg3.rows HJN.out H7.out (by rw [HUS.out];exact HROK.out H7.out);rw [HUS.out] at this;exact this
       have hst:Stand w.heap.size x2 F0 l n:=by
        have hg3:=HG1.out.read HG2.out (by rw [H7.out];exact HRD2.out) HGA7.out.rl;have:=hg3.stand HJN.out H7.out (by rw [HUS.out];exact HROK.out H7.out) (z:=w.heap.size) (by have:=HR0.out;have:=HL0.out;omega);rw [HUS.out] at this;exact this
       have hFIN:GetEnd s a n chain w (.returned (.tuple #[.slice (some ⟨l,0,none⟩) n n,.int .i64 (A7:Int),.int .i64 0])) x2:=⟨HGW2.out,.inr ⟨F0,A7,l,hend,rfl,by have:=HR0.out;have:=HL0.out;omega,htx,HGA7.out.ha,HROK.out H7.out,hst⟩⟩
       have hrdb:x2.cell? ⟨r,1,none⟩ = some (.int .i64 (A7:Int)):=by
        have:=HRD2.out.cell 1;simp only [rdC,jta,jcz,jcs] at this;exact this
       have HFIN:=jh hFIN;clear hend hrl hro hlo htx hst hFIN;go_upto_region 36 with (fail)
       refine jwh (S:=fun W=>W.cell? ⟨r,1,none⟩ = some (.int .i64 (A7:Int))) (by kernel_rfl) ?_;change wpAnyH _ _ _ _ _ _ _ _ x2.drew;have hgd:=yau (jr x2 none);have hS:x2.drew.cell? ⟨r,1,none⟩ = some (.int .i64 (A7:Int)):=hgd.cell hrdb (by simp);have HFIN3:Hid (GetEnd s a n chain w (.returned (.tuple #[.slice (some ⟨l,0,none⟩) n n,.int .i64 (A7:Int),.int .i64 0])) x2.drew):=jh (GetEnd.drew HFIN.out);clear hgd hrdb HFIN;generalize x2.drew = x3 at *;refine zt 0 (.slice (some ⟨l,0,none⟩) n n) (some 211) rfl (fun W hW=>by go_simp) hS ?_;simp only [jp,jb,jz,js];refine zt 1 (.pointer (some ⟨r,0,none⟩)) (some 212) rfl (fun W hW=>by go_simp) hS ?_;simp only [jp,jb,jz,js];refine zt 2 (.pointer (some ⟨r,0,none⟩)) (some 213) rfl (fun W hW=>by go_simp <;> rfl) hS ?_;simp only [jp,jb,jz,js];refine zt 3 (.pointer (some ⟨r,1,none⟩)) (some 214) rfl (fun W hW=>by go_simp <;> rfl) hS ?_;simp only [jp,jb,jz,js];refine zt 4 (.int .i64 (A7:Int)) (some 215) rfl (fun W hW=>yaj 3 (.tmp 214) rfl _ rfl _ _ jb9 rfl hW) hS ?_;simp only [jp,jb,jz,js];refine yag (i:=5) (by kernel_rfl) ?_;refine yaf (some 8) rfl rfl (.slice (some ⟨l,0,none⟩) n n) (by go_simp <;> rfl) rfl hS ?_;simp only [jp,jb,jz,js];refine yag (i:=6) (by kernel_rfl) ?_;refine yaf (some 9) rfl rfl (.int .i64 (A7:Int)) (by go_simp <;> rfl) rfl hS ?_;simp only [jp,jb,jz,js];refine yag (i:=7) (by kernel_rfl) ?_;refine yaf (some 10) rfl rfl (.int .i64 0) (by go_simp <;> rfl) rfl hS ?_;simp only [jp,jb,jz,js];refine jwd (by kernel_rfl) ?_ _;go_wp2_with fail
       go_ret3
       exact HFIN3.out
      ·simp only [decide_eq_false hc0];refine yad rfl (.bool true) (by go_simp <;> rfl) ?_;simp only [jp,jb,jz,js];refine zg (.bool true) ?_;simp only [jp,jb,jz,js];refine jwn ?_;have hend:=HEN2.out;rw [if_pos hc0] at hend;have HFIN:Hid (GetEnd s a n chain w (.returned (.tuple #[.slice none 0 0,.int .i64 0,.int .i64 CE])) x2):=jh ⟨HGW2.out,.inl ⟨CE,hc0,hend,rfl⟩⟩;have HRDX:=HRD2;clear hend
       have hrdb:x2.cell? ⟨r,2,none⟩ = some (.int .i64 CE):=by
        have:=HRDX.out.cell 2;simp only [rdC,jta,jcz,jcs] at this;exact this
       go_upto_region 35 with (fail)
       refine jwh (S:=fun W=>W.cell? ⟨r,2,none⟩ = some (.int .i64 CE)) (by kernel_rfl) ?_;change wpAnyH _ _ _ _ _ _ _ _ x2.drew;have hgd:=yau (jr x2 none);have hS:x2.drew.cell? ⟨r,2,none⟩ = some (.int .i64 CE):=hgd.cell hrdb (by simp);have HFIN3:Hid (GetEnd s a n chain w (.returned (.tuple #[.slice none 0 0,.int .i64 0,.int .i64 CE])) x2.drew):=jh (GetEnd.drew HFIN.out);clear hgd hrdb HFIN;generalize x2.drew = x9 at *;refine zt 0 (.pointer (some ⟨r,0,none⟩)) (some 207) rfl (fun W hW=>by go_simp) hS ?_;simp only [jp,jb,jz,js];refine zt 1 (.pointer (some ⟨r,0,none⟩)) (some 208) rfl (fun W hW=>by go_simp <;> rfl) hS ?_;simp only [jp,jb,jz,js];refine zt 2 (.pointer (some ⟨r,2,none⟩)) (some 209) rfl (fun W hW=>by go_simp <;> rfl) hS ?_;simp only [jp,jb,jz,js];refine zt 3 (.int .i64 CE) (some 210) rfl (fun W hW=>yaj 28 (.tmp 209) rfl _ rfl _ _ jc8 rfl hW) hS ?_;simp only [jp,jb,jz,js];refine yag (i:=4) (by kernel_rfl) ?_;refine yaf (some 8) rfl rfl (.slice none 0 0) (by go_simp <;> rfl) rfl hS ?_;simp only [jp,jb,jz,js];refine yag (i:=5) (by kernel_rfl) ?_;refine yaf (some 9) rfl rfl (.int .i64 0) (by go_simp <;> rfl) rfl hS ?_;simp only [jp,jb,jz,js];refine yag (i:=6) (by kernel_rfl) ?_;refine yaf (some 10) rfl rfl (.int .i64 CE) (by go_simp <;> rfl) rfl hS ?_;simp only [jp,jb,jz,js];refine jwd (by kernel_rfl) ?_ _;go_wp2_with fail
       go_ret3
       exact HFIN3.out
     ·have q3:(E7 != 0) = true:=by simpa using h7
      have H7:=jh h7;have hend:=HEND.out;rw [if_pos h7] at hend;have hgw:=HGW.out _ HG.out.gr;have HFIN:Hid (GetEnd s a n chain w (.returned (.tuple #[.slice none 0 0,.int .i64 0,.int .i64 E7])) wr):=jh ⟨hgw,.inl ⟨E7,h7,hend,rfl⟩⟩;have HRDX:=jh HG.out.rd;clear h7 hend hgw;go_upto_region 34 with (fail)
      refine jwl ?_;refine zm 11 (.pointer (some ⟨r,0,none⟩)) rfl ?_;simp only [jp,jb,jz,js];refine zg (.pointer (some ⟨r,0,none⟩)) ?_;simp only [jp,jb,jz,js];refine zg (.pointer (some ⟨r,2,none⟩)) ?_;simp only [jp,jb,jz,js];refine yac rfl (.int .i64 E7) (yaj 28 (.tmp 196) rfl _ rfl _ _ jc8 rfl hrdb) ?_;simp only [jp,jb,jz,js];refine yac rfl (.bool true) (by go_simp <;> first | rfl | (rw [q3];rfl) | simp [q3]) ?_;simp only [jp,jb,jz,js];refine zm 198 (.bool true) rfl ?_;simp only [jp,jb,jz,js];refine ybX rfl ?_;simp only [jp,jb,jz,js];refine ybX rfl ?_;simp only [jp,jb,jz,js];refine ybX rfl ?_;simp only [jp,jb,jz,js];refine ybX rfl ?_;simp only [jp,jb,jz,js];refine ybX rfl ?_;simp only [jp,jb,jz,js];refine ybX rfl ?_;simp only [jp,jb,jz,js];refine zg (.bool true) ?_;simp only [jp,jb,jz,js];refine jwn ?_;clear hrdb
      have hrdb:wr.cell? ⟨r,2,none⟩ = some (.int .i64 E7):=by
       have:=HRDX.out.cell 2;simp only [rdC,jta,jcz,jcs] at this;exact this
      go_upto_region 35 with (fail)
      refine jwh (S:=fun W=>W.cell? ⟨r,2,none⟩ = some (.int .i64 E7)) (by kernel_rfl) ?_;change wpAnyH _ _ _ _ _ _ _ _ wr.drew;have hgd:=yau (jr wr none);have hS:wr.drew.cell? ⟨r,2,none⟩ = some (.int .i64 E7):=hgd.cell hrdb (by simp);have HFIN3:Hid (GetEnd s a n chain w (.returned (.tuple #[.slice none 0 0,.int .i64 0,.int .i64 E7])) wr.drew):=jh (GetEnd.drew HFIN.out);clear hgd hrdb HFIN;generalize wr.drew = x9 at *;refine zt 0 (.pointer (some ⟨r,0,none⟩)) (some 207) rfl (fun W hW=>by go_simp) hS ?_;simp only [jp,jb,jz,js];refine zt 1 (.pointer (some ⟨r,0,none⟩)) (some 208) rfl (fun W hW=>by go_simp <;> rfl) hS ?_;simp only [jp,jb,jz,js];refine zt 2 (.pointer (some ⟨r,2,none⟩)) (some 209) rfl (fun W hW=>by go_simp <;> rfl) hS ?_;simp only [jp,jb,jz,js];refine zt 3 (.int .i64 E7) (some 210) rfl (fun W hW=>yaj 28 (.tmp 209) rfl _ rfl _ _ jc8 rfl hW) hS ?_;simp only [jp,jb,jz,js];refine yag (i:=4) (by kernel_rfl) ?_;refine yaf (some 8) rfl rfl (.slice none 0 0) (by go_simp <;> rfl) rfl hS ?_;simp only [jp,jb,jz,js];refine yag (i:=5) (by kernel_rfl) ?_;refine yaf (some 9) rfl rfl (.int .i64 0) (by go_simp <;> rfl) rfl hS ?_;simp only [jp,jb,jz,js];refine yag (i:=6) (by kernel_rfl) ?_;refine yaf (some 10) rfl rfl (.int .i64 E7) (by go_simp <;> rfl) rfl hS ?_;simp only [jp,jb,jz,js];refine jwd (by kernel_rfl) ?_ _;go_wp2_with fail
      go_ret3
      exact HFIN3.out

section
variable {P:Program} {ops:Array Oper} {o:Oper} {rest:List Oper} {C:World -> Prop} {Q:Act -> Prop} {a:Act}
end
section
variable {P:Program} {ops:Array Oper} {rest:List Oper} {Q:Exit -> Act -> World -> Prop} {w:World}
theorem yax {a:Act} {o:Oper} {W:World} (c x y:Operand) (ho:o.op = .pick c x y) (b:Bool) (hc:a.eval c = .bool b) (v:Value) (hv:(if b then a.eval x else a.eval y) = v):(execOp a.eval o).run P W = .ok (.value v) W:=by
 unfold execOp;generalize a.eval = ev at *;subst hv;cases b <;> simp [ho,hc,go_sem]
theorem getD_set_ne (tm:Array Value) {i j:Nat} (v d:Value) (h:i ≠ j):(tm.setIfInBounds i v).getD j d = tm.getD j d:=by
 simp [Array.getD_eq_getD_getElem?,Array.getElem?_setIfInBounds_ne h]
end
section
variable {P:Program} {a:Act} {o:Oper} {W:World}
end

theorem ycv {α:Type} (f:α -> ByteArray) (m:Nat):∀ (l:List α),(∀ a ∈ l,(f a).size <= m) -> (catB (l.map f)).length <= l.length * m
 | [],_=>by simp [catB]
 | a :: l,h=>by
  have h1:=h a (by simp);have h2:=ycv f m l fun b hb=>h b (by simp [hb]);rw [ja8,ybi,jla,yan,jlc,Nat.add_mul];omega
theorem ykp {t:TxV} (h:TxC t):(ycp t).size <= 20001:=by
 have:=yku h;rw [<- yan];simpa [ycp] using this
theorem yhh {ls:List TxV} {chain:Nat} (h:yaA ls chain = 0) (ok:∀ t ∈ ls,t.Ok):ypN ls:=by
 obtain ⟨_,_,hn,hone⟩:=ycV h;have hT:∀ t ∈ ls,TxC t:=fun t ht=>(yiJ (hone t ht)).1;constructor
 ·intro t ht;have hc:=hT t ht;obtain ⟨h1,h2⟩:=hc.rest;have h3:=hc.check.2;refine ⟨ok t ht,hc.kind,hc.acc,fun a ha=>by have:=(hc.pair a ha).2.1;omega,by omega,by rw [hc.enc];omega⟩
 ·have hf:=List.length_filter_le (fun t:TxV=>decide (t.kind = 0)) ls;have b1:=ycv sigT 64 ls fun t _=>by rw [<- yan,yeV];exact jle _
  have b2:=ycv (fun x:TxV=>x.dst) 20 ls fun t ht=>by rcases (hT t ht).dst with h | h <;> omega
  have b3:=ycv ycp 20001 ls fun t ht=>ykp (hT t ht);have b4:=yei (ls.map fun x:TxV=>(x.nonce:Int));have b5:=yei (ls.map fun x:TxV=>(x.gas:Int));have b6:=ybB (ls.map fun x:TxV=>decide (x.dst.size = 0));have b7:=ybB (ls.map fun x:TxV=>decide (x.y = 1));have b8:=ybB ((ls.filter fun x:TxV=>decide (x.kind = 0)).map fun x:TxV=>decide (x.chain ≠ 0));simp only [jd8] at b4 b5 b6 b7 b8;have e:∀ l:List UInt8,(⟨l.toArray⟩:ByteArray).size = l.length:=fun l=>by rw [<- yan]
  intro s hs;unfold yfI at hs;simp only [yjV,List.mem_cons,List.not_mem_nil,or_false] at hs;rcases hs with rfl | rfl | rfl | rfl | rfl | rfl | rfl | rfl
  ·rw [e];omega
  ·rw [e];omega
  ·rw [e];omega
  ·rw [e];omega
  ·rw [e];omega
  ·rw [e];omega
  ·rw [e];omega
  ·rw [e];show (yaT ((ls.filter fun x:TxV=>decide (x.kind = 0)).map fun x:TxV=>decide (x.chain ≠ 0))).length <= _;omega
theorem yis (B:Nat) (A:Option Addr) (n c:Nat) (ls:List TxV) (chain:Nat) (w:World) (h:TxsR B w ls A n) (hB:B <= w.heap.size) (hn:n <= 9223372036854775807) (ok:∀ t ∈ ls,t.Ok) :
  Calls jq 18 #[.slice A n c,.int .u64 (chain:Int)] w fun e w'=>e = .returned (.tuple #[.string ⟨(ycZ ls chain).toArray⟩,.int .i64 (yaA ls chain)]) /\ w.grownBy w' none :=
 ykW B A n c ls chain w h hB hn ok (fun h0=>yhh h0 ok) (fun h0=>(ycV h0).2.2.1)
def getA (s:ByteArray) (at_ n:Int) (chain:Nat):Except Int (List TxV × Nat):=if ye1 s at_ n chain = true then .error 1 else getR s at_.toNat n.toNat chain
def ypM (s:ByteArray) (at_ n:Int) (chain:Nat) (w:World) (e:Ending) (w':World):Prop :=
 w.grownBy w' none /\ ((∃ E,E ≠ 0 /\ getA s at_ n chain = .error E /\ e = .returned (.tuple #[.slice none 0 0,.int .i64 0,.int .i64 E])) \/
  (∃ L T g,getA s at_ n chain = .ok (L,T) /\ ye1 s at_ n chain = false /\ (L.length:Int) = n /\ e = .returned (.tuple #[.slice (some ⟨g,0,none⟩) L.length L.length,.int .i64 (T:Int),.int .i64 0]) /\ w.heap.size <= g /\ TxsR w'.heap.size w' L (some ⟨g,0,none⟩) L.length /\ T <= s.size /\ (∀ t ∈ L,ydX t) /\ Stand w.heap.size w' L g L.length))
theorem ymU {s:ByteArray} {at_ n:Int} {chain:Nat} (h:ye1 s at_ n chain = false):0 < chain /\ chain <= 4611686018427387904 /\ ∃ a m:Nat,at_ = (a:Int) /\ n = (m:Int) /\ m <= 512 /\ a <= s.size:=by
 unfold ye1 at h;simp only [Bool.or_eq_false_iff,decide_eq_false_iff_not] at h;obtain ⟨⟨⟨⟨⟨h1,h2⟩,h3⟩,h4⟩,h5⟩,h6⟩:=h;exact ⟨by omega,by omega,at_.toNat,n.toNat,by omega,by omega,by omega,by omega⟩
theorem ykX (s:ByteArray) (at_ n:Int) (chain:Nat) (w:World) (hs:s.size <= 1000000000000) :
  Calls jq 86 #[.string s,.int .i64 at_,.int .i64 n,.int .u64 (chain:Int)] w (ypM s at_ n chain w):=by
 cases hb:ye1 s at_ n chain with
 | true =>
  refine (ypB s at_ n chain w hs hb).mono ?_;rintro e w' ⟨rfl,hg⟩;exact ⟨hg,.inl ⟨1,by decide,by unfold getA;rw [if_pos hb],rfl⟩⟩
 | false =>
  obtain ⟨h1,h2,a,m,rfl,rfl,h3,h4⟩:=ymU hb;refine (yoU s a m chain w hs h4 h3 h1 h2).mono ?_;rintro e w' ⟨hg,h⟩;have e0:getA s a m chain = getR s a m chain:=by unfold getA;rw [if_neg (by rw [hb];simp)];rfl
  refine ⟨hg,?_⟩;rw [e0];rcases h with h | ⟨L,T,g,g1,g2,g3,g4,g5,g6⟩
  ·exact .inl h
  ·have hl:=(yet h4 h3 g1).2.1;subst hl;exact .inr ⟨L,T,g,g1,hb,rfl,g2,g3,g4,g5,g6⟩
end Go.Proofs.YtmaggfokhlodnaaGreatDoor
