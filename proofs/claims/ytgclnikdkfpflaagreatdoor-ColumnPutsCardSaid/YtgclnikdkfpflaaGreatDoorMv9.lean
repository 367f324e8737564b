/- Merged: CgF, CgG0, CgG, CgH, CgI0. -/
import Derived.Test.YtgclnikdkfpflaaGreatDoorMv1
import Derived.Test.YtgclnikdkfpflaaGreatDoorMv2
import Derived.Test.YtgclnikdkfpflaaGreatDoorMv4
import Derived.Test.YtgclnikdkfpflaaGreatDoorMv7
import Derived.Test.YtgclnikdkfpflaaGreatDoorMv8
namespace Go.Proofs.YtgclnikdkfpflaaGreatDoor
open Go.RowKit Go.Shelf
open List renaming set_cons_zero → jz, set_cons_succ → js, setIfInBounds_toArray → jb
set_option linter.unusedVariables false
set_option linter.unusedSimpArgs false
set_option maxRecDepth 100000
set_option maxHeartbeats 16000000
open Lib renaming hid → jh
open Act renaming put → jp
open World.grownBy renaming refl → jr
open _root_.List renaming getD_eq_getElem?_getD → jg, getElem?_eq_getElem → je, getElem?_cons_zero → jcz, getElem?_cons_succ → jcs, getElem?_toArray → jta, getElem?_append_right → jar, getElem?_append_left → jal, take_of_length_le → jtl, drop_eq_getElem_cons → jdc, length_cons → jlc, getElem?_map → jgm, getElem?_take_of_lt → jc3, getElem?_eq_some_iff → jc9
open _root_.Option.some renaming inj → ji
open _root_.Array renaming getElem?_eq_some_iff → jes
open World renaming ownsRow_nil → jon, block_lt_of_cell? → jd0, cell?_setCell_far → jd1
open _root_.Nat renaming le_trans → jlt, le_refl → jle, lt_of_lt_of_le → jc4, zero_add → jd6
open _root_.Go.Proofs.Tryz renaming prog → jq, underlying9 → ja9, underlying3 → jb8
open Go renaming wp_region_list → jwl, bodyPost_ret → jbr, wpAnyH_done → jwd, wp_region_held → jwh, setRow_other → jso, run_append_own_at → jra
open _root_.Go.Proofs renaming enters_of → jeo
open Value renaming oneCell' → ja2, slice → ja4, string → ja8
def itR (l:List UInt8) (a:Nat):Except Int (Itm × Nat) :=
 if yaV l a ≠ 0 then .error (yaV l a) else match yb7 ((l.drop a).take (yag l a + ya5 l a - a)) with
  | .error e=>.error e
  | .ok x=>.ok (x,yag l a + ya5 l a)
def ItEnd (s:ByteArray) (a:Nat) (E:Int) (r:Nat) (w:World) (e:Ending) (w':World):Prop :=
 ∃ lst b sA sn sc a' E',e = .returned (.agg #[.bool lst,.string b,.slice sA sn sc]) /\ w.grownBy w' (some r) /\ Blk w' r 67 (rdC s a' E') /\ a' <= s.size /\
  ((∃ y T,E = 0 /\ itR s.data.toList a = .ok (y,T) /\ E' = 0 /\ a' = T /\ lst = y.list /\ b = y.bytes /\ SubV (fun g=>w.heap.size <= g) w' y.items (.slice sA sn sc)) \/
   (E' ≠ 0 /\ (E ≠ 0 -> E' = E) /\ (E = 0 -> itR s.data.toList a = .error E') /\ lst = false /\ b = ⟨#[]⟩ /\ ja4 sA sn sc = .slice none 0 0))
theorem yif (s:ByteArray) (a:Nat) (E:Int) (r:Nat) (w:World) (h:Blk w r 67 (rdC s a E)) (hs:s.size <= 1000000000000) (ha:a <= s.size) :
  Calls jq 87 #[.pointer (some ⟨r,0,none⟩)] w (ItEnd s a E r w):=by
 have hG0:=yaa (jr w none) (.cells #[.bool false,.string ⟨#[]⟩,.slice none 0 0] 106);have hR0:=Blk.new w 106 #[.bool false,.string ⟨#[]⟩,.slice none 0 0];have h1:=h.alloc (.cells #[.bool false,.string ⟨#[]⟩,.slice none 0 0] 106);have hr:=h.lt;have c2:=h1.cell 2;simp only [rdC,jta,jcz,jcs] at c2;have HA:=jh ha;have HS:=jh hs;have HR:=jh hr;by_cases h0:E = 0
 rotate_left
 ·have e1:(E != 0) = true:=by simpa using h0
  have HB:=jh h1;have HG:=jh (yb4 hG0 (some r));have HN:=jh h0;clear h h1 h0 hG0 ha hs hr;go_enter Tryz.func87,Tryz.ntmps87
  go_upto_region 1 with (fail)
  obtain ⟨b,hb⟩:∃ b,w.heap.size = b:=⟨_,rfl⟩;rw [hb] at hR0 ⊢;clear hb;generalize w.alloc (.cells #[.bool false,.string ⟨#[]⟩,.slice none 0 0] 106) = w1 at *;have x0:=hR0.cell 0;have x1:=hR0.cell 1;have x2:=hR0.cell 2;have d0:=hR0.frozen 0;have d1:=hR0.frozen 1;have d2:=hR0.frozen 2;simp only [jta,jcz,jcs] at x0 x1 x2;have HR0:=jh hR0;clear hR0;go_upto_region 2 with (fail)
  clear c2;have hself0:w1.setCell ⟨b,0,none⟩ (.bool false) = w1:=ydD HR0.out rfl;have hself1:w1.setCell ⟨b,1,none⟩ (.string ⟨#[]⟩) = w1:=ydD HR0.out rfl;have hself2:w1.setCell ⟨b,2,none⟩ (.slice none 0 0) = w1:=ydD HR0.out rfl;go_wp2_with fail
  refine jbr (yaw (fn:=Tryz.f87) rfl _ _ _ _ rfl (yaX HR0.out)) rfl ?_;exact ⟨false,⟨#[]⟩,none,0,0,a,E,rfl,HG.out,HB.out,HA.out,.inr ⟨HN.out,fun _=>rfl,fun e=>absurd e HN.out,rfl,rfl,rfl⟩⟩
 subst h0;obtain ⟨l,hl⟩:∃ l,s.data.toList = l:=⟨_,rfl⟩;have hll:l.length = s.size:=by rw [<- hl];exact yar s
 obtain ⟨LE,hLE⟩:∃ x,yaV l (a:Int) = x:=⟨_,rfl⟩;obtain ⟨T,hT⟩:∃ x,yag l (a:Int) + ya5 l (a:Int) = x:=⟨_,rfl⟩
 have hTb:LE = 0 -> a < T /\ T <= s.size:=fun h=>by
  have:=ybN (l:=l) (a:=a) (hLE.trans h);rw [<- hT];omega
 have hT0:LE ≠ 0 -> T = 0:=fun h=>by
  have:=yeo hLE h;omega
 have hnx:=fun V=>yn0 s (a:Int) (by omega) V (by
  rw [hl,hT];by_cases hh:LE = 0
  ·have:=hTb hh;omega
  ·rw [hT0 hh];decide)
 rw [hl,hT,hLE] at hnx;have hit:itR l a = if LE ≠ 0 then .error LE else match yb7 ((l.drop a).take (T - a)) with | .error e=>.error e | .ok x=>.ok (x,T):=by unfold itR;rw [hLE,hT]
 have HNX:=jh hnx;have HIT:=jh hit;have HTB:=jh hTb;have HL:=jh hl;have HB:=jh h1;have HG:=jh (yb4 hG0 (some r));clear h h1 hG0 ha hs hr hl hll hLE hT hTb hT0 hnx hit;go_enter Tryz.func87,Tryz.ntmps87
 go_upto_region 1 with (fail)
 obtain ⟨b,hb⟩:∃ b,w.heap.size = b:=⟨_,rfl⟩;have HW:=jh hb;rw [hb] at hR0 ⊢;clear hb;generalize w.alloc (.cells #[.bool false,.string ⟨#[]⟩,.slice none 0 0] 106) = w1 at *;have HR0:=jh hR0;clear hR0;go_upto_region 3 with (fail)
 clear c2;refine jwh (S:=fun V=>Blk V r 67 (rdC s a 0)) (by kernel_rfl) ?_;change wpAnyH _ _ _ _ _ _ _ _ w1.drew;have hS0:Blk w1.drew r 67 (rdC s a 0):=HB.out;have hg0:w.grownBy w1.drew (some r):=ya2 HG.out;have hr0:Blk w1.drew b 106 #[.bool false,.string ⟨#[]⟩,.slice none 0 0]:=HR0.out;clear HB HG HR0;generalize w1.drew = u0 at *;refine zt 0 (.pointer (some ⟨r,0,none⟩)) (some 15) rfl (fun W hW=>by go_simp) hS0 ?_;simp only [jp,jb,jz,js];refine zt 1 (.pointer (some ⟨r,0,none⟩)) (some 16) rfl (fun W hW=>by go_simp) hS0 ?_;simp only [jp,jb,jz,js];refine zt 2 (.pointer (some ⟨r,0,none⟩)) (some 17) rfl (fun W hW=>by go_simp) hS0 ?_;simp only [jp,jb,jz,js];refine zt 3 (.string s) (some 18) rfl (fun W hW=>yaf 9 (.tmp 17) rfl _ rfl _ _ ja9 rfl ((Blk.cell hW 0).trans rfl)) hS0 ?_;simp only [jp,jb,jz,js];refine zt 4 (.pointer (some ⟨r,0,none⟩)) (some 19) rfl (fun W hW=>by go_simp) hS0 ?_;simp only [jp,jb,jz,js];refine zt 5 (.pointer (some ⟨r,0,none⟩)) (some 20) rfl (fun W hW=>by go_simp) hS0 ?_;simp only [jp,jb,jz,js];refine zt 6 (.pointer (some ⟨r,1,none⟩)) (some 21) rfl (fun W hW=>by go_simp) hS0 ?_;simp only [jp,jb,jz,js];refine zt 7 (.int .i64 (a:Int)) (some 22) rfl (fun W hW=>yaf 3 (.tmp 21) rfl _ rfl _ _ jb8 rfl ((Blk.cell hW 1).trans rfl)) hS0 ?_;simp only [jp,jb,jz,js];refine yam (i:=8) (by kernel_rfl) ?_;refine ybe (some 23) rfl rfl 123 #[.string s,.int .i64 (a:Int)] (ya4 _ (.tmp 18) (.tmp 22) _ rfl _ _ rfl rfl (jeo Tryz.func123 (by kernel_rfl) rfl _ _)) rfl ((HNX.out u0).mono ?_);rintro e w3 ⟨rfl,hg3⟩;replace hS0:=hS0.grown hg3 (by simp);replace hr0:=hr0.grown hg3 (by simp);replace hg0:=yab hg0 hg3 (by simp);refine ⟨_,rfl,hS0,?_⟩;simp only [jp,jb,jz,js];clear hg3;refine zt 9 (.tuple #[.int .i64 (T:Int),.int .i64 LE]) (some 14) rfl (fun W hW=>yan (.tmp 23) rfl _ rfl) hS0 ?_;simp only [jp,jb,jz,js];refine zt 10 (.int .i64 (T:Int)) (some 24) rfl (fun W hW=>by go_simp) hS0 ?_;simp only [jp,jb,jz,js];refine zt 11 (.int .i64 LE) (some 25) rfl (fun W hW=>by go_simp) hS0 ?_;simp only [jp,jb,jz,js];refine zt 12 (.int .i64 (T:Int)) (some 3) rfl (fun W hW=>by go_simp) hS0 ?_;simp only [jp,jb,jz,js];refine zt 13 (.int .i64 LE) (some 4) rfl (fun W hW=>by go_simp) hS0 ?_;simp only [jp,jb,jz,js];refine jwd (by kernel_rfl) ?_ _;have HB3:=jh hS0;have HG3:=jh hg0;have HR3:=jh hr0;clear hS0 hg0 hr0;go_wp2_with fail
 refine (yb1 s a 0 LE r w3 HB3.out).mono ?_;rintro e w4 ⟨rfl,hb4,hg4⟩;rw [show kE 0 LE = LE from if_pos rfl] at hb4 ⊢;have hrb:r ≠ b:=by have:=HR.out;have:=HW.out;omega
 have HRB:=jh hrb;have HB4:=jh hb4;have HG4:=jh (yab HG3.out hg4 (fun k hk=>.inl hk));have HR4:=jh (HR3.out.grown hg4 (fun e=>hrb (ji e).symm));clear hb4 hg4 hrb HB3 HG3 HR3;by_cases hLE:LE = 0
 rotate_left
 ·rw [decide_eq_false hLE];have HN:=jh hLE;clear hLE;have x0:=HR4.out.cell 0;have x1:=HR4.out.cell 1;have x2:=HR4.out.cell 2;have d0:=HR4.out.frozen 0;have d1:=HR4.out.frozen 1;have d2:=HR4.out.frozen 2;simp only [jta,jcz,jcs] at x0 x1 x2;have hself0:w4.setCell ⟨b,0,none⟩ (.bool false) = w4:=ydD HR4.out rfl;have hself1:w4.setCell ⟨b,1,none⟩ (.string ⟨#[]⟩) = w4:=ydD HR4.out rfl;have hself2:w4.setCell ⟨b,2,none⟩ (.slice none 0 0) = w4:=ydD HR4.out rfl;go_wp2_with fail
  refine jbr (yaw (fn:=Tryz.f87) rfl _ _ _ _ rfl (yaX HR4.out)) rfl ?_;refine ⟨false,⟨#[]⟩,none,0,0,a,LE,rfl,HG4.out,HB4.out,HA.out,.inr ⟨HN.out,fun e=>absurd rfl e,fun _=>?_,rfl,rfl,rfl⟩⟩;rw [HL.out,HIT.out,if_pos HN.out]
 subst hLE;obtain ⟨hT1,hT2⟩:=HTB.out rfl;obtain ⟨d,hd⟩:∃ d,T = a + d:=⟨T - a,by omega⟩;have hwd:IntKind.i64.wrap ((T:Int) - (a:Int)) = (d:Int):=by rw [show (T:Int) - (a:Int) = (d:Int) by omega];exact yaM (by have:=HS.out;omega)
 have t1:tkE s a d 0 = 0:=by unfold tkE;rw [if_pos rfl,if_neg (by omega)]
 have t2:tkA s a d 0 = T:=by unfold tkA;rw [t1,if_pos rfl];omega
 have t3:tkS s a d 0 = s.extract a (a + d):=by unfold tkS;rw [t1,if_pos rfl]
 have HT:=jh (fun V h=>ycE s a d 0 r V h HS.out HA.out (by have:=HS.out;omega));rw [t1,t2,t3,show decide ((0:Int) = 0) = true from rfl] at HT;obtain ⟨q,hq⟩:∃ q,s.extract a (a + d) = q:=⟨_,rfl⟩;have hql:q.data.toList = (l.drop a).take (T - a):=by rw [<- hq,Lib.extract_data,HL.out];congr 1;omega
 have hqs:q.size <= 9223372036854775807:=by rw [<- hq,ByteArray.size_extract];have:=HS.out;omega
 rw [hq] at HT;have HQL:=jh hql;have HTS:=jh hT2;have HDE:=jh (fun V=>ykU q V hqs);have c1:=HB4.out.cell 1;simp only [rdC,jta,jcz,jcs] at c1;clear hT1 hT2 hd t1 t2 t3 hq hql hqs HNX HTB;rw [show decide ((0:Int) = 0) = true from rfl];go_wp2_with fail
 refine (HT.out w4 HB4.out).mono ?_;rintro e w5 ⟨rfl,hb5,hg5⟩;have hrb:=HRB.out;have HB5:=jh hb5;have HG5:=jh (yab HG4.out hg5 (fun k hk=>.inl hk));have HR5:=jh (HR4.out.grown hg5 (fun e=>hrb (ji e).symm));have HLTB:Hid (b < w5.heap.size):=jh HR5.out.lt;clear hb5 hg5 hrb c1 hwd HT HB4 HG4 HR4;go_wp2_with fail
 refine (HDE.out w5).mono ?_;rintro e w6 ⟨lst,bb,sA,sn,sc,E6,rfl,hg6,htail⟩;have HB6:=jh (HB5.out.grown hg6 (by simp));have HG6:=jh (yab HG5.out hg6 (by simp));have HR6:=jh (HR5.out.grown hg6 (by simp));have hz5:w.heap.size <= w5.heap.size:=HG5.out.size;have hga:=yaa (jr w6 none) (.cells #[.bool lst,.string bb,.slice sA sn sc] 106);have h7:=Blk.new w6 106 #[.bool lst,.string bb,.slice sA sn sc];have HB7:=jh (HB6.out.grown hga (by simp));have HG7:=jh (yab HG6.out hga (by simp));have HR7:=jh (HR6.out.grown hga (by simp));have HZ6:Hid (w5.heap.size <= w6.heap.size):=jh hg6.size
 have HTAIL:Hid (yhw q.data.toList w5 lst bb (.slice sA sn sc) E6 (w6.alloc (.cells #[.bool lst,.string bb,.slice sA sn sc] 106))):=jh (by
  rcases htail with ⟨x,e1,e2,e3,e4,e5⟩ | hbad
  ·exact .inl ⟨x,e1,e2,e3,e4,e5.grown hga⟩
  ·exact .inr hbad)
 have HZ5:=jh hz5;clear hg6 htail hz5 hga HB6 HG6 HR6;go_upto_region 8 with (fail)
 obtain ⟨g7,hg7⟩:∃ x,w6.heap.size = x:=⟨_,rfl⟩;have HG7E:=jh hg7;rw [hg7] at h7 ⊢;clear hg7;generalize w6.alloc (.cells #[.bool lst,.string bb,.slice sA sn sc] 106) = w7 at *;have H7:=jh h7;clear h7;go_wp2_with fail
 refine (yb1 s T 0 E6 r w7 HB7.out).mono ?_;rintro e w8 ⟨rfl,hb8,hg8⟩;rw [show kE 0 E6 = E6 from if_pos rfl] at hb8 ⊢;have hrb:=HRB.out;have hr7:r ≠ g7:=by have:=HR.out;have:=HG7E.out;have:=HZ6.out;have:=HZ5.out;omega
 have HB8:=jh hb8;have HG8:=jh (yab HG7.out hg8 (fun k hk=>.inl hk));have HR8:=jh (HR7.out.grown hg8 (fun e=>hrb (ji e).symm));have H8:=jh (H7.out.grown hg8 (fun e=>hr7 (ji e).symm))
 have HT8:Hid (yhw q.data.toList w5 lst bb (.slice sA sn sc) E6 w8):=jh (by
  rcases HTAIL.out with ⟨x,e1,e2,e3,e4,e5⟩ | hbad
  ·exact .inl ⟨x,e1,e2,e3,e4,e5.keep fun pp hp u hu=>hg8.cell hu fun e=>by have hp':w5.heap.size <= pp.block:=hp;have h3:=ji e;have:=HR.out;have:=HZ5.out;omega⟩
  ·exact .inr hbad)
 clear hb8 hg8 hr7 HTAIL H7 HB7 HG7 HR7;have x0:=H8.out.cell 0;have x1:=H8.out.cell 1;have x2:=H8.out.cell 2;have y0:=HR8.out.cell 0;have y1:=HR8.out.cell 1;have y2:=HR8.out.cell 2;have d0:=HR8.out.frozen 0;have d1:=HR8.out.frozen 1;have d2:=HR8.out.frozen 2;simp only [jta,jcz,jcs] at x0 x1 x2 y0 y1 y2;have hwb:w.heap.size <= b:=by have:=HW.out;omega
 have HG9:=jh (yap (yap (yap HG8.out (p:=⟨b,0,none⟩) hwb (.bool lst)) (p:=⟨b,1,none⟩) hwb (.string bb)) (p:=⟨b,2,none⟩) hwb (.slice sA sn sc));have HB9:=jh (yaF (yaF (yaF HB8.out hrb 0 (.bool lst)) hrb 1 (.string bb)) hrb 2 (.slice sA sn sc));have HR9:=jh (((HR8.out.set_ 0 (.bool lst)).set_ 1 (.string bb)).set_ 2 (.slice sA sn sc))
 have HT9:Hid (yhw q.data.toList w5 lst bb (.slice sA sn sc) E6 (((w8.setCell ⟨b,0,none⟩ (.bool lst)).setCell ⟨b,1,none⟩ (.string bb)).setCell ⟨b,2,none⟩ (.slice sA sn sc))):=jh (by
  rcases HT8.out with ⟨x,e1,e2,e3,e4,e5⟩ | hbad
  ·exact .inl ⟨x,e1,e2,e3,e4,ydq (g:=b) e5 (by have:=HZ5.out;have:=HR8.out.lt;intro (hh:w5.heap.size <= b);have:=HLTB.out;omega) _ _ _⟩
  ·exact .inr hbad)
 clear hwb hrb HT8 HG8 HB8;go_wp2_with fail
 refine jbr (yaw (fn:=Tryz.f87) rfl _ _ _ _ rfl (yaX HR9.out)) rfl ?_;refine ⟨lst,bb,sA,sn,sc,T,E6,rfl,HG9.out,HB9.out,HTS.out,?_⟩;have hit:=HIT.out;rw [if_neg (by simp),<- HQL.out] at hit;rcases HT9.out with ⟨x,e1,e2,e3,e4,e5⟩ | ⟨e1,e2,e3,e4,e5⟩
 ·refine .inl ⟨x,T,rfl,?_,e2,rfl,e3,e4,e5.weak fun g hg=>?_⟩
  ·rw [HL.out,hit,e1]
  ·exact jlt HZ5.out hg
 ·refine .inr ⟨e2,fun e=>absurd rfl e,fun _=>?_,e3,e4,e5⟩;rw [HL.out,hit,e1]
def rwL (few many:Int) (y:Itm) (E:Int):List Itm:=if rwE y.list y.items.length few many E = 0 then y.items else []
def rwF (few many:Int) (y:Itm) (E:Int):Int:=rwE y.list y.items.length few many E
def exsF (n:Nat) (E:Int) (zs:List Itm):Int:=zs.foldl (fun e z=>exE z.list z.bytes.size n e) E
theorem ym8 (n:Nat) (E:Int) (zs:List Itm) (z:Itm):exsF n E (zs ++ [z]) = exE z.list z.bytes.size n (exsF n E zs):=by simp [exsF]
def prA (y:Itm):Itm:=y.items.headD Itm.none_
def prK (y:Itm):Itm:=y.items.tail.headD Itm.none_
def prE1 (y:Itm):Int:=exE (prA y).list (prA y).bytes.size 20 0
def prZ (y:Itm):List Itm:=rwL 0 16 (prK y) (prE1 y)
def prE (y:Itm):Int:=exsF 32 (rwF 0 16 (prK y) (prE1 y)) (prZ y)
def prV (y:Itm):AccV:=⟨(prA y).bytes,(prZ y).map Itm.bytes⟩
def yc1:List Itm -> Int -> List AccV × Int
 | [],E=>([],E)
 | y :: ys,E=>if rwF 2 2 y E ≠ 0 then ([],rwF 2 2 y E) else (prV y :: (yc1 ys (prE y)).1,(yc1 ys (prE y)).2)
def accX (x:Itm) (E:Int):List AccV × Int:=yc1 (rwL 0 16 x E) (rwF 0 16 x E)
def KeyR (S:Nat -> Prop) (W:World) (ts:List ByteArray) (T:Option Addr) (n:Nat):Prop :=
 ts.length = n /\ (0 < n -> ∃ g off,T = some ⟨g,off,none⟩ /\ S g /\ ∀ i,i < n -> W.cell? ⟨g,off + i,none⟩ = some (.string (ts.getD i .empty)))
theorem KeyR.keep {S:Nat -> Prop} {W W':World} {ts:List ByteArray} {T:Option Addr} {n:Nat} (h:KeyR S W ts T n) (hk:∀ p:Addr,S p.block -> ∀ u,W.cell? p = some u -> W'.cell? p = some u):KeyR S W' ts T n :=
 ⟨h.1,fun h0=>by obtain ⟨g,off,a,b,c⟩:=h.2 h0;exact ⟨g,off,a,b,fun i hi=>hk _ b _ (c i hi)⟩⟩
theorem KeyR.lt {S:Nat -> Prop} {W:World} {ts:List ByteArray} {T:Option Addr} {n:Nat} (h:KeyR S W ts T n):KeyR (fun g=>S g /\ g < W.heap.size) W ts T n:=by
 refine ⟨h.1,fun h0=>?_⟩;obtain ⟨g,off,a,b,c⟩:=h.2 h0;exact ⟨g,off,a,⟨b,jd0 W _ (c 0 h0)⟩,c⟩
theorem KeyR.weak {S S':Nat -> Prop} {W:World} {ts:List ByteArray} {T:Option Addr} {n:Nat} (h:KeyR S W ts T n) (hs:∀ g,S g -> S' g):KeyR S' W ts T n :=
 ⟨h.1,fun h0=>by obtain ⟨g,off,a,b,c⟩:=h.2 h0;exact ⟨g,off,a,hs g b,c⟩⟩
theorem KeyR.reads {S:Nat -> Prop} {W:World} {ts:List ByteArray} {T:Option Addr} {n:Nat} (h:KeyR S W ts T n):Reads W W.heap.size 1 T n (ts.map ja8):=by
 obtain ⟨hl,hh⟩:=h.lt;refine ⟨by simp [hl],fun h0=>?_⟩;obtain ⟨g,off,a,b,c⟩:=hh h0;refine ⟨_,a,b.2,fun j u hu=>?_⟩
 have hj:j < ts.length:=by
  have:=(jc9.1 hu).1;simpa using this
 have e:(⟨g,off,none⟩:Addr).add j = ⟨g,off + j,none⟩:=by
  unfold Addr.add;by_cases hj:j = 0
  ·subst hj;simp
  ·simp [hj]
 rw [e,c j (by omega)];rw [jgm,je hj] at hu;rw [jg,je hj];simpa using hu
theorem yoD {W:World} {base k:Nat} {v:Value} {ts:List ByteArray} (h:W.ownsRow base 9 1 v k (ts.map ja8)):∃ A c,v = .slice A k c /\ KeyR (fun g=>v.ownBlock = some g) W ts A k:=by
 have hl:ts.length = k:=by have:=h.1;simpa using this
 rcases h.2 with ⟨rfl,h0⟩ | ⟨g,cap,cur,rfl,hb,hg,hn,hc,hs,ht⟩
 ·subst h0;exact ⟨none,0,rfl,⟨hl,fun h=>by omega⟩⟩
 ·refine ⟨_,_,rfl,⟨hl,fun h0=>⟨g,0,rfl,rfl,fun j hj=>?_⟩⟩⟩;rw [jd6,cell_of_row W g j cur 9 (0,0) hg];have h2:(cur.toList.take (k * 1))[j]? = (ts.map ja8)[j]?:=by rw [ht]
  rw [jc3 (by omega)] at h2;rw [<- Array.getElem?_toList,h2];simp [jg,je (show j < ts.length by omega)]
def yby (ls:List AccV) (vs:List (Option Addr × Nat)):List Value:=(ls.zip vs).flatMap fun p=>[.string p.1.addr,.slice p.2.1 p.1.keys.length p.2.2]
theorem yhu (ls:List AccV) (vs:List (Option Addr × Nat)) (h:ls.length = vs.length) (x:AccV) (p:Option Addr × Nat):yby (ls ++ [x]) (vs ++ [p]) = yby ls vs ++ [.string x.addr,.slice p.1 x.keys.length p.2]:=by
 unfold yby
 rw [List.zip_append h,List.flatMap_append];rfl
theorem yfP (ls:List AccV) (vs:List (Option Addr × Nat)) (h:ls.length = vs.length) (i:Nat) (hi:i < ls.length):(yby ls vs)[i * 2]? = some (.string (ls.getD i AccV.none_).addr) /\ (yby ls vs)[i * 2 + 1]? = some (.slice (vs.getD i (none,0)).1 (ls.getD i AccV.none_).keys.length (vs.getD i (none,0)).2):=by
 induction ls generalizing vs i with
 | nil=>simp at hi
 | cons x xs ih =>
  cases vs with
  | nil=>simp at h
  | cons v vs =>
   have e:yby (x :: xs) (v :: vs) = [.string x.addr,.slice v.1 x.keys.length v.2] ++ yby xs vs:=by simp [yby]
   rw [e];cases i with
   | zero=>exact ⟨rfl,rfl⟩
   | succ i =>
    have:=ih vs (by simpa using h) i (by simpa using hi);refine ⟨?_,?_⟩
    ·rw [jar (by simp;omega),show (i + 1) * 2 - [ja8 x.addr,.slice v.1 x.keys.length v.2].length = i * 2 by simp;omega,this.1];rfl
    ·rw [jar (by simp;omega),show (i + 1) * 2 + 1 - [ja8 x.addr,.slice v.1 x.keys.length v.2].length = i * 2 + 1 by simp;omega,this.2];rfl
structure AccSt (o:Nat) (v:Value) (k:Nat) (ls:List AccV) (vs:List (Option Addr × Nat)) (u:World):Prop where
 own:u.ownsRow o 82 2 v k (yby ls vs)
 lx:ls.length = k
 lv:vs.length = k
 key:∀ i,i < k -> KeyR (fun g=>o <= g /\ v.ownBlock ≠ some g) u (ls.getD i AccV.none_).keys (vs.getD i (none,0)).1 (ls.getD i AccV.none_).keys.length
 few:∀ x ∈ ls,x.keys.length <= 1000
theorem ydF {o k size:Nat} {e:TypeId} {v:Value} {xs:List Value} {u u':World} (h:u.ownsRow o e size v k xs) {row:Option Nat} (hg:u.grownBy u' row) (hr:∀ j,row = some j -> j < o):u'.ownsRow o e size v k xs:=by
 refine h.kept hg ?_;cases hb:v.ownBlock with
 | none=>exact .inl rfl
 | some g =>
  refine .inr fun e=>?_;have:=yaj h hb;have:=hr g e.symm;omega
theorem AccSt.keep {o k:Nat} {v:Value} {ls:List AccV} {vs:List (Option Addr × Nat)} {u u':World} (h:AccSt o v k ls vs u) {row:Option Nat} (hg:u.grownBy u' row) (hr:∀ j,row = some j -> j < o):AccSt o v k ls vs u' :=
 ⟨ydF h.own hg hr,h.lx,h.lv,fun i hi=>(h.key i hi).keep fun p hp w hw=>hg.cell hw fun e=>by have:=hr _ e.symm;have:=hp.1;omega,h.few⟩
theorem AccSt.put {o k g' cap':Nat} {v:Value} {ls:List AccV} {vs:List (Option Addr × Nat)} {u u2:World} (h:AccSt o v k ls vs u) (x:AccV) (T:Option Addr) (tc:Nat) (hT:KeyR (fun g=>o <= g /\ v.ownBlock ≠ some g) u x.keys T x.keys.length) (hfew:x.keys.length <= 1000)
  (hown:u2.ownsRow o 82 2 (.slice (some ⟨g',0,none⟩) (k + 1) cap') (k + 1) (yby ls vs ++ [.string x.addr,.slice T x.keys.length tc])) (hg:u.grownBy u2 v.ownBlock) (hob:(ja4 (some ⟨g',0,none⟩) (k + 1) cap').ownBlock = v.ownBlock \/ (ja4 (some ⟨g',0,none⟩) (k + 1) cap').ownBlock = some u.heap.size) :
  AccSt o (.slice (some ⟨g',0,none⟩) (k + 1) cap') (k + 1) (ls ++ [x]) (vs ++ [(T,tc)]) u2:=by
 have key:∀ ts T' n,KeyR (fun g=>o <= g /\ v.ownBlock ≠ some g) u ts T' n -> KeyR (fun g=>o <= g /\ (ja4 (some ⟨g',0,none⟩) (k + 1) cap').ownBlock ≠ some g) u2 ts T' n:=by
  intro ts T' n hs;refine (hs.lt.keep fun p hp c hc=>hg.cell hc (fun e=>hp.1.2 e.symm)).weak fun g hS=>⟨hS.1.1,fun e=>?_⟩;rcases hob with e2 | e2
  ·exact hS.1.2 (e2.symm.trans e)
  ·have:=ji (e2.symm.trans e);have:=hS.2;omega
 refine ⟨by rw [yhu ls vs (by rw [h.lx,h.lv])];exact hown,by simp [h.lx],by simp [h.lv],fun i hi=>?_,fun y hy=>?_⟩
 ·by_cases hij:i < k
  ·rw [jg,jal (by rw [h.lx];exact hij),<- jg,jg (l:=vs ++ [(T,tc)]),jal (by rw [h.lv];exact hij),<- jg];exact key _ _ _ (h.key i hij)
  ·obtain rfl:i = k:=by omega
   rw [jg,jar (by rw [h.lx];omega),jg (l:=vs ++ [(T,tc)]),jar (by rw [h.lv];omega),h.lx,h.lv,Nat.sub_self];exact key _ _ _ hT
 ·rcases List.mem_append.1 hy with hy | hy
  ·exact h.few y hy
  ·obtain rfl:y = x:=by simpa using hy
   exact hfew
theorem AccSt.toR {o k c:Nat} {A:Option Addr} {ls:List AccV} {vs:List (Option Addr × Nat)} {u:World} (h:AccSt o (.slice A k c) k ls vs u):AccR u.heap.size u ls A k:=by
 refine ⟨h.lx,fun h0=>?_⟩;rcases h.own.2 with ⟨_,h1⟩ | ⟨g,cap,cur,hv,hb,hg,hn,hc,hs,ht⟩
 ·omega
 ·cases hv;refine ⟨g,0,rfl,(jes.1 hg).1,fun i hi=>?_⟩;obtain ⟨e1,e2⟩:=yfP ls vs (by rw [h.lx,h.lv]) i (by rw [h.lx];exact hi)
  have hcell:∀ j w,j < k * 2 -> (yby ls vs)[j]? = some w -> u.cell? ⟨g,0 + j,none⟩ = some w:=by
   intro j w hj hw;rw [jd6,cell_of_row u g j cur 82 (0,0) hg,<- Array.getElem?_toList];rw [<- ht,jc3 hj] at hw;exact hw
  refine ⟨(vs.getD i (none,0)).1,(vs.getD i (none,0)).2,hcell _ _ (by omega) e1,?_,(h.key i hi).reads,?_⟩
  ·have:=hcell (i * 2 + 1) _ (by omega) e2
   rwa [<- Nat.add_assoc] at this
  ·have:(ls.getD i AccV.none_) ∈ ls:=by rw [jg,je (by rw [h.lx];exact hi)];exact List.getElem_mem _
   have:=h.few _ this;omega
structure KeySt (s:ByteArray) (a r o gb:Nat) (ad:ByteArray) (kv:Value) (j:Nat) (ts:List ByteArray) (E:Int) (v:Value) (k:Nat) (ls:List AccV) (vs:List (Option Addr × Nat)) (u:World):Prop where
 acc:AccSt o v k ls vs u
 rd:Blk u r 67 (rdC s a E)
 box:Blk u gb 82 #[.string ad,kv]
 own:u.ownsRow (gb + 1) 9 1 kv j (ts.map ja8)
 old:∀ g,v.ownBlock = some g -> g < gb
 keys:∀ i,i < k -> KeyR (fun g=>g < gb) u (ls.getD i AccV.none_).keys (vs.getD i (none,0)).1 (ls.getD i AccV.none_).keys.length
 og:o <= gb
 ro:r < o
theorem KeySt.keep {s:ByteArray} {a r o gb j k:Nat} {ad:ByteArray} {kv v:Value} {ts:List ByteArray} {E:Int} {ls:List AccV} {vs:List (Option Addr × Nat)} {u u':World} (h:KeySt s a r o gb ad kv j ts E v k ls vs u) (hg:u.grownBy u' none):KeySt s a r o gb ad kv j ts E v k ls vs u' :=
 ⟨h.acc.keep hg (fun _ e=>by cases e),h.rd.grown hg (by simp),h.box.grown hg (by simp),ydF h.own hg (fun _ e=>by cases e),h.old,fun i hi=>(h.keys i hi).keep fun p hp w hw=>hg.cell hw (by simp),h.og,h.ro⟩
theorem KeySt.read {s:ByteArray} {a r o gb j k:Nat} {ad:ByteArray} {kv v:Value} {ts:List ByteArray} {E E':Int} {ls:List AccV} {vs:List (Option Addr × Nat)} {u u':World} (h:KeySt s a r o gb ad kv j ts E v k ls vs u) (hg:u.grownBy u' (some r)) (hr:Blk u' r 67 (rdC s a E')):KeySt s a r o gb ad kv j ts E' v k ls vs u':=by
 have hro:=h.ro;have hog:=h.og;refine ⟨h.acc.keep hg (fun j e=>by cases e;exact hro),hr,h.box.grown hg (fun e=>by have:=ji e;omega),ydF h.own hg (fun j e=>by cases e;omega),h.old,fun i hi=>?_,h.og,h.ro⟩;have h1:=(h.acc.key i hi);obtain ⟨hl,hh⟩:=h.keys i hi;refine ⟨hl,fun h0=>?_⟩;obtain ⟨g,off,e1,e2,e3⟩:=hh h0;obtain ⟨g2,off2,f1,f2,f3⟩:=h1.2 h0;rw [e1] at f1;obtain ⟨rfl,rfl⟩:g = g2 /\ off = off2:=by cases f1;exact ⟨rfl,rfl⟩
 exact ⟨g,off,e1,e2,fun i hi=>hg.cell (e3 i hi) fun e=>by have:=ji e;have hf:o <= g:=f2.1;have hgr:g = r:=this;omega⟩
theorem KeySt.put {s:ByteArray} {a r o gb j k g' cap':Nat} {ad:ByteArray} {kv v:Value} {ts:List ByteArray} {E:Int} {ls:List AccV} {vs:List (Option Addr × Nat)} {u u2:World} (h:KeySt s a r o gb ad kv j ts E v k ls vs u) (t:ByteArray)
  (hown:u2.ownsRow (gb + 1) 9 1 (.slice (some ⟨g',0,none⟩) (j + 1) cap') (j + 1) (ts.map ja8 ++ [.string t])) (hg:u.grownBy u2 kv.ownBlock) :
  KeySt s a r o gb ad (.slice (some ⟨g',0,none⟩) (j + 1) cap') (j + 1) (ts ++ [t]) E v k ls vs (u2.setCell ⟨gb,1,none⟩ (.slice (some ⟨g',0,none⟩) (j + 1) cap')):=by
 have hro:=h.ro;have hog:=h.og;have hkv:∀ g,kv.ownBlock = some g -> gb + 1 <= g:=fun g e=>yaj h.own e;have hge:gb + 1 <= g':=yaj hown rfl
 have hkeys:∀ i,i < k -> KeyR (fun g=>g < gb) (u2.setCell ⟨gb,1,none⟩ (.slice (some ⟨g',0,none⟩) (j + 1) cap')) (ls.getD i AccV.none_).keys (vs.getD i (none,0)).1 (ls.getD i AccV.none_).keys.length:=fun i hi =>
  (h.keys i hi).keep fun p hp w hw=>by
   have hp':p.block < gb:=hp;rw [jd1 _ _ _ _ (show gb ≠ p.block by omega)];exact hg.cell hw fun e=>by have:=hkv _ e.symm;omega
 have hown2:(u2.setCell ⟨gb,1,none⟩ (.slice (some ⟨g',0,none⟩) (j + 1) cap')).ownsRow o 82 2 v k (yby ls vs):=by
  have h2:u2.ownsRow o 82 2 v k (yby ls vs):=h.acc.own.kept hg (by
   cases hb:v.ownBlock with
   | none=>exact .inl rfl
   | some g=>exact .inr fun e=>by have:=h.old g hb;have:=hkv g e.symm;omega)
  obtain ⟨A,c,rfl⟩:=yaK h2;rcases h2.2 with ⟨h3,h4⟩ | ⟨g,cap,cur,hv,_⟩
  ·exact ⟨h2.1,.inl ⟨h3,h4⟩⟩
  ·cases hv;exact yda h2 (p:=⟨gb,1,none⟩) (by have:=h.old g rfl;show g ≠ gb;omega) _
 refine ⟨⟨hown2,h.acc.lx,h.acc.lv,fun i hi=>?_,h.acc.few⟩,yaF (h.rd.grown hg (fun e=>by have:=hkv _ e.symm;omega)) (by omega) 1 _,?_,?_,h.old,hkeys,h.og,h.ro⟩
 ·obtain ⟨hl,hh⟩:=hkeys i hi;refine ⟨hl,fun h0=>?_⟩;obtain ⟨g,off,e1,e2,e3⟩:=hh h0;obtain ⟨g2,off2,f1,f2,f3⟩:=(h.acc.key i hi).2 h0;rw [e1] at f1;obtain ⟨rfl,rfl⟩:g = g2 /\ off = off2:=by cases f1;exact ⟨rfl,rfl⟩
  exact ⟨g,off,e1,f2,e3⟩
 ·have:=(h.box.grown hg (fun e=>by have:=hkv _ e.symm;omega)).set_ 1 (.slice (some ⟨g',0,none⟩) (j + 1) cap');simpa using this
 ·rw [List.map_append];exact yda hown (p:=⟨gb,1,none⟩) (by show g' ≠ gb;omega) _
theorem yjf {P:Program} {a:Act} {o:Oper} {W:World} (f:FuncId) (y x z:Operand) (ts:Array TypeId) (b:Value) (ho:o.op = .call { callee:=.value y,args:=#[x,z],argTypes:=ts }) (hy:a.eval y = .func (.func f) #[b] #[]) (v u:Value) (hx:a.eval x = v) (hz:a.eval z = u)
  (hf:(callFunc f #[b,v,u]).run P W = .ok (.enter f #[b,v,u]) W):(execOp a.eval o).run P W = .ok (.enter f #[b,v,u]) W:=by
 unfold execOp;generalize a.eval = ev at *;simp only [ho];simp [resolve,invoke,go_sem,hx,hy,hz,hf]
theorem yoJ:(jq.info? 82).map (fun i=>(i.zero,i.size,i.bytes)) = some (some (.agg #[.string .empty,.slice none 0 0]),2,40):=by kernel_rfl
theorem yde {n:Nat} {lo hi:Int} (h:ych n lo hi = 0):lo <= (n:Int) /\ (n:Int) <= hi:=by
 unfold ych at h;split at h
 ·cases h
 ·split at h
  ·cases h
  ·omega
theorem ykq {l:Bool} {n:Nat} {lo hi E:Int} (h:rwE l n lo hi E = 0):E = 0 /\ l = true /\ ych n lo hi = 0:=by
 unfold rwE at h;by_cases h0:E = 0
 ·rw [if_pos h0] at h;cases l with
  | false=>simp at h
  | true=>exact ⟨h0,rfl,by simpa using h⟩
 ·rw [if_neg h0] at h;exact absurd h h0
theorem yl8 (lo hi:Int) (y:Itm) (E:Int):((rwL lo hi y E).length:Int) <= max hi 0:=by
 unfold rwL;split
 ·rename_i h
  have:=(yde (ykq h).2.2).2;omega
 ·simp;omega
theorem yd2 {S:Nat -> Prop} {w:World} {y:Itm} {A:Option Addr} {c:Nat} (lo hi E:Int) (h:SubV S w y.items (.slice A y.items.length c)) :
  ∃ A1 c1,(if rwE y.list y.items.length lo hi E = 0 then ja4 A y.items.length c else .slice none 0 0) = .slice A1 (rwL lo hi y E).length c1 /\ SubV S w (rwL lo hi y E) (.slice A1 (rwL lo hi y E).length c1):=by
 unfold rwL;split
 ·exact ⟨A,c,rfl,h⟩
 ·exact ⟨none,0,rfl,ygm S w⟩
theorem SubV.item {S:Nat -> Prop} {w:World} {xs:List Itm} {A:Option Addr} {c k:Nat} (h:SubV S w xs (.slice A xs.length c)) (hk:k < xs.length) :
  ∃ g off A' c',A = some ⟨g,off,none⟩ /\ S g /\ w.cell? ⟨g,off + k * 3,none⟩ = some (.bool (xs.getD k Itm.none_).list) /\ w.cell? ⟨g,off + k * 3 + 1,none⟩ = some (.string (xs.getD k Itm.none_).bytes) /\ w.cell? ⟨g,off + k * 3 + 2,none⟩ = some (.slice A' (xs.getD k Itm.none_).items.length c') /\
   SubV S w (xs.getD k Itm.none_).items (.slice A' (xs.getD k Itm.none_).items.length c'):=by
 obtain ⟨_,vs,hx,hr⟩:=h.row;obtain ⟨g,off,hA,hS,hc⟩:=hr (by omega);obtain ⟨c0,c1,c2⟩:=hc k hk;have hsub:=hx k hk;obtain ⟨A',c',hv⟩:=hsub.slice;rw [hv] at c2 hsub;exact ⟨g,off,A',c',hA,hS,c0,c1,c2,hsub⟩
theorem KeyR.lower {S S':Nat -> Prop} {W:World} {ts:List ByteArray} {T:Option Addr} {n:Nat} (h:KeyR S W ts T n) (hs:∀ g,S g -> g < W.heap.size -> S' g):KeyR S' W ts T n:=h.lt.weak fun g hg=>hs g hg.1 hg.2
theorem AccSt.lower {o o' k:Nat} {v:Value} {ls:List AccV} {vs:List (Option Addr × Nat)} {u:World} (h:AccSt o v k ls vs u) (ho:o' <= o):AccSt o' v k ls vs u :=
 ⟨yfx h.own ho,h.lx,h.lv,fun i hi=>(h.key i hi).weak fun g hg=>⟨jlt ho hg.1,hg.2⟩,h.few⟩
theorem yoA (y:Itm):(prV y).keys.length <= 1000:=by
 have:=yl8 0 16 (prK y) (prE1 y);simp only [prV,prZ,List.length_map];omega
def yoy (x:Itm) (E:Int) (s:ByteArray) (a r:Nat) (w:World) (e:Ending) (w':World):Prop :=
 ∃ A c,e = .returned (.slice A (accX x E).1.length c) /\ (∃ vs,AccSt w.heap.size (.slice A (accX x E).1.length c) (accX x E).1.length (accX x E).1 vs w') /\ Blk w' r 67 (rdC s a (accX x E).2) /\ w.grownBy w' (some r)
theorem yj3 (x:Itm) (A:Option Addr) (c:Nat) (s:ByteArray) (a:Nat) (E:Int) (r:Nat) (w:World) (h:Blk w r 67 (rdC s a E)) (hsv:SubV (fun g=>g ≠ r) w x.items (.slice A x.items.length c)) :
  Calls jq 91 #[.pointer (some ⟨r,0,none⟩),.agg #[.bool x.list,.string x.bytes,.slice A x.items.length c]] w (yoy x E s a r w):=by
 have hga:=yaa (jr w none) (.cells #[.bool x.list,.string x.bytes,.slice A x.items.length c] 106);have hbx:=Blk.new w 106 #[.bool x.list,.string x.bytes,.slice A x.items.length c];have h1:=h.alloc (.cells #[.bool x.list,.string x.bytes,.slice A x.items.length c] 106);have hr:=h.lt;obtain ⟨A1,c1,hv1,hs1⟩:=yd2 0 16 E hsv;have hle:=yl8 0 16 x E;have hrow:=fun V hV=>ydE s a E r x.list x.bytes A x.items.length c 0 16 V hV;rw [hv1] at hrow;obtain ⟨R,hR⟩:∃ R,accX x E = R:=⟨_,rfl⟩;have hR2:yc1 (rwL 0 16 x E) (rwF 0 16 x E) = R:=hR;have hrw:rwE x.list x.items.length 0 16 E = rwF 0 16 x E:=rfl;rw [hrw] at hrow;unfold yoy;rw [hR];obtain ⟨xs,hxs⟩:∃ xs,rwL 0 16 x E = xs:=⟨_,rfl⟩;obtain ⟨E0,hE0⟩:∃ e,rwF 0 16 x E = e:=⟨_,rfl⟩;rw [hxs] at hrow hs1 hle hR2;rw [hE0] at hrow hR2;obtain ⟨N,hN⟩:∃ N,xs.length = N:=⟨_,rfl⟩;rw [hN] at hrow hs1 hle;have HROW:=jh hrow;have HS1:=jh hs1;have HN:=jh hN;have HRR:=jh hR2;have HR:=jh hr;have HG:=jh (yb4 hga (some r));have HB:=jh h1;have hN16:N <= 16:=by omega
 clear hrow hs1 hN hR2 hr hga h1 h hsv hv1 hle hR hrw hxs hE0;go_enter Tryz.func91,Tryz.ntmps91
 go_upto_region 1 with (fail)
 obtain ⟨b0,hb0⟩:∃ b,w.heap.size = b:=⟨_,rfl⟩;rw [hb0] at hbx ⊢;clear hb0;generalize w.alloc (.cells #[.bool x.list,.string x.bytes,.slice A x.items.length c] 106) = w1 at *;have x0:=hbx.cell 0;have x1:=hbx.cell 1;have x2:=hbx.cell 2;simp only [jta,jcz,jcs] at x0 x1 x2;clear hbx;go_wp2_with fail
 refine (HROW.out w1 HB.out).mono ?_;rintro e w2 ⟨rfl,hb2,hg2⟩;have hgw:=yab HG.out hg2 (fun k hk=>.inl hk);obtain ⟨o,ho⟩:∃ o,w2.heap.size = o:=⟨_,rfl⟩;have hro:r < o:=by have:=hb2.lt;omega
 have hs2:SubV (fun g=>g ≠ r) w2 xs (.slice A1 N c1):=HS1.out.keep fun p hp u hu=>hgw.cell hu fun e=>hp (ji e);rw [<- HN.out] at hs2;have HS2:=jh hs2;have HGW:=jh hgw;have HO:=jh ho;have HRO:=jh hro;have HB2:=jh hb2;clear hb2 hg2 hgw hs2 ho hro x0 x1 x2 HROW HS1 HG HB;go_wp2_with fail
 go_loopw [5,19] (fun v i wr=>∃ (k:Nat) (vs:List (Option Addr × Nat)) (ls:List AccV) (Ek:Int),i = .int .i64 k /\ k <= N /\ AccSt o v k ls vs wr /\ Blk wr r 67 (rdC s a Ek) /\ w2.grownBy wr (some r) /\ Hid (R = (ls ++ (yc1 (xs.drop k) Ek).1,(yc1 (xs.drop k) Ek).2))) (fun _ i _=>N - (intOf i).toNat)
 case atStart=>exact ⟨0,[],[],E0,rfl,by omega,⟨jon _ _ _ _,rfl,rfl,fun i hi=>absurd hi (by omega),fun x hx=>by cases hx⟩,HB2.out,jr _ _,jh (by rw [List.drop_zero,HRR.out];rfl)⟩
 case round =>
  obtain ⟨k,vs,ls,Ek,rfl,hk,hacc,hbk,hgk,hRk⟩:=hrel;have HRK:=jh hRk.out;obtain ⟨vA,vc,rfl⟩:=yaK hacc.own;have HACC:=jh hacc;have HBK:=jh hbk;have HGK:=jh hgk;clear hRk hacc hbk HRR;by_cases hlt:k < N
  rotate_left
  ·obtain rfl:k = N:=by omega
   have hd:xs.drop k = []:=List.drop_eq_nil_of_le (by have:=HN.out;omega);have hRv:R = (ls,Ek):=by rw [HRK.out,hd];simp [yc1]
   have hlen:=HACC.out.lx;subst hRv;have hfin:decide ((k:Int) < (k:Int)) = false:=by simp
   have HEND:=jh (⟨vA,vc,vs,by rw [hlen],by rw [hlen];exact HACC.out.lower (by have:=HO.out;have:=HGW.out.size;omega),HBK.out,yab HGW.out HGK.out (fun k hk=>.inl hk)⟩:∃ A c vs',ja4 vA k vc = .slice A ls.length c /\ AccSt w.heap.size (.slice A ls.length c) ls.length ls vs' wr /\ Blk wr r 67 (rdC s a Ek) /\ w.grownBy wr (some r));clear hd hlen hgk hk hlt;go_wp2_with fail
   go_ret
   obtain ⟨A',c',vs',e1,e2,e3,e4⟩:=HEND.out;exact ⟨A',c',by rw [<- e1];rfl,⟨vs',e2⟩,e3,e4⟩
  obtain ⟨g1,off1,Ay,cy,hA1,hg1,y0,y1,y2,hsy⟩:=HS2.out.item (by rw [HN.out];exact hlt);subst hA1;have q1:(k:Int) < (N:Int):=by omega
  obtain ⟨y,hy⟩:∃ y,xs.getD k Itm.none_ = y:=⟨_,rfl⟩;rw [hy] at y0 y1 y2 hsy
  have hdr:xs.drop k = y :: xs.drop (k + 1):=by
   rw [jdc (by rw [HN.out];exact hlt),<- hy,jg,je (by rw [HN.out];exact hlt)];rfl
  have hRy:R = (ls ++ (yc1 (y :: xs.drop (k + 1)) Ek).1,(yc1 (y :: xs.drop (k + 1)) Ek).2):=by rw [HRK.out,hdr]
  have HRY:=jh hRy;have HYS:=jh hsy;have HY0:=jh y0;have HY1:=jh y1;have HY2:=jh y2;have HG1:=jh hg1;replace y0:=hgk.cell y0 (fun e=>hg1 (ji e));replace y1:=hgk.cell y1 (fun e=>hg1 (ji e));replace y2:=hgk.cell y2 (fun e=>hg1 (ji e));obtain ⟨ny,hny⟩:∃ n,y.items.length = n:=⟨_,rfl⟩;rw [hny] at y2;have HNY:=jh hny;have hga:=yaa (jr wr none) (.cells #[.bool y.list,.string y.bytes,.slice Ay ny cy] 106);have hb8:=Blk.new wr 106 #[.bool y.list,.string y.bytes,.slice Ay ny cy];have HB5:=jh (HBK.out.grown hga (by simp));have HA5:=jh (HACC.out.keep hga (fun _ e=>by cases e));have HG5:=jh (yab HGK.out hga (by simp));clear hsy hg1 hy hdr hRy hgk hny;go_upto_region 6 with (fail)
  obtain ⟨g8,hg8⟩:∃ x,wr.heap.size = x:=⟨_,rfl⟩;rw [hg8] at hb8 ⊢;clear hg8 hga y0 y1 y2;generalize wr.alloc (.cells #[.bool y.list,.string y.bytes,.slice Ay ny cy] 106) = w5 at *;have x0:=hb8.cell 0;have x1:=hb8.cell 1;have x2:=hb8.cell 2;simp only [jta,jcz,jcs] at x0 x1 x2;clear hb8 HACC HBK HGK;have HROW:=jh (ydE s a Ek r y.list y.bytes Ay ny cy 2 2 w5 HB5.out);obtain ⟨F,hF⟩:∃ F,rwF 2 2 y Ek = F:=⟨_,rfl⟩;have hF':rwE y.list ny 2 2 Ek = F:=by rw [<- hF,<- HNY.out];rfl
  rw [hF'] at HROW;by_cases hF0:F = 0
  rotate_left
  ·rw [if_neg hF0] at HROW;have hRv:R = (ls,F):=by rw [HRY.out,yc1,hF,if_pos hF0];simp
   subst hRv;have hlen:=HA5.out.lx;have HLEN:=jh hlen;clear hF hF' hF0 hlen;go_wp2_with fail
   refine HROW.out.mono ?_;rintro e w6 ⟨rfl,hb6,hg6⟩;have hro:=HRO.out;have hA6:=HA5.out.keep hg6 (fun j e=>by cases e;exact hro);have HEND:=jh (⟨vA,vc,vs,by rw [HLEN.out],by rw [HLEN.out];exact hA6.lower (by have:=HO.out;have:=HGW.out.size;omega),hb6,yab HGW.out (yab HG5.out hg6 (fun k hk=>.inl hk)) (fun k hk=>.inl hk)⟩:∃ A c vs',ja4 vA k vc = .slice A ls.length c /\ AccSt w.heap.size (.slice A ls.length c) ls.length ls vs' w6 /\ Blk w6 r 67 (rdC s a F) /\ w.grownBy w6 (some r));clear hb6 hg6 hro hA6 x0 x1 x2;go_wp2_with fail
   go_ret
   obtain ⟨A',c',vs',e1,e2,e3,e4⟩:=HEND.out;exact ⟨A',c',by rw [<- e1];rfl,⟨vs',e2⟩,e3,e4⟩
  subst hF0;obtain ⟨hEk,hyl,hty⟩:=ykq hF';obtain ⟨hn1,hn2⟩:=yde hty;obtain rfl:ny = 2:=by omega
  subst hEk;rw [if_pos rfl] at HROW
  have hitems:∃ p0 p1,y.items = [p0,p1]:=by
   have hl:=HNY.out
   match hh:y.items,hl with
   | [p0,p1],_=>exact ⟨p0,p1,rfl⟩
  obtain ⟨p0,p1,hp⟩:=hitems;have hpA:prA y = p0:=by unfold prA;rw [hp];rfl
  have hpK:prK y = p1:=by unfold prK;rw [hp];rfl
  have hys:=HYS.out;obtain ⟨g2,off2,A0,c0,hAy,hg2,z0,z1,z2,hs0⟩:=hys.item (k:=0) (by rw [hp];simp);obtain ⟨g2',off2',A11,c11,hAy',_,t0,t1,t2,hsp1⟩:=hys.item (k:=1) (by rw [hp];simp);rw [hp] at z0 z1 z2 t0 t1 t2 hsp1;rw [hAy] at hAy';obtain ⟨rfl,rfl⟩:g2 = g2' /\ off2 = off2':=by cases hAy';exact ⟨rfl,rfl⟩
  subst hAy;simp only [List.getD_cons_zero,List.getD_cons_succ,Nat.zero_mul,Nat.add_zero,Nat.one_mul] at z0 z1 z2 t0 t1 t2 hsp1;have HZ0:=jh z0;have HZ1:=jh z1;have HZ2:=jh z2;have HT0:=jh t0;have HT1:=jh t1;have HT2:=jh t2;have HG2:=jh hg2;obtain ⟨A12,c12,hv12,hs12⟩:=yd2 0 16 (prE1 y) hsp1;have hprz:rwL 0 16 p1 (prE1 y) = prZ y:=by unfold prZ;rw [hpK]
  have hle2:=yl8 0 16 p1 (prE1 y);rw [hprz] at hv12 hs12 hle2;have hpe1:exE p0.list p0.bytes.size 20 0 = prE1 y:=by unfold prE1;rw [hpA]
  have hpe3:rwE p1.list p1.items.length 0 16 (prE1 y) = rwF 0 16 (prK y) (prE1 y):=by rw [hpK];rfl
  have hprE:exsF 32 (rwF 0 16 (prK y) (prE1 y)) (prZ y) = prE y:=rfl;have hprV:prV y = ⟨p0.bytes,(prZ y).map Itm.bytes⟩:=by unfold prV;rw [hpA]
  have hRn:R = ((ls ++ [prV y]) ++ (yc1 (xs.drop (k + 1)) (prE y)).1,(yc1 (xs.drop (k + 1)) (prE y)).2):=by
   rw [HRY.out,yc1,hF,if_neg (by simp)];simp
  have HRN:=jh hRn;have HPV:=jh hprV;obtain ⟨E1,hE1⟩:∃ e,prE1 y = e:=⟨_,rfl⟩;obtain ⟨E3,hE3⟩:∃ e,rwF 0 16 (prK y) (prE1 y) = e:=⟨_,rfl⟩;obtain ⟨zs,hzs⟩:∃ e,prZ y = e:=⟨_,rfl⟩;rw [hE3,hzs] at hprE;rw [hE3] at hpe3;rw [hE1] at hpe1 hpe3 hv12;rw [hzs] at hv12 hs12 hle2 HPV;rw [hpe3] at hv12;obtain ⟨M,hM⟩:∃ M,zs.length = M:=⟨_,rfl⟩;rw [hM] at hv12 hle2;have hs12':=hs12;rw [hM] at hs12';have HM:=jh hM;have HS12:=jh hs12;have HPRE:=jh hprE;have HPE1:=jh hpe1;have HPE3:=jh hpe3;have HV12:=jh hv12;have hM16:M <= 16:=by omega
  obtain ⟨n1,hn1'⟩:∃ n,p1.items.length = n:=⟨_,rfl⟩;obtain ⟨n0,hn0'⟩:∃ n,p0.items.length = n:=⟨_,rfl⟩;rw [hn1'] at HT2 HPE3 HV12;rw [hn0'] at HZ2;clear hF hF' hyl hty hn1 hn2 hp hpA hpK hys hs0 z0 z1 z2 t0 t1 t2 hsp1 hs12 hs12' hprz hle2 hpe1 hpe3 hprE hprV hRn hE1 hE3 hzs hM hn1' hn0' hv12 hg2 hAy' HRY HRK HNY HYS;go_wp2_with fail
  refine HROW.out.mono ?_;rintro e w6 ⟨rfl,hb6,hg6⟩;have hro:=HRO.out;have HA6:=jh (HA5.out.keep hg6 (fun j e=>by cases e;exact hro));have HG6:=jh (yab HG5.out hg6 (fun k hk=>.inl hk));have HB6:=jh hb6;have z0:=HG6.out.cell HZ0.out (fun e=>HG2.out (ji e));have z1:=HG6.out.cell HZ1.out (fun e=>HG2.out (ji e));have z2:=HG6.out.cell HZ2.out (fun e=>HG2.out (ji e));clear hb6 hg6 x0 x1 x2 HROW HA5 HG5 HB5;go_wp2_with fail
  refine (ygD s a 0 r p0.list p0.bytes A0 n0 c0 20 w6 HB6.out).mono ?_;rintro e w7 ⟨rfl,hb7,hg7⟩;rw [HPE1.out] at hb7;have HA7:=jh (HA6.out.keep hg7 (fun j e=>by cases e;exact hro));have HG7:=jh (yab HG6.out hg7 (fun k hk=>.inl hk));have HB7:=jh hb7;clear hb7 hg7 z0 z1 z2 HA6 HG6 HB6;have hga:=yaa (jr w7 none) (.cells #[.string p0.bytes,.slice none 0 0] 82);have hbg:=Blk.new w7 82 #[.string p0.bytes,.slice none 0 0];have HA8:=jh (HA7.out.keep hga (fun _ e=>by cases e));have HG8:=jh (yab HG7.out hga (by simp));have HB8:=jh (HB7.out.grown hga (by simp));go_upto_region 9 with (fail)
  obtain ⟨gb,hgb⟩:∃ x,w7.heap.size = x:=⟨_,rfl⟩;have HGB:=jh hgb;rw [hgb] at hbg ⊢;clear hgb;generalize w7.alloc (.cells #[.string p0.bytes,.slice none 0 0] 82) = w8 at *;have hogb:o <= gb:=by have:=HG7.out.size;have:=HO.out;have:=HGB.out;omega
  have HOGB:=jh hogb;have hold:∀ g,(ja4 vA k vc).ownBlock = some g -> g < gb:=fun g hg=>by have:=ycH HA7.out.own hg;have:=HGB.out;omega
  have hkeys7:∀ i,i < k -> KeyR (fun g=>g < gb) w7 (ls.getD i AccV.none_).keys (vs.getD i (none,0)).1 (ls.getD i AccV.none_).keys.length:=fun i hi=>(HA7.out.key i hi).lower fun g _ hg=>by have:=HGB.out;omega
  have hkeys8:∀ i,i < k -> KeyR (fun g=>g < gb) w8 (ls.getD i AccV.none_).keys (vs.getD i (none,0)).1 (ls.getD i AccV.none_).keys.length:=fun i hi=>(hkeys7 i hi).keep fun p hp w hw=>hga.cell hw (by simp);have HK8:Hid (KeySt s a r o gb p0.bytes (.slice none 0 0) 0 [] E1 (.slice vA k vc) k ls vs w8):=jh ⟨HA8.out,HB8.out,hbg,jon _ _ _ _,hold,hkeys8,hogb,hro⟩;have t0:=HG8.out.cell HT0.out (fun e=>HG2.out (ji e));have t1:=HG8.out.cell HT1.out (fun e=>HG2.out (ji e));have t2:=HG8.out.cell HT2.out (fun e=>HG2.out (ji e));clear hga hbg hogb hold hkeys7 hkeys8 HA7 HG7 HB7 HA8;go_wp2_with fail
  have hrow3:=ydE s a E1 r p1.list p1.bytes A11 n1 c11 0 16 w8 HB8.out;rw [HPE3.out,HV12.out] at hrow3;refine hrow3.mono ?_;rintro e w9 ⟨rfl,hb9,hg9⟩;have HK9:=jh (HK8.out.read hg9 hb9);have HG9:=jh (yab HG8.out hg9 (fun k hk=>.inl hk));clear hrow3 hb9 hg9 t0 t1 t2 HK8 HG8 HB8 HZ0 HZ1 HZ2 HT0 HT1 HT2;go_wp2_with fail
  go_loopw [41] (fun i wr=>∃ (j:Nat) (kv:Value),i = .int .i64 j /\ j <= M /\ KeySt s a r o gb p0.bytes kv j ((zs.take j).map Itm.bytes) (exsF 32 E3 (zs.take j)) (.slice vA k vc) k ls vs wr /\ w2.grownBy wr (some r)) (fun i _=>M - (intOf i).toNat)
  case atStart=>exact ⟨0,_,rfl,by omega,HK9.out,HG9.out⟩
  case round =>
   obtain ⟨j,kv,rfl,hj,hK,hgq⟩:=hrel;obtain ⟨kT,kc,rfl⟩:=yaK hK.own;by_cases hjl:j < M
   rotate_left
   ·obtain rfl:j = M:=by omega
    have ht:zs.take j = zs:=jtl (by have:=HM.out;omega);rw [ht,HPRE.out] at hK;have HK:=jh hK;have HGQ:=jh hgq;have hfin:decide ((j:Int) < (j:Int)) = false:=by simp
    have k0:=hK.box.cell 0;have k1:=hK.box.cell 1;simp only [jta,jcz,jcs] at k0 k1;obtain ⟨i0,hi,hz0,hz1,hz2⟩:=info_parts yoJ;have hown:=hK.acc.own;have hsz:o <= wr.heap.size:=by have:=hgq.size;have:=HO.out;omega
    have hga:=yaa (jr wr none) (.cells #[.string p0.bytes,.slice kT j kc] 82);have HKA:=jh (hK.keep hga);have HGA:=jh (yab hgq hga (by simp));clear hK hgq ht hj hjl HK9 HG9;go_upto_region 14 with (fail)
    refine jwl ?_;refine zm 5 (.slice vA k vc) rfl ?_;simp only [jp,jb,jz,js];refine yac rfl (.agg #[.string p0.bytes,.slice kT j kc]) (yaq rfl rfl 82 _ _ HK.out.box Tryz.underlying82 rfl (by kernel_rfl)) ?_;simp only [jp,jb,jz,js];refine yac rfl (.slice (some ⟨wr.heap.size,0,none⟩) 1 1) (w':=wr.alloc (.cells #[.string p0.bytes,.slice kT j kc] 82)) (by go_simp <;> rfl) ?_;simp only [jp,jb,jz,js];obtain ⟨v',w8',hrun,hown4,hgrow,hiff,hob⟩:=jra (P:=jq) (wr.alloc (.cells #[.string p0.bytes,.slice kT j kc] 82)) o 39 39 82 i0 _ 2 40 Tryz.underlying39 hi hz0 hz1 hz2 rfl (by decide) (.slice vA k vc) k (yby ls vs) HKA.out.acc.own ⟨wr.heap.size,0,none⟩ 1 1 [.string p0.bytes,.slice kT j kc] rfl (ydn _ [.string p0.bytes,.slice kT j kc] _) (by simp [ja2]) (by simp only [maxLen];omega) (by omega) (by simp;omega);obtain ⟨g',cap',rfl⟩:=ownsRow_succ hown4;refine yac rfl (.slice (some ⟨g',0,none⟩) (k + 1) cap') (ya7 (.tmp 54) (.tmp 56) 39 rfl _ _ _ rfl rfl hrun) ?_;simp only [jp,jb,jz,js]
    have hkk:KeyR (fun g=>o <= g /\ (ja4 vA k vc).ownBlock ≠ some g) (wr.alloc (.cells #[.string p0.bytes,.slice kT j kc] 82)) (prV y).keys kT (prV y).keys.length:=by
     obtain ⟨A9,c9,hv9,hk9⟩:=yoD HKA.out.own;have e9:kT = A9:=by cases hv9;rfl
     subst e9;have hkl:(prV y).keys = zs.map Itm.bytes:=by rw [HPV.out]
     rw [hkl,show (zs.map Itm.bytes).length = j by rw [List.length_map];exact HM.out];refine hk9.weak fun g hg=>?_;have h1:=yaj HKA.out.own hg;have h2:=HOGB.out;refine ⟨by omega,fun e=>?_⟩;have:=HKA.out.old g e;omega
    have hpl:(prV y).keys.length = j:=by rw [HPV.out];simp [HM.out]
    have hput:=HKA.out.acc.put (prV y) kT kc hkk (yoA y) (by rw [hpl,HPV.out];exact hown4) hgrow hob;have hrow8:w2.grownBy w8' (some r):=yab HGA.out hgrow (fun q hq=>.inr (by have:=yaj HKA.out.acc.own hq;have:=HO.out;omega));have hrd8:Blk w8' r 67 (rdC s a (prE y)):=HKA.out.rd.grown hgrow (fun e=>by have:=yaj HKA.out.acc.own e.symm;have:=HRO.out;omega);have HPUT:=jh hput;have HRW:=jh hrow8;have HRD:=jh hrd8;clear hown4 hgrow hob hiff hrun hkk hpl hput hrow8 hrd8 hga k0 k1 hown HK HGQ HKA HGA;go_wp2_with fail
    go_roundw
    case rel=>exact ⟨k + 1,_,_,prE y,by go_num,by omega,HPUT.out,HRD.out,HRW.out,jh HRN.out⟩
    case measure=>simp [intOf];omega
   obtain ⟨g12,off12,Az,cz,hA12,hg12,e0,e1,e2,_⟩:=HS12.out.item (k:=j) (by rw [HM.out];exact hjl);have hA12':A12 = some ⟨g12,off12,none⟩:=hA12;subst hA12';have q2:(j:Int) < (M:Int):=by omega
   obtain ⟨z,hz⟩:∃ z,zs.getD j Itm.none_ = z:=⟨_,rfl⟩;rw [hz] at e0 e1 e2;replace e0:=hgq.cell e0 (fun e=>hg12 (ji e));replace e1:=hgq.cell e1 (fun e=>hg12 (ji e));replace e2:=hgq.cell e2 (fun e=>hg12 (ji e));obtain ⟨nz,hnz⟩:∃ n,z.items.length = n:=⟨_,rfl⟩;rw [hnz] at e2
   have hT1:zs.take (j + 1) = zs.take j ++ [z]:=by
    rw [List.take_add_one,je (by rw [HM.out];exact hjl),<- hz,jg,je (by rw [HM.out];exact hjl)];rfl
   have HT1:=jh hT1;obtain ⟨ts,hts⟩:∃ ts,(zs.take j).map Itm.bytes = ts:=⟨_,rfl⟩;obtain ⟨Ej,hEj⟩:∃ e,exsF 32 E3 (zs.take j) = e:=⟨_,rfl⟩;rw [hts,hEj] at hK;have HTS:=jh hts;have HEJ:=jh hEj;have hga:=yaa (jr wr none) (.cells #[.bool z.list,.string z.bytes,.slice Az nz cz] 106);have hbt:=Blk.new wr 106 #[.bool z.list,.string z.bytes,.slice Az nz cz];have hgbq:gb + 1 <= wr.heap.size:=hK.box.lt;have hK1:=hK.keep hga;have hgu:=yab hgq hga (by simp);have hown0:=hK.own;clear hK hgq hA12 hg12 hz hnz hT1 hts hEj HK9 HG9;go_upto_region 12 with (fail)
   obtain ⟨gt,hgt⟩:∃ x,wr.heap.size = x:=⟨_,rfl⟩;have hgbt:gb < gt:=by omega
   have hkt:(ja4 kT j kc).ownBlock ≠ some gt:=fun e=>by have:=ycH hown0 e;omega
   rw [hgt] at hbt ⊢;clear hgt hga e0 e1 e2 hgbq hown0;generalize wr.alloc (.cells #[.bool z.list,.string z.bytes,.slice Az nz cz] 106) = w5 at *;have hrt:r ≠ gt:=by have:=HRO.out;have:=HOGB.out;omega
   have HKT:=jh hkt;have HGBT:=jh hgbt;have HRT:=jh hrt;clear hkt hgbt hrt;refine yci 8 (fun b W=>b = false -> W.cell? ⟨gb,1,none⟩ = some (.slice kT j kc) /\ Blk W gt 106 #[.bool z.list,.string z.bytes,.slice Az nz cz]) (by kernel_rfl) ?_;replace hbt:Blk w5.drew gt 106 #[.bool z.list,.string z.bytes,.slice Az nz cz]:=hbt;replace hgu:=ya2 hgu;replace hK1:=hK1.keep (ya2 (jr w5 none));generalize w5.drew = u0 at *;have hS0:false = false -> u0.cell? ⟨gb,1,none⟩ = some (.slice kT j kc) /\ Blk u0 gt 106 #[.bool z.list,.string z.bytes,.slice Az nz cz]:=fun _=>⟨hK1.box.cell 1,hbt⟩;refine zf 0 (.pointer (some ⟨gb,1,none⟩)) (some 45) rfl (fun W hW=>by go_simp) hS0 ?_;simp only [jp,jb,jz,js];refine zf 1 (.slice kT j kc) (some 46) rfl (fun W hW=>yaf 57 (.tmp 45) rfl _ rfl _ _ Tryz.underlying57 rfl (hW rfl).1) hS0 ?_;simp only [jp,jb,jz,js];refine zf 2 (.func (.func 130) #[.pointer (some ⟨r,0,none⟩)] #[]) (some 47) rfl (fun W hW=>by go_simp) hS0 ?_;simp only [jp,jb,jz,js];refine zf 3 (.agg #[.bool z.list,.string z.bytes,.slice Az nz cz]) (some 48) rfl (fun W hW=>yaq rfl rfl 106 _ _ (hW rfl).2 Tryz.underlying106 rfl (by kernel_rfl)) hS0 ?_;simp only [jp,jb,jz,js];clear hS0;refine yb6 (i:=4) (by kernel_rfl) ?_;refine ycJ (some 49) rfl rfl 130 #[.pointer (some ⟨r,0,none⟩),.agg #[.bool z.list,.string z.bytes,.slice Az nz cz],.int .i64 32] (yjf _ (.tmp 47) (.tmp 48) _ _ _ rfl rfl _ _ rfl rfl (jeo Tryz.func130 (by kernel_rfl) rfl _ _)) rfl false (by kernel_rfl) ((ygD s a Ej r z.list z.bytes Az nz cz 32 u0 hK1.rd).mono ?_);rintro e u1 ⟨rfl,hb1,hg1⟩;replace hK1:=hK1.read hg1 hb1;replace hbt:=hbt.grown hg1 (fun e=>HRT.out (ji e).symm);replace hgu:=yab hgu hg1 (fun k hk=>.inl hk);refine ⟨_,rfl,(fun _=>⟨hK1.box.cell 1,hbt⟩),?_⟩;simp only [jp,jb,jz,js];clear hb1 hg1;refine yb6 (i:=5) (by kernel_rfl) ?_;have hga:=yaa (jr u1 none) (.cells #[.string z.bytes] 9);replace hK1:=hK1.keep hga;replace hbt:=hbt.grown hga (by simp);replace hgu:=yab hgu hga (by simp);refine ybs (some 50) rfl rfl (.slice (some ⟨u1.heap.size,0,none⟩) 1 1) (w':=u1.alloc (.cells #[.string z.bytes] 9)) (by go_simp <;> rfl) rfl false (by kernel_rfl) (fun _=>⟨hK1.box.cell 1,hbt⟩) ?_;simp only [jp,jb,jz,js];obtain ⟨i0,hi,hz0,hz1,hz2⟩:=info_parts ypr;obtain ⟨v',u2,hrun,hown',hgrow,hiff,hob⟩:=jra (P:=jq) (u1.alloc (.cells #[.string z.bytes] 9)) (gb + 1) 57 57 9 i0 _ 1 16 Tryz.underlying57 hi hz0 hz1 hz2 rfl (by decide) (.slice kT j kc) j (ts.map ja8) hK1.own ⟨u1.heap.size,0,none⟩ 1 1 [.string z.bytes] rfl (ydn _ [.string z.bytes] _) (by simp [ja2]) (by simp only [maxLen];omega) (by omega) hK1.box.lt;obtain ⟨g',cap',rfl⟩:=ownsRow_succ hown';have hK3:=hK1.put z.bytes hown' hgrow;have hbt3:=hbt.grown hgrow (fun e=>HKT.out e.symm);have hbb:=hK1.box.grown hgrow (fun e=>by have:=yaj hK1.own e.symm;omega);have hgu3:w2.grownBy (u2.setCell ⟨gb,1,none⟩ (.slice (some ⟨g',0,none⟩) (j + 1) cap')) (some r):=yap (yab hgu hgrow (fun q hq=>.inr (by have:=yaj hK1.own hq;have:=HOGB.out;have:=HO.out;omega))) (p:=⟨gb,1,none⟩) (by have:=HOGB.out;have:=HO.out;show w2.heap.size <= gb;omega) _;refine yb6 (i:=6) (by kernel_rfl) ?_;refine ybs (some 51) rfl rfl (.slice (some ⟨g',0,none⟩) (j + 1) cap') (ya7 (.tmp 46) (.tmp 50) 57 rfl _ _ _ rfl rfl hrun) rfl false (by kernel_rfl) (fun _=>⟨hbb.cell 1,hbt3⟩) ?_;simp only [jp,jb,jz,js];refine yb6 (i:=7) (by kernel_rfl) ?_;refine ybs (some 52) rfl rfl (.pointer (some ⟨gb,1,none⟩)) (by go_simp <;> rfl) rfl false (by kernel_rfl) (fun _=>⟨hbb.cell 1,hbt3⟩) ?_;simp only [jp,jb,jz,js];refine yb6 (i:=8) (by kernel_rfl) ?_;refine ygA rfl rfl rfl (w':=u2.setCell ⟨gb,1,none⟩ (.slice (some ⟨g',0,none⟩) (j + 1) cap')) (yay 57 (.tmp 52) (.tmp 51) rfl gb 1 rfl _ rfl #[.slice (some ⟨g',0,none⟩) (j + 1) cap'] rfl (yaS hbb (by simp)) (by kernel_rfl) (by simp [ja2])) true (by kernel_rfl) (fun e=>by cases e) ?_;(try simp only [jp,jb,jz,js]);refine ygB (by kernel_rfl) ?_ _;have hfold:exE z.list z.bytes.size 32 Ej = exsF 32 E3 (zs.take (j + 1)):=by rw [HT1.out,ym8,HEJ.out]
   have htm:ts ++ [z.bytes] = (zs.take (j + 1)).map Itm.bytes:=by rw [HT1.out,List.map_append,HTS.out];rfl
   rw [hfold,htm] at hK3;have HK3:=jh hK3;have HGU3:=jh hgu3;clear hrun hown' hgrow hob hiff hK1 hbt hbt3 hbb hga hgu hK3 hgu3 hfold htm;generalize u2.setCell ⟨gb,1,none⟩ (.slice (some ⟨g',0,none⟩) (j + 1) cap') = u3 at *;go_wp2_with fail
   go_roundw
   case rel=>exact ⟨j + 1,_,by go_num,by omega,HK3.out,HGU3.out⟩
   case measure=>simp [intOf];omega
theorem SubV.tailC {S:Nat -> Prop} {W:World} {x:Itm} {xs:List Itm} {b off c:Nat} (h:SubV S W (x :: xs) (.slice (some ⟨b,off,none⟩) (xs.length + 1) c)):SubV S W xs (.slice (some ⟨b,off + 3,none⟩) xs.length (c - 1)):=by
 have hc:=h.cap;obtain ⟨_,vs,hx,hr⟩:=h.row;refine .mk xs _ (c - 1) vs.tail (fun h0=>?_) (fun i hi=>?_) (by omega)
 ·obtain ⟨b',off',hA,hb,hcell⟩:=hr (by simp);cases hA;refine ⟨b,off + 3,rfl,hb,fun i hi=>?_⟩;have:=hcell (i + 1) (by simp;omega);rw [show off + (i + 1) * 3 = off + 3 + i * 3 by omega] at this;have e:vs.getD (i + 1) undef = vs.tail.getD i undef:=by cases vs <;> rfl
  rw [e] at this;exact this
 ·have:=hx (i + 1) (by simp;omega);have e:vs.getD (i + 1) undef = vs.tail.getD i undef:=by cases vs <;> rfl
  rw [e] at this;exact this
theorem yl4 {S:Nat -> Prop} {w w':World} {l:List Itm} {v:Value} {p:Nat} (h:SubV S w l v) (hg:w.grownBy w' (some p)) (hp:¬ S p):SubV S w' l v :=
 h.keep fun q hq u hu=>hg.cell hu fun e=>by have:=ji e;exact hp (this ▸ hq)
def ymW (S:Nat -> Prop) (p:Nat) (y:Itm) (ys:List Itm) (w:World) (e:Ending) (w':World):Prop :=
 ∃ sA sc A' c',e = .returned (.agg #[.bool y.list,.string y.bytes,.slice sA y.items.length sc]) /\ SubV S w' y.items (.slice sA y.items.length sc) /\ Boxed w' p 104 (.slice A' ys.length c') /\ SubV S w' ys (.slice A' ys.length c') /\ w.grownBy w' (some p)
theorem ymb (S:Nat -> Prop) (p:Nat) (y:Itm) (ys:List Itm) (A:Option Addr) (c:Nat) (w:World) (hp:Boxed w p 104 (.slice A (ys.length + 1) c)) (hs:SubV S w (y :: ys) (.slice A (ys.length + 1) c)) (hSp:¬ S p) (hSg:¬ S w.heap.size) :
  Calls jq 88 #[.pointer (some ⟨p,0,none⟩)] w (ymW S p y ys w):=by
 obtain ⟨b,off,sA,sc,rfl,hSb,i0,i1,i2,hsub⟩:=hs.item (k:=0) (by simp);simp only [Nat.zero_mul,Nat.add_zero,List.getD_cons_zero] at i0 i1 i2 hsub;have hst:=hs.tailC;have hcap:ys.length + 1 <= c:=hs.cap;have hlt:=hp.lt;unfold ymW;obtain ⟨m,hm⟩:∃ m,ys.length = m:=⟨_,rfl⟩;obtain ⟨ny,hny⟩:∃ m,y.items.length = m:=⟨_,rfl⟩
 have hst2:SubV S w ys (.slice (if c = 1 then some ⟨b,off,none⟩ else some ⟨b,off + 3,none⟩) ys.length (c - 1)):=by
  by_cases h1:c = 1
  ·have h0:ys = []:=List.length_eq_zero_iff.1 (by omega);subst h0;exact .mk [] _ _ [] (fun h=>by cases h) (fun i h=>by cases h)
  ·rw [if_neg h1];exact hst
 clear hst;obtain ⟨A',hA'⟩:∃ A',(if c = 1 then some ⟨b,off,none⟩ else some ⟨b,off + 3,none⟩:Option Addr) = A':=⟨_,rfl⟩;rw [hA'] at hst2;rw [hm] at hp hst2 hcap ⊢;rw [hny] at i2 hsub ⊢;have hg0:=yaa (jr w none) (.cells #[.bool false,.string ⟨#[]⟩,.slice none 0 0] 106);have hx1:=Blk.new w 106 #[.bool false,.string ⟨#[]⟩,.slice none 0 0];have hp1:=hp.alloc (.cells #[.bool false,.string ⟨#[]⟩,.slice none 0 0] 106);have HSUB:=jh (hsub.grown hg0);have HST:=jh (hst2.grown hg0);have HG0:=jh (yb4 hg0 (some p));have HLT:=jh hlt;replace i0:=hg0.cell i0 (by simp);replace i1:=hg0.cell i1 (by simp);replace i2:=hg0.cell i2 (by simp);have q0:(0:Int) < ((m + 1:Nat):Int):=by omega
 have HA':=jh hA';clear hA' hsub hst2 hs hg0 hm hny hp hlt hSb;go_enter Tryz.func88,Tryz.ntmps88
 go_upto_region 1 with (fail)
 obtain ⟨g,hg⟩:∃ g,w.heap.size = g:=⟨_,rfl⟩;have HW:=jh hg;have hz:(w.alloc (.cells #[.bool false,.string ⟨#[]⟩,.slice none 0 0] 106)).heap.size = g + 1:=by simp [hg]
 rw [hg] at hx1 hSg ⊢;clear hg;generalize w.alloc (.cells #[.bool false,.string ⟨#[]⟩,.slice none 0 0] 106) = W1 at *;have c0:=hp1.cell;have hga:=yaa (jr W1 none) (.cells #[.bool y.list,.string y.bytes,.slice sA ny sc] 106);have hx2:=Blk.new W1 106 #[.bool y.list,.string y.bytes,.slice sA ny sc];have hp2:=hp1.alloc (.cells #[.bool y.list,.string y.bytes,.slice sA ny sc] 106);rw [hz] at hx2;have HX1:=jh (hx1.grown hga (by simp));have HSUB:=jh (HSUB.out.grown hga);have HST:=jh (HST.out.grown hga);have HG1:=jh (yab HG0.out hga (by simp));go_upto_region 2 with (fail)
 (try rw [hz]);clear hga hz hx1 hp1 i0 i1 i2 c0;generalize W1.alloc (.cells #[.bool y.list,.string y.bytes,.slice sA ny sc] 106) = W2 at *;have c0:=hp2.cell;have f0:=hp2.frozen;have HX2:=jh hx2;have HP2:=jh hp2;clear hx2 hp2;go_upto_region 3 with (fail)
 rw [HA'.out];have hwg:w.heap.size <= g:=by have:=HW.out;omega
 have hpg:p ≠ g /\ p ≠ g + 1:=by have:=HLT.out;have:=HW.out;omega
 have HP3:Hid (Boxed (W2.setCell ⟨p,0,none⟩ (.slice A' m (c - 1))) p 104 (.slice A' m (c - 1))):=jh (HP2.out.set _);have HG3:=jh (ybg HG1.out 0 (.slice A' m (c - 1)));have HX13:=jh (yaF HX1.out (fun e=>hpg.1 e.symm) 0 (.slice A' m (c - 1)));have HX23:=jh (yaF HX2.out (fun e=>hpg.2 e.symm) 0 (.slice A' m (c - 1)));have hsk:∀ l v,SubV S W2 l v -> SubV S (W2.setCell ⟨p,0,none⟩ (.slice A' m (c - 1))) l v:=fun l v h=>yl4 h (ybg (jr W2 _) 0 _) hSp;have HSUB3:=jh (hsk _ _ HSUB.out);have HST3:=jh (hsk _ _ HST.out);clear c0 f0 hsk HA' HSUB HST HX1 HX2 HP2 HG1 HG0 hcap q0;generalize W2.setCell ⟨p,0,none⟩ (.slice A' m (c - 1)) = W3 at *;have x0:=HX23.out.cell 0;have x1:=HX23.out.cell 1;have x2:=HX23.out.cell 2;have y0:=HX13.out.cell 0;have y1:=HX13.out.cell 1;have y2:=HX13.out.cell 2;have d0:=HX13.out.frozen 0;have d1:=HX13.out.frozen 1;have d2:=HX13.out.frozen 2;simp only [jta,jcz,jcs] at x0 x1 x2 y0 y1 y2;have hgS:∀ l v,SubV S W3 l v -> SubV (fun q=>S q /\ q < W3.heap.size) W3 l v:=fun l v h=>h.lt;have HR4:=jh (((HX13.out.set_ 0 (.bool y.list)).set_ 1 (.string y.bytes)).set_ 2 (.slice sA ny sc));have HG4:=jh (yap (yap (yap HG3.out (p:=⟨g,0,none⟩) hwg (.bool y.list)) (p:=⟨g,1,none⟩) hwg (.string y.bytes)) (p:=⟨g,2,none⟩) hwg (.slice sA ny sc));have HP4:Hid (Boxed (((W3.setCell ⟨g,0,none⟩ (.bool y.list)).setCell ⟨g,1,none⟩ (.string y.bytes)).setCell ⟨g,2,none⟩ (.slice sA ny sc)) p 104 (.slice A' m (c - 1))):=jh (yaF (yaF (yaF (show Blk W3 p 104 #[.slice A' m (c - 1)] from HP3.out) hpg.1 0 _) hpg.1 1 _) hpg.1 2 _);have HSUB4:=jh (ydq (g:=g) HSUB3.out hSg (.bool y.list) (.string y.bytes) (.slice sA ny sc));have HST4:=jh (ydq (g:=g) HST3.out hSg (.bool y.list) (.string y.bytes) (.slice sA ny sc));clear hwg hpg hgS HSUB3 HST3 HP3 HG3;go_wp2_with fail
 refine jbr (yaw (fn:=Tryz.f88) rfl _ _ _ _ rfl (yaX HR4.out)) rfl ?_;exact ⟨sA,sc,A',c - 1,rfl,HSUB4.out,HP4.out,HST4.out,HG4.out⟩
structure Gr2 (w u:World) (r g:Nat):Prop where
 os:u.os = w.os
 tape:u.tape = w.tape
 output:u.output = w.output
 size:w.heap.size <= u.heap.size
 block:∀ k,k < w.heap.size -> k ≠ r -> k ≠ g -> u.heap[k]? = w.heap[k]?
theorem Gr2.refl (w:World) (r g:Nat):Gr2 w w r g:=⟨rfl,rfl,rfl,jle _,fun _ _ _ _=>rfl⟩
theorem Gr2.grown {w u u':World} {r g:Nat} (h:Gr2 w u r g) {row:Option Nat} (hg:u.grownBy u' row) (hr:∀ k,row = some k -> k = r \/ k = g \/ w.heap.size <= k):Gr2 w u' r g :=
 ⟨hg.os.trans h.os,hg.tape.trans h.tape,hg.output.trans h.output,jlt h.size hg.size,fun k hk h1 h2=>(hg.block k (jc4 hk h.size) (fun e=>by rcases hr k e.symm with h3 | h3 | h3;exact h1 h3;exact h2 h3;omega)).trans (h.block k hk h1 h2)⟩
theorem Gr2.setRow {w u:World} {r g:Nat} (h:Gr2 w u r g) (C:Array Value):Gr2 w (u.setRow g C) r g :=
 ⟨h.os,h.tape,h.output,by simpa using h.size,fun k hk h1 h2=>(jso u g k C h2).trans (h.block k hk h1 h2)⟩
def yaQ (z:Itm):List Value:=[.int .u64 (yaE z.list z.bytes 0:Nat),.int .u64 (yaE z.list z.bytes 1:Nat),.int .u64 (yaE z.list z.bytes 2:Nat),.int .u64 (yaE z.list z.bytes 3:Nat)]
def ydP (o:Nat):List Nat -> List Itm -> Array Value -> Array Value
 | f :: fs,z :: zs,C=>ydP o fs zs (putA (o + f) (yaQ z) C)
 | _,_,C=>C
def yh1:List Itm -> Int -> Int
 | [],E=>E
 | z :: zs,E=>yh1 zs (kE E (ycQ z.list z.bytes))
def dtE (d:Itm):Int:=if d.list then 2 else ych d.bytes.size 0 4096
def dtV (d:Itm):ByteArray:=if d.list = false /\ ych d.bytes.size 0 4096 = 0 then d.bytes else ⟨#[]⟩
theorem ybj:∀ (vs:List Value) (o:Nat) (c:Array Value) (j:Nat),j < o \/ o + vs.length <= j -> (putA o vs c)[j]? = c[j]?
 | [],_,_,_,_=>rfl
 | v :: r,o,c,j,h=>by
  simp only [jlc] at h;rw [putA,ybj r (o + 1) _ j (by omega),Array.getElem?_setIfInBounds_ne (by omega)]
structure RsA (w:World) (s:ByteArray) (r gl o:Nat) (K:Int) (a:Nat) (E:Int) (C:Array Value) (p b:Nat) (zs:List Itm) (u:World):Prop where
 rd:Blk u r 67 (rdC s a E)
 row:Blk u gl 42 C
 sl:∃ A c,Boxed u p 104 (.slice A zs.length c) /\ SubV (fun g=>w.heap.size <= g /\ g ≠ p /\ g < b) u zs (.slice A zs.length c)
 gr:Gr2 w u r gl
 op:w.heap.size <= p
 pb:p < b
 bd:b <= u.heap.size
 rl:r < w.heap.size
 ll:gl < w.heap.size
 ne:r ≠ gl
 fit:o + 36 <= C.size
 kd:C[o]? = some (.int .i64 K)
theorem RsA.kept {w u u':World} {s:ByteArray} {r gl o a p b:Nat} {K E:Int} {C:Array Value} {zs:List Itm} (h:RsA w s r gl o K a E C p b zs u) (hg:u.grownBy u' none):RsA w s r gl o K a E C p b zs u':=by
 obtain ⟨A,c,hp,hs⟩:=h.sl;exact ⟨h.rd.grown hg (by simp),h.row.grown hg (by simp),⟨A,c,hp.kept hg (by simp),hs.grown hg⟩,h.gr.grown hg (fun k e=>by cases e),h.op,h.pb,jlt h.bd hg.size,h.rl,h.ll,h.ne,h.fit,h.kd⟩
theorem RsA.read {w u u':World} {s:ByteArray} {r gl o a p b a':Nat} {K E E':Int} {C:Array Value} {zs:List Itm} (h:RsA w s r gl o K a E C p b zs u) (hg:u.grownBy u' (some r)) (hr:Blk u' r 67 (rdC s a' E')):RsA w s r gl o K a' E' C p b zs u':=by
 obtain ⟨A,c,hp,hs⟩:=h.sl;have h1:=h.rl;have h2:=h.op;have h3:=h.ne;refine ⟨hr,h.row.grown hg (fun e=>h3 (ji e).symm),⟨A,c,hp.kept hg (fun e=>by have:=ji e;omega),hs.keep fun q hq v hv=>hg.cell hv fun e=>by have:=ji e;have:=hq.1;omega⟩,h.gr.grown hg (fun k e=>.inl (ji e).symm),h.op,h.pb,jlt h.bd hg.size,h.rl,h.ll,h.ne,h.fit,h.kd⟩
theorem RsA.put {w u:World} {s:ByteArray} {r gl o a p b:Nat} {K E:Int} {C C':Array Value} {zs:List Itm} (h:RsA w s r gl o K a E C p b zs u) (hz:C'.size = C.size) (hk:C'[o]? = C[o]?):RsA w s r gl o K a E C' p b zs (u.setRow gl C'):=by
 obtain ⟨A,c,hp,hs⟩:=h.sl;have h1:=h.ll;have h2:=h.op;have h3:=h.ne
 have hcell:∀ (q:Addr) v,q.block ≠ gl -> u.cell? q = some v -> (u.setRow gl C').cell? q = some v:=fun q v hq hv=>by
  rw [World.cell?_of_block (w:=u) (jso u gl q.block C' hq)];exact hv
 refine ⟨(jso u gl r C' h3).trans h.rd,yaI h.row,⟨A,c,(jso u gl p C' (by omega)).trans hp,hs.keep fun q hq v hv=>hcell q v (by have:=hq.1;omega) hv⟩,h.gr.setRow C',h.op,h.pb,by simpa using h.bd,h.rl,h.ll,h.ne,by rw [hz];exact h.fit,hk.trans h.kd⟩
theorem RsA.far {w u:World} {s:ByteArray} {r gl o a p b g:Nat} {K E:Int} {C D:Array Value} {zs:List Itm} (h:RsA w s r gl o K a E C p b zs u) (hg:b <= g):RsA w s r gl o K a E C p b zs (u.setRow g D):=by
 obtain ⟨A,c,hp,hs⟩:=h.sl;have h1:=h.ll;have h2:=h.op;have h3:=h.pb;have h4:=h.rl
 have hcell:∀ (q:Addr) v,q.block ≠ g -> u.cell? q = some v -> (u.setRow g D).cell? q = some v:=fun q v hq hv=>by
  rw [World.cell?_of_block (w:=u) (jso u g q.block D hq)];exact hv
 refine ⟨(jso u g r D (by omega)).trans h.rd,(jso u g gl D (by omega)).trans h.row,⟨A,c,(jso u g p D (by omega)).trans hp,hs.keep fun q hq v hv=>hcell q v (by have:=hq.2.2;omega) hv⟩,?_,h.op,h.pb,by simpa using h.bd,h.rl,h.ll,h.ne,h.fit,h.kd⟩;exact ⟨h.gr.os,h.gr.tape,h.gr.output,by simpa using h.gr.size,fun k hk e1 e2=>(jso u g k D (by omega)).trans (h.gr.block k hk e1 e2)⟩
theorem RsA.next {w u:World} {s:ByteArray} {r gl o a p b:Nat} {K E:Int} {C:Array Value} {z:Itm} {zs:List Itm} (h:RsA w s r gl o K a E C p b (z :: zs) u) :
  Calls jq 88 #[.pointer (some ⟨p,0,none⟩)] u fun e u'=>∃ sA sc,e = .returned (.agg #[.bool z.list,.string z.bytes,.slice sA z.items.length sc]) /\ SubV (fun g=>w.heap.size <= g /\ g ≠ p /\ g < b) u' z.items (.slice sA z.items.length sc) /\ RsA w s r gl o K a E C p b zs u' /\ u.grownBy u' (some p):=by
 obtain ⟨A,c,hp,hs⟩:=h.sl;have h1:=h.ll;have h2:=h.op;have h3:=h.ne;have h4:=h.rl;have h5:=h.bd;refine (ymb (fun g=>w.heap.size <= g /\ g ≠ p /\ g < b) p z zs A c u hp hs (fun hh=>hh.2.1 rfl) (fun hh=>by have:=hh.2.2;omega)).mono ?_;rintro e u' ⟨sA,sc,A',c',rfl,hsub,hp',hs',hg⟩;refine ⟨sA,sc,rfl,hsub,⟨h.rd.grown hg (fun e=>by have:=ji e;omega),h.row.grown hg (fun e=>by have:=ji e;omega),⟨A',c',hp',hs'⟩,h.gr.grown hg (fun k e=>.inr (.inr (by have:=ji e;omega))),h.op,h.pb,jlt h.bd hg.size,h.rl,h.ll,h.ne,h.fit,h.kd⟩,hg⟩
def gotN (kd:Nat):Nat:=if kd = 2 then 3 else 2
def gotO (kd:Nat):List Nat:=if kd = 2 then [13,3,7] else [13,7]
def ydX (kd:Nat) (zs:List Itm):Int:=kE (yh1 (zs.take (gotN kd)) 0) (dtE (zs.getD (gotN kd) Itm.none_))
def gotA (kd:Nat) (zs:List Itm):List AccV × Int:=if kd = 0 then ([],ydX kd zs) else accX (zs.getD (gotN kd + 1) Itm.none_) (ydX kd zs)
def gotC (kd o:Nat) (zs:List Itm) (C:Array Value) (sl:Value):Array Value :=
 if kd = 0 then putA (o + 17) [.string (dtV (zs.getD (gotN kd) Itm.none_))] (ydP o (gotO kd) (zs.take (gotN kd)) (putA o [.int .i64 (kd:Int)] C))
 else putA (o + 18) [sl] (putA (o + 17) [.string (dtV (zs.getD (gotN kd) Itm.none_))] (ydP o (gotO kd) (zs.take (gotN kd)) (putA o [.int .i64 (kd:Int)] C)))
def ycy (s:ByteArray) (a:Nat) (E:Int):Except Int (List Itm × Nat) :=
 if kdE s a E ≠ 0 then .error (kdE s a E) else match itR s.data.toList (kdA s a) with
  | .error e=>.error e
  | .ok (y,T)=>if rwF (3 + (kdV s a E:Nat)) (3 + (kdV s a E:Nat)) y 0 ≠ 0 then .error (rwF (3 + (kdV s a E:Nat)) (3 + (kdV s a E:Nat)) y 0) else
   if (gotA (kdV s a E) y.items).2 ≠ 0 then .error (gotA (kdV s a E) y.items).2 else .ok (y.items,T)
end Go.Proofs.YtgclnikdkfpflaaGreatDoor
