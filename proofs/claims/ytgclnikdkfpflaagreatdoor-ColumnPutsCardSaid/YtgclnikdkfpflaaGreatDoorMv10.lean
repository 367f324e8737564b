/- Merged: CgI, CgJ0, CgJ1, CgJ2, CpG0, Sp0, SpE, SpF, SpG, CoM, CoN. -/
import Derived.Test.YtgclnikdkfpflaaGreatDoorMv1
import Derived.Test.YtgclnikdkfpflaaGreatDoorMv3
import Derived.Test.YtgclnikdkfpflaaGreatDoorMv5
import Derived.Test.YtgclnikdkfpflaaGreatDoorMv6
import Derived.Test.YtgclnikdkfpflaaGreatDoorMv7
import Derived.Test.YtgclnikdkfpflaaGreatDoorMv9
import Derived.Deep.DeepCutAuto
import Derived.Great.BuildSlice
namespace Go.Proofs.YtgclnikdkfpflaaGreatDoor
open Go.RowKit Go.Shelf
open List renaming set_cons_zero → jz, set_cons_succ → js, setIfInBounds_toArray → jb
set_option linter.unusedVariables false
set_option linter.unusedSimpArgs false
set_option maxRecDepth 100000
set_option maxHeartbeats 16000000
open Lib renaming hid → jh
open Act renaming put → jp
open World.grownBy renaming refl → jr
open _root_.List renaming getD_eq_getElem?_getD → jg, getElem?_eq_getElem → je, getElem?_cons_zero → jcz, getElem?_cons_succ → jcs, getElem?_toArray → jta, length_append → jla, getElem?_append_right → jar, getElem?_append_left → jal, take_of_length_le → jtl, drop_eq_getElem_cons → jdc, length_cons → jlc, replicate → jc1, getElem?_take_of_lt → jc3, getElem?_eq_some_iff → jc9, length_take → jd4
open _root_.Option.some renaming inj → ji
open _root_.Array renaming getElem?_eq_some_iff → jes, getElem?_eq_getElem → jb4, getD_eq_getD_getElem? → jc0, getElem?_setIfInBounds_self_of_lt → jd7, replicate → je4
open IntWalk renaming i64_in → jii
open _root_.Nat renaming le_trans → jlt, le_refl → jle, lt_of_lt_of_le → jc4, zero_add → jd6
open _root_.Go.Proofs.Tryz renaming prog → jq, underlying42 → ja3, underlying3 → jb8, underlying38 → jd8
open Go renaming wp_region_list → jwl, wpList_nil → jwn, wpAnyH_done → jwd, wp_region_held → jwh, setRow_other → jso
open _root_.Go.Proofs renaming enters_of → jeo
open _root_.Option renaming some → ja1
open Value renaming oneCell' → ja2
open Below renaming refl → jc5
open World renaming block_lt_of_cell? → jd0, cell?_setCell_far → jd1, setCell → jd5
def OutI (s:ByteArray) (a:Nat) (E:Int) (y:Itm) (a2:Nat) (E2:Int):Prop :=
 (∃ T,E = 0 /\ itR s.data.toList a = .ok (y,T) /\ E2 = 0 /\ a2 = T) \/ (E2 ≠ 0 /\ (E ≠ 0 -> E2 = E) /\ (E = 0 -> itR s.data.toList a = .error E2))
theorem ItEnd.uni {s:ByteArray} {a r:Nat} {E:Int} {w w':World} {e:Ending} (h:ItEnd s a E r w e w') :
  ∃ y sA sc a2 E2,e = .returned (.agg #[.bool y.list,.string y.bytes,.slice sA y.items.length sc]) /\ w.grownBy w' (some r) /\ Blk w' r 67 (rdC s a2 E2) /\ a2 <= s.size /\ SubV (fun g=>w.heap.size <= g) w' y.items (.slice sA y.items.length sc) /\ OutI s a E y a2 E2:=by
 obtain ⟨lst,b,sA,sn,sc,a',E',rfl,hg,hb,ha,hh⟩:=h;rcases hh with ⟨y,T,h0,hit,hE,hT,hl,hbb,hs⟩ | ⟨h1,h2,h3,hl,hbb,hs⟩
 ·have hn:=hs.row.1;subst hl;subst hbb;subst hn;exact ⟨y,sA,sc,a',E',rfl,hg,hb,ha,hs,.inl ⟨T,h0,hit,hE,hT⟩⟩
 ·cases hs;subst hl;subst hbb;exact ⟨Itm.mk false ⟨#[]⟩ [],none,0,a',E',rfl,hg,hb,ha,ygm _ _,.inr ⟨h1,h2,h3⟩⟩
theorem ydZ {P:Program} {a:Act} {o:Oper} {W:World} (f:FuncId) (y:Operand) (ts:Array TypeId) (c:Value) (ho:o.op = .call { callee:=.value y,args:=#[],argTypes:=ts }) (hy:a.eval y = .func (.func f) #[] #[c]) (hf:(callFunc f #[c]).run P W = .ok (.enter f #[c]) W):(execOp a.eval o).run P W = .ok (.enter f #[c]) W:=by
 unfold execOp;generalize a.eval = ev at *;simp only [ho];simp [resolve,invoke,go_sem,hy,hf]
theorem yaL {u:World} {g:Nat} {C:Array Value} {t:TypeId} (h:Blk u g t C) (o:Nat) (vs:List Value):u.setCells g o vs = u.setRow g (putA o vs C):=by
 have h1:=setRow_self u g C t (0,0) h;have h2:=ycF h vs o C;rw [h1] at h2;exact h2
theorem ycM {P:Program} {a:Act} {o:Oper} {W:World} (f:FuncId) (x y z q:Operand) (ts:Array TypeId) (ho:o.op = .call { callee:=.value (.func f),args:=#[x,y,z,q],argTypes:=ts }) (v u t k:Value) (hx:a.eval x = v) (hy:a.eval y = u) (hz:a.eval z = t) (hq:a.eval q = k)
  (hf:(callFunc f #[v,u,t,k]).run P W = .ok (.enter f #[v,u,t,k]) W):(execOp a.eval o).run P W = .ok (.enter f #[v,u,t,k]) W:=by
 have he:a.eval (.func f) = .func (.func f) #[] #[]:=rfl;unfold execOp;generalize a.eval = ev at *;simp only [ho];simp [resolve,invoke,go_sem,hx,hy,hz,hq,he,hf]
theorem yl7 {u:World} {g o:Nat} {C:Array Value} {t:TypeId} (h:Blk u g t C) (v:Value):u.setCell ⟨g,o,none⟩ v = u.setRow g (putA o [v] C):=by
 have h1:=setRow_self u g C t (0,0) h;have h2:=ydQ h C o v;rw [h1] at h2;exact h2
def yfQ (s:ByteArray) (a:Nat) (E:Int) (r gl o:Nat) (C:Array Value) (w:World) (e:Ending) (w':World):Prop :=
 ∃ a' E' C',e = .returned (.tuple #[]) /\ Blk w' r 67 (rdC s a' E') /\ a' <= s.size /\ Blk w' gl 42 C' /\ C'.size = C.size /\ (∀ j,j < o \/ o + 36 <= j -> C'[j]? = C[j]?) /\ C'[o]? = some (.int .i64 (kdV s a E:Nat)) /\ Gr2 w w' r gl /\
  ((E' ≠ 0 /\ ycy s a E = .error E') \/
   (∃ zs T A c vs,E' = 0 /\ ycy s a E = .ok (zs,T) /\ a' = T /\ C' = gotC (kdV s a E) o zs C (.slice A (gotA (kdV s a E) zs).1.length c) /\ (kdV s a E ≠ 0 -> AccSt w.heap.size (.slice A (gotA (kdV s a E) zs).1.length c) (gotA (kdV s a E) zs).1.length (gotA (kdV s a E) zs).1 vs w')))
def OutA (s:ByteArray) (a:Nat) (E:Int) (a3:Nat) (E3:Int) (zs:List Itm):Prop :=
 (E3 ≠ 0 /\ ycy s a E = .error E3) \/ (E3 = 0 /\ kdE s a E = 0 /\ ∃ y,itR s.data.toList (kdA s a) = .ok (y,a3) /\ rwF (3 + (kdV s a E:Nat)) (3 + (kdV s a E:Nat)) y 0 = 0 /\ zs = y.items /\ zs.length = 3 + kdV s a E)
theorem yiM {s:ByteArray} {a a1 a2:Nat} {E E2:Int} {y:Itm} (h1:kdE s a E = 0 -> a1 = kdA s a) (h:OutI s a1 (kdE s a E) y a2 E2):OutA s a E a2 (rwF (3 + (kdV s a E:Nat)) (3 + (kdV s a E:Nat)) y E2) (rwL (3 + (kdV s a E:Nat)) (3 + (kdV s a E:Nat)) y E2):=by
 rcases h with ⟨T,h0,hit,rfl,rfl⟩ | ⟨h2,h3,h4⟩
 ·rw [h1 h0] at hit
  have hR:ycy s a E = if rwF (3 + (kdV s a E:Nat)) (3 + (kdV s a E:Nat)) y 0 ≠ 0 then .error (rwF (3 + (kdV s a E:Nat)) (3 + (kdV s a E:Nat)) y 0) else
   if (gotA (kdV s a E) y.items).2 ≠ 0 then .error (gotA (kdV s a E) y.items).2 else .ok (y.items,a2):=by
   unfold ycy;rw [if_neg (by rw [h0];simp),hit]
  by_cases hF:rwF (3 + (kdV s a E:Nat)) (3 + (kdV s a E:Nat)) y 0 = 0
  ·have hF':rwE y.list y.items.length (3 + (kdV s a E:Nat)) (3 + (kdV s a E:Nat)) 0 = 0:=hF;have hfit:=yde (ykq hF').2.2;have hL:rwL (3 + (kdV s a E:Nat)) (3 + (kdV s a E:Nat)) y 0 = y.items:=by unfold rwL;rw [if_pos hF']
   exact .inr ⟨hF,h0,y,hit,hF,hL,by rw [hL];omega⟩
  ·exact .inl ⟨hF,by rw [hR,if_pos hF]⟩
 ·have hF:rwF (3 + (kdV s a E:Nat)) (3 + (kdV s a E:Nat)) y E2 = E2:=by unfold rwF rwE;rw [if_neg h2]
  refine .inl ⟨by rw [hF];exact h2,?_⟩;rw [hF];by_cases h0:kdE s a E = 0
  ·have hit:=h4 h0;rw [h1 h0] at hit;unfold ycy;rw [if_neg (by rw [h0];simp),hit]
  ·unfold ycy;rw [if_pos h0,h3 h0]
theorem yjM (s:ByteArray) (a:Nat) (E:Int):kdV s a E = 0 \/ kdV s a E = 1 \/ kdV s a E = 2:=by
 unfold kdV;split
 ·exact .inl rfl
 split
 ·exact .inl rfl
 split
 ·exact .inl rfl
 split
 ·exact .inl rfl
 ·rename_i h;omega
theorem ylE (s:ByteArray) (a:Nat) (E:Int) (r gl o:Nat) (C:Array Value) (w:World) (h:Blk w r 67 (rdC s a E)) (hrow:Blk w gl 42 C) (hfit:o + 36 <= C.size) (hne:r ≠ gl) (hs:s.size <= 1000000000000) (ha:a <= s.size) (hzb:∀ y T,itR s.data.toList (kdA s a) = .ok (y,T) -> ∀ z ∈ y.items,z.bytes.size <= 9223372036854775807) :
  Calls jq 52 #[.pointer (some ⟨r,0,none⟩),.pointer (some ⟨gl,o,none⟩)] w (yfQ s a E r gl o C w):=by
 have HKD:=jh (ymh s a E r w h hs ha);have hrl:=h.lt;have hll:=hrow.lt;obtain ⟨kd,hkd⟩:∃ k,kdV s a E = k:=⟨_,rfl⟩;have hk2:=yjM s a E;rw [hkd] at HKD hk2;have HKV:=jh hkd;have HK2:=jh hk2;have HROW:=jh hrow;have HFIT:=jh hfit;have HNE:=jh hne;have HS:=jh hs;have HRL:=jh hrl;have HLL:=jh hll;have HZB0:=jh hzb;clear h hrow hfit hne hs ha hrl hll hkd hk2 hzb;go_enter Tryz.func52,Tryz.ntmps52
 go_wp2_with fail
 refine HKD.out.mono ?_;rintro e w2 ⟨rfl,⟨a1,ha1,hka,hb2⟩,hg2⟩;have hne:=HNE.out;have hrow2:Blk w2 gl 42 C:=HROW.out.grown hg2 (fun e=>hne (ji e).symm)
 have hcell:w2.cell? ⟨gl,o,none⟩ = some (C.getD o undef):=by
  rw [hrow2.cell,jc0,jb4 (by have:=HFIT.out;omega)];rfl
 have hfro:=hrow2.frozen o;have hset:=yl7 (o:=o) hrow2 (.int .i64 (kd:Int));have HG2:=jh ((Gr2.refl w r gl).grown hg2 (fun k e=>.inl (ji e).symm));obtain ⟨old,hold⟩:∃ v,C.getD o undef = v:=⟨_,rfl⟩;rw [hold] at hcell;have HB2:=jh hb2;have HROW2:=jh hrow2;have HA1:=jh ha1;have HKA:=jh hka;have HSET:=jh hset;clear hb2 hg2 ha1 hka hrow2 hold hset hne HKD;go_upto_region 1 with (fail)
 rw [HSET.out];clear hcell hfro;obtain ⟨C1,hC1⟩:∃ X,putA o [.int .i64 (kd:Int)] C = X:=⟨_,rfl⟩;have hz1:C1.size = C.size:=by rw [<- hC1];exact ycG _ _ _
 have hk1:C1[o]? = some (.int .i64 (kd:Int)):=by
  rw [<- hC1];show (C.setIfInBounds o _)[o]? = _;rw [jd7 (by have:=HFIT.out;omega)]
 rw [hC1];have HC1:=jh hC1;have HZ1:=jh hz1;have HK1:=jh hk1;have hb3:Blk (w2.setRow gl C1) r 67 (rdC s a1 (kdE s a E)):=(jso w2 gl r C1 HNE.out).trans HB2.out;have hrow3:Blk (w2.setRow gl C1) gl 42 C1:=yaI HROW2.out;have hg3:=HG2.out.setRow C1;clear hC1 hz1 hk1 HSET HB2 HROW2 HG2;generalize w2.setRow gl C1 = w3 at *
 have hwk:IntKind.i64.wrap (3 + (kd:Int)) = 3 + (kd:Int):=by
  have:=yaM (k:=3 + kd) (by have:=HK2.out;omega);simpa using this
 obtain ⟨KE,hKE⟩:∃ e,kdE s a E = e:=⟨_,rfl⟩;rw [hKE] at hb3;have HKE:=jh hKE;clear hKE;go_cut [4] (fun v wx=>∃ (p a3:Nat) (E3:Int) (zs:List Itm),v = .pointer (some ⟨p,0,none⟩) /\ RsA w s r gl o (kd:Int) a3 E3 C1 p wx.heap.size zs wx /\ a3 <= s.size /\ Hid (OutA s a E a3 E3 zs))
 case first =>
  have HB3:=jh hb3;have HROW3:=jh hrow3;have HG3:=jh hg3;refine jwh (S:=fun V=>Blk V gl 42 C1) (by kernel_rfl) ?_;change wpAnyH _ _ _ _ _ _ _ _ w3.drew;have hS:Blk w3.drew gl 42 C1:=hrow3;have hrd:Blk w3.drew r 67 (rdC s a1 KE):=hb3;have hgr:Gr2 w w3.drew r gl:=hg3.grown (ya2 (jr w3 none)) (fun k e=>by cases e);clear hb3 hrow3 hg3;have hz0:w.heap.size <= w3.drew.heap.size:=hgr.size;generalize w3.drew = u0 at *;refine zt 0 (.pointer (some ⟨r,0,none⟩)) (some 18) rfl (fun W hW=>by go_simp) hS ?_;simp only [jp,jb,jz,js];refine zt 1 (.pointer (some ⟨r,0,none⟩)) (some 19) rfl (fun W hW=>by go_simp) hS ?_;simp only [jp,jb,jz,js];refine zt 3 (.pointer (some ⟨gl,o,none⟩)) (some 21) rfl (fun W hW=>by go_simp) hS ?_;simp only [jp,jb,jz,js];refine zt 4 (.pointer (some ⟨gl,o,none⟩)) (some 22) rfl (fun W hW=>by go_simp) hS ?_;simp only [jp,jb,jz,js];refine zt 5 (.pointer (some ⟨gl,o,none⟩)) (some 23) rfl (fun W hW=>by go_simp) hS ?_;simp only [jp,jb,jz,js];refine zt 6 (.int .i64 (kd:Int)) (some 24) rfl (fun W hW=>yaf 3 (.tmp 23) rfl _ rfl _ _ jb8 rfl ((Blk.cell hW o).trans HK1.out)) hS ?_;simp only [jp,jb,jz,js];refine zt 7 (.int .i64 (3 + (kd:Int))) (some 25) rfl (fun W hW=>by go_simp) hS ?_;simp only [jp,jb,jz,js];refine zt 8 (.pointer (some ⟨gl,o,none⟩)) (some 26) rfl (fun W hW=>by go_simp) hS ?_;simp only [jp,jb,jz,js];refine zt 9 (.pointer (some ⟨gl,o,none⟩)) (some 27) rfl (fun W hW=>by go_simp) hS ?_;simp only [jp,jb,jz,js];refine zt 10 (.pointer (some ⟨gl,o,none⟩)) (some 28) rfl (fun W hW=>by go_simp) hS ?_;simp only [jp,jb,jz,js];refine zt 11 (.int .i64 (kd:Int)) (some 29) rfl (fun W hW=>yaf 3 (.tmp 28) rfl _ rfl _ _ jb8 rfl ((Blk.cell hW o).trans HK1.out)) hS ?_;simp only [jp,jb,jz,js];refine zt 12 (.int .i64 (3 + (kd:Int))) (some 30) rfl (fun W hW=>by go_simp) hS ?_;simp only [jp,jb,jz,js];refine yc5 (i:=2) (j:=14) (by kernel_rfl) ?_ ?_
  ·skip
   refine ybe (some 20) rfl rfl 87 #[.pointer (some ⟨r,0,none⟩)] (yak _ (.tmp 19) _ rfl _ rfl (jeo Tryz.func87 (by kernel_rfl) rfl _ _)) rfl ((yif s a1 KE r u0 hrd HS.out HA1.out).mono ?_);intro e u1 hend;obtain ⟨y,sA,sc,a2,E2,rfl,hg,hrd',ha2,hsub,hout⟩:=hend.uni;have hS:=hS.grown hg (fun e=>HNE.out (ji e).symm);have hgr:=hgr.grown hg (fun k e=>.inl (ji e).symm);have hz1:=hg.size;refine ⟨_,rfl,hS,?_⟩;simp only [jp,jb,jz,js];refine yc5 (i:=13) (j:=14) (by kernel_rfl) ?_ ?_
   ·skip
    obtain ⟨A1,c1,hv1,hs1⟩:=yd2 (3 + (kd:Int)) (3 + (kd:Int)) E2 hsub;have hcr:=ydE s a2 E2 r y.list y.bytes sA y.items.length sc (3 + (kd:Int)) (3 + (kd:Int)) u1 hrd';rw [hv1] at hcr;refine ybe (some 31) rfl rfl 86 #[.pointer (some ⟨r,0,none⟩),.agg #[.bool y.list,.string y.bytes,.slice sA y.items.length sc],.int .i64 (3 + (kd:Int)),.int .i64 (3 + (kd:Int))] (ycM _ (.tmp 18) (.tmp 20) (.tmp 25) (.tmp 30) _ rfl _ _ _ _ rfl rfl rfl rfl (jeo Tryz.func86 (by kernel_rfl) rfl _ _)) rfl (hcr.mono ?_);rintro e u2 ⟨rfl,hrd2,hg⟩;have hS:=hS.grown hg (fun e=>HNE.out (ji e).symm);have hgr:=hgr.grown hg (fun k e=>.inl (ji e).symm);replace hs1:=(hs1.lt.keep fun q hq v hv=>hg.cell hv fun e=>by have:=ji e;have:=hq.1;have:=HRL.out;have:=hgr.size;have h9:u0.heap.size <= q.block:=hq.1;have:=hz0;omega);have hz2:=hg.size;refine ⟨_,rfl,hS,?_⟩;simp only [jp,jb,jz,js];refine yam (i:=14) (by kernel_rfl) ?_;have hga3:=yaa (jr u2 none) (.cells #[.slice none 0 0] 104);have hpb:=Blk.new u2 104 #[.slice none 0 0];have hwp:w.heap.size <= u2.heap.size:=hgr.size;obtain ⟨p,hp⟩:∃ p,u2.heap.size = p:=⟨_,rfl⟩;have hS:=hS.grown hga3 (by simp);have hgr:=hgr.grown hga3 (fun k e=>by cases e);refine yal (some 4) rfl rfl (.pointer (some ⟨u2.heap.size,0,none⟩)) (w':=u2.alloc (.cells #[.slice none 0 0] 104)) (by go_simp <;> rfl) rfl hS ?_;simp only [jp,jb,jz,js];replace hs1:SubV (fun g=>w.heap.size <= g /\ g ≠ p) (u2.alloc (.cells #[.slice none 0 0] 104)) _ _:=(hs1.weak (fun g (hg:u0.heap.size <= g /\ g < u1.heap.size)=>(⟨jlt hz0 hg.1,by have:=hz2;omega⟩:w.heap.size <= g /\ g ≠ p))).grown hga3;replace hrd2:=hrd2.grown hga3 (by simp);rw [hp] at hpb hwp ⊢;generalize u2.alloc (.cells #[.slice none 0 0] 104) = u3 at *;refine yam (i:=15) (by kernel_rfl) ?_;obtain ⟨N,hN⟩:∃ n,(rwL (3 + (kd:Int)) (3 + (kd:Int)) y E2).length = n:=⟨_,rfl⟩;refine ycu rfl rfl rfl (w':=u3.setCell ⟨p,0,none⟩ (.slice A1 (rwL (3 + (kd:Int)) (3 + (kd:Int)) y E2).length c1)) (yay 104 (.tmp 4) (.tmp 31) rfl p 0 rfl _ rfl #[.slice A1 (rwL (3 + (kd:Int)) (3 + (kd:Int)) y E2).length c1] rfl (yaS hpb (by simp)) (by kernel_rfl) (by simp [ja2])) (yaF hS (by have:=HLL.out;omega) 0 _) ?_;(try simp only [jp,jb,jz,js]);refine jwd (by kernel_rfl) ?_ _
    have hfin:RsA w s r gl o (kd:Int) a2 (rwF (3 + (kd:Int)) (3 + (kd:Int)) y E2) C1 p (u3.setCell ⟨p,0,none⟩ (.slice A1 (rwL (3 + (kd:Int)) (3 + (kd:Int)) y E2).length c1)).heap.size (rwL (3 + (kd:Int)) (3 + (kd:Int)) y E2) (u3.setCell ⟨p,0,none⟩ (.slice A1 (rwL (3 + (kd:Int)) (3 + (kd:Int)) y E2).length c1)):=by
     refine ⟨yaF hrd2 (by have:=HRL.out;omega) 0 _,yaF hS (by have:=HLL.out;omega) 0 _,⟨A1,c1,show Blk _ p 104 #[.slice A1 (rwL (3 + (kd:Int)) (3 + (kd:Int)) y E2).length c1] from by simpa using Blk.set_ hpb 0 (.slice A1 (rwL (3 + (kd:Int)) (3 + (kd:Int)) y E2).length c1),(hs1.lt.keep fun q hq v hv=>?_).weak fun g hg=>⟨hg.1.1,hg.1.2,by simpa [jd5] using hg.2⟩⟩,?_,hwp,by have:=hpb.lt;simpa [jd5] using this,jle _,HRL.out,HLL.out,HNE.out,by rw [HZ1.out];exact HFIT.out,HK1.out⟩
     ·rw [jd1 _ _ _ _ (by exact fun e=>hq.1.2 e.symm)];exact hv
     ·exact hgr.grown (ybg (jr u3 (some p)) 0 _) (fun k e=>.inr (.inr (by have:=ji e;omega)))
    have HOUT:Hid (OutA s a E a2 (rwF (3 + (kd:Int)) (3 + (kd:Int)) y E2) (rwL (3 + (kd:Int)) (3 + (kd:Int)) y E2)):=jh (by
     have:=yiM (s:=s) (a:=a) (a1:=a1) (a2:=a2) (E:=E) (E2:=E2) (y:=y) HKA.out (by rw [HKE.out];exact hout);rw [HKV.out] at this;exact this)
    have HFIN:=jh hfin;go_wp2_with fail
    go_meet
    exact ⟨p,a2,_,_,rfl,HFIN.out,ha2,HOUT⟩
   ·skip
    have hga3:=yaa (jr u1 none) (.cells #[.slice none 0 0] 104);have hpb:=Blk.new u1 104 #[.slice none 0 0];have hwp:w.heap.size <= u1.heap.size:=hgr.size;obtain ⟨p,hp⟩:∃ p,u1.heap.size = p:=⟨_,rfl⟩;have hS:=hS.grown hga3 (by simp);have hgr:=hgr.grown hga3 (fun k e=>by cases e);refine yal (some 4) rfl rfl (.pointer (some ⟨u1.heap.size,0,none⟩)) (w':=u1.alloc (.cells #[.slice none 0 0] 104)) (by go_simp <;> rfl) rfl hS ?_;simp only [jp,jb,jz,js];replace hsub:SubV (fun g=>w.heap.size <= g /\ g ≠ p) (u1.alloc (.cells #[.slice none 0 0] 104)) y.items _:=(hsub.lt.weak (fun g (hg:u0.heap.size <= g /\ g < u1.heap.size)=>(⟨jlt hz0 hg.1,by omega⟩:w.heap.size <= g /\ g ≠ p))).grown hga3;replace hrd':=hrd'.grown hga3 (by simp);rw [hp] at hpb hwp ⊢;generalize u1.alloc (.cells #[.slice none 0 0] 104) = u2 at *;refine yam (i:=13) (by kernel_rfl) ?_;obtain ⟨A1,c1,hv1,hs1⟩:=yd2 (3 + (kd:Int)) (3 + (kd:Int)) E2 hsub;have hcr:=ydE s a2 E2 r y.list y.bytes sA y.items.length sc (3 + (kd:Int)) (3 + (kd:Int)) u2 hrd';rw [hv1] at hcr;refine ybe (some 31) rfl rfl 86 #[.pointer (some ⟨r,0,none⟩),.agg #[.bool y.list,.string y.bytes,.slice sA y.items.length sc],.int .i64 (3 + (kd:Int)),.int .i64 (3 + (kd:Int))] (ycM _ (.tmp 18) (.tmp 20) (.tmp 25) (.tmp 30) _ rfl _ _ _ _ rfl rfl rfl rfl (jeo Tryz.func86 (by kernel_rfl) rfl _ _)) rfl (hcr.mono ?_);rintro e u3 ⟨rfl,hrd2,hg⟩;have hS:=hS.grown hg (fun e=>HNE.out (ji e).symm);have hgr:=hgr.grown hg (fun k e=>.inl (ji e).symm);replace hs1:=hs1.keep fun q hq v hv=>hg.cell hv fun e=>by have:=ji e;have:=hq.1;have:=HRL.out;omega
    replace hpb:=hpb.grown hg (fun e=>by have:=ji e;have:=HRL.out;omega);refine ⟨_,rfl,hS,?_⟩;simp only [jp,jb,jz,js];refine yam (i:=15) (by kernel_rfl) ?_;obtain ⟨N,hN⟩:∃ n,(rwL (3 + (kd:Int)) (3 + (kd:Int)) y E2).length = n:=⟨_,rfl⟩;refine ycu rfl rfl rfl (w':=u3.setCell ⟨p,0,none⟩ (.slice A1 (rwL (3 + (kd:Int)) (3 + (kd:Int)) y E2).length c1)) (yay 104 (.tmp 4) (.tmp 31) rfl p 0 rfl _ rfl #[.slice A1 (rwL (3 + (kd:Int)) (3 + (kd:Int)) y E2).length c1] rfl (yaS hpb (by simp)) (by kernel_rfl) (by simp [ja2])) (yaF hS (by have:=HLL.out;omega) 0 _) ?_;(try simp only [jp,jb,jz,js]);refine jwd (by kernel_rfl) ?_ _
    have hfin:RsA w s r gl o (kd:Int) a2 (rwF (3 + (kd:Int)) (3 + (kd:Int)) y E2) C1 p (u3.setCell ⟨p,0,none⟩ (.slice A1 (rwL (3 + (kd:Int)) (3 + (kd:Int)) y E2).length c1)).heap.size (rwL (3 + (kd:Int)) (3 + (kd:Int)) y E2) (u3.setCell ⟨p,0,none⟩ (.slice A1 (rwL (3 + (kd:Int)) (3 + (kd:Int)) y E2).length c1)):=by
     refine ⟨yaF hrd2 (by have:=HRL.out;omega) 0 _,yaF hS (by have:=HLL.out;omega) 0 _,⟨A1,c1,show Blk _ p 104 #[.slice A1 (rwL (3 + (kd:Int)) (3 + (kd:Int)) y E2).length c1] from by simpa using Blk.set_ hpb 0 (.slice A1 (rwL (3 + (kd:Int)) (3 + (kd:Int)) y E2).length c1),(hs1.lt.keep fun q hq v hv=>?_).weak fun g hg=>⟨hg.1.1,hg.1.2,by simpa [jd5] using hg.2⟩⟩,?_,hwp,by have:=hpb.lt;simpa [jd5] using this,jle _,HRL.out,HLL.out,HNE.out,by rw [HZ1.out];exact HFIT.out,HK1.out⟩
     ·rw [jd1 _ _ _ _ (by exact fun e=>hq.1.2 e.symm)];exact hv
     ·exact hgr.grown (ybg (jr u3 (some p)) 0 _) (fun k e=>.inr (.inr (by have:=ji e;omega)))
    have HOUT:Hid (OutA s a E a2 (rwF (3 + (kd:Int)) (3 + (kd:Int)) y E2) (rwL (3 + (kd:Int)) (3 + (kd:Int)) y E2)):=jh (by
     have:=yiM (s:=s) (a:=a) (a1:=a1) (a2:=a2) (E:=E) (E2:=E2) (y:=y) HKA.out (by rw [HKE.out];exact hout);rw [HKV.out] at this;exact this)
    have HFIN:=jh hfin;go_wp2_with fail
    go_meet
    exact ⟨p,a2,_,_,rfl,HFIN.out,ha2,HOUT⟩
  ·skip
   have hga3:=yaa (jr u0 none) (.cells #[.slice none 0 0] 104);have hpb:=Blk.new u0 104 #[.slice none 0 0];have hwp:w.heap.size <= u0.heap.size:=hgr.size;obtain ⟨p,hp⟩:∃ p,u0.heap.size = p:=⟨_,rfl⟩;have hS:=hS.grown hga3 (by simp);have hrd:=hrd.grown hga3 (by simp);have hgr:=hgr.grown hga3 (fun k e=>by cases e);refine yal (some 4) rfl rfl (.pointer (some ⟨u0.heap.size,0,none⟩)) (w':=u0.alloc (.cells #[.slice none 0 0] 104)) (by go_simp <;> rfl) rfl hS ?_;simp only [jp,jb,jz,js];rw [hp] at hpb hwp ⊢;generalize u0.alloc (.cells #[.slice none 0 0] 104) = u1 at *;refine yam (i:=2) (by kernel_rfl) ?_;refine ybe (some 20) rfl rfl 87 #[.pointer (some ⟨r,0,none⟩)] (yak _ (.tmp 19) _ rfl _ rfl (jeo Tryz.func87 (by kernel_rfl) rfl _ _)) rfl ((yif s a1 KE r u1 hrd HS.out HA1.out).mono ?_);intro e u2 hend;obtain ⟨y,sA,sc,a2,E2,rfl,hg,hrd',ha2,hsub,hout⟩:=hend.uni;have hS:=hS.grown hg (fun e=>HNE.out (ji e).symm);have hgr:=hgr.grown hg (fun k e=>.inl (ji e).symm);replace hsub:SubV (fun g=>w.heap.size <= g /\ g ≠ p) u2 y.items _:=hsub.weak (fun g (hg:u1.heap.size <= g)=>(⟨by have:=hpb.lt;omega,by have:=hpb.lt;omega⟩:w.heap.size <= g /\ g ≠ p));replace hpb:=hpb.grown hg (fun e=>by have:=ji e;have:=HRL.out;omega);refine ⟨_,rfl,hS,?_⟩;simp only [jp,jb,jz,js];refine yam (i:=13) (by kernel_rfl) ?_;obtain ⟨A1,c1,hv1,hs1⟩:=yd2 (3 + (kd:Int)) (3 + (kd:Int)) E2 hsub;have hcr:=ydE s a2 E2 r y.list y.bytes sA y.items.length sc (3 + (kd:Int)) (3 + (kd:Int)) u2 hrd';rw [hv1] at hcr;refine ybe (some 31) rfl rfl 86 #[.pointer (some ⟨r,0,none⟩),.agg #[.bool y.list,.string y.bytes,.slice sA y.items.length sc],.int .i64 (3 + (kd:Int)),.int .i64 (3 + (kd:Int))] (ycM _ (.tmp 18) (.tmp 20) (.tmp 25) (.tmp 30) _ rfl _ _ _ _ rfl rfl rfl rfl (jeo Tryz.func86 (by kernel_rfl) rfl _ _)) rfl (hcr.mono ?_);rintro e u3 ⟨rfl,hrd2,hg⟩;have hS:=hS.grown hg (fun e=>HNE.out (ji e).symm);have hgr:=hgr.grown hg (fun k e=>.inl (ji e).symm);replace hs1:=hs1.keep fun q hq v hv=>hg.cell hv fun e=>by have:=ji e;have:=hq.1;have:=HRL.out;omega
   replace hpb:=hpb.grown hg (fun e=>by have:=ji e;have:=HRL.out;omega);refine ⟨_,rfl,hS,?_⟩;simp only [jp,jb,jz,js];refine yam (i:=15) (by kernel_rfl) ?_;obtain ⟨N,hN⟩:∃ n,(rwL (3 + (kd:Int)) (3 + (kd:Int)) y E2).length = n:=⟨_,rfl⟩;refine ycu rfl rfl rfl (w':=u3.setCell ⟨p,0,none⟩ (.slice A1 (rwL (3 + (kd:Int)) (3 + (kd:Int)) y E2).length c1)) (yay 104 (.tmp 4) (.tmp 31) rfl p 0 rfl _ rfl #[.slice A1 (rwL (3 + (kd:Int)) (3 + (kd:Int)) y E2).length c1] rfl (yaS hpb (by simp)) (by kernel_rfl) (by simp [ja2])) (yaF hS (by have:=HLL.out;omega) 0 _) ?_;(try simp only [jp,jb,jz,js]);refine jwd (by kernel_rfl) ?_ _
   have hfin:RsA w s r gl o (kd:Int) a2 (rwF (3 + (kd:Int)) (3 + (kd:Int)) y E2) C1 p (u3.setCell ⟨p,0,none⟩ (.slice A1 (rwL (3 + (kd:Int)) (3 + (kd:Int)) y E2).length c1)).heap.size (rwL (3 + (kd:Int)) (3 + (kd:Int)) y E2) (u3.setCell ⟨p,0,none⟩ (.slice A1 (rwL (3 + (kd:Int)) (3 + (kd:Int)) y E2).length c1)):=by
    refine ⟨yaF hrd2 (by have:=HRL.out;omega) 0 _,yaF hS (by have:=HLL.out;omega) 0 _,⟨A1,c1,show Blk _ p 104 #[.slice A1 (rwL (3 + (kd:Int)) (3 + (kd:Int)) y E2).length c1] from by simpa using Blk.set_ hpb 0 (.slice A1 (rwL (3 + (kd:Int)) (3 + (kd:Int)) y E2).length c1),(hs1.lt.keep fun q hq v hv=>?_).weak fun g hg=>⟨hg.1.1,hg.1.2,by simpa [jd5] using hg.2⟩⟩,?_,hwp,by have:=hpb.lt;simpa [jd5] using this,jle _,HRL.out,HLL.out,HNE.out,by rw [HZ1.out];exact HFIT.out,HK1.out⟩
    ·rw [jd1 _ _ _ _ (by exact fun e=>hq.1.2 e.symm)];exact hv
    ·exact hgr.grown (ybg (jr u3 (some p)) 0 _) (fun k e=>.inr (.inr (by have:=ji e;omega)))
   have HOUT:Hid (OutA s a E a2 (rwF (3 + (kd:Int)) (3 + (kd:Int)) y E2) (rwL (3 + (kd:Int)) (3 + (kd:Int)) y E2)):=jh (by
    have:=yiM (s:=s) (a:=a) (a1:=a1) (a2:=a2) (E:=E) (E2:=E2) (y:=y) HKA.out (by rw [HKE.out];exact hout);rw [HKV.out] at this;exact this)
   have HFIN:=jh hfin;go_wp2_with fail
   go_meet
   exact ⟨p,a2,_,_,rfl,HFIN.out,ha2,HOUT⟩
 case rest =>
  obtain ⟨p,a3,E3,zs,rfl,hA,ha3,hO⟩:=hcut;obtain ⟨bb,hbb⟩:∃ x,wc.heap.size = x:=⟨_,rfl⟩;rw [hbb] at hA;have HA3:=jh ha3;have hout1:∀ j,j < o \/ o + 36 <= j -> C1[j]? = C[j]?:=fun j hj=>by rw [<- HC1.out];exact ybj _ _ _ _ (by simp;omega)
  have HOUT1:=jh hout1;clear hb3 hrow3 hg3 hwk hbb ha3 hout1;have c2:=hA.rd.cell 2;simp only [rdC,jta,jcz,jcs] at c2;by_cases hE3:E3 = 0
  rotate_left
  ·have e1:(E3 != 0) = true:=by simpa using hE3
   have hRR:ycy s a E = .error E3:=by
    rcases hO.out with ⟨_,h⟩ | ⟨h,_⟩
    ·exact h
    ·exact absurd h hE3
   have HEND:Hid (yfQ s a E r gl o C w (.returned (.tuple #[])) wc):=jh ⟨a3,E3,C1,rfl,hA.rd,HA3.out,hA.row,HZ1.out,HOUT1.out,by rw [HKV.out];exact hA.kd,hA.gr,.inl ⟨hE3,hRR⟩⟩;clear hA hO hE3 hRR;go_wp2_with fail
   go_end0
   exact HEND.out
  subst hE3
  have hO2:kdE s a E = 0 /\ ∃ y,itR s.data.toList (kdA s a) = .ok (y,a3) /\ rwF (3 + (kdV s a E:Nat)) (3 + (kdV s a E:Nat)) y 0 = 0 /\ zs = y.items /\ zs.length = 3 + kdV s a E:=by
   rcases hO.out with ⟨h,_⟩ | ⟨_,h⟩
   ·exact absurd rfl h
   ·exact h
  obtain ⟨hk0,y,hit,hF,hzs,hlen⟩:=hO2
  have hRR:ycy s a E = if (gotA (kdV s a E) zs).2 ≠ 0 then .error (gotA (kdV s a E) zs).2 else .ok (zs,a3):=by
   unfold ycy;rw [if_neg (by rw [hk0];simp),hit];dsimp only;rw [if_neg (by rw [hF];simp),hzs]
  rw [HKV.out] at hRR hlen;have HRR:=jh hRR;have HZB:Hid (∀ z ∈ zs,z.bytes.size <= 9223372036854775807):=jh (by rw [hzs];exact HZB0.out y a3 hit);clear HZB0;clear hO hk0 hit hF hzs hRR;obtain ⟨n,hn⟩:∃ n,gotN kd = n:=⟨_,rfl⟩;obtain ⟨offs,hoffs⟩:∃ l,gotO kd = l:=⟨_,rfl⟩
  have hon:offs.length = n /\ (∀ F ∈ offs,F + 4 <= 36 /\ 0 < F) /\ n + 1 <= zs.length /\ (kd = 0 \/ n + 2 <= zs.length) /\ n <= 3:=by
   rw [<- hn,<- hoffs,hlen];rcases HK2.out with h | h | h <;> rw [h] <;> exact ⟨rfl,by decide,by decide,by decide,by decide⟩
  have HLEN:=jh hlen;have HN:=jh hn;have HF:=jh hoffs;have HON:=jh hon;clear hlen hn hoffs hon;go_upto_region 4 with (fail)
  refine jwh (S:=fun _=>True) (by kernel_rfl) ?_;change wpAnyH _ _ _ _ _ _ _ _ wc.drew;replace hA:=hA.kept (ya2 (jr wc none));generalize wc.drew = u0 at *;refine zt 0 (.pointer (some ⟨gl,o,none⟩)) (some 38) rfl (fun W hW=>by go_simp) trivial ?_;simp only [jp,jb,jz,js];refine zt 1 (.pointer (some ⟨gl,o,none⟩)) (some 39) rfl (fun W hW=>by go_simp) trivial ?_;simp only [jp,jb,jz,js];refine zt 2 (.pointer (some ⟨gl,o + 13,none⟩)) (some 40) rfl (fun W hW=>by go_simp) trivial ?_;simp only [jp,jb,jz,js];refine zt 3 (.pointer (some ⟨gl,o,none⟩)) (some 41) rfl (fun W hW=>by go_simp) trivial ?_;simp only [jp,jb,jz,js];refine zt 4 (.pointer (some ⟨gl,o,none⟩)) (some 42) rfl (fun W hW=>by go_simp) trivial ?_;simp only [jp,jb,jz,js];refine zt 5 (.pointer (some ⟨gl,o + 7,none⟩)) (some 43) rfl (fun W hW=>by go_simp) trivial ?_;simp only [jp,jb,jz,js];refine yam (i:=6) (by kernel_rfl) ?_;have hga:=yaa (jr u0 none) (.cells #[.pointer (some ⟨gl,o + 13,none⟩),.pointer (some ⟨gl,o + 7,none⟩)] 121);have hq:=Blk.new u0 121 #[.pointer (some ⟨gl,o + 13,none⟩),.pointer (some ⟨gl,o + 7,none⟩)];refine yal (some 44) rfl rfl (.slice (some ⟨u0.heap.size,0,none⟩) 2 2) (w':=u0.alloc (.cells #[.pointer (some ⟨gl,o + 13,none⟩),.pointer (some ⟨gl,o + 7,none⟩)] 121)) (by go_simp <;> rfl) rfl trivial ?_;simp only [jp,jb,jz,js];refine zt 7 (.slice (some ⟨u0.heap.size,0,none⟩) 2 2) (some 6) rfl (fun W hW=>by go_simp) trivial ?_;simp only [jp,jb,jz,js];refine jwd (by kernel_rfl) ?_ _;have hbq:=hA.bd;replace hA:=hA.kept hga;obtain ⟨gq1,hqe⟩:∃ q,u0.heap.size = q:=⟨_,rfl⟩;rw [hqe] at hq hbq ⊢;clear hqe hga;generalize u0.alloc (.cells #[.pointer (some ⟨gl,o + 13,none⟩),.pointer (some ⟨gl,o + 7,none⟩)] 121) = v1 at *;have c0k:v1.cell? ⟨gl,o,none⟩ = some (.int .i64 (kd:Int)):=(hA.row.cell o).trans hA.kd;(try clear c2);go_upto_if 49 with (fail)
  go_cut [6] (fun v wx=>∃ q,v = .slice (some ⟨q,0,none⟩) n n /\ RsA w s r gl o (kd:Int) a3 0 C1 p bb zs wx /\ bb <= q /\ Blk wx q 121 (offs.map fun c=>Value.pointer (some ⟨gl,o + c,none⟩)).toArray)
  case first =>
   by_cases h2:kd = 2
   ·have e1:n = 3:=by rw [<- HN.out,h2];rfl
    have e2:offs = [13,3,7]:=by rw [<- HF.out,h2];rfl
    have d2:(kd:Int) = 2:=by omega
    subst e1 e2;clear hq hbq;go_upto_region 6 with (fail)
    refine jwh (S:=fun _=>True) (by kernel_rfl) ?_;change wpAnyH _ _ _ _ _ _ _ _ v1.drew;replace hA:=hA.kept (ya2 (jr v1 none));generalize v1.drew = u0 at *;refine zt 0 (.pointer (some ⟨gl,o,none⟩)) (some 50) rfl (fun W hW=>by go_simp) trivial ?_;simp only [jp,jb,jz,js];refine zt 1 (.pointer (some ⟨gl,o,none⟩)) (some 51) rfl (fun W hW=>by go_simp) trivial ?_;simp only [jp,jb,jz,js];refine zt 2 (.pointer (some ⟨gl,o + 13,none⟩)) (some 52) rfl (fun W hW=>by go_simp) trivial ?_;simp only [jp,jb,jz,js];refine zt 3 (.pointer (some ⟨gl,o,none⟩)) (some 53) rfl (fun W hW=>by go_simp) trivial ?_;simp only [jp,jb,jz,js];refine zt 4 (.pointer (some ⟨gl,o,none⟩)) (some 54) rfl (fun W hW=>by go_simp) trivial ?_;simp only [jp,jb,jz,js];refine zt 5 (.pointer (some ⟨gl,o + 3,none⟩)) (some 55) rfl (fun W hW=>by go_simp) trivial ?_;simp only [jp,jb,jz,js];refine zt 6 (.pointer (some ⟨gl,o,none⟩)) (some 56) rfl (fun W hW=>by go_simp) trivial ?_;simp only [jp,jb,jz,js];refine zt 7 (.pointer (some ⟨gl,o,none⟩)) (some 57) rfl (fun W hW=>by go_simp) trivial ?_;simp only [jp,jb,jz,js];refine zt 8 (.pointer (some ⟨gl,o + 7,none⟩)) (some 58) rfl (fun W hW=>by go_simp) trivial ?_;simp only [jp,jb,jz,js];refine yam (i:=9) (by kernel_rfl) ?_;have hga:=yaa (jr u0 none) (.cells #[.pointer (some ⟨gl,o + 13,none⟩),.pointer (some ⟨gl,o + 3,none⟩),.pointer (some ⟨gl,o + 7,none⟩)] 121);have hq:=Blk.new u0 121 #[.pointer (some ⟨gl,o + 13,none⟩),.pointer (some ⟨gl,o + 3,none⟩),.pointer (some ⟨gl,o + 7,none⟩)];refine yal (some 59) rfl rfl (.slice (some ⟨u0.heap.size,0,none⟩) 3 3) (w':=u0.alloc (.cells #[.pointer (some ⟨gl,o + 13,none⟩),.pointer (some ⟨gl,o + 3,none⟩),.pointer (some ⟨gl,o + 7,none⟩)] 121)) (by go_simp <;> rfl) rfl trivial ?_;simp only [jp,jb,jz,js];refine zt 10 (.slice (some ⟨u0.heap.size,0,none⟩) 3 3) (some 6) rfl (fun W hW=>by go_simp) trivial ?_;simp only [jp,jb,jz,js];refine jwd (by kernel_rfl) ?_ _;have hbq:=hA.bd;replace hA:=hA.kept hga;obtain ⟨gq2,hqe⟩:∃ q,u0.heap.size = q:=⟨_,rfl⟩;rw [hqe] at hq hbq ⊢;clear hqe hga;generalize u0.alloc (.cells #[.pointer (some ⟨gl,o + 13,none⟩),.pointer (some ⟨gl,o + 3,none⟩),.pointer (some ⟨gl,o + 7,none⟩)] 121) = v2 at *;have HFIN:=jh (show _ /\ _ /\ _ from ⟨hA,hbq,hq⟩);clear hA hbq hq;go_wp2_with fail
    go_meet
    exact ⟨gq2,rfl,HFIN.out⟩
   ·have e1:n = 2:=by rw [<- HN.out];unfold gotN;rw [if_neg h2]
    have e2:offs = [13,7]:=by rw [<- HF.out];unfold gotO;rw [if_neg h2]
    have d2:decide ((kd:Int) = 2) = false:=decide_eq_false (by omega);have d3:¬ (kd:Int) = 2:=by omega
    subst e1 e2;have HFIN:=jh (show _ /\ _ /\ _ from ⟨hA,hbq,hq⟩);clear hA hbq hq;go_wp2_with fail
    go_meet
    exact ⟨gq1,rfl,HFIN.out⟩
  case rest =>
  clear hA hbq hq c0k;obtain ⟨q,rfl,hA,hbq,hq⟩:=hcut;generalize wc = v3 at *;obtain ⟨ws,hws⟩:∃ ws,zs.take n = ws:=⟨_,rfl⟩;obtain ⟨CW,hCW⟩:∃ X,ydP o offs ws C1 = X:=⟨_,rfl⟩;obtain ⟨EW,hEW⟩:∃ X,yh1 ws 0 = X:=⟨_,rfl⟩;have HWS:=jh hws;have HCW:=jh hCW;have HEW:=jh hEW;have HA4:=jh hA;have HQ4:=jh hq;have HBQ:=jh hbq;clear hws hCW hEW hA hq hbq;go_wp2_with fail
  go_loopw [62] (fun i wr=>∃ (k:Nat) (Ck:Array Value) (Ek:Int),i = .int .i64 k /\ k <= n /\ RsA w s r gl o (kd:Int) a3 Ek Ck p bb (zs.drop k) wr /\ Blk wr q 121 (offs.map fun c=>Value.pointer (some ⟨gl,o + c,none⟩)).toArray /\ Ck.size = C.size /\ Hid (∀ j,j < o \/ o + 36 <= j -> Ck[j]? = C[j]?) /\ Hid (ydP o (offs.drop k) (ws.drop k) Ck = CW) /\ Hid (yh1 (ws.drop k) Ek = EW)) (fun i _=>n - (intOf i).toNat)
  case atStart=>exact ⟨0,C1,0,rfl,by omega,HA4.out,HQ4.out,HZ1.out,jh HOUT1.out,jh HCW.out,jh HEW.out⟩
  case round =>
   obtain ⟨k,Ck,Ek,rfl,hk,hA,hq,hz,hout,hcw,hew⟩:=hrel;have HZK:=jh hz;have HOK:=jh hout.out;have HCK:=jh hcw.out;have HEK:=jh hew.out;clear hz hout hcw hew;by_cases hlt:k < n
   ·have key:∃ z F,zs.drop k = z :: zs.drop (k + 1) /\ offs.drop k = F :: offs.drop (k + 1) /\ ws.drop k = z :: ws.drop (k + 1) /\ wr.cell? ⟨q,k,none⟩ = some (.pointer (some ⟨gl,o + F,none⟩)) /\ F + 4 <= 36 /\ 0 < F:=by
     obtain ⟨on,ob,oz,_,_⟩:=HON.out;have h1:k < offs.length:=by omega
     have h2:k < zs.length:=by omega
     have h3:k < (zs.take n).length:=by rw [jd4];omega
     refine ⟨zs[k],offs[k],jdc h2,jdc h1,?_,?_,ob _ (List.getElem_mem h1)⟩
     ·rw [<- HWS.out,jdc h3,List.getElem_take]
     ·rw [hq.cell k];simp [h1]
    obtain ⟨z,F,hz0,hf0,hw0,hc,hF1,hF2⟩:=key;have hzm:z ∈ zs:=List.mem_of_mem_drop (i:=k) (by rw [hz0];exact List.mem_cons_self ..);have HZS:=jh (HZB.out z hzm);rw [hz0] at hA;have HCK2:Hid (ydP o (offs.drop (k + 1)) (ws.drop (k + 1)) (putA (o + F) (yaQ z) Ck) = CW):=jh (by have:=HCK.out;rw [hf0,hw0] at this;exact this);obtain ⟨EZ,hEZ⟩:∃ e,ycQ z.list z.bytes = e:=⟨_,rfl⟩;have HEK2:Hid (yh1 (ws.drop (k + 1)) (kE Ek EZ) = EW):=jh (by have:=HEK.out;rw [hw0] at this;rw [<- hEZ];exact this);have HEZ:=jh hEZ;have q1:(k:Int) < (n:Int):=by omega
    have HLT:=jh hlt;have hpq:p < q:=by have:=hA.pb;have:=HBQ.out;omega
    have HPQ:=jh hpq;clear hz0 hf0 hw0 hzm HCK HEK hEZ hpq HA4 HQ4;go_upto_region 10 with (fail)
    clear hc;refine jwl ?_;refine zm 5 (.func (.func 88) #[] #[.pointer (some ⟨p,0,none⟩)]) rfl ?_;simp only [jp,jb,jz,js];refine yai rfl 88 #[.pointer (some ⟨p,0,none⟩)] (ydZ _ (.tmp 67) _ _ rfl rfl (jeo Tryz.func88 (by kernel_rfl) rfl _ _)) (hA.next.mono ?_);clear hA;rintro e u1 ⟨sA,sc,rfl,hsub,hA,hg⟩;replace hq:=hq.grown hg (fun e=>by have:=ji e;have:=HPQ.out;omega);clear hg hsub;refine ⟨_,rfl,?_⟩;simp only [jp,jb,jz,js];have hgw:=yiZ z.list z.bytes (.slice sA z.items.length sc) HZS.out u1;rw [HEZ.out] at hgw;refine yai rfl 89 #[.agg #[.bool z.list,.string z.bytes,.slice sA z.items.length sc]] (yak _ (.tmp 68) _ rfl _ rfl (jeo Tryz.func89 (by kernel_rfl) rfl _ _)) (hgw.mono ?_);clear hgw;rintro e u2 ⟨rfl,hg⟩;replace hA:=hA.kept hg;replace hq:=hq.grown hg (by simp);clear hg;refine ⟨_,rfl,?_⟩;simp only [jp,jb,jz,js];refine zm 69 (.tuple #[.agg #[.int .u64 (yaE z.list z.bytes 0:Nat),.int .u64 (yaE z.list z.bytes 1:Nat),.int .u64 (yaE z.list z.bytes 2:Nat),.int .u64 (yaE z.list z.bytes 3:Nat)],.int .i64 EZ]) rfl ?_;simp only [jp,jb,jz,js];refine zg (.agg #[.int .u64 (yaE z.list z.bytes 0:Nat),.int .u64 (yaE z.list z.bytes 1:Nat),.int .u64 (yaE z.list z.bytes 2:Nat),.int .u64 (yaE z.list z.bytes 3:Nat)]) ?_;simp only [jp,jb,jz,js];refine zg (.int .i64 EZ) ?_;simp only [jp,jb,jz,js];have hga:=yaa (jr u2 none) (.cells #[.int .u64 0,.int .u64 0,.int .u64 0,.int .u64 0] 38);have h9:=Blk.new u2 38 #[.int .u64 0,.int .u64 0,.int .u64 0,.int .u64 0];have hb9:=hA.bd;have hq9:u2.heap.size ≠ q:=by have:=hq.lt;omega
    replace hA:=hA.kept hga;replace hq:=hq.grown hga (by simp);refine yac rfl (.pointer (some ⟨u2.heap.size,0,none⟩)) (w':=u2.alloc (.cells #[.int .u64 0,.int .u64 0,.int .u64 0,.int .u64 0] 38)) (by go_simp <;> rfl) ?_;simp only [jp,jb,jz,js];obtain ⟨g9,hg9⟩:∃ x,u2.heap.size = x:=⟨_,rfl⟩;rw [hg9] at h9 hb9 hq9 ⊢;clear hga hg9;generalize u2.alloc (.cells #[.int .u64 0,.int .u64 0,.int .u64 0,.int .u64 0] 38) = u3 at *;refine yaz rfl rfl (w':=u3.setRow g9 #[.int .u64 (yaE z.list z.bytes 0:Nat),.int .u64 (yaE z.list z.bytes 1:Nat),.int .u64 (yaE z.list z.bytes 2:Nat),.int .u64 (yaE z.list z.bytes 3:Nat)]) (by rw [show u3.setRow g9 #[.int .u64 (yaE z.list z.bytes 0:Nat),.int .u64 (yaE z.list z.bytes 1:Nat),.int .u64 (yaE z.list z.bytes 2:Nat),.int .u64 (yaE z.list z.bytes 3:Nat)] = u3.setCells g9 0 (yaQ z) from (yaL h9 0 (yaQ z)).symm];exact yay 38 (.tmp 9) (.tmp 70) rfl g9 0 rfl _ rfl #[.int .u64 (yaE z.list z.bytes 0:Nat),.int .u64 (yaE z.list z.bytes 1:Nat),.int .u64 (yaE z.list z.bytes 2:Nat),.int .u64 (yaE z.list z.bytes 3:Nat)] rfl (yaS h9 (by simp)) (by kernel_rfl) (by simp [ja2])) ?_;(try simp only [jp,jb,jz,js]);refine zg (.int .i64 EZ) ?_;simp only [jp,jb,jz,js];replace hA:=hA.far (D:=#[.int .u64 (yaE z.list z.bytes 0:Nat),.int .u64 (yaE z.list z.bytes 1:Nat),.int .u64 (yaE z.list z.bytes 2:Nat),.int .u64 (yaE z.list z.bytes 3:Nat)]) hb9;replace hq:Blk (u3.setRow g9 #[.int .u64 (yaE z.list z.bytes 0:Nat),.int .u64 (yaE z.list z.bytes 1:Nat),.int .u64 (yaE z.list z.bytes 2:Nat),.int .u64 (yaE z.list z.bytes 3:Nat)]) q 121 (offs.map fun c=>Value.pointer (some ⟨gl,o + c,none⟩)).toArray:=(jso u3 g9 q _ (fun e=>hq9 e.symm)).trans hq;replace h9:=yaI (cs':=#[.int .u64 (yaE z.list z.bytes 0:Nat),.int .u64 (yaE z.list z.bytes 1:Nat),.int .u64 (yaE z.list z.bytes 2:Nat),.int .u64 (yaE z.list z.bytes 3:Nat)]) h9;refine jwn ?_;generalize u3.setRow g9 #[.int .u64 (yaE z.list z.bytes 0:Nat),.int .u64 (yaE z.list z.bytes 1:Nat),.int .u64 (yaE z.list z.bytes 2:Nat),.int .u64 (yaE z.list z.bytes 3:Nat)] = u4 at *;go_wp2_with fail
    refine (yb1 s a3 Ek EZ r _ hA.rd).mono ?_;rintro e w7 ⟨rfl,hrd,hg⟩;replace hA:=hA.read hg hrd;have h9':=h9.grown hg (fun e=>by have:=ji e;have:=hA.rl;have:=hA.op;have:=hA.pb;omega);have hq':=hq.grown hg (fun e=>by have:=ji e;have:=hA.rl;have:=hA.op;have:=HPQ.out;omega);clear hg hrd h9 hq;go_upto_region 12 with (fail)
    refine jwl ?_;refine zm 8 (.pointer (some ⟨gl,o + F,none⟩)) rfl ?_;simp only [jp,jb,jz,js];refine yac rfl (.agg #[.int .u64 (yaE z.list z.bytes 0:Nat),.int .u64 (yaE z.list z.bytes 1:Nat),.int .u64 (yaE z.list z.bytes 2:Nat),.int .u64 (yaE z.list z.bytes 3:Nat)]) (yaq rfl rfl 38 _ _ h9' jd8 rfl (by kernel_rfl)) ?_;simp only [jp,jb,jz,js];refine zg (.pointer (some ⟨gl,o + F,none⟩)) ?_;simp only [jp,jb,jz,js];have hrow:=hA.row;have hfit:=hA.fit;refine yaz rfl rfl (w':=w7.setRow gl (putA (o + F) (yaQ z) Ck)) (by rw [<- yaL hrow (o + F) (yaQ z)];exact yay 38 (.tmp 77) (.tmp 76) rfl gl (o + F) rfl _ rfl #[.int .u64 (yaE z.list z.bytes 0:Nat),.int .u64 (yaE z.list z.bytes 1:Nat),.int .u64 (yaE z.list z.bytes 2:Nat),.int .u64 (yaE z.list z.bytes 3:Nat)] rfl (yaS hrow (by simp;omega)) (by kernel_rfl) (by simp [ja2])) ?_;refine jwn ?_;have hsz:(putA (o + F) (yaQ z) Ck).size = Ck.size:=ycG _ _ _;have hAp:=hA.put (C':=putA (o + F) (yaQ z) Ck) hsz (ybj _ _ _ _ (.inl (by omega)));have hqp:Blk (w7.setRow gl (putA (o + F) (yaQ z) Ck)) q 121 (offs.map fun c=>Value.pointer (some ⟨gl,o + c,none⟩)).toArray:=(jso w7 gl q _ (by have:=hA.ll;have:=hA.op;have:=HPQ.out;omega)).trans hq'
    have houtp:∀ j,j < o \/ o + 36 <= j -> (putA (o + F) (yaQ z) Ck)[j]? = C[j]?:=fun j hj=>by
     rw [ybj _ _ _ _ (by simp [yaQ];omega)];exact HOK.out j hj
    have HAP:=jh hAp;have HQP:=jh hqp;have HOP:=jh houtp;have HSZ2:Hid ((putA (o + F) (yaQ z) Ck).size = C.size):=jh (hsz.trans HZK.out);clear hA h9' hq' hrow hfit hsz hAp hqp houtp;generalize w7.setRow gl (putA (o + F) (yaQ z) Ck) = w8 at *;have hl3:=HLT.out;have hn3:=HON.out.2.2.2.2;have hk3:(k:Int) < 3:=by omega
    have hw1:IntKind.i64.wrap ((k:Int) + 1) = (k:Int) + 1:=jii _ (by omega);clear hl3 hn3;go_wp2_with fail
    go_roundw
    case rel=>exact ⟨k + 1,_,kE Ek EZ,by go_num,by have:=HLT.out;omega,HAP.out,HQP.out,HSZ2.out,jh HOP.out,jh HCK2.out,jh HEK2.out⟩
    case measure=>have:=HLT.out;simp [intOf];omega
   ·have hkn:k = n:=by omega
    have hws:ws.drop n = []:=by rw [<- HWS.out,List.drop_eq_nil_iff,jd4];omega
    have hCk:CW = Ck:=by have:=HCK.out;rw [hkn,hws] at this;rw [<- this];cases offs.drop n <;> rfl
    have hEk:EW = Ek:=by have:=HEK.out;rw [hkn,hws] at this;exact this.symm
    subst hkn;subst hCk;subst hEk;have q8:¬ ((k:Int) < (k:Int)):=by omega
    obtain ⟨on,_,oz,oa,_⟩:=HON.out;have hnk:k < zs.length:=by omega
    have hzd:=jdc hnk;have hgd:zs.getD k Itm.none_ = zs[k]:=by rw [jg,je hnk];rfl
    have HZD:=HZB.out _ (List.getElem_mem hnk);rw [hzd] at hA;generalize zs[k] = zd at *;have HGD:=jh hgd;have HOA:=jh oa;clear hgd hzd hws hnk on oz oa hlt;have HZ9:Hid (CW.size = C.size):=HZK;have HO9:=HOK;have hgt:∀ (sv:Value) (V:World),Calls jq 90 #[.agg #[.bool zd.list,.string zd.bytes,sv],.int .i64 0,.int .i64 4096] V fun e w'=>e = .returned (.tuple #[.string (dtV zd),.int .i64 (dtE zd)]) /\ V.grownBy w' none:=fun sv V=>yja zd.list zd.bytes sv 0 4096 V;obtain ⟨DV,hDV⟩:∃ d,dtV zd = d:=⟨_,rfl⟩;obtain ⟨DE,hDE⟩:∃ d,dtE zd = d:=⟨_,rfl⟩;rw [hDV,hDE] at hgt;have HGT:=jh hgt;have HDV:=jh hDV;have HDE:=jh hDE;clear hq hgt hDV hDE HCK HEK HOK HZK HQ4 HA4 HBQ HZD;go_upto_region 14 with (fail)
    refine jwl ?_;refine zm 5 (.func (.func 88) #[] #[.pointer (some ⟨p,0,none⟩)]) rfl ?_;simp only [jp,jb,jz,js];refine yai rfl 88 #[.pointer (some ⟨p,0,none⟩)] (ydZ _ (.tmp 80) _ _ rfl rfl (jeo Tryz.func88 (by kernel_rfl) rfl _ _)) (hA.next.mono ?_);clear hA;rintro e u1 ⟨sA,sc,rfl,hsub,hA,hg⟩;clear hg hsub;refine ⟨_,rfl,?_⟩;simp only [jp,jb,jz,js];refine yai rfl 90 #[.agg #[.bool zd.list,.string zd.bytes,.slice sA zd.items.length sc],.int .i64 0,.int .i64 4096] (yfD _ (.tmp 81) _ _ _ rfl _ _ _ rfl rfl rfl (jeo Tryz.func90 (by kernel_rfl) rfl _ _)) ((HGT.out (.slice sA zd.items.length sc) u1).mono ?_);rintro e u2 ⟨rfl,hg⟩;replace hA:=hA.kept hg;clear hg;refine ⟨_,rfl,?_⟩;simp only [jp,jb,jz,js];refine zm 82 (.tuple #[.string DV,.int .i64 DE]) rfl ?_;simp only [jp,jb,jz,js];refine zg (.string DV) ?_;simp only [jp,jb,jz,js];refine zg (.int .i64 DE) ?_;simp only [jp,jb,jz,js];refine zg (.string DV) ?_;simp only [jp,jb,jz,js];refine zg (.int .i64 DE) ?_;simp only [jp,jb,jz,js];refine jwn ?_;go_wp2_with fail
    refine (yb1 s a3 EW DE r _ hA.rd).mono ?_;rintro e w7 ⟨rfl,hrd,hg⟩;replace hA:=hA.read hg hrd;clear hg hrd;go_upto_region 16 with (fail)
    refine jwl ?_;refine zm 1 (.pointer (some ⟨gl,o,none⟩)) rfl ?_;refine zm 11 (.string DV) rfl ?_;simp only [jp,jb,jz,js];refine zg (.pointer (some ⟨gl,o,none⟩)) ?_;simp only [jp,jb,jz,js];refine zg (.pointer (some ⟨gl,o + 17,none⟩)) ?_;simp only [jp,jb,jz,js];have hrow:=hA.row;have hfit:=hA.fit;refine yaz rfl rfl (w':=w7.setRow gl (putA (o + 17) [.string DV] CW)) (by rw [<- yaL hrow (o + 17) [.string DV]];exact yay 9 (.tmp 91) (.tmp 89) rfl gl (o + 17) rfl _ rfl #[.string DV] rfl (yaS hrow (by simp;omega)) (by kernel_rfl) (by simp [ja2])) ?_;refine jwn ?_;have hsz:(putA (o + 17) [.string DV] CW).size = CW.size:=ycG _ _ _;replace hA:=hA.put (C':=putA (o + 17) [.string DV] CW) hsz (ybj _ _ _ _ (.inl (by omega)))
    have hout:∀ j,j < o \/ o + 36 <= j -> (putA (o + 17) [.string DV] CW)[j]? = C[j]?:=fun j hj=>by
     rw [ybj _ _ _ _ (by simp;omega)];exact HO9.out j hj
    have hsz2:=hsz.trans HZ9.out;have hcd:CW = ydP o offs ws (putA o [.int .i64 (kd:Int)] C):=by rw [<- HCW.out,<- HC1.out]
    have hed:kE EW DE = ydX kd zs:=by unfold ydX;rw [HN.out,HWS.out,HEW.out,HGD.out,HDE.out]
    clear hrow hfit hsz;generalize w7.setRow gl (putA (o + 17) [.string DV] CW) = w8 at *;have c0:w8.cell? ⟨gl,o,none⟩ = some (.int .i64 (kd:Int)):=(hA.row.cell o).trans hA.kd;have HA8:=jh hA;have HSZ8:=jh hsz2;have HOUT8:=jh hout;have HCD:=jh hcd;have HED:=jh hed;by_cases h0k:kd = 0
    ·clear HA8 HSZ8 HOUT8 HCD HED;have e0:(kd:Int) = 0:=by omega
     have HEND:Hid (yfQ s a E r gl o C w (.returned (.tuple #[])) w8):=jh (by
      refine ⟨a3,kE EW DE,_,rfl,hA.rd,HA3.out,hA.row,hsz2,hout,by rw [HKV.out];exact hA.kd,hA.gr,?_⟩;have hRR:=HRR.out;have hga:(gotA kd zs).2 = kE EW DE:=by rw [hed];unfold gotA;rw [if_pos h0k]
      rw [hga] at hRR;by_cases h0:kE EW DE = 0
      ·refine .inr ⟨zs,a3,none,0,[],h0,?_,rfl,?_,?_⟩
       ·rw [hRR,if_neg (by simpa using h0)]
       ·rw [HKV.out,hcd,<- HDV.out];unfold gotC;rw [if_pos h0k,HN.out,HF.out,HGD.out,HWS.out]
       ·intro hh;exact absurd (HKV.out.trans h0k) hh
      ·exact .inl ⟨h0,by rw [hRR,if_pos h0]⟩)
     clear hA hsz2 hout hcd hed h0k;go_wp2_with fail
     go_end0
     exact HEND.out
    have H0K:=jh h0k;have d0:decide ((kd:Int) = 0) = false:=decide_eq_false (by omega);have d3:¬ (kd:Int) = 0:=by omega
    have hk1:k + 1 < zs.length:=by have:=HOA.out;omega
    have hze:=jdc hk1;have hge:zs.getD (k + 1) Itm.none_ = zs[k + 1]:=by rw [jg,je hk1];rfl
    rw [hze] at HA8;generalize zs[k + 1] = ze at *;have HGE:=jh hge;clear hsz2 hout hcd hed hA h0k hze hge hk1;go_upto_region 18 with (fail)
    clear c0;have hA:=HA8.out;refine jwl ?_;refine zm 1 (.pointer (some ⟨gl,o,none⟩)) rfl ?_;refine zm 0 (.pointer (some ⟨r,0,none⟩)) rfl ?_;refine zm 5 (.func (.func 88) #[] #[.pointer (some ⟨p,0,none⟩)]) rfl ?_;simp only [jp,jb,jz,js];refine yai rfl 88 #[.pointer (some ⟨p,0,none⟩)] (ydZ _ (.tmp 99) _ _ rfl rfl (jeo Tryz.func88 (by kernel_rfl) rfl _ _)) (hA.next.mono ?_);clear hA;rintro e u1 ⟨sA2,sc2,rfl,hsub,hA,hg⟩;clear hg;refine ⟨_,rfl,?_⟩;simp only [jp,jb,jz,js];have hac:=yj3 ze sA2 sc2 s a3 (kE EW DE) r u1 hA.rd (hsub.weak fun g hg=>by have:=hA.rl;omega);refine yai rfl 91 #[.pointer (some ⟨r,0,none⟩),.agg #[.bool ze.list,.string ze.bytes,.slice sA2 ze.items.length sc2]] (ya4 _ (.tmp 98) (.tmp 100) _ rfl _ _ rfl rfl (jeo Tryz.func91 (by kernel_rfl) rfl _ _)) (hac.mono ?_);clear hac hsub;rintro e u2 ⟨AA,ac,rfl,⟨vs,hst⟩,hrd,hg⟩;have hgr1:=hA.gr.size;replace hst:=hst.lower hgr1;obtain ⟨n9,hn9⟩:∃ x,(accX ze (kE EW DE)).1.length = x:=⟨_,rfl⟩;rw [hn9] at hst ⊢;have HN9:=jh hn9;clear hgr1 hn9;replace hA:=hA.read hg hrd;clear hg hrd;refine ⟨_,rfl,?_⟩;simp only [jp,jb,jz,js];refine zg (.pointer (some ⟨gl,o,none⟩)) ?_;simp only [jp,jb,jz,js];refine zg (.pointer (some ⟨gl,o + 18,none⟩)) ?_;simp only [jp,jb,jz,js];have hrow:=hA.row;have hfit:=hA.fit;obtain ⟨CV,hCV⟩:∃ X,putA (o + 17) [.string DV] CW = X:=⟨_,rfl⟩;have HSZ9:=HSZ8.out;have HOUT9:=HOUT8.out;rw [hCV] at hrow hfit hA HSZ9 HOUT9;have hsr:=yl7 (o:=o + 18) hrow (.slice AA n9 ac);refine yaz rfl rfl (w':=u2.setRow gl (putA (o + 18) [.slice AA n9 ac] CV)) (by rw [<- yaL hrow (o + 18) [.slice AA n9 ac]];exact yay 39 (.tmp 103) (.tmp 101) rfl gl (o + 18) rfl _ rfl #[.slice AA n9 ac] rfl (yaS hrow (by simp;omega)) (by kernel_rfl) (by simp [ja2])) ?_;refine jwn ?_;have hll:=hA.ll;have hst9:=hst.keep (ybg (jr u2 (some gl)) (o + 18) (.slice AA n9 ac)) (fun j hj=>by have:=ji hj;omega);rw [hsr] at hst9;have hsz:(putA (o + 18) [.slice AA n9 ac] CV).size = CV.size:=ycG _ _ _;replace hA:=hA.put (C':=putA (o + 18) [.slice AA n9 ac] CV) hsz (ybj _ _ _ _ (.inl (by omega)))
    have hout:∀ j,j < o \/ o + 36 <= j -> (putA (o + 18) [.slice AA n9 ac] CV)[j]? = C[j]?:=fun j hj=>by
     rw [ybj _ _ _ _ (by simp;omega)];exact HOUT9 j hj
    have hsz2:=hsz.trans HSZ9;clear hrow hfit hsz hst hsr;generalize u2.setRow gl (putA (o + 18) [.slice AA n9 ac] CV) = w9 at *
    have HEND:Hid (yfQ s a E r gl o C w (.returned (.tuple #[])) w9):=jh (by
     refine ⟨a3,(accX ze (kE EW DE)).2,_,rfl,hA.rd,HA3.out,hA.row,hsz2,hout,by rw [HKV.out];exact hA.kd,hA.gr,?_⟩;have hRR:=HRR.out;have hga:gotA kd zs = accX ze (kE EW DE):=by rw [HED.out];unfold gotA;rw [if_neg H0K.out,HN.out,HGE.out]
     rw [hga] at hRR;by_cases h0:(accX ze (kE EW DE)).2 = 0
     ·refine .inr ⟨zs,a3,AA,ac,vs,h0,?_,rfl,?_,?_⟩
      ·rw [hRR,if_neg (by simpa using h0)]
      ·rw [HKV.out,hga,HN9.out,<- hCV,HCD.out,<- HDV.out];unfold gotC;rw [if_neg H0K.out,HN.out,HF.out,HGD.out,HWS.out]
      ·intro _;rw [HKV.out,hga,HN9.out];exact hst9
     ·exact .inl ⟨h0,by rw [hRR,if_pos h0]⟩)
    clear hA hsz2 hout hst9 hll HSZ9 HOUT9 hCV;go_wp2_with fail
    go_end0
    exact HEND.out
def itW (z:Itm):Nat:=if z.list = false /\ ybT z.bytes.data.toList = 0 then beV z.bytes.data.toList else 0
theorem ygQ (z:Itm) (q:Nat):yaE z.list z.bytes q = wp (itW z) q:=by
 unfold yaE itW ydR;cases z.list
 ·by_cases h:ybT z.bytes.data.toList = 0
  ·simp [h]
  ·simp [h,ydU]
 ·simp [ydU]
theorem yc2 (z:Itm):yaQ z = [.int .u64 (wp (itW z) 0:Nat),.int .u64 (wp (itW z) 1:Nat),.int .u64 (wp (itW z) 2:Nat),.int .u64 (wp (itW z) 3:Nat)]:=by
 unfold yaQ;rw [ygQ,ygQ,ygQ,ygQ]
def Win (C:Array Value) (o:Nat) (l:List Value):Prop:=∀ f,f < 36 -> C[o + f]? = l[f]?
theorem yhQ:∀ (vs:List Value) (o:Nat) (c:Array Value) (j:Nat),j < vs.length -> o + vs.length <= c.size -> (putA o vs c)[o + j]? = vs[j]?
 | [],_,_,j,h,_=>by simp at h
 | v :: r,o,c,0,_,hc=>by
  simp only [jlc] at hc;rw [putA,ybj r (o + 1) _ _ (by omega)];simp [jd7 (show o < c.size by omega)]
 | v :: r,o,c,j + 1,h,hc=>by
  simp only [jlc] at h hc;rw [putA,show o + (j + 1) = (o + 1) + j by omega,yhQ r (o + 1) _ j (by omega) (by simp;omega)];rfl
theorem Win.size {C:Array Value} {o:Nat} {l:List Value} (h:Win C o l) (hl:l.length = 36):o + 36 <= C.size:=by
 have:=h 35 (by omega);rw [je (by omega)] at this;have:=(jes.1 this).1;omega
theorem Win.put {C:Array Value} {o f:Nat} {l vs:List Value} (h:Win C o l) (hl:l.length = 36) (hf:f + vs.length <= 36):Win (putA (o + f) vs C) o (l.take f ++ (vs ++ l.drop (f + vs.length))):=by
 intro j hj;have hz:=h.size hl;by_cases h1:j < f
 ·rw [ybj _ _ _ _ (.inl (by omega)),h j hj,jal (by simp;omega),jc3 h1]
 by_cases h2:j < f + vs.length
 ·have:=yhQ vs (o + f) C (j - f) (by omega) (by omega);rw [show o + f + (j - f) = o + j by omega] at this;rw [this,jar (by simp;omega),jal (by simp;omega)];congr 1
  simp;omega
 ·rw [ybj _ _ _ _ (.inr (by omega)),h j hj,jar (by simp;omega),jar (by simp;omega),List.getElem?_drop];congr 1
  simp;omega
theorem Win.eq {C:Array Value} {o:Nat} {l l':List Value} (h:Win C o l) (e:l = l'):Win C o l':=e ▸ h
theorem Win.out {C C':Array Value} {o:Nat} {l:List Value} (h:Win C o l) (hk:∀ j,o <= j -> j < o + 36 -> C'[j]? = C[j]?):Win C' o l:=fun f hf=>(hk (o + f) (by omega) (by omega)).trans (h f hf)
def gotT (kd:Nat) (zs:List Itm) (y R S:Nat) (dst:ByteArray):TxV :=
 { TxV.zero with kind:=(kd:Int),value:=itW (zs.getD 0 Itm.none_),tip:=if kd = 2 then itW (zs.getD 1 Itm.none_) else 0,price:=itW (zs.getD (if kd = 2 then 2 else 1) Itm.none_),data:=dtV (zs.getD (gotN kd) Itm.none_),acc:=(gotA kd zs).1,dst:=dst,y:=y,r:=R,s:=S }
def ycX (y R S:Nat) (dst:ByteArray):TxV:={ TxV.zero with dst:=dst,y:=y,r:=R,s:=S }
theorem yiE (t:TxV) (sa sb:Value):(txL t sa sb).length = 36:=rfl
theorem yoK (kd:Nat) (zs:List Itm) (y R S:Nat) (dst:ByteArray) (C:Array Value) (o:Nat) (sl:Value) (hk:kd = 0 \/ kd = 1 \/ kd = 2) (hl:zs.length = 3 + kd) (h:Win C o (txL (ycX y R S dst) (.slice none 0 0) (.slice none 0 0))) :
  Win (gotC kd o zs C sl) o (txL (gotT kd zs y R S dst) (if kd = 0 then .slice none 0 0 else sl) (.slice none 0 0)):=by
 have h0:=h.put (f:=0) (vs:=[.int .i64 (kd:Int)]) rfl (by simp);rw [Nat.add_zero] at h0;rcases hk with rfl | rfl | rfl
 ·match zs,hl with
  | [z0,z1,z2],_ =>
   have h1:=h0.put (f:=13) (vs:=yaQ z0) rfl (by simp [yaQ]);have h2:=h1.put (f:=7) (vs:=yaQ z1) rfl (by simp [yaQ]);have h3:=h2.put (f:=17) (vs:=[.string (dtV z2)]) rfl (by simp);simp only [yc2] at h3;have hC:gotC 0 o [z0,z1,z2] C sl = putA (o + 17) [.string (dtV z2)] (putA (o + 7) (yaQ z1) (putA (o + 13) (yaQ z0) (putA o [.int .i64 ((0:Nat):Int)] C))):=by simp [gotC,gotO,gotN,ydP]
   simp only [hC,yc2];exact h3.eq (by simp [txL,gotT,ycX,gotN,yc2,TxV.zero])
 ·match zs,hl with
  | [z0,z1,z2,z3],_ =>
   have h1:=h0.put (f:=13) (vs:=yaQ z0) rfl (by simp [yaQ]);have h2:=h1.put (f:=7) (vs:=yaQ z1) rfl (by simp [yaQ]);have h3:=h2.put (f:=17) (vs:=[.string (dtV z2)]) rfl (by simp);have h4:=h3.put (f:=18) (vs:=[sl]) rfl (by simp);simp only [yc2] at h4;have hC:gotC 1 o [z0,z1,z2,z3] C sl = putA (o + 18) [sl] (putA (o + 17) [.string (dtV z2)] (putA (o + 7) (yaQ z1) (putA (o + 13) (yaQ z0) (putA o [.int .i64 ((1:Nat):Int)] C)))):=by simp [gotC,gotO,gotN,ydP]
   simp only [hC,yc2];exact h4.eq (by simp [txL,gotT,ycX,gotN,yc2,TxV.zero])
 ·match zs,hl with
  | [z0,z1,z2,z3,z4],_ =>
   have h1:=h0.put (f:=13) (vs:=yaQ z0) rfl (by simp [yaQ]);have h2:=h1.put (f:=3) (vs:=yaQ z1) rfl (by simp [yaQ]);have h3:=h2.put (f:=7) (vs:=yaQ z2) rfl (by simp [yaQ]);have h4:=h3.put (f:=17) (vs:=[.string (dtV z3)]) rfl (by simp);have h5:=h4.put (f:=18) (vs:=[sl]) rfl (by simp);simp only [yc2] at h5;have hC:gotC 2 o [z0,z1,z2,z3,z4] C sl = putA (o + 18) [sl] (putA (o + 17) [.string (dtV z3)] (putA (o + 7) (yaQ z2) (putA (o + 3) (yaQ z1) (putA (o + 13) (yaQ z0) (putA o [.int .i64 ((2:Nat):Int)] C))))):=by simp [gotC,gotO,gotN,ydP]
   simp only [hC,yc2];exact h5.eq (by simp [txL,gotT,ycX,gotN,yc2,TxV.zero])
structure Gr3 (w u:World) (r g l:Nat):Prop where
 os:u.os = w.os
 tape:u.tape = w.tape
 output:u.output = w.output
 size:w.heap.size <= u.heap.size
 block:∀ k,k < w.heap.size -> k ≠ r -> k ≠ g -> k ≠ l -> u.heap[k]? = w.heap[k]?
theorem Gr3.refl (w:World) (r g l:Nat):Gr3 w w r g l:=⟨rfl,rfl,rfl,jle _,fun _ _ _ _ _=>rfl⟩
theorem Gr3.grown {w u u':World} {r g l:Nat} (h:Gr3 w u r g l) {row:Option Nat} (hg:u.grownBy u' row) (hr:∀ k,row = some k -> k = r \/ k = g \/ k = l \/ w.heap.size <= k):Gr3 w u' r g l :=
 ⟨hg.os.trans h.os,hg.tape.trans h.tape,hg.output.trans h.output,jlt h.size hg.size,fun k hk h1 h2 h3=>(hg.block k (jc4 hk h.size) (fun e=>by rcases hr k e.symm with h4 | h4 | h4 | h4;exact h1 h4;exact h2 h4;exact h3 h4;omega)).trans (h.block k hk h1 h2 h3)⟩
theorem Gr3.setRow {w u:World} {r g l:Nat} (h:Gr3 w u r g l) (C:Array Value):Gr3 w (u.setRow l C) r g l :=
 ⟨h.os,h.tape,h.output,by simpa using h.size,fun k hk h1 h2 h3=>(jso u l k C h3).trans (h.block k hk h1 h2 h3)⟩
theorem Gr3.rest {w u u':World} {r g l:Nat} (h:Gr3 w u r g l) (hg:Gr2 u u' r l):Gr3 w u' r g l :=
 ⟨hg.os.trans h.os,hg.tape.trans h.tape,hg.output.trans h.output,jlt h.size hg.size,fun k hk h1 h2 h3=>(hg.block k (jc4 hk h.size) h1 h3).trans (h.block k hk h1 h2 h3)⟩
theorem Gr3.cell {w u:World} {r g l:Nat} (h:Gr3 w u r g l) {p:Addr} {v:Value} (hv:w.cell? p = some v) (h1:p.block ≠ r) (h2:p.block ≠ g) (h3:p.block ≠ l):u.cell? p = some v:=by
 have hlt:p.block < w.heap.size:=jd0 w _ hv;rw [World.cell?_of_block (w:=w) (h.block p.block hlt h1 h2 h3)];exact hv
theorem Gr2.cell {w u:World} {r g:Nat} (h:Gr2 w u r g) {p:Addr} {v:Value} (hv:w.cell? p = some v) (h1:p.block ≠ r) (h2:p.block ≠ g):u.cell? p = some v:=by
 have hlt:p.block < w.heap.size:=jd0 w _ hv;rw [World.cell?_of_block (w:=w) (h.block p.block hlt h1 h2)];exact hv
def AccQ (o:Nat) (u:World) (ls:List AccV) (A:Option Addr) (n:Nat):Prop :=
 ls.length = n /\ (0 < n -> ∃ g off,A = some ⟨g,off,none⟩ /\ o <= g /\ g < u.heap.size /\ ∀ i,i < n -> ∃ T tc,u.cell? ⟨g,off + i * 2,none⟩ = some (.string (ls.getD i AccV.none_).addr) /\ u.cell? ⟨g,off + i * 2 + 1,none⟩ = some (.slice T (ls.getD i AccV.none_).keys.length tc) /\
  KeyR (fun g=>o <= g) u (ls.getD i AccV.none_).keys T (ls.getD i AccV.none_).keys.length /\ (ls.getD i AccV.none_).keys.length <= 1000)
theorem AccQ.keep {o n:Nat} {u u':World} {ls:List AccV} {A:Option Addr} (h:AccQ o u ls A n) (hs:u.heap.size <= u'.heap.size) (hc:∀ (p:Addr) v,o <= p.block -> u.cell? p = some v -> u'.cell? p = some v):AccQ o u' ls A n:=by
 refine ⟨h.1,fun h0=>?_⟩;obtain ⟨g,off,h1,h2,h3,h4⟩:=h.2 h0;refine ⟨g,off,h1,h2,jc4 h3 hs,fun i hi=>?_⟩;obtain ⟨T,tc,a,b,c,d⟩:=h4 i hi;exact ⟨T,tc,hc _ _ h2 a,hc _ _ h2 b,c.keep fun p hp v hv=>hc p v hp hv,d⟩
theorem AccQ.toR {o n:Nat} {u:World} {ls:List AccV} {A:Option Addr} (h:AccQ o u ls A n):AccR u.heap.size u ls A n:=by
 refine ⟨h.1,fun h0=>?_⟩;obtain ⟨g,off,h1,h2,h3,h4⟩:=h.2 h0;refine ⟨g,off,h1,h3,fun i hi=>?_⟩;obtain ⟨T,tc,a,b,c,d⟩:=h4 i hi;exact ⟨T,tc,a,b,c.reads,by omega⟩
theorem AccSt.toQ {o k c:Nat} {A:Option Addr} {ls:List AccV} {vs:List (Option Addr × Nat)} {u:World} (h:AccSt o (.slice A k c) k ls vs u):AccQ o u ls A k:=by
 refine ⟨h.lx,fun h0=>?_⟩;rcases h.own.2 with ⟨_,h1⟩ | ⟨g,cap,cur,hv,hb,hg,hn,hc,hs,ht⟩
 ·omega
 ·cases hv;refine ⟨g,0,rfl,yaj h.own rfl,(jes.1 hg).1,fun i hi=>?_⟩;obtain ⟨e1,e2⟩:=yfP ls vs (by rw [h.lx,h.lv]) i (by rw [h.lx];exact hi)
  have hcell:∀ j w,j < k * 2 -> (yby ls vs)[j]? = some w -> u.cell? ⟨g,0 + j,none⟩ = some w:=by
   intro j w hj hw;rw [jd6,cell_of_row u g j cur 82 (0,0) hg,<- Array.getElem?_toList];rw [<- ht,jc3 hj] at hw;exact hw
  refine ⟨(vs.getD i (none,0)).1,(vs.getD i (none,0)).2,hcell _ _ (by omega) e1,?_,(h.key i hi).weak fun g hg=>hg.1,?_⟩
  ·have:=hcell (i * 2 + 1) _ (by omega) e2
   rwa [<- Nat.add_assoc] at this
  ·have:(ls.getD i AccV.none_) ∈ ls:=by rw [jg,je (by rw [h.lx];exact hi)];exact List.getElem_mem _
   exact h.few _ this
def SlQ (o:Nat) (u:World) (t:TxV) (sl:Value):Prop:=∃ A c,sl = .slice A t.acc.length c /\ AccQ o u t.acc A t.acc.length
theorem SlQ.keep {o:Nat} {u u':World} {t:TxV} {sl:Value} (h:SlQ o u t sl) (hs:u.heap.size <= u'.heap.size) (hc:∀ (p:Addr) v,o <= p.block -> u.cell? p = some v -> u'.cell? p = some v):SlQ o u' t sl:=by
 obtain ⟨A,c,h1,h2⟩:=h;exact ⟨A,c,h1,h2.keep hs hc⟩
structure GetS (wG:World) (s signs:ByteArray) (r sg l n k:Nat) (a sa:Nat) (E SE:Int) (C:Array Value) (cur:List Value) (ks:List Nat) (ts:List TxV) (u:World):Prop where
 rd:Blk u r 67 (rdC s a E)
 sd:Blk u sg 67 (rdC signs sa SE)
 row:Blk u l 42 C
 gr:Gr3 wG u r sg l
 rl:r < wG.heap.size
 gl:sg < wG.heap.size
 ll:l < wG.heap.size
 rg:r ≠ sg
 rw:r ≠ l
 gw:sg ≠ l
 ha:a <= s.size
 hsa:sa <= signs.size
 size:C.size = 36 * n
 kn:k <= n
 lk:ks.length = k
 lt:E = 0 -> ts.length = k
 kind:∀ i,i < k -> C[36 * i]? = some (.int .i64 ((ks.getD i 0:Nat):Int))
 good:E = 0 -> ∀ i,i < k -> ∃ sl,Win C (36 * i) (txL (ts.getD i TxV.zero) sl (.slice none 0 0)) /\ SlQ wG.heap.size u (ts.getD i TxV.zero) sl /\ (ts.getD i TxV.zero).kind = (ks.getD i 0:Nat)
 cl:cur.length = 36
 win:k < n -> Win C (36 * k) cur
 blank:∀ i,k < i -> i < n -> Win C (36 * i) (txL TxV.zero (.slice none 0 0) (.slice none 0 0))
theorem GetS.cells {wG u u':World} {s signs:ByteArray} {r sg l n k a sa:Nat} {E SE:Int} {C:Array Value} {cur:List Value} {ks:List Nat} {ts:List TxV} (h:GetS wG s signs r sg l n k a sa E SE C cur ks ts u) {row:Option Nat} (hg:u.grownBy u' row) (hr:∀ j,row = some j -> j < wG.heap.size) :
  ∀ (p:Addr) v,wG.heap.size <= p.block -> u.cell? p = some v -> u'.cell? p = some v:=fun p v hp hv=>hg.cell hv fun e=>by have:=hr _ e.symm;omega
theorem GetS.kept {wG u u':World} {s signs:ByteArray} {r sg l n k a sa:Nat} {E SE:Int} {C:Array Value} {cur:List Value} {ks:List Nat} {ts:List TxV} (h:GetS wG s signs r sg l n k a sa E SE C cur ks ts u) (hg:u.grownBy u' none):GetS wG s signs r sg l n k a sa E SE C cur ks ts u' :=
 { h with
  rd:=h.rd.grown hg (by simp),sd:=h.sd.grown hg (by simp),row:=h.row.grown hg (by simp),gr:=h.gr.grown hg (fun k e=>by cases e),
  good:=fun h0 i hi=>by obtain ⟨sl,a,b,c⟩:=h.good h0 i hi;exact ⟨sl,a,b.keep hg.size (h.cells hg (by simp)),c⟩ }
theorem GetS.read {wG u u':World} {s signs:ByteArray} {r sg l n k a sa a':Nat} {E SE E':Int} {C:Array Value} {cur:List Value} {ks:List Nat} {ts:List TxV} (h:GetS wG s signs r sg l n k a sa E SE C cur ks ts u) (hg:u.grownBy u' (some r)) (hr:Blk u' r 67 (rdC s a' E')) (ha:a' <= s.size) (hE:E' = 0 -> E = 0):GetS wG s signs r sg l n k a' sa E' SE C cur ks ts u' :=
 { h with
  rd:=hr,sd:=h.sd.grown hg (fun e=>h.rg (ji e).symm),row:=h.row.grown hg (fun e=>h.rw (ji e).symm),gr:=h.gr.grown hg (fun k e=>.inl (ji e).symm),ha:=ha,lt:=fun h0=>h.lt (hE h0),
  good:=fun h0 i hi=>by obtain ⟨sl,a,b,c⟩:=h.good (hE h0) i hi;exact ⟨sl,a,b.keep hg.size (h.cells hg (fun j e=>by have:=ji e;have:=h.rl;omega)),c⟩ }
theorem GetS.sign {wG u u':World} {s signs:ByteArray} {r sg l n k a sa sa':Nat} {E SE SE':Int} {C:Array Value} {cur:List Value} {ks:List Nat} {ts:List TxV} (h:GetS wG s signs r sg l n k a sa E SE C cur ks ts u) (hg:u.grownBy u' (some sg)) (hr:Blk u' sg 67 (rdC signs sa' SE')) (ha:sa' <= signs.size):GetS wG s signs r sg l n k a sa' E SE' C cur ks ts u' :=
 { h with
  sd:=hr,rd:=h.rd.grown hg (fun e=>h.rg (ji e)),row:=h.row.grown hg (fun e=>h.gw (ji e).symm),gr:=h.gr.grown hg (fun k e=>.inr (.inl (ji e).symm)),hsa:=ha,
  good:=fun h0 i hi=>by obtain ⟨sl,a,b,c⟩:=h.good h0 i hi;exact ⟨sl,a,b.keep hg.size (h.cells hg (fun j e=>by have:=ji e;have:=h.gl;omega)),c⟩ }
theorem yaY {u:World} {l:Nat} {C:Array Value} {p:Addr} {v:Value} (hp:p.block ≠ l) (hv:u.cell? p = some v):(u.setRow l C).cell? p = some v:=by
 rw [World.cell?_of_block (w:=u) (jso u l p.block C hp)];exact hv
def ycR (s signs:ByteArray) (nl yl:List Bool):Nat -> Nat -> Nat -> ByteArray -> Except Int (List TxV × Nat)
 | 0,_,a,_=>.ok ([],a)
 | m + 1,i,a,tos =>
  match ycy s a 0 with
  | .error e=>.error e
  | .ok (zs,T)=>match ycR s signs nl yl m (i + 1) T (if nl.getD i false = false /\ 20 <= tos.size then tos.extract 20 tos.size else tos) with
   | .error e=>.error e
   | .ok (ts,b)=>.ok (gotT (kdV s a 0) zs (if yl.getD i false then 1 else 0) (wdN signs (64 * i) 0) (wdN signs (64 * i + 32) 0) (if nl.getD i false = false /\ 20 <= tos.size then tos.extract 0 20 else ⟨#[]⟩) :: ts,b)
def yfZ (ts:List TxV):Except Int (List TxV × Nat) -> Except Int (List TxV × Nat)
 | .error e=>.error e
 | .ok (us,b)=>.ok (ts ++ us,b)
theorem ymv (x:Except Int (List TxV × Nat)):yfZ [] x = x:=by
 rcases x with e | ⟨us,b⟩ <;> rfl
theorem ykL (ts:List TxV) (t:TxV) (x:Except Int (List TxV × Nat)):yfZ ts (yfZ [t] x) = yfZ (ts ++ [t]) x:=by
 rcases x with e | ⟨us,b⟩
 ·rfl
 ·simp [yfZ]
theorem ymx {s signs:ByteArray} {nl yl:List Bool} {m i a:Nat} {tos:ByteArray} {e:Int} (h:ycy s a 0 = .error e):ycR s signs nl yl (m + 1) i a tos = .error e:=by
 rw [ycR,h]
theorem yg4 {s signs:ByteArray} {nl yl:List Bool} {m i a T:Nat} {tos:ByteArray} {zs:List Itm} (h:ycy s a 0 = .ok (zs,T)):ycR s signs nl yl (m + 1) i a tos =
  yfZ [gotT (kdV s a 0) zs (if yl.getD i false then 1 else 0) (wdN signs (64 * i) 0) (wdN signs (64 * i + 32) 0) (if nl.getD i false = false /\ 20 <= tos.size then tos.extract 0 20 else ⟨#[]⟩)] (ycR s signs nl yl m (i + 1) T (if nl.getD i false = false /\ 20 <= tos.size then tos.extract 20 tos.size else tos)):=by
 rw [ycR,h];dsimp only;rcases ycR s signs nl yl m (i + 1) T (if nl.getD i false = false /\ 20 <= tos.size then tos.extract 20 tos.size else tos) with e | ⟨us,b⟩ <;> rfl
theorem yon {s:ByteArray} {i n:Nat} (hs:s.size = 64 * n) (hi:i < n):tkE s (64 * i) 32 0 = 0 /\ tkA s (64 * i) 32 0 = 64 * i + 32 /\ tkE s (64 * i + 32) 32 0 = 0 /\ tkA s (64 * i + 32) 32 0 = 64 * (i + 1):=by
 have h1:tkE s (64 * i) 32 0 = 0:=by unfold tkE;rw [if_pos rfl,if_neg (by omega)]
 have h2:tkE s (64 * i + 32) 32 0 = 0:=by unfold tkE;rw [if_pos rfl,if_neg (by omega)]
 refine ⟨h1,?_,h2,?_⟩
 ·unfold tkA;rw [if_pos h1]
 ·unfold tkA;rw [if_pos h2];omega
theorem GetS.put {wG u:World} {s signs:ByteArray} {r sg l n k a sa:Nat} {E SE:Int} {C:Array Value} {cur:List Value} {ks:List Nat} {ts:List TxV} (h:GetS wG s signs r sg l n k a sa E SE C cur ks ts u) (f:Nat) (vs:List Value) (hf:f + vs.length <= 36) (hk:k < n) :
  GetS wG s signs r sg l n k a sa E SE (putA (36 * k + f) vs C) (cur.take f ++ (vs ++ cur.drop (f + vs.length))) ks ts (u.setRow l (putA (36 * k + f) vs C)) :=
 { h with
  rd:=(jso u l r _ h.rw).trans h.rd,sd:=(jso u l sg _ h.gw).trans h.sd,row:=yaI h.row,gr:=h.gr.setRow _,size:=(ycG _ _ _).trans h.size,
  kind:=fun i hi=>(ybj _ _ _ _ (.inl (by omega))).trans (h.kind i hi),
  good:=fun h0 i hi=>by
   obtain ⟨sl,a,b,c⟩:=h.good h0 i hi;exact ⟨sl,a.out fun j h1 h2=>ybj _ _ _ _ (.inl (by omega)),b.keep (by simp) (fun p v hp hv=>yaY (by have:=h.ll;omega) hv),c⟩
  cl:=by have:=h.cl;simp;omega
  win:=fun _=>(h.win hk).put h.cl hf
  blank:=fun i h1 h2=>(h.blank i h1 h2).out fun j h3 h4=>ybj _ _ _ _ (.inr (by omega)) }
def blankL:List Value:=txL TxV.zero (.slice none 0 0) (.slice none 0 0)
def ycY (n:Nat):Array Value:=madeCells blankL.toArray (n * 36)
theorem ypG (m:Nat) (hm:m <= 1000000) (w:World):(Instr.makeSlice 22 (.int .i64 (m:Int)) (.int .i64 (m:Int))).run jq w =
  .ok (.slice (some ⟨w.heap.size,0,none⟩) m m) (w.alloc (.cells (ycY m) 42)):=by
 have hs:(jq.info? 42).isSome = true:=by kernel_rfl
 obtain ⟨i,hi⟩:=Option.isSome_iff_exists.1 hs;have hb:(jq.info? 42).map (fun i=>decide (i.bytes <= 10000)) = some true:=by kernel_rfl
 have hsz:(jq.info? 42).map (·.size) = some 36:=by kernel_rfl
 have hz:(jq.info? 42).bind (·.zero) = some (.agg blankL.toArray):=by kernel_rfl
 rw [hi] at hb hsz hz;simp only [Option.map_some,ja1.injEq,Option.bind_some] at hb hsz hz;have hb:=of_decide_eq_true hb;have hmk:=ybY (P:=jq) 22 42 i _ (by kernel_rfl) hi hz .i64 .i64 m m (jle _) (by have:=Nat.mul_le_mul hb hm;omega) (by omega) w;rw [hmk,hsz];rfl
theorem yjx (n:Nat):(ycY n).size = 36 * n:=by simp [ycY,madeCells];omega
theorem ygI (n i:Nat) (hi:i < n):Win (ycY n) (36 * i) (txL TxV.zero (.slice none 0 0) (.slice none 0 0)):=by
 intro f hf;have hl:blankL.length = 36:=rfl;have h2:blankL[f]? = some blankL[f]:=je (by omega);have hm:(36 * i + f) % 36 = f:=by omega
 have hlt:36 * i + f < n * 36:=by omega
 show (ycY n)[36 * i + f]? = blankL[f]?;rw [h2];simp [ycY,madeCells,hlt,hl,hm,hf]
 try rfl
def yd9 (s:ByteArray) (at_ n:Int) (chain:Nat):Bool:=decide (chain = 0) || decide (4611686018427387904 < chain) || decide (n < 0) || decide (512 < n) || decide (at_ < 0) || decide ((s.size:Int) < at_)
theorem ypu (s:ByteArray) (at_ n:Int) (chain:Nat) (w:World) (hs:s.size <= 1000000000000) (hb:yd9 s at_ n chain = true) :
  Calls jq 14 #[.string s,.int .i64 at_,.int .i64 n,.int .u64 (chain:Int)] w fun e w'=>e = .returned (.tuple #[.slice none 0 0,.int .i64 0,.int .i64 1]) /\ w.grownBy w' none:=by
 have e1:((chain:Int) == 0) = decide (chain = 0):=yi0 chain 0;have e2:decide ((4611686018427387904:Int) < (chain:Int)) = decide (4611686018427387904 < chain):=decide_eq_decide.2 (by omega);unfold yd9 at hb;have end_:∀ P:Prop,P -> P:=fun _ h=>h;cases h1:decide (chain = 0)
 rotate_left
 ·rw [h1] at e1;clear hb e2;go_enter Tryz.func14,Tryz.ntmps14
  go_wp2_with fail
  go_ret3
  exact ⟨rfl,jr _ _⟩
 rw [h1] at e1 hb;cases h2:decide (4611686018427387904 < chain)
 rotate_left
 ·rw [h2] at e2;clear hb;go_enter Tryz.func14,Tryz.ntmps14
  go_wp2_with fail
  go_ret3
  exact ⟨rfl,jr _ _⟩
 rw [h2] at e2 hb;cases h3:decide (n < 0)
 rotate_left
 ·clear hb;go_enter Tryz.func14,Tryz.ntmps14
  go_wp2_with fail
  go_ret3
  exact ⟨rfl,jr _ _⟩
 rw [h3] at hb;cases h4:decide ((512:Int) < n)
 rotate_left
 ·clear hb;go_enter Tryz.func14,Tryz.ntmps14
  go_wp2_with fail
  go_ret3
  exact ⟨rfl,jr _ _⟩
 rw [h4] at hb;cases h5:decide (at_ < 0)
 rotate_left
 ·clear hb;go_enter Tryz.func14,Tryz.ntmps14
  go_wp2_with fail
  go_ret3
  exact ⟨rfl,jr _ _⟩
 rw [h5] at hb;have h6:decide ((s.size:Int) < at_) = true:=by simpa using hb
 clear hb;go_enter Tryz.func14,Tryz.ntmps14
 go_wp2_with fail
 go_ret3
 exact ⟨rfl,jr _ _⟩
def ydz (ls:List TxV):List Value:=ls.flatMap fun t=>txL t (.slice none 0 0) (.slice none 0 0)
theorem yil:∀ (ls:List TxV) (i j:Nat),i < ls.length -> j < 36 -> (ydz ls)[i * 36 + j]? = (txL (ls.getD i TxV.zero) (.slice none 0 0) (.slice none 0 0))[j]?
 | [],i,j,h,_=>by simp at h
 | t :: ls,0,j,_,hj=>by
  show (txL t _ _ ++ ydz ls)[0 * 36 + j]? = _;rw [jal (by rw [yiE];omega),Nat.zero_mul,jd6];rfl
 | t :: ls,i + 1,j,h,hj=>by
  show (txL t _ _ ++ ydz ls)[(i + 1) * 36 + j]? = _;rw [jar (by rw [yiE];omega),yiE,show (i + 1) * 36 + j - 36 = i * 36 + j by omega,yil ls i j (by simpa using h) hj];rfl
theorem yoq {W:World} {g:Nat} {ls:List TxV} (hb:Blk W g 42 (ydz ls).toArray) (h:∀ t ∈ ls,t.acc = [] /\ t.auths = []):TxsR W.heap.size W ls (some ⟨g,0,none⟩) ls.length:=by
 refine ⟨rfl,fun _=>⟨g,0,rfl,hb.lt,fun i hi=>?_⟩⟩;have hm:ls.getD i TxV.zero ∈ ls:=by rw [jg,je hi];exact List.getElem_mem _
 obtain ⟨h1,h2⟩:=h _ hm;refine ⟨.slice none 0 0,.slice none 0 0,fun j v hv=>?_,⟨⟨none,0,by rw [h1];rfl,by rw [h1];exact AccR.nil _ _ _⟩,⟨none,0,by rw [h2];rfl,by rw [h2];exact AutR.nil _ _ _⟩,by rw [h1];simp,by rw [h2];simp⟩⟩;have hj:j < 36:=(jc9.1 hv).1;rw [hb.cell,<- hv,<- yil ls i j hi hj,jd6,jta]
theorem yop (B:Nat) (W:World):TxsR B W [] none 0:=⟨rfl,fun h=>absurd h (Nat.lt_irrefl _)⟩
theorem ypF (m:Nat) (hm:m <= 1000000) (w:World):(Instr.makeSlice 43 (.int .i64 (m:Int)) (.int .i64 (m:Int))).run jq w =
  .ok (.slice (some ⟨w.heap.size,0,none⟩) m m) (w.alloc (.cells (je4 m (.int .u8 0)) 5)):=by
 have hs:(jq.info? 5).isSome = true:=by kernel_rfl
 obtain ⟨i,hi⟩:=Option.isSome_iff_exists.1 hs;have hb:(jq.info? 5).map (·.bytes) = some 1:=by kernel_rfl
 have hsz:(jq.info? 5).map (·.size) = some 1:=by kernel_rfl
 have hz:(jq.info? 5).bind (·.zero) = some (.int .u8 0):=by kernel_rfl
 rw [hi] at hb hsz hz;simp only [Option.map_some,ja1.injEq,Option.bind_some] at hb hsz hz;have hmk:=ybY (P:=jq) 43 5 i _ (by kernel_rfl) hi hz .i64 .i64 m m (jle _) (by rw [hb];omega) (by omega) w;rw [hmk,hsz];congr 3;refine Array.ext_getElem? fun j=>?_;by_cases hj:j < m
 ·simp [madeCells,hj,Value.cells,Nat.mod_one]
 ·simp [madeCells,hj]
theorem ypJ (w:World):(w.alloc (.cells (je4 20 (.int .u8 0)) 5)).ownsRow w.heap.size 5 1 (.slice (some ⟨w.heap.size,0,none⟩) 20 20) 20 (u8s (jc1 20 0)) :=
 ⟨rfl,.inr ⟨w.heap.size,20,_,rfl,jle _,heap_alloc_new w _,jle _,by decide,rfl,rfl⟩⟩
theorem ybi {a:Act} {o:Oper} {W:World} (x y:Operand) {u:TypeId} (ho:o.op = .binOp .add 9 x y u) (p q r:ByteArray) (hx:a.eval x = .string p) (hy:a.eval y = .string q) (hl:p.size + q.size <= 1000000000000000000) (hr:p ++ q = r):(execOp a.eval o).run jq W = .ok (.value (.string r)) W:=by
 have h:¬ 9223372036854775807 < p.size + q.size:=by omega
 subst hr;unfold execOp;generalize a.eval = ev at *;simp [ho,hx,hy,go_sem,h]
section
variable {P:Program}
theorem ydp {ops:Array Oper} {rest:List Oper} {o:Oper} {a:Act} {w:World} {Q:Exit -> Act -> World -> Prop} (hgd:o.guard = none) (t:TypeId) (parts:Array (Nat × Operand)) (cells:Array Value) (ho:o.op = .build t parts)
  (hf:P.built t (parts.map fun (i,x)=>(i,a.eval x)).toList = some cells)
  (h:wpList P ops Q rest (a.put o.dst (.agg cells)) w):wpList P ops Q (o :: rest) a w :=
 wpList_plain hgd fun _ hK=>wp_build t parts ho (by rw [hf];rfl) (by rw [hf];exact hK _ _ h)
end
theorem yfd {ops:Array Oper} {rest:List Oper} {o:Oper} {a:Act} {w:World} {Q:Exit -> Act -> World -> Prop} (hgd:o.guard = none) (len:Nat) (parts:Array (Nat × Operand)) (ho:o.op = .buildSlice 22 len parts) (h0:0 < len) (h1:len <= 100) (cells:Array Value)
  (hf:Instr.fill (fun i=>some (i * 36,36)) ((Array.range (len * 36)).map (blankL.toArray[· % 36]!)) (parts.map fun (i,x)=>(i,a.eval x)).toList = some cells)
  (h:wpList jq ops Q rest (a.put o.dst (.slice (some ⟨w.heap.size,0,none⟩) len len)) (w.alloc (.cells cells 42))):wpList jq ops Q (o :: rest) a w:=by
 have hs:(jq.info? 42).isSome = true:=by kernel_rfl
 obtain ⟨i,hi⟩:=Option.isSome_iff_exists.1 hs;have hsz:(jq.info? 42).map (·.size) = some 36:=by kernel_rfl
 have hz:(jq.info? 42).bind (·.zero) = some (.agg blankL.toArray):=by kernel_rfl
 rw [hi] at hsz hz;simp only [Option.map_some,ja1.injEq,Option.bind_some] at hsz hz;refine wpList_buildSlice hgd 22 42 len parts ho cells i _ Tryz.underlying22 hi hz (by rw [hsz];omega) (by rw [hsz];omega) ?_ h;rw [hsz];exact hf
structure BkV where
 origin:Bool
 txs:List TxV
deriving DecidableEq
structure SpV where
 time:Nat
 epoch:Nat
 parent:ByteArray
 hash:ByteArray
 blocks:List BkV
deriving DecidableEq
def SpV.none_:SpV:=⟨0,0,⟨#[]⟩,⟨#[]⟩,[]⟩
def SpV.all (s:SpV):List TxV:=s.blocks.flatMap BkV.txs
def BkV.none_:BkV:=⟨false,[]⟩
def BksR (B:Nat) (W:World) (bs:List BkV) (A:Option Addr) (n:Nat):Prop :=
 bs.length = n /\ (0 < n -> ∃ g off,A = some ⟨g,off,none⟩ /\ g < B /\ ∀ i,i < n -> ∃ T m tc,W.cell? ⟨g,off + i * 2,none⟩ = some (.bool (bs.getD i BkV.none_).origin) /\ W.cell? ⟨g,off + i * 2 + 1,none⟩ = some (.slice T m tc) /\ TxsR B W (bs.getD i BkV.none_).txs T m)
theorem BksR.grown {B:Nat} {W W':World} {bs:List BkV} {A:Option Addr} {n:Nat} (h:BksR B W bs A n) (hg:W.grownBy W' none) (hB:B <= W.heap.size):BksR B W' bs A n:=by
 refine ⟨h.1,fun h0=>?_⟩;obtain ⟨g,off,h1,h2,h3⟩:=h.2 h0;refine ⟨g,off,h1,h2,fun i hi=>?_⟩;obtain ⟨T,m,tc,a,b,c⟩:=h3 i hi;exact ⟨T,m,tc,hg.cell a (by simp),hg.cell b (by simp),c.grown hg hB⟩
structure SpMem (D:Nat) (A:Option Addr) (rs:List (List (List Value))) (n:Nat) (W:World):Prop where
 len:rs.length = n
 at_:∀ i,i < n -> ∃ g off T tc o,A = some ⟨g,off,none⟩ /\ g < D /\ W.cell? ⟨g,off + i * 2,none⟩ = some (.bool o) /\ W.cell? ⟨g,off + i * 2 + 1,none⟩ = some (.slice T (rs.getD i []).length tc) /\
  ∀ k,k < (rs.getD i []).length -> ∃ g' off',T = some ⟨g',off',none⟩ /\ g' < D /\ W.rangeAt g' (off' + k * 36) ((rs.getD i []).getD k []) /\ ((rs.getD i []).getD k []).length = 36 /\ (((rs.getD i []).getD k []).toArray.all (·.oneCell')) = true
theorem SpMem.keep {D:Nat} {A:Option Addr} {rs:List (List (List Value))} {n:Nat} {W W':World} (h:SpMem D A rs n W) (hk:KeepS (fun j=>j < D) W W'):SpMem D A rs n W':=by
 refine ⟨h.len,fun i hi=>?_⟩;obtain ⟨g,off,T,tc,o,h1,h2,h3,h4,h5⟩:=h.at_ i hi;refine ⟨g,off,T,tc,o,h1,h2,(hk.cell (p:=⟨g,off + i * 2,none⟩) h2).trans h3,(hk.cell (p:=⟨g,off + i * 2 + 1,none⟩) h2).trans h4,fun k hk'=>?_⟩;obtain ⟨g',off',a,b,c,d,e⟩:=h5 k hk';exact ⟨g',off',a,b,fun j v hv=>(hk.cell (p:=⟨g',off' + k * 36 + j,none⟩) b).trans (c j v hv),d,e⟩
section
variable {F:Fence} {n:Nat} {P:Program} {ops:Array Oper} {Q:Exit -> Act -> World -> Prop} {a:Act} {w w':World} {rest:List Oper} {op:Oper}
end

def R36 (B:Nat) (W:World) (xs:List (List Value)) (ys:List TxV):Prop :=
 xs.length = ys.length /\ ∀ j,j < ys.length -> ∃ sa sb,xs.getD j [] = txL (ys.getD j TxV.zero) sa sb /\ TxIn B W (ys.getD j TxV.zero) sa sb
theorem yjT {α:Type} (d:α) (xs ys:List α) (j:Nat):(xs ++ ys).getD j d = if j < xs.length then xs.getD j d else ys.getD (j - xs.length) d:=by
 simp only [jg];split
 ·rw [jal (by assumption)]
 ·rw [jar (by omega)]
theorem R36.append {B:Nat} {W:World} {xs xs':List (List Value)} {ys ys':List TxV} (h:R36 B W xs ys) (h':R36 B W xs' ys'):R36 B W (xs ++ xs') (ys ++ ys'):=by
 refine ⟨by rw [jla,jla,h.1,h'.1],fun j hj=>?_⟩;rw [jla] at hj;rw [yjT,yjT,h.1];split
 ·exact h.2 j (by assumption)
 ·exact h'.2 _ (by omega)
theorem R36.nil (B:Nat) (W:World):R36 B W [] []:=⟨rfl,fun j hj=>by simp at hj⟩
theorem R36.grown {B:Nat} {W W':World} {xs:List (List Value)} {ys:List TxV} (h:R36 B W xs ys) (hg:W.grownBy W' none) (hB:B <= W.heap.size):R36 B W' xs ys :=
 ⟨h.1,fun j hj=>by obtain ⟨sa,sb,a,b⟩:=h.2 j hj;exact ⟨sa,sb,a,b.grown hg hB⟩⟩
def yfo (f:FuncId) (args:TxV -> Value) (B:Nat) (ls:List TxV):Prop:=∀ x ∈ ls,∀ sa sb (V:World),TxIn B V x sa sb -> B <= V.heap.size -> Calls jq f #[.agg (txC x sa sb)] V fun e w'=>e = .returned (args x) /\ V.grownBy w' none
theorem yl2 (B:Nat) (ls:List TxV):yfo 30 (fun x=>.tuple #[.bool (decide (x.dst.size = 0)),.bool true]) B ls:=by
 intro x mx sa sb w h hB;obtain ⟨⟨pa,xa,rfl,hacc⟩,⟨pb,xb,rfl,haut⟩,la,lb⟩:=h;obtain ⟨na,hna⟩:∃ n,x.acc.length = n:=⟨_,rfl⟩;obtain ⟨nb,hnb⟩:∃ n,x.auths.length = n:=⟨_,rfl⟩;rw [hna] at hacc la ⊢;rw [hnb] at haut lb ⊢;have hG:=yaa (jr w none) (.cells (txC x (.slice pa na xa) (.slice pb nb xb)) 42);have hb:=Blk.new w 42 (txC x (.slice pa na xa) (.slice pb nb xb));have z:(txC x (.slice pa na xa) (.slice pb nb xb))[12]? = some (.string x.dst):=rfl;have e3:(x.dst.toList == []) = decide (x.dst.size = 0):=yfs x.dst;have e3i:x.dst.toList.isEmpty = decide (x.dst.size = 0):=by rw [<- yfs x.dst];cases x.dst.toList <;> rfl
 show Calls _ _ _ _ fun e w'=>e = .returned (.tuple #[.bool (decide (x.dst.size = 0)),.bool true]) /\ w.grownBy w' none;obtain ⟨dst,hd⟩:∃ d,x.dst = d:=⟨_,rfl⟩;rw [hd] at z e3 e3i ⊢;obtain ⟨d0,hd0⟩:∃ d0,decide (dst.size = 0) = d0:=⟨_,rfl⟩;rw [hd0] at e3 e3i ⊢;clear hd hd0;generalize (txC x (.slice pa na xa) (.slice pb nb xb)) = ct at *;clear hacc haut la lb hB mx hna hnb;go_enter Tryz.func30,Tryz.ntmps30
 go_upto_region 1 with (fail)
 obtain ⟨g,hg⟩:∃ g,w.heap.size = g:=⟨_,rfl⟩;rw [hg] at hb ⊢;clear hg;have HG:=jh hG;clear hG;generalize w.alloc (.cells ct 42) = w1 at *;have c:=(hb.cell 12).trans z;clear hb z;cases d0 <;>
 (go_wp2_with fail
  go_ret2
  exact ⟨rfl,HG.out⟩)
theorem yl1 (B:Nat) (ls:List TxV):yfo 32 (fun x=>.tuple #[.bool (decide (x.y = 1)),.bool true]) B ls:=by
 intro x mx sa sb w h hB;obtain ⟨⟨pa,xa,rfl,hacc⟩,⟨pb,xb,rfl,haut⟩,la,lb⟩:=h;obtain ⟨na,hna⟩:∃ n,x.acc.length = n:=⟨_,rfl⟩;obtain ⟨nb,hnb⟩:∃ n,x.auths.length = n:=⟨_,rfl⟩;rw [hna] at hacc la ⊢;rw [hnb] at haut lb ⊢;have hG:=yaa (jr w none) (.cells (txC x (.slice pa na xa) (.slice pb nb xb)) 42);have hb:=Blk.new w 42 (txC x (.slice pa na xa) (.slice pb nb xb));have z:(txC x (.slice pa na xa) (.slice pb nb xb))[20]? = some (.int .u64 (x.y:Int)):=rfl;have e3:((x.y:Int) == 1) = decide (x.y = 1):=yi0 x.y 1;show Calls _ _ _ _ fun e w'=>e = .returned (.tuple #[.bool (decide (x.y = 1)),.bool true]) /\ w.grownBy w' none;obtain ⟨y,hd⟩:∃ d,x.y = d:=⟨_,rfl⟩;rw [hd] at z e3 ⊢;obtain ⟨d0,hd0⟩:∃ d0,decide (y = 1) = d0:=⟨_,rfl⟩;rw [hd0] at e3 ⊢;clear hd hd0;generalize (txC x (.slice pa na xa) (.slice pb nb xb)) = ct at *;clear hacc haut la lb hB mx hna hnb;go_enter Tryz.func32,Tryz.ntmps32
 go_upto_region 1 with (fail)
 obtain ⟨g,hg⟩:∃ g,w.heap.size = g:=⟨_,rfl⟩;rw [hg] at hb ⊢;clear hg;have HG:=jh hG;clear hG;generalize w.alloc (.cells ct 42) = w1 at *;have c:=(hb.cell 20).trans z;clear hb z;cases d0 <;>
 (go_wp2_with fail
  go_ret2
  exact ⟨rfl,HG.out⟩)
theorem ylz (B:Nat) (ls:List TxV):yfo 37 (fun x=>.tuple #[.string x.dst,.bool true]) B ls:=by
 intro x mx sa sb w h hB;obtain ⟨⟨pa,xa,rfl,hacc⟩,⟨pb,xb,rfl,haut⟩,la,lb⟩:=h;obtain ⟨na,hna⟩:∃ n,x.acc.length = n:=⟨_,rfl⟩;obtain ⟨nb,hnb⟩:∃ n,x.auths.length = n:=⟨_,rfl⟩;rw [hna] at hacc la ⊢;rw [hnb] at haut lb ⊢;have hG:=yaa (jr w none) (.cells (txC x (.slice pa na xa) (.slice pb nb xb)) 42);have hb:=Blk.new w 42 (txC x (.slice pa na xa) (.slice pb nb xb));have z:(txC x (.slice pa na xa) (.slice pb nb xb))[12]? = some (.string x.dst):=rfl;show Calls _ _ _ _ fun e w'=>e = .returned (.tuple #[.string x.dst,.bool true]) /\ w.grownBy w' none;generalize x.dst = d at *;generalize (txC x (.slice pa na xa) (.slice pb nb xb)) = ct at *;clear hacc haut la lb hB mx hna hnb;go_enter Tryz.func37,Tryz.ntmps37
 go_upto_region 1 with (fail)
 obtain ⟨g,hg⟩:∃ g,w.heap.size = g:=⟨_,rfl⟩;rw [hg] at hb ⊢;clear hg;have HG:=jh hG;clear hG;generalize w.alloc (.cells ct 42) = w1 at *;have c:=(hb.cell 12).trans z;clear hb z;go_wp2_with fail
 go_ret2
 exact ⟨rfl,HG.out⟩
theorem ylx (B:Nat) (ls:List TxV):yfo 42 (fun x=>.tuple #[.int .u64 (x.nonce:Int),.bool true]) B ls:=by
 intro x mx sa sb w h hB;obtain ⟨⟨pa,xa,rfl,hacc⟩,⟨pb,xb,rfl,haut⟩,la,lb⟩:=h;obtain ⟨na,hna⟩:∃ n,x.acc.length = n:=⟨_,rfl⟩;obtain ⟨nb,hnb⟩:∃ n,x.auths.length = n:=⟨_,rfl⟩;rw [hna] at hacc la ⊢;rw [hnb] at haut lb ⊢;have hG:=yaa (jr w none) (.cells (txC x (.slice pa na xa) (.slice pb nb xb)) 42);have hb:=Blk.new w 42 (txC x (.slice pa na xa) (.slice pb nb xb));have z:(txC x (.slice pa na xa) (.slice pb nb xb))[2]? = some (.int .u64 (x.nonce:Int)):=rfl;show Calls _ _ _ _ fun e w'=>e = .returned (.tuple #[.int .u64 (x.nonce:Int),.bool true]) /\ w.grownBy w' none;generalize x.nonce = d at *;generalize (txC x (.slice pa na xa) (.slice pb nb xb)) = ct at *;clear hacc haut la lb hB mx hna hnb;go_enter Tryz.func42,Tryz.ntmps42
 go_upto_region 1 with (fail)
 obtain ⟨g,hg⟩:∃ g,w.heap.size = g:=⟨_,rfl⟩;rw [hg] at hb ⊢;clear hg;have HG:=jh hG;clear hG;generalize w.alloc (.cells ct 42) = w1 at *;have c:=(hb.cell 2).trans z;clear hb z;go_wp2_with fail
 go_ret2
 exact ⟨rfl,HG.out⟩
theorem ykp (B:Nat) (ls:List TxV):yfo 44 (fun x=>.tuple #[.int .u64 (x.gas:Int),.bool true]) B ls:=by
 intro x mx sa sb w h hB;obtain ⟨⟨pa,xa,rfl,hacc⟩,⟨pb,xb,rfl,haut⟩,la,lb⟩:=h;obtain ⟨na,hna⟩:∃ n,x.acc.length = n:=⟨_,rfl⟩;obtain ⟨nb,hnb⟩:∃ n,x.auths.length = n:=⟨_,rfl⟩;rw [hna] at hacc la ⊢;rw [hnb] at haut lb ⊢;have hG:=yaa (jr w none) (.cells (txC x (.slice pa na xa) (.slice pb nb xb)) 42);have hb:=Blk.new w 42 (txC x (.slice pa na xa) (.slice pb nb xb));have z:(txC x (.slice pa na xa) (.slice pb nb xb))[11]? = some (.int .u64 (x.gas:Int)):=rfl;show Calls _ _ _ _ fun e w'=>e = .returned (.tuple #[.int .u64 (x.gas:Int),.bool true]) /\ w.grownBy w' none;generalize x.gas = d at *;generalize (txC x (.slice pa na xa) (.slice pb nb xb)) = ct at *;clear hacc haut la lb hB mx hna hnb;go_enter Tryz.func44,Tryz.ntmps44
 go_upto_region 1 with (fail)
 obtain ⟨g,hg⟩:∃ g,w.heap.size = g:=⟨_,rfl⟩;rw [hg] at hb ⊢;clear hg;have HG:=jh hG;clear hG;generalize w.alloc (.cells ct 42) = w1 at *;have c:=(hb.cell 11).trans z;clear hb z;go_wp2_with fail
 go_ret2
 exact ⟨rfl,HG.out⟩
theorem yko (B:Nat) (ls:List TxV):yfo 46 (fun x=>.tuple #[.bool (decide (x.chain ≠ 0)),.bool (decide (x.kind = 0))]) B ls:=by
 intro x mx sa sb w h hB;obtain ⟨⟨pa,xa,rfl,hacc⟩,⟨pb,xb,rfl,haut⟩,la,lb⟩:=h;obtain ⟨na,hna⟩:∃ n,x.acc.length = n:=⟨_,rfl⟩;obtain ⟨nb,hnb⟩:∃ n,x.auths.length = n:=⟨_,rfl⟩;rw [hna] at hacc la ⊢;rw [hnb] at haut lb ⊢;have hG:=yaa (jr w none) (.cells (txC x (.slice pa na xa) (.slice pb nb xb)) 42);have hb:=Blk.new w 42 (txC x (.slice pa na xa) (.slice pb nb xb));have z0:(txC x (.slice pa na xa) (.slice pb nb xb))[0]? = some (.int .i64 x.kind):=rfl;have z1:(txC x (.slice pa na xa) (.slice pb nb xb))[1]? = some (.int .u64 (x.chain:Int)):=rfl;have e1:((x.chain:Int) != 0) = decide (x.chain ≠ 0):=by by_cases hh:x.chain = 0 <;> simp [hh]
 have e2:(x.kind == 0) = decide (x.kind = 0):=by by_cases hh:x.kind = 0 <;> simp [hh]
 show Calls _ _ _ _ fun e w'=>e = .returned (.tuple #[.bool (decide (x.chain ≠ 0)),.bool (decide (x.kind = 0))]) /\ w.grownBy w' none;obtain ⟨ch,hch⟩:∃ d,x.chain = d:=⟨_,rfl⟩;obtain ⟨kd,hkd⟩:∃ d,x.kind = d:=⟨_,rfl⟩;rw [hch] at z1 e1 ⊢;rw [hkd] at z0 e2 ⊢;obtain ⟨d1,hd1⟩:∃ d0,decide (ch ≠ 0) = d0:=⟨_,rfl⟩;obtain ⟨d2,hd2⟩:∃ d0,decide (kd = 0) = d0:=⟨_,rfl⟩;rw [hd1] at e1 ⊢;rw [hd2] at e2 ⊢;clear hch hkd hd1 hd2;generalize (txC x (.slice pa na xa) (.slice pb nb xb)) = ct at *;clear hacc haut la lb hB mx hna hnb;go_enter Tryz.func46,Tryz.ntmps46
 go_upto_region 1 with (fail)
 obtain ⟨g,hg⟩:∃ g,w.heap.size = g:=⟨_,rfl⟩;rw [hg] at hb ⊢;clear hg;have HG:=jh hG;clear hG;generalize w.alloc (.cells ct 42) = w1 at *;have c0:=(hb.cell 0).trans z0;have c1:=(hb.cell 1).trans z1;clear hb z0 z1;have HGD:=jh (fun q=>yab HG.out (yae (ybo (jc5 w1.heap.size w1) q)) (by simp));cases d1 <;> cases d2 <;>
 (go_quiet (fail)
  go_wp2_with fail
  go_ret2
  exact ⟨rfl,HGD.out _⟩)
def fixN (p:Nat):List UInt8:=fixL [wp p 0,wp p 1,wp p 2,wp p 3]
def sigT (x:TxV):ByteArray:=⟨(fixN x.r ++ fixN x.s).toArray⟩
theorem yf9 (p:Nat) (w:World) :
  Calls jq 35 #[.agg #[.int .u64 (wp p 0:Nat),.int .u64 (wp p 1:Nat),.int .u64 (wp p 2:Nat),.int .u64 (wp p 3:Nat)]] w fun e w'=>e = .returned (.string ⟨(fixN p).toArray⟩) /\ w.grownBy w' none:=yim _ _ _ _ w
theorem yl0 (B:Nat) (ls:List TxV):yfo 34 (fun x=>.tuple #[.string (sigT x),.bool true]) B ls:=by
 intro x mx sa sb w h hB;obtain ⟨⟨pa,xa,rfl,hacc⟩,⟨pb,xb,rfl,haut⟩,la,lb⟩:=h;obtain ⟨na,hna⟩:∃ n,x.acc.length = n:=⟨_,rfl⟩;obtain ⟨nb,hnb⟩:∃ n,x.auths.length = n:=⟨_,rfl⟩;rw [hna] at hacc la ⊢;rw [hnb] at haut lb ⊢;have hG:=yaa (jr w none) (.cells (txC x (.slice pa na xa) (.slice pb nb xb)) 42);have hb:=Blk.new w 42 (txC x (.slice pa na xa) (.slice pb nb xb));have zr0:(txC x (.slice pa na xa) (.slice pb nb xb))[21]? = some (.int .u64 (wp x.r 0:Nat)):=rfl;have zr1:(txC x (.slice pa na xa) (.slice pb nb xb))[22]? = some (.int .u64 (wp x.r 1:Nat)):=rfl;have zr2:(txC x (.slice pa na xa) (.slice pb nb xb))[23]? = some (.int .u64 (wp x.r 2:Nat)):=rfl;have zr3:(txC x (.slice pa na xa) (.slice pb nb xb))[24]? = some (.int .u64 (wp x.r 3:Nat)):=rfl;have zs0:(txC x (.slice pa na xa) (.slice pb nb xb))[25]? = some (.int .u64 (wp x.s 0:Nat)):=rfl;have zs1:(txC x (.slice pa na xa) (.slice pb nb xb))[26]? = some (.int .u64 (wp x.s 1:Nat)):=rfl;have zs2:(txC x (.slice pa na xa) (.slice pb nb xb))[27]? = some (.int .u64 (wp x.s 2:Nat)):=rfl;have zs3:(txC x (.slice pa na xa) (.slice pb nb xb))[28]? = some (.int .u64 (wp x.s 3:Nat)):=rfl;have hfr:=fun V=>yf9 x.r V;have hfs:=fun V=>yf9 x.s V;have hsg:sigT x = (⟨(fixN x.r).toArray⟩:ByteArray) ++ ⟨(fixN x.s).toArray⟩:=by rw [ygK];rfl
 have hlr:(fixN x.r).length = 32:=ycq _;have hls:(fixN x.s).length = 32:=ycq _;have hzr:(⟨(fixN x.r).toArray⟩:ByteArray).size = 32:=(ydA _).trans hlr;have hzs:(⟨(fixN x.s).toArray⟩:ByteArray).size = 32:=(ydA _).trans hls;show Calls _ _ _ _ fun e w'=>e = .returned (.tuple #[.string (sigT x),.bool true]) /\ w.grownBy w' none;rw [hsg];generalize (⟨(fixN x.r).toArray⟩:ByteArray) = p at *;generalize (⟨(fixN x.s).toArray⟩:ByteArray) = q at *;generalize x.r = r at *;generalize x.s = s at *;generalize (txC x (.slice pa na xa) (.slice pb nb xb)) = ct at *;have HFR:=jh hfr;have HFS:=jh hfs;have HZR:=jh hzr;have HZS:=jh hzs;clear hacc haut la lb hB mx hna hnb hfr hfs hsg hlr hls hzr hzs;go_enter Tryz.func34,Tryz.ntmps34
 go_upto_region 1 with (fail)
 obtain ⟨g,hg⟩:∃ g,w.heap.size = g:=⟨_,rfl⟩;rw [hg] at hb ⊢;clear hg;have HG:=jh hG;clear hG;have l1:=hb.lt;rw [show g = g from rfl] at *;generalize w.alloc (.cells ct 42) = w1 at *;have HB:=jh hb;clear hb;have hC0:(fun V=>Below w1.heap.size w1 V) w1.drew:=⟨rfl,rfl,rfl,jle _,fun _ _=>rfl⟩;refine yaC (fun V=>Below w1.heap.size w1 V) (by kernel_rfl) (by kernel_rfl) hC0 ?_;have hcc:=ycN hC0;(try simp only [jp])
 (repeat go_big_quiet_step (fail))
 refine yad rfl (.agg #[.int .u64 (wp r 0:Nat),.int .u64 (wp r 1:Nat),.int .u64 (wp r 2:Nat),.int .u64 (wp r 3:Nat)]) (fun V hV=>yaA _ rfl rfl (((HB.out.below hV l1).cell 21).trans zr0) (((HB.out.below hV l1).cell 22).trans zr1) (((HB.out.below hV l1).cell 23).trans zr2) (((HB.out.below hV l1).cell 24).trans zr3)) ?_;simp only [jp,jb,jz,js];refine ybw (.string p) 35 #[.agg #[.int .u64 (wp r 0:Nat),.int .u64 (wp r 1:Nat),.int .u64 (wp r 2:Nat),.int .u64 (wp r 3:Nat)]] rfl (fun V=>yak _ (.tmp 5) _ rfl _ rfl (jeo Tryz.func35 (by kernel_rfl) rfl _ _)) (fun V hV=>HFR.out V) ?_;simp only [jp,jb,jz,js]
 (repeat go_big_quiet_step (fail))
 refine yad rfl (.agg #[.int .u64 (wp s 0:Nat),.int .u64 (wp s 1:Nat),.int .u64 (wp s 2:Nat),.int .u64 (wp s 3:Nat)]) (fun V hV=>yaA _ rfl rfl (((HB.out.below hV l1).cell 25).trans zs0) (((HB.out.below hV l1).cell 26).trans zs1) (((HB.out.below hV l1).cell 27).trans zs2) (((HB.out.below hV l1).cell 28).trans zs3)) ?_;simp only [jp,jb,jz,js];refine ybw (.string q) 35 #[.agg #[.int .u64 (wp s 0:Nat),.int .u64 (wp s 1:Nat),.int .u64 (wp s 2:Nat),.int .u64 (wp s 3:Nat)]] rfl (fun V=>yak _ (.tmp 8) _ rfl _ rfl (jeo Tryz.func35 (by kernel_rfl) rfl _ _)) (fun V hV=>HFS.out V) ?_;simp only [jp,jb,jz,js];refine yad rfl (.string (p ++ q)) (fun V hV=>yjh _ _ (.tmp 6) (.tmp 9) rfl p q rfl rfl (by rw [HZR.out,HZS.out];decide)) ?_;simp only [jp,jb,jz,js]
 (repeat go_big_quiet_step (fail))
 refine wpQuiet_nil ?_;intro w3 hw3;have HG:=jh (yab HG.out (yae hw3) (by simp));clear hcc hC0 hw3;go_wp2_with fail
 go_ret2
 exact ⟨rfl,HG.out⟩
structure ykb (x:TxV):Prop where
 ok:x.Ok
 kind:x.kind = 0 \/ x.kind = 1 \/ x.kind = 2
 acc:x.acc.length <= 16
 keys:∀ a ∈ x.acc,a.keys.length <= 1000
 wt:wtF (yaT x) <= 1000000000
 len:(encB (yaT x)).length <= 1000000000
def ybv (x:TxV):ByteArray:=⟨(ybS x).toArray⟩
theorem ykx (x:TxV) (hx:ykb x) (B:Nat) (pa:Option Addr) (na xa:Nat) (pb:Option Addr) (nb xb:Nat) (w:World) (hac:AccR B w x.acc pa na) (hB:B <= w.heap.size) (hna:na <= 16) :
  Calls jq 40 #[.agg (txC x (.slice pa na xa) (.slice pb nb xb))] w fun e w'=>e = .returned (.string (ybv x)) /\ w.grownBy w' none:=by
 obtain ⟨ok,kd,hacc,keys,wt,len⟩:=hx;exact ylC x B pa na xa pb nb xb w kd hac hB hna keys ok.value ok.tip ok.price wt len
theorem yly (B:Nat) (ls:List TxV) (hR:∀ x ∈ ls,ykb x):yfo 39 (fun x=>.tuple #[.string (ybv x),.bool true]) B ls:=by
 intro x mx sa sb w h hB;obtain ⟨⟨pa,xa,rfl,hacc⟩,⟨pb,xb,rfl,haut⟩,la,lb⟩:=h;obtain ⟨na,hna⟩:∃ n,x.acc.length = n:=⟨_,rfl⟩;obtain ⟨nb,hnb⟩:∃ n,x.auths.length = n:=⟨_,rfl⟩;rw [hna] at hacc la ⊢;rw [hnb] at haut lb ⊢;have hG:=yaa (jr w none) (.cells (txC x (.slice pa na xa) (.slice pb nb xb)) 42);have hb:=Blk.new w 42 (txC x (.slice pa na xa) (.slice pb nb xb));have hx:=hR x mx;have hac:=hacc.grown hG hB;have hcall:=fun V (hV:(w.alloc (.cells (txC x (.slice pa na xa) (.slice pb nb xb)) 42)).grownBy V none)=>ykx x hx B pa na xa pb nb xb V (hac.grown hV (jlt hB hG.size)) (jlt (jlt hB hG.size) hV.size) (by rw [<- hna];exact hx.acc);have hsz:(txC x (.slice pa na xa) (.slice pb nb xb)).size = 36:=rfl;show Calls _ _ _ _ fun e w'=>e = .returned (.tuple #[.string (ybv x),.bool true]) /\ w.grownBy w' none;generalize ybv x = rt at *;generalize (txC x (.slice pa na xa) (.slice pb nb xb)) = ct at *;have HCALL:=jh hcall;have HSZ:=jh hsz;clear hacc haut la lb hB mx hna hnb hx hac hcall hsz;go_enter Tryz.func39,Tryz.ntmps39
 go_upto_region 1 with (fail)
 obtain ⟨g,hg⟩:∃ g,w.heap.size = g:=⟨_,rfl⟩;rw [hg] at hb ⊢;clear hg;have HG:=jh hG;clear hG;generalize w.alloc (.cells ct 42) = w1 at *;refine jwl ?_;refine yac rfl (.agg ct) (yaq rfl rfl 42 ct _ hb ja3 rfl ((show (jq.info? 42).map (·.size) = some 36 by kernel_rfl).trans (congrArg some HSZ.out.symm))) ?_;simp only [jp,jb,jz,js];go_wp2_with fail
 refine (HCALL.out w1 (jr _ _)).mono ?_;rintro e w3 ⟨rfl,hg⟩;have HG:=jh (yab HG.out hg (by simp));clear hb hg;go_wp2_with fail
 go_ret2
 exact ⟨rfl,HG.out⟩
theorem yiL {w:World} {base:Nat} {e:TypeId} {n m c:Nat} {A:Option Addr} {xs:List Value} (h:w.ownsRow base e 1 (.slice A n c) m xs):n <= c:=by
 rcases h.2 with ⟨h1,_⟩ | ⟨g,cap,cur,hv,_,_,hn,_⟩
 ·injection h1 with _ h2 h3;omega
 ·injection hv with _ h2 h3;omega
theorem yf2 (f:FuncId) (vf:TxV -> Bool) (pf:TxV -> Bool) (hf:∀ (V:World) (v:Value),(callFunc f #[v]).run jq V = .ok (.enter f #[v]) V) (B:Nat) (A:Option Addr) (n c b:Nat) (ls:List TxV) (w:World) (h:TxsR B w ls A n) (hB:B <= w.heap.size) (hn:n <= 1000)
  (hbx:Boxed w b 22 (.slice A n c)) (hF:yfo f (fun x=>.tuple #[.bool (vf x),.bool (pf x)]) B ls) :
  Calls jq 20 #[.func (.func f) #[] #[],.pointer (some ⟨b,0,none⟩)] w fun e w'=>e = .returned (.string ⟨(yaD (colL vf pf ls)).toArray⟩) /\ w.grownBy w' none:=by
 have hcol:=yjp f vf pf hf B A n c ls w h hB (by omega) hF;have hlen:=ydL vf pf ls n;rw [jtl (by rw [h.1];exact jle _)] at hlen;have c0:=hbx.cell;obtain ⟨xs,hxs⟩:∃ xs,colL vf pf ls = xs:=⟨_,rfl⟩;rw [hxs] at hcol hlen ⊢;have HCOL:=jh hcol;have HLEN:=jh hlen;have HX:=jh hxs;clear hF h hB hcol hlen hxs hbx;go_enter Tryz.func20,Tryz.ntmps20
 go_wp2_with fail
 refine HCOL.out.mono ?_;rintro e w2 ⟨v,rfl,hown,hg⟩;obtain ⟨A',cc,rfl,hrd⟩:=yaN hown;have hcap:=yiL hown;have HRD:=jh hrd;have HG:=jh hg;have HCAP:=jh hcap;obtain ⟨m,hm⟩:∃ m,xs.length = m:=⟨_,rfl⟩;rw [hm] at HRD HLEN HCAP ⊢;clear hown hg hrd c0 hcap hm;go_wp2_with fail
 refine (yns _ A' m cc xs _ (jle _) HRD.out (by have:=HLEN.out;omega)).mono ?_;rintro e w3 ⟨rfl,hg⟩;have HG3:=jh (yab HG.out hg (by simp));clear hg;go_wp2_with fail
 go_ret
 exact ⟨rfl,HG3.out⟩
theorem yic (f:FuncId) (vf:TxV -> Int) (pf:TxV -> Bool) (hf:∀ (V:World) (v:Value),(callFunc f #[v]).run jq V = .ok (.enter f #[v]) V) (B:Nat) (A:Option Addr) (n c b:Nat) (ls:List TxV) (w:World) (h:TxsR B w ls A n) (hB:B <= w.heap.size) (hn:n <= 1000)
  (hbx:Boxed w b 22 (.slice A n c)) (hF:yfo f (fun x=>.tuple #[.int .u64 (vf x),.bool (pf x)]) B ls) (hw:∀ x ∈ ls,0 <= vf x /\ vf x <= 18446744073709551615) :
  Calls jq 23 #[.func (.func f) #[] #[],.pointer (some ⟨b,0,none⟩)] w fun e w'=>e = .returned (.string ⟨(rowL (colL vf pf ls)).toArray⟩) /\ w.grownBy w' none:=by
 have hcol:=yjo f vf pf hf B A n c ls w h hB (by omega) hF;have hlen:=ydL vf pf ls n;rw [jtl (by rw [h.1];exact jle _)] at hlen;have c0:=hbx.cell;obtain ⟨xs,hxs⟩:∃ xs,colL vf pf ls = xs:=⟨_,rfl⟩;rw [hxs] at hcol hlen ⊢;have HCOL:=jh hcol;have HLEN:=jh hlen;have HX:=jh hxs;clear hF h hB hcol hlen hxs hbx;go_enter Tryz.func23,Tryz.ntmps23
 go_wp2_with fail
 refine HCOL.out.mono ?_;rintro e w2 ⟨v,rfl,hown,hg⟩;obtain ⟨A',cc,rfl,hrd⟩:=yaN hown;have hcap:=yiL hown;have HRD:=jh hrd;have HG:=jh hg;have HCAP:=jh hcap;obtain ⟨m,hm⟩:∃ m,xs.length = m:=⟨_,rfl⟩;rw [hm] at HRD HLEN HCAP ⊢;clear hown hg hrd c0 hcap hm;go_wp2_with fail
 refine (yo9 _ A' m cc xs _ (jle _) HRD.out (by rw [<- HX.out];intro x hx;unfold colL at hx;obtain ⟨t,ht,rfl⟩:=List.mem_map.1 hx;exact hw t (List.mem_filter.1 ht).1) (by have:=HLEN.out;omega)).mono ?_;rintro e w3 ⟨rfl,hg⟩;have HG3:=jh (yab HG.out (yae hg) (by simp));clear hg;go_wp2_with fail
 go_ret
 exact ⟨rfl,HG3.out⟩
theorem yf1 (f:FuncId) (vf:TxV -> ByteArray) (pf:TxV -> Bool) (hf:∀ (V:World) (v:Value),(callFunc f #[v]).run jq V = .ok (.enter f #[v]) V) (B:Nat) (A:Option Addr) (n c b:Nat) (ls:List TxV) (w:World) (h:TxsR B w ls A n) (hB:B <= w.heap.size) (hn:n <= 1000)
  (hbx:Boxed w b 22 (.slice A n c)) (hF:yfo f (fun x=>.tuple #[.string (vf x),.bool (pf x)]) B ls) (hlc:(catB (colL vf pf ls)).length <= 1000000000) :
  Calls jq 26 #[.func (.func f) #[] #[],.pointer (some ⟨b,0,none⟩)] w fun e w'=>e = .returned (.string ⟨(catB (colL vf pf ls)).toArray⟩) /\ w.grownBy w' none:=by
 have hcol:=yjn f vf pf hf B A n c ls w h hB (by omega) hF;have hlen:=ydL vf pf ls n;rw [jtl (by rw [h.1];exact jle _)] at hlen;have c0:=hbx.cell;obtain ⟨xs,hxs⟩:∃ xs,colL vf pf ls = xs:=⟨_,rfl⟩;rw [hxs] at hcol hlen ⊢;have HCOL:=jh hcol;have HLEN:=jh hlen;have HX:=jh hxs;clear hF h hB hcol hlen hxs hbx;go_enter Tryz.func26,Tryz.ntmps26
 go_wp2_with fail
 refine HCOL.out.mono ?_;rintro e w2 ⟨v,rfl,hown,hg⟩;obtain ⟨A',cc,rfl,hrd⟩:=yaN hown;have hcap:=yiL hown;have HRD:=jh hrd;have HG:=jh hg;have HCAP:=jh hcap;obtain ⟨m,hm⟩:∃ m,xs.length = m:=⟨_,rfl⟩;rw [hm] at HRD HLEN HCAP ⊢;clear hown hg hrd c0 hcap hm;go_wp2_with fail
 refine (yjO _ A' m cc xs _ (jle _) HRD.out (by have:=HLEN.out;omega) HCAP.out (by rw [<- HX.out];omega)).mono ?_;rintro e w3 ⟨rfl,hg⟩;have HG3:=jh (yab HG.out (yae hg) (by simp));clear hg;go_wp2_with fail
 go_ret
 exact ⟨rfl,HG3.out⟩
theorem yoc (B:Nat) (A:Option Addr) (n c b p:Nat) (ls:List TxV) (w:World) (h:TxsR B w ls A n) (hB:B <= w.heap.size) (hn:n <= 1000) (hbx:Boxed w b 22 (.slice A n c)) (hp:Boxed w p 49 (.func (.func 20) #[] #[.pointer (some ⟨b,0,none⟩)])) :
  Calls jq 29 #[.pointer (some ⟨p,0,none⟩)] w fun e w'=>e = .returned (.string ⟨(yaD (colL (fun x:TxV=>decide (x.dst.size = 0)) (fun _=>true) ls)).toArray⟩) /\ w.grownBy w' none:=by
 have HC:=jh (yf2 30 (fun x=>decide (x.dst.size = 0)) (fun _=>true) (fun V v=>jeo Tryz.func30 (by kernel_rfl) rfl _ _) B A n c b ls w h hB hn hbx (yl2 B ls));have c0:=hp.cell;obtain ⟨R,hR⟩:∃ R,yaD (colL (fun x:TxV=>decide (x.dst.size = 0)) (fun _=>true) ls) = R:=⟨_,rfl⟩;rw [hR] at HC ⊢;clear h hB hbx hp hR;go_enter Tryz.func29,Tryz.ntmps29
 go_wp2_with fail
 refine HC.out.mono ?_;rintro e w2 ⟨rfl,hg⟩;have HG:=jh hg;clear hg c0 HC;go_wp2_with fail
 go_ret
 exact ⟨rfl,HG.out⟩
theorem yob (B:Nat) (A:Option Addr) (n c b p:Nat) (ls:List TxV) (w:World) (h:TxsR B w ls A n) (hB:B <= w.heap.size) (hn:n <= 1000) (hbx:Boxed w b 22 (.slice A n c)) (hp:Boxed w p 49 (.func (.func 20) #[] #[.pointer (some ⟨b,0,none⟩)])) :
  Calls jq 31 #[.pointer (some ⟨p,0,none⟩)] w fun e w'=>e = .returned (.string ⟨(yaD (colL (fun x:TxV=>decide (x.y = 1)) (fun _=>true) ls)).toArray⟩) /\ w.grownBy w' none:=by
 have HC:=jh (yf2 32 (fun x=>decide (x.y = 1)) (fun _=>true) (fun V v=>jeo Tryz.func32 (by kernel_rfl) rfl _ _) B A n c b ls w h hB hn hbx (yl1 B ls));have c0:=hp.cell;obtain ⟨R,hR⟩:∃ R,yaD (colL (fun x:TxV=>decide (x.y = 1)) (fun _=>true) ls) = R:=⟨_,rfl⟩;rw [hR] at HC ⊢;clear h hB hbx hp hR;go_enter Tryz.func31,Tryz.ntmps31
 go_wp2_with fail
 refine HC.out.mono ?_;rintro e w2 ⟨rfl,hg⟩;have HG:=jh hg;clear hg c0 HC;go_wp2_with fail
 go_ret
 exact ⟨rfl,HG.out⟩
theorem yoa (B:Nat) (A:Option Addr) (n c b p:Nat) (ls:List TxV) (w:World) (h:TxsR B w ls A n) (hB:B <= w.heap.size) (hn:n <= 1000) (hbx:Boxed w b 22 (.slice A n c)) (hp:Boxed w p 59 (.func (.func 26) #[] #[.pointer (some ⟨b,0,none⟩)])) (hlc:(catB (colL sigT (fun _=>true) ls)).length <= 1000000000) :
  Calls jq 33 #[.pointer (some ⟨p,0,none⟩)] w fun e w'=>e = .returned (.string ⟨(catB (colL sigT (fun _=>true) ls)).toArray⟩) /\ w.grownBy w' none:=by
 have HC:=jh (yf1 34 sigT (fun _=>true) (fun V v=>jeo Tryz.func34 (by kernel_rfl) rfl _ _) B A n c b ls w h hB hn hbx (yl0 B ls) hlc);have c0:=hp.cell;obtain ⟨R,hR⟩:∃ R,catB (colL sigT (fun _=>true) ls) = R:=⟨_,rfl⟩;rw [hR] at HC ⊢;clear h hB hbx hp hR;go_enter Tryz.func33,Tryz.ntmps33
 go_wp2_with fail
 refine HC.out.mono ?_;rintro e w2 ⟨rfl,hg⟩;have HG:=jh hg;clear hg c0 HC;go_wp2_with fail
 go_ret
 exact ⟨rfl,HG.out⟩
theorem ynZ (B:Nat) (A:Option Addr) (n c b p:Nat) (ls:List TxV) (w:World) (h:TxsR B w ls A n) (hB:B <= w.heap.size) (hn:n <= 1000) (hbx:Boxed w b 22 (.slice A n c)) (hp:Boxed w p 59 (.func (.func 26) #[] #[.pointer (some ⟨b,0,none⟩)])) (hlc:(catB (colL (fun x:TxV=>x.dst) (fun _=>true) ls)).length <= 1000000000) :
  Calls jq 36 #[.pointer (some ⟨p,0,none⟩)] w fun e w'=>e = .returned (.string ⟨(catB (colL (fun x:TxV=>x.dst) (fun _=>true) ls)).toArray⟩) /\ w.grownBy w' none:=by
 have HC:=jh (yf1 37 (fun x=>x.dst) (fun _=>true) (fun V v=>jeo Tryz.func37 (by kernel_rfl) rfl _ _) B A n c b ls w h hB hn hbx (ylz B ls) hlc);have c0:=hp.cell;obtain ⟨R,hR⟩:∃ R,catB (colL (fun x:TxV=>x.dst) (fun _=>true) ls) = R:=⟨_,rfl⟩;rw [hR] at HC ⊢;clear h hB hbx hp hR;go_enter Tryz.func36,Tryz.ntmps36
 go_wp2_with fail
 refine HC.out.mono ?_;rintro e w2 ⟨rfl,hg⟩;have HG:=jh hg;clear hg c0 HC;go_wp2_with fail
 go_ret
 exact ⟨rfl,HG.out⟩
theorem ynY (B:Nat) (A:Option Addr) (n c b p:Nat) (ls:List TxV) (w:World) (h:TxsR B w ls A n) (hB:B <= w.heap.size) (hn:n <= 1000) (hbx:Boxed w b 22 (.slice A n c)) (hp:Boxed w p 59 (.func (.func 26) #[] #[.pointer (some ⟨b,0,none⟩)])) (hRest:∀ x ∈ ls,ykb x) (hlc:(catB (colL ybv (fun _=>true) ls)).length <= 1000000000) :
  Calls jq 38 #[.pointer (some ⟨p,0,none⟩)] w fun e w'=>e = .returned (.string ⟨(catB (colL ybv (fun _=>true) ls)).toArray⟩) /\ w.grownBy w' none:=by
 have HC:=jh (yf1 39 ybv (fun _=>true) (fun V v=>jeo Tryz.func39 (by kernel_rfl) rfl _ _) B A n c b ls w h hB hn hbx (yly B ls hRest) hlc);have c0:=hp.cell;obtain ⟨R,hR⟩:∃ R,catB (colL ybv (fun _=>true) ls) = R:=⟨_,rfl⟩;rw [hR] at HC ⊢;clear h hB hbx hp hR;go_enter Tryz.func38,Tryz.ntmps38
 go_wp2_with fail
 refine HC.out.mono ?_;rintro e w2 ⟨rfl,hg⟩;have HG:=jh hg;clear hg c0 HC;go_wp2_with fail
 go_ret
 exact ⟨rfl,HG.out⟩
theorem ynX (B:Nat) (A:Option Addr) (n c b p:Nat) (ls:List TxV) (w:World) (h:TxsR B w ls A n) (hB:B <= w.heap.size) (hn:n <= 1000) (hbx:Boxed w b 22 (.slice A n c)) (hp:Boxed w p 54 (.func (.func 23) #[] #[.pointer (some ⟨b,0,none⟩)])) (hw:∀ x ∈ ls,x.Ok) :
  Calls jq 41 #[.pointer (some ⟨p,0,none⟩)] w fun e w'=>e = .returned (.string ⟨(rowL (colL (fun x:TxV=>(x.nonce:Int)) (fun _=>true) ls)).toArray⟩) /\ w.grownBy w' none:=by
 have HC:=jh (yic 42 (fun x=>(x.nonce:Int)) (fun _=>true) (fun V v=>jeo Tryz.func42 (by kernel_rfl) rfl _ _) B A n c b ls w h hB hn hbx (ylx B ls) (fun x hx=>by have:=(hw x hx).nonce;omega));have c0:=hp.cell;obtain ⟨R,hR⟩:∃ R,rowL (colL (fun x:TxV=>(x.nonce:Int)) (fun _=>true) ls) = R:=⟨_,rfl⟩;rw [hR] at HC ⊢;clear h hB hbx hp hR;go_enter Tryz.func41,Tryz.ntmps41
 go_wp2_with fail
 refine HC.out.mono ?_;rintro e w2 ⟨rfl,hg⟩;have HG:=jh hg;clear hg c0 HC;go_wp2_with fail
 go_ret
 exact ⟨rfl,HG.out⟩
theorem ymE (B:Nat) (A:Option Addr) (n c b p:Nat) (ls:List TxV) (w:World) (h:TxsR B w ls A n) (hB:B <= w.heap.size) (hn:n <= 1000) (hbx:Boxed w b 22 (.slice A n c)) (hp:Boxed w p 54 (.func (.func 23) #[] #[.pointer (some ⟨b,0,none⟩)])) (hw:∀ x ∈ ls,x.Ok) :
  Calls jq 43 #[.pointer (some ⟨p,0,none⟩)] w fun e w'=>e = .returned (.string ⟨(rowL (colL (fun x:TxV=>(x.gas:Int)) (fun _=>true) ls)).toArray⟩) /\ w.grownBy w' none:=by
 have HC:=jh (yic 44 (fun x=>(x.gas:Int)) (fun _=>true) (fun V v=>jeo Tryz.func44 (by kernel_rfl) rfl _ _) B A n c b ls w h hB hn hbx (ykp B ls) (fun x hx=>by have:=(hw x hx).gas;omega));have c0:=hp.cell;obtain ⟨R,hR⟩:∃ R,rowL (colL (fun x:TxV=>(x.gas:Int)) (fun _=>true) ls) = R:=⟨_,rfl⟩;rw [hR] at HC ⊢;clear h hB hbx hp hR;go_enter Tryz.func43,Tryz.ntmps43
 go_wp2_with fail
 refine HC.out.mono ?_;rintro e w2 ⟨rfl,hg⟩;have HG:=jh hg;clear hg c0 HC;go_wp2_with fail
 go_ret
 exact ⟨rfl,HG.out⟩
theorem ymD (B:Nat) (A:Option Addr) (n c b p:Nat) (ls:List TxV) (w:World) (h:TxsR B w ls A n) (hB:B <= w.heap.size) (hn:n <= 1000) (hbx:Boxed w b 22 (.slice A n c)) (hp:Boxed w p 49 (.func (.func 20) #[] #[.pointer (some ⟨b,0,none⟩)])) :
  Calls jq 45 #[.pointer (some ⟨p,0,none⟩)] w fun e w'=>e = .returned (.string ⟨(yaD (colL (fun x:TxV=>decide (x.chain ≠ 0)) (fun x:TxV=>decide (x.kind = 0)) ls)).toArray⟩) /\ w.grownBy w' none:=by
 have HC:=jh (yf2 46 (fun x=>decide (x.chain ≠ 0)) (fun x=>decide (x.kind = 0)) (fun V v=>jeo Tryz.func46 (by kernel_rfl) rfl _ _) B A n c b ls w h hB hn hbx (yko B ls));have c0:=hp.cell;obtain ⟨R,hR⟩:∃ R,yaD (colL (fun x:TxV=>decide (x.chain ≠ 0)) (fun x:TxV=>decide (x.kind = 0)) ls) = R:=⟨_,rfl⟩;rw [hR] at HC ⊢;clear h hB hbx hp hR;go_enter Tryz.func45,Tryz.ntmps45
 go_wp2_with fail
 refine HC.out.mono ?_;rintro e w2 ⟨rfl,hg⟩;have HG:=jh hg;clear hg c0 HC;go_wp2_with fail
 go_ret
 exact ⟨rfl,HG.out⟩
end Go.Proofs.YtgclnikdkfpflaaGreatDoor
