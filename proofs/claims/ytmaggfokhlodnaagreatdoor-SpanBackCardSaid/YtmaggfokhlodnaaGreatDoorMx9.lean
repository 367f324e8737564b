/- Merged: CgI, CgJ0, CgJ1, CgJ2, CpG0, SpF, SpG. -/
import Derived.Test.YtmaggfokhlodnaaGreatDoorMx1
import Derived.Test.YtmaggfokhlodnaaGreatDoorMx5
import Derived.Test.YtmaggfokhlodnaaGreatDoorMx8
import Derived.Deep.DeepCutAuto
import Derived.Great.BuildSlice
namespace Go.Proofs.YtmaggfokhlodnaaGreatDoor
open Go.RowKit Go.Shelf
open List renaming set_cons_zero → jz, set_cons_succ → js, setIfInBounds_toArray → jb
set_option linter.unusedVariables false
set_option linter.unusedSimpArgs false
set_option maxRecDepth 100000
set_option maxHeartbeats 16000000
open Lib renaming hid → jh
open Act renaming put → jp
open World.grownBy renaming refl → jr
open _root_.List renaming getD_eq_getElem?_getD → jg, getElem?_eq_getElem → je, getElem?_cons_zero → jcz, getElem?_cons_succ → jcs, getElem?_toArray → jta, length_append → jla, getElem?_append_right → jar, getElem?_append_left → jal, take_succ_eq_append_getElem → jtk, take_of_length_le → jtl, drop_eq_getElem_cons → jdc, length_cons → jlc, getElem?_map → jgm, finRange → ja4, map_cons → ja8, getElem?_take_of_lt → ja9, setIfInBounds_toArray → jb4, length_take → jc0, getElem_mem → jc1, replicate → jc4, getElem?_eq_some_iff → jc6, cons_append → jc9, size_toArray → jd5
open _root_.Option.some renaming inj → ji
open _root_.Array renaming getElem?_eq_some_iff → jes, length_toList → jb0, replicate → je2
open World renaming ownsRow_nil → jon, setCell → jd6, block_lt_of_cell? → jd7
open IntWalk renaming i64_in → jii
open _root_.Nat renaming le_trans → jlt, le_refl → jle, lt_of_lt_of_le → jb6, zero_add → je1
open _root_.Go.Proofs.Tryz renaming prog → jq, underlying25 → ja3, underlying49 → ja5, underlying3 → jb9
open Go renaming wp_region_list → jwl, wpList_nil → jwn, wpAnyH_done → jwd, wp_region_held → jwh, setRow_other → jso, run_append_own_at → jra, wpList_store_row → jsw
open _root_.Go.Proofs renaming enters_of → jeo
open _root_.Option renaming some → ja1, isSome_iff_exists → je0
open Value renaming oneCell' → ja2
open Below renaming refl → jd1
def OutI (s:ByteArray) (a:Nat) (E:Int) (y:Itm) (a2:Nat) (E2:Int):Prop :=
 (∃ T,E = 0 /\ itR s.data.toList a = .ok (y,T) /\ E2 = 0 /\ a2 = T) \/ (E2 ≠ 0 /\ (E ≠ 0 -> E2 = E) /\ (E = 0 -> itR s.data.toList a = .error E2))
theorem ItEnd.uni {s:ByteArray} {a r:Nat} {E:Int} {w w':World} {e:Ending} (h:ItEnd s a E r w e w') :
  ∃ y sA sc a2 E2,e = .returned (.agg #[.bool y.list,.string y.bytes,.slice sA y.items.length sc]) /\ w.grownBy w' (some r) /\ Blk w' r 155 (rdC s a2 E2) /\ a2 <= s.size /\ SubV (fun g=>w.heap.size <= g) w' y.items (.slice sA y.items.length sc) /\ OutI s a E y a2 E2:=by
 obtain ⟨lst,b,sA,sn,sc,a',E',rfl,hg,hb,ha,hh⟩:=h;rcases hh with ⟨y,T,h0,hit,hE,hT,hl,hbb,hs⟩ | ⟨h1,h2,h3,hl,hbb,hs⟩
 ·have hn:=hs.row.1;subst hl;subst hbb;subst hn;exact ⟨y,sA,sc,a',E',rfl,hg,hb,ha,hs,.inl ⟨T,h0,hit,hE,hT⟩⟩
 ·cases hs;subst hl;subst hbb;exact ⟨Itm.mk false ⟨#[]⟩ [],none,0,a',E',rfl,hg,hb,ha,ygr _ _,.inr ⟨h1,h2,h3⟩⟩
theorem ydU {P:Program} {a:Act} {o:Oper} {W:World} (f:FuncId) (y:Operand) (ts:Array TypeId) (c:Value) (ho:o.op = .call { callee:=.value y,args:=#[],argTypes:=ts }) (hy:a.eval y = .func (.func f) #[] #[c]) (hf:(callFunc f #[c]).run P W = .ok (.enter f #[c]) W):(execOp a.eval o).run P W = .ok (.enter f #[c]) W:=by
 unfold execOp;generalize a.eval = ev at *;simp only [ho];simp [resolve,invoke,go_sem,hy,hf]
theorem ya2 {u:World} {g:Nat} {C:Array Value} {t:TypeId} (h:Blk u g t C) (o:Nat) (vs:List Value):u.setCells g o vs = u.setRow g (putA o vs C):=by
 have h1:=setRow_self u g C t (0,0) h;have h2:=ycz h vs o C;rw [h1] at h2;exact h2
theorem ydb {P:Program} {a:Act} {o:Oper} {W:World} (f:FuncId) (x y z q:Operand) (ts:Array TypeId) (ho:o.op = .call { callee:=.value (.func f),args:=#[x,y,z,q],argTypes:=ts }) (v u t k:Value) (hx:a.eval x = v) (hy:a.eval y = u) (hz:a.eval z = t) (hq:a.eval q = k)
  (hf:(callFunc f #[v,u,t,k]).run P W = .ok (.enter f #[v,u,t,k]) W):(execOp a.eval o).run P W = .ok (.enter f #[v,u,t,k]) W:=by
 have he:a.eval (.func f) = .func (.func f) #[] #[]:=rfl;unfold execOp;generalize a.eval = ev at *;simp only [ho];simp [resolve,invoke,go_sem,hx,hy,hz,hq,he,hf]
theorem yl7 {u:World} {g o:Nat} {C:Array Value} {t:TypeId} (h:Blk u g t C) (v:Value):u.setCell ⟨g,o,none⟩ v = u.setRow g (putA o [v] C):=by
 have h1:=setRow_self u g C t (0,0) h;have h2:=ydF h C o v;rw [h1] at h2;exact h2
def yfT (s:ByteArray) (a:Nat) (E:Int) (r gl o:Nat) (C:Array Value) (w:World) (e:Ending) (w':World):Prop :=
 ∃ a' E' C',e = .returned (.tuple #[]) /\ Blk w' r 155 (rdC s a' E') /\ a' <= s.size /\ Blk w' gl 49 C' /\ C'.size = C.size /\ (∀ j,j < o \/ o + 36 <= j -> C'[j]? = C[j]?) /\ C'[o]? = some (.int .i64 (kdV s a E:Nat)) /\ Gr2 w w' r gl /\
  ((E' ≠ 0 /\ ycg s a E = .error E') \/
   (∃ zs T A c vs,E' = 0 /\ ycg s a E = .ok (zs,T) /\ a' = T /\ C' = gotC (kdV s a E) o zs C (.slice A (gotA (kdV s a E) zs).1.length c) /\ (kdV s a E ≠ 0 -> AccSt w.heap.size (.slice A (gotA (kdV s a E) zs).1.length c) (gotA (kdV s a E) zs).1.length (gotA (kdV s a E) zs).1 vs w')))
def OutA (s:ByteArray) (a:Nat) (E:Int) (a3:Nat) (E3:Int) (zs:List Itm):Prop :=
 (E3 ≠ 0 /\ ycg s a E = .error E3) \/ (E3 = 0 /\ kdE s a E = 0 /\ ∃ y,itR s.data.toList (kdA s a) = .ok (y,a3) /\ rwF (3 + (kdV s a E:Nat)) (3 + (kdV s a E:Nat)) y 0 = 0 /\ zs = y.items /\ zs.length = 3 + kdV s a E)
theorem yiI {s:ByteArray} {a a1 a2:Nat} {E E2:Int} {y:Itm} (h1:kdE s a E = 0 -> a1 = kdA s a) (h:OutI s a1 (kdE s a E) y a2 E2):OutA s a E a2 (rwF (3 + (kdV s a E:Nat)) (3 + (kdV s a E:Nat)) y E2) (rwL (3 + (kdV s a E:Nat)) (3 + (kdV s a E:Nat)) y E2):=by
 rcases h with ⟨T,h0,hit,rfl,rfl⟩ | ⟨h2,h3,h4⟩
 ·rw [h1 h0] at hit
  have hR:ycg s a E = if rwF (3 + (kdV s a E:Nat)) (3 + (kdV s a E:Nat)) y 0 ≠ 0 then .error (rwF (3 + (kdV s a E:Nat)) (3 + (kdV s a E:Nat)) y 0) else
   if (gotA (kdV s a E) y.items).2 ≠ 0 then .error (gotA (kdV s a E) y.items).2 else .ok (y.items,a2):=by
   unfold ycg;rw [if_neg (by rw [h0];simp),hit]
  by_cases hF:rwF (3 + (kdV s a E:Nat)) (3 + (kdV s a E:Nat)) y 0 = 0
  ·have hF':rwE y.list y.items.length (3 + (kdV s a E:Nat)) (3 + (kdV s a E:Nat)) 0 = 0:=hF;have hfit:=ycK (ykl hF').2.2;have hL:rwL (3 + (kdV s a E:Nat)) (3 + (kdV s a E:Nat)) y 0 = y.items:=by unfold rwL;rw [if_pos hF']
   exact .inr ⟨hF,h0,y,hit,hF,hL,by rw [hL];omega⟩
  ·exact .inl ⟨hF,by rw [hR,if_pos hF]⟩
 ·have hF:rwF (3 + (kdV s a E:Nat)) (3 + (kdV s a E:Nat)) y E2 = E2:=by unfold rwF rwE;rw [if_neg h2]
  refine .inl ⟨by rw [hF];exact h2,?_⟩;rw [hF];by_cases h0:kdE s a E = 0
  ·have hit:=h4 h0;rw [h1 h0] at hit;unfold ycg;rw [if_neg (by rw [h0];simp),hit]
  ·unfold ycg;rw [if_pos h0,h3 h0]
theorem yjH (s:ByteArray) (a:Nat) (E:Int):kdV s a E = 0 \/ kdV s a E = 1 \/ kdV s a E = 2:=by
 unfold kdV;split
 ·exact .inl rfl
 split
 ·exact .inl rfl
 split
 ·exact .inl rfl
 split
 ·exact .inl rfl
 ·rename_i h;omega
theorem ylF (s:ByteArray) (a:Nat) (E:Int) (r gl o:Nat) (C:Array Value) (w:World) (h:Blk w r 155 (rdC s a E)) (hrow:Blk w gl 49 C) (hfit:o + 36 <= C.size) (hne:r ≠ gl) (hs:s.size <= 1000000000000) (ha:a <= s.size) (hzb:∀ y T,itR s.data.toList (kdA s a) = .ok (y,T) -> ∀ z ∈ y.items,z.bytes.size <= 9223372036854775807) :
  Calls jq 119 #[.pointer (some ⟨r,0,none⟩),.pointer (some ⟨gl,o,none⟩)] w (yfT s a E r gl o C w):=by
 have HKD:=jh (ymj s a E r w h hs ha);have hrl:=h.lt;have hll:=hrow.lt;obtain ⟨kd,hkd⟩:∃ k,kdV s a E = k:=⟨_,rfl⟩;have hk2:=yjH s a E;rw [hkd] at HKD hk2;have HKV:=jh hkd;have HK2:=jh hk2;have HROW:=jh hrow;have HFIT:=jh hfit;have HNE:=jh hne;have HS:=jh hs;have HRL:=jh hrl;have HLL:=jh hll;have HZB0:=jh hzb;clear h hrow hfit hne hs ha hrl hll hkd hk2 hzb;go_enter Tryz.func119,Tryz.ntmps119
 go_wp2_with fail
 refine HKD.out.mono ?_;rintro e w2 ⟨rfl,⟨a1,ha1,hka,hb2⟩,hg2⟩;have hne:=HNE.out;have hrow2:Blk w2 gl 49 C:=HROW.out.grown hg2 (fun e=>hne (ji e).symm)
 have hcell:w2.cell? ⟨gl,o,none⟩ = some (C.getD o undef):=by
  rw [hrow2.cell,Array.getD_eq_getD_getElem?,Array.getElem?_eq_getElem (by have:=HFIT.out;omega)];rfl
 have hfro:=hrow2.frozen o;have hset:=yl7 (o:=o) hrow2 (.int .i64 (kd:Int));have HG2:=jh ((Gr2.refl w r gl).grown hg2 (fun k e=>.inl (ji e).symm));obtain ⟨old,hold⟩:∃ v,C.getD o undef = v:=⟨_,rfl⟩;rw [hold] at hcell;have HB2:=jh hb2;have HROW2:=jh hrow2;have HA1:=jh ha1;have HKA:=jh hka;have HSET:=jh hset;clear hb2 hg2 ha1 hka hrow2 hold hset hne HKD;go_upto_region 1 with (fail)
 rw [HSET.out];clear hcell hfro;obtain ⟨C1,hC1⟩:∃ X,putA o [.int .i64 (kd:Int)] C = X:=⟨_,rfl⟩;have hz1:C1.size = C.size:=by rw [<- hC1];exact yc0 _ _ _
 have hk1:C1[o]? = some (.int .i64 (kd:Int)):=by
  rw [<- hC1];show (C.setIfInBounds o _)[o]? = _;rw [Array.getElem?_setIfInBounds_self_of_lt (by have:=HFIT.out;omega)]
 rw [hC1];have HC1:=jh hC1;have HZ1:=jh hz1;have HK1:=jh hk1;have hb3:Blk (w2.setRow gl C1) r 155 (rdC s a1 (kdE s a E)):=(jso w2 gl r C1 HNE.out).trans HB2.out;have hrow3:Blk (w2.setRow gl C1) gl 49 C1:=yay HROW2.out;have hg3:=HG2.out.setRow C1;clear hC1 hz1 hk1 HSET HB2 HROW2 HG2;generalize w2.setRow gl C1 = w3 at *
 have hwk:IntKind.i64.wrap (3 + (kd:Int)) = 3 + (kd:Int):=by
  have:=ya5 (k:=3 + kd) (by have:=HK2.out;omega);simpa using this
 obtain ⟨KE,hKE⟩:∃ e,kdE s a E = e:=⟨_,rfl⟩;rw [hKE] at hb3;have HKE:=jh hKE;clear hKE;go_cut [4] (fun v wx=>∃ (p a3:Nat) (E3:Int) (zs:List Itm),v = .pointer (some ⟨p,0,none⟩) /\ RsA w s r gl o (kd:Int) a3 E3 C1 p wx.heap.size zs wx /\ a3 <= s.size /\ Hid (OutA s a E a3 E3 zs))
 case first =>
  have HB3:=jh hb3;have HROW3:=jh hrow3;have HG3:=jh hg3;refine jwh (S:=fun V=>Blk V gl 49 C1) (by kernel_rfl) ?_;change wpAnyH _ _ _ _ _ _ _ _ w3.drew;have hS:Blk w3.drew gl 49 C1:=hrow3;have hrd:Blk w3.drew r 155 (rdC s a1 KE):=hb3;have hgr:Gr2 w w3.drew r gl:=hg3.grown (yau (jr w3 none)) (fun k e=>by cases e);clear hb3 hrow3 hg3;have hz0:w.heap.size <= w3.drew.heap.size:=hgr.size;generalize w3.drew = u0 at *;refine zt 0 (.pointer (some ⟨r,0,none⟩)) (some 18) rfl (fun W hW=>by go_simp) hS ?_;simp only [jp,jb,jz,js];refine zt 1 (.pointer (some ⟨r,0,none⟩)) (some 19) rfl (fun W hW=>by go_simp) hS ?_;simp only [jp,jb,jz,js];refine zt 3 (.pointer (some ⟨gl,o,none⟩)) (some 21) rfl (fun W hW=>by go_simp) hS ?_;simp only [jp,jb,jz,js];refine zt 4 (.pointer (some ⟨gl,o,none⟩)) (some 22) rfl (fun W hW=>by go_simp) hS ?_;simp only [jp,jb,jz,js];refine zt 5 (.pointer (some ⟨gl,o,none⟩)) (some 23) rfl (fun W hW=>by go_simp) hS ?_;simp only [jp,jb,jz,js];refine zt 6 (.int .i64 (kd:Int)) (some 24) rfl (fun W hW=>yaj 3 (.tmp 23) rfl _ rfl _ _ jb9 rfl ((Blk.cell hW o).trans HK1.out)) hS ?_;simp only [jp,jb,jz,js];refine zt 7 (.int .i64 (3 + (kd:Int))) (some 25) rfl (fun W hW=>by go_simp) hS ?_;simp only [jp,jb,jz,js];refine zt 8 (.pointer (some ⟨gl,o,none⟩)) (some 26) rfl (fun W hW=>by go_simp) hS ?_;simp only [jp,jb,jz,js];refine zt 9 (.pointer (some ⟨gl,o,none⟩)) (some 27) rfl (fun W hW=>by go_simp) hS ?_;simp only [jp,jb,jz,js];refine zt 10 (.pointer (some ⟨gl,o,none⟩)) (some 28) rfl (fun W hW=>by go_simp) hS ?_;simp only [jp,jb,jz,js];refine zt 11 (.int .i64 (kd:Int)) (some 29) rfl (fun W hW=>yaj 3 (.tmp 28) rfl _ rfl _ _ jb9 rfl ((Blk.cell hW o).trans HK1.out)) hS ?_;simp only [jp,jb,jz,js];refine zt 12 (.int .i64 (3 + (kd:Int))) (some 30) rfl (fun W hW=>by go_simp) hS ?_;simp only [jp,jb,jz,js];refine ybm (i:=2) (j:=14) (by kernel_rfl) ?_ ?_
  ·skip
   refine yat (some 20) rfl rfl 146 #[.pointer (some ⟨r,0,none⟩)] (yam _ (.tmp 19) _ rfl _ rfl (jeo Tryz.func146 (by kernel_rfl) rfl _ _)) rfl ((yif s a1 KE r u0 hrd HS.out HA1.out).mono ?_);intro e u1 hend;obtain ⟨y,sA,sc,a2,E2,rfl,hg,hrd',ha2,hsub,hout⟩:=hend.uni;have hS:=hS.grown hg (fun e=>HNE.out (ji e).symm);have hgr:=hgr.grown hg (fun k e=>.inl (ji e).symm);have hz1:=hg.size;refine ⟨_,rfl,hS,?_⟩;simp only [jp,jb,jz,js];refine ybm (i:=13) (j:=14) (by kernel_rfl) ?_ ?_
   ·skip
    obtain ⟨A1,c1,hv1,hs1⟩:=ydq (3 + (kd:Int)) (3 + (kd:Int)) E2 hsub;have hcr:=yd6 s a2 E2 r y.list y.bytes sA y.items.length sc (3 + (kd:Int)) (3 + (kd:Int)) u1 hrd';rw [hv1] at hcr;refine yat (some 31) rfl rfl 145 #[.pointer (some ⟨r,0,none⟩),.agg #[.bool y.list,.string y.bytes,.slice sA y.items.length sc],.int .i64 (3 + (kd:Int)),.int .i64 (3 + (kd:Int))] (ydb _ (.tmp 18) (.tmp 20) (.tmp 25) (.tmp 30) _ rfl _ _ _ _ rfl rfl rfl rfl (jeo Tryz.func145 (by kernel_rfl) rfl _ _)) rfl (hcr.mono ?_);rintro e u2 ⟨rfl,hrd2,hg⟩;have hS:=hS.grown hg (fun e=>HNE.out (ji e).symm);have hgr:=hgr.grown hg (fun k e=>.inl (ji e).symm);replace hs1:=(hs1.lt.keep fun q hq v hv=>hg.cell hv fun e=>by have:=ji e;have:=hq.1;have:=HRL.out;have:=hgr.size;have h9:u0.heap.size <= q.block:=hq.1;have:=hz0;omega);have hz2:=hg.size;refine ⟨_,rfl,hS,?_⟩;simp only [jp,jb,jz,js];refine yag (i:=14) (by kernel_rfl) ?_;have hga3:=yaa (jr u2 none) (.cells #[.slice none 0 0] 126);have hpb:=Blk.new u2 126 #[.slice none 0 0];have hwp:w.heap.size <= u2.heap.size:=hgr.size;obtain ⟨p,hp⟩:∃ p,u2.heap.size = p:=⟨_,rfl⟩;have hS:=hS.grown hga3 (by simp);have hgr:=hgr.grown hga3 (fun k e=>by cases e);refine yaf (some 4) rfl rfl (.pointer (some ⟨u2.heap.size,0,none⟩)) (w':=u2.alloc (.cells #[.slice none 0 0] 126)) (by go_simp <;> rfl) rfl hS ?_;simp only [jp,jb,jz,js];replace hs1:SubV (fun g=>w.heap.size <= g /\ g ≠ p) (u2.alloc (.cells #[.slice none 0 0] 126)) _ _:=(hs1.weak (fun g (hg:u0.heap.size <= g /\ g < u1.heap.size)=>(⟨jlt hz0 hg.1,by have:=hz2;omega⟩:w.heap.size <= g /\ g ≠ p))).grown hga3;replace hrd2:=hrd2.grown hga3 (by simp);rw [hp] at hpb hwp ⊢;generalize u2.alloc (.cells #[.slice none 0 0] 126) = u3 at *;refine yag (i:=15) (by kernel_rfl) ?_;obtain ⟨N,hN⟩:∃ n,(rwL (3 + (kd:Int)) (3 + (kd:Int)) y E2).length = n:=⟨_,rfl⟩;refine ybo rfl rfl rfl (w':=u3.setCell ⟨p,0,none⟩ (.slice A1 (rwL (3 + (kd:Int)) (3 + (kd:Int)) y E2).length c1)) (yap 126 (.tmp 4) (.tmp 31) rfl p 0 rfl _ rfl #[.slice A1 (rwL (3 + (kd:Int)) (3 + (kd:Int)) y E2).length c1] rfl (ya8 hpb (by simp)) (by kernel_rfl) (by simp [ja2])) (yaD hS (by have:=HLL.out;omega) 0 _) ?_;(try simp only [jp,jb,jz,js]);refine jwd (by kernel_rfl) ?_ _
    have hfin:RsA w s r gl o (kd:Int) a2 (rwF (3 + (kd:Int)) (3 + (kd:Int)) y E2) C1 p (u3.setCell ⟨p,0,none⟩ (.slice A1 (rwL (3 + (kd:Int)) (3 + (kd:Int)) y E2).length c1)).heap.size (rwL (3 + (kd:Int)) (3 + (kd:Int)) y E2) (u3.setCell ⟨p,0,none⟩ (.slice A1 (rwL (3 + (kd:Int)) (3 + (kd:Int)) y E2).length c1)):=by
     refine ⟨yaD hrd2 (by have:=HRL.out;omega) 0 _,yaD hS (by have:=HLL.out;omega) 0 _,⟨A1,c1,show Blk _ p 126 #[.slice A1 (rwL (3 + (kd:Int)) (3 + (kd:Int)) y E2).length c1] from by simpa using Blk.set_ hpb 0 (.slice A1 (rwL (3 + (kd:Int)) (3 + (kd:Int)) y E2).length c1),(hs1.lt.keep fun q hq v hv=>?_).weak fun g hg=>⟨hg.1.1,hg.1.2,by simpa [jd6] using hg.2⟩⟩,?_,hwp,by have:=hpb.lt;simpa [jd6] using this,jle _,HRL.out,HLL.out,HNE.out,by rw [HZ1.out];exact HFIT.out,HK1.out⟩
     ·rw [World.cell?_setCell_far _ _ _ _ (by exact fun e=>hq.1.2 e.symm)];exact hv
     ·exact hgr.grown (ya9 (jr u3 (some p)) 0 _) (fun k e=>.inr (.inr (by have:=ji e;omega)))
    have HOUT:Hid (OutA s a E a2 (rwF (3 + (kd:Int)) (3 + (kd:Int)) y E2) (rwL (3 + (kd:Int)) (3 + (kd:Int)) y E2)):=jh (by
     have:=yiI (s:=s) (a:=a) (a1:=a1) (a2:=a2) (E:=E) (E2:=E2) (y:=y) HKA.out (by rw [HKE.out];exact hout);rw [HKV.out] at this;exact this)
    have HFIN:=jh hfin;go_wp2_with fail
    go_meet
    exact ⟨p,a2,_,_,rfl,HFIN.out,ha2,HOUT⟩
   ·skip
    have hga3:=yaa (jr u1 none) (.cells #[.slice none 0 0] 126);have hpb:=Blk.new u1 126 #[.slice none 0 0];have hwp:w.heap.size <= u1.heap.size:=hgr.size;obtain ⟨p,hp⟩:∃ p,u1.heap.size = p:=⟨_,rfl⟩;have hS:=hS.grown hga3 (by simp);have hgr:=hgr.grown hga3 (fun k e=>by cases e);refine yaf (some 4) rfl rfl (.pointer (some ⟨u1.heap.size,0,none⟩)) (w':=u1.alloc (.cells #[.slice none 0 0] 126)) (by go_simp <;> rfl) rfl hS ?_;simp only [jp,jb,jz,js];replace hsub:SubV (fun g=>w.heap.size <= g /\ g ≠ p) (u1.alloc (.cells #[.slice none 0 0] 126)) y.items _:=(hsub.lt.weak (fun g (hg:u0.heap.size <= g /\ g < u1.heap.size)=>(⟨jlt hz0 hg.1,by omega⟩:w.heap.size <= g /\ g ≠ p))).grown hga3;replace hrd':=hrd'.grown hga3 (by simp);rw [hp] at hpb hwp ⊢;generalize u1.alloc (.cells #[.slice none 0 0] 126) = u2 at *;refine yag (i:=13) (by kernel_rfl) ?_;obtain ⟨A1,c1,hv1,hs1⟩:=ydq (3 + (kd:Int)) (3 + (kd:Int)) E2 hsub;have hcr:=yd6 s a2 E2 r y.list y.bytes sA y.items.length sc (3 + (kd:Int)) (3 + (kd:Int)) u2 hrd';rw [hv1] at hcr;refine yat (some 31) rfl rfl 145 #[.pointer (some ⟨r,0,none⟩),.agg #[.bool y.list,.string y.bytes,.slice sA y.items.length sc],.int .i64 (3 + (kd:Int)),.int .i64 (3 + (kd:Int))] (ydb _ (.tmp 18) (.tmp 20) (.tmp 25) (.tmp 30) _ rfl _ _ _ _ rfl rfl rfl rfl (jeo Tryz.func145 (by kernel_rfl) rfl _ _)) rfl (hcr.mono ?_);rintro e u3 ⟨rfl,hrd2,hg⟩;have hS:=hS.grown hg (fun e=>HNE.out (ji e).symm);have hgr:=hgr.grown hg (fun k e=>.inl (ji e).symm);replace hs1:=hs1.keep fun q hq v hv=>hg.cell hv fun e=>by have:=ji e;have:=hq.1;have:=HRL.out;omega
    replace hpb:=hpb.grown hg (fun e=>by have:=ji e;have:=HRL.out;omega);refine ⟨_,rfl,hS,?_⟩;simp only [jp,jb,jz,js];refine yag (i:=15) (by kernel_rfl) ?_;obtain ⟨N,hN⟩:∃ n,(rwL (3 + (kd:Int)) (3 + (kd:Int)) y E2).length = n:=⟨_,rfl⟩;refine ybo rfl rfl rfl (w':=u3.setCell ⟨p,0,none⟩ (.slice A1 (rwL (3 + (kd:Int)) (3 + (kd:Int)) y E2).length c1)) (yap 126 (.tmp 4) (.tmp 31) rfl p 0 rfl _ rfl #[.slice A1 (rwL (3 + (kd:Int)) (3 + (kd:Int)) y E2).length c1] rfl (ya8 hpb (by simp)) (by kernel_rfl) (by simp [ja2])) (yaD hS (by have:=HLL.out;omega) 0 _) ?_;(try simp only [jp,jb,jz,js]);refine jwd (by kernel_rfl) ?_ _
    have hfin:RsA w s r gl o (kd:Int) a2 (rwF (3 + (kd:Int)) (3 + (kd:Int)) y E2) C1 p (u3.setCell ⟨p,0,none⟩ (.slice A1 (rwL (3 + (kd:Int)) (3 + (kd:Int)) y E2).length c1)).heap.size (rwL (3 + (kd:Int)) (3 + (kd:Int)) y E2) (u3.setCell ⟨p,0,none⟩ (.slice A1 (rwL (3 + (kd:Int)) (3 + (kd:Int)) y E2).length c1)):=by
     refine ⟨yaD hrd2 (by have:=HRL.out;omega) 0 _,yaD hS (by have:=HLL.out;omega) 0 _,⟨A1,c1,show Blk _ p 126 #[.slice A1 (rwL (3 + (kd:Int)) (3 + (kd:Int)) y E2).length c1] from by simpa using Blk.set_ hpb 0 (.slice A1 (rwL (3 + (kd:Int)) (3 + (kd:Int)) y E2).length c1),(hs1.lt.keep fun q hq v hv=>?_).weak fun g hg=>⟨hg.1.1,hg.1.2,by simpa [jd6] using hg.2⟩⟩,?_,hwp,by have:=hpb.lt;simpa [jd6] using this,jle _,HRL.out,HLL.out,HNE.out,by rw [HZ1.out];exact HFIT.out,HK1.out⟩
     ·rw [World.cell?_setCell_far _ _ _ _ (by exact fun e=>hq.1.2 e.symm)];exact hv
     ·exact hgr.grown (ya9 (jr u3 (some p)) 0 _) (fun k e=>.inr (.inr (by have:=ji e;omega)))
    have HOUT:Hid (OutA s a E a2 (rwF (3 + (kd:Int)) (3 + (kd:Int)) y E2) (rwL (3 + (kd:Int)) (3 + (kd:Int)) y E2)):=jh (by
     have:=yiI (s:=s) (a:=a) (a1:=a1) (a2:=a2) (E:=E) (E2:=E2) (y:=y) HKA.out (by rw [HKE.out];exact hout);rw [HKV.out] at this;exact this)
    have HFIN:=jh hfin;go_wp2_with fail
    go_meet
    exact ⟨p,a2,_,_,rfl,HFIN.out,ha2,HOUT⟩
  ·skip
   have hga3:=yaa (jr u0 none) (.cells #[.slice none 0 0] 126);have hpb:=Blk.new u0 126 #[.slice none 0 0];have hwp:w.heap.size <= u0.heap.size:=hgr.size;obtain ⟨p,hp⟩:∃ p,u0.heap.size = p:=⟨_,rfl⟩;have hS:=hS.grown hga3 (by simp);have hrd:=hrd.grown hga3 (by simp);have hgr:=hgr.grown hga3 (fun k e=>by cases e);refine yaf (some 4) rfl rfl (.pointer (some ⟨u0.heap.size,0,none⟩)) (w':=u0.alloc (.cells #[.slice none 0 0] 126)) (by go_simp <;> rfl) rfl hS ?_;simp only [jp,jb,jz,js];rw [hp] at hpb hwp ⊢;generalize u0.alloc (.cells #[.slice none 0 0] 126) = u1 at *;refine yag (i:=2) (by kernel_rfl) ?_;refine yat (some 20) rfl rfl 146 #[.pointer (some ⟨r,0,none⟩)] (yam _ (.tmp 19) _ rfl _ rfl (jeo Tryz.func146 (by kernel_rfl) rfl _ _)) rfl ((yif s a1 KE r u1 hrd HS.out HA1.out).mono ?_);intro e u2 hend;obtain ⟨y,sA,sc,a2,E2,rfl,hg,hrd',ha2,hsub,hout⟩:=hend.uni;have hS:=hS.grown hg (fun e=>HNE.out (ji e).symm);have hgr:=hgr.grown hg (fun k e=>.inl (ji e).symm);replace hsub:SubV (fun g=>w.heap.size <= g /\ g ≠ p) u2 y.items _:=hsub.weak (fun g (hg:u1.heap.size <= g)=>(⟨by have:=hpb.lt;omega,by have:=hpb.lt;omega⟩:w.heap.size <= g /\ g ≠ p));replace hpb:=hpb.grown hg (fun e=>by have:=ji e;have:=HRL.out;omega);refine ⟨_,rfl,hS,?_⟩;simp only [jp,jb,jz,js];refine yag (i:=13) (by kernel_rfl) ?_;obtain ⟨A1,c1,hv1,hs1⟩:=ydq (3 + (kd:Int)) (3 + (kd:Int)) E2 hsub;have hcr:=yd6 s a2 E2 r y.list y.bytes sA y.items.length sc (3 + (kd:Int)) (3 + (kd:Int)) u2 hrd';rw [hv1] at hcr;refine yat (some 31) rfl rfl 145 #[.pointer (some ⟨r,0,none⟩),.agg #[.bool y.list,.string y.bytes,.slice sA y.items.length sc],.int .i64 (3 + (kd:Int)),.int .i64 (3 + (kd:Int))] (ydb _ (.tmp 18) (.tmp 20) (.tmp 25) (.tmp 30) _ rfl _ _ _ _ rfl rfl rfl rfl (jeo Tryz.func145 (by kernel_rfl) rfl _ _)) rfl (hcr.mono ?_);rintro e u3 ⟨rfl,hrd2,hg⟩;have hS:=hS.grown hg (fun e=>HNE.out (ji e).symm);have hgr:=hgr.grown hg (fun k e=>.inl (ji e).symm);replace hs1:=hs1.keep fun q hq v hv=>hg.cell hv fun e=>by have:=ji e;have:=hq.1;have:=HRL.out;omega
   replace hpb:=hpb.grown hg (fun e=>by have:=ji e;have:=HRL.out;omega);refine ⟨_,rfl,hS,?_⟩;simp only [jp,jb,jz,js];refine yag (i:=15) (by kernel_rfl) ?_;obtain ⟨N,hN⟩:∃ n,(rwL (3 + (kd:Int)) (3 + (kd:Int)) y E2).length = n:=⟨_,rfl⟩;refine ybo rfl rfl rfl (w':=u3.setCell ⟨p,0,none⟩ (.slice A1 (rwL (3 + (kd:Int)) (3 + (kd:Int)) y E2).length c1)) (yap 126 (.tmp 4) (.tmp 31) rfl p 0 rfl _ rfl #[.slice A1 (rwL (3 + (kd:Int)) (3 + (kd:Int)) y E2).length c1] rfl (ya8 hpb (by simp)) (by kernel_rfl) (by simp [ja2])) (yaD hS (by have:=HLL.out;omega) 0 _) ?_;(try simp only [jp,jb,jz,js]);refine jwd (by kernel_rfl) ?_ _
   have hfin:RsA w s r gl o (kd:Int) a2 (rwF (3 + (kd:Int)) (3 + (kd:Int)) y E2) C1 p (u3.setCell ⟨p,0,none⟩ (.slice A1 (rwL (3 + (kd:Int)) (3 + (kd:Int)) y E2).length c1)).heap.size (rwL (3 + (kd:Int)) (3 + (kd:Int)) y E2) (u3.setCell ⟨p,0,none⟩ (.slice A1 (rwL (3 + (kd:Int)) (3 + (kd:Int)) y E2).length c1)):=by
    refine ⟨yaD hrd2 (by have:=HRL.out;omega) 0 _,yaD hS (by have:=HLL.out;omega) 0 _,⟨A1,c1,show Blk _ p 126 #[.slice A1 (rwL (3 + (kd:Int)) (3 + (kd:Int)) y E2).length c1] from by simpa using Blk.set_ hpb 0 (.slice A1 (rwL (3 + (kd:Int)) (3 + (kd:Int)) y E2).length c1),(hs1.lt.keep fun q hq v hv=>?_).weak fun g hg=>⟨hg.1.1,hg.1.2,by simpa [jd6] using hg.2⟩⟩,?_,hwp,by have:=hpb.lt;simpa [jd6] using this,jle _,HRL.out,HLL.out,HNE.out,by rw [HZ1.out];exact HFIT.out,HK1.out⟩
    ·rw [World.cell?_setCell_far _ _ _ _ (by exact fun e=>hq.1.2 e.symm)];exact hv
    ·exact hgr.grown (ya9 (jr u3 (some p)) 0 _) (fun k e=>.inr (.inr (by have:=ji e;omega)))
   have HOUT:Hid (OutA s a E a2 (rwF (3 + (kd:Int)) (3 + (kd:Int)) y E2) (rwL (3 + (kd:Int)) (3 + (kd:Int)) y E2)):=jh (by
    have:=yiI (s:=s) (a:=a) (a1:=a1) (a2:=a2) (E:=E) (E2:=E2) (y:=y) HKA.out (by rw [HKE.out];exact hout);rw [HKV.out] at this;exact this)
   have HFIN:=jh hfin;go_wp2_with fail
   go_meet
   exact ⟨p,a2,_,_,rfl,HFIN.out,ha2,HOUT⟩
 case rest =>
  obtain ⟨p,a3,E3,zs,rfl,hA,ha3,hO⟩:=hcut;obtain ⟨bb,hbb⟩:∃ x,wc.heap.size = x:=⟨_,rfl⟩;rw [hbb] at hA;have HA3:=jh ha3;have hout1:∀ j,j < o \/ o + 36 <= j -> C1[j]? = C[j]?:=fun j hj=>by rw [<- HC1.out];exact yba _ _ _ _ (by simp;omega)
  have HOUT1:=jh hout1;clear hb3 hrow3 hg3 hwk hbb ha3 hout1;have c2:=hA.rd.cell 2;simp only [rdC,jta,jcz,jcs] at c2;by_cases hE3:E3 = 0
  rotate_left
  ·have e1:(E3 != 0) = true:=by simpa using hE3
   have hRR:ycg s a E = .error E3:=by
    rcases hO.out with ⟨_,h⟩ | ⟨h,_⟩
    ·exact h
    ·exact absurd h hE3
   have HEND:Hid (yfT s a E r gl o C w (.returned (.tuple #[])) wc):=jh ⟨a3,E3,C1,rfl,hA.rd,HA3.out,hA.row,HZ1.out,HOUT1.out,by rw [HKV.out];exact hA.kd,hA.gr,.inl ⟨hE3,hRR⟩⟩;clear hA hO hE3 hRR;go_wp2_with fail
   go_end0
   exact HEND.out
  subst hE3
  have hO2:kdE s a E = 0 /\ ∃ y,itR s.data.toList (kdA s a) = .ok (y,a3) /\ rwF (3 + (kdV s a E:Nat)) (3 + (kdV s a E:Nat)) y 0 = 0 /\ zs = y.items /\ zs.length = 3 + kdV s a E:=by
   rcases hO.out with ⟨h,_⟩ | ⟨_,h⟩
   ·exact absurd rfl h
   ·exact h
  obtain ⟨hk0,y,hit,hF,hzs,hlen⟩:=hO2
  have hRR:ycg s a E = if (gotA (kdV s a E) zs).2 ≠ 0 then .error (gotA (kdV s a E) zs).2 else .ok (zs,a3):=by
   unfold ycg;rw [if_neg (by rw [hk0];simp),hit];dsimp only;rw [if_neg (by rw [hF];simp),hzs]
  rw [HKV.out] at hRR hlen;have HRR:=jh hRR;have HZB:Hid (∀ z ∈ zs,z.bytes.size <= 9223372036854775807):=jh (by rw [hzs];exact HZB0.out y a3 hit);clear HZB0;clear hO hk0 hit hF hzs hRR;obtain ⟨n,hn⟩:∃ n,gotN kd = n:=⟨_,rfl⟩;obtain ⟨offs,hoffs⟩:∃ l,gotO kd = l:=⟨_,rfl⟩
  have hon:offs.length = n /\ (∀ F ∈ offs,F + 4 <= 36 /\ 0 < F) /\ n + 1 <= zs.length /\ (kd = 0 \/ n + 2 <= zs.length) /\ n <= 3:=by
   rw [<- hn,<- hoffs,hlen];rcases HK2.out with h | h | h <;> rw [h] <;> exact ⟨rfl,by decide,by decide,by decide,by decide⟩
  have HLEN:=jh hlen;have HN:=jh hn;have HF:=jh hoffs;have HON:=jh hon;clear hlen hn hoffs hon;go_upto_region 4 with (fail)
  refine jwh (S:=fun _=>True) (by kernel_rfl) ?_;change wpAnyH _ _ _ _ _ _ _ _ wc.drew;replace hA:=hA.kept (yau (jr wc none));generalize wc.drew = u0 at *;refine zt 0 (.pointer (some ⟨gl,o,none⟩)) (some 38) rfl (fun W hW=>by go_simp) trivial ?_;simp only [jp,jb,jz,js];refine zt 1 (.pointer (some ⟨gl,o,none⟩)) (some 39) rfl (fun W hW=>by go_simp) trivial ?_;simp only [jp,jb,jz,js];refine zt 2 (.pointer (some ⟨gl,o + 13,none⟩)) (some 40) rfl (fun W hW=>by go_simp) trivial ?_;simp only [jp,jb,jz,js];refine zt 3 (.pointer (some ⟨gl,o,none⟩)) (some 41) rfl (fun W hW=>by go_simp) trivial ?_;simp only [jp,jb,jz,js];refine zt 4 (.pointer (some ⟨gl,o,none⟩)) (some 42) rfl (fun W hW=>by go_simp) trivial ?_;simp only [jp,jb,jz,js];refine zt 5 (.pointer (some ⟨gl,o + 7,none⟩)) (some 43) rfl (fun W hW=>by go_simp) trivial ?_;simp only [jp,jb,jz,js];refine yag (i:=6) (by kernel_rfl) ?_;have hga:=yaa (jr u0 none) (.cells #[.pointer (some ⟨gl,o + 13,none⟩),.pointer (some ⟨gl,o + 7,none⟩)] 185);have hq:=Blk.new u0 185 #[.pointer (some ⟨gl,o + 13,none⟩),.pointer (some ⟨gl,o + 7,none⟩)];refine yaf (some 44) rfl rfl (.slice (some ⟨u0.heap.size,0,none⟩) 2 2) (w':=u0.alloc (.cells #[.pointer (some ⟨gl,o + 13,none⟩),.pointer (some ⟨gl,o + 7,none⟩)] 185)) (by go_simp <;> rfl) rfl trivial ?_;simp only [jp,jb,jz,js];refine zt 7 (.slice (some ⟨u0.heap.size,0,none⟩) 2 2) (some 6) rfl (fun W hW=>by go_simp) trivial ?_;simp only [jp,jb,jz,js];refine jwd (by kernel_rfl) ?_ _;have hbq:=hA.bd;replace hA:=hA.kept hga;obtain ⟨gq1,hqe⟩:∃ q,u0.heap.size = q:=⟨_,rfl⟩;rw [hqe] at hq hbq ⊢;clear hqe hga;generalize u0.alloc (.cells #[.pointer (some ⟨gl,o + 13,none⟩),.pointer (some ⟨gl,o + 7,none⟩)] 185) = v1 at *;have c0k:v1.cell? ⟨gl,o,none⟩ = some (.int .i64 (kd:Int)):=(hA.row.cell o).trans hA.kd;(try clear c2);go_upto_if 49 with (fail)
  go_cut [6] (fun v wx=>∃ q,v = .slice (some ⟨q,0,none⟩) n n /\ RsA w s r gl o (kd:Int) a3 0 C1 p bb zs wx /\ bb <= q /\ Blk wx q 185 (offs.map fun c=>Value.pointer (some ⟨gl,o + c,none⟩)).toArray)
  case first =>
   by_cases h2:kd = 2
   ·have e1:n = 3:=by rw [<- HN.out,h2];rfl
    have e2:offs = [13,3,7]:=by rw [<- HF.out,h2];rfl
    have d2:(kd:Int) = 2:=by omega
    subst e1 e2;clear hq hbq;go_upto_region 6 with (fail)
    refine jwh (S:=fun _=>True) (by kernel_rfl) ?_;change wpAnyH _ _ _ _ _ _ _ _ v1.drew;replace hA:=hA.kept (yau (jr v1 none));generalize v1.drew = u0 at *;refine zt 0 (.pointer (some ⟨gl,o,none⟩)) (some 50) rfl (fun W hW=>by go_simp) trivial ?_;simp only [jp,jb,jz,js];refine zt 1 (.pointer (some ⟨gl,o,none⟩)) (some 51) rfl (fun W hW=>by go_simp) trivial ?_;simp only [jp,jb,jz,js];refine zt 2 (.pointer (some ⟨gl,o + 13,none⟩)) (some 52) rfl (fun W hW=>by go_simp) trivial ?_;simp only [jp,jb,jz,js];refine zt 3 (.pointer (some ⟨gl,o,none⟩)) (some 53) rfl (fun W hW=>by go_simp) trivial ?_;simp only [jp,jb,jz,js];refine zt 4 (.pointer (some ⟨gl,o,none⟩)) (some 54) rfl (fun W hW=>by go_simp) trivial ?_;simp only [jp,jb,jz,js];refine zt 5 (.pointer (some ⟨gl,o + 3,none⟩)) (some 55) rfl (fun W hW=>by go_simp) trivial ?_;simp only [jp,jb,jz,js];refine zt 6 (.pointer (some ⟨gl,o,none⟩)) (some 56) rfl (fun W hW=>by go_simp) trivial ?_;simp only [jp,jb,jz,js];refine zt 7 (.pointer (some ⟨gl,o,none⟩)) (some 57) rfl (fun W hW=>by go_simp) trivial ?_;simp only [jp,jb,jz,js];refine zt 8 (.pointer (some ⟨gl,o + 7,none⟩)) (some 58) rfl (fun W hW=>by go_simp) trivial ?_;simp only [jp,jb,jz,js];refine yag (i:=9) (by kernel_rfl) ?_;have hga:=yaa (jr u0 none) (.cells #[.pointer (some ⟨gl,o + 13,none⟩),.pointer (some ⟨gl,o + 3,none⟩),.pointer (some ⟨gl,o + 7,none⟩)] 185);have hq:=Blk.new u0 185 #[.pointer (some ⟨gl,o + 13,none⟩),.pointer (some ⟨gl,o + 3,none⟩),.pointer (some ⟨gl,o + 7,none⟩)];refine yaf (some 59) rfl rfl (.slice (some ⟨u0.heap.size,0,none⟩) 3 3) (w':=u0.alloc (.cells #[.pointer (some ⟨gl,o + 13,none⟩),.pointer (some ⟨gl,o + 3,none⟩),.pointer (some ⟨gl,o + 7,none⟩)] 185)) (by go_simp <;> rfl) rfl trivial ?_;simp only [jp,jb,jz,js];refine zt 10 (.slice (some ⟨u0.heap.size,0,none⟩) 3 3) (some 6) rfl (fun W hW=>by go_simp) trivial ?_;simp only [jp,jb,jz,js];refine jwd (by kernel_rfl) ?_ _;have hbq:=hA.bd;replace hA:=hA.kept hga;obtain ⟨gq2,hqe⟩:∃ q,u0.heap.size = q:=⟨_,rfl⟩;rw [hqe] at hq hbq ⊢;clear hqe hga;generalize u0.alloc (.cells #[.pointer (some ⟨gl,o + 13,none⟩),.pointer (some ⟨gl,o + 3,none⟩),.pointer (some ⟨gl,o + 7,none⟩)] 185) = v2 at *;have HFIN:=jh (show _ /\ _ /\ _ from ⟨hA,hbq,hq⟩);clear hA hbq hq;go_wp2_with fail
    go_meet
    exact ⟨gq2,rfl,HFIN.out⟩
   ·have e1:n = 2:=by rw [<- HN.out];unfold gotN;rw [if_neg h2]
    have e2:offs = [13,7]:=by rw [<- HF.out];unfold gotO;rw [if_neg h2]
    have d2:decide ((kd:Int) = 2) = false:=decide_eq_false (by omega);have d3:¬ (kd:Int) = 2:=by omega
    subst e1 e2;have HFIN:=jh (show _ /\ _ /\ _ from ⟨hA,hbq,hq⟩);clear hA hbq hq;go_wp2_with fail
    go_meet
    exact ⟨gq1,rfl,HFIN.out⟩
  case rest =>
  clear hA hbq hq c0k;obtain ⟨q,rfl,hA,hbq,hq⟩:=hcut;generalize wc = v3 at *;obtain ⟨ws,hws⟩:∃ ws,zs.take n = ws:=⟨_,rfl⟩;obtain ⟨CW,hCW⟩:∃ X,ydE o offs ws C1 = X:=⟨_,rfl⟩;obtain ⟨EW,hEW⟩:∃ X,yhx ws 0 = X:=⟨_,rfl⟩;have HWS:=jh hws;have HCW:=jh hCW;have HEW:=jh hEW;have HA4:=jh hA;have HQ4:=jh hq;have HBQ:=jh hbq;clear hws hCW hEW hA hq hbq;go_wp2_with fail
  go_loopw [62] (fun i wr=>∃ (k:Nat) (Ck:Array Value) (Ek:Int),i = .int .i64 k /\ k <= n /\ RsA w s r gl o (kd:Int) a3 Ek Ck p bb (zs.drop k) wr /\ Blk wr q 185 (offs.map fun c=>Value.pointer (some ⟨gl,o + c,none⟩)).toArray /\ Ck.size = C.size /\ Hid (∀ j,j < o \/ o + 36 <= j -> Ck[j]? = C[j]?) /\ Hid (ydE o (offs.drop k) (ws.drop k) Ck = CW) /\ Hid (yhx (ws.drop k) Ek = EW)) (fun i _=>n - (intOf i).toNat)
  case atStart=>exact ⟨0,C1,0,rfl,by omega,HA4.out,HQ4.out,HZ1.out,jh HOUT1.out,jh HCW.out,jh HEW.out⟩
  case round =>
   obtain ⟨k,Ck,Ek,rfl,hk,hA,hq,hz,hout,hcw,hew⟩:=hrel;have HZK:=jh hz;have HOK:=jh hout.out;have HCK:=jh hcw.out;have HEK:=jh hew.out;clear hz hout hcw hew;by_cases hlt:k < n
   ·have key:∃ z F,zs.drop k = z :: zs.drop (k + 1) /\ offs.drop k = F :: offs.drop (k + 1) /\ ws.drop k = z :: ws.drop (k + 1) /\ wr.cell? ⟨q,k,none⟩ = some (.pointer (some ⟨gl,o + F,none⟩)) /\ F + 4 <= 36 /\ 0 < F:=by
     obtain ⟨on,ob,oz,_,_⟩:=HON.out;have h1:k < offs.length:=by omega
     have h2:k < zs.length:=by omega
     have h3:k < (zs.take n).length:=by rw [jc0];omega
     refine ⟨zs[k],offs[k],jdc h2,jdc h1,?_,?_,ob _ (jc1 h1)⟩
     ·rw [<- HWS.out,jdc h3,List.getElem_take]
     ·rw [hq.cell k];simp [h1]
    obtain ⟨z,F,hz0,hf0,hw0,hc,hF1,hF2⟩:=key;have hzm:z ∈ zs:=List.mem_of_mem_drop (i:=k) (by rw [hz0];exact List.mem_cons_self ..);have HZS:=jh (HZB.out z hzm);rw [hz0] at hA;have HCK2:Hid (ydE o (offs.drop (k + 1)) (ws.drop (k + 1)) (putA (o + F) (yaP z) Ck) = CW):=jh (by have:=HCK.out;rw [hf0,hw0] at this;exact this);obtain ⟨EZ,hEZ⟩:∃ e,yc9 z.list z.bytes = e:=⟨_,rfl⟩;have HEK2:Hid (yhx (ws.drop (k + 1)) (kE Ek EZ) = EW):=jh (by have:=HEK.out;rw [hw0] at this;rw [<- hEZ];exact this);have HEZ:=jh hEZ;have q1:(k:Int) < (n:Int):=by omega
    have HLT:=jh hlt;have hpq:p < q:=by have:=hA.pb;have:=HBQ.out;omega
    have HPQ:=jh hpq;clear hz0 hf0 hw0 hzm HCK HEK hEZ hpq HA4 HQ4;go_upto_region 10 with (fail)
    clear hc;refine jwl ?_;refine zm 5 (.func (.func 147) #[] #[.pointer (some ⟨p,0,none⟩)]) rfl ?_;simp only [jp,jb,jz,js];refine yah rfl 147 #[.pointer (some ⟨p,0,none⟩)] (ydU _ (.tmp 67) _ _ rfl rfl (jeo Tryz.func147 (by kernel_rfl) rfl _ _)) (hA.next.mono ?_);clear hA;rintro e u1 ⟨sA,sc,rfl,hsub,hA,hg⟩;replace hq:=hq.grown hg (fun e=>by have:=ji e;have:=HPQ.out;omega);clear hg hsub;refine ⟨_,rfl,?_⟩;simp only [jp,jb,jz,js];have hgw:=yiY z.list z.bytes (.slice sA z.items.length sc) HZS.out u1;rw [HEZ.out] at hgw;refine yah rfl 148 #[.agg #[.bool z.list,.string z.bytes,.slice sA z.items.length sc]] (yam _ (.tmp 68) _ rfl _ rfl (jeo Tryz.func148 (by kernel_rfl) rfl _ _)) (hgw.mono ?_);clear hgw;rintro e u2 ⟨rfl,hg⟩;replace hA:=hA.kept hg;replace hq:=hq.grown hg (by simp);clear hg;refine ⟨_,rfl,?_⟩;simp only [jp,jb,jz,js];refine zm 69 (.tuple #[.agg #[.int .u64 (yaC z.list z.bytes 0:Nat),.int .u64 (yaC z.list z.bytes 1:Nat),.int .u64 (yaC z.list z.bytes 2:Nat),.int .u64 (yaC z.list z.bytes 3:Nat)],.int .i64 EZ]) rfl ?_;simp only [jp,jb,jz,js];refine zg (.agg #[.int .u64 (yaC z.list z.bytes 0:Nat),.int .u64 (yaC z.list z.bytes 1:Nat),.int .u64 (yaC z.list z.bytes 2:Nat),.int .u64 (yaC z.list z.bytes 3:Nat)]) ?_;simp only [jp,jb,jz,js];refine zg (.int .i64 EZ) ?_;simp only [jp,jb,jz,js];have hga:=yaa (jr u2 none) (.cells #[.int .u64 0,.int .u64 0,.int .u64 0,.int .u64 0] 45);have h9:=Blk.new u2 45 #[.int .u64 0,.int .u64 0,.int .u64 0,.int .u64 0];have hb9:=hA.bd;have hq9:u2.heap.size ≠ q:=by have:=hq.lt;omega
    replace hA:=hA.kept hga;replace hq:=hq.grown hga (by simp);refine yac rfl (.pointer (some ⟨u2.heap.size,0,none⟩)) (w':=u2.alloc (.cells #[.int .u64 0,.int .u64 0,.int .u64 0,.int .u64 0] 45)) (by go_simp <;> rfl) ?_;simp only [jp,jb,jz,js];obtain ⟨g9,hg9⟩:∃ x,u2.heap.size = x:=⟨_,rfl⟩;rw [hg9] at h9 hb9 hq9 ⊢;clear hga hg9;generalize u2.alloc (.cells #[.int .u64 0,.int .u64 0,.int .u64 0,.int .u64 0] 45) = u3 at *;refine yaF rfl rfl (w':=u3.setRow g9 #[.int .u64 (yaC z.list z.bytes 0:Nat),.int .u64 (yaC z.list z.bytes 1:Nat),.int .u64 (yaC z.list z.bytes 2:Nat),.int .u64 (yaC z.list z.bytes 3:Nat)]) (by rw [show u3.setRow g9 #[.int .u64 (yaC z.list z.bytes 0:Nat),.int .u64 (yaC z.list z.bytes 1:Nat),.int .u64 (yaC z.list z.bytes 2:Nat),.int .u64 (yaC z.list z.bytes 3:Nat)] = u3.setCells g9 0 (yaP z) from (ya2 h9 0 (yaP z)).symm];exact yap 45 (.tmp 9) (.tmp 70) rfl g9 0 rfl _ rfl #[.int .u64 (yaC z.list z.bytes 0:Nat),.int .u64 (yaC z.list z.bytes 1:Nat),.int .u64 (yaC z.list z.bytes 2:Nat),.int .u64 (yaC z.list z.bytes 3:Nat)] rfl (ya8 h9 (by simp)) (by kernel_rfl) (by simp [ja2])) ?_;(try simp only [jp,jb,jz,js]);refine zg (.int .i64 EZ) ?_;simp only [jp,jb,jz,js];replace hA:=hA.far (D:=#[.int .u64 (yaC z.list z.bytes 0:Nat),.int .u64 (yaC z.list z.bytes 1:Nat),.int .u64 (yaC z.list z.bytes 2:Nat),.int .u64 (yaC z.list z.bytes 3:Nat)]) hb9;replace hq:Blk (u3.setRow g9 #[.int .u64 (yaC z.list z.bytes 0:Nat),.int .u64 (yaC z.list z.bytes 1:Nat),.int .u64 (yaC z.list z.bytes 2:Nat),.int .u64 (yaC z.list z.bytes 3:Nat)]) q 185 (offs.map fun c=>Value.pointer (some ⟨gl,o + c,none⟩)).toArray:=(jso u3 g9 q _ (fun e=>hq9 e.symm)).trans hq;replace h9:=yay (cs':=#[.int .u64 (yaC z.list z.bytes 0:Nat),.int .u64 (yaC z.list z.bytes 1:Nat),.int .u64 (yaC z.list z.bytes 2:Nat),.int .u64 (yaC z.list z.bytes 3:Nat)]) h9;refine jwn ?_;generalize u3.setRow g9 #[.int .u64 (yaC z.list z.bytes 0:Nat),.int .u64 (yaC z.list z.bytes 1:Nat),.int .u64 (yaC z.list z.bytes 2:Nat),.int .u64 (yaC z.list z.bytes 3:Nat)] = u4 at *;go_wp2_with fail
    refine (ybx s a3 Ek EZ r _ hA.rd).mono ?_;rintro e w7 ⟨rfl,hrd,hg⟩;replace hA:=hA.read hg hrd;have h9':=h9.grown hg (fun e=>by have:=ji e;have:=hA.rl;have:=hA.op;have:=hA.pb;omega);have hq':=hq.grown hg (fun e=>by have:=ji e;have:=hA.rl;have:=hA.op;have:=HPQ.out;omega);clear hg hrd h9 hq;go_upto_region 12 with (fail)
    refine jwl ?_;refine zm 8 (.pointer (some ⟨gl,o + F,none⟩)) rfl ?_;simp only [jp,jb,jz,js];refine yac rfl (.agg #[.int .u64 (yaC z.list z.bytes 0:Nat),.int .u64 (yaC z.list z.bytes 1:Nat),.int .u64 (yaC z.list z.bytes 2:Nat),.int .u64 (yaC z.list z.bytes 3:Nat)]) (yai rfl rfl 45 _ _ h9' Tryz.underlying45 rfl (by kernel_rfl)) ?_;simp only [jp,jb,jz,js];refine zg (.pointer (some ⟨gl,o + F,none⟩)) ?_;simp only [jp,jb,jz,js];have hrow:=hA.row;have hfit:=hA.fit;refine yaF rfl rfl (w':=w7.setRow gl (putA (o + F) (yaP z) Ck)) (by rw [<- ya2 hrow (o + F) (yaP z)];exact yap 45 (.tmp 77) (.tmp 76) rfl gl (o + F) rfl _ rfl #[.int .u64 (yaC z.list z.bytes 0:Nat),.int .u64 (yaC z.list z.bytes 1:Nat),.int .u64 (yaC z.list z.bytes 2:Nat),.int .u64 (yaC z.list z.bytes 3:Nat)] rfl (ya8 hrow (by simp;omega)) (by kernel_rfl) (by simp [ja2])) ?_;refine jwn ?_;have hsz:(putA (o + F) (yaP z) Ck).size = Ck.size:=yc0 _ _ _;have hAp:=hA.put (C':=putA (o + F) (yaP z) Ck) hsz (yba _ _ _ _ (.inl (by omega)));have hqp:Blk (w7.setRow gl (putA (o + F) (yaP z) Ck)) q 185 (offs.map fun c=>Value.pointer (some ⟨gl,o + c,none⟩)).toArray:=(jso w7 gl q _ (by have:=hA.ll;have:=hA.op;have:=HPQ.out;omega)).trans hq'
    have houtp:∀ j,j < o \/ o + 36 <= j -> (putA (o + F) (yaP z) Ck)[j]? = C[j]?:=fun j hj=>by
     rw [yba _ _ _ _ (by simp [yaP];omega)];exact HOK.out j hj
    have HAP:=jh hAp;have HQP:=jh hqp;have HOP:=jh houtp;have HSZ2:Hid ((putA (o + F) (yaP z) Ck).size = C.size):=jh (hsz.trans HZK.out);clear hA h9' hq' hrow hfit hsz hAp hqp houtp;generalize w7.setRow gl (putA (o + F) (yaP z) Ck) = w8 at *;have hl3:=HLT.out;have hn3:=HON.out.2.2.2.2;have hk3:(k:Int) < 3:=by omega
    have hw1:IntKind.i64.wrap ((k:Int) + 1) = (k:Int) + 1:=jii _ (by omega);clear hl3 hn3;go_wp2_with fail
    go_roundw
    case rel=>exact ⟨k + 1,_,kE Ek EZ,by go_num,by have:=HLT.out;omega,HAP.out,HQP.out,HSZ2.out,jh HOP.out,jh HCK2.out,jh HEK2.out⟩
    case measure=>have:=HLT.out;simp [intOf];omega
   ·have hkn:k = n:=by omega
    have hws:ws.drop n = []:=by rw [<- HWS.out,List.drop_eq_nil_iff,jc0];omega
    have hCk:CW = Ck:=by have:=HCK.out;rw [hkn,hws] at this;rw [<- this];cases offs.drop n <;> rfl
    have hEk:EW = Ek:=by have:=HEK.out;rw [hkn,hws] at this;exact this.symm
    subst hkn;subst hCk;subst hEk;have q8:¬ ((k:Int) < (k:Int)):=by omega
    obtain ⟨on,_,oz,oa,_⟩:=HON.out;have hnk:k < zs.length:=by omega
    have hzd:=jdc hnk;have hgd:zs.getD k Itm.none_ = zs[k]:=by rw [jg,je hnk];rfl
    have HZD:=HZB.out _ (jc1 hnk);rw [hzd] at hA;generalize zs[k] = zd at *;have HGD:=jh hgd;have HOA:=jh oa;clear hgd hzd hws hnk on oz oa hlt;have HZ9:Hid (CW.size = C.size):=HZK;have HO9:=HOK;have hgt:∀ (sv:Value) (V:World),Calls jq 149 #[.agg #[.bool zd.list,.string zd.bytes,sv],.int .i64 0,.int .i64 4096] V fun e w'=>e = .returned (.tuple #[.string (dtV zd),.int .i64 (dtE zd)]) /\ V.grownBy w' none:=fun sv V=>yiZ zd.list zd.bytes sv 0 4096 V;obtain ⟨DV,hDV⟩:∃ d,dtV zd = d:=⟨_,rfl⟩;obtain ⟨DE,hDE⟩:∃ d,dtE zd = d:=⟨_,rfl⟩;rw [hDV,hDE] at hgt;have HGT:=jh hgt;have HDV:=jh hDV;have HDE:=jh hDE;clear hq hgt hDV hDE HCK HEK HOK HZK HQ4 HA4 HBQ HZD;go_upto_region 14 with (fail)
    refine jwl ?_;refine zm 5 (.func (.func 147) #[] #[.pointer (some ⟨p,0,none⟩)]) rfl ?_;simp only [jp,jb,jz,js];refine yah rfl 147 #[.pointer (some ⟨p,0,none⟩)] (ydU _ (.tmp 80) _ _ rfl rfl (jeo Tryz.func147 (by kernel_rfl) rfl _ _)) (hA.next.mono ?_);clear hA;rintro e u1 ⟨sA,sc,rfl,hsub,hA,hg⟩;clear hg hsub;refine ⟨_,rfl,?_⟩;simp only [jp,jb,jz,js];refine yah rfl 149 #[.agg #[.bool zd.list,.string zd.bytes,.slice sA zd.items.length sc],.int .i64 0,.int .i64 4096] (ydV _ (.tmp 81) _ _ _ rfl _ _ _ rfl rfl rfl (jeo Tryz.func149 (by kernel_rfl) rfl _ _)) ((HGT.out (.slice sA zd.items.length sc) u1).mono ?_);rintro e u2 ⟨rfl,hg⟩;replace hA:=hA.kept hg;clear hg;refine ⟨_,rfl,?_⟩;simp only [jp,jb,jz,js];refine zm 82 (.tuple #[.string DV,.int .i64 DE]) rfl ?_;simp only [jp,jb,jz,js];refine zg (.string DV) ?_;simp only [jp,jb,jz,js];refine zg (.int .i64 DE) ?_;simp only [jp,jb,jz,js];refine zg (.string DV) ?_;simp only [jp,jb,jz,js];refine zg (.int .i64 DE) ?_;simp only [jp,jb,jz,js];refine jwn ?_;go_wp2_with fail
    refine (ybx s a3 EW DE r _ hA.rd).mono ?_;rintro e w7 ⟨rfl,hrd,hg⟩;replace hA:=hA.read hg hrd;clear hg hrd;go_upto_region 16 with (fail)
    refine jwl ?_;refine zm 1 (.pointer (some ⟨gl,o,none⟩)) rfl ?_;refine zm 11 (.string DV) rfl ?_;simp only [jp,jb,jz,js];refine zg (.pointer (some ⟨gl,o,none⟩)) ?_;simp only [jp,jb,jz,js];refine zg (.pointer (some ⟨gl,o + 17,none⟩)) ?_;simp only [jp,jb,jz,js];have hrow:=hA.row;have hfit:=hA.fit;refine yaF rfl rfl (w':=w7.setRow gl (putA (o + 17) [.string DV] CW)) (by rw [<- ya2 hrow (o + 17) [.string DV]];exact yap 9 (.tmp 91) (.tmp 89) rfl gl (o + 17) rfl _ rfl #[.string DV] rfl (ya8 hrow (by simp;omega)) (by kernel_rfl) (by simp [ja2])) ?_;refine jwn ?_;have hsz:(putA (o + 17) [.string DV] CW).size = CW.size:=yc0 _ _ _;replace hA:=hA.put (C':=putA (o + 17) [.string DV] CW) hsz (yba _ _ _ _ (.inl (by omega)))
    have hout:∀ j,j < o \/ o + 36 <= j -> (putA (o + 17) [.string DV] CW)[j]? = C[j]?:=fun j hj=>by
     rw [yba _ _ _ _ (by simp;omega)];exact HO9.out j hj
    have hsz2:=hsz.trans HZ9.out;have hcd:CW = ydE o offs ws (putA o [.int .i64 (kd:Int)] C):=by rw [<- HCW.out,<- HC1.out]
    have hed:kE EW DE = ydT kd zs:=by unfold ydT;rw [HN.out,HWS.out,HEW.out,HGD.out,HDE.out]
    clear hrow hfit hsz;generalize w7.setRow gl (putA (o + 17) [.string DV] CW) = w8 at *;have c0:w8.cell? ⟨gl,o,none⟩ = some (.int .i64 (kd:Int)):=(hA.row.cell o).trans hA.kd;have HA8:=jh hA;have HSZ8:=jh hsz2;have HOUT8:=jh hout;have HCD:=jh hcd;have HED:=jh hed;by_cases h0k:kd = 0
    ·clear HA8 HSZ8 HOUT8 HCD HED;have e0:(kd:Int) = 0:=by omega
     have HEND:Hid (yfT s a E r gl o C w (.returned (.tuple #[])) w8):=jh (by
      refine ⟨a3,kE EW DE,_,rfl,hA.rd,HA3.out,hA.row,hsz2,hout,by rw [HKV.out];exact hA.kd,hA.gr,?_⟩;have hRR:=HRR.out;have hga:(gotA kd zs).2 = kE EW DE:=by rw [hed];unfold gotA;rw [if_pos h0k]
      rw [hga] at hRR;by_cases h0:kE EW DE = 0
      ·refine .inr ⟨zs,a3,none,0,[],h0,?_,rfl,?_,?_⟩
       ·rw [hRR,if_neg (by simpa using h0)]
       ·rw [HKV.out,hcd,<- HDV.out];unfold gotC;rw [if_pos h0k,HN.out,HF.out,HGD.out,HWS.out]
       ·intro hh;exact absurd (HKV.out.trans h0k) hh
      ·exact .inl ⟨h0,by rw [hRR,if_pos h0]⟩)
     clear hA hsz2 hout hcd hed h0k;go_wp2_with fail
     go_end0
     exact HEND.out
    have H0K:=jh h0k;have d0:decide ((kd:Int) = 0) = false:=decide_eq_false (by omega);have d3:¬ (kd:Int) = 0:=by omega
    have hk1:k + 1 < zs.length:=by have:=HOA.out;omega
    have hze:=jdc hk1;have hge:zs.getD (k + 1) Itm.none_ = zs[k + 1]:=by rw [jg,je hk1];rfl
    rw [hze] at HA8;generalize zs[k + 1] = ze at *;have HGE:=jh hge;clear hsz2 hout hcd hed hA h0k hze hge hk1;go_upto_region 18 with (fail)
    clear c0;have hA:=HA8.out;refine jwl ?_;refine zm 1 (.pointer (some ⟨gl,o,none⟩)) rfl ?_;refine zm 0 (.pointer (some ⟨r,0,none⟩)) rfl ?_;refine zm 5 (.func (.func 147) #[] #[.pointer (some ⟨p,0,none⟩)]) rfl ?_;simp only [jp,jb,jz,js];refine yah rfl 147 #[.pointer (some ⟨p,0,none⟩)] (ydU _ (.tmp 99) _ _ rfl rfl (jeo Tryz.func147 (by kernel_rfl) rfl _ _)) (hA.next.mono ?_);clear hA;rintro e u1 ⟨sA2,sc2,rfl,hsub,hA,hg⟩;clear hg;refine ⟨_,rfl,?_⟩;simp only [jp,jb,jz,js];have hac:=yjx ze sA2 sc2 s a3 (kE EW DE) r u1 hA.rd (hsub.weak fun g hg=>by have:=hA.rl;omega);refine yah rfl 150 #[.pointer (some ⟨r,0,none⟩),.agg #[.bool ze.list,.string ze.bytes,.slice sA2 ze.items.length sc2]] (yao _ (.tmp 98) (.tmp 100) _ rfl _ _ rfl rfl (jeo Tryz.func150 (by kernel_rfl) rfl _ _)) (hac.mono ?_);clear hac hsub;rintro e u2 ⟨AA,ac,rfl,⟨vs,hst⟩,hrd,hg⟩;have hgr1:=hA.gr.size;replace hst:=hst.lower hgr1;obtain ⟨n9,hn9⟩:∃ x,(accX ze (kE EW DE)).1.length = x:=⟨_,rfl⟩;rw [hn9] at hst ⊢;have HN9:=jh hn9;clear hgr1 hn9;replace hA:=hA.read hg hrd;clear hg hrd;refine ⟨_,rfl,?_⟩;simp only [jp,jb,jz,js];refine zg (.pointer (some ⟨gl,o,none⟩)) ?_;simp only [jp,jb,jz,js];refine zg (.pointer (some ⟨gl,o + 18,none⟩)) ?_;simp only [jp,jb,jz,js];have hrow:=hA.row;have hfit:=hA.fit;obtain ⟨CV,hCV⟩:∃ X,putA (o + 17) [.string DV] CW = X:=⟨_,rfl⟩;have HSZ9:=HSZ8.out;have HOUT9:=HOUT8.out;rw [hCV] at hrow hfit hA HSZ9 HOUT9;have hsr:=yl7 (o:=o + 18) hrow (.slice AA n9 ac);refine yaF rfl rfl (w':=u2.setRow gl (putA (o + 18) [.slice AA n9 ac] CV)) (by rw [<- ya2 hrow (o + 18) [.slice AA n9 ac]];exact yap 46 (.tmp 103) (.tmp 101) rfl gl (o + 18) rfl _ rfl #[.slice AA n9 ac] rfl (ya8 hrow (by simp;omega)) (by kernel_rfl) (by simp [ja2])) ?_;refine jwn ?_;have hll:=hA.ll;have hst9:=hst.keep (ya9 (jr u2 (some gl)) (o + 18) (.slice AA n9 ac)) (fun j hj=>by have:=ji hj;omega);rw [hsr] at hst9;have hsz:(putA (o + 18) [.slice AA n9 ac] CV).size = CV.size:=yc0 _ _ _;replace hA:=hA.put (C':=putA (o + 18) [.slice AA n9 ac] CV) hsz (yba _ _ _ _ (.inl (by omega)))
    have hout:∀ j,j < o \/ o + 36 <= j -> (putA (o + 18) [.slice AA n9 ac] CV)[j]? = C[j]?:=fun j hj=>by
     rw [yba _ _ _ _ (by simp;omega)];exact HOUT9 j hj
    have hsz2:=hsz.trans HSZ9;clear hrow hfit hsz hst hsr;generalize u2.setRow gl (putA (o + 18) [.slice AA n9 ac] CV) = w9 at *
    have HEND:Hid (yfT s a E r gl o C w (.returned (.tuple #[])) w9):=jh (by
     refine ⟨a3,(accX ze (kE EW DE)).2,_,rfl,hA.rd,HA3.out,hA.row,hsz2,hout,by rw [HKV.out];exact hA.kd,hA.gr,?_⟩;have hRR:=HRR.out;have hga:gotA kd zs = accX ze (kE EW DE):=by rw [HED.out];unfold gotA;rw [if_neg H0K.out,HN.out,HGE.out]
     rw [hga] at hRR;by_cases h0:(accX ze (kE EW DE)).2 = 0
     ·refine .inr ⟨zs,a3,AA,ac,vs,h0,?_,rfl,?_,?_⟩
      ·rw [hRR,if_neg (by simpa using h0)]
      ·rw [HKV.out,hga,HN9.out,<- hCV,HCD.out,<- HDV.out];unfold gotC;rw [if_neg H0K.out,HN.out,HF.out,HGD.out,HWS.out]
      ·intro _;rw [HKV.out,hga,HN9.out];exact hst9
     ·exact .inl ⟨h0,by rw [hRR,if_pos h0]⟩)
    clear hA hsz2 hout hst9 hll HSZ9 HOUT9 hCV;go_wp2_with fail
    go_end0
    exact HEND.out
def itW (z:Itm):Nat:=if z.list = false /\ ybF z.bytes.data.toList = 0 then beV z.bytes.data.toList else 0
theorem ygN (z:Itm) (q:Nat):yaC z.list z.bytes q = wp (itW z) q:=by
 unfold yaC itW ydH;cases z.list
 ·by_cases h:ybF z.bytes.data.toList = 0
  ·simp [h]
  ·simp [h,ydJ]
 ·simp [ydJ]
theorem ycm (z:Itm):yaP z = [.int .u64 (wp (itW z) 0:Nat),.int .u64 (wp (itW z) 1:Nat),.int .u64 (wp (itW z) 2:Nat),.int .u64 (wp (itW z) 3:Nat)]:=by
 unfold yaP;rw [ygN,ygN,ygN,ygN]
def Win (C:Array Value) (o:Nat) (l:List Value):Prop:=∀ f,f < 36 -> C[o + f]? = l[f]?
theorem yhQ:∀ (vs:List Value) (o:Nat) (c:Array Value) (j:Nat),j < vs.length -> o + vs.length <= c.size -> (putA o vs c)[o + j]? = vs[j]?
 | [],_,_,j,h,_=>by simp at h
 | v :: r,o,c,0,_,hc=>by
  simp only [jlc] at hc;rw [putA,yba r (o + 1) _ _ (by omega)];simp [Array.getElem?_setIfInBounds_self_of_lt (show o < c.size by omega)]
 | v :: r,o,c,j + 1,h,hc=>by
  simp only [jlc] at h hc;rw [putA,show o + (j + 1) = (o + 1) + j by omega,yhQ r (o + 1) _ j (by omega) (by simp;omega)];rfl
theorem Win.size {C:Array Value} {o:Nat} {l:List Value} (h:Win C o l) (hl:l.length = 36):o + 36 <= C.size:=by
 have:=h 35 (by omega);rw [je (by omega)] at this;have:=(jes.1 this).1;omega
theorem Win.put {C:Array Value} {o f:Nat} {l vs:List Value} (h:Win C o l) (hl:l.length = 36) (hf:f + vs.length <= 36):Win (putA (o + f) vs C) o (l.take f ++ (vs ++ l.drop (f + vs.length))):=by
 intro j hj;have hz:=h.size hl;by_cases h1:j < f
 ·rw [yba _ _ _ _ (.inl (by omega)),h j hj,jal (by simp;omega),ja9 h1]
 by_cases h2:j < f + vs.length
 ·have:=yhQ vs (o + f) C (j - f) (by omega) (by omega);rw [show o + f + (j - f) = o + j by omega] at this;rw [this,jar (by simp;omega),jal (by simp;omega)];congr 1
  simp;omega
 ·rw [yba _ _ _ _ (.inr (by omega)),h j hj,jar (by simp;omega),jar (by simp;omega),List.getElem?_drop];congr 1
  simp;omega
theorem Win.eq {C:Array Value} {o:Nat} {l l':List Value} (h:Win C o l) (e:l = l'):Win C o l':=e ▸ h
theorem Win.out {C C':Array Value} {o:Nat} {l:List Value} (h:Win C o l) (hk:∀ j,o <= j -> j < o + 36 -> C'[j]? = C[j]?):Win C' o l:=fun f hf=>(hk (o + f) (by omega) (by omega)).trans (h f hf)
def gotT (kd:Nat) (zs:List Itm) (y R S:Nat) (dst:ByteArray):TxV :=
 { TxV.zero with kind:=(kd:Int),value:=itW (zs.getD 0 Itm.none_),tip:=if kd = 2 then itW (zs.getD 1 Itm.none_) else 0,price:=itW (zs.getD (if kd = 2 then 2 else 1) Itm.none_),data:=dtV (zs.getD (gotN kd) Itm.none_),acc:=(gotA kd zs).1,dst:=dst,y:=y,r:=R,s:=S }
def ycG (y R S:Nat) (dst:ByteArray):TxV:={ TxV.zero with dst:=dst,y:=y,r:=R,s:=S }
theorem yiA (t:TxV) (sa sb:Value):(txL t sa sb).length = 36:=rfl
theorem yoR (kd:Nat) (zs:List Itm) (y R S:Nat) (dst:ByteArray) (C:Array Value) (o:Nat) (sl:Value) (hk:kd = 0 \/ kd = 1 \/ kd = 2) (hl:zs.length = 3 + kd) (h:Win C o (txL (ycG y R S dst) (.slice none 0 0) (.slice none 0 0))) :
  Win (gotC kd o zs C sl) o (txL (gotT kd zs y R S dst) (if kd = 0 then .slice none 0 0 else sl) (.slice none 0 0)):=by
 have h0:=h.put (f:=0) (vs:=[.int .i64 (kd:Int)]) rfl (by simp);rw [Nat.add_zero] at h0;rcases hk with rfl | rfl | rfl
 ·match zs,hl with
  | [z0,z1,z2],_ =>
   have h1:=h0.put (f:=13) (vs:=yaP z0) rfl (by simp [yaP]);have h2:=h1.put (f:=7) (vs:=yaP z1) rfl (by simp [yaP]);have h3:=h2.put (f:=17) (vs:=[.string (dtV z2)]) rfl (by simp);simp only [ycm] at h3;have hC:gotC 0 o [z0,z1,z2] C sl = putA (o + 17) [.string (dtV z2)] (putA (o + 7) (yaP z1) (putA (o + 13) (yaP z0) (putA o [.int .i64 ((0:Nat):Int)] C))):=by simp [gotC,gotO,gotN,ydE]
   simp only [hC,ycm];exact h3.eq (by simp [txL,gotT,ycG,gotN,ycm,TxV.zero])
 ·match zs,hl with
  | [z0,z1,z2,z3],_ =>
   have h1:=h0.put (f:=13) (vs:=yaP z0) rfl (by simp [yaP]);have h2:=h1.put (f:=7) (vs:=yaP z1) rfl (by simp [yaP]);have h3:=h2.put (f:=17) (vs:=[.string (dtV z2)]) rfl (by simp);have h4:=h3.put (f:=18) (vs:=[sl]) rfl (by simp);simp only [ycm] at h4;have hC:gotC 1 o [z0,z1,z2,z3] C sl = putA (o + 18) [sl] (putA (o + 17) [.string (dtV z2)] (putA (o + 7) (yaP z1) (putA (o + 13) (yaP z0) (putA o [.int .i64 ((1:Nat):Int)] C)))):=by simp [gotC,gotO,gotN,ydE]
   simp only [hC,ycm];exact h4.eq (by simp [txL,gotT,ycG,gotN,ycm,TxV.zero])
 ·match zs,hl with
  | [z0,z1,z2,z3,z4],_ =>
   have h1:=h0.put (f:=13) (vs:=yaP z0) rfl (by simp [yaP]);have h2:=h1.put (f:=3) (vs:=yaP z1) rfl (by simp [yaP]);have h3:=h2.put (f:=7) (vs:=yaP z2) rfl (by simp [yaP]);have h4:=h3.put (f:=17) (vs:=[.string (dtV z3)]) rfl (by simp);have h5:=h4.put (f:=18) (vs:=[sl]) rfl (by simp);simp only [ycm] at h5;have hC:gotC 2 o [z0,z1,z2,z3,z4] C sl = putA (o + 18) [sl] (putA (o + 17) [.string (dtV z3)] (putA (o + 7) (yaP z2) (putA (o + 3) (yaP z1) (putA (o + 13) (yaP z0) (putA o [.int .i64 ((2:Nat):Int)] C))))):=by simp [gotC,gotO,gotN,ydE]
   simp only [hC,ycm];exact h5.eq (by simp [txL,gotT,ycG,gotN,ycm,TxV.zero])
structure Gr3 (w u:World) (r g l:Nat):Prop where
 os:u.os = w.os
 tape:u.tape = w.tape
 output:u.output = w.output
 size:w.heap.size <= u.heap.size
 block:∀ k,k < w.heap.size -> k ≠ r -> k ≠ g -> k ≠ l -> u.heap[k]? = w.heap[k]?
theorem Gr3.refl (w:World) (r g l:Nat):Gr3 w w r g l:=⟨rfl,rfl,rfl,jle _,fun _ _ _ _ _=>rfl⟩
theorem Gr3.grown {w u u':World} {r g l:Nat} (h:Gr3 w u r g l) {row:Option Nat} (hg:u.grownBy u' row) (hr:∀ k,row = some k -> k = r \/ k = g \/ k = l \/ w.heap.size <= k):Gr3 w u' r g l :=
 ⟨hg.os.trans h.os,hg.tape.trans h.tape,hg.output.trans h.output,jlt h.size hg.size,fun k hk h1 h2 h3=>(hg.block k (jb6 hk h.size) (fun e=>by rcases hr k e.symm with h4 | h4 | h4 | h4;exact h1 h4;exact h2 h4;exact h3 h4;omega)).trans (h.block k hk h1 h2 h3)⟩
theorem Gr3.setRow {w u:World} {r g l:Nat} (h:Gr3 w u r g l) (C:Array Value):Gr3 w (u.setRow l C) r g l :=
 ⟨h.os,h.tape,h.output,by simpa using h.size,fun k hk h1 h2 h3=>(jso u l k C h3).trans (h.block k hk h1 h2 h3)⟩
theorem Gr3.rest {w u u':World} {r g l:Nat} (h:Gr3 w u r g l) (hg:Gr2 u u' r l):Gr3 w u' r g l :=
 ⟨hg.os.trans h.os,hg.tape.trans h.tape,hg.output.trans h.output,jlt h.size hg.size,fun k hk h1 h2 h3=>(hg.block k (jb6 hk h.size) h1 h3).trans (h.block k hk h1 h2 h3)⟩
theorem Gr3.cell {w u:World} {r g l:Nat} (h:Gr3 w u r g l) {p:Addr} {v:Value} (hv:w.cell? p = some v) (h1:p.block ≠ r) (h2:p.block ≠ g) (h3:p.block ≠ l):u.cell? p = some v:=by
 have hlt:p.block < w.heap.size:=jd7 w _ hv;rw [World.cell?_of_block (w:=w) (h.block p.block hlt h1 h2 h3)];exact hv
theorem Gr2.cell {w u:World} {r g:Nat} (h:Gr2 w u r g) {p:Addr} {v:Value} (hv:w.cell? p = some v) (h1:p.block ≠ r) (h2:p.block ≠ g):u.cell? p = some v:=by
 have hlt:p.block < w.heap.size:=jd7 w _ hv;rw [World.cell?_of_block (w:=w) (h.block p.block hlt h1 h2)];exact hv
def AccQ (o:Nat) (u:World) (ls:List AccV) (A:Option Addr) (n:Nat):Prop :=
 ls.length = n /\ (0 < n -> ∃ g off,A = some ⟨g,off,none⟩ /\ o <= g /\ g < u.heap.size /\ ∀ i,i < n -> ∃ T tc,u.cell? ⟨g,off + i * 2,none⟩ = some (.string (ls.getD i AccV.none_).addr) /\ u.cell? ⟨g,off + i * 2 + 1,none⟩ = some (.slice T (ls.getD i AccV.none_).keys.length tc) /\
  KeyR (fun g=>o <= g) u (ls.getD i AccV.none_).keys T (ls.getD i AccV.none_).keys.length /\ (ls.getD i AccV.none_).keys.length <= 1000)
theorem AccQ.keep {o n:Nat} {u u':World} {ls:List AccV} {A:Option Addr} (h:AccQ o u ls A n) (hs:u.heap.size <= u'.heap.size) (hc:∀ (p:Addr) v,o <= p.block -> u.cell? p = some v -> u'.cell? p = some v):AccQ o u' ls A n:=by
 refine ⟨h.1,fun h0=>?_⟩;obtain ⟨g,off,h1,h2,h3,h4⟩:=h.2 h0;refine ⟨g,off,h1,h2,jb6 h3 hs,fun i hi=>?_⟩;obtain ⟨T,tc,a,b,c,d⟩:=h4 i hi;exact ⟨T,tc,hc _ _ h2 a,hc _ _ h2 b,c.keep fun p hp v hv=>hc p v hp hv,d⟩
theorem AccQ.toR {o n:Nat} {u:World} {ls:List AccV} {A:Option Addr} (h:AccQ o u ls A n):AccR u.heap.size u ls A n:=by
 refine ⟨h.1,fun h0=>?_⟩;obtain ⟨g,off,h1,h2,h3,h4⟩:=h.2 h0;refine ⟨g,off,h1,h3,fun i hi=>?_⟩;obtain ⟨T,tc,a,b,c,d⟩:=h4 i hi;exact ⟨T,tc,a,b,c.reads,by omega⟩
theorem AccSt.toQ {o k c:Nat} {A:Option Addr} {ls:List AccV} {vs:List (Option Addr × Nat)} {u:World} (h:AccSt o (.slice A k c) k ls vs u):AccQ o u ls A k:=by
 refine ⟨h.lx,fun h0=>?_⟩;rcases h.own.2 with ⟨_,h1⟩ | ⟨g,cap,cur,hv,hb,hg,hn,hc,hs,ht⟩
 ·omega
 ·cases hv;refine ⟨g,0,rfl,yal h.own rfl,(jes.1 hg).1,fun i hi=>?_⟩;obtain ⟨e1,e2⟩:=yfS ls vs (by rw [h.lx,h.lv]) i (by rw [h.lx];exact hi)
  have hcell:∀ j w,j < k * 2 -> (ybu ls vs)[j]? = some w -> u.cell? ⟨g,0 + j,none⟩ = some w:=by
   intro j w hj hw;rw [je1,cell_of_row u g j cur 104 (0,0) hg,<- Array.getElem?_toList];rw [<- ht,ja9 hj] at hw;exact hw
  refine ⟨(vs.getD i (none,0)).1,(vs.getD i (none,0)).2,hcell _ _ (by omega) e1,?_,(h.key i hi).weak fun g hg=>hg.1,?_⟩
  ·have:=hcell (i * 2 + 1) _ (by omega) e2
   rwa [<- Nat.add_assoc] at this
  ·have:(ls.getD i AccV.none_) ∈ ls:=by rw [jg,je (by rw [h.lx];exact hi)];exact jc1 _
   exact h.few _ this
def SlQ (o:Nat) (u:World) (t:TxV) (sl:Value):Prop:=∃ A c,sl = .slice A t.acc.length c /\ AccQ o u t.acc A t.acc.length
theorem SlQ.keep {o:Nat} {u u':World} {t:TxV} {sl:Value} (h:SlQ o u t sl) (hs:u.heap.size <= u'.heap.size) (hc:∀ (p:Addr) v,o <= p.block -> u.cell? p = some v -> u'.cell? p = some v):SlQ o u' t sl:=by
 obtain ⟨A,c,h1,h2⟩:=h;exact ⟨A,c,h1,h2.keep hs hc⟩
structure GetS (wG:World) (s signs:ByteArray) (r sg l n k:Nat) (a sa:Nat) (E SE:Int) (C:Array Value) (cur:List Value) (ks:List Nat) (ts:List TxV) (u:World):Prop where
 rd:Blk u r 155 (rdC s a E)
 sd:Blk u sg 155 (rdC signs sa SE)
 row:Blk u l 49 C
 gr:Gr3 wG u r sg l
 rl:r < wG.heap.size
 gl:sg < wG.heap.size
 ll:l < wG.heap.size
 rg:r ≠ sg
 rw:r ≠ l
 gw:sg ≠ l
 ha:a <= s.size
 hsa:sa <= signs.size
 size:C.size = 36 * n
 kn:k <= n
 lk:ks.length = k
 lt:E = 0 -> ts.length = k
 kind:∀ i,i < k -> C[36 * i]? = some (.int .i64 ((ks.getD i 0:Nat):Int))
 good:E = 0 -> ∀ i,i < k -> ∃ sl,Win C (36 * i) (txL (ts.getD i TxV.zero) sl (.slice none 0 0)) /\ SlQ wG.heap.size u (ts.getD i TxV.zero) sl /\ (ts.getD i TxV.zero).kind = (ks.getD i 0:Nat)
 cl:cur.length = 36
 win:k < n -> Win C (36 * k) cur
 blank:∀ i,k < i -> i < n -> Win C (36 * i) (txL TxV.zero (.slice none 0 0) (.slice none 0 0))
theorem GetS.cells {wG u u':World} {s signs:ByteArray} {r sg l n k a sa:Nat} {E SE:Int} {C:Array Value} {cur:List Value} {ks:List Nat} {ts:List TxV} (h:GetS wG s signs r sg l n k a sa E SE C cur ks ts u) {row:Option Nat} (hg:u.grownBy u' row) (hr:∀ j,row = some j -> j < wG.heap.size) :
  ∀ (p:Addr) v,wG.heap.size <= p.block -> u.cell? p = some v -> u'.cell? p = some v:=fun p v hp hv=>hg.cell hv fun e=>by have:=hr _ e.symm;omega
theorem GetS.kept {wG u u':World} {s signs:ByteArray} {r sg l n k a sa:Nat} {E SE:Int} {C:Array Value} {cur:List Value} {ks:List Nat} {ts:List TxV} (h:GetS wG s signs r sg l n k a sa E SE C cur ks ts u) (hg:u.grownBy u' none):GetS wG s signs r sg l n k a sa E SE C cur ks ts u' :=
 { h with
  rd:=h.rd.grown hg (by simp),sd:=h.sd.grown hg (by simp),row:=h.row.grown hg (by simp),gr:=h.gr.grown hg (fun k e=>by cases e),
  good:=fun h0 i hi=>by obtain ⟨sl,a,b,c⟩:=h.good h0 i hi;exact ⟨sl,a,b.keep hg.size (h.cells hg (by simp)),c⟩ }
theorem GetS.read {wG u u':World} {s signs:ByteArray} {r sg l n k a sa a':Nat} {E SE E':Int} {C:Array Value} {cur:List Value} {ks:List Nat} {ts:List TxV} (h:GetS wG s signs r sg l n k a sa E SE C cur ks ts u) (hg:u.grownBy u' (some r)) (hr:Blk u' r 155 (rdC s a' E')) (ha:a' <= s.size) (hE:E' = 0 -> E = 0):GetS wG s signs r sg l n k a' sa E' SE C cur ks ts u' :=
 { h with
  rd:=hr,sd:=h.sd.grown hg (fun e=>h.rg (ji e).symm),row:=h.row.grown hg (fun e=>h.rw (ji e).symm),gr:=h.gr.grown hg (fun k e=>.inl (ji e).symm),ha:=ha,lt:=fun h0=>h.lt (hE h0),
  good:=fun h0 i hi=>by obtain ⟨sl,a,b,c⟩:=h.good (hE h0) i hi;exact ⟨sl,a,b.keep hg.size (h.cells hg (fun j e=>by have:=ji e;have:=h.rl;omega)),c⟩ }
theorem GetS.sign {wG u u':World} {s signs:ByteArray} {r sg l n k a sa sa':Nat} {E SE SE':Int} {C:Array Value} {cur:List Value} {ks:List Nat} {ts:List TxV} (h:GetS wG s signs r sg l n k a sa E SE C cur ks ts u) (hg:u.grownBy u' (some sg)) (hr:Blk u' sg 155 (rdC signs sa' SE')) (ha:sa' <= signs.size):GetS wG s signs r sg l n k a sa' E SE' C cur ks ts u' :=
 { h with
  sd:=hr,rd:=h.rd.grown hg (fun e=>h.rg (ji e)),row:=h.row.grown hg (fun e=>h.gw (ji e).symm),gr:=h.gr.grown hg (fun k e=>.inr (.inl (ji e).symm)),hsa:=ha,
  good:=fun h0 i hi=>by obtain ⟨sl,a,b,c⟩:=h.good h0 i hi;exact ⟨sl,a,b.keep hg.size (h.cells hg (fun j e=>by have:=ji e;have:=h.gl;omega)),c⟩ }
theorem yaM {u:World} {l:Nat} {C:Array Value} {p:Addr} {v:Value} (hp:p.block ≠ l) (hv:u.cell? p = some v):(u.setRow l C).cell? p = some v:=by
 rw [World.cell?_of_block (w:=u) (jso u l p.block C hp)];exact hv
def ycA (s signs:ByteArray) (nl yl:List Bool):Nat -> Nat -> Nat -> ByteArray -> Except Int (List TxV × Nat)
 | 0,_,a,_=>.ok ([],a)
 | m + 1,i,a,tos =>
  match ycg s a 0 with
  | .error e=>.error e
  | .ok (zs,T)=>match ycA s signs nl yl m (i + 1) T (if nl.getD i false = false /\ 20 <= tos.size then tos.extract 20 tos.size else tos) with
   | .error e=>.error e
   | .ok (ts,b)=>.ok (gotT (kdV s a 0) zs (if yl.getD i false then 1 else 0) (wdN signs (64 * i) 0) (wdN signs (64 * i + 32) 0) (if nl.getD i false = false /\ 20 <= tos.size then tos.extract 0 20 else ⟨#[]⟩) :: ts,b)
def ygc (ts:List TxV):Except Int (List TxV × Nat) -> Except Int (List TxV × Nat)
 | .error e=>.error e
 | .ok (us,b)=>.ok (ts ++ us,b)
theorem ymv (x:Except Int (List TxV × Nat)):ygc [] x = x:=by
 rcases x with e | ⟨us,b⟩ <;> rfl
theorem ykG (ts:List TxV) (t:TxV) (x:Except Int (List TxV × Nat)):ygc ts (ygc [t] x) = ygc (ts ++ [t]) x:=by
 rcases x with e | ⟨us,b⟩
 ·rfl
 ·simp [ygc]
theorem ymx {s signs:ByteArray} {nl yl:List Bool} {m i a:Nat} {tos:ByteArray} {e:Int} (h:ycg s a 0 = .error e):ycA s signs nl yl (m + 1) i a tos = .error e:=by
 rw [ycA,h]
theorem yg5 {s signs:ByteArray} {nl yl:List Bool} {m i a T:Nat} {tos:ByteArray} {zs:List Itm} (h:ycg s a 0 = .ok (zs,T)):ycA s signs nl yl (m + 1) i a tos =
  ygc [gotT (kdV s a 0) zs (if yl.getD i false then 1 else 0) (wdN signs (64 * i) 0) (wdN signs (64 * i + 32) 0) (if nl.getD i false = false /\ 20 <= tos.size then tos.extract 0 20 else ⟨#[]⟩)] (ycA s signs nl yl m (i + 1) T (if nl.getD i false = false /\ 20 <= tos.size then tos.extract 20 tos.size else tos)):=by
 rw [ycA,h];dsimp only;rcases ycA s signs nl yl m (i + 1) T (if nl.getD i false = false /\ 20 <= tos.size then tos.extract 20 tos.size else tos) with e | ⟨us,b⟩ <;> rfl
theorem yoo {s:ByteArray} {i n:Nat} (hs:s.size = 64 * n) (hi:i < n):tkE s (64 * i) 32 0 = 0 /\ tkA s (64 * i) 32 0 = 64 * i + 32 /\ tkE s (64 * i + 32) 32 0 = 0 /\ tkA s (64 * i + 32) 32 0 = 64 * (i + 1):=by
 have h1:tkE s (64 * i) 32 0 = 0:=by unfold tkE;rw [if_pos rfl,if_neg (by omega)]
 have h2:tkE s (64 * i + 32) 32 0 = 0:=by unfold tkE;rw [if_pos rfl,if_neg (by omega)]
 refine ⟨h1,?_,h2,?_⟩
 ·unfold tkA;rw [if_pos h1]
 ·unfold tkA;rw [if_pos h2];omega
theorem GetS.put {wG u:World} {s signs:ByteArray} {r sg l n k a sa:Nat} {E SE:Int} {C:Array Value} {cur:List Value} {ks:List Nat} {ts:List TxV} (h:GetS wG s signs r sg l n k a sa E SE C cur ks ts u) (f:Nat) (vs:List Value) (hf:f + vs.length <= 36) (hk:k < n) :
  GetS wG s signs r sg l n k a sa E SE (putA (36 * k + f) vs C) (cur.take f ++ (vs ++ cur.drop (f + vs.length))) ks ts (u.setRow l (putA (36 * k + f) vs C)) :=
 { h with
  rd:=(jso u l r _ h.rw).trans h.rd,sd:=(jso u l sg _ h.gw).trans h.sd,row:=yay h.row,gr:=h.gr.setRow _,size:=(yc0 _ _ _).trans h.size,
  kind:=fun i hi=>(yba _ _ _ _ (.inl (by omega))).trans (h.kind i hi),
  good:=fun h0 i hi=>by
   obtain ⟨sl,a,b,c⟩:=h.good h0 i hi;exact ⟨sl,a.out fun j h1 h2=>yba _ _ _ _ (.inl (by omega)),b.keep (by simp) (fun p v hp hv=>yaM (by have:=h.ll;omega) hv),c⟩
  cl:=by have:=h.cl;simp;omega
  win:=fun _=>(h.win hk).put h.cl hf
  blank:=fun i h1 h2=>(h.blank i h1 h2).out fun j h3 h4=>yba _ _ _ _ (.inr (by omega)) }
def blankL:List Value:=txL TxV.zero (.slice none 0 0) (.slice none 0 0)
def ycH (n:Nat):Array Value:=madeCells blankL.toArray (n * 36)
theorem ypW (m:Nat) (hm:m <= 1000000) (w:World):(Instr.makeSlice 39 (.int .i64 (m:Int)) (.int .i64 (m:Int))).run jq w =
  .ok (.slice (some ⟨w.heap.size,0,none⟩) m m) (w.alloc (.cells (ycH m) 49)):=by
 have hs:(jq.info? 49).isSome = true:=by kernel_rfl
 obtain ⟨i,hi⟩:=je0.1 hs;have hb:(jq.info? 49).map (fun i=>decide (i.bytes <= 10000)) = some true:=by kernel_rfl
 have hsz:(jq.info? 49).map (·.size) = some 36:=by kernel_rfl
 have hz:(jq.info? 49).bind (·.zero) = some (.agg blankL.toArray):=by kernel_rfl
 rw [hi] at hb hsz hz;simp only [Option.map_some,ja1.injEq,Option.bind_some] at hb hsz hz;have hb:=of_decide_eq_true hb;have hmk:=ybL (P:=jq) 39 49 i _ (by kernel_rfl) hi hz .i64 .i64 m m (jle _) (by have:=Nat.mul_le_mul hb hm;omega) (by omega) w;rw [hmk,hsz];rfl
theorem yjs (n:Nat):(ycH n).size = 36 * n:=by simp [ycH,madeCells];omega
theorem ygG (n i:Nat) (hi:i < n):Win (ycH n) (36 * i) (txL TxV.zero (.slice none 0 0) (.slice none 0 0)):=by
 intro f hf;have hl:blankL.length = 36:=rfl;have h2:blankL[f]? = some blankL[f]:=je (by omega);have hm:(36 * i + f) % 36 = f:=by omega
 have hlt:36 * i + f < n * 36:=by omega
 show (ycH n)[36 * i + f]? = blankL[f]?;rw [h2];simp [ycH,madeCells,hlt,hl,hm,hf]
 try rfl
def ye1 (s:ByteArray) (at_ n:Int) (chain:Nat):Bool:=decide (chain = 0) || decide (4611686018427387904 < chain) || decide (n < 0) || decide (512 < n) || decide (at_ < 0) || decide ((s.size:Int) < at_)
theorem ypB (s:ByteArray) (at_ n:Int) (chain:Nat) (w:World) (hs:s.size <= 1000000000000) (hb:ye1 s at_ n chain = true) :
  Calls jq 86 #[.string s,.int .i64 at_,.int .i64 n,.int .u64 (chain:Int)] w fun e w'=>e = .returned (.tuple #[.slice none 0 0,.int .i64 0,.int .i64 1]) /\ w.grownBy w' none:=by
 have e1:((chain:Int) == 0) = decide (chain = 0):=yiz chain 0;have e2:decide ((4611686018427387904:Int) < (chain:Int)) = decide (4611686018427387904 < chain):=decide_eq_decide.2 (by omega);unfold ye1 at hb;have end_:∀ P:Prop,P -> P:=fun _ h=>h;cases h1:decide (chain = 0)
 rotate_left
 ·rw [h1] at e1;clear hb e2;go_enter Tryz.func86,Tryz.ntmps86
  go_wp2_with fail
  go_ret3
  exact ⟨rfl,jr _ _⟩
 rw [h1] at e1 hb;cases h2:decide (4611686018427387904 < chain)
 rotate_left
 ·rw [h2] at e2;clear hb;go_enter Tryz.func86,Tryz.ntmps86
  go_wp2_with fail
  go_ret3
  exact ⟨rfl,jr _ _⟩
 rw [h2] at e2 hb;cases h3:decide (n < 0)
 rotate_left
 ·clear hb;go_enter Tryz.func86,Tryz.ntmps86
  go_wp2_with fail
  go_ret3
  exact ⟨rfl,jr _ _⟩
 rw [h3] at hb;cases h4:decide ((512:Int) < n)
 rotate_left
 ·clear hb;go_enter Tryz.func86,Tryz.ntmps86
  go_wp2_with fail
  go_ret3
  exact ⟨rfl,jr _ _⟩
 rw [h4] at hb;cases h5:decide (at_ < 0)
 rotate_left
 ·clear hb;go_enter Tryz.func86,Tryz.ntmps86
  go_wp2_with fail
  go_ret3
  exact ⟨rfl,jr _ _⟩
 rw [h5] at hb;have h6:decide ((s.size:Int) < at_) = true:=by simpa using hb
 clear hb;go_enter Tryz.func86,Tryz.ntmps86
 go_wp2_with fail
 go_ret3
 exact ⟨rfl,jr _ _⟩
def ydk (ls:List TxV):List Value:=ls.flatMap fun t=>txL t (.slice none 0 0) (.slice none 0 0)
theorem yik:∀ (ls:List TxV) (i j:Nat),i < ls.length -> j < 36 -> (ydk ls)[i * 36 + j]? = (txL (ls.getD i TxV.zero) (.slice none 0 0) (.slice none 0 0))[j]?
 | [],i,j,h,_=>by simp at h
 | t :: ls,0,j,_,hj=>by
  show (txL t _ _ ++ ydk ls)[0 * 36 + j]? = _;rw [jal (by rw [yiA];omega),Nat.zero_mul,je1];rfl
 | t :: ls,i + 1,j,h,hj=>by
  show (txL t _ _ ++ ydk ls)[(i + 1) * 36 + j]? = _;rw [jar (by rw [yiA];omega),yiA,show (i + 1) * 36 + j - 36 = i * 36 + j by omega,yik ls i j (by simpa using h) hj];rfl
theorem yot {W:World} {g:Nat} {ls:List TxV} (hb:Blk W g 49 (ydk ls).toArray) (h:∀ t ∈ ls,t.acc = [] /\ t.auths = []):TxsR W.heap.size W ls (some ⟨g,0,none⟩) ls.length:=by
 refine ⟨rfl,fun _=>⟨g,0,rfl,hb.lt,fun i hi=>?_⟩⟩;have hm:ls.getD i TxV.zero ∈ ls:=by rw [jg,je hi];exact jc1 _
 obtain ⟨h1,h2⟩:=h _ hm;refine ⟨.slice none 0 0,.slice none 0 0,fun j v hv=>?_,⟨⟨none,0,by rw [h1];rfl,by rw [h1];exact AccR.nil _ _ _⟩,⟨none,0,by rw [h2];rfl,by rw [h2];exact AutR.nil _ _ _⟩,by rw [h1];simp,by rw [h2];simp⟩⟩;have hj:j < 36:=(jc6.1 hv).1;rw [hb.cell,<- hv,<- yik ls i j hi hj,je1,jta]
theorem yos (B:Nat) (W:World):TxsR B W [] none 0:=⟨rfl,fun h=>absurd h (Nat.lt_irrefl _)⟩
theorem ypV (m:Nat) (hm:m <= 1000000) (w:World):(Instr.makeSlice 43 (.int .i64 (m:Int)) (.int .i64 (m:Int))).run jq w =
  .ok (.slice (some ⟨w.heap.size,0,none⟩) m m) (w.alloc (.cells (je2 m (.int .u8 0)) 5)):=by
 have hs:(jq.info? 5).isSome = true:=by kernel_rfl
 obtain ⟨i,hi⟩:=je0.1 hs;have hb:(jq.info? 5).map (·.bytes) = some 1:=by kernel_rfl
 have hsz:(jq.info? 5).map (·.size) = some 1:=by kernel_rfl
 have hz:(jq.info? 5).bind (·.zero) = some (.int .u8 0):=by kernel_rfl
 rw [hi] at hb hsz hz;simp only [Option.map_some,ja1.injEq,Option.bind_some] at hb hsz hz;have hmk:=ybL (P:=jq) 43 5 i _ (by kernel_rfl) hi hz .i64 .i64 m m (jle _) (by rw [hb];omega) (by omega) w;rw [hmk,hsz];congr 3;refine Array.ext_getElem? fun j=>?_;by_cases hj:j < m
 ·simp [madeCells,hj,Value.cells,Nat.mod_one]
 ·simp [madeCells,hj]
theorem ypZ (w:World):(w.alloc (.cells (je2 20 (.int .u8 0)) 5)).ownsRow w.heap.size 5 1 (.slice (some ⟨w.heap.size,0,none⟩) 20 20) 20 (u8s (jc4 20 0)) :=
 ⟨rfl,.inr ⟨w.heap.size,20,_,rfl,jle _,heap_alloc_new w _,jle _,by decide,rfl,rfl⟩⟩
theorem ymA {a:Act} {o:Oper} {W:World} (x y:Operand) {u:TypeId} (ho:o.op = .binOp .add 9 x y u) (p q r:ByteArray) (hx:a.eval x = .string p) (hy:a.eval y = .string q) (hl:p.size + q.size <= 1000000000000000000) (hr:p ++ q = r):(execOp a.eval o).run jq W = .ok (.value (.string r)) W:=by
 have h:¬ 9223372036854775807 < p.size + q.size:=by omega
 subst hr;unfold execOp;generalize a.eval = ev at *;simp [ho,hx,hy,go_sem,h]
section
variable {P:Program}
theorem yaH {ops:Array Oper} {rest:List Oper} {o:Oper} {a:Act} {w:World} {Q:Exit -> Act -> World -> Prop} (hgd:o.guard = none) (t:TypeId) (parts:Array (Nat × Operand)) (cells:Array Value) (ho:o.op = .build t parts)
  (hf:P.built t (parts.map fun (i,x)=>(i,a.eval x)).toList = some cells)
  (h:wpList P ops Q rest (a.put o.dst (.agg cells)) w):wpList P ops Q (o :: rest) a w :=
 wpList_plain hgd fun _ hK=>wp_build t parts ho (by rw [hf];rfl) (by rw [hf];exact hK _ _ h)
end
theorem ydK {ops:Array Oper} {rest:List Oper} {o:Oper} {a:Act} {w:World} {Q:Exit -> Act -> World -> Prop} (hgd:o.guard = none) (len:Nat) (parts:Array (Nat × Operand)) (ho:o.op = .buildSlice 39 len parts) (h0:0 < len) (h1:len <= 100) (cells:Array Value)
  (hf:Instr.fill (fun i=>some (i * 36,36)) ((Array.range (len * 36)).map (blankL.toArray[· % 36]!)) (parts.map fun (i,x)=>(i,a.eval x)).toList = some cells)
  (h:wpList jq ops Q rest (a.put o.dst (.slice (some ⟨w.heap.size,0,none⟩) len len)) (w.alloc (.cells cells 49))):wpList jq ops Q (o :: rest) a w:=by
 have hs:(jq.info? 49).isSome = true:=by kernel_rfl
 obtain ⟨i,hi⟩:=je0.1 hs;have hsz:(jq.info? 49).map (·.size) = some 36:=by kernel_rfl
 have hz:(jq.info? 49).bind (·.zero) = some (.agg blankL.toArray):=by kernel_rfl
 rw [hi] at hsz hz;simp only [Option.map_some,ja1.injEq,Option.bind_some] at hsz hz;refine wpList_buildSlice hgd 39 49 len parts ho cells i _ Tryz.underlying39 hi hz (by rw [hsz];omega) (by rw [hsz];omega) ?_ h;rw [hsz];exact hf
theorem ydh {P:Program} {n r id:Nat} {Q:Exit -> Act -> World -> Prop} {a:Act} {w:World} {l:List Oper} (hd:yeB l = true) (hQ:∀ a w,¬ Q .outgrown a w)
  (h:wpList P l.toArray Q l a w):(Code.region id l.toArray false).wpIn (Fence.wide.inRound r) n P Q a w :=
 wpIn_region (ydY (by simpa using hd) hQ _ _ _ (by
  rw [List.range_eq_range',<- jb0,wpOps_eq_wpList l.toArray.toList 0 (by simp)];simpa using h))
theorem ykQ (s:SpV) (A:Option Addr) (n c:Nat) (w:World) :
  Calls jq 67 #[.agg (spC s A n c)] w fun e w'=>e = .returned (.func (.func 97) #[] #[.pointer (some ⟨w.heap.size,0,none⟩)]) /\ w' = w.alloc (.cells (spC s A n c) 25):=by
 unfold spC;go_enter Tryz.func67,Tryz.ntmps67
 go_wp2
 go_ret
 exact ⟨rfl,rfl⟩
def yex (fl:List (List Value)) (pre:List (Fin fl.length)):List Value:=pre.flatMap fun x=>fl[x.val]
theorem yjm (fl:List (List Value)) (pre:List (Fin fl.length)) (x:Fin fl.length):yex fl (pre ++ [x]) = yex fl pre ++ fl[x.val]:=by simp [yex]
theorem yla (fl:List (List Value)):yex fl (ja4 fl.length) = fl.flatten:=by
 unfold yex;rw [List.flatMap_def];congr 1;apply List.ext_getElem (by simp);intro i h1 h2
 simp
theorem yb4 {W:World} {base n size:Nat} {e:TypeId} {v:Value} {xs:List Value} (h:W.ownsRow base e size v n xs):∃ A c,v = .slice A n c:=by
 rcases h.2 with ⟨h1,h2⟩ | ⟨g,cap,cur,rfl,_⟩
 ·exact ⟨none,0,by rw [h1,h2]⟩
 ·exact ⟨_,_,rfl⟩
def ym7 (x:List Value):Prop:=Instr.fill (fun i=>some (i * 36,36)) ((Array.range (1 * 36)).map (blankL.toArray[· % 36]!)) [(0,.agg x.toArray)] = some x.toArray
theorem ynT (t:TxV) (sa sb:Value)  : ym7 (txL t sa sb):=by
 unfold ym7
 kernel_rfl
theorem yi8:∃ i,jq.info? 49 = some i /\ i.zero = some (.agg blankL.toArray) /\ i.size = 36 /\ i.bytes <= 10000:=by
 have hs:(jq.info? 49).isSome = true:=by kernel_rfl
 obtain ⟨i,hi⟩:=je0.1 hs;have hsz:(jq.info? 49).map (·.size) = some 36:=by kernel_rfl
 have hz:(jq.info? 49).bind (·.zero) = some (.agg blankL.toArray):=by kernel_rfl
 have hb:(jq.info? 49).map (fun i=>decide (i.bytes <= 10000)) = some true:=by kernel_rfl
 rw [hi] at hsz hz hb;simp only [Option.map_some,ja1.injEq,Option.bind_some,decide_eq_true_eq] at hsz hz hb;exact ⟨i,hi,hz,hsz,hb⟩
theorem yhp (Bs:Nat) (A:Option Addr) (n c:Nat) (rs:List (List (List Value))) (fl:List (List Value)) (hfl:rs.flatten = fl) (w:World) (hM:SpMem w.heap.size A rs n w) (hBs:w.cell? ⟨Bs,4,none⟩ = some (.slice A n c)) (hBD:Bs < w.heap.size) (hn:n <= 9223372036854775807) (hm:∀ r ∈ rs,r.length <= 9223372036854775807) (hN:fl.length <= 10000)
  (h36:∀ x ∈ fl,x.length = 36 /\ x.toArray.all (·.oneCell') = true /\ ym7 x) :
  Calls jq 96 #[.slice none 0 0,.func (.func 97) #[] #[.pointer (some ⟨Bs,0,none⟩)]] w fun e w'=>∃ v,e = .returned v /\ w'.ownsRow w.heap.size 49 36 v fl.length fl.flatten /\ Below w.heap.size w w':=by
 refine (callsIn_wide (n:=6)).1 ?_;refine callsIn_of_wp_marks Tryz.func96 rfl trivial ?_ rfl;simp only [Tryz.ntmps96,jd5,jlc,List.length_nil,Nat.reduceAdd,Nat.reduceSub,Array.replicate_succ,Array.replicate_zero,List.push_toArray,List.append_toArray,List.nil_append,jc9];gi_wp2_with fail
 have x1:=Boxed.new w 39 (.slice none 0 0);have hga:=yaa (jr w none) (.cells #[.slice none 0 0] 39);have x4:Below w.heap.size w (w.alloc (.cells #[.slice none 0 0] 39)):=yaE hga;have hK1:KeepS (fun j=>j < w.heap.size) w (w.alloc (.cells #[.slice none 0 0] 39)):=KeepS.of_below x4 (fun j hj=>hj);generalize w.alloc (.cells #[.slice none 0 0] 39) = w1 at *;obtain ⟨b,hb⟩:∃ b,w.heap.size = b:=⟨_,rfl⟩;rw [hb] at x1 x4 hK1 hM hBD ⊢;have hb1:b < w1.heap.size:=x1.lt
 refine wpIn_rangeFunc_ownH rfl (by omega) (gf:=97) (lb:=#[.pointer (some ⟨Bs,0,none⟩)]) rfl trivial (jeo Tryz.func97 (by kernel_rfl) rfl)
  (encs:=fun x:Fin fl.length=>#[.agg (fl[x.val]).toArray]) (S:=fun ys=>ys = ja4 fl.length) (Sp:=fun pre=>pre <+: ja4 fl.length) (N:=fl.length) (w0:=w1) (Kp:=KeepS (fun j=>j < b))
  (fun l J Jx W hW hJ _ hY h0=>ynX 5 (by omega) l Bs A n c b rs fl hfl J Jx W (jlt (Nat.le_of_lt hb1) hW.size) hBD hn hm hJ (hM.keep (hK1.trans (KeepS.of_below hW (fun j (hj:j < b)=>by omega)))) (((hK1.trans (KeepS.of_below hW (fun j (hj:j < b)=>by omega))).cell (p:=⟨Bs,4,none⟩) hBD).trans hBs) hY h0)
  yiS (yiT (fun j (hj:j < b)=>by omega)) (jd1 _ _) (fun _=>rfl)
  (fun pre W=>(∃ v,Boxed W b 39 v /\ W.ownsRow b 49 36 v pre.length (yex fl pre) /\ True) /\ Below b w W)
  (fun _ _ _=>False)
  (OwnFrom.and (Own.from (holdsRow_own b b 39 49 36 (fun pre:List (Fin fl.length)=>pre.length) (yex fl) (fun _ _=>True)) _) (ownFrom_below (by omega) (by omega)))
  (fun _ _ _ _ _ hs _ _=>hs)
  ⟨⟨_,x1,jon _ _ _ _,trivial⟩,x4⟩
  (fun x a' W=>∃ g,Blk W g 49 (fl[x.val]).toArray /\ a' = { tmps:=#[.slice none 0 0,.func (.func 97) #[] #[.pointer (some ⟨Bs,0,none⟩)],.pointer (some ⟨b,0,none⟩),undef,.slice none 0 0,.pointer (some ⟨g,0,none⟩),.func (.func 97) #[] #[.pointer (some ⟨Bs,0,none⟩)],.agg (fl[x.val]).toArray,undef,undef,undef,undef,undef],defers:=[] })
  ?hAx ?assign ?body ?done ?stop
 case hAx =>
  intro x a' s X Y row hs hg' hr;obtain ⟨Bx,h2,h3⟩:=hs;refine ⟨Bx,h2.grown hg' (fun e=>?_),h3⟩;obtain ⟨_,o,ho,hc⟩:=hr Bx e.symm;rw [show X.heap[Bx]? = _ from h2] at ho;cases ho;cases hc
 case stop =>
  rintro D c pre W _ _ h _;exact h.elim
 case assign =>
  rintro l pre x W K ⟨⟨v,hv,hrow,_⟩,hB⟩ hK;obtain ⟨z1,z2,z4⟩:=h36 _ (jc1 x.isLt);have hga:=yaa (jr W none) (.cells (fl[x.val]).toArray 49);have hb':=Below.alloc hB
  repeat (first | refine ydh (id:=2) rfl (fun _ _ h=>h) (ydn ?_) | gi_step)
  refine ⟨?_⟩;obtain ⟨row,hrw⟩:∃ r,(fl[x.val]).toArray = r:=⟨_,rfl⟩;have hx:=fun W=>hK W;rw [hrw] at z2 hga hK ⊢;have z3:row.size = 36:=by rw [<- hrw];simpa using z1
  simp only [List.zip_toArray,List.zip_cons_cons,List.zip_nil_left,List.foldl_toArray,List.foldl_cons,List.foldl_nil,jb4,List.set_cons_zero,List.set_cons_succ]
  iterate 3 go_step
  refine jsw rfl 49 (.tmp 5) (.tmp 7) rfl W.heap.size row rfl rfl 49 txZ (Blk.new W _ txZ) ((show (jq.info? 49).map (·.size) = some 36 by kernel_rfl).trans (congrArg some z3.symm)) (by rw [z3];rfl) z2 ?_;rw [World.setRow_alloc_new];refine jwn ?_;exact hK _ _ ((KeepsOthers.alloc _ _).from _) (KeepS.of_below (yaE hga) (fun j (hj:j < b)=>by have:=hB.size;have:=hv.lt;omega)) ⟨⟨v,hv.alloc _,hrow.alloc _,trivial⟩,hb' (by have:=hv.lt;omega) _⟩ ⟨W.heap.size,Blk.new W _ _,rfl⟩
 case body =>
  rintro l pre x a' W hl ⟨r,hr⟩ ⟨⟨v,hv,hrow,_⟩,hB⟩ ⟨g,hbg,rfl⟩ hlt;obtain ⟨z1,z2,z4⟩:=h36 _ (jc1 x.isLt);obtain ⟨cl,hcl⟩:∃ r,fl[x.val] = r:=⟨_,rfl⟩;have hsn:=yjm fl pre x;rw [hcl] at z1 z2 z4 hbg hsn ⊢;have z3:cl.toArray.size = 36:=by simpa using z1
  obtain ⟨i0,hi,hz0,hzs,hzb⟩:=yi8;obtain ⟨A1,c1,hvs⟩:=yb4 hrow;subst hvs;have hbW:b < W.heap.size:=hv.lt;have hga:=yaa (jr W none) (.cells cl.toArray 49);have hr1:(W.alloc (.cells cl.toArray 49)).ownsRow b 49 36 (.slice A1 pre.length c1) pre.length (yex fl pre):=hrow.alloc _
  repeat (first | refine ydh (id:=3) rfl (fun _ _ h=>h) (ydn ?_) | gi_step)
  refine ⟨?_⟩;refine yac rfl (.slice A1 pre.length c1) (yaj 39 (.tmp 2) rfl _ rfl _ _ Tryz.underlying39 rfl hv.cell) ?_;simp only [jp,jb,jz,js];refine yac rfl (.agg cl.toArray) (yai rfl rfl 49 _ _ hbg ja5 rfl ((show (jq.info? 49).map (·.size) = some 36 by kernel_rfl).trans (congrArg some z3.symm))) ?_;simp only [jp,jb,jz,js];refine ydK rfl 1 _ rfl (by omega) (by omega) cl.toArray ?_ ?_
  ·simp only [List.map_toArray,ja8,List.map_nil];exact z4
  simp only [jp,jb,jz,js];obtain ⟨v',w5,hrun,hown',hgrow,_,hob⟩:=jra (P:=jq) (W.alloc (.cells cl.toArray 49)) b 39 39 49 i0 _ 36 i0.bytes Tryz.underlying39 hi hz0 hzs rfl (by rfl) (by omega) (.slice A1 pre.length c1) pre.length (yex fl pre) hr1 ⟨W.heap.size,0,none⟩ 1 1 cl (by omega) (yc5 W cl _) (fun u hu=>(Array.all_eq_true_iff_forall_mem.1 z2) u (by simpa using hu)) (by simp only [maxLen];omega) (by have:(pre.length + 1) * i0.bytes <= 10001 * 10000:=Nat.mul_le_mul (by omega) hzb;omega) (by simp;omega);obtain ⟨g',cap',rfl⟩:=ownsRow_succ hown';refine yac rfl (.slice (some ⟨g',0,none⟩) (pre.length + 1) cap') (yaw (.tmp 8) (.tmp 10) 39 rfl _ _ _ rfl rfl hrun) ?_;simp only [jp,jb,jz,js];obtain ⟨hv1,hv2,hr2,hk2,hb2⟩:=hv.appended (by decide) hrow (by omega) (jle _) hown' hgrow;have hc1:=hv1.cell;have hf1:=hv1.frozen;go_wp2_with fail
  refine ⟨hk2.from _,KeepS.of_below hb2 (fun j hj=>hj),⟨_,hv2,?_,trivial⟩,hB.trans hb2⟩;rw [hsn,jla,jlc,List.length_nil];exact hr2
 case done =>
  rintro D ys W hD rfl ⟨⟨v,hv,hrow,_⟩,hB⟩ hK;have hc:=hv.cell;rw [yla,List.length_finRange] at hrow;obtain ⟨A1,c1,rfl⟩:=yb4 hrow;gi_wp2
  refine ⟨by simp,.inl ⟨_,_,rfl,run_takeDeferred hK,?_⟩⟩;refine ⟨_,results_tmp rfl _ _ _,_,rfl,?_,?_⟩
  ·rw [hb];exact ownsRow_putObj hrow _ hK rfl
  ·rw [hb];exact hB.trans (belowK_b (w:=w) (by omega) _ D _ _ (by omega) hK rfl rfl)
theorem AccR.more {B B':Nat} {W:World} {ls:List AccV} {A:Option Addr} {n:Nat} (h:AccR B W ls A n) (hB:B <= B'):AccR B' W ls A n:=by
 refine ⟨h.1,fun h0=>?_⟩;obtain ⟨g,off,h1,h2,h3⟩:=h.2 h0;refine ⟨g,off,h1,by omega,fun i hi=>?_⟩;obtain ⟨T,tc,a,b,c,d⟩:=h3 i hi;exact ⟨T,tc,a,b,c.more hB,d⟩
theorem AutR.more {B B':Nat} {W:World} {ls:List AutV} {A:Option Addr} {n:Nat} (h:AutR B W ls A n) (hB:B <= B'):AutR B' W ls A n:=by
 refine ⟨h.1,fun h0=>?_⟩;obtain ⟨g,off,h1,h2,h3⟩:=h.2 h0;exact ⟨g,off,h1,by omega,h3⟩
theorem TxIn.more {B B':Nat} {W:World} {t:TxV} {sa sb:Value} (h:TxIn B W t sa sb) (hB:B <= B'):TxIn B' W t sa sb:=by
 obtain ⟨⟨A,c,h1,h2⟩,⟨A',c',h3,h4⟩,h5,h6⟩:=h;exact ⟨⟨A,c,h1,h2.more hB⟩,⟨A',c',h3,h4.more hB⟩,h5,h6⟩
def R36 (B:Nat) (W:World) (xs:List (List Value)) (ys:List TxV):Prop :=
 xs.length = ys.length /\ ∀ j,j < ys.length -> ∃ sa sb,xs.getD j [] = txL (ys.getD j TxV.zero) sa sb /\ TxIn B W (ys.getD j TxV.zero) sa sb
theorem yjO {α:Type} (d:α) (xs ys:List α) (j:Nat):(xs ++ ys).getD j d = if j < xs.length then xs.getD j d else ys.getD (j - xs.length) d:=by
 simp only [jg];split
 ·rw [jal (by assumption)]
 ·rw [jar (by omega)]
theorem R36.append {B:Nat} {W:World} {xs xs':List (List Value)} {ys ys':List TxV} (h:R36 B W xs ys) (h':R36 B W xs' ys'):R36 B W (xs ++ xs') (ys ++ ys'):=by
 refine ⟨by rw [jla,jla,h.1,h'.1],fun j hj=>?_⟩;rw [jla] at hj;rw [yjO,yjO,h.1];split
 ·exact h.2 j (by assumption)
 ·exact h'.2 _ (by omega)
theorem R36.nil (B:Nat) (W:World):R36 B W [] []:=⟨rfl,fun j hj=>by simp at hj⟩
theorem R36.grown {B:Nat} {W W':World} {xs:List (List Value)} {ys:List TxV} (h:R36 B W xs ys) (hg:W.grownBy W' none) (hB:B <= W.heap.size):R36 B W' xs ys :=
 ⟨h.1,fun j hj=>by obtain ⟨sa,sb,a,b⟩:=h.2 j hj;exact ⟨sa,sb,a,b.grown hg hB⟩⟩
theorem R36.mem {B:Nat} {W:World} {xs:List (List Value)} {ys:List TxV} (h:R36 B W xs ys):∀ x ∈ xs,x.length = 36 /\ x.toArray.all (·.oneCell') = true /\ ym7 x:=by
 intro x hx;obtain ⟨j,hj,rfl⟩:=List.mem_iff_getElem.1 hx;obtain ⟨sa,sb,e,⟨A,c,rfl,_⟩,⟨A',c',rfl,_⟩,_,_⟩:=h.2 j (by rw [<- h.1];exact hj);rw [jg,je hj,Option.getD_some] at e;rw [e];exact ⟨rfl,ydO _ _ _ _ _ _ _,ynT _ _ _⟩
theorem yeC {B D:Nat} {W:World} {bs:List BkV} {A:Option Addr} {n:Nat} (h:BksR B W bs A n) (hBD:B <= D):∃ rs,SpMem D A rs n W /\ R36 B W rs.flatten (bs.flatMap BkV.txs):=by
 have hx:∀ i,∃ r:List (List Value),i < n -> (∃ g off T tc o,A = some ⟨g,off,none⟩ /\ g < D /\ W.cell? ⟨g,off + i * 2,none⟩ = some (.bool o) /\ W.cell? ⟨g,off + i * 2 + 1,none⟩ = some (.slice T r.length tc) /\
   ∀ k,k < r.length -> ∃ g' off',T = some ⟨g',off',none⟩ /\ g' < D /\ W.rangeAt g' (off' + k * 36) (r.getD k [])) /\ R36 B W r (bs.getD i BkV.none_).txs:=by
  intro i;by_cases hi:i < n
  ·obtain ⟨g,off,rfl,hg,hc⟩:=h.2 (by omega);obtain ⟨T,m,tc,c0,c1,ht⟩:=hc i hi;obtain ⟨tl,htl⟩:∃ x,(bs.getD i BkV.none_).txs = x:=⟨_,rfl⟩;rw [htl] at ht ⊢
   have hk:∀ k,∃ x:List Value,k < m -> (∃ g' off',T = some ⟨g',off',none⟩ /\ g' < D /\ W.rangeAt g' (off' + k * 36) x) /\ ∃ sa sb,x = txL (tl.getD k TxV.zero) sa sb /\ TxIn B W (tl.getD k TxV.zero) sa sb:=by
    intro k;by_cases hkm:k < m
    ·obtain ⟨g',off',rfl,hg',hr⟩:=ht.2 (by omega);obtain ⟨sa,sb,a,b⟩:=hr k hkm;exact ⟨_,fun _=>⟨⟨g',off',rfl,by omega,a⟩,sa,sb,rfl,b⟩⟩
    ·exact ⟨[],fun h=>absurd h hkm⟩
   obtain ⟨f,hf⟩:=Classical.axiomOfChoice hk;have hl:((List.range m).map f).length = m:=by simp
   have hgd:∀ k,k < m -> ((List.range m).map f).getD k [] = f k:=fun k hk=>by
    rw [jg,jgm,List.getElem?_range hk];rfl
   refine ⟨(List.range m).map f,fun _=>⟨⟨g,off,T,tc,_,rfl,by omega,c0,by rw [hl];exact c1,fun k hk=>?_⟩,by rw [hl,ht.1],fun k hk=>?_⟩⟩
   ·rw [hl] at hk;rw [hgd k hk];exact (hf k hk).1
   ·have hk':k < m:=by rw [<- ht.1];exact hk
    rw [hgd k hk'];exact (hf k hk').2
  ·exact ⟨[],fun h=>absurd h hi⟩
 obtain ⟨F,hF⟩:=Classical.axiomOfChoice hx
 have hgd:∀ i,i < n -> ((List.range n).map F).getD i [] = F i:=fun i hi=>by
  rw [jg,jgm,List.getElem?_range hi];rfl
 have hall:∀ m,m <= n -> R36 B W ((List.range m).map F).flatten ((bs.take m).flatMap BkV.txs):=by
  intro m
  induction m with
  | zero=>intro _;exact R36.nil _ _
  | succ m ih =>
   intro hm;have hmb:m < bs.length:=by rw [h.1];omega
   have h1:=(hF m (by omega)).2;rw [jg,je hmb,Option.getD_some] at h1;rw [List.range_succ,List.map_append,List.flatten_append,jtk hmb,List.flatMap_append];refine (ih (by omega)).append ?_;simpa using h1
 have hfin:=hall n (jle _);rw [jtl (by rw [h.1];exact jle _)] at hfin;refine ⟨(List.range n).map F,⟨by simp,fun i hi=>?_⟩,hfin⟩;obtain ⟨⟨g,off,T,tc,o,h1,h2,h3,h4,h5⟩,h6⟩:=hF i hi;rw [hgd i hi];refine ⟨g,off,T,tc,o,h1,h2,h3,h4,fun k hk=>?_⟩;obtain ⟨g',off',a,b,c⟩:=h5 k hk;obtain ⟨m1,m2,_⟩:=h6.mem _ (show (F i).getD k [] ∈ F i by rw [jg,je hk];exact jc1 hk);exact ⟨g',off',a,b,c,m1,m2⟩
theorem yjP:∀ (fl:List (List Value)) (i j:Nat),(∀ x ∈ fl,x.length = 36) -> i < fl.length -> j < 36 -> fl.flatten[i * 36 + j]? = (fl.getD i [])[j]?
 | [],i,j,_,h,_=>by simp at h
 | x :: fl,0,j,h,_,hj=>by
  rw [List.flatten_cons,jal (by rw [h x (by simp)];omega),Nat.zero_mul,je1];rfl
 | x :: fl,i + 1,j,h,hi,hj=>by
  have hx:=h x (by simp);rw [List.flatten_cons,jar (by rw [hx];omega),hx,show (i + 1) * 36 + j - 36 = i * 36 + j by omega,yjP fl i j (fun y hy=>h y (by simp [hy])) (by simpa using hi) hj];rfl
theorem ygp {B base:Nat} {W:World} {v:Value} {fl:List (List Value)} {ls:List TxV} (hown:W.ownsRow base 49 36 v fl.length fl.flatten) (hR:R36 B W fl ls) (hB:B <= W.heap.size):∃ A c,v = .slice A ls.length c /\ TxsR W.heap.size W ls A ls.length:=by
 have hl:=hR.1;obtain ⟨_,(⟨h1,h2⟩ | ⟨g,cap,cur,h1,hb,hh,hn,hc,hz,hx⟩)⟩:=hown
 ·have h0:ls = []:=List.length_eq_zero_iff.1 (by omega);subst h0;exact ⟨none,0,h1,yos _ _⟩
 ·refine ⟨some ⟨g,0,none⟩,cap,by rw [h1,hl],rfl,fun _=>⟨g,0,rfl,Blk.lt hh,fun i hi=>?_⟩⟩;obtain ⟨sa,sb,e,hin⟩:=hR.2 i hi;refine ⟨sa,sb,fun j u hj=>?_,hin.more hB⟩;have hj36:j < 36:=(jc6.1 hj).1;have h9:=yjP fl i j (fun x hx=>(hR.mem x hx).1) (by omega) hj36;rw [e,hj,<- hx,ja9 (by omega)] at h9;rw [Blk.cell hh,je1];simpa using h9
theorem yfa {α:Type} {r:List α}:∀ {rs:List (List α)},r ∈ rs -> r.length <= rs.flatten.length
 | [],h=>by cases h
 | x :: rs,h=>by
  rw [List.flatten_cons,jla];rcases List.mem_cons.1 h with rfl | h
  ·omega
  ·have:=yfa h;omega
theorem yir (Bs:Nat) (A:Option Addr) (n c:Nat) (rs:List (List (List Value))) (w:World) (hM:SpMem w.heap.size A rs n w) (hBs:w.cell? ⟨Bs,4,none⟩ = some (.slice A n c)) (hBD:Bs < w.heap.size) (hn:n <= 9223372036854775807) (hN:rs.flatten.length <= 10000)
  (h36:∀ x ∈ rs.flatten,x.length = 36 /\ x.toArray.all (·.oneCell') = true /\ ym7 x) :
  Calls jq 66 #[.func (.func 97) #[] #[.pointer (some ⟨Bs,0,none⟩)]] w fun e w'=>∃ v,e = .returned v /\ w'.ownsRow w.heap.size 49 36 v rs.flatten.length rs.flatten.flatten /\ Below w.heap.size w w':=by
 have HA:=jh (yhp Bs A n c rs rs.flatten rfl w hM hBs hBD hn (fun r hr=>jlt (yfa hr) (by omega)) hN h36);obtain ⟨fl,hfl⟩:∃ x,rs.flatten = x:=⟨_,rfl⟩;rw [hfl] at HA ⊢;clear hM hBs hBD hn hN h36 hfl;go_enter Tryz.func66,Tryz.ntmps66
 go_wp2_with fail
 refine HA.out.mono ?_;rintro e w2 ⟨v,rfl,hown,hb⟩;have HO:=jh hown;have HB:=jh hb;clear hown hb HA;go_wp2_with fail
 go_ret
 exact ⟨_,rfl,HO.out,HB.out⟩
theorem yfR (s:SpV) (B:Nat) (A:Option Addr) (n c:Nat) (w:World) (h:BksR B w s.blocks A n) (hB:B <= w.heap.size) (hn:n <= 9223372036854775807) (hN:s.all.length <= 10000) :
  Calls jq 22 #[.agg (spC s A n c)] w fun e w'=>∃ A' c',e = .returned (.slice A' s.all.length c') /\ TxsR w'.heap.size w' s.all A' s.all.length /\ w.grownBy w' none:=by
 have hg1:=yaa (jr w none) (.cells (spC s A n c) 25);have h1:=h.grown hg1 hB;have hB1:=jlt hB hg1.size;have hbk:=Blk.new w 25 (spC s A n c);obtain ⟨cs,hcs⟩:∃ x,spC s A n c = x:=⟨_,rfl⟩;have hz:cs.size = 5:=by rw [<- hcs];rfl
 have c4:cs[4]? = some (.slice A n c):=by rw [<- hcs];rfl
 have HE:=jh (ykQ s A n c);rw [hcs] at hg1 h1 hB1 hbk HE ⊢;have HBK:=jh hbk;have H1:=jh h1;have HB1:=jh hB1;have HG1:=jh hg1;have HZ:=jh hz;have HC4:=jh c4;have HN:=jh hn;have HNN:=jh hN;clear h hB hn hN hg1 h1 hB1 hbk hcs hz c4;go_enter Tryz.func22,Tryz.ntmps22
 go_upto_region 1 with (fail)
 generalize w.alloc (.cells cs 25) = w1 at *;refine jwl ?_;refine yac rfl (.agg cs) (yai rfl rfl 25 _ _ HBK.out ja3 rfl ((show (jq.info? 25).map (·.size) = some 5 by kernel_rfl).trans (congrArg some HZ.out.symm))) ?_;simp only [jp,jb,jz,js];refine yah rfl 67 #[.agg cs] (yam _ (.tmp 3) _ rfl _ rfl (jeo Tryz.func67 (by kernel_rfl) rfl _ _)) ((HE.out w1).mono ?_);rintro e w2 ⟨rfl,hw2⟩;refine ⟨_,rfl,?_⟩;simp only [jp,jb,jz,js];have hga:=yaa (jr w1 none) (.cells cs 25);have hbs:=Blk.new w1 25 cs;rw [<- hw2] at hga hbs;have h2:=H1.out.grown hga HB1.out;have hB2:=jlt HB1.out hga.size;obtain ⟨rs,hM,hR⟩:=yeC h2 hB2;have hl:rs.flatten.length = s.all.length:=hR.1;refine yah rfl 66 #[.func (.func 97) #[] #[.pointer (some ⟨w1.heap.size,0,none⟩)]] (yam _ (.tmp 4) _ rfl _ rfl (jeo Tryz.func66 (by kernel_rfl) rfl _ _)) ((yir w1.heap.size A n c rs w2 hM ((hbs.cell 4).trans HC4.out) hbs.lt HN.out (by have:=HNN.out;omega) hR.mem).mono ?_);rintro e w3 ⟨v,rfl,hown,hb3⟩;have hg3:=yak hb3;obtain ⟨A',c',rfl,htx⟩:=ygp hown (hR.grown hg3 hB2) (jlt hB2 hg3.size);have HT:=jh htx;have HG:=jh (yab (yab HG1.out hga (by simp)) hg3 (by simp));refine ⟨_,rfl,?_⟩;simp only [jp,jb,jz,js];clear hga hbs h2 hB2 hM hR hl hown hb3 hg3 htx hw2;generalize s.all.length = m at *;go_wp2_with fail
 go_ret
 exact ⟨_,_,rfl,HT.out,HG.out⟩
theorem yd8 (s:SpV) (B:Nat) (A:Option Addr) (n c:Nat) (w:World) (h:BksR B w s.blocks A n) (hB:B <= w.heap.size) (hn:n <= 9223372036854775807) (hN:s.all.length <= 10000) :
  Calls jq 15 #[.agg (spC s A n c)] w fun e w'=>e = .returned (.int .i64 (s.all.length:Int)) /\ w.grownBy w' none:=by
 have hg1:=yaa (jr w none) (.cells (spC s A n c) 25);have HA:=jh (yfR s B A n c _ (h.grown hg1 hB) (jlt hB hg1.size) hn hN);have hbk:=Blk.new w 25 (spC s A n c);obtain ⟨cs,hcs⟩:∃ x,spC s A n c = x:=⟨_,rfl⟩;have hz:cs.size = 5:=by rw [<- hcs];rfl
 obtain ⟨m,hm⟩:∃ m,s.all.length = m:=⟨_,rfl⟩;rw [hcs] at hg1 HA hbk ⊢;rw [hm] at HA ⊢;have HBK:=jh hbk;have HG1:=jh hg1;have HZ:=jh hz;clear h hB hn hN hg1 hbk hcs hz hm;go_enter Tryz.func15,Tryz.ntmps15
 go_upto_region 1 with (fail)
 generalize w.alloc (.cells cs 25) = w1 at *;refine jwl ?_;refine yac rfl (.agg cs) (yai rfl rfl 25 _ _ HBK.out ja3 rfl ((show (jq.info? 25).map (·.size) = some 5 by kernel_rfl).trans (congrArg some HZ.out.symm))) ?_;simp only [jp,jb,jz,js];refine yah rfl 22 #[.agg cs] (yam _ (.tmp 3) _ rfl _ rfl (jeo Tryz.func22 (by kernel_rfl) rfl _ _)) (HA.out.mono ?_);rintro e w2 ⟨A',c',rfl,htx,hg2⟩;have HG:=jh (yab HG1.out hg2 (by simp));refine ⟨_,rfl,?_⟩;simp only [jp,jb,jz,js];clear htx hg2 HA;go_wp2_with fail
 go_ret
 exact ⟨rfl,HG.out⟩
end Go.Proofs.YtmaggfokhlodnaaGreatDoor
