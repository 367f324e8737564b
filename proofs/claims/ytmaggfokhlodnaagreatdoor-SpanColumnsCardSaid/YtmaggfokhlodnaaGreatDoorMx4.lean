/- Merged: HeldSt, CoE, EqS, CoD, CoF, CoG, MapF, WrdR, UwA, TxD, ExC, CoH. -/
import Derived.Test.YtmaggfokhlodnaaGreatDoorMx1
import Derived.Test.YtmaggfokhlodnaaGreatDoorMx2
import Derived.Test.YtmaggfokhlodnaaGreatDoorMx3
import Derived.Deep.MidRow
import Derived.MapKept
import Derived.RangeFuncRecord
namespace Go.Proofs.YtmaggfokhlodnaaGreatDoor
open Go.RowKit Go.Shelf
open List renaming set_cons_zero → jz, set_cons_succ → js, setIfInBounds_toArray → jb
set_option linter.unusedVariables false
set_option linter.unusedSimpArgs false
set_option maxRecDepth 100000
set_option maxHeartbeats 16000000
open Lib renaming hid → jh
open Act renaming put → jp
open World.grownBy renaming refl → jr
open _root_.List renaming getD_eq_getElem?_getD → jg, getElem?_eq_getElem → je, getElem?_cons_zero → jcz, getElem?_cons_succ → jcs, getElem?_toArray → jta, getElem_mem → jc1
open _root_.Array renaming getElem?_eq_some_iff → jes, length_toList → jb0
open World renaming size_alloc → jsa, block_lt_of_cell? → jd7
open _root_.Nat renaming le_trans → jlt, le_refl → jle
open _root_.Go.Proofs.Tryz renaming prog → jq, underlying49 → ja5, underlying22 → jb3, underlying9 → jb8, underlying3 → jb9
open Go renaming wp_region_list → jwl, wpList_nil → jwn, bodyPost_ret → jbr, wpAnyH_done → jwd, wp_region_held → jwh, setRow_other → jso, wpList_store_row → jsw
open _root_.Go.Proofs renaming enters_of → jeo
open _root_.Option renaming some → ja1
open Value renaming oneCell' → ja2, string → jb2
open Below renaming refl → jd1
open Region renaming wanted → jd9
section
variable {P:Program} {ops:Array Oper} {md:Region.Mode} {Q:Exit -> Act -> World -> Prop} {S:World -> Prop}
end
def putA:Nat -> List Value -> Array Value -> Array Value
 | _,[],c=>c
 | o,v :: r,c=>putA (o + 1) r (c.setIfInBounds o v)
theorem yc0:∀ (vs:List Value) (o:Nat) (c:Array Value),(putA o vs c).size = c.size
 | [],_,_=>rfl
 | v :: r,o,c=>by rw [putA,yc0 r];simp
theorem ydF {W:World} {g:Nat} {t:TypeId} {c0:Array Value} (h:Blk W g t c0) (c:Array Value) (i:Nat) (v:Value):(W.setRow g c).setCell ⟨g,i,none⟩ v = W.setRow g (c.setIfInBounds i v):=by
 have h:W.heap[g]? = some (.cells c0 t (0,0)):=h;have h1:=setRow_heap W g c0 c t (0,0) h;have h2:=setRow_heap W g c0 (c.setIfInBounds i v) t (0,0) h
 have hh:((W.setRow g c).setCell ⟨g,i,none⟩ v).heap = (W.setRow g (c.setIfInBounds i v)).heap:=by
  apply Array.ext_getElem?;intro k;by_cases hk:k = g
  ·subst hk;rw [h2];show ((W.setRow k c).heap.modify k _)[k]? = _;rw [Array.getElem?_modify,if_pos rfl,h1]
   simp
  ·show ((W.setRow g c).heap.modify g _)[k]? = _;rw [Array.getElem?_modify,if_neg (fun e=>hk e.symm),jso W g k c hk,jso W g k _ hk]
 calc (W.setRow g c).setCell ⟨g,i,none⟩ v = { W with heap:=((W.setRow g c).setCell ⟨g,i,none⟩ v).heap }:=rfl
  _ = { W with heap:=(W.setRow g (c.setIfInBounds i v)).heap }:=by rw [hh]
  _ = W.setRow g (c.setIfInBounds i v):=rfl
theorem ycz {W:World} {g:Nat} {t:TypeId} {c0:Array Value} (h:Blk W g t c0):∀ (vs:List Value) (o:Nat) (c:Array Value),(W.setRow g c).setCells g o vs = W.setRow g (putA o vs c)
 | [],_,_=>rfl
 | v :: r,o,c=>by rw [World.setCells,ydF h,ycz h r,putA]
theorem yjr {w:World} {g:Nat} {t:TypeId} {cs cs':Array Value} (h:Blk w g t cs):Blk (w.setRow g cs') g t cs':=setRow_heap w g cs cs' t (0,0) h
section
variable {P:Program}
theorem yeQ (w:World) (b o:Nat) (ty:TypeId) (v:Value) (cells:Array Value) (hv:v.cells = cells) (ht:w.there b o cells.size) (hi:(P.info? ty).map (·.size) = some cells.size) (h1:cells.all (·.oneCell') = true) :
  (storeVar ty ⟨b,o,none⟩ v).run P w = .ok () (w.setCells b o cells.toList):=by
 have:=run_storeCells_cells (P:=P) b o cells.toList 0 w (fun j hj=>by simpa using (ht j (by simpa using hj)).1) (fun j hj=>by simpa using (ht j (by simpa using hj)).2)
  (fun v hv=>(Array.all_eq_true_iff_forall_mem.1 h1) v (by simpa using hv))
 cases hq:P.info? ty with
 | none=>simp [hq] at hi
 | some i =>
  have hs:cells.size = i.size:=by simp [hq] at hi;omega
  simp only [Nat.add_zero] at this;simp [storeVar,sizeOf,typeInfo,hq,hv,hs,this]
theorem yap {w:World} {a:Act} {op:Oper} (ty:TypeId) (x y:Operand) (ho:op.op = .store ty x y) (b o:Nat) (hx:a.eval x = .pointer (some ⟨b,o,none⟩)) (v:Value) (hy:a.eval y = v) (cells:Array Value) (hv:v.cells = cells)
  (ht:w.there b o cells.size) (hi:(P.info? ty).map (·.size) = some cells.size) (h1:cells.all (·.oneCell') = true):(execOp a.eval op).run P w = .ok .skip (w.setCells b o cells.toList):=by
 unfold execOp;simp only [ho,hx,hy,Instr.storeAt,Instr.sureAddr,Sem.run_bind,Sem.run_pure,Result.andThen_ok,yeQ w b o ty v cells hv ht hi h1]
end
theorem ya8 {w:World} {g:Nat} {t:TypeId} {c:Array Value} (h:Blk w g t c) {o n:Nat} (hn:o + n <= c.size):w.there g o n:=fun j hj =>
 ⟨by rw [h.cell (o + j),Array.getElem?_eq_getElem (by omega)];rfl,h.frozen (o + j)⟩
section
variable {P:Program} {ops:Array Oper} {md:Region.Mode} {Q:Exit -> Act -> World -> Prop} {S:World -> Prop}
end
section
variable {P:Program} {ops:Array Oper} {md:Region.Mode} {Q:Exit -> Act -> World -> Prop} {S:World -> Prop}
theorem ybo {i fuel:Nat} {listed:Array Bool} {oi:Oper} {a:Act} {w w':World} (hi:ops[i]? = some oi) (hw:jd9 oi (yielded ops a.tmps) = true) (hd:oi.dst = none) (hrun:(execOp a.eval oi).run P w = .ok .skip w') (hS:S w')
  (h:wpAnyH P md ops Q S fuel (listed.setIfInBounds i true) a w'):wpOp P ops Q i (yfU P ops md Q S fuel listed i) a w:=by
 unfold wpOp;simp only [hi,hw,if_true];refine .inl ?_;unfold Oper.wp;rw [hrun];simp only [Oper.upon,hd,jp];exact ⟨hS,h⟩
theorem ybl {W0:World} {g:Nat} {t:TypeId} {c0:Array Value} (hb:Blk W0 g t c0) (c:Array Value) {a:Act} {op:Oper} (ty:TypeId) (x y:Operand) (ho:op.op = .store ty x y) (o:Nat) (hx:a.eval x = .pointer (some ⟨g,o,none⟩)) (v:Value) (hy:a.eval y = v) (vs:List Value) (hv:v.cells = vs.toArray)
  (hn:Nat.ble (o + vs.length) c.size = true) (hi:(P.info? ty).map (·.size) = some vs.length) (h1:vs.toArray.all (·.oneCell') = true) (c':Array Value) (hc:putA o vs c = c'):(execOp a.eval op).run P (W0.setRow g c) = .ok .skip (W0.setRow g c'):=by
 have hbc:Blk (W0.setRow g c) g t c:=yjr hb;have:=yap (P:=P) (w:=W0.setRow g c) ty x y ho g o hx v hy vs.toArray hv (ya8 hbc (by simpa using Nat.le_of_ble_eq_true hn)) (by simpa using hi) h1;rw [this];show Result.ok Next.skip ((W0.setRow g c).setCells g o vs) = _;rw [ycz hb,hc]
end
section
variable {P:Program}
theorem yac {ops:Array Oper} {rest:List Oper} {op:Oper} {a:Act} {w w':World} {Q:Exit -> Act -> World -> Prop} (hgd:op.guard = none) (v:Value) (h:(execOp a.eval op).run P w = .ok (.value v) w') (hk:wpList P ops Q rest (a.put op.dst v) w'):wpList P ops Q (op :: rest) a w :=
 wpList_plain hgd fun K hK=>by unfold Oper.wp;rw [h];exact hK _ _ hk
theorem yaF {ops:Array Oper} {rest:List Oper} {op:Oper} {a:Act} {w w':World} {Q:Exit -> Act -> World -> Prop} (hgd:op.guard = none) (hd:op.dst = none) (h:(execOp a.eval op).run P w = .ok .skip w') (hk:wpList P ops Q rest a w'):wpList P ops Q (op :: rest) a w :=
 wpList_plain hgd fun K hK=>by unfold Oper.wp;rw [h];simp only [Oper.upon,hd,jp];exact hK _ _ hk
end

theorem zg {P:Program} {ops:Array Oper} {rest:List Oper} {op:Oper} {a:Act} {w:World} {Q:Exit -> Act -> World -> Prop} (v:Value) (hk:wpList P ops Q rest (a.put op.dst v) w) (hg:op.guard = none:=by rfl) (h:(execOp a.eval op).run P w = .ok (.value v) w:=by go_simp <;> rfl):wpList P ops Q (op :: rest) a w :=
 yac hg v h hk
section
variable {P:Program}
theorem yaj {a:Act} {o:Oper} {W:World} (ty:TypeId) (x:Operand) (ho:o.op = .load ty x) (p:Addr) (hx:a.eval x = .pointer (some p)) (v:Value) (d:TypeDesc) (hu:P.underlying ty = some d) (hd:(match d with | .struct _ | .array _ _=>true | _=>false) = false) (hc:W.cell? p = some v):(execOp a.eval o).run P W = .ok (.value v) W:=by
 unfold execOp;simp only [ho,hx,Instr.loadAt,Instr.sureAddr,Sem.run_bind,Sem.run_pure,Result.andThen_ok,ya3 hu hd hc]
end
theorem yg2 {a W:World} (h:a.grownBy W none):a.grownBy W.drew none:=yab h (yak (show Below W.heap.size W W.drew from ⟨rfl,rfl,rfl,jle _,fun _ _=>rfl⟩)) (by simp)
theorem yaD {W:World} {g h:Nat} {t:TypeId} {cs:Array Value} (hb:Blk W g t cs) (hne:g ≠ h) (i:Nat) (v:Value):Blk (W.setCell ⟨h,i,none⟩ v) g t cs:=by
 have hb':W.heap[g]? = some (.cells cs t (0,0)):=hb;show (W.heap.modify h _)[g]? = _;rw [Array.getElem?_modify,if_neg (fun e=>hne e.symm),hb']
structure TA where
 k:Int:=0
 c:Int:=0
 n:Int:=0
 t0:Int:=0
 t1:Int:=0
 t2:Int:=0
 t3:Int:=0
 p0:Int:=0
 p1:Int:=0
 p2:Int:=0
 p3:Int:=0
 g:Int:=0
 d:ByteArray:=⟨#[]⟩
 v0:Int:=0
 v1:Int:=0
 v2:Int:=0
 v3:Int:=0
 x:ByteArray:=⟨#[]⟩
 pa:Option Addr:=none
 na:Nat:=0
 xa:Nat:=0
 pb:Option Addr:=none
 nb:Nat:=0
 xb:Nat:=0
 y:Int:=0
 r0:Int:=0
 r1:Int:=0
 r2:Int:=0
 r3:Int:=0
 s0:Int:=0
 s1:Int:=0
 s2:Int:=0
 s3:Int:=0
 o:ByteArray:=⟨#[]⟩
 f:ByteArray:=⟨#[]⟩
 m0:Int:=0
 m1:Int:=0
 m2:Int:=0
 m3:Int:=0
 b:Bool:=false
def TA.L (t:TA):Array Value:=txA t.k t.c t.n t.t0 t.t1 t.t2 t.t3 t.p0 t.p1 t.p2 t.p3 t.g t.d t.v0 t.v1 t.v2 t.v3 t.x (.slice t.pa t.na t.xa) (.slice t.pb t.nb t.xb) t.y t.r0 t.r1 t.r2 t.r3 t.s0 t.s1 t.s2 t.s3 t.o t.f t.m0 t.m1 t.m2 t.m3 t.b
theorem TA.one (t:TA):(t.L.all fun x=>x.oneCell') = true:=by unfold TA.L txA;simp [ja2]
def txZ:Array Value:=({}:TA).L
def nmA (t:TA):TA:={ k:=t.k,g:=t.g,d:=t.d,v0:=t.v0,v1:=t.v1,v2:=t.v2,v3:=t.v3,x:=t.x }
def nmD (t:TA) (j:Nat):TA:={ nmA t with o:=bif Nat.blt 0 j then t.o else ⟨#[]⟩,f:=bif Nat.blt 1 j then t.f else ⟨#[]⟩,m0:=bif Nat.blt 2 j then t.m0 else 0,m1:=bif Nat.blt 2 j then t.m1 else 0,m2:=bif Nat.blt 2 j then t.m2 else 0,m3:=bif Nat.blt 2 j then t.m3 else 0,b:=bif Nat.blt 3 j then t.b else false }
def nmB (t:TA) (j:Nat):TA:={ nmA t with c:=bif Nat.blt 0 j then t.c else 0,n:=bif Nat.blt 1 j then t.n else 0,p0:=bif Nat.blt 2 j then t.p0 else 0,p1:=bif Nat.blt 2 j then t.p1 else 0,p2:=bif Nat.blt 2 j then t.p2 else 0,p3:=bif Nat.blt 2 j then t.p3 else 0,y:=bif Nat.blt 3 j then t.y else 0,r0:=bif Nat.blt 4 j then t.r0 else 0,r1:=bif Nat.blt 4 j then t.r1 else 0,r2:=bif Nat.blt 4 j then t.r2 else 0,r3:=bif Nat.blt 4 j then t.r3 else 0,s0:=bif Nat.blt 5 j then t.s0 else 0,s1:=bif Nat.blt 5 j then t.s1 else 0,s2:=bif Nat.blt 5 j then t.s2 else 0,s3:=bif Nat.blt 5 j then t.s3 else 0 }
def nmH (h:Bool) (t u:TA):TA:={ u with pb:=bif h then t.pb else u.pb,nb:=bif h then t.nb else u.nb,xb:=bif h then t.xb else u.xb }
def nmT (h:Bool) (t u:TA):TA:={ u with t0:=bif h then t.t0 else u.t0,t1:=bif h then t.t1 else u.t1,t2:=bif h then t.t2 else u.t2,t3:=bif h then t.t3 else u.t3 }
def nmX (h:Bool) (t u:TA):TA:={ u with pa:=bif h then t.pa else u.pa,na:=bif h then t.na else u.na,xa:=bif h then t.xa else u.xa }
section
variable {P:Program} {ops:Array Oper} {md:Region.Mode} {Q:Exit -> Act -> World -> Prop} {fuel:Nat} {listed:Array Bool} {a:Act} {w:World} {g:Nat} {t:TypeId} {cs:Array Value} {S:World -> Prop} {oi:Oper}
theorem cP (g i d o:Nat) (hi:ops[i]? = some oi) (hS:S w) (h:wpAnyH P md ops Q S fuel (listed.setIfInBounds i true) (a.put (some d) (.pointer (some ⟨g,o,none⟩))) w)
  (hd:oi.dst = some d:=by rfl) (hQ:∀ c a w,Q (.panic c) (a.put oi.dst (.pointer (some ⟨g,o,none⟩))) w -> Q (.panic c) a w:=by exact fun _ _ _ h=>h) (hs:Region.noSelect ops = true:=by kernel_rfl) (hf:Region.free md ops listed i = true:=by kernel_rfl) (hr:(Region.ready md ops listed).contains i = true:=by kernel_rfl) (hw:jd9 oi (yielded ops a.tmps) = true:=by kernel_rfl)
  (hy:∀ W,(execOp a.eval oi).run P W = .ok (.value (.pointer (some ⟨g,o,none⟩))) W:=by intro W;go_simp):wpAnyH P md ops Q S (fuel + 1) listed a w :=
 yeq (i:=i) (v:=.pointer (some ⟨g,o,none⟩)) (some d) hi hs hf hr hQ hd (Or.inl ⟨hw,fun W _=>hy W⟩) hS h
theorem cL (i d:Nat) (v:Value) (hi:ops[i]? = some oi) (hy:∀ W,S W -> (execOp a.eval oi).run P W = .ok (.value v) W) (hS:S w) (h:wpAnyH P md ops Q S fuel (listed.setIfInBounds i true) (a.put (some d) v) w)
  (hd:oi.dst = some d:=by rfl) (hQ:∀ c a w,Q (.panic c) (a.put oi.dst v) w -> Q (.panic c) a w:=by exact fun _ _ _ h=>h) (hs:Region.noSelect ops = true:=by kernel_rfl) (hf:Region.free md ops listed i = true:=by kernel_rfl) (hr:(Region.ready md ops listed).contains i = true:=by kernel_rfl) (hw:jd9 oi (yielded ops a.tmps) = true:=by kernel_rfl):wpAnyH P md ops Q S (fuel + 1) listed a w :=
 yeq (i:=i) (v:=v) (some d) hi hs hf hr hQ hd (Or.inl ⟨hw,hy⟩) hS h
theorem cS {W0:World} {g':Nat} {t':TypeId} {c0 c:Array Value} (hb:Blk W0 g' t' c0) (i:Nat) (ty:TypeId) (x y:Operand) (o:Nat) (v:Value) (vs:List Value) (c':Array Value) (hi:ops[i]? = some oi) (ho:oi.op = .store ty x y) (hx:a.eval x = .pointer (some ⟨g',o,none⟩)) (hy:a.eval y = v) (hS:S (W0.setRow g' c')) (h:wpAnyH P md ops Q S fuel (listed.setIfInBounds i true) a (W0.setRow g' c'))
  (hv:v.cells = vs.toArray:=by rfl) (hd:oi.dst = none:=by rfl) (hr:Region.ready md ops listed = [i]:=by kernel_rfl) (hw:jd9 oi (yielded ops a.tmps) = true:=by kernel_rfl) (hn:Nat.ble (o + vs.length) c.size = true:=by kernel_rfl) (hz:(P.info? ty).map (·.size) = some vs.length:=by kernel_rfl) (h1:vs.toArray.all (·.oneCell') = true:=by simp [ja2]) (hc:putA o vs c = c':=by kernel_rfl):wpAnyH P md ops Q S (fuel + 1) listed a (W0.setRow g' c) :=
 yag hr (ybo hi hw hd (ybl hb c ty x y ho o hx v hy vs hv hn hz h1 c' hc) hS h)
end
structure NmS (w:World) (t u:TA) (g g3:Nat) (W:World):Prop where
 a:Blk W g 49 t.L
 b:Blk W (g + 1) 49 txZ
 c:Blk W g3 49 u.L
 d:w.grownBy W none
 e:w.heap.size = g
 f:g3 = g + 2
theorem NmS.put {w:World} {t u u':TA} {g g3:Nat} {W:World} (h:NmS w t u g g3 W):NmS w t u' g g3 (W.setRow g3 u'.L):=by
 obtain ⟨a,b,c,d,e,f⟩:=h;exact ⟨(jso W g3 g _ (by omega)).trans a,(jso W g3 (g + 1) _ (by omega)).trans b,yay c,ybq d (by omega) _,e,f⟩
theorem yh7 (t:TA) (w:World):Calls jq 110 #[.agg t.L] w fun e w'=>e = .returned (.agg (if t.k = 126 then nmD t 4 else nmX (decide (t.k = 1 \/ t.k = 2 \/ t.k = 4)) t (nmT (decide (t.k = 2 \/ t.k = 4)) t (nmH (decide (t.k = 4)) t (nmB t 6)))).L) /\ w.grownBy w' none:=by
 obtain ⟨R,hR⟩:∃ R,(if t.k = 126 then nmD t 4 else nmX (decide (t.k = 1 \/ t.k = 2 \/ t.k = 4)) t (nmT (decide (t.k = 2 \/ t.k = 4)) t (nmH (decide (t.k = 4)) t (nmB t 6)))).L = R:=⟨_,rfl⟩;have HQ:=jh hR;rw [hR];clear hR;have hG:=yaa (yaa (jr w none) (.cells t.L 49)) (.cells txZ 49);have hb1:=(Blk.new w 49 t.L).alloc (.cells txZ 49);have hb2:=Blk.new (w.alloc (.cells t.L 49)) 49 txZ;rw [jsa] at hb2;go_enter Tryz.func110,Tryz.ntmps110
 go_upto_region 1 with (fail)
 change Code.wp _ _ _ _ ((w.alloc (.cells t.L 49)).alloc (.cells txZ 49));obtain ⟨g,hg⟩:∃ g,w.heap.size = g:=⟨_,rfl⟩;have HW:=jh hg;rw [hg] at hb1 hb2 ⊢;clear hg;have hsz:((w.alloc (.cells t.L 49)).alloc (.cells txZ 49)).heap.size = g + 2:=by rw [jsa,jsa,HW.out]
 generalize (w.alloc (.cells t.L 49)).alloc (.cells txZ 49) = w1 at *;have c0:w1.cell? ⟨g,0,none⟩ = some (.int .i64 t.k):=hb1.cell 0;have c11:w1.cell? ⟨g,11,none⟩ = some (.int .u64 t.g):=hb1.cell 11;have c12:w1.cell? ⟨g,12,none⟩ = some (.string t.d):=hb1.cell 12;have c13:w1.cell? ⟨g,13,none⟩ = some (.int .u64 t.v0):=hb1.cell 13;have c14:w1.cell? ⟨g,14,none⟩ = some (.int .u64 t.v1):=hb1.cell 14;have c15:w1.cell? ⟨g,15,none⟩ = some (.int .u64 t.v2):=hb1.cell 15;have c16:w1.cell? ⟨g,16,none⟩ = some (.int .u64 t.v3):=hb1.cell 16;have c17:w1.cell? ⟨g,17,none⟩ = some (.string t.x):=hb1.cell 17;have HB1:=jh (hb1.alloc (.cells (nmA t).L 49));have HB2:=jh (hb2.alloc (.cells (nmA t).L 49));have HB3:=jh (Blk.new w1 49 (nmA t).L);have HG:=jh (yaa hG (.cells (nmA t).L 49));have HSZ:=jh hsz;clear hb1 hb2 hG hsz;refine jwl ?_
 iterate 36 go_step
 refine wp_store_row 49 (.tmp 3) (.tmp 14) rfl w1.heap.size (nmA t).L rfl rfl 49 txZ (Blk.new w1 _ txZ) (by kernel_rfl) rfl (TA.one _) ?_;rw [World.setRow_alloc_new];obtain ⟨g3,hg3⟩:∃ g,w1.heap.size = g:=⟨_,rfl⟩;rw [hg3] at HB3 ⊢;have HNE:=jh (show g3 = g + 2 by rw [<- hg3];exact HSZ.out);clear hg3;generalize w1.alloc (.cells (nmA t).L 49) = w2 at *;clear c0 c11 c12 c13 c14 c15 c16 c17;have c0:w2.cell? ⟨g,0,none⟩ = some (.int .i64 t.k):=HB1.out.cell 0;obtain ⟨K,hK⟩:∃ K,t.k = K:=⟨_,rfl⟩;rw [hK] at c0;have HK:=jh hK;clear hK;by_cases h126:K = 126
 ·subst h126;go_upto_region 3 with (fail)
  refine jwh (S:=fun V=>Blk V g 49 t.L) (by kernel_rfl) ?_;change wpAnyH _ _ _ _ _ _ _ _ w2.drew;have hS0:Blk w2.drew g 49 t.L:=HB1.out;have hU0:Blk w2.drew g3 49 (nmA t).L:=HB3.out;have hT0:Blk w2.drew (g + 1) 49 txZ:=HB2.out;have hg0:=yg2 HG.out;clear c0;generalize w2.drew = u0 at *;refine cP g 0 18 29 rfl hS0 ?_;simp only [jp,jb,jz,js];refine cL 1 19 (.string t.o) rfl (fun W hW=>yaj 9 _ rfl _ rfl _ _ jb8 rfl ((Blk.cell hW 29).trans rfl)) hS0 ?_;simp only [jp,jb,jz,js];refine cP g 2 20 30 rfl hS0 ?_;simp only [jp,jb,jz,js];refine cL 3 21 (.string t.f) rfl (fun W hW=>yaj 9 _ rfl _ rfl _ _ jb8 rfl ((Blk.cell hW 30).trans rfl)) hS0 ?_;simp only [jp,jb,jz,js];refine cP g 4 22 31 rfl hS0 ?_;simp only [jp,jb,jz,js];refine cL 5 23 (.agg #[.int .u64 t.m0,.int .u64 t.m1,.int .u64 t.m2,.int .u64 t.m3]) rfl (fun W hW=>ybp _ rfl rfl ((Blk.cell hW 31).trans rfl) ((Blk.cell hW 32).trans rfl) ((Blk.cell hW 33).trans rfl) ((Blk.cell hW 34).trans rfl)) hS0 ?_;simp only [jp,jb,jz,js];refine cP g 6 24 35 rfl hS0 ?_;simp only [jp,jb,jz,js];refine cL 7 25 (.bool t.b) rfl (fun W hW=>yaj 4 _ rfl _ rfl _ _ Tryz.underlying4 rfl ((Blk.cell hW 35).trans rfl)) hS0 ?_;simp only [jp,jb,jz,js];have hSr:∀ c,Blk (u0.setRow g3 c) g 49 t.L:=fun c=>(jso u0 g3 g c (by have:=HNE.out;omega)).trans hS0;have hself:=setRow_self u0 g3 _ 49 (0,0) hU0;rw [<- hself];clear hself;refine cP g3 8 26 29 rfl (hSr _) ?_;simp only [jp,jb,jz,js];refine cS hU0 9 9 (.tmp 26) (.tmp 19) 29 (.string t.o) [.string t.o] (nmD t 1).L rfl rfl rfl rfl (hSr _) ?_;(try simp only [jp,jb,jz,js]);refine cP g3 10 27 30 rfl (hSr _) ?_;simp only [jp,jb,jz,js];refine cS hU0 11 9 (.tmp 27) (.tmp 21) 30 (.string t.f) [.string t.f] (nmD t 2).L rfl rfl rfl rfl (hSr _) ?_;(try simp only [jp,jb,jz,js]);refine cP g3 12 28 31 rfl (hSr _) ?_;simp only [jp,jb,jz,js];refine cS hU0 13 45 (.tmp 28) (.tmp 23) 31 (.agg #[.int .u64 t.m0,.int .u64 t.m1,.int .u64 t.m2,.int .u64 t.m3]) [.int .u64 t.m0,.int .u64 t.m1,.int .u64 t.m2,.int .u64 t.m3] (nmD t 3).L rfl rfl rfl rfl (hSr _) ?_;(try simp only [jp,jb,jz,js]);refine cP g3 14 29 35 rfl (hSr _) ?_;simp only [jp,jb,jz,js];refine cS hU0 15 4 (.tmp 29) (.tmp 25) 35 (.bool t.b) [.bool t.b] (nmD t 4).L rfl rfl rfl rfl (hSr _) ?_;(try simp only [jp,jb,jz,js]);refine jwd (by kernel_rfl) ?_ _;replace HB1:=jh (hSr (nmD t 4).L);replace HB2:=jh (show Blk (u0.setRow g3 (nmD t 4).L) (g + 1) 49 txZ from (jso u0 g3 (g + 1) _ (by have:=HNE.out;omega)).trans hT0);replace HB3:=jh (yay (cs':=(nmD t 4).L) hU0);replace HG:=jh (ybq (g:=g3) hg0 (by have:=HW.out;have:=HNE.out;omega) (nmD t 4).L);clear hS0 hT0 hU0 hg0 hSr;generalize u0.setRow g3 (nmD t 4).L = w3 at *;go_upto_region 4 with (fail)
  refine jwl ?_;refine wpList_load_row rfl 49 (.tmp 3) rfl g3 rfl 49 (nmD t 4).L (0,0) _ HB3.out ja5 rfl (by kernel_rfl) ?_;simp only [jp,jb,jz,js];refine jsw rfl 49 (.tmp 2) (.tmp 30) rfl (g + 1) (nmD t 4).L rfl rfl 49 txZ HB2.out (by kernel_rfl) rfl (TA.one _) ?_;have HR2:=jh (yay (cs':=(nmD t 4).L) HB2.out);have HG3:=jh (ybq (g:=g + 1) HG.out (by have:=HW.out;omega) (nmD t 4).L);generalize w3.setRow (g + 1) (nmD t 4).L = w9 at *;refine jwn ?_;simp only [jp,jb,jz,js];go_wp2_with fail
  refine jbr (results_cell_row (fn:=Tryz.f110) rfl _ _ _ _ _ _ _ rfl HR2.out ja5 rfl (by kernel_rfl)) rfl ?_;exact ⟨by rw [<- HQ.out];rw [if_pos HK.out],HG3.out⟩
 have d126:decide (K = 126) = false:=decide_eq_false h126;have H126:=jh (show ¬ t.k = 126 by rw [HK.out];exact h126);go_upto_region 5 with (fail)
 refine jwh (S:=fun V=>Blk V g 49 t.L) (by kernel_rfl) ?_;change wpAnyH _ _ _ _ _ _ _ _ w2.drew;have hS0:Blk w2.drew g 49 t.L:=HB1.out;have hU0:Blk w2.drew g3 49 (nmA t).L:=HB3.out;have hT0:Blk w2.drew (g + 1) 49 txZ:=HB2.out;have hg0:=yg2 HG.out;clear c0;generalize w2.drew = u0 at *;refine cP g 0 31 1 rfl hS0 ?_;simp only [jp,jb,jz,js];refine cL 1 32 (.int .u64 t.c) rfl (fun W hW=>yaj 22 _ rfl _ rfl _ _ jb3 rfl ((Blk.cell hW 1).trans rfl)) hS0 ?_;simp only [jp,jb,jz,js];refine cP g 2 33 2 rfl hS0 ?_;simp only [jp,jb,jz,js];refine cL 3 34 (.int .u64 t.n) rfl (fun W hW=>yaj 22 _ rfl _ rfl _ _ jb3 rfl ((Blk.cell hW 2).trans rfl)) hS0 ?_;simp only [jp,jb,jz,js];refine cP g 4 35 7 rfl hS0 ?_;simp only [jp,jb,jz,js];refine cL 5 36 (.agg #[.int .u64 t.p0,.int .u64 t.p1,.int .u64 t.p2,.int .u64 t.p3]) rfl (fun W hW=>ybp _ rfl rfl ((Blk.cell hW 7).trans rfl) ((Blk.cell hW 8).trans rfl) ((Blk.cell hW 9).trans rfl) ((Blk.cell hW 10).trans rfl)) hS0 ?_;simp only [jp,jb,jz,js];refine cP g 6 37 20 rfl hS0 ?_;simp only [jp,jb,jz,js];refine cL 7 38 (.int .u64 t.y) rfl (fun W hW=>yaj 22 _ rfl _ rfl _ _ jb3 rfl ((Blk.cell hW 20).trans rfl)) hS0 ?_;simp only [jp,jb,jz,js];refine cP g 8 39 21 rfl hS0 ?_;simp only [jp,jb,jz,js];refine cL 9 40 (.agg #[.int .u64 t.r0,.int .u64 t.r1,.int .u64 t.r2,.int .u64 t.r3]) rfl (fun W hW=>ybp _ rfl rfl ((Blk.cell hW 21).trans rfl) ((Blk.cell hW 22).trans rfl) ((Blk.cell hW 23).trans rfl) ((Blk.cell hW 24).trans rfl)) hS0 ?_;simp only [jp,jb,jz,js];refine cP g 10 41 25 rfl hS0 ?_;simp only [jp,jb,jz,js];refine cL 11 42 (.agg #[.int .u64 t.s0,.int .u64 t.s1,.int .u64 t.s2,.int .u64 t.s3]) rfl (fun W hW=>ybp _ rfl rfl ((Blk.cell hW 25).trans rfl) ((Blk.cell hW 26).trans rfl) ((Blk.cell hW 27).trans rfl) ((Blk.cell hW 28).trans rfl)) hS0 ?_;simp only [jp,jb,jz,js];have hSr:∀ c,Blk (u0.setRow g3 c) g 49 t.L:=fun c=>(jso u0 g3 g c (by have:=HNE.out;omega)).trans hS0;have hself:=setRow_self u0 g3 _ 49 (0,0) hU0;rw [<- hself];clear hself;refine cP g3 12 43 1 rfl (hSr _) ?_;simp only [jp,jb,jz,js];refine cS hU0 13 22 (.tmp 43) (.tmp 32) 1 (.int .u64 t.c) [.int .u64 t.c] (nmB t 1).L rfl rfl rfl rfl (hSr _) ?_;(try simp only [jp,jb,jz,js]);refine cP g3 14 44 2 rfl (hSr _) ?_;simp only [jp,jb,jz,js];refine cS hU0 15 22 (.tmp 44) (.tmp 34) 2 (.int .u64 t.n) [.int .u64 t.n] (nmB t 2).L rfl rfl rfl rfl (hSr _) ?_;(try simp only [jp,jb,jz,js]);refine cP g3 16 45 7 rfl (hSr _) ?_;simp only [jp,jb,jz,js];refine cS hU0 17 45 (.tmp 45) (.tmp 36) 7 (.agg #[.int .u64 t.p0,.int .u64 t.p1,.int .u64 t.p2,.int .u64 t.p3]) [.int .u64 t.p0,.int .u64 t.p1,.int .u64 t.p2,.int .u64 t.p3] (nmB t 3).L rfl rfl rfl rfl (hSr _) ?_;(try simp only [jp,jb,jz,js]);refine cP g3 18 46 20 rfl (hSr _) ?_;simp only [jp,jb,jz,js];refine cS hU0 19 22 (.tmp 46) (.tmp 38) 20 (.int .u64 t.y) [.int .u64 t.y] (nmB t 4).L rfl rfl rfl rfl (hSr _) ?_;(try simp only [jp,jb,jz,js]);refine cP g3 20 47 21 rfl (hSr _) ?_;simp only [jp,jb,jz,js];refine cS hU0 21 45 (.tmp 47) (.tmp 40) 21 (.agg #[.int .u64 t.r0,.int .u64 t.r1,.int .u64 t.r2,.int .u64 t.r3]) [.int .u64 t.r0,.int .u64 t.r1,.int .u64 t.r2,.int .u64 t.r3] (nmB t 5).L rfl rfl rfl rfl (hSr _) ?_;(try simp only [jp,jb,jz,js]);refine cP g3 22 48 25 rfl (hSr _) ?_;simp only [jp,jb,jz,js];refine cS hU0 23 45 (.tmp 48) (.tmp 42) 25 (.agg #[.int .u64 t.s0,.int .u64 t.s1,.int .u64 t.s2,.int .u64 t.s3]) [.int .u64 t.s0,.int .u64 t.s1,.int .u64 t.s2,.int .u64 t.s3] (nmB t 6).L rfl rfl rfl rfl (hSr _) ?_;(try simp only [jp,jb,jz,js]);refine jwd (by kernel_rfl) ?_ _;replace HB1:=jh (hSr (nmB t 6).L);replace HB2:=jh (show Blk (u0.setRow g3 (nmB t 6).L) (g + 1) 49 txZ from (jso u0 g3 (g + 1) _ (by have:=HNE.out;omega)).trans hT0);replace HB3:=jh (yay (cs':=(nmB t 6).L) hU0);replace HG:=jh (ybq (g:=g3) hg0 (by have:=HW.out;have:=HNE.out;omega) (nmB t 6).L);clear hS0 hT0 hU0 hg0 hSr;generalize u0.setRow g3 (nmB t 6).L = w3 at *;have c0:w3.cell? ⟨g,0,none⟩ = some (.int .i64 K):=by rw [<- HK.out];exact HB1.out.cell 0
 have H:NmS w t (nmB t 6) g g3 w3:=⟨HB1.out,HB2.out,HB3.out,HG.out,HW.out,HNE.out⟩;clear HB1 HB2 HB3 HG;go_upto_region 7 with (fail)
 clear d126;by_cases h4:K = 4
 ·subst h4;clear h126;go_upto_region 10 with (fail)
  refine jwl ?_;refine zg (.pointer (some ⟨g,19,none⟩)) ?_;simp only [jp,jb,jz,js];refine yac rfl (.slice t.pb t.nb t.xb) (yaj 47 _ rfl _ rfl _ _ Tryz.underlying47 rfl ((H.a.cell 19).trans rfl)) ?_;simp only [jp,jb,jz,js];refine zg (.pointer (some ⟨g3,19,none⟩)) ?_;simp only [jp,jb,jz,js];rw [<- setRow_self w3 g3 _ 49 (0,0) H.c];refine yaF rfl rfl (ybl H.c _ 47 (.tmp 59) (.tmp 58) rfl 19 rfl (.slice t.pb t.nb t.xb) rfl [.slice t.pb t.nb t.xb] rfl (by kernel_rfl) (by kernel_rfl) (by simp [ja2]) (nmH true t (nmB t 6)).L (by kernel_rfl)) ?_;refine jwn ?_;replace H:=H.put (u':=nmH true t (nmB t 6));generalize w3.setRow g3 (nmH true t (nmB t 6)).L = w4 at *;clear c0;go_upto_region 11 with (fail)
  refine jwl ?_;refine zg (.pointer (some ⟨g,3,none⟩)) ?_;simp only [jp,jb,jz,js];refine yac rfl (.agg #[.int .u64 t.t0,.int .u64 t.t1,.int .u64 t.t2,.int .u64 t.t3]) (ybp _ rfl rfl ((H.a.cell 3).trans rfl) ((H.a.cell 4).trans rfl) ((H.a.cell 5).trans rfl) ((H.a.cell 6).trans rfl)) ?_;simp only [jp,jb,jz,js];refine zg (.pointer (some ⟨g3,3,none⟩)) ?_;simp only [jp,jb,jz,js];rw [<- setRow_self w4 g3 _ 49 (0,0) H.c];refine yaF rfl rfl (ybl H.c _ 45 (.tmp 62) (.tmp 61) rfl 3 rfl (.agg #[.int .u64 t.t0,.int .u64 t.t1,.int .u64 t.t2,.int .u64 t.t3]) rfl [.int .u64 t.t0,.int .u64 t.t1,.int .u64 t.t2,.int .u64 t.t3] rfl (by kernel_rfl) (by kernel_rfl) (by simp [ja2]) (nmT true t (nmH true t (nmB t 6))).L (by kernel_rfl)) ?_;refine jwn ?_;replace H:=H.put (u':=nmT true t (nmH true t (nmB t 6)));generalize w4.setRow g3 (nmT true t (nmH true t (nmB t 6))).L = w5 at *;go_upto_region 12 with (fail)
  refine jwl ?_;refine zg (.pointer (some ⟨g,18,none⟩)) ?_;simp only [jp,jb,jz,js];refine yac rfl (.slice t.pa t.na t.xa) (yaj 46 _ rfl _ rfl _ _ Tryz.underlying46 rfl ((H.a.cell 18).trans rfl)) ?_;simp only [jp,jb,jz,js];refine zg (.pointer (some ⟨g3,18,none⟩)) ?_;simp only [jp,jb,jz,js];rw [<- setRow_self w5 g3 _ 49 (0,0) H.c];refine yaF rfl rfl (ybl H.c _ 46 (.tmp 65) (.tmp 64) rfl 18 rfl (.slice t.pa t.na t.xa) rfl [.slice t.pa t.na t.xa] rfl (by kernel_rfl) (by kernel_rfl) (by simp [ja2]) (nmX true t (nmT true t (nmH true t (nmB t 6)))).L (by kernel_rfl)) ?_;refine jwn ?_;replace H:=H.put (u':=nmX true t (nmT true t (nmH true t (nmB t 6))));generalize w5.setRow g3 (nmX true t (nmT true t (nmH true t (nmB t 6)))).L = w6 at *;have HB3:=jh H.c;have HB2:=jh H.b;have HG:=jh H.d;clear H;go_upto_region 13 with (fail)
  refine jwl ?_;refine wpList_load_row rfl 49 (.tmp 3) rfl g3 rfl 49 (nmX true t (nmT true t (nmH true t (nmB t 6)))).L (0,0) _ HB3.out ja5 rfl (by kernel_rfl) ?_;simp only [jp,jb,jz,js];refine jsw rfl 49 (.tmp 2) (.tmp 66) rfl (g + 1) (nmX true t (nmT true t (nmH true t (nmB t 6)))).L rfl rfl 49 txZ HB2.out (by kernel_rfl) rfl (TA.one _) ?_;have HR2:=jh (yay (cs':=(nmX true t (nmT true t (nmH true t (nmB t 6)))).L) HB2.out);have HG3:=jh (ybq (g:=g + 1) HG.out (by have:=HW.out;omega) (nmX true t (nmT true t (nmH true t (nmB t 6)))).L);generalize w6.setRow (g + 1) (nmX true t (nmT true t (nmH true t (nmB t 6)))).L = w9 at *;refine jwn ?_;simp only [jp,jb,jz,js];go_wp2_with fail
  refine jbr (results_cell_row (fn:=Tryz.f110) rfl _ _ _ _ _ _ _ rfl HR2.out ja5 rfl (by kernel_rfl)) rfl ?_;exact ⟨by rw [<- HQ.out];rw [if_neg (by rw [HK.out];decide),HK.out];kernel_rfl,HG3.out⟩
 have d4:decide (K = 4) = false:=decide_eq_false h4;by_cases h2:K = 2
 ·subst h2;clear h126 h4;go_upto_region 11 with (fail)
  refine jwl ?_;refine zg (.pointer (some ⟨g,3,none⟩)) ?_;simp only [jp,jb,jz,js];refine yac rfl (.agg #[.int .u64 t.t0,.int .u64 t.t1,.int .u64 t.t2,.int .u64 t.t3]) (ybp _ rfl rfl ((H.a.cell 3).trans rfl) ((H.a.cell 4).trans rfl) ((H.a.cell 5).trans rfl) ((H.a.cell 6).trans rfl)) ?_;simp only [jp,jb,jz,js];refine zg (.pointer (some ⟨g3,3,none⟩)) ?_;simp only [jp,jb,jz,js];rw [<- setRow_self w3 g3 _ 49 (0,0) H.c];refine yaF rfl rfl (ybl H.c _ 45 (.tmp 62) (.tmp 61) rfl 3 rfl (.agg #[.int .u64 t.t0,.int .u64 t.t1,.int .u64 t.t2,.int .u64 t.t3]) rfl [.int .u64 t.t0,.int .u64 t.t1,.int .u64 t.t2,.int .u64 t.t3] rfl (by kernel_rfl) (by kernel_rfl) (by simp [ja2]) (nmT true t (nmB t 6)).L (by kernel_rfl)) ?_;refine jwn ?_;replace H:=H.put (u':=nmT true t (nmB t 6));generalize w3.setRow g3 (nmT true t (nmB t 6)).L = w4 at *;clear c0;go_upto_region 12 with (fail)
  refine jwl ?_;refine zg (.pointer (some ⟨g,18,none⟩)) ?_;simp only [jp,jb,jz,js];refine yac rfl (.slice t.pa t.na t.xa) (yaj 46 _ rfl _ rfl _ _ Tryz.underlying46 rfl ((H.a.cell 18).trans rfl)) ?_;simp only [jp,jb,jz,js];refine zg (.pointer (some ⟨g3,18,none⟩)) ?_;simp only [jp,jb,jz,js];rw [<- setRow_self w4 g3 _ 49 (0,0) H.c];refine yaF rfl rfl (ybl H.c _ 46 (.tmp 65) (.tmp 64) rfl 18 rfl (.slice t.pa t.na t.xa) rfl [.slice t.pa t.na t.xa] rfl (by kernel_rfl) (by kernel_rfl) (by simp [ja2]) (nmX true t (nmT true t (nmB t 6))).L (by kernel_rfl)) ?_;refine jwn ?_;replace H:=H.put (u':=nmX true t (nmT true t (nmB t 6)));generalize w4.setRow g3 (nmX true t (nmT true t (nmB t 6))).L = w5 at *;have HB3:=jh H.c;have HB2:=jh H.b;have HG:=jh H.d;clear H;go_upto_region 13 with (fail)
  refine jwl ?_;refine wpList_load_row rfl 49 (.tmp 3) rfl g3 rfl 49 (nmX true t (nmT true t (nmB t 6))).L (0,0) _ HB3.out ja5 rfl (by kernel_rfl) ?_;simp only [jp,jb,jz,js];refine jsw rfl 49 (.tmp 2) (.tmp 66) rfl (g + 1) (nmX true t (nmT true t (nmB t 6))).L rfl rfl 49 txZ HB2.out (by kernel_rfl) rfl (TA.one _) ?_;have HR2:=jh (yay (cs':=(nmX true t (nmT true t (nmB t 6))).L) HB2.out);have HG3:=jh (ybq (g:=g + 1) HG.out (by have:=HW.out;omega) (nmX true t (nmT true t (nmB t 6))).L);generalize w5.setRow (g + 1) (nmX true t (nmT true t (nmB t 6))).L = w9 at *;refine jwn ?_;simp only [jp,jb,jz,js];go_wp2_with fail
  refine jbr (results_cell_row (fn:=Tryz.f110) rfl _ _ _ _ _ _ _ rfl HR2.out ja5 rfl (by kernel_rfl)) rfl ?_;exact ⟨by rw [<- HQ.out];rw [if_neg (by rw [HK.out];decide),HK.out];kernel_rfl,HG3.out⟩
 have d2:decide (K = 2) = false:=decide_eq_false h2;by_cases h1:K = 1
 ·subst h1;clear h126 h4 h2;go_upto_region 12 with (fail)
  refine jwl ?_;refine zg (.pointer (some ⟨g,18,none⟩)) ?_;simp only [jp,jb,jz,js];refine yac rfl (.slice t.pa t.na t.xa) (yaj 46 _ rfl _ rfl _ _ Tryz.underlying46 rfl ((H.a.cell 18).trans rfl)) ?_;simp only [jp,jb,jz,js];refine zg (.pointer (some ⟨g3,18,none⟩)) ?_;simp only [jp,jb,jz,js];rw [<- setRow_self w3 g3 _ 49 (0,0) H.c];refine yaF rfl rfl (ybl H.c _ 46 (.tmp 65) (.tmp 64) rfl 18 rfl (.slice t.pa t.na t.xa) rfl [.slice t.pa t.na t.xa] rfl (by kernel_rfl) (by kernel_rfl) (by simp [ja2]) (nmX true t (nmB t 6)).L (by kernel_rfl)) ?_;refine jwn ?_;replace H:=H.put (u':=nmX true t (nmB t 6));generalize w3.setRow g3 (nmX true t (nmB t 6)).L = w4 at *;clear c0;have HB3:=jh H.c;have HB2:=jh H.b;have HG:=jh H.d;clear H;go_upto_region 13 with (fail)
  refine jwl ?_;refine wpList_load_row rfl 49 (.tmp 3) rfl g3 rfl 49 (nmX true t (nmB t 6)).L (0,0) _ HB3.out ja5 rfl (by kernel_rfl) ?_;simp only [jp,jb,jz,js];refine jsw rfl 49 (.tmp 2) (.tmp 66) rfl (g + 1) (nmX true t (nmB t 6)).L rfl rfl 49 txZ HB2.out (by kernel_rfl) rfl (TA.one _) ?_;have HR2:=jh (yay (cs':=(nmX true t (nmB t 6)).L) HB2.out);have HG3:=jh (ybq (g:=g + 1) HG.out (by have:=HW.out;omega) (nmX true t (nmB t 6)).L);generalize w4.setRow (g + 1) (nmX true t (nmB t 6)).L = w9 at *;refine jwn ?_;simp only [jp,jb,jz,js];go_wp2_with fail
  refine jbr (results_cell_row (fn:=Tryz.f110) rfl _ _ _ _ _ _ _ rfl HR2.out ja5 rfl (by kernel_rfl)) rfl ?_;exact ⟨by rw [<- HQ.out];rw [if_neg (by rw [HK.out];decide),HK.out];kernel_rfl,HG3.out⟩
 have d1:decide (K = 1) = false:=decide_eq_false h1;have e1:decide (K = 1 \/ K = 2 \/ K = 4) = false:=decide_eq_false (by omega);have e2:decide (K = 2 \/ K = 4) = false:=decide_eq_false (by omega);have E1:=jh e1;have E2:=jh e2;have E4:=jh d4;clear e1 e2 h126;have HB3:=jh H.c;have HB2:=jh H.b;have HG:=jh H.d;clear H;go_upto_region 13 with (fail)
 refine jwl ?_;refine wpList_load_row rfl 49 (.tmp 3) rfl g3 rfl 49 (nmB t 6).L (0,0) _ HB3.out ja5 rfl (by kernel_rfl) ?_;simp only [jp,jb,jz,js];refine jsw rfl 49 (.tmp 2) (.tmp 66) rfl (g + 1) (nmB t 6).L rfl rfl 49 txZ HB2.out (by kernel_rfl) rfl (TA.one _) ?_;have HR2:=jh (yay (cs':=(nmB t 6).L) HB2.out);have HG3:=jh (ybq (g:=g + 1) HG.out (by have:=HW.out;omega) (nmB t 6).L);generalize w3.setRow (g + 1) (nmB t 6).L = w9 at *;refine jwn ?_;simp only [jp,jb,jz,js];go_wp2_with fail
 refine jbr (results_cell_row (fn:=Tryz.f110) rfl _ _ _ _ _ _ _ rfl HR2.out ja5 rfl (by kernel_rfl)) rfl ?_;exact ⟨by rw [<- HQ.out];rw [if_neg H126.out,HK.out,E1.out,E2.out,E4.out];kernel_rfl,HG3.out⟩
theorem ylA {xs ys:List ByteArray} (h:xs.length = ys.length) (hi:∀ i,i < xs.length -> xs.getD i .empty = ys.getD i .empty):xs = ys:=by
 apply List.ext_getElem h;intro i h1 h2;have:=hi i h1
 rwa [jg,jg,je h1,je h2] at this
theorem ykP (B B':Nat) (A A':Option Addr) (n m c d:Nat) (xs ys:List ByteArray) (w:World) (h:Reads w B 1 A n (xs.map jb2)) (h':Reads w B' 1 A' m (ys.map jb2)) (hn:n <= 9223372036854775807) (hm:m <= 9223372036854775807) :
  Calls jq 77 #[.slice A n c,.slice A' m d] w fun e w'=>e = .returned (.bool (decide (xs = ys))) /\ w.grownBy w' none:=by
 have hl:xs.length = n:=by have:=h.1;simpa using this
 have hl':ys.length = m:=by have:=h'.1;simpa using this
 by_cases hnm:n = m
 ·subst hnm;have HL:=jh hl;have HL':=jh hl';have qe:((n:Int) != (n:Int)) = false:=by simp
  clear hl hl';go_enter Tryz.func77,Tryz.ntmps77
  go_wp2_with fail
  clear qe;go_loopw [13] (fun i wr=>∃ k:Nat,i = .int .i64 k /\ k <= n /\ (∃ q,wr = w.drewN q) /\ Hid (∀ i:Nat,i < k -> xs.getD i .empty = ys.getD i .empty)) (fun i _=>n - (intOf i).toNat)
  case atStart=>exact ⟨0,rfl,by omega,⟨0,rfl⟩,jh (by intro i h1;omega)⟩
  case round =>
   obtain ⟨k,rfl,hk,⟨q,rfl⟩,h2⟩:=hrel;have h2':=jh h2.out;by_cases hlt:k < n
   ·obtain ⟨g,off,rfl,hg,hc⟩:=Reads.vals jb2 .empty h hlt;obtain ⟨g',off',rfl,hg',hc'⟩:=Reads.vals jb2 .empty h' hlt;have c0:=hc k hlt;have d0:=hc' k hlt;have q1:(k:Int) < (n:Int):=by omega
    obtain ⟨x,hx⟩:∃ x,xs.getD k .empty = x:=⟨_,rfl⟩;obtain ⟨y,hy⟩:∃ y,ys.getD k .empty = y:=⟨_,rfl⟩;rw [hx] at c0;rw [hy] at d0;have HX:=jh hx;have HY:=jh hy;clear h h' h2 hc hc' hx hy;by_cases hxy:x = y
    ·have heq:(x.toList == y.toList) = true:=by rw [hxy];simp
     have hne:(x.toList != y.toList) = false:=by rw [bne,heq];rfl
     have HE:=jh hxy;clear hxy;go_wp2_with fail
     go_quiet (fail)
     go_wp2_with fail
     refine ⟨⟨k + 1,by go_num,by omega,⟨_,rfl⟩,jh fun i hi=>?_⟩,by simp [intOf];omega⟩;by_cases hik:i = k
     ·rw [hik,HX.out,HY.out,HE.out]
     ·exact h2'.out i (by omega)
    ·have heq:=yfv hxy;have hne:(x.toList != y.toList) = true:=by rw [bne,heq];rfl
     have hf:decide (xs = ys) = false:=decide_eq_false (fun e=>hxy (by rw [<- HX.out,<- HY.out,e]));have HF:=jh hf;clear hxy hf;go_wp2_with fail
     go_quiet (fail)
     go_wp2_with fail
     go_ret
     exact ⟨by rw [HF.out];rfl,yak (ybE (ybE (jd1 _ w) _) _)⟩
   ·have he:xs = ys:=ylA (by rw [HL.out,HL'.out]) fun i hi=>h2'.out i (by have:=HL.out;omega);have HE:=jh he;have q0:(n:Int) <= (k:Int):=by omega
    clear he h2;go_wp2_with fail
    go_ret
    exact ⟨by rw [decide_eq_true HE.out];rfl,yak (ybE (jd1 _ _) _)⟩
 ·have hne:¬ xs = ys:=by rintro rfl;exact hnm (hl.symm.trans hl')
  have HE:=jh hne;have hb:((n:Int) != (m:Int)) = true:=by simp;omega
  clear hne hnm hl hl';go_enter Tryz.func77,Tryz.ntmps77
  go_wp2_with fail
  go_ret
  exact ⟨by rw [decide_eq_false HE.out];rfl,jr _ _⟩
section
variable {P:Program}
theorem ycr {W:World} {a:Act} {o:Oper} {ty:TypeId} {x:Operand} {b off:Nat} (ho:o.op = .load ty x) (hx:a.eval x = .pointer (some ⟨b,off,none⟩)) (cs:List Value) (hc:W.rangeAt b off cs) (d:TypeDesc)
  (hu:P.underlying ty = some d) (hd:d.isRow = true) (hi:(P.info? ty).map (·.size) = some cs.length):(execOp a.eval o).run P W = .ok (.value (.agg cs.toArray)) W:=by
 unfold execOp;simp only [ho,hx,Instr.loadAt,Instr.sureAddr,Sem.run_bind,Sem.run_pure,Result.andThen_ok,run_loadVar_mid W b off ty cs d hc hu hd hi]
end
theorem yej {W V:World} {B g o:Nat} {cs:List Value} (h:W.rangeAt g o cs) (hV:Below B W V) (hg:g < B):V.rangeAt g o cs:=fun j v hv=>(hV.cell (p:=⟨g,o + j,none⟩) hg).trans (h j v hv)
theorem ynU {a:Act} {o:Oper} {x y:Value} {r:Bool} (h:∀ w,(Op.equalIn 10000 110 x y).run jq w = .ok r w) (W:World) {p q:Operand} {u:TypeId} (ho:o.op = .binOp .neq 110 p q u) (hp:a.eval p = x) (hq:a.eval q = y) {xs ys:Array Value} (hx:x = .agg xs) (hy:y = .agg ys) :
  (execOp a.eval o).run jq W = .ok (.value (.bool (!r))) W:=by
 have hm:jq.eqGuardType jq.depth 110 = false:=by kernel_rfl
 subst hx;subst hy;have h1:=run_eqGuard_agg (P:=jq) W .neq 110 p q xs ys hm;have h2:=run_neq_struct (P:=jq) W 110 xs ys;rw [h W] at h2;unfold execOp;generalize a.eval = ev at *;simp only [ho,hp,hq];generalize eqGuard .neq 110 p q (.agg xs) (.agg ys) = G at *;generalize binOp .neq 110 (.agg xs) (.agg ys) = M at *;simp [go_sem,h1,h2]
theorem yeh {α:Type} (d:α) {xs ys:List α} (h:xs.length = ys.length) (hi:∀ i,i < xs.length -> xs.getD i d = ys.getD i d):xs = ys:=by
 apply List.ext_getElem h;intro i h1 h2;have:=hi i h1
 rwa [jg,jg,je h1,je h2] at this
def accC (x:AccV) (T:Option Addr) (tc:Nat):Array Value:=#[.string x.addr,.slice T x.keys.length tc]
theorem yjz (x y:AccV) (B B':Nat) (T T':Option Addr) (tc tc':Nat) (w:World) (h:Reads w B 1 T x.keys.length (x.keys.map jb2)) (h':Reads w B' 1 T' y.keys.length (y.keys.map jb2)) (hB:B <= w.heap.size) (hB':B' <= w.heap.size) (hn:x.keys.length <= 9223372036854775807) (hm:y.keys.length <= 9223372036854775807) :
  Calls jq 76 #[.agg (accC x T tc),.agg (accC y T' tc')] w fun e w'=>e = .returned (.bool (decide (x = y))) /\ w.grownBy w' none:=by
 have hG:=yaa (yaa (jr w none) (.cells (accC x T tc) 104)) (.cells (accC y T' tc') 104);have hb1:=(Blk.new w 104 (accC x T tc)).alloc (.cells (accC y T' tc') 104);have hb2:=Blk.new (w.alloc (.cells (accC x T tc) 104)) 104 (accC y T' tc');rw [jsa] at hb2;have hR:=h.grown hG hB (by simp);have hR':=h'.grown hG hB' (by simp);obtain ⟨xa,xk⟩:=x;obtain ⟨ya,yk⟩:=y;simp only [accC] at *;have hE:decide (AccV.mk xa xk = AccV.mk ya yk) = (decide (xa = ya) && decide (xk = yk)):=by simp
 rw [hE];obtain ⟨s,hs⟩:∃ s,decide (xk = yk) = s:=⟨_,rfl⟩;rw [hs];have HSS:=jh hs;clear hs;obtain ⟨n,hln⟩:∃ n,xk.length = n:=⟨_,rfl⟩;obtain ⟨m,hlm⟩:∃ n,yk.length = n:=⟨_,rfl⟩;rw [hln] at hb1 hb2 hR hR' hG hn ⊢;rw [hlm] at hb1 hb2 hR hR' hG hm ⊢;have HC:=jh (fun V hV hV'=>ykP B B' T T' n m tc tc' xk yk V hV hV' hn hm);have HR:=jh hR;have HR':=jh hR';have HG:=jh hG;clear h h' hB hB' hR hR' hG hE hln hlm hn hm;go_enter Tryz.func76,Tryz.ntmps76
 go_upto_region 1 with (fail)
 obtain ⟨g,hg⟩:∃ g,w.heap.size = g:=⟨_,rfl⟩;rw [hg] at hb1 hb2 ⊢;clear hg;generalize (w.alloc (.cells #[.string xa,.slice T n tc] 104)).alloc (.cells #[.string ya,.slice T' m tc'] 104) = w1 at *;have c0:=hb1.cell 0;have c1:=hb1.cell 1;have d0:=hb2.cell 0;have d1:=hb2.cell 1;simp only [jta,jcz,jcs] at c0 c1 d0 d1;clear hb1 hb2;by_cases ha:xa = ya
 ·subst ha;have q:(xa.toList == xa.toList) = true:=by simp
  go_wp2_with fail
  refine (HC.out _ HR.out HR'.out).mono ?_;rintro e w2 ⟨rfl,hg⟩;have HG:=jh (yab HG.out hg (by simp));rw [HSS.out];clear c0 c1 d0 d1 hg q HSS;go_wp2_with fail
  go_ret
  exact ⟨by simp,HG.out⟩
 ·have q:(xa.toList == ya.toList) = false:=yfv ha;have HA:=jh (decide_eq_false ha);clear ha;go_wp2_with fail
  go_ret
  exact ⟨by rw [HA.out];rfl,HG.out⟩
theorem yjy (B B':Nat) (A A':Option Addr) (n m c d:Nat) (xs ys:List AccV) (w:World) (h:AccR B w xs A n) (h':AccR B' w ys A' m) (hB:B <= w.heap.size) (hB':B' <= w.heap.size) (hn:n <= 9223372036854775807) (hm:m <= 9223372036854775807) :
  Calls jq 78 #[.slice A n c,.slice A' m d,.func (.func 76) #[] #[]] w fun e w'=>e = .returned (.bool (decide (xs = ys))) /\ w.grownBy w' none:=by
 have hl:=h.1;have hl':=h'.1;by_cases hnm:n = m
 ·subst hnm;have HL:=jh hl;have HL':=jh hl';have HH:=jh h;have HH':=jh h';have HB:=jh hB;have HB':=jh hB';have qe:((n:Int) != (n:Int)) = false:=by simp
  clear hl hl' h h' hB hB';go_enter Tryz.func78,Tryz.ntmps78
  go_wp2_with fail
  clear qe;go_loopw [17] (fun i wr=>∃ k:Nat,i = .int .i64 k /\ k <= n /\ w.grownBy wr none /\ Hid (∀ i:Nat,i < k -> xs.getD i AccV.none_ = ys.getD i AccV.none_)) (fun i _=>n - (intOf i).toNat)
  case atStart=>exact ⟨0,rfl,by omega,jr _ _,jh (by intro i h1;omega)⟩
  case round =>
   obtain ⟨k,rfl,hk,hg,h2⟩:=hrel;have h2':=jh h2.out;have HGG:=jh hg;by_cases hlt:k < n
   ·obtain ⟨g,off,T,tc,x,rfl,hx,_,c0,c1,hT,hTn⟩:=(HH.out.grown hg HB.out).at_ hlt;obtain ⟨g',off',T',tc',y,rfl,hy,_,d0,d1,hT',hTn'⟩:=(HH'.out.grown hg HB'.out).at_ hlt;have q1:(k:Int) < (n:Int):=by omega
    have HX:=jh hx;have HY:=jh hy;have HCALL:=jh (fun (V:World) (hV:wr.grownBy V none)=>yjz x y B B' T T' tc tc' V (hT.grown hV (jlt HB.out hg.size) (by simp)) (hT'.grown hV (jlt HB'.out hg.size) (by simp)) (jlt (jlt HB.out hg.size) hV.size) (jlt (jlt HB'.out hg.size) hV.size) hTn hTn');clear h2 hx hy hT hT' hTn hTn';obtain ⟨r,hr⟩:∃ r,decide (x = y) = r:=⟨_,rfl⟩;rw [hr] at HCALL;have HRR:=jh hr;clear hr;simp only [accC] at HCALL;have hGa:=yaa (jr wr none) (.cells #[.string x.addr,.slice T x.keys.length tc] 104);have hGb:=yaa hGa (.cells #[.string y.addr,.slice T' y.keys.length tc'] 104);have d0':=hGa.cell d0 (fun h=>by cases h);have d1':=hGa.cell d1 (fun h=>by cases h);go_wp2_with fail
    refine (HCALL.out _ hGb).mono ?_;rintro e w2 ⟨rfl,hg2⟩;have HG2:=jh (yab (yab HGG.out hGb (by simp)) hg2 (by simp));clear c0 c1 d0 d1 hg2 HCALL hGa hGb d0' d1' hg;cases r with
    | true =>
     go_wp2_with fail
     refine ⟨⟨k + 1,by go_num,by omega,HG2.out,jh fun i hi=>?_⟩,by simp [intOf];omega⟩;by_cases hik:i = k
     ·rw [hik,HX.out,HY.out];exact of_decide_eq_true HRR.out
     ·exact h2'.out i (by omega)
    | false =>
     go_wp2_with fail
     go_ret
     refine ⟨?_,HG2.out⟩;rw [show decide (xs = ys) = false from decide_eq_false (fun e=>of_decide_eq_false HRR.out (by rw [<- HX.out,<- HY.out,e]))];rfl
   ·have he:xs = ys:=yeh AccV.none_ (by rw [HL.out,HL'.out]) fun i hi=>h2'.out i (by have:=HL.out;omega);have HE:=jh he;have q0:(n:Int) <= (k:Int):=by omega
    clear he h2 hg;go_wp2_with fail
    go_ret
    exact ⟨by rw [decide_eq_true HE.out];rfl,HGG.out⟩
 ·have hne:¬ xs = ys:=by rintro rfl;exact hnm (hl.symm.trans hl')
  have HE:=jh hne;have hb:((n:Int) != (m:Int)) = true:=by simp;omega
  clear hne hnm hl hl' h h' hB hB';go_enter Tryz.func78,Tryz.ntmps78
  go_wp2_with fail
  go_ret
  exact ⟨by rw [decide_eq_false HE.out];rfl,jr _ _⟩
theorem yjv (B B':Nat) (A A':Option Addr) (n m c d:Nat) (xs ys:List AutV) (w:World) (h:AutR B w xs A n) (h':AutR B' w ys A' m) (hB:B <= w.heap.size) (hB':B' <= w.heap.size) (hn:n <= 9223372036854775807) (hm:m <= 9223372036854775807) (ox:∀ x ∈ xs,x.Ok) (oy:∀ y ∈ ys,y.Ok) :
  Calls jq 79 #[.slice A n c,.slice A' m d] w fun e w'=>e = .returned (.bool (decide (xs = ys))) /\ w.grownBy w' none:=by
 have hl:=h.1;have hl':=h'.1;by_cases hnm:n = m
 ·subst hnm;have HL:=jh hl;have HL':=jh hl';have HH:=jh h;have HH':=jh h';have HB:=jh hB;have HB':=jh hB';have HOX:=jh ox;have HOY:=jh oy;have qe:((n:Int) != (n:Int)) = false:=by simp
  clear hl hl' h h' hB hB' ox oy;go_enter Tryz.func79,Tryz.ntmps79
  go_wp2_with fail
  clear qe;go_loopw [13] (fun i wr=>∃ k:Nat,i = .int .i64 k /\ k <= n /\ w.grownBy wr none /\ Hid (∀ i:Nat,i < k -> xs.getD i AutV.none_ = ys.getD i AutV.none_)) (fun i _=>n - (intOf i).toNat)
  case atStart=>exact ⟨0,rfl,by omega,jr _ _,jh (by intro i h1;omega)⟩
  case round =>
   obtain ⟨k,rfl,hk,hg,h2⟩:=hrel;have h2':=jh h2.out;have HGG:=jh hg;by_cases hlt:k < n
   ·obtain ⟨g,off,x,rfl,hx,mx,hcx⟩:=(HH.out.grown hg).at_ hlt;obtain ⟨g',off',y,rfl,hy,my,hcy⟩:=(HH'.out.grown hg).at_ hlt;have lg:g < wr.heap.size:=jd7 wr _ (hcx 0 _ rfl);have lg':g' < wr.heap.size:=jd7 wr _ (hcy 0 _ rfl);have q1:(k:Int) < (n:Int):=by omega
    have q2:(0:Int) <= (k:Int):=by omega
    have HX:=jh hx;have HY:=jh hy;have HEQ:=jh (ypD (HOX.out x mx) (HOY.out y my));have HCX:=jh hcx;have HCY:=jh hcy;rw [ypj] at HEQ;obtain ⟨r,hr⟩:∃ r,decide (x = y) = r:=⟨_,rfl⟩;rw [hr] at HEQ;have HRR:=jh hr;clear h2 hx hy hr hcx hcy mx my hg;go_upto_region 6 with (fail)
    have hC0:(fun V=>Below wr.heap.size wr V) wr.drew:=⟨rfl,rfl,rfl,jle _,fun _ _=>rfl⟩;refine ybK (fun V=>Below wr.heap.size wr V) (by kernel_rfl) (by kernel_rfl) hC0 ?_;have hcc:=ydd hC0;(try simp only [jp])
    (repeat go_big_quiet_step (fail))
    refine yaB rfl (.agg (autL x).toArray) (fun V hV=>ycr rfl rfl (autL x) (yej HCX.out hV lg) _ Tryz.underlying110 rfl (by kernel_rfl)) ?_;simp only [jp,jb,jz,js]
    (repeat go_big_quiet_step (fail))
    refine yaB rfl (.agg (autL y).toArray) (fun V hV=>ycr rfl rfl (autL y) (yej HCY.out hV lg') _ Tryz.underlying110 rfl (by kernel_rfl)) ?_;simp only [jp,jb,jz,js];refine yaB rfl (.bool (!r)) (fun V hV=>ynU HEQ.out V rfl rfl rfl rfl rfl) ?_;simp only [jp,jb,jz,js];refine wpQuiet_nil ?_;intro w3 hw3;have HG2:=jh (yab HGG.out (yak hw3) (by simp));clear hcc hC0 hw3 HCX HCY lg lg';cases r with
    | true =>
     go_wp2_with fail
     refine ⟨⟨k + 1,by go_num,by omega,HG2.out,jh fun i hi=>?_⟩,by simp [intOf];omega⟩;by_cases hik:i = k
     ·rw [hik,HX.out,HY.out];exact of_decide_eq_true HRR.out
     ·exact h2'.out i (by omega)
    | false =>
     go_wp2_with fail
     go_ret
     refine ⟨?_,HG2.out⟩;rw [show decide (xs = ys) = false from decide_eq_false (fun e=>of_decide_eq_false HRR.out (by rw [<- HX.out,<- HY.out,e]))];rfl
   ·have he:xs = ys:=yeh AutV.none_ (by rw [HL.out,HL'.out]) fun i hi=>h2'.out i (by have:=HL.out;omega);have HE:=jh he;have q0:(n:Int) <= (k:Int):=by omega
    clear he h2 hg;go_wp2_with fail
    go_ret
    exact ⟨by rw [decide_eq_true HE.out];rfl,HGG.out⟩
 ·have hne:¬ xs = ys:=by rintro rfl;exact hnm (hl.symm.trans hl')
  have HE:=jh hne;have hb:((n:Int) != (m:Int)) = true:=by simp;omega
  clear hne hnm hl hl' h h' hB hB';go_enter Tryz.func79,Tryz.ntmps79
  go_wp2_with fail
  go_ret
  exact ⟨by rw [decide_eq_false HE.out];rfl,jr _ _⟩
theorem yfn (a b:TxV) (B B':Nat) (sa sb sa' sb':Value) (w:World) (ha:TxIn B w a sa sb) (hb:TxIn B' w b sa' sb') (hB:B <= w.heap.size) (hB':B' <= w.heap.size) (oa:a.Ok) (ob:b.Ok) :
  Calls jq 35 #[.agg (txC a sa sb),.agg (txC b sa' sb')] w fun e w'=>e = .returned (.bool (decide (a = b))) /\ w.grownBy w' none:=by
 have hG:=yaa (yaa (jr w none) (.cells (txC a sa sb) 49)) (.cells (txC b sa' sb') 49);have hb1:=(Blk.new w 49 (txC a sa sb)).alloc (.cells (txC b sa' sb') 49);have hb2:=Blk.new (w.alloc (.cells (txC a sa sb) 49)) 49 (txC b sa' sb');rw [jsa] at hb2;have hA:=ha.grown hG hB;have hA':=hb.grown hG hB';have hS:=jlt hB hG.size;have hS':=jlt hB' hG.size;obtain ⟨⟨p,c,rfl,acc⟩,⟨p',c',rfl,aut⟩,la,lb⟩:=hA;obtain ⟨⟨q,d,rfl,acc'⟩,⟨q',d',rfl,aut'⟩,la',lb'⟩:=hA';rw [<- yns a b];obtain ⟨r1,hr1⟩:∃ r,decide (a.acc = b.acc) = r:=⟨_,rfl⟩;obtain ⟨r2,hr2⟩:∃ r,decide (a.auths = b.auths) = r:=⟨_,rfl⟩;obtain ⟨R,hR⟩:∃ R,ylG a b = R:=⟨_,rfl⟩;rw [hr1,hr2,hR];have HR1:=jh hr1;have HR2:=jh hr2;have HO:=jh (fun V=>yfo a (.slice p a.acc.length c) (.slice p' a.auths.length c') V);have HO':=jh (fun V=>yfo b (.slice q b.acc.length d) (.slice q' b.auths.length d') V);have HEQ:=jh (yoW oa ob);rw [hR] at HEQ;clear hr1 hr2 hR;generalize hca:txC a (.slice p a.acc.length c) (.slice p' a.auths.length c') = ca at *;generalize hcb:txC b (.slice q b.acc.length d) (.slice q' b.auths.length d') = cb at *;have z1:ca[18]? = some (.slice p a.acc.length c):=by rw [<- hca];rfl
 have z2:ca[19]? = some (.slice p' a.auths.length c'):=by rw [<- hca];rfl
 have z3:cb[18]? = some (.slice q b.acc.length d):=by rw [<- hcb];rfl
 have z4:cb[19]? = some (.slice q' b.auths.length d'):=by rw [<- hcb];rfl
 have si:ca.size = 36:=by rw [<- hca];rfl
 have sj:cb.size = 36:=by rw [<- hcb];rfl
 have HACC:=jh acc;have HACC':=jh acc';have HAUT:=jh aut;have HAUT':=jh aut';have HSI:=jh hS;have HSJ:=jh hS';have HLA:=jh la;have HLA':=jh la';have HLB:=jh lb;have HLB':=jh lb';have HOA:=jh oa.auths;have HOB:=jh ob.auths;have HSZ:=jh si;have HSZ':=jh sj;have HG:=jh hG;clear hG ha hb hB hB' hS hS' acc acc' aut aut' la la' lb lb' oa ob hca hcb si sj;go_enter Tryz.func35,Tryz.ntmps35
 go_upto_region 1 with (fail)
 obtain ⟨g,hg⟩:∃ g,w.heap.size = g:=⟨_,rfl⟩;rw [hg] at hb1 hb2 ⊢;clear hg;generalize (w.alloc (.cells ca 49)).alloc (.cells cb 49) = w1 at *;have c18:=(hb1.cell 18).trans z1;have c19:=(hb1.cell 19).trans z2;have d18:=(hb2.cell 18).trans z3;have d19:=(hb2.cell 19).trans z4;have HB1:=jh hb1;have HB2:=jh hb2;clear hb1 hb2 z1 z2 z3 z4;go_wp2_with fail
 refine (yjy B B' p q _ _ c d a.acc b.acc _ HACC.out HACC'.out HSI.out HSJ.out HLA.out HLA'.out).mono ?_;rintro e w2 ⟨rfl,hg2⟩;have HG:=jh (yab HG.out hg2 (by simp));have HB1:=jh (HB1.out.grown hg2 (by simp));have HB2:=jh (HB2.out.grown hg2 (by simp));have HAUT:=jh (HAUT.out.grown hg2);have HAUT':=jh (HAUT'.out.grown hg2);have HSI:=jh (jlt HSI.out hg2.size);have HSJ:=jh (jlt HSJ.out hg2.size);replace c19:=hg2.cell c19 (by simp);replace d19:=hg2.cell d19 (by simp);clear c18 d18 hg2 HACC HACC';rw [HR1.out];clear HR1;cases r1 with
 | false =>
  go_wp2_with fail
  go_ret
  exact ⟨by simp,HG.out⟩
 | true =>
 go_wp2_with fail
 refine (yjv B B' p' q' _ _ c' d' a.auths b.auths _ HAUT.out HAUT'.out HSI.out HSJ.out HLB.out HLB'.out HOA.out HOB.out).mono ?_;rintro e w3 ⟨rfl,hg3⟩;have HG:=jh (yab HG.out hg3 (by simp));have HB1:=jh (HB1.out.grown hg3 (by simp));have HB2:=jh (HB2.out.grown hg3 (by simp));clear c19 d19 hg3 HAUT HAUT' HSI HSJ;rw [HR2.out];clear HR2;cases r2 with
 | false =>
  go_wp2_with fail
  go_ret
  exact ⟨by simp,HG.out⟩
 | true =>
 obtain ⟨ra,hra⟩:∃ r,ykt a = r:=⟨_,rfl⟩;obtain ⟨rb,hrb⟩:∃ r,ykt b = r:=⟨_,rfl⟩;rw [hra] at HO HEQ;rw [hrb] at HO' HEQ;clear hra hrb;go_upto_region 5 with (fail)
 have l1:=HB1.out.lt;have l2:=HB2.out.lt;have hC0:(fun V=>Below w3.heap.size w3 V) w3.drew:=⟨rfl,rfl,rfl,jle _,fun _ _=>rfl⟩;refine ybK (fun V=>Below w3.heap.size w3 V) (by kernel_rfl) (by kernel_rfl) hC0 ?_;have hcc:=ydd hC0;(try simp only [jp])
 (repeat go_big_quiet_step (fail))
 refine yaB rfl (.agg ca) (fun V hV=>yai rfl rfl 49 ca _ (HB1.out.below hV l1) ja5 rfl ((show (jq.info? 49).map (·.size) = some 36 by kernel_rfl).trans (congrArg some HSZ.out.symm))) ?_;simp only [jp,jb,jz,js];refine ybC (.agg ra) 80 #[.agg ca] rfl (fun V=>yc4 _ (.tmp 22) (.tmp 23) _ rfl rfl _ rfl (jeo Tryz.func80 (by kernel_rfl) rfl _ _)) (fun V hV=>HO.out V) ?_;simp only [jp,jb,jz,js]
 (repeat go_big_quiet_step (fail))
 refine yaB rfl (.agg cb) (fun V hV=>yai rfl rfl 49 cb _ (HB2.out.below hV l2) ja5 rfl ((show (jq.info? 49).map (·.size) = some 36 by kernel_rfl).trans (congrArg some HSZ'.out.symm))) ?_;simp only [jp,jb,jz,js];refine ybC (.agg rb) 80 #[.agg cb] rfl (fun V=>yc4 _ (.tmp 25) (.tmp 26) _ rfl rfl _ rfl (jeo Tryz.func80 (by kernel_rfl) rfl _ _)) (fun V hV=>HO'.out V) ?_;simp only [jp,jb,jz,js];refine yaB rfl (.bool R) (fun V hV=>ynV HEQ.out V rfl rfl rfl rfl rfl) ?_;simp only [jp,jb,jz,js]
 (repeat go_big_quiet_step (fail))
 refine wpQuiet_nil ?_;intro w4 hw4;have HG:=jh (yab HG.out (yak hw4) (by simp));clear hcc hC0 hw4;go_wp2_with fail
 go_ret
 exact ⟨by simp,HG.out⟩
def yck (s:ByteArray):Bool:=decide (s.size ≠ 32)
def ybP (a:AccV):Bool:=decide (a.addr.size ≠ 20) || a.keys.any yck
def yc1 (a:AutV):Bool:=decide (a.addr.size ≠ 20) || decide (1 < a.y)
def yc7 (a:AccV):Bool:=decide (16 < a.keys.length)
theorem yhq {α:Type} {d:α} {xs:List α} {p:α -> Bool} {k:Nat} (hk:k < xs.length) (h:p (xs.getD k d) = true):xs.any p = true:=by
 rw [List.any_eq_true];refine ⟨xs.getD k d,?_,h⟩;rw [jg,je hk];exact jc1 hk
theorem ye3 {α:Type} {d:α} {xs:List α} {p:α -> Bool} (h:∀ i,i < xs.length -> p (xs.getD i d) = false):xs.any p = false:=by
 rw [List.any_eq_false];intro x hx;obtain ⟨i,hi,rfl⟩:=List.getElem_of_mem hx;have:=h i hi;rw [jg,je hi] at this;simpa using this
theorem yk3 (s:ByteArray) (w:World):Calls jq 132 #[.string s] w fun e w'=>e = .returned (.bool (yck s)) /\ w' = w:=by
 obtain ⟨r,hr⟩:∃ r,yck s = r:=⟨_,rfl⟩;rw [hr];by_cases h:s.size = 32
 ·have hf:r = false:=by rw [<- hr];simp [yck,h]
  subst hf;have q:((s.size:Int) != 32) = false:=by simp;omega
  clear hr h;go_enter Tryz.func132,Tryz.ntmps132
  go_wp2_with fail
  go_ret
  exact ⟨rfl,rfl⟩
 ·have hf:r = true:=by rw [<- hr];simp [yck,h]
  subst hf;have q:((s.size:Int) != 32) = true:=by simp;omega
  clear hr h;go_enter Tryz.func132,Tryz.ntmps132
  go_wp2_with fail
  go_ret
  exact ⟨rfl,rfl⟩
theorem yha (B:Nat) (A:Option Addr) (n c:Nat) (xs:List ByteArray) (w:World) (h:Reads w B 1 A n (xs.map jb2)) (hn:n <= 9223372036854775807) :
  Calls jq 159 #[.slice A n c,.func (.func 132) #[] #[]] w fun e w'=>(∃ i:Int,e = .returned (.int .i64 i) /\ decide (0 <= i) = xs.any yck) /\ w' = w:=by
 have hl:xs.length = n:=by have:=h.1;simpa using this
 have HL:=jh hl;have HR:=jh h;clear hl h;go_enter Tryz.func159,Tryz.ntmps159
 go_wp2_with fail
 go_loopw [8] (fun i wr=>∃ k:Nat,i = .int .i64 k /\ k <= n /\ w = wr /\ Hid (∀ i:Nat,i < k -> yck (xs.getD i .empty) = false)) (fun i _=>n - (intOf i).toNat)
 case atStart=>exact ⟨0,rfl,by omega,rfl,jh (by intro i h1;omega)⟩
 case round =>
  obtain ⟨k,rfl,hk,rfl,h2⟩:=hrel;have h2':=jh h2.out;by_cases hlt:k < n
  ·obtain ⟨q,off,rfl,hq,hc⟩:=Reads.vals jb2 .empty HR.out hlt;have c0:=hc k hlt;have q1:(k:Int) < (n:Int):=by omega
   obtain ⟨x,hx⟩:∃ x,xs.getD k .empty = x:=⟨_,rfl⟩;rw [hx] at c0;have HX:=jh hx;clear h2 hc hx;go_wp2_with fail
   refine (yk3 x _).mono ?_;rintro e w2 ⟨rfl,rfl⟩;obtain ⟨r,hr⟩:∃ r,yck x = r:=⟨_,rfl⟩;rw [hr];have HRR:=jh hr;clear c0 hr;cases r with
   | true =>
    go_wp2_with fail
    go_ret
    refine ⟨⟨(k:Int),rfl,?_⟩,rfl⟩;rw [yhq (d:=.empty) (k:=k) (by rw [HL.out];exact hlt) (by rw [HX.out];exact HRR.out)];exact decide_eq_true (by omega)
   | false =>
    go_wp2_with fail
    refine ⟨⟨k + 1,by go_num,by omega,by first | rfl | trivial,jh fun i hi=>?_⟩,by simp [intOf];omega⟩;by_cases hik:i = k
    ·rw [hik,HX.out];exact HRR.out
    ·exact h2'.out i (by omega)
  ·have q1:(n:Int) <= (k:Int):=by omega
   have hno:=ye3 (d:=.empty) (p:=yck) (xs:=xs) (fun i hi=>h2.out i (by have:=HL.out;omega));have HNO:=jh hno;clear h2 h2' hno;go_wp2_with fail
   go_ret
   exact ⟨⟨-1,rfl,by rw [HNO.out];rfl⟩,rfl⟩
theorem yeR (B:Nat) (A:Option Addr) (n c:Nat) (xs:List ByteArray) (w:World) (h:Reads w B 1 A n (xs.map jb2)) (hn:n <= 9223372036854775807) :
  Calls jq 134 #[.slice A n c,.func (.func 132) #[] #[]] w fun e w'=>e = .returned (.bool (xs.any yck)) /\ w' = w:=by
 have HI:=jh (yha B A n c xs w h hn);clear h;go_enter Tryz.func134,Tryz.ntmps134
 go_wp2_with fail
 refine HI.out.mono ?_;rintro e w2 ⟨⟨i,rfl,hi⟩,rfl⟩;have HI2:=jh hi;clear hi;go_wp2_with fail
 go_ret
 exact ⟨by rw [<- HI2.out];rfl,rfl⟩
theorem yiL (l:AccV) (B:Nat) (T:Option Addr) (tc p:Nat) (w:World) (hp:Boxed w p 169 (.func (.func 132) #[] #[])) (h:Reads w B 1 T l.keys.length (l.keys.map jb2)) (hB:B <= w.heap.size) (hn:l.keys.length <= 9223372036854775807) :
  Calls jq 133 #[.agg (accC l T tc),.pointer (some ⟨p,0,none⟩)] w fun e w'=>e = .returned (.bool (ybP l)) /\ w.grownBy w' none:=by
 have hG:=yaa (jr w none) (.cells (accC l T tc) 104);have hb:=Blk.new w 104 (accC l T tc);have hp1:=hp.alloc (.cells (accC l T tc) 104);have hR:=h.grown hG hB (by simp);have hpl:=hp.lt;obtain ⟨ad,xs⟩:=l;simp only [accC] at *;obtain ⟨r,hr⟩:∃ r,ybP ⟨ad,xs⟩ = r:=⟨_,rfl⟩;rw [hr];have HRR:=jh hr;obtain ⟨n,hl⟩:∃ n,xs.length = n:=⟨_,rfl⟩;rw [hl] at hb hR hG hp1 hn ⊢;have HC:=jh (fun V (hV:Reads V B 1 T n (xs.map jb2))=>yeR B T n tc xs V hV hn);have HR:=jh hR;clear hr h hR hB hp hl hn;go_enter Tryz.func133,Tryz.ntmps133
 go_upto_region 1 with (fail)
 obtain ⟨g,hg⟩:∃ g,w.heap.size = g:=⟨_,rfl⟩;rw [hg] at hb hpl ⊢;clear hg;generalize w.alloc (.cells #[.string ad,.slice T n tc] 104) = w1 at *;have c0:=hb.cell 0;have c1:=hb.cell 1;have cp:=hp1.cell;simp only [jta,jcz,jcs] at c0 c1;have HG:=jh hG;clear hb hp1 hG;by_cases ha:ad.size = 20
 ·have q:((ad.size:Int) != 20) = false:=by simp;omega
  have HA:=jh ha;clear ha;go_wp2_with fail
  refine (HC.out _ HR.out).mono ?_;rintro e w2 ⟨rfl,rfl⟩;obtain ⟨s,hs⟩:∃ s,xs.any yck = s:=⟨_,rfl⟩;rw [hs];have HSS:=jh hs;clear hs;go_wp2_with fail
  go_ret
  refine ⟨?_,HG.out⟩;rw [<- HRR.out];show _ = Ending.returned (.bool (decide (ad.size ≠ 20) || xs.any yck));rw [HSS.out,HA.out];rfl
 ·have q:((ad.size:Int) != 20) = true:=by simp;omega
  have HA:=jh ha;clear ha;go_wp2_with fail
  go_ret
  refine ⟨?_,HG.out⟩;rw [<- HRR.out];show _ = Ending.returned (.bool (decide (ad.size ≠ 20) || xs.any yck));rw [decide_eq_true HA.out];rfl
theorem yjt (l:AccV) (T:Option Addr) (tc:Nat) (w:World) :
  Calls jq 108 #[.agg (accC l T tc)] w fun e w'=>e = .returned (.bool (yc7 l)) /\ w.grownBy w' none:=by
 have hG:=yaa (jr w none) (.cells (accC l T tc) 104);have hb:=Blk.new w 104 (accC l T tc);obtain ⟨ad,xs⟩:=l;simp only [accC] at *;have hr:yc7 ⟨ad,xs⟩ = decide (16 < xs.length):=rfl;rw [hr];clear hr;obtain ⟨n,hl⟩:∃ n,xs.length = n:=⟨_,rfl⟩;rw [hl] at hb hG ⊢;clear hl;have e1:decide (16 < n) = decide ((16:Int) < (n:Int)):=decide_eq_decide.2 (by omega);rw [e1];clear e1;go_enter Tryz.func108,Tryz.ntmps108
 go_upto_region 1 with (fail)
 obtain ⟨g,hg⟩:∃ g,w.heap.size = g:=⟨_,rfl⟩;rw [hg] at hb ⊢;clear hg;generalize w.alloc (.cells #[.string ad,.slice T n tc] 104) = w1 at *;have c1:=hb.cell 1;simp only [jta,jcz,jcs] at c1;have HG:=jh hG;clear hb hG;cases h1:decide ((16:Int) < (n:Int)) with
 | true =>
  have K1:=jh h1;go_wp2_with fail
  go_ret
  exact ⟨by rw [K1.out];rfl,HG.out⟩
 | false =>
  have K1:=jh h1;go_wp2_with fail
  go_ret
  exact ⟨by rw [K1.out];rfl,HG.out⟩
theorem yiM (l:AutV) (w:World) :
  Calls jq 135 #[.agg (autL l).toArray] w fun e w'=>e = .returned (.bool (yc1 l)) /\ w.grownBy w' none:=by
 have hG:=yaa (jr w none) (.cells (autL l).toArray 110);have hb:=Blk.new w 110 (autL l).toArray;have hr:yc1 l = (decide (l.addr.size ≠ 20) || decide (1 < l.y)):=rfl;rw [hr];obtain ⟨ad,had⟩:∃ a,l.addr = a:=⟨_,rfl⟩;obtain ⟨y,hy⟩:∃ a,l.y = a:=⟨_,rfl⟩;have z1:(autL l).toArray[1]? = some (.string ad):=by rw [<- had];rfl
 have z3:(autL l).toArray[3]? = some (.int .u64 (y:Int)):=by rw [<- hy];rfl
 rw [had,hy,show decide (1 < y) = decide ((1:Int) < (y:Int)) from decide_eq_decide.2 (by omega)];clear hr had hy;generalize (autL l).toArray = cl at *;go_enter Tryz.func135,Tryz.ntmps135
 go_upto_region 1 with (fail)
 obtain ⟨g,hg⟩:∃ g,w.heap.size = g:=⟨_,rfl⟩;rw [hg] at hb ⊢;clear hg;generalize w.alloc (.cells cl 110) = w1 at *;have c1:=(hb.cell 1).trans z1;have c3:=(hb.cell 3).trans z3;have HG:=jh hG;clear hb hG z1 z3;by_cases ha:ad.size = 20
 ·have q:((ad.size:Int) != 20) = false:=by simp;omega
  have HA:=jh ha;clear ha;cases h1:decide ((1:Int) < (y:Int)) with
  | true =>
   have K1:=jh h1;go_wp2_with fail
   go_ret
   exact ⟨by rw [K1.out];simp,HG.out⟩
  | false =>
   have K1:=jh h1;go_wp2_with fail
   go_ret
   exact ⟨by rw [K1.out];simp [HA.out],HG.out⟩
 ·have q:((ad.size:Int) != 20) = true:=by simp;omega
  have HA:=jh ha;clear ha;go_wp2_with fail
  go_ret
  exact ⟨by rw [decide_eq_true HA.out];rfl,HG.out⟩
theorem ygb (B:Nat) (A:Option Addr) (n c:Nat) (p:Nat) (ls:List AccV) (w:World) (hp:Boxed w p 169 (.func (.func 132) #[] #[])) (h:AccR B w ls A n) (hB:B <= w.heap.size) (hn:n <= 9223372036854775807) :
  Calls jq 137 #[.slice A n c,.func (.func 133) #[] #[.pointer (some ⟨p,0,none⟩)]] w fun e w'=>(∃ i:Int,e = .returned (.int .i64 i) /\ decide (0 <= i) = ls.any ybP) /\ w.grownBy w' none:=by
 have HR:=jh h;have HB:=jh hB;have HL:=jh h.1;clear h hB;go_enter Tryz.func137,Tryz.ntmps137
 go_wp2_with fail
 go_loopw [8] (fun i wr=>∃ k:Nat,i = .int .i64 k /\ k <= n /\ w.grownBy wr none /\ Hid (∀ i:Nat,i < k -> ybP (ls.getD i AccV.none_) = false)) (fun i _=>n - (intOf i).toNat)
 case atStart=>exact ⟨0,rfl,by omega,jr _ _,jh (by intro i h1;omega)⟩
 case round =>
  obtain ⟨k,rfl,hk,hg,h2⟩:=hrel;have h2':=jh h2.out;have HGG:=jh hg;by_cases hlt:k < n
  ·obtain ⟨q,off,T,tc,x,rfl,hx,_,c0,c1,hT,hTn⟩:=(HR.out.grown hg HB.out).at_ hlt;have q1:(k:Int) < (n:Int):=by omega
   have HX:=jh hx;have HCALL:=jh (yiL x B T tc p _ (hp.kept hg (by simp)) hT (jlt HB.out hg.size) hTn);clear h2 hx hT hTn hg;obtain ⟨r,hr⟩:∃ r,ybP x = r:=⟨_,rfl⟩;rw [hr] at HCALL;have HRR:=jh hr;clear hr;simp only [accC] at HCALL;go_wp2_with fail
   refine HCALL.out.mono ?_;rintro e w2 ⟨rfl,hg2⟩;have HG2:=jh (yab HGG.out hg2 (by simp));clear c0 c1 hg2 HCALL;cases r with
   | true =>
    go_wp2_with fail
    go_ret
    refine ⟨⟨(k:Int),rfl,?_⟩,HG2.out⟩;rw [yhq (d:=AccV.none_) (k:=k) (by rw [HL.out];exact hlt) (by rw [HX.out];exact HRR.out)];exact decide_eq_true (by omega)
   | false =>
    go_wp2_with fail
    refine ⟨⟨k + 1,by go_num,by omega,HG2.out,jh fun i hi=>?_⟩,by simp [intOf];omega⟩;by_cases hik:i = k
    ·rw [hik,HX.out];exact HRR.out
    ·exact h2'.out i (by omega)
  ·have q1:(n:Int) <= (k:Int):=by omega
   have hno:=ye3 (d:=AccV.none_) (p:=ybP) (xs:=ls) (fun i hi=>h2.out i (by have:=HL.out;omega));have HNO:=jh hno;clear h2 h2' hno hg;go_wp2_with fail
   go_ret
   exact ⟨⟨-1,rfl,by rw [HNO.out];rfl⟩,HGG.out⟩
theorem ye7 (B:Nat) (A:Option Addr) (n c:Nat) (p:Nat) (ls:List AccV) (w:World) (hp:Boxed w p 169 (.func (.func 132) #[] #[])) (h:AccR B w ls A n) (hB:B <= w.heap.size) (hn:n <= 9223372036854775807) :
  Calls jq 112 #[.slice A n c,.func (.func 133) #[] #[.pointer (some ⟨p,0,none⟩)]] w fun e w'=>e = .returned (.bool (ls.any ybP)) /\ w.grownBy w' none:=by
 have HI:=jh (ygb B A n c p ls w hp h hB hn);clear h;go_enter Tryz.func112,Tryz.ntmps112
 go_wp2_with fail
 refine HI.out.mono ?_;rintro e w2 ⟨⟨i,rfl,hi⟩,hg⟩;have HI2:=jh hi;have HG:=jh hg;clear hi hg;go_wp2_with fail
 go_ret
 exact ⟨by rw [<- HI2.out];rfl,HG.out⟩
theorem yhm (B:Nat) (A:Option Addr) (n c:Nat) (ls:List AccV) (w:World) (h:AccR B w ls A n) (hB:B <= w.heap.size) (hn:n <= 9223372036854775807) :
  Calls jq 137 #[.slice A n c,.func (.func 108) #[] #[]] w fun e w'=>(∃ i:Int,e = .returned (.int .i64 i) /\ decide (0 <= i) = ls.any yc7) /\ w.grownBy w' none:=by
 have HR:=jh h;have HB:=jh hB;have HL:=jh h.1;clear h hB;go_enter Tryz.func137,Tryz.ntmps137
 go_wp2_with fail
 go_loopw [8] (fun i wr=>∃ k:Nat,i = .int .i64 k /\ k <= n /\ w.grownBy wr none /\ Hid (∀ i:Nat,i < k -> yc7 (ls.getD i AccV.none_) = false)) (fun i _=>n - (intOf i).toNat)
 case atStart=>exact ⟨0,rfl,by omega,jr _ _,jh (by intro i h1;omega)⟩
 case round =>
  obtain ⟨k,rfl,hk,hg,h2⟩:=hrel;have h2':=jh h2.out;have HGG:=jh hg;by_cases hlt:k < n
  ·obtain ⟨q,off,T,tc,x,rfl,hx,_,c0,c1,hT,hTn⟩:=(HR.out.grown hg HB.out).at_ hlt;have q1:(k:Int) < (n:Int):=by omega
   have HX:=jh hx;have HCALL:=jh (yjt x T tc wr);clear h2 hx hT hTn hg;obtain ⟨r,hr⟩:∃ r,yc7 x = r:=⟨_,rfl⟩;rw [hr] at HCALL;have HRR:=jh hr;clear hr;simp only [accC] at HCALL;go_wp2_with fail
   refine HCALL.out.mono ?_;rintro e w2 ⟨rfl,hg2⟩;have HG2:=jh (yab HGG.out hg2 (by simp));clear c0 c1 hg2 HCALL;cases r with
   | true =>
    go_wp2_with fail
    go_ret
    refine ⟨⟨(k:Int),rfl,?_⟩,HG2.out⟩;rw [yhq (d:=AccV.none_) (k:=k) (by rw [HL.out];exact hlt) (by rw [HX.out];exact HRR.out)];exact decide_eq_true (by omega)
   | false =>
    go_wp2_with fail
    refine ⟨⟨k + 1,by go_num,by omega,HG2.out,jh fun i hi=>?_⟩,by simp [intOf];omega⟩;by_cases hik:i = k
    ·rw [hik,HX.out];exact HRR.out
    ·exact h2'.out i (by omega)
  ·have q1:(n:Int) <= (k:Int):=by omega
   have hno:=ye3 (d:=AccV.none_) (p:=yc7) (xs:=ls) (fun i hi=>h2.out i (by have:=HL.out;omega));have HNO:=jh hno;clear h2 h2' hno hg;go_wp2_with fail
   go_ret
   exact ⟨⟨-1,rfl,by rw [HNO.out];rfl⟩,HGG.out⟩
theorem yeS (B:Nat) (A:Option Addr) (n c:Nat) (ls:List AccV) (w:World) (h:AccR B w ls A n) (hB:B <= w.heap.size) (hn:n <= 9223372036854775807) :
  Calls jq 112 #[.slice A n c,.func (.func 108) #[] #[]] w fun e w'=>e = .returned (.bool (ls.any yc7)) /\ w.grownBy w' none:=by
 have HI:=jh (yhm B A n c ls w h hB hn);clear h;go_enter Tryz.func112,Tryz.ntmps112
 go_wp2_with fail
 refine HI.out.mono ?_;rintro e w2 ⟨⟨i,rfl,hi⟩,hg⟩;have HI2:=jh hi;have HG:=jh hg;clear hi hg;go_wp2_with fail
 go_ret
 exact ⟨by rw [<- HI2.out];rfl,HG.out⟩
theorem ygf (B:Nat) (A:Option Addr) (n c:Nat) (ls:List AutV) (w:World) (h:AutR B w ls A n) (hn:n <= 9223372036854775807) :
  Calls jq 160 #[.slice A n c,.func (.func 135) #[] #[]] w fun e w'=>(∃ i:Int,e = .returned (.int .i64 i) /\ decide (0 <= i) = ls.any yc1) /\ w.grownBy w' none:=by
 have HR:=jh h;have HL:=jh h.1;clear h;go_enter Tryz.func160,Tryz.ntmps160
 go_wp2_with fail
 go_loopw [8] (fun i wr=>∃ k:Nat,i = .int .i64 k /\ k <= n /\ w.grownBy wr none /\ Hid (∀ i:Nat,i < k -> yc1 (ls.getD i AutV.none_) = false)) (fun i _=>n - (intOf i).toNat)
 case atStart=>exact ⟨0,rfl,by omega,jr _ _,jh (by intro i h1;omega)⟩
 case round =>
  obtain ⟨k,rfl,hk,hg,h2⟩:=hrel;have h2':=jh h2.out;have HGG:=jh hg;by_cases hlt:k < n
  ·obtain ⟨q,off,x,rfl,hx,_,hcx⟩:=(HR.out.grown hg).at_ hlt;have q1:(k:Int) < (n:Int):=by omega
   have q2:(0:Int) <= (k:Int):=by omega
   have HX:=jh hx;have HCX:=jh hcx;have HCALL:=jh (yiM x wr);clear h2 hx hg hcx;obtain ⟨r,hr⟩:∃ r,yc1 x = r:=⟨_,rfl⟩;rw [hr] at HCALL;have HRR:=jh hr;clear hr;go_upto_region 4 with (fail)
   refine jwl ?_
   iterate 12 go_step
   refine wp_load_mid 110 (.tmp 14) rfl q (off + k * 12) rfl (autL x) _ HCX.out Tryz.underlying110 rfl (by kernel_rfl) ?_;simp only [jp,jb,jz,js];generalize (autL x).toArray = cx at *;go_wp2_with fail
   refine HCALL.out.mono ?_;rintro e w2 ⟨rfl,hg2⟩;have HG2:=jh (yab HGG.out hg2 (by simp));clear hg2 HCALL;cases r with
   | true =>
    go_wp2_with fail
    go_ret
    refine ⟨⟨(k:Int),rfl,?_⟩,HG2.out⟩;rw [yhq (d:=AutV.none_) (k:=k) (by rw [HL.out];exact hlt) (by rw [HX.out];exact HRR.out)];exact decide_eq_true (by omega)
   | false =>
    go_wp2_with fail
    refine ⟨⟨k + 1,by go_num,by omega,HG2.out,jh fun i hi=>?_⟩,by simp [intOf];omega⟩;by_cases hik:i = k
    ·rw [hik,HX.out];exact HRR.out
    ·exact h2'.out i (by omega)
  ·have q1:(n:Int) <= (k:Int):=by omega
   have hno:=ye3 (d:=AutV.none_) (p:=yc1) (xs:=ls) (fun i hi=>h2.out i (by have:=HL.out;omega));have HNO:=jh hno;clear h2 h2' hno hg;go_wp2_with fail
   go_ret
   exact ⟨⟨-1,rfl,by rw [HNO.out];rfl⟩,HGG.out⟩
theorem yeH (B:Nat) (A:Option Addr) (n c:Nat) (ls:List AutV) (w:World) (h:AutR B w ls A n) (hn:n <= 9223372036854775807) :
  Calls jq 136 #[.slice A n c,.func (.func 135) #[] #[]] w fun e w'=>e = .returned (.bool (ls.any yc1)) /\ w.grownBy w' none:=by
 have HI:=jh (ygf B A n c ls w h hn);clear h;go_enter Tryz.func136,Tryz.ntmps136
 go_wp2_with fail
 refine HI.out.mono ?_;rintro e w2 ⟨⟨i,rfl,hi⟩,hg⟩;have HI2:=jh hi;have HG:=jh hg;clear hi hg;go_wp2_with fail
 go_ret
 exact ⟨by rw [<- HI2.out];rfl,HG.out⟩
def ydp (k:Int) (b1 p a c1 d0 d20 a0 s32 f20:Bool):Bool:=if (b1 || p || a) = true then false else if k = 0 then c1 && (d0 || d20) else if k = 4 then d20 && a0 else if k = 126 then (s32 && f20) && (d0 || d20) else d0 || d20
def yhH (t:TxV):Bool:=ydp t.kind (decide (1 < t.y)) (t.acc.any ybP) (t.auths.any yc1) (decide (t.chain <= 4611686018427387904)) (decide (t.dst.size = 0)) (decide (t.dst.size = 20)) (decide (0 < t.auths.length)) (decide (t.source.size = 32)) (decide (t.frm.size = 20))
theorem ygR (s:ByteArray):(s.toList == []) = decide (s.size = 0):=by
 rw [Lib.toList_data];have h:s.data.toList.length = s.size:=jb0;by_cases e:s.size = 0
 ·rw [decide_eq_true e];have:s.data.toList = []:=List.length_eq_zero_iff.1 (by omega);rw [this];rfl
 ·rw [decide_eq_false e];cases hh:s.data.toList with
  | nil=>rw [hh] at h;simp at h;omega
  | cons a b=>rfl
theorem yiz (s n:Nat):((s:Int) == (n:Int)) = decide (s = n):=by
 by_cases e:s = n
 ·subst e;simp
 ·rw [decide_eq_false e];simp;omega
theorem yh5 (t:TxV) (B:Nat) (sa sb:Value) (w:World) (h:TxIn B w t sa sb) (hB:B <= w.heap.size) :
  Calls jq 111 #[.agg (txC t sa sb)] w fun e w'=>e = .returned (.bool (yhH t)) /\ w.grownBy w' none:=by
 have hG:=yaa (yaa (jr w none) (.cells (txC t sa sb) 49)) (.cells #[.func (.func 132) #[] #[]] 169);have hb:=(Blk.new w 49 (txC t sa sb)).alloc (.cells #[.func (.func 132) #[] #[]] 169);have hp:=Boxed.new (w.alloc (.cells (txC t sa sb) 49)) 169 (.func (.func 132) #[] #[]);rw [jsa] at hp;have hI:=h.grown hG hB;have hB1:=jlt hB hG.size;obtain ⟨⟨pa,xa,rfl,hacc⟩,⟨pb,xb,rfl,haut⟩,la,lb⟩:=hI;have hS:yhH t = ydp t.kind (decide (1 < t.y)) (t.acc.any ybP) (t.auths.any yc1) (decide (t.chain <= 4611686018427387904)) (decide (t.dst.size = 0)) (decide (t.dst.size = 20)) (decide (0 < t.auths.length)) (decide (t.source.size = 32)) (decide (t.frm.size = 20)):=rfl;rw [hS];clear hS;have z0:(txC t (.slice pa t.acc.length xa) (.slice pb t.auths.length xb))[0]? = some (.int .i64 t.kind):=rfl;have z1:(txC t (.slice pa t.acc.length xa) (.slice pb t.auths.length xb))[1]? = some (.int .u64 (t.chain:Int)):=rfl;have z12:(txC t (.slice pa t.acc.length xa) (.slice pb t.auths.length xb))[12]? = some (.string t.dst):=rfl;have z18:(txC t (.slice pa t.acc.length xa) (.slice pb t.auths.length xb))[18]? = some (.slice pa t.acc.length xa):=rfl;have z19:(txC t (.slice pa t.acc.length xa) (.slice pb t.auths.length xb))[19]? = some (.slice pb t.auths.length xb):=rfl;have z20:(txC t (.slice pa t.acc.length xa) (.slice pb t.auths.length xb))[20]? = some (.int .u64 (t.y:Int)):=rfl;have z29:(txC t (.slice pa t.acc.length xa) (.slice pb t.auths.length xb))[29]? = some (.string t.source):=rfl;have z30:(txC t (.slice pa t.acc.length xa) (.slice pb t.auths.length xb))[30]? = some (.string t.frm):=rfl;generalize txC t (.slice pa t.acc.length xa) (.slice pb t.auths.length xb) = ct at *;obtain ⟨kind,chain,nonce,tip,price,gas,dst,value,data,acc,auths,y,r,s,source,frm,mint,system⟩:=t;simp only at *;obtain ⟨na,hna⟩:∃ n,acc.length = n:=⟨_,rfl⟩;obtain ⟨nb,hnb⟩:∃ n,auths.length = n:=⟨_,rfl⟩;rw [hna] at hacc la z18;rw [hnb] at haut lb z19 ⊢;have HPA:=jh (fun (V:World) p hp hR hB=>ye7 B pa na xa p acc V hp hR hB la);have HAU:=jh (fun (V:World) hR=>yeH B pb nb xb auths V hR lb);have e1:decide ((1:Int) < (y:Int)) = decide (1 < y):=decide_eq_decide.2 (by omega);have e2:decide ((chain:Int) <= 4611686018427387904) = decide (chain <= 4611686018427387904):=decide_eq_decide.2 (by omega);have e3:(dst.toList == []) = decide (dst.size = 0):=ygR dst;have e4:((dst.size:Int) == 20) = decide (dst.size = 20):=yiz dst.size 20;have e5:decide ((0:Int) < (nb:Int)) = decide (0 < nb):=decide_eq_decide.2 (by omega);have e6:((source.size:Int) == 32) = decide (source.size = 32):=yiz source.size 32;have e7:((frm.size:Int) == 20) = decide (frm.size = 20):=yiz frm.size 20;have e3i:dst.toList.isEmpty = decide (dst.size = 0):=by rw [<- ygR dst];cases dst.toList <;> rfl
 generalize decide (1 < y) = b1 at *;generalize decide (chain <= 4611686018427387904) = c1 at *;generalize decide (dst.size = 0) = d0 at *;generalize decide (dst.size = 20) = d20 at *;generalize decide (0 < nb) = a0 at *;generalize decide (source.size = 32) = s32 at *;generalize decide (frm.size = 20) = f20 at *;generalize acc.any ybP = oa at *;generalize auths.any yc1 = ob at *;have E2:=jh e2;have E3:=jh e3;have E4:=jh e4;have E5:=jh e5;have E6:=jh e6;have E7:=jh e7;have E3I:=jh e3i;clear e2 e3 e4 e5 e6 e7 e3i h hB hna hnb la lb;go_enter Tryz.func111,Tryz.ntmps111
 go_upto_region 2 with (fail)
 obtain ⟨g,hg⟩:∃ g,w.heap.size = g:=⟨_,rfl⟩;rw [hg] at hb hp ⊢;clear hg;generalize (w.alloc (.cells ct 49)).alloc (.cells #[.func (.func 132) #[] #[]] 169) = w1 at *;have HACC:=jh hacc;have HAUT:=jh haut;have HB1:=jh hB1;have HG:=jh hG;have HB:=jh hb;have HP:=jh hp;clear hacc haut hB1 hG hb hp;have c18:=(HB.out.cell 18).trans z18;have c20:=(HB.out.cell 20).trans z20;cases b1 with
 | true =>
  go_wp2_with fail
  go_ret
  exact ⟨by simp [ydp],HG.out⟩
 | false =>
 go_wp2_with fail
 refine (HPA.out _ _ HP.out HACC.out HB1.out).mono ?_;rintro e w2 ⟨rfl,hg⟩;replace HG:=jh (yab HG.out hg (by simp));replace HAUT:=jh (HAUT.out.grown hg);replace HB:=jh (HB.out.grown hg (by simp));clear hg c18 c20 e1 HPA HACC HP HB1;have c19:=(HB.out.cell 19).trans z19;cases oa with
 | true =>
  go_wp2_with fail
  go_ret
  exact ⟨by simp [ydp],HG.out⟩
 | false =>
 go_wp2_with fail
 refine (HAU.out _ HAUT.out).mono ?_;rintro e w3 ⟨rfl,hg⟩;replace HG:=jh (yab HG.out hg (by simp));replace HB:=jh (HB.out.grown hg (by simp));clear hg c19 HAU HAUT;cases ob with
 | true =>
  go_wp2_with fail
  go_ret
  exact ⟨by simp [ydp],HG.out⟩
 | false =>
 have c0:=(HB.out.cell 0).trans z0;have c1':=(HB.out.cell 1).trans z1;have c12:=(HB.out.cell 12).trans z12;have c19:=(HB.out.cell 19).trans z19;have c29:=(HB.out.cell 29).trans z29;have c30:=(HB.out.cell 30).trans z30;have e2:=E2.out;have e3:=E3.out;have e4:=E4.out;have e5:=E5.out;have e6:=E6.out;have e7:=E7.out;have e3i:=E3I.out;clear z0 z1 z12 z18 z19 z20 z29 z30 E2 E3 E4 E5 E6 E7 E3I;by_cases k0:kind = 0
 ·subst k0;cases c1 <;> cases d0 <;> cases d20 <;>
  (go_wp2_with fail
   go_ret
   exact ⟨by simp [ydp],HG.out⟩)
 have q0:(kind == 0) = false:=by simpa using k0
 by_cases k4:kind = 4
 ·subst k4;have K5:=jh e5;cases d20 <;> cases a0 <;>
  (go_wp2_with fail
   go_ret
   exact ⟨by have q:=K5.out;simp only [decide_eq_false_iff_not,decide_eq_true_eq] at q;simp [ydp] <;> omega,HG.out⟩)
 have q4:(kind == 4) = false:=by simpa using k4
 by_cases k126:kind = 126
 ·subst k126;cases s32 <;> cases f20 <;> cases d0 <;> cases d20 <;>
  (go_wp2_with fail
   go_ret
   exact ⟨by simp [ydp],HG.out⟩)
 have q126:(kind == 126) = false:=by simpa using k126
 have K0:=jh k0;have K4:=jh k4;have K126:=jh k126;clear k0 k4 k126;cases d0 <;> cases d20 <;>
 (go_wp2_with fail
  go_ret
  exact ⟨by simp [ydp,K0.out,K4.out,K126.out],HG.out⟩)
section
variable {P:Program}
theorem ykm {mty kt et:TypeId} {d:TypeDesc} {r clock:Nat} {es:Array MapEntry} {key val:Value} {w:World} (hm:P.underlying mty = some (.map kt et)) (hk:P.underlying kt = some d) (hkey:MapKept.IsKey d key) (hb:w.heap[r]? = some (.map es clock)) (hf:Instr.findNow d key es.toList 0 = some none) :
  (Instr.mapUpdate mty (.map (some r)) key val).run P w = .ok () (w.putObj r (.map (es.push { key:=key,val:=val,born:=clock }) (clock + 1))):=by
 have hc:(Instr.checkKey false 10000 kt key).run P w = .ok () w:=MapKept.run_checkKey hk hkey false 9999;simp [Instr.mapUpdate,run_underlying hm,MapKept.run_getObj_map hb,hc,MapKept.run_findKey hk hf,MapKept.run_setObj_map _ hb,Result.andThen,World.putObj]
theorem ykn {mty kt et:TypeId} {d:TypeDesc} {r clock i:Nat} {es:Array MapEntry} {key val:Value} {w:World} (hm:P.underlying mty = some (.map kt et)) (hk:P.underlying kt = some d) (hkey:MapKept.IsKey d key) (hb:w.heap[r]? = some (.map es clock)) (hf:Instr.findNow d key es.toList 0 = some (some (i,val))) :
  (Instr.lookup mty (.map (some r)) key false).run P w = .ok val w:=by
 have hc:(Instr.checkKey es.isEmpty 10000 kt key).run P w = .ok () w:=MapKept.run_checkKey hk hkey _ 9999;simp [Instr.lookup,run_underlying hm,MapKept.run_getObj_map hb,hc,MapKept.run_findKey hk hf,Result.andThen]
end

theorem ynJ:∃ i,jq.info? 3 = some i /\ i.zero = some (.int .i64 0) /\ i.size = 1 /\ i.bytes = 8:=by
 have h:(jq.info? 3).map (fun i=>(i.zero,i.size,i.bytes)) = some (some (.int .i64 0),1,8):=by kernel_rfl
 cases hi:jq.info? 3 with
 | none=>rw [hi] at h;cases h
 | some i =>
  rw [hi] at h;simp only [Option.map_some,ja1.injEq,Prod.mk.injEq] at h;exact ⟨i,rfl,h.1,h.2.1,h.2.2⟩
def yn7:Array MapEntry:=#[{ key:=.int .i64 0,val:=.int .i64 9,born:=0 },{ key:=.int .i64 1,val:=.int .i64 11,born:=1 },{ key:=.int .i64 2,val:=.int .i64 12,born:=2 },{ key:=.int .i64 4,val:=.int .i64 13,born:=3 },{ key:=.int .i64 126,val:=.int .i64 8,born:=4 }]
def yeM (n:Int):Bool:=decide (n = 0 \/ n = 1 \/ n = 2 \/ n = 4 \/ n = 126)
def yiQ (n:Int):Int:=if n = 0 then 9 else if n = 1 then 11 else if n = 2 then 12 else if n = 4 then 13 else if n = 126 then 8 else 0
theorem yoO (n:Int):yiQ n = 0 ↔ yeM n = false:=by
 unfold yiQ yeM;by_cases h0:n = 0 <;> by_cases h1:n = 1 <;> by_cases h2:n = 2 <;> by_cases h4:n = 4 <;> by_cases h6:n = 126 <;> simp [h0,h1,h2,h4,h6]
section
variable {P:Program}
theorem yiC {mty kt et:TypeId} {d:TypeDesc} {r clock:Nat} {es:Array MapEntry} {key z:Value} {i:TypeInfo} {w:World} (hm:P.underlying mty = some (.map kt et)) (hk:P.underlying kt = some d) (hkey:MapKept.IsKey d key) (hb:w.heap[r]? = some (.map es clock)) (hf:Instr.findNow d key es.toList 0 = some none) (hi:P.info? et = some i) (hz:i.zero = some z) :
  (Instr.lookup mty (.map (some r)) key false).run P w = .ok z w:=by
 have hc:(Instr.checkKey es.isEmpty 10000 kt key).run P w = .ok () w:=MapKept.run_checkKey hk hkey _ 9999;simp [Instr.lookup,run_underlying hm,MapKept.run_getObj_map hb,hc,MapKept.run_findKey hk hf,Result.andThen,zeroValue,typeInfo,hi,hz]
end
theorem yfy {w:World} {r clock:Nat} {es:Array MapEntry} (k v:Int) (hb:w.heap[r]? = some (.map es clock)) (hf:Instr.findNow (.int .i64) (.int .i64 k) es.toList 0 = some none):∃ w',(Instr.mapUpdate 145 (.map (some r)) (.int .i64 k) (.int .i64 v)).run jq w = .ok () w' /\ w'.heap[r]? = some (.map (es.push { key:=.int .i64 k,val:=.int .i64 v,born:=clock }) (clock + 1)) /\ Below r w w' /\ w'.heap.size = w.heap.size:=by
 have hr:r < w.heap.size:=(jes.1 hb).1;refine ⟨_,ykm (val:=.int .i64 v) Tryz.underlying145 jb9 (key:=.int .i64 k) (by simp [MapKept.IsKey]) hb hf,World.putObj_heap_same hr,⟨rfl,rfl,rfl,by simp [World.putObj],fun j hj=>World.putObj_heap_other (by omega)⟩,by simp [World.putObj]⟩
theorem yki (w:World):Calls jq 109 #[] w fun e w'=>e = .returned (.map (some w.heap.size)) /\ w'.heap[w.heap.size]? = some (.map yn7 5) /\ w.grownBy w' none:=by
 have hb0:Below w.heap.size w (w.alloc (.map #[] 0)):=(jd1 _ w).alloc (jle _) _;have h0:(w.alloc (.map #[] 0)).heap[w.heap.size]? = some (.map #[] 0):=World.alloc_heap_new w _;have hmm:=@run_makeMap jq;obtain ⟨w1,e1,k1,b1,z1⟩:=yfy 0 9 h0 rfl;obtain ⟨w2,e2,k2,b2,z2⟩:=yfy 1 11 k1 rfl;obtain ⟨w3,e3,k3,b3,z3⟩:=yfy 2 12 k2 rfl;obtain ⟨w4,e4,k4,b4,z4⟩:=yfy 4 13 k3 rfl;obtain ⟨w5,e5,k5,b5,z5⟩:=yfy 126 8 k4 rfl;have HG:=jh (yak (((((hb0.trans b1).trans b2).trans b3).trans b4).trans b5));have HK:=jh (show w5.heap[w.heap.size]? = some (.map yn7 5) from k5);clear h0 hb0 k1 k2 k3 k4 k5 b1 b2 b3 b4 b5 z1 z2 z3 z4 z5;go_enter Tryz.func109,Tryz.ntmps109
 go_wp2_with fail
 go_ret
 exact ⟨rfl,HK.out,HG.out⟩
theorem yn9 (n:Int) (r:Nat) (V:World) (h:V.heap[r]? = some (.map yn7 5)):(Instr.lookup 145 (.map (some r)) (.int .i64 n) false).run jq V = .ok (.int .i64 (yiQ n)) V:=by
 have hk:MapKept.IsKey (.int .i64) (.int .i64 n):=by simp [MapKept.IsKey]
 have g:=fun i v hf=>ykn (P:=jq) (i:=i) (val:=v) (key:=.int .i64 n) Tryz.underlying145 jb9 hk h hf;by_cases h0:n = 0
 ·subst h0;exact g 0 _ rfl
 by_cases h1:n = 1
 ·subst h1;exact g 1 _ rfl
 by_cases h2:n = 2
 ·subst h2;exact g 2 _ rfl
 by_cases h4:n = 4
 ·subst h4;exact g 3 _ rfl
 by_cases h6:n = 126
 ·subst h6;exact g 4 _ rfl
 have hm:yiQ n = 0:=by unfold yiQ;rw [if_neg h0,if_neg h1,if_neg h2,if_neg h4,if_neg h6]
 rw [hm]
 obtain ⟨i,hi,hz,_⟩:∃ i,jq.info? 3 = some i /\ i.zero = some (.int .i64 0) /\ True:=by
  obtain ⟨i,a,b,_⟩:=ynJ;exact ⟨i,a,b,trivial⟩
 refine yiC Tryz.underlying145 jb9 hk h ?_ hi hz;have b0:(n == 0) = false:=by simpa using h0
 have b1:(n == 1) = false:=by simpa using h1
 have b2:(n == 2) = false:=by simpa using h2
 have b4:(n == 4) = false:=by simpa using h4
 have b6:(n == 126) = false:=by simpa using h6
 simp [yn7,Instr.findNow,Instr.sameNow,b0,b1,b2,b4,b6]
theorem ydC {P:Program} {a:Act} {o:Oper} {W:World} (f:FuncId) (ho:o.op = .call { callee:=.value (.func f),args:=#[],argTypes:=#[] }) (hf:(callFunc f #[]).run P W = .ok (.enter f #[]) W):(execOp a.eval o).run P W = .ok (.enter f #[]) W:=by
 have he:a.eval (.func f) = .func (.func f) #[] #[]:=rfl;unfold execOp;generalize a.eval = ev at *;simp only [ho];simp [resolve,invoke,go_sem,he,hf]
theorem yjb {P:Program} {a:Act} {o:Oper} {W:World} {v:Value} (t:TypeId) (x y:Operand) (ho:o.op = .lookup t x y false) (m k:Value) (hx:a.eval x = m) (hy:a.eval y = k) (h:(Instr.lookup t m k false).run P W = .ok v W):(execOp a.eval o).run P W = .ok (.value v) W:=by
 unfold execOp;generalize a.eval = ev at *;simp only [ho];simp [go_sem,hx,hy,h]
def yih (k:Int):Bool:=decide (k = 1 \/ k = 2 \/ k = 4)
def ycQ (t:TxV):TxV :=
 if t.kind = 126 then { TxV.zero with kind:=t.kind,gas:=t.gas,dst:=t.dst,value:=t.value,data:=t.data,source:=t.source,frm:=t.frm,mint:=t.mint,system:=t.system }
 else { TxV.zero with kind:=t.kind,gas:=t.gas,dst:=t.dst,value:=t.value,data:=t.data,chain:=t.chain,nonce:=t.nonce,price:=t.price,y:=t.y,r:=t.r,s:=t.s,tip:=if t.kind = 2 \/ t.kind = 4 then t.tip else 0,acc:=if yih t.kind = true then t.acc else [],auths:=if t.kind = 4 then t.auths else [] }
def accS (t:TxV) (sa:Value):Value:=if yih t.kind = true then sa else .slice none 0 0
def autS (t:TxV) (sb:Value):Value:=if t.kind = 4 then sb else .slice none 0 0
theorem yn4 {t:TxV} (h:t.Ok):(ycQ t).Ok:=by
 obtain ⟨h1,h2,h3,h4,h5,h6,h7,h8,h9,h10,h11⟩:=h;unfold ycQ;by_cases k:t.kind = 126
 ·rw [if_pos k];exact ⟨by simp [TxV.zero],by simp [TxV.zero],by simp [TxV.zero],by simp [TxV.zero],h5,h6,by simp [TxV.zero],by simp [TxV.zero],by simp [TxV.zero],h10,by simp [TxV.zero]⟩
 ·rw [if_neg k];refine ⟨h1,h2,?_,h4,h5,h6,h7,h8,h9,by simp [TxV.zero],?_⟩
  ·show (if t.kind = 2 \/ t.kind = 4 then t.tip else 0) < _;split
   ·exact h3
   ·omega
  ·show ∀ a ∈ (if t.kind = 4 then t.auths else []),a.Ok;split
   ·exact h11
   ·intro a ha;cases ha
theorem yn5 {t:TxV} {B:Nat} {W:World} {sa sb:Value} (h:TxIn B W t sa sb):TxIn B W (ycQ t) (accS t sa) (autS t sb):=by
 have hn:∀ x:Nat,AccR B W [] none 0:=fun _=>AccR.nil B W none
 have key:∀ (la:List AccV) (lb:List AutV),(la = if yih t.kind = true then t.acc else []) -> (lb = if t.kind = 4 then t.auths else []) -> (ycQ t).acc = la -> (ycQ t).auths = lb -> TxIn B W (ycQ t) (accS t sa) (autS t sb):=by
  intro la lb e1 e2 e3 e4;refine ⟨?_,?_,?_,?_⟩
  ·rw [e3,e1];unfold accS;split
   ·exact h.acc
   ·exact ⟨none,0,rfl,AccR.nil B W none⟩
  ·rw [e4,e2];unfold autS;split
   ·exact h.aut
   ·exact ⟨none,0,rfl,AutR.nil B W none⟩
  ·rw [e3,e1];split
   ·exact h.la
   ·simp
  ·rw [e4,e2];split
   ·exact h.lb
   ·simp
 by_cases k:t.kind = 126
 ·exact key [] [] (by rw [k];rfl) (by rw [k];rfl) (by unfold ycQ;rw [if_pos k];rfl) (by unfold ycQ;rw [if_pos k];rfl)
 ·exact key _ _ rfl rfl (by unfold ycQ;rw [if_neg k]) (by unfold ycQ;rw [if_neg k])
theorem ymq {n:Int} (h:yeM n = true):n = 0 \/ n = 1 \/ n = 2 \/ n = 4 \/ n = 126:=of_decide_eq_true h
def TA.of (t:TxV) (pa:Option Addr) (na xa:Nat) (pb:Option Addr) (nb xb:Nat):TA:=⟨t.kind,t.chain,t.nonce,(wp t.tip 0:Nat),(wp t.tip 1:Nat),(wp t.tip 2:Nat),(wp t.tip 3:Nat),(wp t.price 0:Nat),(wp t.price 1:Nat),(wp t.price 2:Nat),(wp t.price 3:Nat),t.gas,t.dst,(wp t.value 0:Nat),(wp t.value 1:Nat),(wp t.value 2:Nat),(wp t.value 3:Nat),t.data,pa,na,xa,pb,nb,xb,t.y,(wp t.r 0:Nat),(wp t.r 1:Nat),(wp t.r 2:Nat),(wp t.r 3:Nat),(wp t.s 0:Nat),(wp t.s 1:Nat),(wp t.s 2:Nat),(wp t.s 3:Nat),t.source,t.frm,(wp t.mint 0:Nat),(wp t.mint 1:Nat),(wp t.mint 2:Nat),(wp t.mint 3:Nat),t.system⟩
theorem yh6 (t:TxV) (hk:yeM t.kind = true) (pa:Option Addr) (na xa:Nat) (pb:Option Addr) (nb xb:Nat) (w:World) :
  Calls jq 110 #[.agg (txC t (.slice pa na xa) (.slice pb nb xb))] w fun e w'=>e = .returned (.agg (txC (ycQ t) (accS t (.slice pa na xa)) (autS t (.slice pb nb xb)))) /\ w.grownBy w' none:=by
 rw [show txC t (.slice pa na xa) (.slice pb nb xb) = (TA.of t pa na xa pb nb xb).L from by rw [yon];rfl];refine (yh7 (TA.of t pa na xa pb nb xb) w).mono ?_;rintro e w2 ⟨rfl,hg⟩;refine ⟨?_,hg⟩;obtain ⟨kind,chain,nonce,tip,price,gas,dst,value,data,acc,auths,y,r,s,source,frm,mint,system⟩:=t;rcases ymq hk with h | h | h | h | h <;> (simp only at h;subst h;kernel_rfl)
def yfK (kd sm sd:Bool) (bd ba bp bu:Bool):Int:=if kd = false then 9 else if (!sm || !sd) = true then 2 else if (bd || ba || bp || bu) = true then 5 else 0
def yjX (t:TxV):Int:=yfK (yeM t.kind) (decide (t = ycQ t)) (yhH t) (decide (4096 < t.data.size)) (decide (16 < t.acc.length)) (t.acc.any yc7) (decide (8 < t.auths.length))
theorem yh8 (t:TxV) (B:Nat) (sa sb:Value) (w:World) (h:TxIn B w t sa sb) (hB:B <= w.heap.size) (ok:t.Ok) :
  Calls jq 75 #[.agg (txC t sa sb)] w fun e w'=>e = .returned (.int .i64 (yjX t)) /\ w.grownBy w' none:=by
 have hG:=yaa (jr w none) (.cells (txC t sa sb) 49);have hb1:=Blk.new w 49 (txC t sa sb);have hI:=h.grown hG hB;have hB1:=jlt hB hG.size;obtain ⟨⟨pa,xa,hsa,hacc⟩,⟨pb,xb,hsb,haut⟩,la,lb⟩:=h;obtain ⟨na,hna⟩:∃ n,t.acc.length = n:=⟨_,rfl⟩;obtain ⟨nb,hnb⟩:∃ n,t.auths.length = n:=⟨_,rfl⟩;rw [hna] at hsa la hacc;rw [hnb] at hsb lb;subst hsa;subst hsb;have hck:yjX t = yfK (yeM t.kind) (decide (t = ycQ t)) (yhH t) (decide (4096 < t.data.size)) (decide (16 < na)) (t.acc.any yc7) (decide (8 < nb)):=by rw [<- hna,<- hnb];rfl
 rw [hck];have hi2:=yn5 hI;obtain ⟨sm,hsm⟩:∃ b,decide (t = ycQ t) = b:=⟨_,rfl⟩;obtain ⟨sd,hsd⟩:∃ b,yhH t = b:=⟨_,rfl⟩;obtain ⟨bp,hbp⟩:∃ b,t.acc.any yc7 = b:=⟨_,rfl⟩;obtain ⟨kd,hkd⟩:∃ b,yeM t.kind = b:=⟨_,rfl⟩;have e1:decide ((4096:Int) < (t.data.size:Int)) = decide (4096 < t.data.size):=decide_eq_decide.2 (by omega);have e2:decide ((16:Int) < (na:Int)) = decide (16 < na):=decide_eq_decide.2 (by omega);have e3:decide ((8:Int) < (nb:Int)) = decide (8 < nb):=decide_eq_decide.2 (by omega);have HNA:=jh (fun (hk:yeM t.kind = true) V=>yh6 t hk pa na xa pb nb xb V);have HSO:=jh (fun (V:World) hI hB=>yh5 t B (.slice pa na xa) (.slice pb nb xb) V hI hB);have HSA:=jh (fun (V:World) hI hI2 hB=>yfn t (ycQ t) B B (.slice pa na xa) (.slice pb nb xb) (accS t (.slice pa na xa)) (autS t (.slice pb nb xb)) V hI hI2 hB hB ok (yn4 ok));have HBI:=jh (fun (V:World) hR hB=>yeS B pa na xa t.acc V hR hB la);rw [hsm] at HSA ⊢;rw [hsd] at HSO ⊢;rw [hbp] at HBI ⊢;have HM:=jh (yoO t.kind);rw [hkd] at HM HNA ⊢;have HAC:=jh hacc;generalize hcn:txC (ycQ t) (accS t (.slice pa na xa)) (autS t (.slice pb nb xb)) = cn at *;have z0:(txC t (.slice pa na xa) (.slice pb nb xb))[0]? = some (.int .i64 t.kind):=rfl;have z17:(txC t (.slice pa na xa) (.slice pb nb xb))[17]? = some (.string t.data):=rfl;have z18:(txC t (.slice pa na xa) (.slice pb nb xb))[18]? = some (.slice pa na xa):=rfl;have z19:(txC t (.slice pa na xa) (.slice pb nb xb))[19]? = some (.slice pb nb xb):=rfl;have hsz:(txC t (.slice pa na xa) (.slice pb nb xb)).size = 36:=rfl;generalize txC t (.slice pa na xa) (.slice pb nb xb) = ct at *;obtain ⟨n,hn⟩:∃ n,t.kind = n:=⟨_,rfl⟩;obtain ⟨data,hdata⟩:∃ n,t.data = n:=⟨_,rfl⟩;rw [hdata] at e1 z17 ⊢;rw [hn] at HM z0;have HI:=jh hI;have HI2:=jh hi2;have HB0:=jh hB1;have HSZ:=jh hsz;generalize decide (4096 < data.size) = bd at *;generalize decide (16 < na) = ba at *;generalize decide (8 < nb) = bu at *;have HBA:=jh hB;have E1:=jh e1;have E2:=jh e2;have E3:=jh e3;clear hI hi2 hB1 hB hsz hcn hck hn hdata hsm hsd hbp hkd hna hnb la lb hacc haut ok e1 e2 e3;go_enter Tryz.func75,Tryz.ntmps75
 go_upto_region 1 with (fail)
 obtain ⟨g,hg⟩:∃ g,w.heap.size = g:=⟨_,rfl⟩;rw [hg] at hb1 ⊢;clear hg;generalize w.alloc (.cells ct 49) = w1 at *;have HB1:=jh hb1;have HAC:=jh (HAC.out.grown hG HBA.out);have HG:=jh hG;clear hb1 hG HBA;go_upto_region 2 with (fail)
 have hl:=HB1.out.lt;have hr0:∀ V,Below w1.heap.size w1 V -> V.cell? ⟨g,0,none⟩ = some (.int .i64 n):=fun V hV=>(hV.cell (p:=⟨g,0,none⟩) hl).trans ((HB1.out.cell 0).trans z0);refine jwh (S:=fun W=>Below w1.heap.size w1 W) (by kernel_rfl) ?_;change wpAnyH _ _ _ _ _ _ _ _ w1.drew;have hS:Below w1.heap.size w1 w1.drew:=⟨rfl,rfl,rfl,jle _,fun _ _=>rfl⟩;generalize w1.drew = u0 at *;refine zt 1 (.pointer (some ⟨g,0,none⟩)) (some 6) rfl (fun W hW=>by go_simp) hS ?_;simp only [jp,jb,jz,js];refine zt 2 (.int .i64 n) (some 7) rfl (fun W hW=>by have q:=hr0 W hW;go_simp) hS ?_;simp only [jp,jb,jz,js];refine yag (i:=0) (by kernel_rfl) ?_;refine yat (some 5) rfl rfl 109 #[] (ydC _ rfl (jeo Tryz.func109 (by kernel_rfl) rfl _ _)) rfl ((yki u0).mono ?_);rintro e u1 ⟨rfl,hmap,hg⟩;replace hS:Below w1.heap.size w1 u1:=hS.trans ((yaE hg).mono hS.size);refine ⟨_,rfl,hS,?_⟩;simp only [jp,jb,jz,js];refine yag (i:=3) (by kernel_rfl) ?_;refine yaf (some 8) rfl rfl (.int .i64 (yiQ n)) (yjb _ (.tmp 5) (.tmp 7) rfl _ _ rfl rfl (yn9 n _ u1 hmap)) rfl hS ?_;simp only [jp,jb,jz,js];obtain ⟨m,hm⟩:∃ m,yiQ n = m:=⟨_,rfl⟩;rw [hm] at HM ⊢;refine yag (i:=4) (by kernel_rfl) ?_;refine yaf (some 9) rfl rfl (.bool (m == 0)) (by go_simp <;> rfl) rfl hS ?_;simp only [jp,jb,jz,js];refine yag (i:=5) (by kernel_rfl) ?_;refine yaf (some 4) rfl rfl (.bool (m == 0)) (by go_simp <;> rfl) rfl hS ?_;simp only [jp,jb,jz,js];refine jwd (by kernel_rfl) ?_ _;replace HG:=jh (yab HG.out (yak hS) (by simp));replace HB1:=jh (HB1.out.below hS hl);have hgs:=yak hS;replace HI:=jh (HI.out.grown hgs HB0.out);replace HI2:=jh (HI2.out.grown hgs HB0.out);replace HAC:=jh (HAC.out.grown hgs HB0.out);replace HB0:=jh (jlt HB0.out hgs.size);clear hS hg hmap hr0 hl hm hgs;cases kd with
 | false =>
  have h0:=HM.out.2 rfl;subst h0;go_wp2_with fail
  go_ret
  exact ⟨rfl,HG.out⟩
 | true =>
  have h0:¬ m = 0:=fun e=>by have:=HM.out.1 e;cases this
  have e1:(m == 0) = false:=by simpa using h0
  replace HNA:=jh (HNA.out rfl);clear h0;go_upto_region 4 with (fail)
  clear e1 HM;have l1:=HB1.out.lt;have HCI:=jh (fun (V:World) (hV:Below u1.heap.size u1 V)=>(⟨HI.out.grown (yak hV) HB0.out,HI2.out.grown (yak hV) HB0.out,jlt HB0.out (yak hV).size⟩:TxIn B V t (.slice pa na xa) (.slice pb nb xb) /\ TxIn B V (ycQ t) (accS t (.slice pa na xa)) (autS t (.slice pb nb xb)) /\ B <= V.heap.size));have hC0:(fun V=>Below u1.heap.size u1 V) u1.drew:=⟨rfl,rfl,rfl,jle _,fun _ _=>rfl⟩;refine ybK (fun V=>Below u1.heap.size u1 V) (by kernel_rfl) (by kernel_rfl) hC0 ?_;have hcc:=ydd hC0;(try simp only [jp])
  (repeat go_big_quiet_step (fail))
  refine yaB rfl (.agg ct) (fun V hV=>yai rfl rfl 49 ct _ (HB1.out.below hV l1) ja5 rfl ((show (jq.info? 49).map (·.size) = some 36 by kernel_rfl).trans (congrArg some HSZ.out.symm))) ?_;simp only [jp,jb,jz,js]
  (repeat go_big_quiet_step (fail))
  refine yaB rfl (.agg ct) (fun V hV=>yai rfl rfl 49 ct _ (HB1.out.below hV l1) ja5 rfl ((show (jq.info? 49).map (·.size) = some 36 by kernel_rfl).trans (congrArg some HSZ.out.symm))) ?_;simp only [jp,jb,jz,js]
  (repeat go_big_quiet_step (fail))
  refine ybC (.agg cn) 110 #[.agg ct] rfl (fun V=>yam _ (.tmp 12) _ rfl _ rfl (jeo Tryz.func110 (by kernel_rfl) rfl _ _)) (fun V hV=>HNA.out V) ?_;simp only [jp,jb,jz,js]
  (repeat go_big_quiet_step (fail))
  refine ybC (.bool sm) 35 #[.agg ct,.agg cn] rfl (fun V=>yao _ (.tmp 11) (.tmp 13) _ rfl _ _ rfl rfl (jeo Tryz.func35 (by kernel_rfl) rfl _ _)) (fun V hV=>HSA.out V (HCI.out V hV).1 (HCI.out V hV).2.1 (HCI.out V hV).2.2) ?_;simp only [jp,jb,jz,js];cases sm with
  | false =>
   (repeat go_big_quiet_step (fail))
   refine wpQuiet_nil ?_;intro w3 hw3;have HG:=jh (yab HG.out (yak hw3) (by simp));clear hcc hC0 hw3 l1;go_wp2_with fail
   go_ret
   exact ⟨rfl,HG.out⟩
  | true =>
  (repeat go_big_quiet_step (fail))
  refine yaB rfl (.agg ct) (fun V hV=>yai rfl rfl 49 ct _ (HB1.out.below hV l1) ja5 rfl ((show (jq.info? 49).map (·.size) = some 36 by kernel_rfl).trans (congrArg some HSZ.out.symm))) ?_;simp only [jp,jb,jz,js]
  (repeat go_big_quiet_step (fail))
  refine ybC (.bool sd) 111 #[.agg ct] rfl (fun V=>yam _ (.tmp 17) _ rfl _ rfl (jeo Tryz.func111 (by kernel_rfl) rfl _ _)) (fun V hV=>HSO.out V (HCI.out V hV).1 (HCI.out V hV).2.2) ?_;simp only [jp,jb,jz,js]
  (repeat go_big_quiet_step (fail))
  refine wpQuiet_nil ?_;intro w3 hw3;have HG:=jh (yab HG.out (yak hw3) (by simp));have hb:=HB1.out.below hw3 l1;have HAC:=jh (HAC.out.grown (yak hw3) HB0.out);have HB0:=jh (jlt HB0.out (yak hw3).size);have c17:=(hb.cell 17).trans z17;have c18:=(hb.cell 18).trans z18;have c19:=(hb.cell 19).trans z19;have HBL:=jh hb;have e1:=E1.out;have e2:=E2.out;have e3:=E3.out;clear hcc hC0 hw3 l1 hb HCI HNA HSA HSO HI HI2 E1 E2 E3 z0;cases sd with
  | false =>
   go_wp2_with fail
   go_ret
   exact ⟨rfl,HG.out⟩
  | true =>
  cases bd with
  | true =>
   go_wp2_with fail
   go_ret
   exact ⟨rfl,HG.out⟩
  | false =>
  cases ba with
  | true =>
   go_wp2_with fail
   go_ret
   exact ⟨rfl,HG.out⟩
  | false =>
  go_wp2_with fail
  refine (HBI.out _ HAC.out HB0.out).mono ?_;rintro e w4 ⟨rfl,hg⟩;have HG:=jh (yab HG.out hg (by simp));replace c19:=hg.cell c19 (by simp);clear hg c17 c18;cases bp with
  | true =>
   go_wp2_with fail
   go_ret
   exact ⟨rfl,HG.out⟩
  | false =>
  cases bu with
  | true =>
   go_wp2_with fail
   go_ret
   exact ⟨rfl,HG.out⟩
  | false =>
   go_wp2_with fail
   go_ret
   exact ⟨rfl,HG.out⟩
end Go.Proofs.YtmaggfokhlodnaaGreatDoor
