/- Merged: HeldSt, CoE, EqS, CoD, HeldF, FldE, FldT, RlpC. -/
import Derived.Test.YtgclnikdkfpflaaGreatDoorMv1
import Derived.Test.YtgclnikdkfpflaaGreatDoorMv2
import Derived.Test.YtgclnikdkfpflaaGreatDoorMv3
import Derived.Deep.MidRow
import Derived.Laws.EntriesVeiled
namespace Go.Proofs.YtgclnikdkfpflaaGreatDoor
open Go.RowKit Go.Shelf
open List renaming set_cons_zero → jz, set_cons_succ → js, setIfInBounds_toArray → jb
set_option linter.unusedVariables false
set_option linter.unusedSimpArgs false
set_option maxRecDepth 100000
set_option maxHeartbeats 16000000
open Lib renaming hid → jh, byteCells → ja6, IsBuilder → jd3
open Act renaming put → jp
open World.grownBy renaming refl → jr
open _root_.List renaming getD_eq_getElem?_getD → jg, getElem?_eq_getElem → je, getElem?_cons_zero → jcz, getElem?_cons_succ → jcs, getElem?_toArray → jta, length_append → jla, take_of_length_le → jtl, getElem?_map → jgm, replicate → jc1, size_toArray → jd9
open _root_.Array renaming getElem?_eq_some_iff → jes, length_toList → jb0, getElem?_eq_getElem → jb4, getElem?_eq_none → jc8, replicate → je4
open World renaming size_alloc → jsa, ownsRow_nil → jon, block_lt_of_cell? → jd0, cell?_setCell_far → jd1
open _root_.Nat renaming le_trans → jlt, le_refl → jle, le_of_ble_eq_true → jb1, lt_of_lt_of_le → jc4
open _root_.Go.Proofs.Tryz renaming prog → jq, underlying42 → ja3, underlying23 → ja5, underlying104 → ja7, underlying9 → ja9
open Go renaming wp_region_list → jwl, wpList_nil → jwn, bodyPost_ret → jbr, wpAnyH_done → jwd, wp_region_held → jwh, setRow_other → jso, run_append_own_at → jra, wpList_store_row → jsw
open _root_.Go.Proofs renaming enters_of → jeo
open Value renaming oneCell' → ja2, slice → ja4, string → ja8
open Region renaming wanted → jb6
open Below renaming refl → jc5
section
variable {P:Program} {ops:Array Oper} {md:Region.Mode} {Q:Exit -> Act -> World -> Prop} {S:World -> Prop}
end
def putA:Nat -> List Value -> Array Value -> Array Value
 | _,[],c=>c
 | o,v :: r,c=>putA (o + 1) r (c.setIfInBounds o v)
theorem ycG:∀ (vs:List Value) (o:Nat) (c:Array Value),(putA o vs c).size = c.size
 | [],_,_=>rfl
 | v :: r,o,c=>by rw [putA,ycG r];simp
theorem ydQ {W:World} {g:Nat} {t:TypeId} {c0:Array Value} (h:Blk W g t c0) (c:Array Value) (i:Nat) (v:Value):(W.setRow g c).setCell ⟨g,i,none⟩ v = W.setRow g (c.setIfInBounds i v):=by
 have h:W.heap[g]? = some (.cells c0 t (0,0)):=h;have h1:=setRow_heap W g c0 c t (0,0) h;have h2:=setRow_heap W g c0 (c.setIfInBounds i v) t (0,0) h
 have hh:((W.setRow g c).setCell ⟨g,i,none⟩ v).heap = (W.setRow g (c.setIfInBounds i v)).heap:=by
  apply Array.ext_getElem?;intro k;by_cases hk:k = g
  ·subst hk;rw [h2];show ((W.setRow k c).heap.modify k _)[k]? = _;rw [Array.getElem?_modify,if_pos rfl,h1]
   simp
  ·show ((W.setRow g c).heap.modify g _)[k]? = _;rw [Array.getElem?_modify,if_neg (fun e=>hk e.symm),jso W g k c hk,jso W g k _ hk]
 calc (W.setRow g c).setCell ⟨g,i,none⟩ v = { W with heap:=((W.setRow g c).setCell ⟨g,i,none⟩ v).heap }:=rfl
  _ = { W with heap:=(W.setRow g (c.setIfInBounds i v)).heap }:=by rw [hh]
  _ = W.setRow g (c.setIfInBounds i v):=rfl
theorem ycF {W:World} {g:Nat} {t:TypeId} {c0:Array Value} (h:Blk W g t c0):∀ (vs:List Value) (o:Nat) (c:Array Value),(W.setRow g c).setCells g o vs = W.setRow g (putA o vs c)
 | [],_,_=>rfl
 | v :: r,o,c=>by rw [World.setCells,ydQ h,ycF h r,putA]
theorem yjw {w:World} {g:Nat} {t:TypeId} {cs cs':Array Value} (h:Blk w g t cs):Blk (w.setRow g cs') g t cs':=setRow_heap w g cs cs' t (0,0) h
section
variable {P:Program}
theorem yeL (w:World) (b o:Nat) (ty:TypeId) (v:Value) (cells:Array Value) (hv:v.cells = cells) (ht:w.there b o cells.size) (hi:(P.info? ty).map (·.size) = some cells.size) (h1:cells.all (·.oneCell') = true) :
  (storeVar ty ⟨b,o,none⟩ v).run P w = .ok () (w.setCells b o cells.toList):=by
 have:=run_storeCells_cells (P:=P) b o cells.toList 0 w (fun j hj=>by simpa using (ht j (by simpa using hj)).1) (fun j hj=>by simpa using (ht j (by simpa using hj)).2)
  (fun v hv=>(Array.all_eq_true_iff_forall_mem.1 h1) v (by simpa using hv))
 cases hq:P.info? ty with
 | none=>simp [hq] at hi
 | some i =>
  have hs:cells.size = i.size:=by simp [hq] at hi;omega
  simp only [Nat.add_zero] at this;simp [storeVar,sizeOf,typeInfo,hq,hv,hs,this]
theorem yay {w:World} {a:Act} {op:Oper} (ty:TypeId) (x y:Operand) (ho:op.op = .store ty x y) (b o:Nat) (hx:a.eval x = .pointer (some ⟨b,o,none⟩)) (v:Value) (hy:a.eval y = v) (cells:Array Value) (hv:v.cells = cells)
  (ht:w.there b o cells.size) (hi:(P.info? ty).map (·.size) = some cells.size) (h1:cells.all (·.oneCell') = true):(execOp a.eval op).run P w = .ok .skip (w.setCells b o cells.toList):=by
 unfold execOp;simp only [ho,hx,hy,Instr.storeAt,Instr.sureAddr,Sem.run_bind,Sem.run_pure,Result.andThen_ok,yeL w b o ty v cells hv ht hi h1]
end
theorem yaS {w:World} {g:Nat} {t:TypeId} {c:Array Value} (h:Blk w g t c) {o n:Nat} (hn:o + n <= c.size):w.there g o n:=fun j hj =>
 ⟨by rw [h.cell (o + j),jb4 (by omega)];rfl,h.frozen (o + j)⟩
section
variable {P:Program} {ops:Array Oper} {md:Region.Mode} {Q:Exit -> Act -> World -> Prop} {S:World -> Prop}
end
section
variable {P:Program} {ops:Array Oper} {md:Region.Mode} {Q:Exit -> Act -> World -> Prop} {S:World -> Prop}
theorem ycu {i fuel:Nat} {listed:Array Bool} {oi:Oper} {a:Act} {w w':World} (hi:ops[i]? = some oi) (hw:jb6 oi (yielded ops a.tmps) = true) (hd:oi.dst = none) (hrun:(execOp a.eval oi).run P w = .ok .skip w') (hS:S w')
  (h:wpAnyH P md ops Q S fuel (listed.setIfInBounds i true) a w'):wpOp P ops Q i (yfR P ops md Q S fuel listed i) a w:=by
 unfold wpOp;simp only [hi,hw,if_true];refine .inl ?_;unfold Oper.wp;rw [hrun];simp only [Oper.upon,hd,jp];exact ⟨hS,h⟩
theorem ya0 {W0:World} {g:Nat} {t:TypeId} {c0:Array Value} (hb:Blk W0 g t c0) (c:Array Value) {a:Act} {op:Oper} (ty:TypeId) (x y:Operand) (ho:op.op = .store ty x y) (o:Nat) (hx:a.eval x = .pointer (some ⟨g,o,none⟩)) (v:Value) (hy:a.eval y = v) (vs:List Value) (hv:v.cells = vs.toArray)
  (hn:Nat.ble (o + vs.length) c.size = true) (hi:(P.info? ty).map (·.size) = some vs.length) (h1:vs.toArray.all (·.oneCell') = true) (c':Array Value) (hc:putA o vs c = c'):(execOp a.eval op).run P (W0.setRow g c) = .ok .skip (W0.setRow g c'):=by
 have hbc:Blk (W0.setRow g c) g t c:=yjw hb;have:=yay (P:=P) (w:=W0.setRow g c) ty x y ho g o hx v hy vs.toArray hv (yaS hbc (by simpa using jb1 hn)) (by simpa using hi) h1;rw [this];show Result.ok Next.skip ((W0.setRow g c).setCells g o vs) = _;rw [ycF hb,hc]
end
section
variable {P:Program}
theorem yac {ops:Array Oper} {rest:List Oper} {op:Oper} {a:Act} {w w':World} {Q:Exit -> Act -> World -> Prop} (hgd:op.guard = none) (v:Value) (h:(execOp a.eval op).run P w = .ok (.value v) w') (hk:wpList P ops Q rest (a.put op.dst v) w'):wpList P ops Q (op :: rest) a w :=
 wpList_plain hgd fun K hK=>by unfold Oper.wp;rw [h];exact hK _ _ hk
theorem yaz {ops:Array Oper} {rest:List Oper} {op:Oper} {a:Act} {w w':World} {Q:Exit -> Act -> World -> Prop} (hgd:op.guard = none) (hd:op.dst = none) (h:(execOp a.eval op).run P w = .ok .skip w') (hk:wpList P ops Q rest a w'):wpList P ops Q (op :: rest) a w :=
 wpList_plain hgd fun K hK=>by unfold Oper.wp;rw [h];simp only [Oper.upon,hd,jp];exact hK _ _ hk
end

theorem zg {P:Program} {ops:Array Oper} {rest:List Oper} {op:Oper} {a:Act} {w:World} {Q:Exit -> Act -> World -> Prop} (v:Value) (hk:wpList P ops Q rest (a.put op.dst v) w) (hg:op.guard = none:=by rfl) (h:(execOp a.eval op).run P w = .ok (.value v) w:=by go_simp <;> rfl):wpList P ops Q (op :: rest) a w :=
 yac hg v h hk
section
variable {P:Program}
theorem yaf {a:Act} {o:Oper} {W:World} (ty:TypeId) (x:Operand) (ho:o.op = .load ty x) (p:Addr) (hx:a.eval x = .pointer (some p)) (v:Value) (d:TypeDesc) (hu:P.underlying ty = some d) (hd:(match d with | .struct _ | .array _ _=>true | _=>false) = false) (hc:W.cell? p = some v):(execOp a.eval o).run P W = .ok (.value v) W:=by
 unfold execOp;simp only [ho,hx,Instr.loadAt,Instr.sureAddr,Sem.run_bind,Sem.run_pure,Result.andThen_ok,ya8 hu hd hc]
end
theorem yg1 {a W:World} (h:a.grownBy W none):a.grownBy W.drew none:=yab h (yae (show Below W.heap.size W W.drew from ⟨rfl,rfl,rfl,jle _,fun _ _=>rfl⟩)) (by simp)
theorem yaF {W:World} {g h:Nat} {t:TypeId} {cs:Array Value} (hb:Blk W g t cs) (hne:g ≠ h) (i:Nat) (v:Value):Blk (W.setCell ⟨h,i,none⟩ v) g t cs:=by
 have hb':W.heap[g]? = some (.cells cs t (0,0)):=hb;show (W.heap.modify h _)[g]? = _;rw [Array.getElem?_modify,if_neg (fun e=>hne e.symm),hb']
structure TA where
 k:Int:=0
 c:Int:=0
 n:Int:=0
 t0:Int:=0
 t1:Int:=0
 t2:Int:=0
 t3:Int:=0
 p0:Int:=0
 p1:Int:=0
 p2:Int:=0
 p3:Int:=0
 g:Int:=0
 d:ByteArray:=⟨#[]⟩
 v0:Int:=0
 v1:Int:=0
 v2:Int:=0
 v3:Int:=0
 x:ByteArray:=⟨#[]⟩
 pa:Option Addr:=none
 na:Nat:=0
 xa:Nat:=0
 pb:Option Addr:=none
 nb:Nat:=0
 xb:Nat:=0
 y:Int:=0
 r0:Int:=0
 r1:Int:=0
 r2:Int:=0
 r3:Int:=0
 s0:Int:=0
 s1:Int:=0
 s2:Int:=0
 s3:Int:=0
 o:ByteArray:=⟨#[]⟩
 f:ByteArray:=⟨#[]⟩
 m0:Int:=0
 m1:Int:=0
 m2:Int:=0
 m3:Int:=0
 b:Bool:=false
def TA.L (t:TA):Array Value:=txA t.k t.c t.n t.t0 t.t1 t.t2 t.t3 t.p0 t.p1 t.p2 t.p3 t.g t.d t.v0 t.v1 t.v2 t.v3 t.x (.slice t.pa t.na t.xa) (.slice t.pb t.nb t.xb) t.y t.r0 t.r1 t.r2 t.r3 t.s0 t.s1 t.s2 t.s3 t.o t.f t.m0 t.m1 t.m2 t.m3 t.b
theorem TA.one (t:TA):(t.L.all fun x=>x.oneCell') = true:=by unfold TA.L txA;simp [ja2]
def txZ:Array Value:=({}:TA).L
def nmA (t:TA):TA:={ k:=t.k,g:=t.g,d:=t.d,v0:=t.v0,v1:=t.v1,v2:=t.v2,v3:=t.v3,x:=t.x }
def nmD (t:TA) (j:Nat):TA:={ nmA t with o:=bif Nat.blt 0 j then t.o else ⟨#[]⟩,f:=bif Nat.blt 1 j then t.f else ⟨#[]⟩,m0:=bif Nat.blt 2 j then t.m0 else 0,m1:=bif Nat.blt 2 j then t.m1 else 0,m2:=bif Nat.blt 2 j then t.m2 else 0,m3:=bif Nat.blt 2 j then t.m3 else 0,b:=bif Nat.blt 3 j then t.b else false }
def nmB (t:TA) (j:Nat):TA:={ nmA t with c:=bif Nat.blt 0 j then t.c else 0,n:=bif Nat.blt 1 j then t.n else 0,p0:=bif Nat.blt 2 j then t.p0 else 0,p1:=bif Nat.blt 2 j then t.p1 else 0,p2:=bif Nat.blt 2 j then t.p2 else 0,p3:=bif Nat.blt 2 j then t.p3 else 0,y:=bif Nat.blt 3 j then t.y else 0,r0:=bif Nat.blt 4 j then t.r0 else 0,r1:=bif Nat.blt 4 j then t.r1 else 0,r2:=bif Nat.blt 4 j then t.r2 else 0,r3:=bif Nat.blt 4 j then t.r3 else 0,s0:=bif Nat.blt 5 j then t.s0 else 0,s1:=bif Nat.blt 5 j then t.s1 else 0,s2:=bif Nat.blt 5 j then t.s2 else 0,s3:=bif Nat.blt 5 j then t.s3 else 0 }
def nmH (h:Bool) (t u:TA):TA:={ u with pb:=bif h then t.pb else u.pb,nb:=bif h then t.nb else u.nb,xb:=bif h then t.xb else u.xb }
def nmT (h:Bool) (t u:TA):TA:={ u with t0:=bif h then t.t0 else u.t0,t1:=bif h then t.t1 else u.t1,t2:=bif h then t.t2 else u.t2,t3:=bif h then t.t3 else u.t3 }
def nmX (h:Bool) (t u:TA):TA:={ u with pa:=bif h then t.pa else u.pa,na:=bif h then t.na else u.na,xa:=bif h then t.xa else u.xa }
section
variable {P:Program} {ops:Array Oper} {md:Region.Mode} {Q:Exit -> Act -> World -> Prop} {fuel:Nat} {listed:Array Bool} {a:Act} {w:World} {g:Nat} {t:TypeId} {cs:Array Value} {S:World -> Prop} {oi:Oper}
theorem cP (g i d o:Nat) (hi:ops[i]? = some oi) (hS:S w) (h:wpAnyH P md ops Q S fuel (listed.setIfInBounds i true) (a.put (some d) (.pointer (some ⟨g,o,none⟩))) w)
  (hd:oi.dst = some d:=by rfl) (hQ:∀ c a w,Q (.panic c) (a.put oi.dst (.pointer (some ⟨g,o,none⟩))) w -> Q (.panic c) a w:=by exact fun _ _ _ h=>h) (hs:Region.noSelect ops = true:=by kernel_rfl) (hf:Region.free md ops listed i = true:=by kernel_rfl) (hr:(Region.ready md ops listed).contains i = true:=by kernel_rfl) (hw:jb6 oi (yielded ops a.tmps) = true:=by kernel_rfl)
  (hy:∀ W,(execOp a.eval oi).run P W = .ok (.value (.pointer (some ⟨g,o,none⟩))) W:=by intro W;go_simp):wpAnyH P md ops Q S (fuel + 1) listed a w :=
 yf6 (i:=i) (v:=.pointer (some ⟨g,o,none⟩)) (some d) hi hs hf hr hQ hd (Or.inl ⟨hw,fun W _=>hy W⟩) hS h
theorem cL (i d:Nat) (v:Value) (hi:ops[i]? = some oi) (hy:∀ W,S W -> (execOp a.eval oi).run P W = .ok (.value v) W) (hS:S w) (h:wpAnyH P md ops Q S fuel (listed.setIfInBounds i true) (a.put (some d) v) w)
  (hd:oi.dst = some d:=by rfl) (hQ:∀ c a w,Q (.panic c) (a.put oi.dst v) w -> Q (.panic c) a w:=by exact fun _ _ _ h=>h) (hs:Region.noSelect ops = true:=by kernel_rfl) (hf:Region.free md ops listed i = true:=by kernel_rfl) (hr:(Region.ready md ops listed).contains i = true:=by kernel_rfl) (hw:jb6 oi (yielded ops a.tmps) = true:=by kernel_rfl):wpAnyH P md ops Q S (fuel + 1) listed a w :=
 yf6 (i:=i) (v:=v) (some d) hi hs hf hr hQ hd (Or.inl ⟨hw,hy⟩) hS h
theorem cS {W0:World} {g':Nat} {t':TypeId} {c0 c:Array Value} (hb:Blk W0 g' t' c0) (i:Nat) (ty:TypeId) (x y:Operand) (o:Nat) (v:Value) (vs:List Value) (c':Array Value) (hi:ops[i]? = some oi) (ho:oi.op = .store ty x y) (hx:a.eval x = .pointer (some ⟨g',o,none⟩)) (hy:a.eval y = v) (hS:S (W0.setRow g' c')) (h:wpAnyH P md ops Q S fuel (listed.setIfInBounds i true) a (W0.setRow g' c'))
  (hv:v.cells = vs.toArray:=by rfl) (hd:oi.dst = none:=by rfl) (hr:Region.ready md ops listed = [i]:=by kernel_rfl) (hw:jb6 oi (yielded ops a.tmps) = true:=by kernel_rfl) (hn:Nat.ble (o + vs.length) c.size = true:=by kernel_rfl) (hz:(P.info? ty).map (·.size) = some vs.length:=by kernel_rfl) (h1:vs.toArray.all (·.oneCell') = true:=by simp [ja2]) (hc:putA o vs c = c':=by kernel_rfl):wpAnyH P md ops Q S (fuel + 1) listed a (W0.setRow g' c) :=
 yam hr (ycu hi hw hd (ya0 hb c ty x y ho o hx v hy vs hv hn hz h1 c' hc) hS h)
end
structure NmS (w:World) (t u:TA) (g g3:Nat) (W:World):Prop where
 a:Blk W g 42 t.L
 b:Blk W (g + 1) 42 txZ
 c:Blk W g3 42 u.L
 d:w.grownBy W none
 e:w.heap.size = g
 f:g3 = g + 2
theorem NmS.put {w:World} {t u u':TA} {g g3:Nat} {W:World} (h:NmS w t u g g3 W):NmS w t u' g g3 (W.setRow g3 u'.L):=by
 obtain ⟨a,b,c,d,e,f⟩:=h;exact ⟨(jso W g3 g _ (by omega)).trans a,(jso W g3 (g + 1) _ (by omega)).trans b,yaI c,yba d (by omega) _,e,f⟩
theorem yhB (t:TA) (w:World):Calls jq 60 #[.agg t.L] w fun e w'=>e = .returned (.agg (if t.k = 126 then nmD t 4 else nmX (decide (t.k = 1 \/ t.k = 2 \/ t.k = 4)) t (nmT (decide (t.k = 2 \/ t.k = 4)) t (nmH (decide (t.k = 4)) t (nmB t 6)))).L) /\ w.grownBy w' none:=by
 obtain ⟨R,hR⟩:∃ R,(if t.k = 126 then nmD t 4 else nmX (decide (t.k = 1 \/ t.k = 2 \/ t.k = 4)) t (nmT (decide (t.k = 2 \/ t.k = 4)) t (nmH (decide (t.k = 4)) t (nmB t 6)))).L = R:=⟨_,rfl⟩;have HQ:=jh hR;rw [hR];clear hR;have hG:=yaa (yaa (jr w none) (.cells t.L 42)) (.cells txZ 42);have hb1:=(Blk.new w 42 t.L).alloc (.cells txZ 42);have hb2:=Blk.new (w.alloc (.cells t.L 42)) 42 txZ;rw [jsa] at hb2;go_enter Tryz.func60,Tryz.ntmps60
 go_upto_region 1 with (fail)
 change Code.wp _ _ _ _ ((w.alloc (.cells t.L 42)).alloc (.cells txZ 42));obtain ⟨g,hg⟩:∃ g,w.heap.size = g:=⟨_,rfl⟩;have HW:=jh hg;rw [hg] at hb1 hb2 ⊢;clear hg;have hsz:((w.alloc (.cells t.L 42)).alloc (.cells txZ 42)).heap.size = g + 2:=by rw [jsa,jsa,HW.out]
 generalize (w.alloc (.cells t.L 42)).alloc (.cells txZ 42) = w1 at *;have c0:w1.cell? ⟨g,0,none⟩ = some (.int .i64 t.k):=hb1.cell 0;have c11:w1.cell? ⟨g,11,none⟩ = some (.int .u64 t.g):=hb1.cell 11;have c12:w1.cell? ⟨g,12,none⟩ = some (.string t.d):=hb1.cell 12;have c13:w1.cell? ⟨g,13,none⟩ = some (.int .u64 t.v0):=hb1.cell 13;have c14:w1.cell? ⟨g,14,none⟩ = some (.int .u64 t.v1):=hb1.cell 14;have c15:w1.cell? ⟨g,15,none⟩ = some (.int .u64 t.v2):=hb1.cell 15;have c16:w1.cell? ⟨g,16,none⟩ = some (.int .u64 t.v3):=hb1.cell 16;have c17:w1.cell? ⟨g,17,none⟩ = some (.string t.x):=hb1.cell 17;have HB1:=jh (hb1.alloc (.cells (nmA t).L 42));have HB2:=jh (hb2.alloc (.cells (nmA t).L 42));have HB3:=jh (Blk.new w1 42 (nmA t).L);have HG:=jh (yaa hG (.cells (nmA t).L 42));have HSZ:=jh hsz;clear hb1 hb2 hG hsz;refine jwl ?_
 iterate 36 go_step
 refine wp_store_row 42 (.tmp 3) (.tmp 14) rfl w1.heap.size (nmA t).L rfl rfl 42 txZ (Blk.new w1 _ txZ) (by kernel_rfl) rfl (TA.one _) ?_;rw [World.setRow_alloc_new];obtain ⟨g3,hg3⟩:∃ g,w1.heap.size = g:=⟨_,rfl⟩;rw [hg3] at HB3 ⊢;have HNE:=jh (show g3 = g + 2 by rw [<- hg3];exact HSZ.out);clear hg3;generalize w1.alloc (.cells (nmA t).L 42) = w2 at *;clear c0 c11 c12 c13 c14 c15 c16 c17;have c0:w2.cell? ⟨g,0,none⟩ = some (.int .i64 t.k):=HB1.out.cell 0;obtain ⟨K,hK⟩:∃ K,t.k = K:=⟨_,rfl⟩;rw [hK] at c0;have HK:=jh hK;clear hK;by_cases h126:K = 126
 ·subst h126;go_upto_region 3 with (fail)
  refine jwh (S:=fun V=>Blk V g 42 t.L) (by kernel_rfl) ?_;change wpAnyH _ _ _ _ _ _ _ _ w2.drew;have hS0:Blk w2.drew g 42 t.L:=HB1.out;have hU0:Blk w2.drew g3 42 (nmA t).L:=HB3.out;have hT0:Blk w2.drew (g + 1) 42 txZ:=HB2.out;have hg0:=yg1 HG.out;clear c0;generalize w2.drew = u0 at *;refine cP g 0 18 29 rfl hS0 ?_;simp only [jp,jb,jz,js];refine cL 1 19 (.string t.o) rfl (fun W hW=>yaf 9 _ rfl _ rfl _ _ ja9 rfl ((Blk.cell hW 29).trans rfl)) hS0 ?_;simp only [jp,jb,jz,js];refine cP g 2 20 30 rfl hS0 ?_;simp only [jp,jb,jz,js];refine cL 3 21 (.string t.f) rfl (fun W hW=>yaf 9 _ rfl _ rfl _ _ ja9 rfl ((Blk.cell hW 30).trans rfl)) hS0 ?_;simp only [jp,jb,jz,js];refine cP g 4 22 31 rfl hS0 ?_;simp only [jp,jb,jz,js];refine cL 5 23 (.agg #[.int .u64 t.m0,.int .u64 t.m1,.int .u64 t.m2,.int .u64 t.m3]) rfl (fun W hW=>yaA _ rfl rfl ((Blk.cell hW 31).trans rfl) ((Blk.cell hW 32).trans rfl) ((Blk.cell hW 33).trans rfl) ((Blk.cell hW 34).trans rfl)) hS0 ?_;simp only [jp,jb,jz,js];refine cP g 6 24 35 rfl hS0 ?_;simp only [jp,jb,jz,js];refine cL 7 25 (.bool t.b) rfl (fun W hW=>yaf 4 _ rfl _ rfl _ _ Tryz.underlying4 rfl ((Blk.cell hW 35).trans rfl)) hS0 ?_;simp only [jp,jb,jz,js];have hSr:∀ c,Blk (u0.setRow g3 c) g 42 t.L:=fun c=>(jso u0 g3 g c (by have:=HNE.out;omega)).trans hS0;have hself:=setRow_self u0 g3 _ 42 (0,0) hU0;rw [<- hself];clear hself;refine cP g3 8 26 29 rfl (hSr _) ?_;simp only [jp,jb,jz,js];refine cS hU0 9 9 (.tmp 26) (.tmp 19) 29 (.string t.o) [.string t.o] (nmD t 1).L rfl rfl rfl rfl (hSr _) ?_;(try simp only [jp,jb,jz,js]);refine cP g3 10 27 30 rfl (hSr _) ?_;simp only [jp,jb,jz,js];refine cS hU0 11 9 (.tmp 27) (.tmp 21) 30 (.string t.f) [.string t.f] (nmD t 2).L rfl rfl rfl rfl (hSr _) ?_;(try simp only [jp,jb,jz,js]);refine cP g3 12 28 31 rfl (hSr _) ?_;simp only [jp,jb,jz,js];refine cS hU0 13 38 (.tmp 28) (.tmp 23) 31 (.agg #[.int .u64 t.m0,.int .u64 t.m1,.int .u64 t.m2,.int .u64 t.m3]) [.int .u64 t.m0,.int .u64 t.m1,.int .u64 t.m2,.int .u64 t.m3] (nmD t 3).L rfl rfl rfl rfl (hSr _) ?_;(try simp only [jp,jb,jz,js]);refine cP g3 14 29 35 rfl (hSr _) ?_;simp only [jp,jb,jz,js];refine cS hU0 15 4 (.tmp 29) (.tmp 25) 35 (.bool t.b) [.bool t.b] (nmD t 4).L rfl rfl rfl rfl (hSr _) ?_;(try simp only [jp,jb,jz,js]);refine jwd (by kernel_rfl) ?_ _;replace HB1:=jh (hSr (nmD t 4).L);replace HB2:=jh (show Blk (u0.setRow g3 (nmD t 4).L) (g + 1) 42 txZ from (jso u0 g3 (g + 1) _ (by have:=HNE.out;omega)).trans hT0);replace HB3:=jh (yaI (cs':=(nmD t 4).L) hU0);replace HG:=jh (yba (g:=g3) hg0 (by have:=HW.out;have:=HNE.out;omega) (nmD t 4).L);clear hS0 hT0 hU0 hg0 hSr;generalize u0.setRow g3 (nmD t 4).L = w3 at *;go_upto_region 4 with (fail)
  refine jwl ?_;refine wpList_load_row rfl 42 (.tmp 3) rfl g3 rfl 42 (nmD t 4).L (0,0) _ HB3.out ja3 rfl (by kernel_rfl) ?_;simp only [jp,jb,jz,js];refine jsw rfl 42 (.tmp 2) (.tmp 30) rfl (g + 1) (nmD t 4).L rfl rfl 42 txZ HB2.out (by kernel_rfl) rfl (TA.one _) ?_;have HR2:=jh (yaI (cs':=(nmD t 4).L) HB2.out);have HG3:=jh (yba (g:=g + 1) HG.out (by have:=HW.out;omega) (nmD t 4).L);generalize w3.setRow (g + 1) (nmD t 4).L = w9 at *;refine jwn ?_;simp only [jp,jb,jz,js];go_wp2_with fail
  refine jbr (results_cell_row (fn:=Tryz.f60) rfl _ _ _ _ _ _ _ rfl HR2.out ja3 rfl (by kernel_rfl)) rfl ?_;exact ⟨by rw [<- HQ.out];rw [if_pos HK.out],HG3.out⟩
 have d126:decide (K = 126) = false:=decide_eq_false h126;have H126:=jh (show ¬ t.k = 126 by rw [HK.out];exact h126);go_upto_region 5 with (fail)
 refine jwh (S:=fun V=>Blk V g 42 t.L) (by kernel_rfl) ?_;change wpAnyH _ _ _ _ _ _ _ _ w2.drew;have hS0:Blk w2.drew g 42 t.L:=HB1.out;have hU0:Blk w2.drew g3 42 (nmA t).L:=HB3.out;have hT0:Blk w2.drew (g + 1) 42 txZ:=HB2.out;have hg0:=yg1 HG.out;clear c0;generalize w2.drew = u0 at *;refine cP g 0 31 1 rfl hS0 ?_;simp only [jp,jb,jz,js];refine cL 1 32 (.int .u64 t.c) rfl (fun W hW=>yaf 23 _ rfl _ rfl _ _ ja5 rfl ((Blk.cell hW 1).trans rfl)) hS0 ?_;simp only [jp,jb,jz,js];refine cP g 2 33 2 rfl hS0 ?_;simp only [jp,jb,jz,js];refine cL 3 34 (.int .u64 t.n) rfl (fun W hW=>yaf 23 _ rfl _ rfl _ _ ja5 rfl ((Blk.cell hW 2).trans rfl)) hS0 ?_;simp only [jp,jb,jz,js];refine cP g 4 35 7 rfl hS0 ?_;simp only [jp,jb,jz,js];refine cL 5 36 (.agg #[.int .u64 t.p0,.int .u64 t.p1,.int .u64 t.p2,.int .u64 t.p3]) rfl (fun W hW=>yaA _ rfl rfl ((Blk.cell hW 7).trans rfl) ((Blk.cell hW 8).trans rfl) ((Blk.cell hW 9).trans rfl) ((Blk.cell hW 10).trans rfl)) hS0 ?_;simp only [jp,jb,jz,js];refine cP g 6 37 20 rfl hS0 ?_;simp only [jp,jb,jz,js];refine cL 7 38 (.int .u64 t.y) rfl (fun W hW=>yaf 23 _ rfl _ rfl _ _ ja5 rfl ((Blk.cell hW 20).trans rfl)) hS0 ?_;simp only [jp,jb,jz,js];refine cP g 8 39 21 rfl hS0 ?_;simp only [jp,jb,jz,js];refine cL 9 40 (.agg #[.int .u64 t.r0,.int .u64 t.r1,.int .u64 t.r2,.int .u64 t.r3]) rfl (fun W hW=>yaA _ rfl rfl ((Blk.cell hW 21).trans rfl) ((Blk.cell hW 22).trans rfl) ((Blk.cell hW 23).trans rfl) ((Blk.cell hW 24).trans rfl)) hS0 ?_;simp only [jp,jb,jz,js];refine cP g 10 41 25 rfl hS0 ?_;simp only [jp,jb,jz,js];refine cL 11 42 (.agg #[.int .u64 t.s0,.int .u64 t.s1,.int .u64 t.s2,.int .u64 t.s3]) rfl (fun W hW=>yaA _ rfl rfl ((Blk.cell hW 25).trans rfl) ((Blk.cell hW 26).trans rfl) ((Blk.cell hW 27).trans rfl) ((Blk.cell hW 28).trans rfl)) hS0 ?_;simp only [jp,jb,jz,js];have hSr:∀ c,Blk (u0.setRow g3 c) g 42 t.L:=fun c=>(jso u0 g3 g c (by have:=HNE.out;omega)).trans hS0;have hself:=setRow_self u0 g3 _ 42 (0,0) hU0;rw [<- hself];clear hself;refine cP g3 12 43 1 rfl (hSr _) ?_;simp only [jp,jb,jz,js];refine cS hU0 13 23 (.tmp 43) (.tmp 32) 1 (.int .u64 t.c) [.int .u64 t.c] (nmB t 1).L rfl rfl rfl rfl (hSr _) ?_;(try simp only [jp,jb,jz,js]);refine cP g3 14 44 2 rfl (hSr _) ?_;simp only [jp,jb,jz,js];refine cS hU0 15 23 (.tmp 44) (.tmp 34) 2 (.int .u64 t.n) [.int .u64 t.n] (nmB t 2).L rfl rfl rfl rfl (hSr _) ?_;(try simp only [jp,jb,jz,js]);refine cP g3 16 45 7 rfl (hSr _) ?_;simp only [jp,jb,jz,js];refine cS hU0 17 38 (.tmp 45) (.tmp 36) 7 (.agg #[.int .u64 t.p0,.int .u64 t.p1,.int .u64 t.p2,.int .u64 t.p3]) [.int .u64 t.p0,.int .u64 t.p1,.int .u64 t.p2,.int .u64 t.p3] (nmB t 3).L rfl rfl rfl rfl (hSr _) ?_;(try simp only [jp,jb,jz,js]);refine cP g3 18 46 20 rfl (hSr _) ?_;simp only [jp,jb,jz,js];refine cS hU0 19 23 (.tmp 46) (.tmp 38) 20 (.int .u64 t.y) [.int .u64 t.y] (nmB t 4).L rfl rfl rfl rfl (hSr _) ?_;(try simp only [jp,jb,jz,js]);refine cP g3 20 47 21 rfl (hSr _) ?_;simp only [jp,jb,jz,js];refine cS hU0 21 38 (.tmp 47) (.tmp 40) 21 (.agg #[.int .u64 t.r0,.int .u64 t.r1,.int .u64 t.r2,.int .u64 t.r3]) [.int .u64 t.r0,.int .u64 t.r1,.int .u64 t.r2,.int .u64 t.r3] (nmB t 5).L rfl rfl rfl rfl (hSr _) ?_;(try simp only [jp,jb,jz,js]);refine cP g3 22 48 25 rfl (hSr _) ?_;simp only [jp,jb,jz,js];refine cS hU0 23 38 (.tmp 48) (.tmp 42) 25 (.agg #[.int .u64 t.s0,.int .u64 t.s1,.int .u64 t.s2,.int .u64 t.s3]) [.int .u64 t.s0,.int .u64 t.s1,.int .u64 t.s2,.int .u64 t.s3] (nmB t 6).L rfl rfl rfl rfl (hSr _) ?_;(try simp only [jp,jb,jz,js]);refine jwd (by kernel_rfl) ?_ _;replace HB1:=jh (hSr (nmB t 6).L);replace HB2:=jh (show Blk (u0.setRow g3 (nmB t 6).L) (g + 1) 42 txZ from (jso u0 g3 (g + 1) _ (by have:=HNE.out;omega)).trans hT0);replace HB3:=jh (yaI (cs':=(nmB t 6).L) hU0);replace HG:=jh (yba (g:=g3) hg0 (by have:=HW.out;have:=HNE.out;omega) (nmB t 6).L);clear hS0 hT0 hU0 hg0 hSr;generalize u0.setRow g3 (nmB t 6).L = w3 at *;have c0:w3.cell? ⟨g,0,none⟩ = some (.int .i64 K):=by rw [<- HK.out];exact HB1.out.cell 0
 have H:NmS w t (nmB t 6) g g3 w3:=⟨HB1.out,HB2.out,HB3.out,HG.out,HW.out,HNE.out⟩;clear HB1 HB2 HB3 HG;go_upto_region 7 with (fail)
 clear d126;by_cases h4:K = 4
 ·subst h4;clear h126;go_upto_region 10 with (fail)
  refine jwl ?_;refine zg (.pointer (some ⟨g,19,none⟩)) ?_;simp only [jp,jb,jz,js];refine yac rfl (.slice t.pb t.nb t.xb) (yaf 40 _ rfl _ rfl _ _ Tryz.underlying40 rfl ((H.a.cell 19).trans rfl)) ?_;simp only [jp,jb,jz,js];refine zg (.pointer (some ⟨g3,19,none⟩)) ?_;simp only [jp,jb,jz,js];rw [<- setRow_self w3 g3 _ 42 (0,0) H.c];refine yaz rfl rfl (ya0 H.c _ 40 (.tmp 59) (.tmp 58) rfl 19 rfl (.slice t.pb t.nb t.xb) rfl [.slice t.pb t.nb t.xb] rfl (by kernel_rfl) (by kernel_rfl) (by simp [ja2]) (nmH true t (nmB t 6)).L (by kernel_rfl)) ?_;refine jwn ?_;replace H:=H.put (u':=nmH true t (nmB t 6));generalize w3.setRow g3 (nmH true t (nmB t 6)).L = w4 at *;clear c0;go_upto_region 11 with (fail)
  refine jwl ?_;refine zg (.pointer (some ⟨g,3,none⟩)) ?_;simp only [jp,jb,jz,js];refine yac rfl (.agg #[.int .u64 t.t0,.int .u64 t.t1,.int .u64 t.t2,.int .u64 t.t3]) (yaA _ rfl rfl ((H.a.cell 3).trans rfl) ((H.a.cell 4).trans rfl) ((H.a.cell 5).trans rfl) ((H.a.cell 6).trans rfl)) ?_;simp only [jp,jb,jz,js];refine zg (.pointer (some ⟨g3,3,none⟩)) ?_;simp only [jp,jb,jz,js];rw [<- setRow_self w4 g3 _ 42 (0,0) H.c];refine yaz rfl rfl (ya0 H.c _ 38 (.tmp 62) (.tmp 61) rfl 3 rfl (.agg #[.int .u64 t.t0,.int .u64 t.t1,.int .u64 t.t2,.int .u64 t.t3]) rfl [.int .u64 t.t0,.int .u64 t.t1,.int .u64 t.t2,.int .u64 t.t3] rfl (by kernel_rfl) (by kernel_rfl) (by simp [ja2]) (nmT true t (nmH true t (nmB t 6))).L (by kernel_rfl)) ?_;refine jwn ?_;replace H:=H.put (u':=nmT true t (nmH true t (nmB t 6)));generalize w4.setRow g3 (nmT true t (nmH true t (nmB t 6))).L = w5 at *;go_upto_region 12 with (fail)
  refine jwl ?_;refine zg (.pointer (some ⟨g,18,none⟩)) ?_;simp only [jp,jb,jz,js];refine yac rfl (.slice t.pa t.na t.xa) (yaf 39 _ rfl _ rfl _ _ Tryz.underlying39 rfl ((H.a.cell 18).trans rfl)) ?_;simp only [jp,jb,jz,js];refine zg (.pointer (some ⟨g3,18,none⟩)) ?_;simp only [jp,jb,jz,js];rw [<- setRow_self w5 g3 _ 42 (0,0) H.c];refine yaz rfl rfl (ya0 H.c _ 39 (.tmp 65) (.tmp 64) rfl 18 rfl (.slice t.pa t.na t.xa) rfl [.slice t.pa t.na t.xa] rfl (by kernel_rfl) (by kernel_rfl) (by simp [ja2]) (nmX true t (nmT true t (nmH true t (nmB t 6)))).L (by kernel_rfl)) ?_;refine jwn ?_;replace H:=H.put (u':=nmX true t (nmT true t (nmH true t (nmB t 6))));generalize w5.setRow g3 (nmX true t (nmT true t (nmH true t (nmB t 6)))).L = w6 at *;have HB3:=jh H.c;have HB2:=jh H.b;have HG:=jh H.d;clear H;go_upto_region 13 with (fail)
  refine jwl ?_;refine wpList_load_row rfl 42 (.tmp 3) rfl g3 rfl 42 (nmX true t (nmT true t (nmH true t (nmB t 6)))).L (0,0) _ HB3.out ja3 rfl (by kernel_rfl) ?_;simp only [jp,jb,jz,js];refine jsw rfl 42 (.tmp 2) (.tmp 66) rfl (g + 1) (nmX true t (nmT true t (nmH true t (nmB t 6)))).L rfl rfl 42 txZ HB2.out (by kernel_rfl) rfl (TA.one _) ?_;have HR2:=jh (yaI (cs':=(nmX true t (nmT true t (nmH true t (nmB t 6)))).L) HB2.out);have HG3:=jh (yba (g:=g + 1) HG.out (by have:=HW.out;omega) (nmX true t (nmT true t (nmH true t (nmB t 6)))).L);generalize w6.setRow (g + 1) (nmX true t (nmT true t (nmH true t (nmB t 6)))).L = w9 at *;refine jwn ?_;simp only [jp,jb,jz,js];go_wp2_with fail
  refine jbr (results_cell_row (fn:=Tryz.f60) rfl _ _ _ _ _ _ _ rfl HR2.out ja3 rfl (by kernel_rfl)) rfl ?_;exact ⟨by rw [<- HQ.out];rw [if_neg (by rw [HK.out];decide),HK.out];kernel_rfl,HG3.out⟩
 have d4:decide (K = 4) = false:=decide_eq_false h4;by_cases h2:K = 2
 ·subst h2;clear h126 h4;go_upto_region 11 with (fail)
  refine jwl ?_;refine zg (.pointer (some ⟨g,3,none⟩)) ?_;simp only [jp,jb,jz,js];refine yac rfl (.agg #[.int .u64 t.t0,.int .u64 t.t1,.int .u64 t.t2,.int .u64 t.t3]) (yaA _ rfl rfl ((H.a.cell 3).trans rfl) ((H.a.cell 4).trans rfl) ((H.a.cell 5).trans rfl) ((H.a.cell 6).trans rfl)) ?_;simp only [jp,jb,jz,js];refine zg (.pointer (some ⟨g3,3,none⟩)) ?_;simp only [jp,jb,jz,js];rw [<- setRow_self w3 g3 _ 42 (0,0) H.c];refine yaz rfl rfl (ya0 H.c _ 38 (.tmp 62) (.tmp 61) rfl 3 rfl (.agg #[.int .u64 t.t0,.int .u64 t.t1,.int .u64 t.t2,.int .u64 t.t3]) rfl [.int .u64 t.t0,.int .u64 t.t1,.int .u64 t.t2,.int .u64 t.t3] rfl (by kernel_rfl) (by kernel_rfl) (by simp [ja2]) (nmT true t (nmB t 6)).L (by kernel_rfl)) ?_;refine jwn ?_;replace H:=H.put (u':=nmT true t (nmB t 6));generalize w3.setRow g3 (nmT true t (nmB t 6)).L = w4 at *;clear c0;go_upto_region 12 with (fail)
  refine jwl ?_;refine zg (.pointer (some ⟨g,18,none⟩)) ?_;simp only [jp,jb,jz,js];refine yac rfl (.slice t.pa t.na t.xa) (yaf 39 _ rfl _ rfl _ _ Tryz.underlying39 rfl ((H.a.cell 18).trans rfl)) ?_;simp only [jp,jb,jz,js];refine zg (.pointer (some ⟨g3,18,none⟩)) ?_;simp only [jp,jb,jz,js];rw [<- setRow_self w4 g3 _ 42 (0,0) H.c];refine yaz rfl rfl (ya0 H.c _ 39 (.tmp 65) (.tmp 64) rfl 18 rfl (.slice t.pa t.na t.xa) rfl [.slice t.pa t.na t.xa] rfl (by kernel_rfl) (by kernel_rfl) (by simp [ja2]) (nmX true t (nmT true t (nmB t 6))).L (by kernel_rfl)) ?_;refine jwn ?_;replace H:=H.put (u':=nmX true t (nmT true t (nmB t 6)));generalize w4.setRow g3 (nmX true t (nmT true t (nmB t 6))).L = w5 at *;have HB3:=jh H.c;have HB2:=jh H.b;have HG:=jh H.d;clear H;go_upto_region 13 with (fail)
  refine jwl ?_;refine wpList_load_row rfl 42 (.tmp 3) rfl g3 rfl 42 (nmX true t (nmT true t (nmB t 6))).L (0,0) _ HB3.out ja3 rfl (by kernel_rfl) ?_;simp only [jp,jb,jz,js];refine jsw rfl 42 (.tmp 2) (.tmp 66) rfl (g + 1) (nmX true t (nmT true t (nmB t 6))).L rfl rfl 42 txZ HB2.out (by kernel_rfl) rfl (TA.one _) ?_;have HR2:=jh (yaI (cs':=(nmX true t (nmT true t (nmB t 6))).L) HB2.out);have HG3:=jh (yba (g:=g + 1) HG.out (by have:=HW.out;omega) (nmX true t (nmT true t (nmB t 6))).L);generalize w5.setRow (g + 1) (nmX true t (nmT true t (nmB t 6))).L = w9 at *;refine jwn ?_;simp only [jp,jb,jz,js];go_wp2_with fail
  refine jbr (results_cell_row (fn:=Tryz.f60) rfl _ _ _ _ _ _ _ rfl HR2.out ja3 rfl (by kernel_rfl)) rfl ?_;exact ⟨by rw [<- HQ.out];rw [if_neg (by rw [HK.out];decide),HK.out];kernel_rfl,HG3.out⟩
 have d2:decide (K = 2) = false:=decide_eq_false h2;by_cases h1:K = 1
 ·subst h1;clear h126 h4 h2;go_upto_region 12 with (fail)
  refine jwl ?_;refine zg (.pointer (some ⟨g,18,none⟩)) ?_;simp only [jp,jb,jz,js];refine yac rfl (.slice t.pa t.na t.xa) (yaf 39 _ rfl _ rfl _ _ Tryz.underlying39 rfl ((H.a.cell 18).trans rfl)) ?_;simp only [jp,jb,jz,js];refine zg (.pointer (some ⟨g3,18,none⟩)) ?_;simp only [jp,jb,jz,js];rw [<- setRow_self w3 g3 _ 42 (0,0) H.c];refine yaz rfl rfl (ya0 H.c _ 39 (.tmp 65) (.tmp 64) rfl 18 rfl (.slice t.pa t.na t.xa) rfl [.slice t.pa t.na t.xa] rfl (by kernel_rfl) (by kernel_rfl) (by simp [ja2]) (nmX true t (nmB t 6)).L (by kernel_rfl)) ?_;refine jwn ?_;replace H:=H.put (u':=nmX true t (nmB t 6));generalize w3.setRow g3 (nmX true t (nmB t 6)).L = w4 at *;clear c0;have HB3:=jh H.c;have HB2:=jh H.b;have HG:=jh H.d;clear H;go_upto_region 13 with (fail)
  refine jwl ?_;refine wpList_load_row rfl 42 (.tmp 3) rfl g3 rfl 42 (nmX true t (nmB t 6)).L (0,0) _ HB3.out ja3 rfl (by kernel_rfl) ?_;simp only [jp,jb,jz,js];refine jsw rfl 42 (.tmp 2) (.tmp 66) rfl (g + 1) (nmX true t (nmB t 6)).L rfl rfl 42 txZ HB2.out (by kernel_rfl) rfl (TA.one _) ?_;have HR2:=jh (yaI (cs':=(nmX true t (nmB t 6)).L) HB2.out);have HG3:=jh (yba (g:=g + 1) HG.out (by have:=HW.out;omega) (nmX true t (nmB t 6)).L);generalize w4.setRow (g + 1) (nmX true t (nmB t 6)).L = w9 at *;refine jwn ?_;simp only [jp,jb,jz,js];go_wp2_with fail
  refine jbr (results_cell_row (fn:=Tryz.f60) rfl _ _ _ _ _ _ _ rfl HR2.out ja3 rfl (by kernel_rfl)) rfl ?_;exact ⟨by rw [<- HQ.out];rw [if_neg (by rw [HK.out];decide),HK.out];kernel_rfl,HG3.out⟩
 have d1:decide (K = 1) = false:=decide_eq_false h1;have e1:decide (K = 1 \/ K = 2 \/ K = 4) = false:=decide_eq_false (by omega);have e2:decide (K = 2 \/ K = 4) = false:=decide_eq_false (by omega);have E1:=jh e1;have E2:=jh e2;have E4:=jh d4;clear e1 e2 h126;have HB3:=jh H.c;have HB2:=jh H.b;have HG:=jh H.d;clear H;go_upto_region 13 with (fail)
 refine jwl ?_;refine wpList_load_row rfl 42 (.tmp 3) rfl g3 rfl 42 (nmB t 6).L (0,0) _ HB3.out ja3 rfl (by kernel_rfl) ?_;simp only [jp,jb,jz,js];refine jsw rfl 42 (.tmp 2) (.tmp 66) rfl (g + 1) (nmB t 6).L rfl rfl 42 txZ HB2.out (by kernel_rfl) rfl (TA.one _) ?_;have HR2:=jh (yaI (cs':=(nmB t 6).L) HB2.out);have HG3:=jh (yba (g:=g + 1) HG.out (by have:=HW.out;omega) (nmB t 6).L);generalize w3.setRow (g + 1) (nmB t 6).L = w9 at *;refine jwn ?_;simp only [jp,jb,jz,js];go_wp2_with fail
 refine jbr (results_cell_row (fn:=Tryz.f60) rfl _ _ _ _ _ _ _ rfl HR2.out ja3 rfl (by kernel_rfl)) rfl ?_;exact ⟨by rw [<- HQ.out];rw [if_neg H126.out,HK.out,E1.out,E2.out,E4.out];kernel_rfl,HG3.out⟩
theorem ylA {xs ys:List ByteArray} (h:xs.length = ys.length) (hi:∀ i,i < xs.length -> xs.getD i .empty = ys.getD i .empty):xs = ys:=by
 apply List.ext_getElem h;intro i h1 h2;have:=hi i h1
 rwa [jg,jg,je h1,je h2] at this
theorem ykT (B B':Nat) (A A':Option Addr) (n m c d:Nat) (xs ys:List ByteArray) (w:World) (h:Reads w B 1 A n (xs.map ja8)) (h':Reads w B' 1 A' m (ys.map ja8)) (hn:n <= 9223372036854775807) (hm:m <= 9223372036854775807) :
  Calls jq 98 #[.slice A n c,.slice A' m d] w fun e w'=>e = .returned (.bool (decide (xs = ys))) /\ w.grownBy w' none:=by
 have hl:xs.length = n:=by have:=h.1;simpa using this
 have hl':ys.length = m:=by have:=h'.1;simpa using this
 by_cases hnm:n = m
 ·subst hnm;have HL:=jh hl;have HL':=jh hl';have qe:((n:Int) != (n:Int)) = false:=by simp
  clear hl hl';go_enter Tryz.func98,Tryz.ntmps98
  go_wp2_with fail
  clear qe;go_loopw [13] (fun i wr=>∃ k:Nat,i = .int .i64 k /\ k <= n /\ (∃ q,wr = w.drewN q) /\ Hid (∀ i:Nat,i < k -> xs.getD i .empty = ys.getD i .empty)) (fun i _=>n - (intOf i).toNat)
  case atStart=>exact ⟨0,rfl,by omega,⟨0,rfl⟩,jh (by intro i h1;omega)⟩
  case round =>
   obtain ⟨k,rfl,hk,⟨q,rfl⟩,h2⟩:=hrel;have h2':=jh h2.out;by_cases hlt:k < n
   ·obtain ⟨g,off,rfl,hg,hc⟩:=Reads.vals ja8 .empty h hlt;obtain ⟨g',off',rfl,hg',hc'⟩:=Reads.vals ja8 .empty h' hlt;have c0:=hc k hlt;have d0:=hc' k hlt;have q1:(k:Int) < (n:Int):=by omega
    obtain ⟨x,hx⟩:∃ x,xs.getD k .empty = x:=⟨_,rfl⟩;obtain ⟨y,hy⟩:∃ y,ys.getD k .empty = y:=⟨_,rfl⟩;rw [hx] at c0;rw [hy] at d0;have HX:=jh hx;have HY:=jh hy;clear h h' h2 hc hc' hx hy;by_cases hxy:x = y
    ·have heq:(x.toList == y.toList) = true:=by rw [hxy];simp
     have hne:(x.toList != y.toList) = false:=by rw [bne,heq];rfl
     have HE:=jh hxy;clear hxy;go_wp2_with fail
     go_quiet (fail)
     go_wp2_with fail
     refine ⟨⟨k + 1,by go_num,by omega,⟨_,rfl⟩,jh fun i hi=>?_⟩,by simp [intOf];omega⟩;by_cases hik:i = k
     ·rw [hik,HX.out,HY.out,HE.out]
     ·exact h2'.out i (by omega)
    ·have heq:=ygo hxy;have hne:(x.toList != y.toList) = true:=by rw [bne,heq];rfl
     have hf:decide (xs = ys) = false:=decide_eq_false (fun e=>hxy (by rw [<- HX.out,<- HY.out,e]));have HF:=jh hf;clear hxy hf;go_wp2_with fail
     go_quiet (fail)
     go_wp2_with fail
     go_ret
     exact ⟨by rw [HF.out];rfl,yae (ybo (ybo (jc5 _ w) _) _)⟩
   ·have he:xs = ys:=ylA (by rw [HL.out,HL'.out]) fun i hi=>h2'.out i (by have:=HL.out;omega);have HE:=jh he;have q0:(n:Int) <= (k:Int):=by omega
    clear he h2;go_wp2_with fail
    go_ret
    exact ⟨by rw [decide_eq_true HE.out];rfl,yae (ybo (jc5 _ _) _)⟩
 ·have hne:¬ xs = ys:=by rintro rfl;exact hnm (hl.symm.trans hl')
  have HE:=jh hne;have hb:((n:Int) != (m:Int)) = true:=by simp;omega
  clear hne hnm hl hl';go_enter Tryz.func98,Tryz.ntmps98
  go_wp2_with fail
  go_ret
  exact ⟨by rw [decide_eq_false HE.out];rfl,jr _ _⟩
section
variable {P:Program}
theorem yax {W:World} {a:Act} {o:Oper} {ty:TypeId} {x:Operand} {b off:Nat} (ho:o.op = .load ty x) (hx:a.eval x = .pointer (some ⟨b,off,none⟩)) (cs:List Value) (hc:W.rangeAt b off cs) (d:TypeDesc)
  (hu:P.underlying ty = some d) (hd:d.isRow = true) (hi:(P.info? ty).map (·.size) = some cs.length):(execOp a.eval o).run P W = .ok (.value (.agg cs.toArray)) W:=by
 unfold execOp;simp only [ho,hx,Instr.loadAt,Instr.sureAddr,Sem.run_bind,Sem.run_pure,Result.andThen_ok,run_loadVar_mid W b off ty cs d hc hu hd hi]
end
theorem yc4 {W V:World} {B g o:Nat} {cs:List Value} (h:W.rangeAt g o cs) (hV:Below B W V) (hg:g < B):V.rangeAt g o cs:=fun j v hv=>(hV.cell (p:=⟨g,o + j,none⟩) hg).trans (h j v hv)
theorem yjX {a:Act} {o:Oper} {x y:Value} {r:Bool} (h:∀ w,(Op.equalIn 10000 89 x y).run jq w = .ok r w) (W:World) {p q:Operand} {u:TypeId} (ho:o.op = .binOp .neq 89 p q u) (hp:a.eval p = x) (hq:a.eval q = y) {xs ys:Array Value} (hx:x = .agg xs) (hy:y = .agg ys) :
  (execOp a.eval o).run jq W = .ok (.value (.bool (!r))) W:=by
 have hm:jq.eqGuardType jq.depth 89 = false:=by kernel_rfl
 subst hx;subst hy;have h1:=run_eqGuard_agg (P:=jq) W .neq 89 p q xs ys hm;have h2:=run_neq_struct (P:=jq) W 89 xs ys;rw [h W] at h2;unfold execOp;generalize a.eval = ev at *;simp only [ho,hp,hq];generalize eqGuard .neq 89 p q (.agg xs) (.agg ys) = G at *;generalize binOp .neq 89 (.agg xs) (.agg ys) = M at *;simp [go_sem,h1,h2]
theorem yd3 {α:Type} (d:α) {xs ys:List α} (h:xs.length = ys.length) (hi:∀ i,i < xs.length -> xs.getD i d = ys.getD i d):xs = ys:=by
 apply List.ext_getElem h;intro i h1 h2;have:=hi i h1
 rwa [jg,jg,je h1,je h2] at this
def accC (x:AccV) (T:Option Addr) (tc:Nat):Array Value:=#[.string x.addr,.slice T x.keys.length tc]
theorem yj5 (x y:AccV) (B B':Nat) (T T':Option Addr) (tc tc':Nat) (w:World) (h:Reads w B 1 T x.keys.length (x.keys.map ja8)) (h':Reads w B' 1 T' y.keys.length (y.keys.map ja8)) (hB:B <= w.heap.size) (hB':B' <= w.heap.size) (hn:x.keys.length <= 9223372036854775807) (hm:y.keys.length <= 9223372036854775807) :
  Calls jq 97 #[.agg (accC x T tc),.agg (accC y T' tc')] w fun e w'=>e = .returned (.bool (decide (x = y))) /\ w.grownBy w' none:=by
 have hG:=yaa (yaa (jr w none) (.cells (accC x T tc) 82)) (.cells (accC y T' tc') 82);have hb1:=(Blk.new w 82 (accC x T tc)).alloc (.cells (accC y T' tc') 82);have hb2:=Blk.new (w.alloc (.cells (accC x T tc) 82)) 82 (accC y T' tc');rw [jsa] at hb2;have hR:=h.grown hG hB (by simp);have hR':=h'.grown hG hB' (by simp);obtain ⟨xa,xk⟩:=x;obtain ⟨ya,yk⟩:=y;simp only [accC] at *;have hE:decide (AccV.mk xa xk = AccV.mk ya yk) = (decide (xa = ya) && decide (xk = yk)):=by simp
 rw [hE];obtain ⟨s,hs⟩:∃ s,decide (xk = yk) = s:=⟨_,rfl⟩;rw [hs];have HSS:=jh hs;clear hs;obtain ⟨n,hln⟩:∃ n,xk.length = n:=⟨_,rfl⟩;obtain ⟨m,hlm⟩:∃ n,yk.length = n:=⟨_,rfl⟩;rw [hln] at hb1 hb2 hR hR' hG hn ⊢;rw [hlm] at hb1 hb2 hR hR' hG hm ⊢;have HC:=jh (fun V hV hV'=>ykT B B' T T' n m tc tc' xk yk V hV hV' hn hm);have HR:=jh hR;have HR':=jh hR';have HG:=jh hG;clear h h' hB hB' hR hR' hG hE hln hlm hn hm;go_enter Tryz.func97,Tryz.ntmps97
 go_upto_region 1 with (fail)
 obtain ⟨g,hg⟩:∃ g,w.heap.size = g:=⟨_,rfl⟩;rw [hg] at hb1 hb2 ⊢;clear hg;generalize (w.alloc (.cells #[.string xa,.slice T n tc] 82)).alloc (.cells #[.string ya,.slice T' m tc'] 82) = w1 at *;have c0:=hb1.cell 0;have c1:=hb1.cell 1;have d0:=hb2.cell 0;have d1:=hb2.cell 1;simp only [jta,jcz,jcs] at c0 c1 d0 d1;clear hb1 hb2;by_cases ha:xa = ya
 ·subst ha;have q:(xa.toList == xa.toList) = true:=by simp
  go_wp2_with fail
  refine (HC.out _ HR.out HR'.out).mono ?_;rintro e w2 ⟨rfl,hg⟩;have HG:=jh (yab HG.out hg (by simp));rw [HSS.out];clear c0 c1 d0 d1 hg q HSS;go_wp2_with fail
  go_ret
  exact ⟨by simp,HG.out⟩
 ·have q:(xa.toList == ya.toList) = false:=ygo ha;have HA:=jh (decide_eq_false ha);clear ha;go_wp2_with fail
  go_ret
  exact ⟨by rw [HA.out];rfl,HG.out⟩
theorem yj4 (B B':Nat) (A A':Option Addr) (n m c d:Nat) (xs ys:List AccV) (w:World) (h:AccR B w xs A n) (h':AccR B' w ys A' m) (hB:B <= w.heap.size) (hB':B' <= w.heap.size) (hn:n <= 9223372036854775807) (hm:m <= 9223372036854775807) :
  Calls jq 99 #[.slice A n c,.slice A' m d,.func (.func 97) #[] #[]] w fun e w'=>e = .returned (.bool (decide (xs = ys))) /\ w.grownBy w' none:=by
 have hl:=h.1;have hl':=h'.1;by_cases hnm:n = m
 ·subst hnm;have HL:=jh hl;have HL':=jh hl';have HH:=jh h;have HH':=jh h';have HB:=jh hB;have HB':=jh hB';have qe:((n:Int) != (n:Int)) = false:=by simp
  clear hl hl' h h' hB hB';go_enter Tryz.func99,Tryz.ntmps99
  go_wp2_with fail
  clear qe;go_loopw [17] (fun i wr=>∃ k:Nat,i = .int .i64 k /\ k <= n /\ w.grownBy wr none /\ Hid (∀ i:Nat,i < k -> xs.getD i AccV.none_ = ys.getD i AccV.none_)) (fun i _=>n - (intOf i).toNat)
  case atStart=>exact ⟨0,rfl,by omega,jr _ _,jh (by intro i h1;omega)⟩
  case round =>
   obtain ⟨k,rfl,hk,hg,h2⟩:=hrel;have h2':=jh h2.out;have HGG:=jh hg;by_cases hlt:k < n
   ·obtain ⟨g,off,T,tc,x,rfl,hx,_,c0,c1,hT,hTn⟩:=(HH.out.grown hg HB.out).at_ hlt;obtain ⟨g',off',T',tc',y,rfl,hy,_,d0,d1,hT',hTn'⟩:=(HH'.out.grown hg HB'.out).at_ hlt;have q1:(k:Int) < (n:Int):=by omega
    have HX:=jh hx;have HY:=jh hy;have HCALL:=jh (fun (V:World) (hV:wr.grownBy V none)=>yj5 x y B B' T T' tc tc' V (hT.grown hV (jlt HB.out hg.size) (by simp)) (hT'.grown hV (jlt HB'.out hg.size) (by simp)) (jlt (jlt HB.out hg.size) hV.size) (jlt (jlt HB'.out hg.size) hV.size) hTn hTn');clear h2 hx hy hT hT' hTn hTn';obtain ⟨r,hr⟩:∃ r,decide (x = y) = r:=⟨_,rfl⟩;rw [hr] at HCALL;have HRR:=jh hr;clear hr;simp only [accC] at HCALL;have hGa:=yaa (jr wr none) (.cells #[.string x.addr,.slice T x.keys.length tc] 82);have hGb:=yaa hGa (.cells #[.string y.addr,.slice T' y.keys.length tc'] 82);have d0':=hGa.cell d0 (fun h=>by cases h);have d1':=hGa.cell d1 (fun h=>by cases h);go_wp2_with fail
    refine (HCALL.out _ hGb).mono ?_;rintro e w2 ⟨rfl,hg2⟩;have HG2:=jh (yab (yab HGG.out hGb (by simp)) hg2 (by simp));clear c0 c1 d0 d1 hg2 HCALL hGa hGb d0' d1' hg;cases r with
    | true =>
     go_wp2_with fail
     refine ⟨⟨k + 1,by go_num,by omega,HG2.out,jh fun i hi=>?_⟩,by simp [intOf];omega⟩;by_cases hik:i = k
     ·rw [hik,HX.out,HY.out];exact of_decide_eq_true HRR.out
     ·exact h2'.out i (by omega)
    | false =>
     go_wp2_with fail
     go_ret
     refine ⟨?_,HG2.out⟩;rw [show decide (xs = ys) = false from decide_eq_false (fun e=>of_decide_eq_false HRR.out (by rw [<- HX.out,<- HY.out,e]))];rfl
   ·have he:xs = ys:=yd3 AccV.none_ (by rw [HL.out,HL'.out]) fun i hi=>h2'.out i (by have:=HL.out;omega);have HE:=jh he;have q0:(n:Int) <= (k:Int):=by omega
    clear he h2 hg;go_wp2_with fail
    go_ret
    exact ⟨by rw [decide_eq_true HE.out];rfl,HGG.out⟩
 ·have hne:¬ xs = ys:=by rintro rfl;exact hnm (hl.symm.trans hl')
  have HE:=jh hne;have hb:((n:Int) != (m:Int)) = true:=by simp;omega
  clear hne hnm hl hl' h h' hB hB';go_enter Tryz.func99,Tryz.ntmps99
  go_wp2_with fail
  go_ret
  exact ⟨by rw [decide_eq_false HE.out];rfl,jr _ _⟩
theorem yj1 (B B':Nat) (A A':Option Addr) (n m c d:Nat) (xs ys:List AutV) (w:World) (h:AutR B w xs A n) (h':AutR B' w ys A' m) (hB:B <= w.heap.size) (hB':B' <= w.heap.size) (hn:n <= 9223372036854775807) (hm:m <= 9223372036854775807) (ox:∀ x ∈ xs,x.Ok) (oy:∀ y ∈ ys,y.Ok) :
  Calls jq 100 #[.slice A n c,.slice A' m d] w fun e w'=>e = .returned (.bool (decide (xs = ys))) /\ w.grownBy w' none:=by
 have hl:=h.1;have hl':=h'.1;by_cases hnm:n = m
 ·subst hnm;have HL:=jh hl;have HL':=jh hl';have HH:=jh h;have HH':=jh h';have HB:=jh hB;have HB':=jh hB';have HOX:=jh ox;have HOY:=jh oy;have qe:((n:Int) != (n:Int)) = false:=by simp
  clear hl hl' h h' hB hB' ox oy;go_enter Tryz.func100,Tryz.ntmps100
  go_wp2_with fail
  clear qe;go_loopw [13] (fun i wr=>∃ k:Nat,i = .int .i64 k /\ k <= n /\ w.grownBy wr none /\ Hid (∀ i:Nat,i < k -> xs.getD i AutV.none_ = ys.getD i AutV.none_)) (fun i _=>n - (intOf i).toNat)
  case atStart=>exact ⟨0,rfl,by omega,jr _ _,jh (by intro i h1;omega)⟩
  case round =>
   obtain ⟨k,rfl,hk,hg,h2⟩:=hrel;have h2':=jh h2.out;have HGG:=jh hg;by_cases hlt:k < n
   ·obtain ⟨g,off,x,rfl,hx,mx,hcx⟩:=(HH.out.grown hg).at_ hlt;obtain ⟨g',off',y,rfl,hy,my,hcy⟩:=(HH'.out.grown hg).at_ hlt;have lg:g < wr.heap.size:=jd0 wr _ (hcx 0 _ rfl);have lg':g' < wr.heap.size:=jd0 wr _ (hcy 0 _ rfl);have q1:(k:Int) < (n:Int):=by omega
    have q2:(0:Int) <= (k:Int):=by omega
    have HX:=jh hx;have HY:=jh hy;have HEQ:=jh (you (HOX.out x mx) (HOY.out y my));have HCX:=jh hcx;have HCY:=jh hcy;rw [ymT] at HEQ;obtain ⟨r,hr⟩:∃ r,decide (x = y) = r:=⟨_,rfl⟩;rw [hr] at HEQ;have HRR:=jh hr;clear h2 hx hy hr hcx hcy mx my hg;go_upto_region 6 with (fail)
    have hC0:(fun V=>Below wr.heap.size wr V) wr.drew:=⟨rfl,rfl,rfl,jle _,fun _ _=>rfl⟩;refine yaC (fun V=>Below wr.heap.size wr V) (by kernel_rfl) (by kernel_rfl) hC0 ?_;have hcc:=ycN hC0;(try simp only [jp])
    (repeat go_big_quiet_step (fail))
    refine yad rfl (.agg (autL x).toArray) (fun V hV=>yax rfl rfl (autL x) (yc4 HCX.out hV lg) _ Tryz.underlying89 rfl (by kernel_rfl)) ?_;simp only [jp,jb,jz,js]
    (repeat go_big_quiet_step (fail))
    refine yad rfl (.agg (autL y).toArray) (fun V hV=>yax rfl rfl (autL y) (yc4 HCY.out hV lg') _ Tryz.underlying89 rfl (by kernel_rfl)) ?_;simp only [jp,jb,jz,js];refine yad rfl (.bool (!r)) (fun V hV=>yjX HEQ.out V rfl rfl rfl rfl rfl) ?_;simp only [jp,jb,jz,js];refine wpQuiet_nil ?_;intro w3 hw3;have HG2:=jh (yab HGG.out (yae hw3) (by simp));clear hcc hC0 hw3 HCX HCY lg lg';cases r with
    | true =>
     go_wp2_with fail
     refine ⟨⟨k + 1,by go_num,by omega,HG2.out,jh fun i hi=>?_⟩,by simp [intOf];omega⟩;by_cases hik:i = k
     ·rw [hik,HX.out,HY.out];exact of_decide_eq_true HRR.out
     ·exact h2'.out i (by omega)
    | false =>
     go_wp2_with fail
     go_ret
     refine ⟨?_,HG2.out⟩;rw [show decide (xs = ys) = false from decide_eq_false (fun e=>of_decide_eq_false HRR.out (by rw [<- HX.out,<- HY.out,e]))];rfl
   ·have he:xs = ys:=yd3 AutV.none_ (by rw [HL.out,HL'.out]) fun i hi=>h2'.out i (by have:=HL.out;omega);have HE:=jh he;have q0:(n:Int) <= (k:Int):=by omega
    clear he h2 hg;go_wp2_with fail
    go_ret
    exact ⟨by rw [decide_eq_true HE.out];rfl,HGG.out⟩
 ·have hne:¬ xs = ys:=by rintro rfl;exact hnm (hl.symm.trans hl')
  have HE:=jh hne;have hb:((n:Int) != (m:Int)) = true:=by simp;omega
  clear hne hnm hl hl' h h' hB hB';go_enter Tryz.func100,Tryz.ntmps100
  go_wp2_with fail
  go_ret
  exact ⟨by rw [decide_eq_false HE.out];rfl,jr _ _⟩
theorem yiC (a b:TxV) (B B':Nat) (sa sb sa' sb':Value) (w:World) (ha:TxIn B w a sa sb) (hb:TxIn B' w b sa' sb') (hB:B <= w.heap.size) (hB':B' <= w.heap.size) (oa:a.Ok) (ob:b.Ok) :
  Calls jq 59 #[.agg (txC a sa sb),.agg (txC b sa' sb')] w fun e w'=>e = .returned (.bool (decide (a = b))) /\ w.grownBy w' none:=by
 have hG:=yaa (yaa (jr w none) (.cells (txC a sa sb) 42)) (.cells (txC b sa' sb') 42);have hb1:=(Blk.new w 42 (txC a sa sb)).alloc (.cells (txC b sa' sb') 42);have hb2:=Blk.new (w.alloc (.cells (txC a sa sb) 42)) 42 (txC b sa' sb');rw [jsa] at hb2;have hA:=ha.grown hG hB;have hA':=hb.grown hG hB';have hS:=jlt hB hG.size;have hS':=jlt hB' hG.size;obtain ⟨⟨p,c,rfl,acc⟩,⟨p',c',rfl,aut⟩,la,lb⟩:=hA;obtain ⟨⟨q,d,rfl,acc'⟩,⟨q',d',rfl,aut'⟩,la',lb'⟩:=hA';rw [<- ynn a b];obtain ⟨r1,hr1⟩:∃ r,decide (a.acc = b.acc) = r:=⟨_,rfl⟩;obtain ⟨r2,hr2⟩:∃ r,decide (a.auths = b.auths) = r:=⟨_,rfl⟩;obtain ⟨R,hR⟩:∃ R,ylF a b = R:=⟨_,rfl⟩;rw [hr1,hr2,hR];have HR1:=jh hr1;have HR2:=jh hr2;have HO:=jh (fun V=>yfl a (.slice p a.acc.length c) (.slice p' a.auths.length c') V);have HO':=jh (fun V=>yfl b (.slice q b.acc.length d) (.slice q' b.auths.length d') V);have HEQ:=jh (yoR oa ob);rw [hR] at HEQ;clear hr1 hr2 hR;generalize hca:txC a (.slice p a.acc.length c) (.slice p' a.auths.length c') = ca at *;generalize hcb:txC b (.slice q b.acc.length d) (.slice q' b.auths.length d') = cb at *;have z1:ca[18]? = some (.slice p a.acc.length c):=by rw [<- hca];rfl
 have z2:ca[19]? = some (.slice p' a.auths.length c'):=by rw [<- hca];rfl
 have z3:cb[18]? = some (.slice q b.acc.length d):=by rw [<- hcb];rfl
 have z4:cb[19]? = some (.slice q' b.auths.length d'):=by rw [<- hcb];rfl
 have si:ca.size = 36:=by rw [<- hca];rfl
 have sj:cb.size = 36:=by rw [<- hcb];rfl
 have HACC:=jh acc;have HACC':=jh acc';have HAUT:=jh aut;have HAUT':=jh aut';have HSI:=jh hS;have HSJ:=jh hS';have HLA:=jh la;have HLA':=jh la';have HLB:=jh lb;have HLB':=jh lb';have HOA:=jh oa.auths;have HOB:=jh ob.auths;have HSZ:=jh si;have HSZ':=jh sj;have HG:=jh hG;clear hG ha hb hB hB' hS hS' acc acc' aut aut' la la' lb lb' oa ob hca hcb si sj;go_enter Tryz.func59,Tryz.ntmps59
 go_upto_region 1 with (fail)
 obtain ⟨g,hg⟩:∃ g,w.heap.size = g:=⟨_,rfl⟩;rw [hg] at hb1 hb2 ⊢;clear hg;generalize (w.alloc (.cells ca 42)).alloc (.cells cb 42) = w1 at *;have c18:=(hb1.cell 18).trans z1;have c19:=(hb1.cell 19).trans z2;have d18:=(hb2.cell 18).trans z3;have d19:=(hb2.cell 19).trans z4;have HB1:=jh hb1;have HB2:=jh hb2;clear hb1 hb2 z1 z2 z3 z4;go_wp2_with fail
 refine (yj4 B B' p q _ _ c d a.acc b.acc _ HACC.out HACC'.out HSI.out HSJ.out HLA.out HLA'.out).mono ?_;rintro e w2 ⟨rfl,hg2⟩;have HG:=jh (yab HG.out hg2 (by simp));have HB1:=jh (HB1.out.grown hg2 (by simp));have HB2:=jh (HB2.out.grown hg2 (by simp));have HAUT:=jh (HAUT.out.grown hg2);have HAUT':=jh (HAUT'.out.grown hg2);have HSI:=jh (jlt HSI.out hg2.size);have HSJ:=jh (jlt HSJ.out hg2.size);replace c19:=hg2.cell c19 (by simp);replace d19:=hg2.cell d19 (by simp);clear c18 d18 hg2 HACC HACC';rw [HR1.out];clear HR1;cases r1 with
 | false =>
  go_wp2_with fail
  go_ret
  exact ⟨by simp,HG.out⟩
 | true =>
 go_wp2_with fail
 refine (yj1 B B' p' q' _ _ c' d' a.auths b.auths _ HAUT.out HAUT'.out HSI.out HSJ.out HLB.out HLB'.out HOA.out HOB.out).mono ?_;rintro e w3 ⟨rfl,hg3⟩;have HG:=jh (yab HG.out hg3 (by simp));have HB1:=jh (HB1.out.grown hg3 (by simp));have HB2:=jh (HB2.out.grown hg3 (by simp));clear c19 d19 hg3 HAUT HAUT' HSI HSJ;rw [HR2.out];clear HR2;cases r2 with
 | false =>
  go_wp2_with fail
  go_ret
  exact ⟨by simp,HG.out⟩
 | true =>
 obtain ⟨ra,hra⟩:∃ r,yky a = r:=⟨_,rfl⟩;obtain ⟨rb,hrb⟩:∃ r,yky b = r:=⟨_,rfl⟩;rw [hra] at HO HEQ;rw [hrb] at HO' HEQ;clear hra hrb;go_upto_region 5 with (fail)
 have l1:=HB1.out.lt;have l2:=HB2.out.lt;have hC0:(fun V=>Below w3.heap.size w3 V) w3.drew:=⟨rfl,rfl,rfl,jle _,fun _ _=>rfl⟩;refine yaC (fun V=>Below w3.heap.size w3 V) (by kernel_rfl) (by kernel_rfl) hC0 ?_;have hcc:=ycN hC0;(try simp only [jp])
 (repeat go_big_quiet_step (fail))
 refine yad rfl (.agg ca) (fun V hV=>yaq rfl rfl 42 ca _ (HB1.out.below hV l1) ja3 rfl ((show (jq.info? 42).map (·.size) = some 36 by kernel_rfl).trans (congrArg some HSZ.out.symm))) ?_;simp only [jp,jb,jz,js];refine ybw (.agg ra) 101 #[.agg ca] rfl (fun V=>ycL _ (.tmp 22) (.tmp 23) _ rfl rfl _ rfl (jeo Tryz.func101 (by kernel_rfl) rfl _ _)) (fun V hV=>HO.out V) ?_;simp only [jp,jb,jz,js]
 (repeat go_big_quiet_step (fail))
 refine yad rfl (.agg cb) (fun V hV=>yaq rfl rfl 42 cb _ (HB2.out.below hV l2) ja3 rfl ((show (jq.info? 42).map (·.size) = some 36 by kernel_rfl).trans (congrArg some HSZ'.out.symm))) ?_;simp only [jp,jb,jz,js];refine ybw (.agg rb) 101 #[.agg cb] rfl (fun V=>ycL _ (.tmp 25) (.tmp 26) _ rfl rfl _ rfl (jeo Tryz.func101 (by kernel_rfl) rfl _ _)) (fun V hV=>HO'.out V) ?_;simp only [jp,jb,jz,js];refine yad rfl (.bool R) (fun V hV=>ynS HEQ.out V rfl rfl rfl rfl rfl) ?_;simp only [jp,jb,jz,js]
 (repeat go_big_quiet_step (fail))
 refine wpQuiet_nil ?_;intro w4 hw4;have HG:=jh (yab HG.out (yae hw4) (by simp));clear hcc hC0 hw4;go_wp2_with fail
 go_ret
 exact ⟨by simp,HG.out⟩
section
variable {P:Program} {ops:Array Oper} {Q:Exit -> Act -> World -> Prop} {md:Region.Mode} {S:Bool -> World -> Prop} {s:Nat}
def ycC (P:Program) (md:Region.Mode) (ops:Array Oper) (Q:Exit -> Act -> World -> Prop) (S:Bool -> World -> Prop) (s:Nat):Nat -> Array Bool -> Act -> World -> Prop
 | 0,listed,a,w=>Region.ready md ops listed = [] /\ Q .normal a w
 | fuel + 1,listed,a,w =>
  (Region.ready md ops listed = [] -> Q .normal a w) /\
  ∀ i ∈ Region.ready md ops listed,wpOp P ops Q i (fun a' w'=>S ((listed.setIfInBounds i true).getD s false) w' /\ ycC P md ops Q S s fuel (listed.setIfInBounds i true) a' w') a w
theorem yge:∀ (fuel:Nat) (listed:Array Bool) (a:Act) (w:World),ycC P md ops Q S s fuel listed a w -> wpAny P md ops Q fuel listed a w
 | 0,_,_,_,h=>h
 | fuel + 1,_,_,_,h=>⟨h.1,fun i hi=>wpOp_mono (fun a' w' h'=>yge fuel _ a' w' h'.2) (h.2 i hi)⟩
theorem ydi {listed:Array Bool} {i:Nat} (h:i ≠ s):(listed.setIfInBounds i true).getD s false = listed.getD s false:=by
 simp [Array.getElem?_setIfInBounds_ne h]
theorem yh0 {i:Nat} {oi:Oper} {v:Value} (hi:ops[i]? = some oi) (hsel:∀ (j:Nat) (o:Oper) cs b,ops[j]? = some o -> o.op ≠ .select cs b)
  (hQ:∀ c a w,Q (.panic c) (a.put oi.dst v) w -> Q (.panic c) a w) (his:i ≠ s) (hdep:∀ os,ops[s]? = some os -> ∃ e ∈ os.after,Region.binds md e = true /\ e.on = i) :
  ∀ (fuel:Nat) (listed:Array Bool) (a:Act) (w:World),
   (∀ j oj,ops[j]? = some oj -> j ≠ i -> listed.getD j true = false -> (∀ e ∈ oj.after,Region.binds md e = true -> e.on ≠ i) -> oi.apart ops oj = true) ->
   i ∈ Region.ready md ops listed -> YieldsIf P ops (S false) oi v a -> listed.getD s false = false -> S false w ->
   ycC P md ops Q S s fuel (listed.setIfInBounds i true) (a.put oi.dst v) w -> ycC P md ops Q S s (fuel + 1) listed a w:=by
 have hjs:∀ (listed:Array Bool),i ∈ Region.ready md ops listed -> s ∉ Region.ready md ops listed:=by
  intro listed hr hs;obtain ⟨_,os,hos,hall⟩:=mem_ready.1 hs;obtain ⟨e,he,hb,hon⟩:=hdep os hos;have h1:=hall e he hb;have h0:=(mem_ready.1 hr).1;rw [hon] at h1;rcases Nat.lt_or_ge i listed.size with h' | h'
  ·simp [h'] at h0 h1;rw [h0] at h1;cases h1
  ·simp [jc8 h'] at h1
 intro fuel
 induction fuel with
 | zero =>
  intro listed a w hfree hr hy hst hS H;refine ⟨fun h=>(by rw [h] at hr;cases hr),fun j hj=>?_⟩;by_cases hji:j = i
  ·subst hji;exact hy.wpOp hi hS ⟨by rw [ydi his,hst];exact hS,H⟩
  ·have:=ready_mono hj hji;rw [H.1] at this;cases this
 | succ fuel ih =>
  intro listed a w hfree hr hy hst hS H;refine ⟨fun h=>(by rw [h] at hr;cases hr),fun j hj=>?_⟩;by_cases hji:j = i
  ·subst hji;exact hy.wpOp hi hS ⟨by rw [ydi his,hst];exact hS,H⟩
  ·have hjs':j ≠ s:=fun e=>hjs listed hr (e ▸ hj);have h1:=H.2 j (ready_mono hj hji);obtain ⟨hjun,oj,hoj,hall⟩:=mem_ready.1 hj
   have hnot:∀ e ∈ oj.after,Region.binds md e = true -> e.on ≠ i:=fun e he hb heq=>by
    have h1:=hall e he hb;have h0:=(mem_ready.1 hr).1;rw [heq] at h1;rcases Nat.lt_or_ge i listed.size with h' | h'
    ·simp [h'] at h0 h1;rw [h0] at h1;cases h1
    ·simp [jc8 h'] at h1
   have h2:=wpOp_putIf hoj (hfree j oj hoj hji hjun hnot) (fun cs b=>hsel i oi cs b hi) (fun cs b=>hsel j oj cs b hoj) hQ hy h1
   have hfree':∀ k ok,ops[k]? = some ok -> k ≠ i -> (listed.setIfInBounds j true).getD k true = false ->
     (∀ e ∈ ok.after,Region.binds md e = true -> e.on ≠ i) -> oi.apart ops ok = true:=fun k ok hk hki hun hno=>by
    refine hfree k ok hk hki ?_ hno;by_cases hjk:j = k
    ·subst hjk;exact hjun
    ·rw [getD_set_ne true hjk] at hun;exact hun
   have hst':(listed.setIfInBounds j true).getD s false = false:=by rw [ydi hjs',hst]
   have hst2:((listed.setIfInBounds i true).setIfInBounds j true).getD s false = false:=by rw [ydi hjs',ydi his,hst]
   refine wpOp_mono (fun a' w' h3=>⟨by rw [hst'];have:=h3.2.1;rwa [hst2] at this,ih (listed.setIfInBounds j true) a' w' hfree' (ready_mono hr (Ne.symm hji)) h3.1 hst' (by have:=h3.2.1;rwa [hst2] at this) ?_⟩) h2;rw [Array.setIfInBounds_comm _ _ hji];exact h3.2.2
abbrev yhy (P:Program) (ops:Array Oper) (md:Region.Mode) (Q:Exit -> Act -> World -> Prop) (S:Bool -> World -> Prop) (s:Nat) (fuel:Nat) (listed:Array Bool) (i:Nat):Act -> World -> Prop:=fun a' w'=>S ((listed.setIfInBounds i true).getD s false) w' /\ ycC P md ops Q S s fuel (listed.setIfInBounds i true) a' w'
theorem ypv {i:Nat} {oi:Oper} {v:Value} {fuel:Nat} {listed:Array Bool} {a:Act} {w:World} (d:Option Tmp) (hi:ops[i]? = some oi)
  (hs:Region.noSelect ops = true) (hf:Region.free md ops listed i = true) (hr:(Region.ready md ops listed).contains i = true)
  (hdep:((ops[s]?).map fun o=>o.after.any fun e=>Region.binds md e && e.on == i).getD false = true) (his:(i == s) = false) (hst:listed.getD s false = false)
  (hQ:∀ c a w,Q (.panic c) (a.put oi.dst v) w -> Q (.panic c) a w) (hd:oi.dst = d) (hy:YieldsIf P ops (S false) oi v a) (hS:S false w)
  (h:ycC P md ops Q S s fuel (listed.setIfInBounds i true) (a.put d v) w):ycC P md ops Q S s (fuel + 1) listed a w:=by
 subst hd;refine yh0 hi (Region.noSelect_spec hs) hQ (by simpa using his) (fun os hos=>?_) fuel listed a w (Region.free_spec hi hf) (by simpa using hr) hy hst hS h;rw [hos] at hdep;simp only [Option.map_some,Option.getD_some] at hdep;rw [<- Array.any_toList,List.any_eq_true] at hdep;obtain ⟨e,he,h2⟩:=hdep;simp only [Bool.and_eq_true,beq_iff_eq] at h2;exact ⟨e,by simpa using he,h2.1,h2.2⟩
theorem zf (i:Nat) (v:Value) (d:Option Tmp) {oi:Oper} {fuel:Nat} {listed:Array Bool} {a:Act} {w:World} (hi:ops[i]? = some oi) (hy:∀ W,S false W -> (execOp a.eval oi).run P W = .ok (.value v) W) (hS:S false w)
 (h:ycC P md ops Q S s fuel (listed.setIfInBounds i true) (a.put d v) w) (hs:Region.noSelect ops = true:=by kernel_rfl) (hf:Region.free md ops listed i = true:=by kernel_rfl) (hr:(Region.ready md ops listed).contains i = true:=by kernel_rfl)
 (hdep:((ops[s]?).map fun o=>o.after.any fun e=>Region.binds md e && e.on == i).getD false = true:=by kernel_rfl) (his:(i == s) = false:=by kernel_rfl) (hst:listed.getD s false = false:=by kernel_rfl)
 (hQ:∀ c a w,Q (.panic c) (a.put oi.dst v) w -> Q (.panic c) a w:=by exact fun _ _ _ h=>h) (hd:oi.dst = d:=by rfl) (hw:jb6 oi (yielded ops a.tmps) = true:=by rfl):ycC P md ops Q S s (fuel + 1) listed a w :=
 ypv d hi hs hf hr hdep his hst hQ hd (Or.inl ⟨hw,hy⟩) hS h
theorem yb6 {i fuel:Nat} {listed:Array Bool} {a:Act} {w:World} (hr:Region.ready md ops listed = [i]) (h:wpOp P ops Q i (yhy P ops md Q S s fuel listed i) a w):ycC P md ops Q S s (fuel + 1) listed a w :=
 ⟨fun h0=>(by rw [hr] at h0;cases h0),by
  rw [hr];intro j hj;obtain rfl:j = i:=by simpa using hj
  exact h⟩
theorem ybs (d:Option Tmp) {i fuel:Nat} {listed:Array Bool} {oi:Oper} {a:Act} {w w':World} (hi:ops[i]? = some oi) (hw:jb6 oi (yielded ops a.tmps) = true) (v:Value) (hrun:(execOp a.eval oi).run P w = .ok (.value v) w') (hd:oi.dst = d) (b:Bool) (hb:(listed.setIfInBounds i true).getD s false = b) (hS:S b w')
  (h:ycC P md ops Q S s fuel (listed.setIfInBounds i true) (a.put d v) w'):wpOp P ops Q i (yhy P ops md Q S s fuel listed i) a w:=by
 subst hd;subst hb;unfold wpOp;simp only [hi,hw,if_true];refine .inl ?_;unfold Oper.wp;rw [hrun];exact ⟨hS,h⟩
theorem ycJ (d:Option Tmp) {i fuel:Nat} {listed:Array Bool} {oi:Oper} {a:Act} {w:World} (hi:ops[i]? = some oi) (hw:jb6 oi (yielded ops a.tmps) = true) (f:FuncId) (args:Array Value) (hrun:(execOp a.eval oi).run P w = .ok (.enter f args) w) (hd:oi.dst = d) (b:Bool) (hb:(listed.setIfInBounds i true).getD s false = b)
  (h:Calls P f args w fun e w'=>∃ v,e = .returned v /\ S b w' /\ ycC P md ops Q S s fuel (listed.setIfInBounds i true) (a.put d v) w'):wpOp P ops Q i (yhy P ops md Q S s fuel listed i) a w:=by
 subst hd;subst hb;unfold wpOp;simp only [hi,hw,if_true];refine .inl ?_;unfold Oper.wp;rw [hrun];refine h.mono fun e w' he=>?_;obtain ⟨v,rfl,hS,h⟩:=he;exact ⟨hS,h⟩
theorem ygA {i fuel:Nat} {listed:Array Bool} {oi:Oper} {a:Act} {w w':World} (hi:ops[i]? = some oi) (hw:jb6 oi (yielded ops a.tmps) = true) (hd:oi.dst = none) (hrun:(execOp a.eval oi).run P w = .ok .skip w') (b:Bool) (hb:(listed.setIfInBounds i true).getD s false = b) (hS:S b w')
  (h:ycC P md ops Q S s fuel (listed.setIfInBounds i true) a w'):wpOp P ops Q i (yhy P ops md Q S s fuel listed i) a w:=by
 subst hb;unfold wpOp;simp only [hi,hw,if_true];refine .inl ?_;unfold Oper.wp;rw [hrun];simp only [Oper.upon,hd,jp];exact ⟨hS,h⟩
theorem ygB {listed:Array Bool} {a:Act} {w:World} (hr:Region.ready md ops listed = []) (h:Q .normal a w):∀ fuel,ycC P md ops Q S s fuel listed a w
 | 0=>⟨hr,h⟩
 | _ + 1=>⟨fun _=>h,by rw [hr];simp⟩
theorem yci {id:Nat} {a:Act} {w:World} (s:Nat) (S:Bool -> World -> Prop) (hm:P.follows .mixedOrders = true)
  (h:ycC P .any ops Q S s ops.size (je4 ops.size false) a w.drew):(Code.region id ops true).wp P Q a w :=
 wp_region_any hm (yge _ _ _ _ h)
end
def ycQ (l:Bool) (s:ByteArray):Int:=if l then 2 else ybT s.data.toList
def yaE (l:Bool) (s:ByteArray) (q:Nat):Nat:=if l then 0 else ydR s.data.toList q
theorem yiZ (l:Bool) (s:ByteArray) (sv:Value) (hs:s.size <= 9223372036854775807) (w:World) :
  Calls jq 89 #[.agg #[.bool l,.string s,sv]] w fun e w'=>e = .returned (.tuple #[.agg #[.int .u64 (yaE l s 0:Nat),.int .u64 (yaE l s 1:Nat),.int .u64 (yaE l s 2:Nat),.int .u64 (yaE l s 3:Nat)],.int .i64 (ycQ l s)]) /\ w.grownBy w' none:=by
 have ho:=fun V=>yk5 l s sv (ybT s.data.toList) (yaE l s 0) (yaE l s 1) (yaE l s 2) (yaE l s 3) (fun h=>by
   have key:∀ q,yaE l s q = 0:=fun q=>by
    unfold yaE;rcases h with h | h
    ·split
     ·rfl
     ·exact if_neg h
    ·rw [h];rfl
   exact ⟨key 0,key 1,key 2,key 3⟩) (fun h W=>by
   have:=ylP s hs W;subst h;exact this) V
 rw [show (if l then (2:Int) else ybT s.data.toList) = ycQ l s from rfl] at ho;have HO:=jh ho;clear ho;generalize yaE l s 0 = a0 at *;generalize yaE l s 1 = a1 at *;generalize yaE l s 2 = a2 at *;generalize yaE l s 3 = a3 at *;generalize ycQ l s = E at *;have hB:=(Blk.new w 106 #[.bool l,.string s,sv]).alloc (.cells wZ 38);have hR:=Blk.new (w.alloc (.cells #[.bool l,.string s,sv] 106)) 38 wZ;rw [jsa] at hR;have hG:=yaa (yaa (jr w none) (.cells #[.bool l,.string s,sv] 106)) (.cells wZ 38);go_enter Tryz.func89,Tryz.ntmps89
 go_upto_region 1 with (fail)
 obtain ⟨b,hb⟩:∃ b,w.heap.size = b:=⟨_,rfl⟩;have HWS:=jh hb;rw [hb] at hB hR ⊢;clear hb;generalize (w.alloc (.cells #[.bool l,.string s,sv] 106)).alloc (.cells wZ 38) = W1 at *;have hle:w.heap.size <= b + 1:=by have:=HWS.out;omega
 have c0:=hB.cell 0;have c1:=hB.cell 1;have c2:=hB.cell 2;simp only [jta,jcz,jcs] at c0 c1 c2;have HR:=jh hR;have HG:=jh hG;clear hR hG hB;go_wp2_with fail
 refine (HO.out _).mono ?_;rintro e w3 ⟨rfl,hg3⟩;have hR:=HR.out.grown hg3 (by simp);have HB5:=jh (yfb hR (.int .u64 (a0:Int)) (.int .u64 (a1:Int)) (.int .u64 (a2:Int)) (.int .u64 (a3:Int)));have HG5:=jh (yen (yab HG.out hg3 (by simp)) hle (.int .u64 (a0:Int)) (.int .u64 (a1:Int)) (.int .u64 (a2:Int)) (.int .u64 (a3:Int)));have r0:=hR.cell 0;have r1:=hR.cell 1;have r2:=hR.cell 2;have r3:=hR.cell 3;have f0:=hR.frozen 0;have f1:=hR.frozen 1;have f2:=hR.frozen 2;have f3:=hR.frozen 3;simp only [jta,jcz,jcs] at r0 r1 r2 r3;clear hg3 hR HR HG hle c0 c1 c2 HO;go_wp2_with fail
 refine jbr (ybH (fn:=Tryz.f89) rfl _ _ _ _ rfl (ybB HB5.out)) rfl ?_;exact ⟨rfl,HG5.out⟩
theorem ymZ (a0 a1 a2 a3:Nat) (h0:a0 < 18446744073709551616) (h1:a1 < 18446744073709551616) (h2:a2 < 18446744073709551616) (h3:a3 < 18446744073709551616) (w:World) :
  Calls jq 73 #[.agg #[.int .u64 (a0:Int),.int .u64 (a1:Int),.int .u64 (a2:Int),.int .u64 (a3:Int)]] w fun e w'=>e = .returned (.agg #[.bool false,.string ⟨(beN (ycx a0 a1 a2 a3)).toArray⟩,.slice none 0 0]) /\ w.grownBy w' none:=by
 have hbe:=fun V=>yef a0 a1 a2 a3 h0 h1 h2 h3 V;obtain ⟨t,ht⟩:∃ t:ByteArray,(⟨(beN (ycx a0 a1 a2 a3)).toArray⟩:ByteArray) = t:=⟨_,rfl⟩;rw [ht] at hbe ⊢;have HBe:=jh hbe;clear hbe ht h0 h1 h2 h3;have hX:=(Blk.new w 38 #[.int .u64 (a0:Int),.int .u64 (a1:Int),.int .u64 (a2:Int),.int .u64 (a3:Int)]).alloc (.cells #[.bool false,.string ⟨#[]⟩,.slice none 0 0] 106);have hB:=Blk.new (w.alloc (.cells #[.int .u64 (a0:Int),.int .u64 (a1:Int),.int .u64 (a2:Int),.int .u64 (a3:Int)] 38)) 106 #[.bool false,.string ⟨#[]⟩,.slice none 0 0];rw [jsa] at hB;have HG:=jh (yaa (yaa (jr w none) (.cells #[.int .u64 (a0:Int),.int .u64 (a1:Int),.int .u64 (a2:Int),.int .u64 (a3:Int)] 38)) (.cells #[.bool false,.string ⟨#[]⟩,.slice none 0 0] 106));go_enter Tryz.func73,Tryz.ntmps73
 go_upto_region 1 with (fail)
 obtain ⟨b,hb⟩:∃ b,w.heap.size = b:=⟨_,rfl⟩;have HW:=jh hb;rw [hb] at hB hX ⊢;clear hb;generalize (w.alloc (.cells #[.int .u64 (a0:Int),.int .u64 (a1:Int),.int .u64 (a2:Int),.int .u64 (a3:Int)] 38)).alloc (.cells #[.bool false,.string ⟨#[]⟩,.slice none 0 0] 106) = W1 at *;have x0:=hX.cell 0;have x1:=hX.cell 1;have x2:=hX.cell 2;have x3:=hX.cell 3;simp only [jta,jcz,jcs] at x0 x1 x2 x3;go_wp2_with fail
 refine (HBe.out _).mono ?_;rintro e w3 ⟨rfl,hg3⟩;have hB:=hB.grown hg3 (by simp);have HG3:=jh (yab HG.out hg3 (by simp));clear hg3 x0 x1 x2 x3 hX;go_wp2_with fail
 refine (yeh t _).mono ?_;rintro e w4 ⟨rfl,hg4⟩;have hB:=hB.grown hg4 (by simp);have hG4:=yab HG3.out hg4 (by simp);have hle:w.heap.size <= b + 1:=by have:=HW.out;omega
 have HG5:=jh (yap (yap (yap hG4 (p:=⟨b + 1,0,none⟩) hle (.bool false)) (p:=⟨b + 1,1,none⟩) hle (.string t)) (p:=⟨b + 1,2,none⟩) hle (.slice none 0 0));have HB5:=jh (((hB.set_ 0 (.bool false)).set_ 1 (.string t)).set_ 2 (.slice none 0 0));have c0:=hB.cell 0;have c1:=hB.cell 1;have c2:=hB.cell 2;have d0:=hB.frozen 0;have d1:=hB.frozen 1;have d2:=hB.frozen 2;simp only [jta,jcz,jcs] at c0 c1 c2;clear hg4 hG4 hB hle;go_wp2_with fail
 refine jbr (yaw (fn:=Tryz.f73) rfl _ _ _ _ rfl (yaX HB5.out)) rfl ?_;exact ⟨rfl,HG5.out⟩
abbrev txt (s:ByteArray):Itm:=.mk false s []
def txtV (xs:List ByteArray):List Value:=xs.flatMap fun s=>[.bool false,.string s,.slice none 0 0]
theorem yh7 (xs:List ByteArray) (s:ByteArray):txtV (xs ++ [s]) = txtV xs ++ [.bool false,.string s,.slice none 0 0]:=by simp [txtV]
theorem ykk (xs:List ByteArray):txtV xs = yb2 (xs.map txt) (jc1 xs.length (.slice none 0 0)):=by
 induction xs with
 | nil=>rfl
 | cons x xs ih =>
  rw [show txtV (x :: xs) = [.bool false,.string x,.slice none 0 0] ++ txtV xs from rfl,ih];rfl
theorem ylt {u:World} {base k c:Nat} {A:Option Addr} {xs:List ByteArray} (hl:xs.length = k) (h:u.ownsRow base 106 3 (.slice A k c) k (txtV xs)):SubV (fun g=>base <= g) u (xs.map txt) (.slice A k c):=by
 subst hl;rw [ykk] at h;have hlen:(xs.map txt).length = xs.length:=by simp
 rw [<- hlen] at h ⊢;refine SubV.of_own (by simp) h (fun i hi=>?_) (fun g hg=>yaj h hg);have hi':i < xs.length:=by simpa using hi
 have h1:((xs.map txt).getD i Itm.none_).items = []:=by
  rw [jg,jgm,je hi'];rfl
 have h2:(jc1 (xs.map txt).length (ja4 none 0 0)).getD i undef = .slice none 0 0:=by
  rw [jg,List.getElem?_replicate,if_pos hi];rfl
 rw [h1,h2];exact .mk [] none 0 [] (fun h=>by cases h) (fun i h=>by cases h)
theorem ydq {S:Nat -> Prop} {W:World} {xs:List Itm} {v:Value} {g:Nat} (h:SubV S W xs v) (hg:¬ S g) (x y z:Value):SubV S (((W.setCell ⟨g,0,none⟩ x).setCell ⟨g,1,none⟩ y).setCell ⟨g,2,none⟩ z) xs v:=by
 refine h.keep fun p hp u hu=>?_;have hne:g ≠ p.block:=fun e=>hg (e ▸ hp);rw [jd1 _ _ _ _ hne,jd1 _ _ _ _ hne,jd1 _ _ _ _ hne];exact hu
theorem ylv (B:Nat) (A:Option Addr) (n c:Nat) (xs:List ByteArray) (w:World) (h:Reads w B 1 A n (xs.map ja8)) (hB:B <= w.heap.size) (hn:n <= 1000) :
  Calls jq 111 #[.slice A n c] w fun e w'=>∃ A' c',e = .returned (.agg #[.bool true,.string ⟨#[]⟩,.slice A' n c']) /\ SubV (fun g=>w.heap.size <= g) w' (xs.map txt) (.slice A' n c') /\ w.grownBy w' none:=by
 have hl:xs.length = n:=by have:=h.1;simpa using this
 have hRB:=Blk.new w 106 #[.bool false,.string ⟨#[]⟩,.slice none 0 0];have hG:=yaa (jr w none) (.cells #[.bool false,.string ⟨#[]⟩,.slice none 0 0] 106);go_enter Tryz.func111,Tryz.ntmps111
 go_upto_region 1 with (fail)
 obtain ⟨b,hb⟩:∃ b,w.heap.size = b:=⟨_,rfl⟩;have HW:=jh hb;rw [hb] at hRB ⊢;have hz:(w.alloc (.cells #[.bool false,.string ⟨#[]⟩,.slice none 0 0] 106)).heap.size = b + 1:=by simp [hb]
 have h:=h.alloc hB (.cells #[.bool false,.string ⟨#[]⟩,.slice none 0 0] 106);generalize w.alloc (.cells #[.bool false,.string ⟨#[]⟩,.slice none 0 0] 106) = W1 at *;go_wp2_with fail
 refine (yeW _ ⟨_,_,_,rfl⟩ _).mono ?_;rintro e w3 ⟨rfl,hg3⟩;obtain ⟨b3,hb3⟩:∃ b,w3.heap.size = b:=⟨_,rfl⟩;have hz3:=hg3.size
 have K0:Held3 w3 b3 (.slice none 0 0) 0 (txtV (xs.take 0)) (w3.alloc (.cells #[.bool true,.string ⟨#[]⟩,.slice none 0 0] 106)):=by
  refine ⟨?_,jon _ _ _ _,yaa (jr w3 none) _,by simp;omega,by omega⟩;have:=Blk.new w3 106 #[.bool true,.string ⟨#[]⟩,.slice none 0 0]
  rwa [hb3] at this
 have h:=h.grown hg3 (by have:=HW.out;omega) (by simp);have h0:=jh h;have HL:=jh hl;have HB:Hid (B <= w3.heap.size):=jh (by have:=HW.out;omega);have HRB:=jh (hRB.grown hg3 (by simp));have HG:=jh (yab hG hg3 (by simp));have h:=h.alloc HB.out (.cells #[.bool true,.string ⟨#[]⟩,.slice none 0 0] 106);have HS:Hid (w.heap.size <= b3):=jh (by have:=HW.out;omega);have HZB:Hid (b + 1 <= b3):=jh (by omega);clear hG hg3 hl hB hRB;go_upto_region 2 with (fail)
 generalize w3.alloc (.cells #[.bool true,.string ⟨#[]⟩,.slice none 0 0] 106) = W4 at *;clear hz hz3 hb3;go_wp2_with fail
 go_loopw [9] (fun i wr=>∃ (k:Nat) (v:Value),i = .int .i64 k /\ k <= n /\ Held3 w3 b3 v k (txtV (xs.take k)) wr) (fun i _=>n - (intOf i).toNat)
 case atStart=>exact ⟨0,_,rfl,by omega,K0⟩
 case round =>
  clear K0 h;obtain ⟨k,v,rfl,hk,K0⟩:=hrel;have h:=h0.out.grown K0.grown HB.out (by simp);by_cases hlt:k < n
  ·obtain ⟨g,off,rfl,hg,hc⟩:=Reads.vals ja8 .empty h hlt;have c0:=hc k hlt;have q1:(k:Int) < (n:Int):=by omega
   have hTK:txtV (xs.take k) ++ [.bool false,.string (xs.getD k .empty),.slice none 0 0] = txtV (xs.take (k + 1)):=by
    rw [<- yh7,List.take_add_one,je (by have:=HL.out;omega),jg,je (by have:=HL.out;omega)];rfl
   obtain ⟨s,hs⟩:∃ s,xs.getD k .empty = s:=⟨_,rfl⟩;rw [hs] at c0 hTK;have HTK:=jh hTK;have H0:=jh h0.out;clear h hc hs h0 hTK;obtain ⟨vA,vc,rfl⟩:=yaK K0.own;go_wp2_with fail
   refine jwh (S:=fun _=>True) (by kernel_rfl) ?_;change wpAnyH _ _ _ _ _ _ _ _ wr.drew;replace K0:=K0.drew;generalize wr.drew = u0 at *;clear c0;refine zt 0 (.pointer (some ⟨b3,2,none⟩)) (some 13) rfl (fun W hW=>by go_simp) trivial ?_;simp only [jp,jb,jz,js];refine zt 2 (.string s) (some 15) rfl (fun W hW=>by go_simp) trivial ?_;simp only [jp,jb,jz,js];refine yc5 (i:=1) (j:=3) (by kernel_rfl) ?_ ?_
   ·refine yal (some 14) rfl rfl (.slice vA k vc) (ybI 104 (.tmp 13) rfl _ rfl _ _ ja7 rfl (K0.blk.cell 2)) rfl trivial ?_;simp only [jp,jb,jz,js];refine yam (i:=3) (by kernel_rfl) ?_;refine ybe (some 16) rfl rfl 74 #[.string s] (yak 74 (.tmp 15) _ rfl _ rfl rfl) rfl ((yeh s _).mono ?_);rintro e u1 ⟨rfl,hgc⟩;have K1:=K0.kept hgc;refine ⟨_,rfl,trivial,?_⟩;simp only [jp,jb,jz,js];refine yam (i:=4) (by kernel_rfl) ?_;refine yal (some 17) rfl rfl (.slice (some ⟨u1.heap.size,0,none⟩) 1 1) (by go_simp <;> rfl) rfl trivial ?_;simp only [jp,jb,jz,js];have K2:=K1.kept (yaa (jr u1 none) (.cells #[.bool false,.string s,.slice none 0 0] 106));obtain ⟨i0,hi,hz0,hzs,hzb⟩:=info_parts ybr;obtain ⟨v',u2,hrun,hown',hgrow,hiff,hob⟩:=jra (P:=jq) (u1.alloc (.cells #[.bool false,.string s,.slice none 0 0] 106)) (b3 + 1) 104 104 106 i0 _ 3 48 ja7 hi hz0 hzs hzb rfl (by decide) (.slice vA k vc) k (txtV (xs.take k)) K2.own ⟨u1.heap.size,0,none⟩ 1 1 [.bool false,.string s,.slice none 0 0] rfl (yaJ _ _ _ _ _) (by simp [ja2]) (by simp only [maxLen];omega) (by omega) K2.size;obtain ⟨g',cap',rfl⟩:=ownsRow_succ hown';have K3:=K2.put hown' hgrow;refine yam (i:=5) (by kernel_rfl) ?_;refine yal (some 18) rfl rfl (.slice (some ⟨g',0,none⟩) (k + 1) cap') (ya7 (.tmp 14) (.tmp 17) 104 rfl _ _ _ rfl rfl hrun) rfl trivial ?_;simp only [jp,jb,jz,js];refine yam (i:=6) (by kernel_rfl) ?_;refine yal (some 19) rfl rfl (.pointer (some ⟨b3,2,none⟩)) (by go_simp <;> rfl) rfl trivial ?_;simp only [jp,jb,jz,js];refine yam (i:=7) (by kernel_rfl) ?_;refine yaO rfl rfl (yaG (.tmp 19) (.tmp 18) rfl rfl rfl (K2.blk.grown hgrow (fun e=>by have:=yaj K2.own e.symm;omega)) (by simp)) trivial ?_;simp only [jp,jb,jz,js];refine jwd (by kernel_rfl) ?_ _;rw [HTK.out] at K3;clear hrun hown' hgrow hob K2 hiff;go_wp2_with fail
    go_roundw
    case rel=>exact ⟨k + 1,_,by go_num,by omega,K3⟩
    case measure=>simp [intOf];omega
   ·refine ybe (some 16) rfl rfl 74 #[.string s] (yak 74 (.tmp 15) _ rfl _ rfl rfl) rfl ((yeh s _).mono ?_);rintro e u1 ⟨rfl,hgc⟩;have K1:=K0.kept hgc;refine ⟨_,rfl,trivial,?_⟩;simp only [jp,jb,jz,js];refine yc5 (i:=1) (j:=4) (by kernel_rfl) ?_ ?_
    ·refine yal (some 14) rfl rfl (.slice vA k vc) (ybI 104 (.tmp 13) rfl _ rfl _ _ ja7 rfl (K1.blk.cell 2)) rfl trivial ?_;simp only [jp,jb,jz,js];refine yam (i:=4) (by kernel_rfl) ?_;refine yal (some 17) rfl rfl (.slice (some ⟨u1.heap.size,0,none⟩) 1 1) (by go_simp <;> rfl) rfl trivial ?_;simp only [jp,jb,jz,js];have K2:=K1.kept (yaa (jr u1 none) (.cells #[.bool false,.string s,.slice none 0 0] 106));obtain ⟨i0,hi,hz0,hzs,hzb⟩:=info_parts ybr;obtain ⟨v',u2,hrun,hown',hgrow,hiff,hob⟩:=jra (P:=jq) (u1.alloc (.cells #[.bool false,.string s,.slice none 0 0] 106)) (b3 + 1) 104 104 106 i0 _ 3 48 ja7 hi hz0 hzs hzb rfl (by decide) (.slice vA k vc) k (txtV (xs.take k)) K2.own ⟨u1.heap.size,0,none⟩ 1 1 [.bool false,.string s,.slice none 0 0] rfl (yaJ _ _ _ _ _) (by simp [ja2]) (by simp only [maxLen];omega) (by omega) K2.size;obtain ⟨g',cap',rfl⟩:=ownsRow_succ hown';have K3:=K2.put hown' hgrow;refine yam (i:=5) (by kernel_rfl) ?_;refine yal (some 18) rfl rfl (.slice (some ⟨g',0,none⟩) (k + 1) cap') (ya7 (.tmp 14) (.tmp 17) 104 rfl _ _ _ rfl rfl hrun) rfl trivial ?_;simp only [jp,jb,jz,js];refine yam (i:=6) (by kernel_rfl) ?_;refine yal (some 19) rfl rfl (.pointer (some ⟨b3,2,none⟩)) (by go_simp <;> rfl) rfl trivial ?_;simp only [jp,jb,jz,js];refine yam (i:=7) (by kernel_rfl) ?_;refine yaO rfl rfl (yaG (.tmp 19) (.tmp 18) rfl rfl rfl (K2.blk.grown hgrow (fun e=>by have:=yaj K2.own e.symm;omega)) (by simp)) trivial ?_;simp only [jp,jb,jz,js];refine jwd (by kernel_rfl) ?_ _;rw [HTK.out] at K3;clear hrun hown' hgrow hob K2 hiff;go_wp2_with fail
     go_roundw
     case rel=>exact ⟨k + 1,_,by go_num,by omega,K3⟩
     case measure=>simp [intOf];omega
    ·refine yal (some 17) rfl rfl (.slice (some ⟨u1.heap.size,0,none⟩) 1 1) (by go_simp <;> rfl) rfl trivial ?_;simp only [jp,jb,jz,js];have K2:=K1.kept (yaa (jr u1 none) (.cells #[.bool false,.string s,.slice none 0 0] 106));refine yam (i:=1) (by kernel_rfl) ?_;refine yal (some 14) rfl rfl (.slice vA k vc) (ybI 104 (.tmp 13) rfl _ rfl _ _ ja7 rfl (K2.blk.cell 2)) rfl trivial ?_;simp only [jp,jb,jz,js];obtain ⟨i0,hi,hz0,hzs,hzb⟩:=info_parts ybr;obtain ⟨v',u2,hrun,hown',hgrow,hiff,hob⟩:=jra (P:=jq) (u1.alloc (.cells #[.bool false,.string s,.slice none 0 0] 106)) (b3 + 1) 104 104 106 i0 _ 3 48 ja7 hi hz0 hzs hzb rfl (by decide) (.slice vA k vc) k (txtV (xs.take k)) K2.own ⟨u1.heap.size,0,none⟩ 1 1 [.bool false,.string s,.slice none 0 0] rfl (yaJ _ _ _ _ _) (by simp [ja2]) (by simp only [maxLen];omega) (by omega) K2.size;obtain ⟨g',cap',rfl⟩:=ownsRow_succ hown';have K3:=K2.put hown' hgrow;refine yam (i:=5) (by kernel_rfl) ?_;refine yal (some 18) rfl rfl (.slice (some ⟨g',0,none⟩) (k + 1) cap') (ya7 (.tmp 14) (.tmp 17) 104 rfl _ _ _ rfl rfl hrun) rfl trivial ?_;simp only [jp,jb,jz,js];refine yam (i:=6) (by kernel_rfl) ?_;refine yal (some 19) rfl rfl (.pointer (some ⟨b3,2,none⟩)) (by go_simp <;> rfl) rfl trivial ?_;simp only [jp,jb,jz,js];refine yam (i:=7) (by kernel_rfl) ?_;refine yaO rfl rfl (yaG (.tmp 19) (.tmp 18) rfl rfl rfl (K2.blk.grown hgrow (fun e=>by have:=yaj K2.own e.symm;omega)) (by simp)) trivial ?_;simp only [jp,jb,jz,js];refine jwd (by kernel_rfl) ?_ _;rw [HTK.out] at K3;clear hrun hown' hgrow hob K2 hiff;go_wp2_with fail
     go_roundw
     case rel=>exact ⟨k + 1,_,by go_num,by omega,K3⟩
     case measure=>simp [intOf];omega
  ·obtain rfl:k = n:=by omega
   have hfin:decide ((k:Int) < (k:Int)) = false:=by simp
   clear h h0;have hRB:=HRB.out.grown K0.grown (by simp);obtain ⟨vA,vc,rfl⟩:=yaK K0.own;have hle:w.heap.size <= b:=by have:=HW.out;omega
   have hb3:b + 1 <= b3:=by have:=HZB.out;omega
   have ht:xs.take k = xs:=jtl (by have:=HL.out;omega);have hS:=ylt HL.out (ht ▸ K0.own);have HS5:=jh (SubV.weak (ydq (g:=b) hS (by omega) (.bool true) (.string ⟨#[]⟩) (.slice vA k vc)) (fun g (hg:b3 + 1 <= g)=>(show w.heap.size <= g by omega)));have HG5:=jh (yap (yap (yap (yab HG.out K0.grown (by simp)) (p:=⟨b,0,none⟩) hle (.bool true)) (p:=⟨b,1,none⟩) hle (.string ⟨#[]⟩)) (p:=⟨b,2,none⟩) hle (.slice vA k vc));have HB5:=jh (((hRB.set_ 0 (.bool true)).set_ 1 (.string ⟨#[]⟩)).set_ 2 (.slice vA k vc));have c0:=hRB.cell 0;have c1:=hRB.cell 1;have c2:=hRB.cell 2;have d0:=hRB.frozen 0;have d1:=hRB.frozen 1;have d2:=hRB.frozen 2;have e0:=K0.blk.cell 0;have e1:=K0.blk.cell 1;have e2:=K0.blk.cell 2;simp only [jta,jcz,jcs] at c0 c1 c2 e0 e1 e2;clear K0 hle hb3 ht hS hRB hk hlt;go_wp2_with fail
   refine jbr (yaw (fn:=Tryz.f111) rfl _ _ _ _ rfl (yaX HB5.out)) rfl ?_;exact ⟨_,_,rfl,HS5.out,HG5.out⟩
def ykd (x:Itm):Prop:=∀ (W:World) (B b q:Nat) (bs:List UInt8) (sx:Value),Boxed W q 183 (.func (.func 147) #[] #[.pointer (some ⟨q,0,none⟩)]) -> q < B -> B <= W.heap.size ->
 jd3 96 5 B b (ja6 bs) W -> SubV (fun g=>g < B) W x.items sx -> wtF x <= 1000000000 -> bs.length + wtF x <= 2000000000 ->
 Calls jq 147 #[.agg #[.bool x.list,.string x.bytes,sx],.pointer (some ⟨b,0,none⟩),.pointer (some ⟨q,0,none⟩)] W fun e W'=>e = .returned (.tuple #[]) /\ jd3 96 5 B b (ja6 (bs ++ yau x)) W' /\ Below B W W'
theorem yeH {a w w':World} {B:Nat} (h:a.grownBy w none) (hb:Below B w w') (hB:a.heap.size <= B):a.grownBy w' none :=
 ⟨hb.os.trans h.os,hb.tape.trans h.tape,hb.output.trans h.output,jlt h.size hb.size,fun g hg hne=>(hb.block g (by omega)).trans (h.block g hg hne)⟩
theorem SubV.belowB {B:Nat} {W W':World} {xs:List Itm} {v:Value} (h:SubV (fun g=>g < B) W xs v) (hg:Below B W W'):SubV (fun g=>g < B) W' xs v :=
 h.keep fun p hp u hu=>by rw [hg.cell (p:=p) hp];exact hu
theorem Boxed.belowB {W W':World} {B q:Nat} {t:TypeId} {v:Value} (h:Boxed W q t v) (hb:Below B W W') (hq:q < B):Boxed W' q t v:=(hb.block q hq).trans h
theorem yiz {T e:TypeId} {B b:Nat} {bs:List Value} {w w':World} (h:jd3 T e B b bs w) (hk:∀ g,g < w.heap.size -> w'.heap[g]? = w.heap[g]?):jd3 T e B b bs w':=by
 have key:∀ p,Lib.BuilderAt T e B b p bs w -> Lib.BuilderAt T e B b p bs w':=by
  rintro p ⟨h1,v,h2,h3,h4⟩;refine ⟨h1,v,(hk b (jes.1 h2).1).trans h2,⟨h3.1,?_⟩,h4⟩;rcases h3.2 with h5 | ⟨g,cap,cur,rfl,hb,hg,rest⟩
  ·exact .inl h5
  ·exact .inr ⟨g,cap,cur,rfl,hb,(hk g (jes.1 hg).1).trans hg,rest⟩
 exact h.elim (fun h=>.inl (key _ h)) (fun h=>.inr (key _ h))
theorem yld (x:Itm) (hx:x.list = false):ykd x:=by
 intro W B b q bs sx hq hqB hBW hbl hsx hwt hroom;obtain ⟨A,c,rfl⟩:=hsx.slice;have hbt:yau x = yce x.bytes:=by rw [ydo,hx];rfl
 have hwx:=ydO x;have HB:=jh (ycf hbl (yaa (jr W none) (.cells #[.bool x.list,.string x.bytes,.slice A x.items.length c] 106)));have HG:=jh ((jc5 B W).alloc hBW (.cells #[.bool x.list,.string x.bytes,.slice A x.items.length c] 106));have hbz:(ja6 bs).length = bs.length:=by simp [ja6]
 rw [hbt];rw [hx] at HB HG ⊢;have hlz:x.bytes.data.toList.length = x.bytes.size:=jb0;generalize x.items.length = n at *;generalize hb:x.bytes = t at *;by_cases h1:t.size = 1 /\ (t.data.toList.getD 0 0).toNat < 128
 ·have hT:yce t = t.data.toList:=if_pos h1;obtain ⟨h1,h2⟩:=h1;have hw:∀ V,jd3 96 5 B b (ja6 bs) V -> B <= V.heap.size -> _:=fun V hV hBV=>ybf B b (ja6 bs) t V hV (by rw [hbz];omega) hBV;have d1:0 < t.size:=by omega
  have hc:((t[0]'d1).toNat:Int) < 128:=by
   have e2:t.data[0]? = some (t[0]'d1):=jb4 d1;have:t.data.toList.getD 0 0 = t[0]'d1:=by rw [jg,Array.getElem?_toList,e2];rfl
   rw [<- this];omega
  have e1:((t.size:Int) == 1) = true:=by rw [beq_iff_eq];omega
  have HW:=jh hw;have HT:=jh hT;have HZ:=jh h1;clear hw hT hbl hsx hq h1 h2 hbz hlz hwx hb;go_enter Tryz.func147,Tryz.ntmps147
  go_wp2_with fail
  refine (HW.out _ HB.out (by simp;omega)).mono ?_;rintro e w2 ⟨rfl,hbl,hg⟩;have HG:=jh (HG.out.trans hg);have HL:Hid (ja6 bs ++ Lib.strCells t = ja6 (bs ++ t.data.toList)):=jh (by rw [yb9,ybk]);have HBL:=jh hbl;clear hbl hg;go_wp2_with fail
  go_end0
  exact ⟨rfl,by rw [HT.out,<- HL.out];exact HBL.out,HG.out⟩
 ·have hT:yce t = yaU t.size 128 ++ t.data.toList:=if_neg h1;have hls:=ydh t.size 128 (by omega);have hh:=fun V=>ygz t 128 (by omega) (by omega) V;obtain ⟨r,hr⟩:∃ r,yaU t.size 128 ++ t.data.toList = r:=⟨_,rfl⟩;have hrl:r.length <= 9 + t.size:=by rw [<- hr,jla];omega
  rw [hr] at hT hh;have hw:∀ V,jd3 96 5 B b (ja6 bs) V -> B <= V.heap.size -> _:=fun V hV hBV=>ybf B b (ja6 bs) ⟨r.toArray⟩ V hV (by rw [hbz];show _ + r.toArray.size <= _;rw [jd9];omega) hBV
  have hguard:((t.size:Int) == 1) = false \/ (((t.size:Int) == 1) = true /\ ∃ d1:0 < t.size,decide (((t[0]'d1).toNat:Int) < 128) = false):=by
   by_cases hz:t.size = 1
   ·refine .inr ⟨by rw [beq_iff_eq];omega,by omega,?_⟩;have d1:0 < t.size:=by omega
    have e2:t.data[0]? = some (t[0]'d1):=jb4 d1;have:t.data.toList.getD 0 0 = t[0]'d1:=by rw [jg,Array.getElem?_toList,e2];rfl
    have h2:¬ (t.data.toList.getD 0 0).toNat < 128:=fun h=>h1 ⟨hz,h⟩;rw [this] at h2;exact decide_eq_false (by omega)
   ·exact .inl (by rw [beq_eq_false_iff_ne];omega)
  have HW:=jh hw;have HT:=jh hT;have HH:=jh hh;clear hw hT hh hbl hsx hq h1 hbz hlz hwx hb hr hls hrl;rcases hguard with e1 | ⟨e1,d1,e2⟩
  all_goals
   go_enter Tryz.func147,Tryz.ntmps147
   go_wp2_with fail
   refine (HH.out _).mono ?_;rintro e w2 ⟨rfl,hg1⟩;have HB:=jh (ycf HB.out hg1);have HG:=jh (HG.out.trans ((ybd hg1).mono (by simp;omega)));have hz2:=hg1.size;simp only [jsa] at hz2;have HZ2:=jh hz2;clear hg1 hz2;go_wp2_with fail
   refine (HW.out _ HB.out (by have:=HZ2.out;omega)).mono ?_;rintro e w3 ⟨rfl,hbl,hg⟩;have HG:=jh (HG.out.trans hg);have HL:Hid (ja6 bs ++ Lib.strCells ⟨r.toArray⟩ = ja6 (bs ++ r)):=jh (by rw [yb9,ybk]);have HBL:=jh hbl;clear hbl hg;go_wp2_with fail
   go_end0
   exact ⟨rfl,by rw [HT.out,<- HL.out];exact HBL.out,HG.out⟩
theorem yle (x:Itm) (hx:x.list = true) (hC:∀ i,i < x.items.length -> ykd (x.items.getD i Itm.none_)):ykd x:=by
 intro W B b q bs sx hq hqB hBW hbl hsx hwt hroom;obtain ⟨A,c,rfl⟩:=hsx.slice;have hbt:yau x = yaU (bytesL x.items).length 192 ++ bytesL x.items:=by rw [ydo,hx];rfl
 have hwx:=ydO x;have hok:=yhd x hwt;have hbz:(ja6 bs).length = bs.length:=by simp [ja6]
 have hlen:=bytesL_len x.items (by omega);have hG1:=yaa (jr W none) (.cells #[.bool x.list,.string x.bytes,.slice A x.items.length c] 106);have hW1:=(jc5 B W).alloc hBW (.cells #[.bool x.list,.string x.bytes,.slice A x.items.length c] 106);have hx0:=Blk.new W 106 #[.bool x.list,.string x.bytes,.slice A x.items.length c];have hB1:=ycf hbl hG1;have hS1:=hsx.belowB hW1;have hQ1:=Boxed.belowB hq hW1 hqB;have hn:=hok.items;have hlast:=jlt hBW hG1.size;rw [hbt];rw [hx] at hG1 hW1 hx0 hB1 hS1 hQ1 hlast ⊢;go_enter Tryz.func147,Tryz.ntmps147
 go_upto_region 2 with (fail)
 generalize W.alloc (.cells #[.bool true,.string x.bytes,.slice A x.items.length c] 106) = W1 at *;obtain ⟨b0,hb0⟩:∃ b0,W.heap.size = b0:=⟨_,rfl⟩;rw [hb0] at hx0 ⊢;have c0:=hx0.cell 0;have c1:=hx0.cell 2;simp only [jta,jcz,jcs] at c0 c1;go_upto_region 4 with (fail)
 have hin:=yeb W1
 have hkeep0:∀ V,Below W1.heap.size (W1.alloc (.cells #[.pointer none,.slice none 0 0] 96)) V -> jd3 96 5 B b (ja6 bs) V:=fun V hV =>
  yiz hB1 fun g hg=>(hV.block g hg).trans (Below.heap_alloc W1 _ g hg)
 have hB2:=ycf hB1 (yaa (jr W1 none) (.cells #[.pointer none,.slice none 0 0] 96));have hx2:=hx0.alloc (.cells #[.pointer none,.slice none 0 0] 96);have hW2:=hW1.alloc hlast (.cells #[.pointer none,.slice none 0 0] 96);have hS2:=hS1.belowB ((jc5 B W1).alloc hlast (.cells #[.pointer none,.slice none 0 0] 96));have hQ2:=Boxed.belowB hQ1 ((jc5 B W1).alloc hlast (.cells #[.pointer none,.slice none 0 0] 96)) hqB;have hlt0:=hx0.lt;have hlb:=(yli hB1).1;obtain ⟨D,hD⟩:∃ D,W1.heap.size = D:=⟨_,rfl⟩;have hz2:(W1.alloc (.cells #[.pointer none,.slice none 0 0] 96)).heap.size = D + 1:=by simp [hD]
 rw [hD] at hin hlast hlt0 hlb hkeep0 ⊢;generalize W1.alloc (.cells #[.pointer none,.slice none 0 0] 96) = W2 at *;clear hB1 hx0 hW1 hS1 hQ1 c0 c1 hG1 hbl hsx hq;have c1:=hx2.cell 2;simp only [jta,jcz,jcs] at c1;have hkeep:=hkeep0;obtain ⟨xs,hxs⟩:∃ xs,x.items = xs:=⟨_,rfl⟩;obtain ⟨n,hnn⟩:∃ n,xs.length = n:=⟨_,rfl⟩;rw [hxs] at hn hwx hlen hS2 hC hx2 c1 ⊢;rw [hnn] at hn hS2 hx2 c1 ⊢;have HN:=jh hnn;have HXS:=jh hxs;have HC:=jh hC;have HQ:=jh hQ2;have HK:=jh hkeep;have HBT:=jh hbt
 have hwi:∀ k,k < xs.length -> wtF (xs.getD k Itm.none_) + (bytesL (xs.take k)).length <= 1000000000:=by
  intro k hk;have h1:=ygN hk;have h2:=yj6 xs k;have h3:=bytesL_len (xs.take k) (by omega);omega
 have HWI:=jh hwi;have HLEN:=jh hlen;clear hC hQ2 hkeep hkeep0 hok hwi hxs hnn hbt hlen hB2 hx;go_wp2_with fail
 go_loopw [19] (fun i wr=>∃ k:Nat,i = .int .i64 k /\ k <= n /\ Below D W2 wr /\ Hid (jd3 96 5 D D (ja6 (bytesL (xs.take k))) wr)) (fun i _=>n - (intOf i).toNat)
 case atStart=>exact ⟨0,rfl,by omega,jc5 _ _,jh hin⟩
 case round =>
  obtain ⟨k,rfl,hk,hbw,hI⟩:=hrel;have HI:=jh hI.out;clear hI;by_cases hlt:k < n
  ·have hS:=hS2.belowB (hbw.mono (by omega));obtain ⟨he,vs,hvs,hr⟩:=hS.row;rw [HN.out] at hvs hr;obtain ⟨g,off,rfl,hgB,hc⟩:=hr (by omega);obtain ⟨k0,k1,k2⟩:=hc k hlt;have hsv:=hvs k hlt;obtain ⟨y,hy⟩:∃ y,xs.getD k Itm.none_ = y:=⟨_,rfl⟩;have hCk:=HC.out k (by have:=HN.out;omega);have hw1:=HWI.out k (by have:=HN.out;omega);have htk:=yfp (xs:=xs) (k:=k) (by have:=HN.out;omega);rw [hy] at k0 k1 hsv hCk hw1 htk;generalize vs.getD k undef = sv at *;obtain ⟨As,cs,rfl⟩:=hsv.slice;have HCK:=jh hCk;have HY:=jh hy;have HTK:=jh htk;have HSV:=jh hsv;have hq:=Boxed.belowB HQ.out hbw (by omega);have q0:=hq.cell;have hwsz:=hbw.size;have hql:=hq.lt;have q1:(k:Int) < (n:Int):=by omega
   clear hS hvs hr hc hCk hy htk hsv he hq;go_wp2_with fail
   have hbw2:Below D W2 (wr.alloc (.cells #[.bool y.list,.string y.bytes,.slice As y.items.length cs] 106)):=hbw.alloc (by omega) _;have hgA:=yaa (jr wr none) (.cells #[.bool y.list,.string y.bytes,.slice As y.items.length cs] 106);refine (HCK.out _ D D q (bytesL (xs.take k)) _ (Boxed.belowB HQ.out hbw2 (by omega)) (by omega) (by simp;omega) (ycf HI.out hgA) ((HSV.out.belowB (B:=B) ((jc5 B wr).alloc (by omega) _)).weak fun g hg=>jc4 hg hlast) (by omega) (by omega)).mono ?_;rintro e w3 ⟨rfl,hb3,hbe3⟩;have hbw3:=hbw2.trans hbe3;have hI3:Hid (jd3 96 5 D D (ja6 (bytesL (xs.take (k + 1)))) w3):=jh (by rw [HTK.out,yfI];exact hb3);clear hb3 hbe3 hbw2 hgA q0 k0 k1 k2 HSV HCK;go_wp2_with fail
   exact ⟨⟨k + 1,by go_num,by omega,hbw3,hI3⟩,by simp [intOf];omega⟩
  ·obtain rfl:k = n:=by omega
   have hfin:decide ((k:Int) < (k:Int)) = false:=by simp
   have hall:xs.take k = xs:=by rw [<- HN.out,List.take_length]
   have hI:=HI.out;rw [hall] at hI;have HI2:=jh hI;clear hI hall HI;obtain ⟨l,hl⟩:∃ l,bytesL xs = l:=⟨_,rfl⟩;have HL:=jh hl;rw [hl] at HI2 HLEN;have hsz:=hbw.size;have hstr:=fun V (hV:jd3 96 5 D D (ja6 l) V) (hDV:D <= V.heap.size)=>ybJ D D l V hV hDV;have HSTR:=jh hstr;clear hl hstr;go_wp2_with fail
   refine (HSTR.out _ HI2.out (by omega)).mono ?_;rintro e w3 ⟨rfl,hb3⟩;have hbw:=hbw.trans hb3;have hsz:=hbw.size;clear hb3;go_wp2_with fail
   have hlz:(⟨l.toArray⟩:ByteArray).size = l.length:=by show l.toArray.size = _;simp
   have hll:l.length <= 1000000000:=by have:=HLEN.out;omega
   refine (ygz ⟨l.toArray⟩ 192 (by rw [hlz];exact hll) (by omega) w3).mono ?_;rw [hlz];rintro e w4 ⟨rfl,hg4⟩;have hls:=ydh l.length 192 hll;have hbw:=hbw.trans ((ybd hg4).mono (by omega));have hsz:=hbw.size;clear hg4;obtain ⟨r,hr⟩:∃ r,yaU l.length 192 ++ l = r:=⟨_,rfl⟩;have hrl:r.length <= 9 + l.length:=by rw [<- hr,jla];omega
   have hr2:yaU l.length 192 ++ (⟨l.toArray⟩:ByteArray).data.toList = r:=hr;rw [hr2];have HR:=jh hr
   have hwl:(ja6 bs).length + (⟨r.toArray⟩:ByteArray).size <= 140737488355328:=by
    rw [hbz];show _ + r.toArray.size <= _;rw [jd9];omega
   have HWL:=jh hwl;clear hr hr2 hlz hls hwl hrl hll;go_wp2_with fail
   refine (ybf B b (ja6 bs) ⟨r.toArray⟩ _ (HK.out _ hbw) HWL.out (by omega)).mono ?_;rintro e w5 ⟨rfl,hb5,hbe5⟩;have hfin:=(hW2.trans (hbw.mono hlast)).trans hbe5;have HF:=jh hfin
   have HB5:Hid (jd3 96 5 B b (ja6 (bs ++ r)) w5):=jh (by
    rw [yb9,<- ybk] at hb5;exact hb5)
   clear hfin hbe5 hbw hb5;go_wp2_with fail
   go_end0
   exact ⟨rfl,by rw [HXS.out,HL.out,HR.out];exact HB5.out,HF.out⟩
theorem yj7 (x:Itm):ykd x:=by
 generalize hn:SizeOf.sizeOf x = n
 induction n using Nat.strongRecOn generalizing x with
 | _ n ih =>
  subst hn;cases hx:x.list with
  | true=>exact yle x hx fun i hi=>ih _ (Itm.size_get hi) _ rfl
  | false=>exact yld x hx
theorem yiw (x:Itm) (sx:Value) (W:World) (hsx:SubW W x.items sx) (hwt:wtF x <= 1000000000) :
  Calls jq 113 #[.agg #[.bool x.list,.string x.bytes,sx]] W fun e W'=>e = .returned (.string ⟨(yau x).toArray⟩) /\ W.grownBy W' none:=by
 obtain ⟨A,c,rfl⟩:=hsx.slice;have hwk:=yj7 x;have hx0:=Blk.new W 106 #[.bool x.list,.string x.bytes,.slice A x.items.length c];have hG1:=yaa (jr W none) (.cells #[.bool x.list,.string x.bytes,.slice A x.items.length c] 106);have hS1:=hsx.grown hG1;have hmf:∀ (fn:Fn) (first cap:Array Value) (w:World),(Instr.makeFunc fn first cap).run jq w = .ok (.func fn first cap) w:=fun _ _ _ _=>rfl;go_enter Tryz.func113,Tryz.ntmps113
 go_upto_region 4 with (fail)
 have hq:=Boxed.new (W.alloc (.cells #[.bool x.list,.string x.bytes,.slice A x.items.length c] 106)) 183 (.func (.func 147) #[] #[.pointer (some ⟨W.heap.size + 1,0,none⟩)]);rw [jsa] at hq;have hx1:=hx0.alloc (.cells #[.func (.func 147) #[] #[.pointer (some ⟨W.heap.size + 1,0,none⟩)]] 183);have hG2:=yaa hG1 (.cells #[.func (.func 147) #[] #[.pointer (some ⟨W.heap.size + 1,0,none⟩)]] 183);have hS2:=hS1.grown (yaa (jr _ none) (.cells #[.func (.func 147) #[] #[.pointer (some ⟨W.heap.size + 1,0,none⟩)]] 183));have hz2:((W.alloc (.cells #[.bool x.list,.string x.bytes,.slice A x.items.length c] 106)).alloc (.cells #[.func (.func 147) #[] #[.pointer (some ⟨W.heap.size + 1,0,none⟩)]] 183)).heap.size = W.heap.size + 2:=by simp
 rw [show W.heap.size + 1 + 1 = W.heap.size + 2 by omega];generalize (W.alloc (.cells #[.bool x.list,.string x.bytes,.slice A x.items.length c] 106)).alloc (.cells #[.func (.func 147) #[] #[.pointer (some ⟨W.heap.size + 1,0,none⟩)]] 183) = W2 at *;clear hG1 hS1 hx0;have hbn:=yeb W2;rw [hz2] at hbn;have hq3:=hq.alloc (.cells #[.pointer none,.slice none 0 0] 96);have hx3:=hx1.alloc (.cells #[.pointer none,.slice none 0 0] 96);have hG3:=yaa hG2 (.cells #[.pointer none,.slice none 0 0] 96)
 have hS3:SubV (fun g=>g < W.heap.size + 2) (W2.alloc (.cells #[.pointer none,.slice none 0 0] 96)) x.items (.slice A x.items.length c):=by
  refine SubV.weak (S:=fun g=>g < W2.heap.size) (SubV.keep hS2 fun p hp u hu=>?_) (fun g hg=>by rw [<- hz2];exact hg);rw [World.cell?_alloc_lt W2 _ p hp];exact hu
 have hz3:(W2.alloc (.cells #[.pointer none,.slice none 0 0] 96)).heap.size = W.heap.size + 3:=by simp [hz2]
 generalize W2.alloc (.cells #[.pointer none,.slice none 0 0] 96) = W3 at *;have q0:=hq3.cell;have c0:=hx3.cell 0;have c1:=hx3.cell 1;have c2:=hx3.cell 2;simp only [jta,jcz,jcs] at c0 c1 c2;have hcall:=yj7 x W3 (W.heap.size + 2) (W.heap.size + 2) (W.heap.size + 1) [] _ hq3 (by omega) (by omega) hbn hS3 hwt (by simp;omega);have HCALL:=jh hcall;have HG3:=jh hG3;have HZ3:=jh hz3;obtain ⟨r,hr⟩:∃ r,yau x = r:=⟨_,rfl⟩;have HR:=jh hr;rw [hr] at HCALL;clear hcall hG3 hG2 hS2 hS3 hq hq3 hx1 hx3 hbn hz2 hz3 hr hwk;go_wp2_with fail
 refine HCALL.out.mono ?_;rintro e w4 ⟨rfl,hb4,hbe⟩;have hz4:=hbe.size;have hG4:=yeH HG3.out hbe (by omega);have HG4:=jh hG4;have hst:=ybJ (W.heap.size + 2) (W.heap.size + 2) r w4 hb4 (by have:=HZ3.out;omega);have HST:=jh hst;clear hst hb4 hbe hG4;go_wp2_with fail
 refine HST.out.mono ?_;rintro e w5 ⟨rfl,hbe5⟩;have HG5:=jh (yeH HG4.out hbe5 (by omega));clear hbe5;go_wp2_with fail
 go_ret
 exact ⟨by rw [HR.out];rfl,HG5.out⟩
theorem yni (x:Itm) (sx:Value) (W:World) (hsx:SubW W x.items sx) (hwt:wtF x <= 1000000000) :
  Calls jq 146 #[.agg #[.bool x.list,.string x.bytes,sx]] W fun e W'=>e = .returned (.int .i64 ((yau x).length:Int)) /\ W.grownBy W' none:=by
 obtain ⟨A,c,rfl⟩:=hsx.slice;have hG1:=yaa (jr W none) (.cells #[.bool x.list,.string x.bytes,.slice A x.items.length c] 106);have HB:=jh (yiw x _ _ (hsx.grown hG1) hwt);have HG:=jh hG1;clear hG1 hsx;go_enter Tryz.func146,Tryz.ntmps146
 go_wp2_with fail
 refine HB.out.mono ?_;rintro e w2 ⟨rfl,hg⟩;have HG:=jh (yab HG.out hg (by simp));clear hg;go_wp2_with fail
 go_ret
 exact ⟨rfl,HG.out⟩
end Go.Proofs.YtgclnikdkfpflaaGreatDoor
