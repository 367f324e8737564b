/- Merged: HeldF, RlpC, RlpA1, RlpE, RlpF, RlpG, RlpG1, DerA, DerB, DerC, DerD, CoJ, CgA, UnvarP. -/
import Derived.Test.YtmaggfokhlodnaaGreatDoorMx1
import Derived.Test.YtmaggfokhlodnaaGreatDoorMx2
import Derived.Test.YtmaggfokhlodnaaGreatDoorMx3
import Derived.Test.YtmaggfokhlodnaaGreatDoorMx4
import Derived.Test.YtmaggfokhlodnaaGreatDoorMx5
import Derived.Laws.EntriesVeiled
import Derived.WalkLawsBesides
import Derived.Recover
import Derived.Defers
namespace Go.Proofs.YtmaggfokhlodnaaGreatDoor
open Go.RowKit Go.Shelf
open List renaming set_cons_zero → jz, set_cons_succ → js, setIfInBounds_toArray → jb
set_option linter.unusedVariables false
set_option linter.unusedSimpArgs false
set_option maxRecDepth 100000
set_option maxHeartbeats 16000000
open Lib renaming hid → jh, byteCells → ja7, IsBuilder → jd2
open Act renaming put → jp
open World.grownBy renaming refl → jr
open _root_.List renaming getD_eq_getElem?_getD → jg, getElem?_eq_getElem → je, getElem?_cons_zero → jcz, getElem?_cons_succ → jcs, getElem?_toArray → jta, length_append → jla, getElem?_append_right → jar, getElem?_append_left → jal, take_of_length_le → jtl, drop_eq_getElem_cons → jdc, length_cons → jlc, eq_nil_of_length_eq_zero → jb7, getElem?_eq_some_iff → jc6, cons_append → jc9, take_append_drop → jd0, size_toArray → jd5
open _root_.Option.some renaming inj → ji
open _root_.Array renaming getElem?_eq_some_iff → jes, length_toList → jb0, getElem?_eq_none → jd3, replicate → je2
open _root_.Int renaming toNat_natCast → jnc
open World renaming size_alloc → jsa, ownsRow_nil → jon
open IntWalk renaming i64_in → jii
open _root_.Nat renaming le_trans → jlt, lt_of_lt_of_le → jb6
open _root_.Go.Proofs.Tryz renaming prog → jq, underlying9 → jb8, underlying126 → jc2, underlying28 → jc8
open Go renaming bodyPost_ret → jbr, run_append_own_at → jra
open _root_.Go.Proofs renaming enters_of → jeo
open Value renaming oneCell' → ja2, slice → ja6
open Below renaming refl → jd1
open Region renaming wanted → jd9
section
variable {P:Program} {ops:Array Oper} {Q:Exit -> Act -> World -> Prop} {md:Region.Mode} {S:Bool -> World -> Prop} {s:Nat}
def ycx (P:Program) (md:Region.Mode) (ops:Array Oper) (Q:Exit -> Act -> World -> Prop) (S:Bool -> World -> Prop) (s:Nat):Nat -> Array Bool -> Act -> World -> Prop
 | 0,listed,a,w=>Region.ready md ops listed = [] /\ Q .normal a w
 | fuel + 1,listed,a,w =>
  (Region.ready md ops listed = [] -> Q .normal a w) /\
  ∀ i ∈ Region.ready md ops listed,wpOp P ops Q i (fun a' w'=>S ((listed.setIfInBounds i true).getD s false) w' /\ ycx P md ops Q S s fuel (listed.setIfInBounds i true) a' w') a w
theorem ygh:∀ (fuel:Nat) (listed:Array Bool) (a:Act) (w:World),ycx P md ops Q S s fuel listed a w -> wpAny P md ops Q fuel listed a w
 | 0,_,_,_,h=>h
 | fuel + 1,_,_,_,h=>⟨h.1,fun i hi=>wpOp_mono (fun a' w' h'=>ygh fuel _ a' w' h'.2) (h.2 i hi)⟩
theorem ycS {listed:Array Bool} {i:Nat} (h:i ≠ s):(listed.setIfInBounds i true).getD s false = listed.getD s false:=by
 simp [Array.getElem?_setIfInBounds_ne h]
theorem yhw {i:Nat} {oi:Oper} {v:Value} (hi:ops[i]? = some oi) (hsel:∀ (j:Nat) (o:Oper) cs b,ops[j]? = some o -> o.op ≠ .select cs b)
  (hQ:∀ c a w,Q (.panic c) (a.put oi.dst v) w -> Q (.panic c) a w) (his:i ≠ s) (hdep:∀ os,ops[s]? = some os -> ∃ e ∈ os.after,Region.binds md e = true /\ e.on = i) :
  ∀ (fuel:Nat) (listed:Array Bool) (a:Act) (w:World),
   (∀ j oj,ops[j]? = some oj -> j ≠ i -> listed.getD j true = false -> (∀ e ∈ oj.after,Region.binds md e = true -> e.on ≠ i) -> oi.apart ops oj = true) ->
   i ∈ Region.ready md ops listed -> YieldsIf P ops (S false) oi v a -> listed.getD s false = false -> S false w ->
   ycx P md ops Q S s fuel (listed.setIfInBounds i true) (a.put oi.dst v) w -> ycx P md ops Q S s (fuel + 1) listed a w:=by
 have hjs:∀ (listed:Array Bool),i ∈ Region.ready md ops listed -> s ∉ Region.ready md ops listed:=by
  intro listed hr hs;obtain ⟨_,os,hos,hall⟩:=mem_ready.1 hs;obtain ⟨e,he,hb,hon⟩:=hdep os hos;have h1:=hall e he hb;have h0:=(mem_ready.1 hr).1;rw [hon] at h1;rcases Nat.lt_or_ge i listed.size with h' | h'
  ·simp [h'] at h0 h1;rw [h0] at h1;cases h1
  ·simp [jd3 h'] at h1
 intro fuel
 induction fuel with
 | zero =>
  intro listed a w hfree hr hy hst hS H;refine ⟨fun h=>(by rw [h] at hr;cases hr),fun j hj=>?_⟩;by_cases hji:j = i
  ·subst hji;exact hy.wpOp hi hS ⟨by rw [ycS his,hst];exact hS,H⟩
  ·have:=ready_mono hj hji;rw [H.1] at this;cases this
 | succ fuel ih =>
  intro listed a w hfree hr hy hst hS H;refine ⟨fun h=>(by rw [h] at hr;cases hr),fun j hj=>?_⟩;by_cases hji:j = i
  ·subst hji;exact hy.wpOp hi hS ⟨by rw [ycS his,hst];exact hS,H⟩
  ·have hjs':j ≠ s:=fun e=>hjs listed hr (e ▸ hj);have h1:=H.2 j (ready_mono hj hji);obtain ⟨hjun,oj,hoj,hall⟩:=mem_ready.1 hj
   have hnot:∀ e ∈ oj.after,Region.binds md e = true -> e.on ≠ i:=fun e he hb heq=>by
    have h1:=hall e he hb;have h0:=(mem_ready.1 hr).1;rw [heq] at h1;rcases Nat.lt_or_ge i listed.size with h' | h'
    ·simp [h'] at h0 h1;rw [h0] at h1;cases h1
    ·simp [jd3 h'] at h1
   have h2:=wpOp_putIf hoj (hfree j oj hoj hji hjun hnot) (fun cs b=>hsel i oi cs b hi) (fun cs b=>hsel j oj cs b hoj) hQ hy h1
   have hfree':∀ k ok,ops[k]? = some ok -> k ≠ i -> (listed.setIfInBounds j true).getD k true = false ->
     (∀ e ∈ ok.after,Region.binds md e = true -> e.on ≠ i) -> oi.apart ops ok = true:=fun k ok hk hki hun hno=>by
    refine hfree k ok hk hki ?_ hno;by_cases hjk:j = k
    ·subst hjk;exact hjun
    ·rw [getD_set_ne true hjk] at hun;exact hun
   have hst':(listed.setIfInBounds j true).getD s false = false:=by rw [ycS hjs',hst]
   have hst2:((listed.setIfInBounds i true).setIfInBounds j true).getD s false = false:=by rw [ycS hjs',ycS his,hst]
   refine wpOp_mono (fun a' w' h3=>⟨by rw [hst'];have:=h3.2.1;rwa [hst2] at this,ih (listed.setIfInBounds j true) a' w' hfree' (ready_mono hr (Ne.symm hji)) h3.1 hst' (by have:=h3.2.1;rwa [hst2] at this) ?_⟩) h2;rw [Array.setIfInBounds_comm _ _ hji];exact h3.2.2
abbrev yhu (P:Program) (ops:Array Oper) (md:Region.Mode) (Q:Exit -> Act -> World -> Prop) (S:Bool -> World -> Prop) (s:Nat) (fuel:Nat) (listed:Array Bool) (i:Nat):Act -> World -> Prop:=fun a' w'=>S ((listed.setIfInBounds i true).getD s false) w' /\ ycx P md ops Q S s fuel (listed.setIfInBounds i true) a' w'
theorem ypC {i:Nat} {oi:Oper} {v:Value} {fuel:Nat} {listed:Array Bool} {a:Act} {w:World} (d:Option Tmp) (hi:ops[i]? = some oi)
  (hs:Region.noSelect ops = true) (hf:Region.free md ops listed i = true) (hr:(Region.ready md ops listed).contains i = true)
  (hdep:((ops[s]?).map fun o=>o.after.any fun e=>Region.binds md e && e.on == i).getD false = true) (his:(i == s) = false) (hst:listed.getD s false = false)
  (hQ:∀ c a w,Q (.panic c) (a.put oi.dst v) w -> Q (.panic c) a w) (hd:oi.dst = d) (hy:YieldsIf P ops (S false) oi v a) (hS:S false w)
  (h:ycx P md ops Q S s fuel (listed.setIfInBounds i true) (a.put d v) w):ycx P md ops Q S s (fuel + 1) listed a w:=by
 subst hd;refine yhw hi (Region.noSelect_spec hs) hQ (by simpa using his) (fun os hos=>?_) fuel listed a w (Region.free_spec hi hf) (by simpa using hr) hy hst hS h;rw [hos] at hdep;simp only [Option.map_some,Option.getD_some] at hdep;rw [<- Array.any_toList,List.any_eq_true] at hdep;obtain ⟨e,he,h2⟩:=hdep;simp only [Bool.and_eq_true,beq_iff_eq] at h2;exact ⟨e,by simpa using he,h2.1,h2.2⟩
theorem zf (i:Nat) (v:Value) (d:Option Tmp) {oi:Oper} {fuel:Nat} {listed:Array Bool} {a:Act} {w:World} (hi:ops[i]? = some oi) (hy:∀ W,S false W -> (execOp a.eval oi).run P W = .ok (.value v) W) (hS:S false w)
 (h:ycx P md ops Q S s fuel (listed.setIfInBounds i true) (a.put d v) w) (hs:Region.noSelect ops = true:=by kernel_rfl) (hf:Region.free md ops listed i = true:=by kernel_rfl) (hr:(Region.ready md ops listed).contains i = true:=by kernel_rfl)
 (hdep:((ops[s]?).map fun o=>o.after.any fun e=>Region.binds md e && e.on == i).getD false = true:=by kernel_rfl) (his:(i == s) = false:=by kernel_rfl) (hst:listed.getD s false = false:=by kernel_rfl)
 (hQ:∀ c a w,Q (.panic c) (a.put oi.dst v) w -> Q (.panic c) a w:=by exact fun _ _ _ h=>h) (hd:oi.dst = d:=by rfl) (hw:jd9 oi (yielded ops a.tmps) = true:=by rfl):ycx P md ops Q S s (fuel + 1) listed a w :=
 ypC d hi hs hf hr hdep his hst hQ hd (Or.inl ⟨hw,hy⟩) hS h
theorem ybA {i fuel:Nat} {listed:Array Bool} {a:Act} {w:World} (hr:Region.ready md ops listed = [i]) (h:wpOp P ops Q i (yhu P ops md Q S s fuel listed i) a w):ycx P md ops Q S s (fuel + 1) listed a w :=
 ⟨fun h0=>(by rw [hr] at h0;cases h0),by
  rw [hr];intro j hj;obtain rfl:j = i:=by simpa using hj
  exact h⟩
theorem ybs (d:Option Tmp) {i fuel:Nat} {listed:Array Bool} {oi:Oper} {a:Act} {w w':World} (hi:ops[i]? = some oi) (hw:jd9 oi (yielded ops a.tmps) = true) (v:Value) (hrun:(execOp a.eval oi).run P w = .ok (.value v) w') (hd:oi.dst = d) (b:Bool) (hb:(listed.setIfInBounds i true).getD s false = b) (hS:S b w')
  (h:ycx P md ops Q S s fuel (listed.setIfInBounds i true) (a.put d v) w'):wpOp P ops Q i (yhu P ops md Q S s fuel listed i) a w:=by
 subst hd;subst hb;unfold wpOp;simp only [hi,hw,if_true];refine .inl ?_;unfold Oper.wp;rw [hrun];exact ⟨hS,h⟩
theorem ydz (d:Option Tmp) {i fuel:Nat} {listed:Array Bool} {oi:Oper} {a:Act} {w:World} (hi:ops[i]? = some oi) (hw:jd9 oi (yielded ops a.tmps) = true) (f:FuncId) (args:Array Value) (hrun:(execOp a.eval oi).run P w = .ok (.enter f args) w) (hd:oi.dst = d) (b:Bool) (hb:(listed.setIfInBounds i true).getD s false = b)
  (h:Calls P f args w fun e w'=>∃ v,e = .returned v /\ S b w' /\ ycx P md ops Q S s fuel (listed.setIfInBounds i true) (a.put d v) w'):wpOp P ops Q i (yhu P ops md Q S s fuel listed i) a w:=by
 subst hd;subst hb;unfold wpOp;simp only [hi,hw,if_true];refine .inl ?_;unfold Oper.wp;rw [hrun];refine h.mono fun e w' he=>?_;obtain ⟨v,rfl,hS,h⟩:=he;exact ⟨hS,h⟩
theorem ygA {i fuel:Nat} {listed:Array Bool} {oi:Oper} {a:Act} {w w':World} (hi:ops[i]? = some oi) (hw:jd9 oi (yielded ops a.tmps) = true) (hd:oi.dst = none) (hrun:(execOp a.eval oi).run P w = .ok .skip w') (b:Bool) (hb:(listed.setIfInBounds i true).getD s false = b) (hS:S b w')
  (h:ycx P md ops Q S s fuel (listed.setIfInBounds i true) a w'):wpOp P ops Q i (yhu P ops md Q S s fuel listed i) a w:=by
 subst hb;unfold wpOp;simp only [hi,hw,if_true];refine .inl ?_;unfold Oper.wp;rw [hrun];simp only [Oper.upon,hd,jp];exact ⟨hS,h⟩
theorem ygB {listed:Array Bool} {a:Act} {w:World} (hr:Region.ready md ops listed = []) (h:Q .normal a w):∀ fuel,ycx P md ops Q S s fuel listed a w
 | 0=>⟨hr,h⟩
 | _ + 1=>⟨fun _=>h,by rw [hr];simp⟩
theorem ybW {id:Nat} {a:Act} {w:World} (s:Nat) (S:Bool -> World -> Prop) (hm:P.follows .mixedOrders = true)
  (h:ycx P .any ops Q S s ops.size (je2 ops.size false) a w.drew):(Code.region id ops true).wp P Q a w :=
 wp_region_any hm (ygh _ _ _ _ h)
end
def yka (x:Itm):Prop:=∀ (W:World) (B b q:Nat) (bs:List UInt8) (sx:Value),Boxed W q 197 (.func (.func 156) #[] #[.pointer (some ⟨q,0,none⟩)]) -> q < B -> B <= W.heap.size ->
 jd2 97 5 B b (ja7 bs) W -> SubV (fun g=>g < B) W x.items sx -> wtF x <= 1000000000 -> bs.length + wtF x <= 2000000000 ->
 Calls jq 156 #[.agg #[.bool x.list,.string x.bytes,sx],.pointer (some ⟨b,0,none⟩),.pointer (some ⟨q,0,none⟩)] W fun e W'=>e = .returned (.tuple #[]) /\ jd2 97 5 B b (ja7 (bs ++ ya0 x)) W' /\ Below B W W'
theorem yeN {a w w':World} {B:Nat} (h:a.grownBy w none) (hb:Below B w w') (hB:a.heap.size <= B):a.grownBy w' none :=
 ⟨hb.os.trans h.os,hb.tape.trans h.tape,hb.output.trans h.output,jlt h.size hb.size,fun g hg hne=>(hb.block g (by omega)).trans (h.block g hg hne)⟩
theorem SubV.belowB {B:Nat} {W W':World} {xs:List Itm} {v:Value} (h:SubV (fun g=>g < B) W xs v) (hg:Below B W W'):SubV (fun g=>g < B) W' xs v :=
 h.keep fun p hp u hu=>by rw [hg.cell (p:=p) hp];exact hu
theorem Boxed.belowB {W W':World} {B q:Nat} {t:TypeId} {v:Value} (h:Boxed W q t v) (hb:Below B W W') (hq:q < B):Boxed W' q t v:=(hb.block q hq).trans h
theorem yiy {T e:TypeId} {B b:Nat} {bs:List Value} {w w':World} (h:jd2 T e B b bs w) (hk:∀ g,g < w.heap.size -> w'.heap[g]? = w.heap[g]?):jd2 T e B b bs w':=by
 have key:∀ p,Lib.BuilderAt T e B b p bs w -> Lib.BuilderAt T e B b p bs w':=by
  rintro p ⟨h1,v,h2,h3,h4⟩;refine ⟨h1,v,(hk b (jes.1 h2).1).trans h2,⟨h3.1,?_⟩,h4⟩;rcases h3.2 with h5 | ⟨g,cap,cur,rfl,hb,hg,rest⟩
  ·exact .inl h5
  ·exact .inr ⟨g,cap,cur,rfl,hb,(hk g (jes.1 hg).1).trans hg,rest⟩
 exact h.elim (fun h=>.inl (key _ h)) (fun h=>.inr (key _ h))
theorem ylc (x:Itm) (hx:x.list = false):yka x:=by
 intro W B b q bs sx hq hqB hBW hbl hsx hwt hroom;obtain ⟨A,c,rfl⟩:=hsx.slice;have hbt:ya0 x = ycl x.bytes:=by rw [yey,hx];rfl
 have hwx:=yeI x;have HB:=jh (ybT hbl (yaa (jr W none) (.cells #[.bool x.list,.string x.bytes,.slice A x.items.length c] 128)));have HG:=jh ((jd1 B W).alloc hBW (.cells #[.bool x.list,.string x.bytes,.slice A x.items.length c] 128));have hbz:(ja7 bs).length = bs.length:=by simp [ja7]
 rw [hbt];rw [hx] at HB HG ⊢;have hlz:x.bytes.data.toList.length = x.bytes.size:=jb0;generalize x.items.length = n at *;generalize hb:x.bytes = t at *;by_cases h1:t.size = 1 /\ (t.data.toList.getD 0 0).toNat < 128
 ·have hT:ycl t = t.data.toList:=if_pos h1;obtain ⟨h1,h2⟩:=h1;have hw:∀ V,jd2 97 5 B b (ja7 bs) V -> B <= V.heap.size -> _:=fun V hV hBV=>yaW B b (ja7 bs) t V hV (by rw [hbz];omega) hBV;have d1:0 < t.size:=by omega
  have hc:((t[0]'d1).toNat:Int) < 128:=by
   have e2:t.data[0]? = some (t[0]'d1):=Array.getElem?_eq_getElem d1;have:t.data.toList.getD 0 0 = t[0]'d1:=by rw [jg,Array.getElem?_toList,e2];rfl
   rw [<- this];omega
  have e1:((t.size:Int) == 1) = true:=by rw [beq_iff_eq];omega
  have HW:=jh hw;have HT:=jh hT;have HZ:=jh h1;clear hw hT hbl hsx hq h1 h2 hbz hlz hwx hb;go_enter Tryz.func156,Tryz.ntmps156
  go_wp2_with fail
  refine (HW.out _ HB.out (by simp;omega)).mono ?_;rintro e w2 ⟨rfl,hbl,hg⟩;have HG:=jh (HG.out.trans hg);have HL:Hid (ja7 bs ++ Lib.strCells t = ja7 (bs ++ t.data.toList)):=jh (by rw [yb1,ybg]);have HBL:=jh hbl;clear hbl hg;go_wp2_with fail
  go_end0
  exact ⟨rfl,by rw [HT.out,<- HL.out];exact HBL.out,HG.out⟩
 ·have hT:ycl t = ybb t.size 128 ++ t.data.toList:=if_neg h1;have hls:=yes t.size 128 (by omega);have hh:=fun V=>yg0 t 128 (by omega) (by omega) V;obtain ⟨r,hr⟩:∃ r,ybb t.size 128 ++ t.data.toList = r:=⟨_,rfl⟩;have hrl:r.length <= 9 + t.size:=by rw [<- hr,jla];omega
  rw [hr] at hT hh;have hw:∀ V,jd2 97 5 B b (ja7 bs) V -> B <= V.heap.size -> _:=fun V hV hBV=>yaW B b (ja7 bs) ⟨r.toArray⟩ V hV (by rw [hbz];show _ + r.toArray.size <= _;rw [jd5];omega) hBV
  have hguard:((t.size:Int) == 1) = false \/ (((t.size:Int) == 1) = true /\ ∃ d1:0 < t.size,decide (((t[0]'d1).toNat:Int) < 128) = false):=by
   by_cases hz:t.size = 1
   ·refine .inr ⟨by rw [beq_iff_eq];omega,by omega,?_⟩;have d1:0 < t.size:=by omega
    have e2:t.data[0]? = some (t[0]'d1):=Array.getElem?_eq_getElem d1;have:t.data.toList.getD 0 0 = t[0]'d1:=by rw [jg,Array.getElem?_toList,e2];rfl
    have h2:¬ (t.data.toList.getD 0 0).toNat < 128:=fun h=>h1 ⟨hz,h⟩;rw [this] at h2;exact decide_eq_false (by omega)
   ·exact .inl (by rw [beq_eq_false_iff_ne];omega)
  have HW:=jh hw;have HT:=jh hT;have HH:=jh hh;clear hw hT hh hbl hsx hq h1 hbz hlz hwx hb hr hls hrl;rcases hguard with e1 | ⟨e1,d1,e2⟩
  all_goals
   go_enter Tryz.func156,Tryz.ntmps156
   go_wp2_with fail
   refine (HH.out _).mono ?_;rintro e w2 ⟨rfl,hg1⟩;have HB:=jh (ybT HB.out hg1);have HG:=jh (HG.out.trans ((yaE hg1).mono (by simp;omega)));have hz2:=hg1.size;simp only [jsa] at hz2;have HZ2:=jh hz2;clear hg1 hz2;go_wp2_with fail
   refine (HW.out _ HB.out (by have:=HZ2.out;omega)).mono ?_;rintro e w3 ⟨rfl,hbl,hg⟩;have HG:=jh (HG.out.trans hg);have HL:Hid (ja7 bs ++ Lib.strCells ⟨r.toArray⟩ = ja7 (bs ++ r)):=jh (by rw [yb1,ybg]);have HBL:=jh hbl;clear hbl hg;go_wp2_with fail
   go_end0
   exact ⟨rfl,by rw [HT.out,<- HL.out];exact HBL.out,HG.out⟩
theorem yld (x:Itm) (hx:x.list = true) (hC:∀ i,i < x.items.length -> yka (x.items.getD i Itm.none_)):yka x:=by
 intro W B b q bs sx hq hqB hBW hbl hsx hwt hroom;obtain ⟨A,c,rfl⟩:=hsx.slice;have hbt:ya0 x = ybb (bytesL x.items).length 192 ++ bytesL x.items:=by rw [yey,hx];rfl
 have hwx:=yeI x;have hok:=yjB x hwt;have hbz:(ja7 bs).length = bs.length:=by simp [ja7]
 have hlen:=bytesL_len x.items (by omega);have hG1:=yaa (jr W none) (.cells #[.bool x.list,.string x.bytes,.slice A x.items.length c] 128);have hW1:=(jd1 B W).alloc hBW (.cells #[.bool x.list,.string x.bytes,.slice A x.items.length c] 128);have hx0:=Blk.new W 128 #[.bool x.list,.string x.bytes,.slice A x.items.length c];have hB1:=ybT hbl hG1;have hS1:=hsx.belowB hW1;have hQ1:=Boxed.belowB hq hW1 hqB;have hn:=hok.items;have hlast:=jlt hBW hG1.size;rw [hbt];rw [hx] at hG1 hW1 hx0 hB1 hS1 hQ1 hlast ⊢;go_enter Tryz.func156,Tryz.ntmps156
 go_upto_region 2 with (fail)
 generalize W.alloc (.cells #[.bool true,.string x.bytes,.slice A x.items.length c] 128) = W1 at *;obtain ⟨b0,hb0⟩:∃ b0,W.heap.size = b0:=⟨_,rfl⟩;rw [hb0] at hx0 ⊢;have c0:=hx0.cell 0;have c1:=hx0.cell 2;simp only [jta,jcz,jcs] at c0 c1;go_upto_region 4 with (fail)
 have hin:=ydW W1
 have hkeep0:∀ V,Below W1.heap.size (W1.alloc (.cells #[.pointer none,.slice none 0 0] 97)) V -> jd2 97 5 B b (ja7 bs) V:=fun V hV =>
  yiy hB1 fun g hg=>(hV.block g hg).trans (Below.heap_alloc W1 _ g hg)
 have hB2:=ybT hB1 (yaa (jr W1 none) (.cells #[.pointer none,.slice none 0 0] 97));have hx2:=hx0.alloc (.cells #[.pointer none,.slice none 0 0] 97);have hW2:=hW1.alloc hlast (.cells #[.pointer none,.slice none 0 0] 97);have hS2:=hS1.belowB ((jd1 B W1).alloc hlast (.cells #[.pointer none,.slice none 0 0] 97));have hQ2:=Boxed.belowB hQ1 ((jd1 B W1).alloc hlast (.cells #[.pointer none,.slice none 0 0] 97)) hqB;have hlt0:=hx0.lt;have hlb:=(ylh hB1).1;obtain ⟨D,hD⟩:∃ D,W1.heap.size = D:=⟨_,rfl⟩;have hz2:(W1.alloc (.cells #[.pointer none,.slice none 0 0] 97)).heap.size = D + 1:=by simp [hD]
 rw [hD] at hin hlast hlt0 hlb hkeep0 ⊢;generalize W1.alloc (.cells #[.pointer none,.slice none 0 0] 97) = W2 at *;clear hB1 hx0 hW1 hS1 hQ1 c0 c1 hG1 hbl hsx hq;have c1:=hx2.cell 2;simp only [jta,jcz,jcs] at c1;have hkeep:=hkeep0;obtain ⟨xs,hxs⟩:∃ xs,x.items = xs:=⟨_,rfl⟩;obtain ⟨n,hnn⟩:∃ n,xs.length = n:=⟨_,rfl⟩;rw [hxs] at hn hwx hlen hS2 hC hx2 c1 ⊢;rw [hnn] at hn hS2 hx2 c1 ⊢;have HN:=jh hnn;have HXS:=jh hxs;have HC:=jh hC;have HQ:=jh hQ2;have HK:=jh hkeep;have HBT:=jh hbt
 have hwi:∀ k,k < xs.length -> wtF (xs.getD k Itm.none_) + (bytesL (xs.take k)).length <= 1000000000:=by
  intro k hk;have h1:=yi4 hk;have h2:=ynb xs k;have h3:=bytesL_len (xs.take k) (by omega);omega
 have HWI:=jh hwi;have HLEN:=jh hlen;clear hC hQ2 hkeep hkeep0 hok hwi hxs hnn hbt hlen hB2 hx;go_wp2_with fail
 go_loopw [19] (fun i wr=>∃ k:Nat,i = .int .i64 k /\ k <= n /\ Below D W2 wr /\ Hid (jd2 97 5 D D (ja7 (bytesL (xs.take k))) wr)) (fun i _=>n - (intOf i).toNat)
 case atStart=>exact ⟨0,rfl,by omega,jd1 _ _,jh hin⟩
 case round =>
  obtain ⟨k,rfl,hk,hbw,hI⟩:=hrel;have HI:=jh hI.out;clear hI;by_cases hlt:k < n
  ·have hS:=hS2.belowB (hbw.mono (by omega));obtain ⟨he,vs,hvs,hr⟩:=hS.row;rw [HN.out] at hvs hr;obtain ⟨g,off,rfl,hgB,hc⟩:=hr (by omega);obtain ⟨k0,k1,k2⟩:=hc k hlt;have hsv:=hvs k hlt;obtain ⟨y,hy⟩:∃ y,xs.getD k Itm.none_ = y:=⟨_,rfl⟩;have hCk:=HC.out k (by have:=HN.out;omega);have hw1:=HWI.out k (by have:=HN.out;omega);have htk:=yhA (xs:=xs) (k:=k) (by have:=HN.out;omega);rw [hy] at k0 k1 hsv hCk hw1 htk;generalize vs.getD k undef = sv at *;obtain ⟨As,cs,rfl⟩:=hsv.slice;have HCK:=jh hCk;have HY:=jh hy;have HTK:=jh htk;have HSV:=jh hsv;have hq:=Boxed.belowB HQ.out hbw (by omega);have q0:=hq.cell;have hwsz:=hbw.size;have hql:=hq.lt;have q1:(k:Int) < (n:Int):=by omega
   clear hS hvs hr hc hCk hy htk hsv he hq;go_wp2_with fail
   have hbw2:Below D W2 (wr.alloc (.cells #[.bool y.list,.string y.bytes,.slice As y.items.length cs] 128)):=hbw.alloc (by omega) _;have hgA:=yaa (jr wr none) (.cells #[.bool y.list,.string y.bytes,.slice As y.items.length cs] 128);refine (HCK.out _ D D q (bytesL (xs.take k)) _ (Boxed.belowB HQ.out hbw2 (by omega)) (by omega) (by simp;omega) (ybT HI.out hgA) ((HSV.out.belowB (B:=B) ((jd1 B wr).alloc (by omega) _)).weak fun g hg=>jb6 hg hlast) (by omega) (by omega)).mono ?_;rintro e w3 ⟨rfl,hb3,hbe3⟩;have hbw3:=hbw2.trans hbe3;have hI3:Hid (jd2 97 5 D D (ja7 (bytesL (xs.take (k + 1)))) w3):=jh (by rw [HTK.out,yjo];exact hb3);clear hb3 hbe3 hbw2 hgA q0 k0 k1 k2 HSV HCK;go_wp2_with fail
   exact ⟨⟨k + 1,by go_num,by omega,hbw3,hI3⟩,by simp [intOf];omega⟩
  ·obtain rfl:k = n:=by omega
   have hfin:decide ((k:Int) < (k:Int)) = false:=by simp
   have hall:xs.take k = xs:=by rw [<- HN.out,List.take_length]
   have hI:=HI.out;rw [hall] at hI;have HI2:=jh hI;clear hI hall HI;obtain ⟨l,hl⟩:∃ l,bytesL xs = l:=⟨_,rfl⟩;have HL:=jh hl;rw [hl] at HI2 HLEN;have hsz:=hbw.size;have hstr:=fun V (hV:jd2 97 5 D D (ja7 l) V) (hDV:D <= V.heap.size)=>yb6 D D l V hV hDV;have HSTR:=jh hstr;clear hl hstr;go_wp2_with fail
   refine (HSTR.out _ HI2.out (by omega)).mono ?_;rintro e w3 ⟨rfl,hb3⟩;have hbw:=hbw.trans hb3;have hsz:=hbw.size;clear hb3;go_wp2_with fail
   have hlz:(⟨l.toArray⟩:ByteArray).size = l.length:=by show l.toArray.size = _;simp
   have hll:l.length <= 1000000000:=by have:=HLEN.out;omega
   refine (yg0 ⟨l.toArray⟩ 192 (by rw [hlz];exact hll) (by omega) w3).mono ?_;rw [hlz];rintro e w4 ⟨rfl,hg4⟩;have hls:=yes l.length 192 hll;have hbw:=hbw.trans ((yaE hg4).mono (by omega));have hsz:=hbw.size;clear hg4;obtain ⟨r,hr⟩:∃ r,ybb l.length 192 ++ l = r:=⟨_,rfl⟩;have hrl:r.length <= 9 + l.length:=by rw [<- hr,jla];omega
   have hr2:ybb l.length 192 ++ (⟨l.toArray⟩:ByteArray).data.toList = r:=hr;rw [hr2];have HR:=jh hr
   have hwl:(ja7 bs).length + (⟨r.toArray⟩:ByteArray).size <= 140737488355328:=by
    rw [hbz];show _ + r.toArray.size <= _;rw [jd5];omega
   have HWL:=jh hwl;clear hr hr2 hlz hls hwl hrl hll;go_wp2_with fail
   refine (yaW B b (ja7 bs) ⟨r.toArray⟩ _ (HK.out _ hbw) HWL.out (by omega)).mono ?_;rintro e w5 ⟨rfl,hb5,hbe5⟩;have hfin:=(hW2.trans (hbw.mono hlast)).trans hbe5;have HF:=jh hfin
   have HB5:Hid (jd2 97 5 B b (ja7 (bs ++ r)) w5):=jh (by
    rw [yb1,<- ybg] at hb5;exact hb5)
   clear hfin hbe5 hbw hb5;go_wp2_with fail
   go_end0
   exact ⟨rfl,by rw [HXS.out,HL.out,HR.out];exact HB5.out,HF.out⟩
theorem yj0 (x:Itm):yka x:=by
 generalize hn:SizeOf.sizeOf x = n
 induction n using Nat.strongRecOn generalizing x with
 | _ n ih =>
  subst hn;cases hx:x.list with
  | true=>exact yld x hx fun i hi=>ih _ (Itm.size_get hi) _ rfl
  | false=>exact ylc x hx
theorem yiv (x:Itm) (sx:Value) (W:World) (hsx:SubW W x.items sx) (hwt:wtF x <= 1000000000) :
  Calls jq 125 #[.agg #[.bool x.list,.string x.bytes,sx]] W fun e W'=>e = .returned (.string ⟨(ya0 x).toArray⟩) /\ W.grownBy W' none:=by
 obtain ⟨A,c,rfl⟩:=hsx.slice;have hwk:=yj0 x;have hx0:=Blk.new W 128 #[.bool x.list,.string x.bytes,.slice A x.items.length c];have hG1:=yaa (jr W none) (.cells #[.bool x.list,.string x.bytes,.slice A x.items.length c] 128);have hS1:=hsx.grown hG1;have hmf:∀ (fn:Fn) (first cap:Array Value) (w:World),(Instr.makeFunc fn first cap).run jq w = .ok (.func fn first cap) w:=fun _ _ _ _=>rfl;go_enter Tryz.func125,Tryz.ntmps125
 go_upto_region 4 with (fail)
 have hq:=Boxed.new (W.alloc (.cells #[.bool x.list,.string x.bytes,.slice A x.items.length c] 128)) 197 (.func (.func 156) #[] #[.pointer (some ⟨W.heap.size + 1,0,none⟩)]);rw [jsa] at hq;have hx1:=hx0.alloc (.cells #[.func (.func 156) #[] #[.pointer (some ⟨W.heap.size + 1,0,none⟩)]] 197);have hG2:=yaa hG1 (.cells #[.func (.func 156) #[] #[.pointer (some ⟨W.heap.size + 1,0,none⟩)]] 197);have hS2:=hS1.grown (yaa (jr _ none) (.cells #[.func (.func 156) #[] #[.pointer (some ⟨W.heap.size + 1,0,none⟩)]] 197));have hz2:((W.alloc (.cells #[.bool x.list,.string x.bytes,.slice A x.items.length c] 128)).alloc (.cells #[.func (.func 156) #[] #[.pointer (some ⟨W.heap.size + 1,0,none⟩)]] 197)).heap.size = W.heap.size + 2:=by simp
 rw [show W.heap.size + 1 + 1 = W.heap.size + 2 by omega];generalize (W.alloc (.cells #[.bool x.list,.string x.bytes,.slice A x.items.length c] 128)).alloc (.cells #[.func (.func 156) #[] #[.pointer (some ⟨W.heap.size + 1,0,none⟩)]] 197) = W2 at *;clear hG1 hS1 hx0;have hbn:=ydW W2;rw [hz2] at hbn;have hq3:=hq.alloc (.cells #[.pointer none,.slice none 0 0] 97);have hx3:=hx1.alloc (.cells #[.pointer none,.slice none 0 0] 97);have hG3:=yaa hG2 (.cells #[.pointer none,.slice none 0 0] 97)
 have hS3:SubV (fun g=>g < W.heap.size + 2) (W2.alloc (.cells #[.pointer none,.slice none 0 0] 97)) x.items (.slice A x.items.length c):=by
  refine SubV.weak (S:=fun g=>g < W2.heap.size) (SubV.keep hS2 fun p hp u hu=>?_) (fun g hg=>by rw [<- hz2];exact hg);rw [World.cell?_alloc_lt W2 _ p hp];exact hu
 have hz3:(W2.alloc (.cells #[.pointer none,.slice none 0 0] 97)).heap.size = W.heap.size + 3:=by simp [hz2]
 generalize W2.alloc (.cells #[.pointer none,.slice none 0 0] 97) = W3 at *;have q0:=hq3.cell;have c0:=hx3.cell 0;have c1:=hx3.cell 1;have c2:=hx3.cell 2;simp only [jta,jcz,jcs] at c0 c1 c2;have hcall:=yj0 x W3 (W.heap.size + 2) (W.heap.size + 2) (W.heap.size + 1) [] _ hq3 (by omega) (by omega) hbn hS3 hwt (by simp;omega);have HCALL:=jh hcall;have HG3:=jh hG3;have HZ3:=jh hz3;obtain ⟨r,hr⟩:∃ r,ya0 x = r:=⟨_,rfl⟩;have HR:=jh hr;rw [hr] at HCALL;clear hcall hG3 hG2 hS2 hS3 hq hq3 hx1 hx3 hbn hz2 hz3 hr hwk;go_wp2_with fail
 refine HCALL.out.mono ?_;rintro e w4 ⟨rfl,hb4,hbe⟩;have hz4:=hbe.size;have hG4:=yeN HG3.out hbe (by omega);have HG4:=jh hG4;have hst:=yb6 (W.heap.size + 2) (W.heap.size + 2) r w4 hb4 (by have:=HZ3.out;omega);have HST:=jh hst;clear hst hb4 hbe hG4;go_wp2_with fail
 refine HST.out.mono ?_;rintro e w5 ⟨rfl,hbe5⟩;have HG5:=jh (yeN HG4.out hbe5 (by omega));clear hbe5;go_wp2_with fail
 go_ret
 exact ⟨by rw [HR.out];rfl,HG5.out⟩
theorem yno (x:Itm) (sx:Value) (W:World) (hsx:SubW W x.items sx) (hwt:wtF x <= 1000000000) :
  Calls jq 155 #[.agg #[.bool x.list,.string x.bytes,sx]] W fun e W'=>e = .returned (.int .i64 ((ya0 x).length:Int)) /\ W.grownBy W' none:=by
 obtain ⟨A,c,rfl⟩:=hsx.slice;have hG1:=yaa (jr W none) (.cells #[.bool x.list,.string x.bytes,.slice A x.items.length c] 128);have HB:=jh (yiv x _ _ (hsx.grown hG1) hwt);have HG:=jh hG1;clear hG1 hsx;go_enter Tryz.func155,Tryz.ntmps155
 go_wp2_with fail
 refine HB.out.mono ?_;rintro e w2 ⟨rfl,hg⟩;have HG:=jh (yab HG.out hg (by simp));clear hg;go_wp2_with fail
 go_ret
 exact ⟨rfl,HG.out⟩

theorem yoy (l m:List UInt8):(⟨l.toArray⟩:ByteArray) ++ ⟨m.toArray⟩ = ⟨(l ++ m).toArray⟩:=ycW (by rw [ye2])
theorem ymV (l:List UInt8):(⟨l.toArray⟩:ByteArray).size = l.length:=by show l.toArray.size = _;simp
def yfp (E:Int):List PanicEntry:=[{ v:=.iface 192 (.agg #[.int .i64 E]),recovered:=false }]
theorem ygY (E:Int) (W:World):Calls jq 154 #[.bool true,.int .i64 E] W fun e W'=>e = .returned (.tuple #[]) /\ W' = W:=by
 go_enter Tryz.func154,Tryz.ntmps154
 go_wp2_with fail
 go_end0
 exact ⟨rfl,rfl⟩
theorem yiO (E:Int) (W:World):Calls jq 154 #[.bool false,.int .i64 E] W fun e W'=>e = .panicked (yfp E) /\ W' = W:=by
 go_enter Tryz.func154,Tryz.ntmps154
 go_wp2_with fail
 exact ⟨rfl,rfl,rfl⟩
theorem yg7 {xs:List Itm} {d k:Nat} (hk:k < xs.length) (h:formL (xs.take k) d = 0):formL (xs.take (k + 1)) d = yaO (xs.getD k Itm.none_) d:=by
 rw [yhA hk];generalize xs.getD k Itm.none_ = y;generalize xs.take k = l at h ⊢
 induction l with
 | nil=>simp only [List.nil_append,formL];split <;> simp_all
 | cons z l ih =>
  rw [formL] at h;rw [jc9,formL];split at h
  ·rename_i h1;exact absurd h h1
  ·rename_i h1;rw [if_neg h1];exact ih h
theorem ym1 {l m:List Itm} {d:Nat} (h:formL l d ≠ 0):formL (l ++ m) d = formL l d:=by
 induction l with
 | nil=>exact absurd rfl h
 | cons z l ih =>
  rw [formL] at h;rw [jc9,formL,formL];split
  ·rfl
  ·rename_i h1;rw [if_neg h1] at h;exact ih h
theorem ym0 {xs:List Itm} {d k:Nat} (hk:k < xs.length) (h0:formL (xs.take k) d = 0) (h:yaO (xs.getD k Itm.none_) d ≠ 0):formL xs d = yaO (xs.getD k Itm.none_) d:=by
 have h1:=yg7 hk h0;have:=ym1 (l:=xs.take (k + 1)) (m:=xs.drop (k + 1)) (d:=d) (by rw [h1];exact h);rw [jd0] at this;rw [this,h1]
def ydu (E:Int):Ending:=if E = 0 then .returned (.tuple #[]) else .panicked (yfp E)
def ypL (x:Itm):Prop:=∀ (W:World) (d:Nat) (sx:Value),SubW W x.items sx -> wtF x <= 1000000000 -> d <= 1000 ->
 Calls jq 153 #[.agg #[.bool x.list,.string x.bytes,sx],.int .i64 (d:Int)] W fun e W'=>e = ydu (yaO x d) /\ W.grownBy W' none
theorem yib (x:Itm) (d:Nat) (W:World) (sx:Value) (hsx:SubW W x.items sx) (h:(x.list = true /\ x.bytes.size ≠ 0) \/ (x.list = false /\ x.items.length ≠ 0)) :
  Calls jq 153 #[.agg #[.bool x.list,.string x.bytes,sx],.int .i64 (d:Int)] W fun e W'=>e = ydu (yaO x d) /\ W.grownBy W' none:=by
 obtain ⟨A,c,rfl⟩:=hsx.slice;have HF:Hid (yaO x d = 2):=jh (by rw [yev,if_pos h]);have HG:=jh (yaa (jr W none) (.cells #[.bool x.list,.string x.bytes,.slice A x.items.length c] 128));have HN:=jh (fun V=>yiO 2 V);rcases h with ⟨h1,h2⟩ | ⟨h1,h2⟩
 ·rw [h1] at HG ⊢
  have e1:(x.bytes.toList == []) = false:=by
   have:=yfv (a:=x.bytes) (b:=⟨#[]⟩) (by intro e;rw [e] at h2;exact h2 rfl);simpa using this
  have e2:x.bytes.toList.isEmpty = false:=by simpa using e1
  generalize x.bytes = b at *;generalize x.items.length = n at *;clear h2 h1;go_enter Tryz.func153,Tryz.ntmps153
  go_wp2_with fail
  refine (HN.out _).mono ?_;rintro e w2 ⟨rfl,rfl⟩;exact ⟨rfl,by rw [HF.out];rfl,HG.out⟩
 ·rw [h1] at HG ⊢;generalize x.bytes = b at *;generalize x.items.length = n at *;have e1:((n:Int) == 0) = false:=by simpa using h2
  clear h2 h1;go_enter Tryz.func153,Tryz.ntmps153
  go_wp2_with fail
  refine (HN.out _).mono ?_;rintro e w2 ⟨rfl,rfl⟩;exact ⟨rfl,by rw [HF.out];rfl,HG.out⟩
theorem ygx (x:Itm) (d:Nat) (W:World) (sx:Value) (hsx:SubW W x.items sx) (hok:x.items.length <= 9223372036854775807) (h:(x.list = false /\ x.items.length = 0) \/ (x.list = true /\ x.bytes.size = 0 /\ (12 <= d \/ 512 < x.items.length))) :
  Calls jq 153 #[.agg #[.bool x.list,.string x.bytes,sx],.int .i64 (d:Int)] W fun e W'=>e = ydu (yaO x d) /\ W.grownBy W' none:=by
 obtain ⟨A,c,rfl⟩:=hsx.slice;have HG:=jh (yaa (jr W none) (.cells #[.bool x.list,.string x.bytes,.slice A x.items.length c] 128));have HY:=jh (fun E V=>ygY E V);have HN:=jh (fun E V=>yiO E V);have hf:=yev x d;rcases h with ⟨h1,h2⟩ | ⟨h1,h2,h3⟩
 ·have HF:Hid (yaO x d = 0):=jh (by rw [hf,if_neg (by rw [h1,h2];simp),if_pos h1]);rw [h1] at HG ⊢;generalize x.bytes = b at *;generalize x.items.length = n at *;have e1:((n:Int) == 0) = true:=by simpa using h2
  clear h2 h1 hf hsx hok;go_enter Tryz.func153,Tryz.ntmps153
  go_wp2_with fail
  refine (HY.out _ _).mono ?_;rintro e w2 ⟨rfl,rfl⟩;go_wp2_with fail
  refine jbr (results_none rfl _ _ _) rfl ?_;exact ⟨by rw [HF.out];rfl,HG.out⟩
 ·have hb:x.bytes = ⟨#[]⟩:=ycW (by
   have:x.bytes.data.toList.length = 0:=by rw [jb0];exact h2
   exact jb7 this)
  by_cases h4:12 <= d
  ·have HF:Hid (yaO x d = 7):=jh (by rw [hf,if_neg (by rw [h1,h2];simp),if_neg (by rw [h1];simp),if_pos h4]);rw [h1,hb] at HG ⊢;generalize x.items.length = n at *;have e1:decide ((d:Int) < 12) = false:=decide_eq_false (by omega);have hx0:=Blk.new W 128 #[.bool true,.string ⟨#[]⟩,.slice A n c];clear h2 h1 hf hsx h3 h4 hok hb;go_enter Tryz.func153,Tryz.ntmps153
   go_wp2_with fail
   refine (HY.out _ _).mono ?_;rintro e w2 ⟨rfl,rfl⟩;go_wp2_with fail
   refine (HN.out _ _).mono ?_;rintro e w2 ⟨rfl,rfl⟩;exact ⟨rfl,by rw [HF.out];rfl,HG.out⟩
  ·have h5:512 < x.items.length:=by omega
   have HF:Hid (yaO x d = 5):=jh (by rw [hf,if_neg (by rw [h1,h2];simp),if_neg (by rw [h1];simp),if_neg h4,if_pos h5]);rw [h1,hb] at HG ⊢;generalize x.items.length = n at *;have e0:(d:Int) < 12:=by omega
   have e1:decide ((n:Int) <= 512) = false:=decide_eq_false (by omega);clear h2 h1 hf hsx h3 h4 hb;go_enter Tryz.func153,Tryz.ntmps153
   go_wp2_with fail
   refine (HY.out _ _).mono ?_;rintro e w2 ⟨rfl,rfl⟩;go_wp2_with fail
   refine (HY.out _ _).mono ?_;rintro e w2 ⟨rfl,rfl⟩;go_wp2_with fail
   refine (HN.out _ _).mono ?_;rintro e w2 ⟨rfl,rfl⟩;exact ⟨rfl,by rw [HF.out];rfl,HG.out⟩
theorem yk4 (x:Itm) (hC:∀ i,i < x.items.length -> ypL (x.items.getD i Itm.none_)) (d:Nat) (W:World) (sx:Value) (hsx:SubW W x.items sx) (hwt:wtF x <= 1000000000) (h1:x.list = true) (h2:x.bytes.size = 0) (h3:d < 12) (h4:x.items.length <= 512) :
  Calls jq 153 #[.agg #[.bool x.list,.string x.bytes,sx],.int .i64 (d:Int)] W fun e W'=>e = ydu (yaO x d) /\ W.grownBy W' none:=by
 obtain ⟨A,c,rfl⟩:=hsx.slice;have HY:=jh (fun E V=>ygY E V);have hf:yaO x d = formL x.items (d + 1):=by rw [yev,if_neg (by rw [h1,h2];simp),if_neg (by rw [h1];simp),if_neg (by omega),if_neg (by omega)]
 have hb:x.bytes = ⟨#[]⟩:=ycW (by
  have:x.bytes.data.toList.length = 0:=by rw [jb0];exact h2
  exact jb7 this)
 have hG1:=yaa (jr W none) (.cells #[.bool x.list,.string x.bytes,.slice A x.items.length c] 128);have hx0:=Blk.new W 128 #[.bool x.list,.string x.bytes,.slice A x.items.length c];have hS1:=hsx.grown hG1;have hwx:=yeI x;rw [h1,hb] at hG1 hx0 hS1;rw [h1,hb];obtain ⟨xs,hxs⟩:∃ xs,x.items = xs:=⟨_,rfl⟩;obtain ⟨n,hnn⟩:∃ n,xs.length = n:=⟨_,rfl⟩
 have hwi:∀ k,k < xs.length -> wtF (xs.getD k Itm.none_) <= 1000000000:=by
  intro k hk;have:=yi4 hk;rw [hxs] at hwx;omega
 rw [hxs] at hf hG1 hx0 hS1 hC h4 ⊢;rw [hnn] at hG1 hx0 hS1 h4 ⊢;have HFX:=jh hf;have HC:=jh hC;have HN:=jh hnn;have HWI:=jh hwi;have e0:(d:Int) < 12:=by omega
 have e1:(n:Int) <= 512:=by omega
 have v1:IntKind.i64.wrap ((d:Int) + 1) = (d:Int) + 1:=jii _ (by omega);clear hf hC hnn hxs hsx hwi hwx hwt h1 h2 hb;go_enter Tryz.func153,Tryz.ntmps153
 go_upto_region 1 with (fail)
 generalize W.alloc (.cells #[.bool true,.string ⟨#[]⟩,.slice A n c] 128) = W1 at *;obtain ⟨b0,hb0⟩:∃ b0,W.heap.size = b0:=⟨_,rfl⟩;rw [hb0] at hx0 ⊢;have c0:=hx0.cell 0;have c2:=hx0.cell 1;have c1:=hx0.cell 2;simp only [jta,jcz,jcs] at c0 c1 c2;go_wp2_with fail
 refine (HY.out _ _).mono ?_;rintro e w2 ⟨rfl,rfl⟩;go_wp2_with fail
 refine (HY.out _ _).mono ?_;rintro e w2 ⟨rfl,rfl⟩;go_wp2_with fail
 refine (HY.out _ _).mono ?_;rintro e w2 ⟨rfl,rfl⟩;go_wp2_with fail
 clear c0 c1 c2;go_loopw [39] (fun i wr=>∃ k:Nat,i = .int .i64 k /\ k <= n /\ w2.grownBy wr none /\ Hid (formL (xs.take k) (d + 1) = 0)) (fun i _=>n - (intOf i).toNat)
 case atStart=>exact ⟨0,rfl,by omega,jr _ _,jh rfl⟩
 case round =>
  obtain ⟨k,rfl,hk,hg,hI⟩:=hrel;have HI:=jh hI.out;by_cases hlt:k < n
  ·have hS:=hS1.grown hg;obtain ⟨he,vs,hvs,hr⟩:=hS.row;rw [HN.out] at hvs hr;obtain ⟨g,off,rfl,hgB,hc⟩:=hr (by omega);obtain ⟨k0,k1,k2⟩:=hc k hlt;have hsv:=hvs k hlt;obtain ⟨y,hy⟩:∃ y,xs.getD k Itm.none_ = y:=⟨_,rfl⟩;have hkx:k < xs.length:=by have:=HN.out;omega
   have hCk:=HC.out k hkx;have hw1:=HWI.out k hkx;have htk:=yg7 hkx HI.out;have herr:=ym0 hkx HI.out;rw [hy] at k0 k1 hsv hCk hw1 htk herr;generalize vs.getD k undef = sv at *;obtain ⟨As,cs,rfl⟩:=hsv.slice;have hgA:=yaa (jr wr none) (.cells #[.bool y.list,.string y.bytes,.slice As y.items.length cs] 128);have HCK:=jh (hCk _ (d + 1) _ (SubW.grown hsv hgA) hw1 (by omega));have HTK:=jh htk;have HERR:=jh herr;have HG2:=jh (yab hg hgA (by simp));have q1:(k:Int) < (n:Int):=by omega
   clear hS hvs hr hc hCk hy htk hsv he hgA herr hw1 hkx;go_wp2_with fail
   refine HCK.out.mono ?_;rintro e w3 ⟨rfl,hg3⟩;have hG3:=yab HG2.out hg3 (by simp);by_cases hE:yaO y (d + 1) = 0
   ·rw [hE,show ydu 0 = Ending.returned (.tuple #[]) from rfl];have HI3:Hid (formL (xs.take (k + 1)) (d + 1) = 0):=jh (by rw [HTK.out,hE]);clear hg3 k0 k1 k2 HCK hE;go_wp2_with fail
    exact ⟨⟨k + 1,by go_num,by omega,hG3,HI3⟩,by simp [intOf];omega⟩
   ·have e1:ydu (yaO y (d + 1)) = .panicked (yfp (yaO y (d + 1))):=if_neg hE;rw [e1];exact ⟨rfl,by rw [HFX.out,HERR.out hE,e1],yab hG1 hG3 (by simp)⟩
  ·obtain rfl:k = n:=by omega
   have hfin:decide ((k:Int) < (k:Int)) = false:=by simp
   have hall:xs.take k = xs:=by rw [<- HN.out,List.take_length]
   have hI2:=HI.out;rw [hall] at hI2;have HI2:=jh hI2;have HG2:=jh (yab hG1 hg (by simp));clear hall hI2;go_wp2_with fail
   go_end0
   exact ⟨by rw [HFX.out,HI2.out];rfl,HG2.out⟩
theorem ymh (x:Itm):ypL x:=by
 generalize hn:SizeOf.sizeOf x = n
 induction n using Nat.strongRecOn generalizing x with
 | _ n ih =>
  subst hn;intro W d sx hsx hwt hd;have hok:=(yjB x hwt).items;cases hl:x.list with
  | false =>
   rw [<- hl];by_cases h:x.items.length = 0
   ·exact ygx x d W sx hsx hok (.inl ⟨hl,h⟩)
   ·exact yib x d W sx hsx (.inr ⟨hl,h⟩)
  | true =>
   rw [<- hl];by_cases h:x.bytes.size = 0
   ·by_cases h3:12 <= d \/ 512 < x.items.length
    ·exact ygx x d W sx hsx hok (.inr ⟨hl,h,h3⟩)
    ·exact yk4 x (fun i hi=>ih _ (Itm.size_get hi) _ rfl) d W sx hsx hwt hl h (by omega) (by omega)
   ·exact yib x d W sx hsx (.inl ⟨hl,h⟩)
theorem yiu (b:Nat) (x:Value) (E:Int) (W:World) (hb:Boxed W b 28 x) :
  CallsD jq 152 #[.pointer (some ⟨b,0,none⟩)] (.panicking (yfp E)) W fun e u' w' =>
   e = .returned (.tuple #[]) /\ u' = .panicking [{ v:=.iface 192 (.agg #[.int .i64 E]),recovered:=true }] /\ w' = (W.alloc (.cells #[.int .i64 E] 192)).setCell ⟨b,0,none⟩ (.int .i64 E):=by
 have hb1:=hb.alloc (.cells #[.int .i64 E] 192);have c0:=hb1.cell;have f0:=hb1.frozen;have c1:=(Boxed.new W 192 (.int .i64 E)).cell;have ha:∀ (v:Value) (V:World),(Instr.typeAssert (.iface 192 v) 20 192 true).run jq V = .ok (.tuple #[v,.bool true]) V:=fun _ _=>by kernel_rfl
 refine callsD_of_wpS Tryz.func152 rfl fun c₀ cs hu=>?_;simp only [Tryz.ntmps152,jd5,jlc,List.length_nil,Nat.reduceAdd,Nat.reduceSub,Array.replicate_succ,Array.replicate_zero,List.push_toArray,List.append_toArray,List.nil_append,jc9];apply wpS_seq;apply wpS_region;simp [wpOpsS,go_sem,recoverD,hu,Exit.thenS,yfp,ha];apply wpS_seq;apply wpS_region;simp [wpOpsS,go_sem,Exit.thenS];refine wpS_cond (t:=true) (by simp [Act.eval]) ?_;simp only [if_true];apply wpS_region;generalize W.alloc (.cells #[.int .i64 E] 192) = W1 at *;simp [wpOpsS,go_sem,c0,f0,c1,bodyPostS,results,Tryz.results152]
theorem ylb (b:Nat) (W:World) :
  CallsD jq 152 #[.pointer (some ⟨b,0,none⟩)] .returning W fun e u' w' =>
   e = .returned (.tuple #[]) /\ u' = .returning /\ w' = W.alloc (.cells #[.int .i64 0] 192):=by
 have ha:∀ (V:World),(Instr.typeAssert .nilIface 20 192 true).run jq V = .ok (.tuple #[.agg #[.int .i64 0],.bool false]) V:=fun _=>by kernel_rfl
 refine callsD_of_wpS Tryz.func152 rfl fun c₀ cs hu=>?_;simp only [Tryz.ntmps152,jd5,jlc,List.length_nil,Nat.reduceAdd,Nat.reduceSub,Array.replicate_succ,Array.replicate_zero,List.push_toArray,List.append_toArray,List.nil_append,jc9];apply wpS_seq;apply wpS_region;simp [wpOpsS,go_sem,recoverD,hu,Exit.thenS,ha];apply wpS_seq;apply wpS_region;simp [wpOpsS,go_sem,Exit.thenS];refine wpS_cond (t:=false) (by simp [Act.eval]) ?_;simp only [Bool.false_eq_true,if_false];refine wpS_of_wp (wp_skip ?_);cases c₀
 simp_all [bodyPostS,results,Tryz.results152]
theorem yeL {R:Ending -> World -> Prop} {tmps:Array Value} {b:Nat} {x:Value} {E:Int} {W:World} (htm:tmps.getD 2 undef = .pointer (some ⟨b,0,none⟩)) (hb:Boxed W b 28 x)
  (hR:R (.returned (.int .i64 E)) ((W.alloc (.cells #[.int .i64 E] 192)).setCell ⟨b,0,none⟩ (.int .i64 E))) :
  Leaves jq Tryz.f124 tmps R [{ target:=.fn (.func 152) #[.pointer (some ⟨b,0,none⟩)],args:=#[] }] (.panicking (yfp E)) W:=by
 refine leaves_cons (f:=152) (args:=#[.pointer (some ⟨b,0,none⟩)]) (by simp) (by simp [go_sem]) ?_;refine (yiu b x E W hb).mono ?_;rintro e u' w'' ⟨rfl,rfl,rfl⟩;have hb1:=(hb.alloc (.cells #[.int .i64 E] 192)).set (.int .i64 E);exact ⟨_,ya6 (fn:=Tryz.f124) rfl _ _ _ _ htm (ya3 jc8 rfl hb1.cell),hR⟩
theorem yk7 {R:Ending -> World -> Prop} {tmps:Array Value} {b:Nat} {E:Int} {W:World} (htm:tmps.getD 2 undef = .pointer (some ⟨b,0,none⟩)) (hb:Boxed W b 28 (.int .i64 E))
  (hR:R (.returned (.int .i64 E)) (W.alloc (.cells #[.int .i64 0] 192))) :
  Leaves jq Tryz.f124 tmps R [{ target:=.fn (.func 152) #[.pointer (some ⟨b,0,none⟩)],args:=#[] }] .returning W:=by
 refine leaves_cons (f:=152) (args:=#[.pointer (some ⟨b,0,none⟩)]) (by simp) (by simp [go_sem]) ?_;refine (ylb b W).mono ?_;rintro e u' w'' ⟨rfl,rfl,rfl⟩;exact ⟨_,ya6 (fn:=Tryz.f124) rfl _ _ _ _ htm (ya3 jc8 rfl (hb.alloc _).cell),hR⟩
def ybG (x:Itm):Int:=if yaO x 0 ≠ 0 then yaO x 0 else if 65536 < (ya0 x).length then 5 else 0
theorem ykZ (x:Itm) (W:World) (sx:Value) (hsx:SubW W x.items sx) (hwt:wtF x <= 1000000000) :
  Calls jq 124 #[.agg #[.bool x.list,.string x.bytes,sx]] W fun e W'=>e = .returned (.int .i64 (ybG x)) /\ W.grownBy W' none:=by
 obtain ⟨A,c,rfl⟩:=hsx.slice;have hmf:∀ (fn:Fn) (first cap:Array Value) (w:World),(Instr.makeFunc fn first cap).run jq w = .ok (.func fn first cap) w:=fun _ _ _ _=>rfl;have hx0:=(Blk.new W 128 #[.bool x.list,.string x.bytes,.slice A x.items.length c]).alloc (.cells #[.int .i64 0] 28);have hr0:=Boxed.new (W.alloc (.cells #[.bool x.list,.string x.bytes,.slice A x.items.length c] 128)) 28 (.int .i64 0);rw [jsa] at hr0;have hG1:=yaa (yaa (jr W none) (.cells #[.bool x.list,.string x.bytes,.slice A x.items.length c] 128)) (.cells #[.int .i64 0] 28);have hS1:=hsx.grown hG1;go_enter_defers Tryz.func124,Tryz.ntmps124
 go_upto_region 2 with (fail)
 have HNY:=jh (fun E V=>ygY E V);have HNN:=jh (fun E V=>yiO E V);obtain ⟨b,hb⟩:∃ b,W.heap.size = b:=⟨_,rfl⟩;rw [hb] at hx0 hr0 ⊢;have hbg:W.heap.size <= b + 1:=by omega
 generalize (W.alloc (.cells #[.bool x.list,.string x.bytes,.slice A x.items.length c] 128)).alloc (.cells #[.int .i64 0] 28) = W1 at *;have c0:=hx0.cell 0;have c1:=hx0.cell 1;have c2:=hx0.cell 2;simp only [jta,jcz,jcs] at c0 c1 c2;have hlk:=ymh x W1 0 _ hS1 hwt (by omega);have HL:=jh hlk;clear hlk hsx hb hmf;go_wp2_with fail
 refine HL.out.mono ?_;rintro e w2 ⟨rfl,hg2⟩;have hG2:=yab hG1 hg2 (by simp);have hr2:=hr0.kept hg2 (by simp);by_cases hE:yaO x 0 = 0
 ·rw [hE,show ydu 0 = Ending.returned (.tuple #[]) from rfl];have hx2:=hx0.grown hg2 (by simp);have hS2:=hS1.grown hg2;have c0:=hx2.cell 0;have c1:=hx2.cell 1;have c2:=hx2.cell 2;simp only [jta,jcz,jcs] at c0 c1 c2;have HS:=jh (yno x _ _ hS2 hwt);have hcF:ybG x = if 65536 < (ya0 x).length then 5 else 0:=by unfold ybG;rw [if_neg (by simpa using hE)]
  have HCF:=jh hcF;generalize hl:(ya0 x).length = l at *;clear hcF hE hg2 hS2 hx2 hG1 hr0 hS1 hx0 HL;go_wp2_with fail
  refine HS.out.mono ?_;rintro e w3 ⟨rfl,hg3⟩;have hG3:=yab hG2 hg3 (by simp);have hr3:=hr2.kept hg3 (by simp);by_cases h5:65536 < l
  ·have e1:decide ((l:Int) <= 65536) = false:=decide_eq_false (by omega);have HC5:Hid (ybG x = 5):=jh (by rw [HCF.out,if_pos h5]);clear h5 hg3;go_wp2_with fail
   refine (HNN.out _ _).mono ?_;rintro e w4 ⟨rfl,rfl⟩;refine yeL rfl hr3 ⟨by rw [HC5.out],?_⟩;exact yar (yaa hG3 _) (p:=⟨b + 1,0,none⟩) hbg _
  ·have e1:(l:Int) <= 65536:=by omega
   have HC5:Hid (ybG x = 0):=jh (by rw [HCF.out,if_neg h5]);clear h5 hg3;go_wp2_with fail
   refine (HNY.out _ _).mono ?_;rintro e w4 ⟨rfl,rfl⟩;have r0:=hr3.cell;have r1:=hr3.frozen;go_wp2_with fail
   refine yk7 rfl (hr3.set (.int .i64 0)) ⟨by rw [HC5.out],?_⟩;exact yaa (yar hG3 (p:=⟨b + 1,0,none⟩) hbg _) _
 ·rw [show ydu (yaO x 0) = .panicked (yfp (yaO x 0)) from if_neg hE];have hcF:ybG x = yaO x 0:=if_pos hE;refine yeL rfl hr2 ⟨by rw [hcF],?_⟩;exact yar (yaa hG2 _) (p:=⟨b + 1,0,none⟩) hbg _
def encB (x:Itm):List UInt8:=if ybG x = 0 then ya0 x else []
theorem yjf (x:Itm) (W:World) (sx:Value) (hsx:SubW W x.items sx) (hwt:wtF x <= 1000000000) :
  Calls jq 91 #[.agg #[.bool x.list,.string x.bytes,sx]] W fun e W'=>e = .returned (.tuple #[.string ⟨(encB x).toArray⟩,.int .i64 (ybG x)]) /\ W.grownBy W' none:=by
 obtain ⟨A,c,rfl⟩:=hsx.slice;have hG1:=yaa (jr W none) (.cells #[.bool x.list,.string x.bytes,.slice A x.items.length c] 128);have hx0:=Blk.new W 128 #[.bool x.list,.string x.bytes,.slice A x.items.length c];have hS1:=hsx.grown hG1;have HK:=jh (ykZ x _ _ hS1 hwt);have HG:=jh hG1;have HS:=jh hS1;have HX:=jh hx0;obtain ⟨E,hE⟩:∃ E,ybG x = E:=⟨_,rfl⟩;rw [hE] at HK ⊢;by_cases h0:E = 0
 ·have HB:Hid (encB x = ya0 x):=jh (if_pos (by rw [hE,h0]));rw [h0] at HK ⊢;clear hG1 hx0 hS1 hsx hE h0;go_enter Tryz.func91,Tryz.ntmps91
  go_wp2_with fail
  refine HK.out.mono ?_;rintro e w2 ⟨rfl,hg2⟩;have hx2:=HX.out.grown hg2 (by simp);have hS2:=HS.out.grown hg2;have HG:=jh (yab HG.out hg2 (by simp));have c0:=hx2.cell 0;have c1:=hx2.cell 1;have c2:=hx2.cell 2;simp only [jta,jcz,jcs] at c0 c1 c2;have HY:=jh (yiv x _ _ hS2 hwt);clear hg2 hx2 hS2 HK;go_wp2_with fail
  refine HY.out.mono ?_;rintro e w3 ⟨rfl,hg3⟩;have HG:=jh (yab HG.out hg3 (by simp));clear hg3;go_wp2_with fail
  go_ret2
  exact ⟨by rw [HB.out];rfl,HG.out⟩
 ·have HB:Hid (encB x = []):=jh (if_neg (by rw [hE];exact h0));have e1:(E != 0) = true:=by simpa using h0
  clear hG1 hx0 hS1 hsx hE h0;go_enter Tryz.func91,Tryz.ntmps91
  go_wp2_with fail
  refine HK.out.mono ?_;rintro e w2 ⟨rfl,hg2⟩;have HG:=jh (yab HG.out hg2 (by simp));clear hg2 HK;go_wp2_with fail
  go_ret2
  exact ⟨by rw [HB.out];rfl,HG.out⟩



structure RdI (w:World) (b3:Nat) (v:Value) (j:Nat) (xs:List Itm) (vs:List Value) (u:World):Prop where
 held:Held3 w b3 v j (yb0 xs vs) u
 lx:xs.length = j
 lv:vs.length = j
 sub:∀ i,i < j -> SubV (fun g=>b3 + 1 <= g /\ v.ownBlock ≠ some g) u (xs.getD i Itm.none_).items (vs.getD i undef)
theorem RdI.kept {w u u':World} {b3 j:Nat} {v:Value} {xs:List Itm} {vs:List Value} (h:RdI w b3 v j xs vs u) (hg:u.grownBy u' none):RdI w b3 v j xs vs u' :=
 ⟨h.held.kept hg,h.lx,h.lv,fun i hi=>(h.sub i hi).grown hg⟩
theorem RdI.put {w u u2:World} {b3 j g' cap':Nat} {v:Value} {xs:List Itm} {vs:List Value} (h:RdI w b3 v j xs vs u) (x:Itm) (sv:Value) (hx:SubV (fun g=>b3 + 1 <= g /\ v.ownBlock ≠ some g) u x.items sv)
  (hown:u2.ownsRow (b3 + 1) 128 3 (.slice (some ⟨g',0,none⟩) (j + 1) cap') (j + 1) (yb0 xs vs ++ [.bool x.list,.string x.bytes,sv])) (hg:u.grownBy u2 v.ownBlock) (hob:(ja6 (some ⟨g',0,none⟩) (j + 1) cap').ownBlock = v.ownBlock \/ (ja6 (some ⟨g',0,none⟩) (j + 1) cap').ownBlock = some u.heap.size) :
  RdI w b3 (.slice (some ⟨g',0,none⟩) (j + 1) cap') (j + 1) (xs ++ [x]) (vs ++ [sv]) (u2.setCell ⟨b3,2,none⟩ (.slice (some ⟨g',0,none⟩) (j + 1) cap')):=by
 have key:∀ ys sv',SubV (fun g=>b3 + 1 <= g /\ v.ownBlock ≠ some g) u ys sv' -> SubV (fun g=>b3 + 1 <= g /\ (ja6 (some ⟨g',0,none⟩) (j + 1) cap').ownBlock ≠ some g) (u2.setCell ⟨b3,2,none⟩ (.slice (some ⟨g',0,none⟩) (j + 1) cap')) ys sv':=by
  intro ys sv' hs;refine (hs.lt.keep fun p hp c hc=>?_).weak fun g hS=>⟨hS.1.1,fun e=>?_⟩
  ·rw [World.cell?_setCell_far _ _ _ _ (by have:=hp.1.1;show b3 ≠ p.block;omega)];exact hg.cell hc (fun e=>hp.1.2 e.symm)
  ·rcases hob with e2 | e2
   ·exact hS.1.2 (e2.symm.trans e)
   ·have:=e2.symm.trans e;have:=ji this;have:=hS.2;omega
 refine ⟨h.held.put (by rw [yf8 xs vs (by rw [h.lx,h.lv])];exact hown) hg,by simp [h.lx],by simp [h.lv],fun i hi=>?_⟩;by_cases hij:i < j
 ·rw [jg,jal (by rw [h.lx];exact hij),<- jg,jg (l:=vs ++ [sv]),jal (by rw [h.lv];exact hij),<- jg];exact key _ _ (h.sub i hij)
 ·obtain rfl:i = j:=by omega
  rw [jg,jar (by rw [h.lx];omega),jg (l:=vs ++ [sv]),jar (by rw [h.lv];omega),h.lx,h.lv,Nat.sub_self];exact key _ _ hx
theorem RdI.row {w u:World} {b3 j c:Nat} {A:Option Addr} {xs:List Itm} {vs:List Value} (h:RdI w b3 (.slice A j c) j xs vs u):SubV (fun g=>b3 + 1 <= g) u xs (.slice A j c):=by
 obtain ⟨h1,h2,h3,h4⟩:=h;subst h2;exact SubV.of_own (by rw [h3]) h1.own (fun i hi=>(h4 i hi).weak fun g hg=>hg.1) (fun g hg=>yal h1.own hg)
def ycd (a:AccV):Itm:=.mk true ⟨#[]⟩ [txt a.addr,.mk true ⟨#[]⟩ (a.keys.map txt)]
def accI (l:List AccV):Itm:=.mk true ⟨#[]⟩ (l.map ycd)
theorem ynf (S:Nat -> Prop) (V:World) (p:ByteArray) (ys:List Itm) (A:Option Addr) (c:Nat) (hS:S V.heap.size) (h:SubV S V ys (.slice A ys.length c)) :
  SubV S (V.alloc (.cells #[.bool false,.string p,.slice none 0 0,.bool true,.string ⟨#[]⟩,.slice A ys.length c] 128)) [txt p,.mk true ⟨#[]⟩ ys] (.slice (some ⟨V.heap.size,0,none⟩) 2 2):=by
 have hb:=Blk.new V 128 #[.bool false,.string p,.slice none 0 0,.bool true,.string ⟨#[]⟩,.slice A ys.length c];have hg:=yaa (jr V none) (.cells #[.bool false,.string p,.slice none 0 0,.bool true,.string ⟨#[]⟩,.slice A ys.length c] 128);have hn:∀ W:World,SubV S W [] (.slice none 0 0):=fun W=>.mk [] none 0 [] (fun h=>by cases h) (fun i h=>by cases h);refine .mk [txt p,.mk true ⟨#[]⟩ ys] (some ⟨V.heap.size,0,none⟩) 2 [.slice none 0 0,.slice A ys.length c] ?_ ?_
 ·intro _;refine ⟨V.heap.size,0,rfl,hS,fun i hi=>?_⟩
  match i,hi with
  | 0,_=>exact ⟨hb.cell 0,hb.cell 1,hb.cell 2⟩
  | 1,_=>exact ⟨hb.cell 3,hb.cell 4,hb.cell 5⟩
 ·intro i hi
  match i,hi with
  | 0,_=>exact hn _
  | 1,_=>exact SubV.grown h hg
theorem yjw (B:Nat) (A:Option Addr) (n c:Nat) (ls:List AccV) (w:World) (h:AccR B w ls A n) (hB:B <= w.heap.size) (hn:n <= 1000) (hts:∀ l ∈ ls,l.keys.length <= 1000) :
  Calls jq 90 #[.slice A n c] w fun e w'=>∃ A' c',e = .returned (.agg #[.bool true,.string ⟨#[]⟩,.slice A' n c']) /\ SubV (fun g=>w.heap.size <= g) w' (ls.map ycd) (.slice A' n c') /\ w.grownBy w' none:=by
 have hl:ls.length = n:=h.1;have hRB:=Blk.new w 128 #[.bool false,.string ⟨#[]⟩,.slice none 0 0];have hG:=yaa (jr w none) (.cells #[.bool false,.string ⟨#[]⟩,.slice none 0 0] 128);have h:=h.grown hG hB;have hB1:=jlt hB hG.size;go_enter Tryz.func90,Tryz.ntmps90
 go_upto_region 1 with (fail)
 obtain ⟨b,hb⟩:∃ b,w.heap.size = b:=⟨_,rfl⟩;have HW:=jh hb;rw [hb] at hRB ⊢;have hz:(w.alloc (.cells #[.bool false,.string ⟨#[]⟩,.slice none 0 0] 128)).heap.size = b + 1:=by simp [hb]
 clear hb;generalize w.alloc (.cells #[.bool false,.string ⟨#[]⟩,.slice none 0 0] 128) = W1 at *;go_wp2_with fail
 refine (yeZ _ ⟨_,_,_,rfl⟩ _).mono ?_;rintro e w3 ⟨rfl,hg3⟩;obtain ⟨b3,hb3⟩:∃ b,w3.heap.size = b:=⟨_,rfl⟩;have hz3:=hg3.size
 have K0:RdI w3 b3 (.slice none 0 0) 0 ((ls.take 0).map ycd) [] (w3.alloc (.cells #[.bool true,.string ⟨#[]⟩,.slice none 0 0] 128)):=by
  refine ⟨⟨?_,jon _ _ _ _,yaa (jr w3 none) _,by simp;omega,by omega⟩,rfl,rfl,fun i hi=>absurd hi (by omega)⟩;have:=Blk.new w3 128 #[.bool true,.string ⟨#[]⟩,.slice none 0 0]
  rwa [hb3] at this
 have H0:=jh (h.grown hg3 hB1);have HL:=jh hl;have HB:Hid (B <= w3.heap.size):=jh (jlt hB1 hz3);have HB3:Hid (w3.heap.size = b3):=jh hb3;have HRB:=jh (hRB.grown hg3 (by simp));have HG:=jh (yab hG hg3 (by simp));have HZB:Hid (b + 1 <= b3):=jh (by omega);have HTS:=jh hts;clear hG hg3 hl hB hB1 hRB h hts;go_upto_region 2 with (fail)
 generalize w3.alloc (.cells #[.bool true,.string ⟨#[]⟩,.slice none 0 0] 128) = W4 at *;clear hz hz3 hb3;go_wp2_with fail
 go_loopw [9] (fun i wr=>∃ (k:Nat) (v:Value) (vs:List Value),i = .int .i64 k /\ k <= n /\ RdI w3 b3 v k ((ls.take k).map ycd) vs wr) (fun i _=>n - (intOf i).toNat)
 case atStart=>exact ⟨0,_,_,rfl,by omega,K0⟩
 case round =>
  clear K0;obtain ⟨k,v,vs,rfl,hk,K0⟩:=hrel;by_cases hlt:k < n
  ·obtain ⟨q,off,T,tc,x,rfl,hx,hmem,c0,c1,hT,_⟩:=(H0.out.grown K0.held.grown HB.out).at_ hlt;have q1:(k:Int) < (n:Int):=by omega
   have htl:=HTS.out x hmem
   have hTK:(ls.take k).map ycd ++ [ycd x] = (ls.take (k + 1)).map ycd:=by
    rw [List.take_add_one,je (by have:=HL.out;omega),List.map_append];rw [<- hx,jg,je (by have:=HL.out;omega)];rfl
   have HTK:=jh hTK;obtain ⟨its,hits⟩:∃ its,(ls.take k).map ycd = its:=⟨_,rfl⟩;rw [hits] at HTK K0;obtain ⟨ad,keys⟩:=x;simp only at c0 c1 hT htl;obtain ⟨kn,hkn⟩:∃ m,keys.length = m:=⟨_,rfl⟩;have hkl:(keys.map txt).length = kn:=by simp [hkn]
   rw [hkn] at c1 hT htl;have HBW:=jh (jlt HB.out K0.held.grown.size);have HTX:Hid (∀ V,wr.grownBy V none -> Calls jq 123 #[.slice T kn tc] V fun e w'=>∃ A' c',e = .returned (.agg #[.bool true,.string ⟨#[]⟩,.slice A' kn c']) /\ SubV (fun g=>V.heap.size <= g) w' (keys.map txt) (.slice A' kn c') /\ V.grownBy w' none):=jh fun V hV=>yls B T kn tc keys V (hT.grown hV HBW.out (by simp)) (jlt HBW.out hV.size) htl;clear hx hmem hT hTK hits htl hkn;obtain ⟨vA,vc,rfl⟩:=ybe K0.held.own;have hb7:=Blk.new wr 104 #[.string ad,.slice T kn tc];have hN7:(ja6 vA k vc).ownBlock ≠ some wr.heap.size:=fun e=>by have:=yds K0.held.own e;omega
   have hB7:b3 ≠ wr.heap.size:=by have:=K0.held.size;omega
   have K0:=K0.kept (yaa (jr wr none) (.cells #[.string ad,.slice T kn tc] 104));have hgu:=yaa (jr wr none) (.cells #[.string ad,.slice T kn tc] 104);go_upto_region 5 with (fail)
   obtain ⟨b7,hb7e⟩:∃ g,wr.heap.size = g:=⟨_,rfl⟩;rw [hb7e] at hb7 hN7 hB7 ⊢;have HN7:=jh hN7;have HB7:=jh hB7;clear hb7e hN7 hB7 c0 c1;generalize wr.alloc (.cells #[.string ad,.slice T kn tc] 104) = w5 at *;refine ybW 13 (fun b W=>b = false -> W.cell? ⟨b3,2,none⟩ = some (.slice vA k vc) /\ W.cell? ⟨b7,0,none⟩ = some (.string ad) /\ W.cell? ⟨b7,1,none⟩ = some (.slice T kn tc)) (by kernel_rfl) ?_;replace hb7:Blk w5.drew b7 104 #[.string ad,.slice T kn tc]:=hb7;replace hgu:=yau hgu;replace K0:RdI w3 b3 (.slice vA k vc) k its vs w5.drew:=K0.kept (yau (jr w5 none));generalize w5.drew = u0 at *;have hS0:false = false -> u0.cell? ⟨b3,2,none⟩ = some (.slice vA k vc) /\ u0.cell? ⟨b7,0,none⟩ = some (.string ad) /\ u0.cell? ⟨b7,1,none⟩ = some (.slice T kn tc):=fun _=>⟨K0.held.blk.cell 2,hb7.cell 0,hb7.cell 1⟩;refine zf 0 (.pointer (some ⟨b3,2,none⟩)) (some 13) rfl (fun W hW=>by go_simp) hS0 ?_;simp only [jp,jb,jz,js];refine zf 1 (.slice vA k vc) (some 14) rfl (fun W hW=>yaj 126 (.tmp 13) rfl _ rfl _ _ jc2 rfl (hW rfl).1) hS0 ?_;simp only [jp,jb,jz,js];refine zf 2 (.pointer (some ⟨b7,0,none⟩)) (some 15) rfl (fun W hW=>by go_simp) hS0 ?_;simp only [jp,jb,jz,js];refine zf 3 (.string ad) (some 16) rfl (fun W hW=>yaj 9 (.tmp 15) rfl _ rfl _ _ jb8 rfl (hW rfl).2.1) hS0 ?_;simp only [jp,jb,jz,js];refine zf 5 (.pointer (some ⟨b7,1,none⟩)) (some 18) rfl (fun W hW=>by go_simp) hS0 ?_;simp only [jp,jb,jz,js];refine zf 6 (.slice T kn tc) (some 19) rfl (fun W hW=>yaj 56 (.tmp 18) rfl _ rfl _ _ Tryz.underlying56 rfl (hW rfl).2.2) hS0 ?_;simp only [jp,jb,jz,js];clear hS0;refine ybA (i:=4) (by kernel_rfl) ?_;refine ydz (some 17) rfl rfl 89 #[.string ad] (yam _ (.tmp 16) _ rfl _ rfl (jeo Tryz.func89 (by kernel_rfl) rfl _ _)) rfl false (by kernel_rfl) ((yed ad u0).mono ?_);rintro e u1 ⟨rfl,hg1⟩;replace K0:=K0.kept hg1;replace hb7:=hb7.grown hg1 (by simp);replace hgu:=yab hgu hg1 (by simp);refine ⟨_,rfl,(fun _=>⟨K0.held.blk.cell 2,hb7.cell 0,hb7.cell 1⟩),?_⟩;simp only [jp,jb,jz,js];refine ybA (i:=7) (by kernel_rfl) ?_;refine ydz (some 20) rfl rfl 123 #[.slice T kn tc] (yam _ (.tmp 19) _ rfl _ rfl (jeo Tryz.func123 (by kernel_rfl) rfl _ _)) rfl false (by kernel_rfl) ((HTX.out u1 hgu).mono ?_);rintro e u2 ⟨A',c',rfl,hsub,hg2⟩;have hx1:SubV (fun g=>b3 + 1 <= g /\ (ja6 vA k vc).ownBlock ≠ some g) u2 (keys.map txt) (.slice A' kn c'):=hsub.weak (fun g (h:u1.heap.size <= g)=>⟨by have:=K0.held.size;omega,fun e=>by have:=yds K0.held.own e;omega⟩);replace K0:=K0.kept hg2;replace hb7:=hb7.grown hg2 (by simp);clear hsub hg1 hg2 hgu HTX;refine ⟨_,rfl,(fun _=>⟨K0.held.blk.cell 2,hb7.cell 0,hb7.cell 1⟩),?_⟩;simp only [jp,jb,jz,js];refine ybA (i:=8) (by kernel_rfl) ?_;rw [<- hkl] at hx1;have hx2:=ynf (fun g=>b3 + 1 <= g /\ (ja6 vA k vc).ownBlock ≠ some g) u2 ad (keys.map txt) A' c' ⟨by have:=K0.held.size;omega,fun e=>by have:=yds K0.held.own e;omega⟩ hx1;rw [hkl] at hx2;have hga:=yaa (jr u2 none) (.cells #[.bool false,.string ad,.slice none 0 0,.bool true,.string ⟨#[]⟩,.slice A' kn c'] 128);replace K0:=K0.kept hga;replace hb7:=hb7.grown hga (by simp);refine ybs (some 21) rfl rfl (.slice (some ⟨u2.heap.size,0,none⟩) 2 2) (w':=u2.alloc (.cells #[.bool false,.string ad,.slice none 0 0,.bool true,.string ⟨#[]⟩,.slice A' kn c'] 128)) (by go_simp <;> rfl) rfl false (by kernel_rfl) (fun _=>⟨K0.held.blk.cell 2,hb7.cell 0,hb7.cell 1⟩) ?_;simp only [jp,jb,jz,js];obtain ⟨z,hz⟩:∃ z,u2.heap.size = z:=⟨_,rfl⟩;rw [hz] at hx2;clear hga hx1;generalize u2.alloc (.cells #[.bool false,.string ad,.slice none 0 0,.bool true,.string ⟨#[]⟩,.slice A' kn c'] 128) = u3 at *;refine ybA (i:=9) (by kernel_rfl) ?_;refine ydz (some 22) rfl rfl 87 #[.slice (some ⟨z,0,none⟩) 2 2] (yam _ (.tmp 21) _ rfl _ (by rw [<- hz];rfl) (jeo Tryz.func87 (by kernel_rfl) rfl _ _)) rfl false (by kernel_rfl) ((yeZ (.slice (some ⟨z,0,none⟩) 2 2) ⟨_,_,_,rfl⟩ u3).mono ?_);rintro e u4 ⟨rfl,hg4⟩;replace K0:=K0.kept hg4;replace hb7:=hb7.grown hg4 (by simp);replace hx2:=SubV.grown hx2 hg4;refine ⟨_,rfl,(fun _=>⟨K0.held.blk.cell 2,hb7.cell 0,hb7.cell 1⟩),?_⟩;simp only [jp,jb,jz,js];clear hg4;refine ybA (i:=10) (by kernel_rfl) ?_;have hga:=yaa (jr u4 none) (.cells #[.bool true,.string ⟨#[]⟩,.slice (some ⟨z,0,none⟩) 2 2] 128);replace K0:=K0.kept hga;replace hb7:=hb7.grown hga (by simp);replace hx2:=SubV.grown hx2 hga;refine ybs (some 23) rfl rfl (.slice (some ⟨u4.heap.size,0,none⟩) 1 1) (w':=u4.alloc (.cells #[.bool true,.string ⟨#[]⟩,.slice (some ⟨z,0,none⟩) 2 2] 128)) (by go_simp <;> rfl) rfl false (by kernel_rfl) (fun _=>⟨K0.held.blk.cell 2,hb7.cell 0,hb7.cell 1⟩) ?_;simp only [jp,jb,jz,js];obtain ⟨i0,hi,hz0,hzs,hzb⟩:=info_parts yce;obtain ⟨v',u6,hrun,hown',hgrow,hiff,hob⟩:=jra (P:=jq) (u4.alloc (.cells #[.bool true,.string ⟨#[]⟩,.slice (some ⟨z,0,none⟩) 2 2] 128)) (b3 + 1) 126 126 128 i0 _ 3 48 jc2 hi hz0 hzs hzb rfl (by decide) (.slice vA k vc) k (yb0 its vs) K0.held.own ⟨u4.heap.size,0,none⟩ 1 1 [.bool true,.string ⟨#[]⟩,.slice (some ⟨z,0,none⟩) 2 2] rfl (yby _ _ _ _ _) (by simp [ja2]) (by simp only [maxLen];omega) (by omega) K0.held.size;obtain ⟨g',cap',rfl⟩:=ownsRow_succ hown';have K3:=K0.put (ycd ⟨ad,keys⟩) (.slice (some ⟨z,0,none⟩) 2 2) hx2 hown' hgrow hob;have hb8:=hb7.grown hgrow (fun e=>HN7.out e.symm);have hbb:=K0.held.blk.grown hgrow (fun e=>by have:=yal K0.held.own e.symm;omega);refine ybA (i:=11) (by kernel_rfl) ?_;refine ybs (some 24) rfl rfl (.slice (some ⟨g',0,none⟩) (k + 1) cap') (yaw (.tmp 14) (.tmp 23) 126 rfl _ _ _ rfl rfl hrun) rfl false (by kernel_rfl) (fun _=>⟨hbb.cell 2,hb8.cell 0,hb8.cell 1⟩) ?_;simp only [jp,jb,jz,js];refine ybA (i:=12) (by kernel_rfl) ?_;refine ybs (some 25) rfl rfl (.pointer (some ⟨b3,2,none⟩)) (by go_simp <;> rfl) rfl false (by kernel_rfl) (fun _=>⟨hbb.cell 2,hb8.cell 0,hb8.cell 1⟩) ?_;simp only [jp,jb,jz,js];refine ybA (i:=13) (by kernel_rfl) ?_;refine ygA rfl rfl rfl (yaZ (.tmp 25) (.tmp 24) rfl rfl rfl hbb (by simp)) true (by kernel_rfl) (fun e=>by cases e) ?_;(try simp only [jp,jb,jz,js]);refine ygB (by kernel_rfl) ?_ _;rw [HTK.out] at K3;clear hrun hown' hgrow hob hiff hx2 K0 hb7 hb8 hbb hga hz;go_wp2_with fail
   go_roundw
   case rel=>exact ⟨k + 1,_,_,by go_num,by omega,K3⟩
   case measure=>simp [intOf];omega
  ·obtain rfl:k = n:=by omega
   have hfin:decide ((k:Int) < (k:Int)) = false:=by simp
   have hRB:=HRB.out.grown K0.held.grown (by simp);obtain ⟨vA,vc,rfl⟩:=ybe K0.held.own;have hle:w.heap.size <= b:=by have:=HW.out;omega
   have hb3:b + 1 <= b3:=by have:=HZB.out;omega
   have ht:ls.take k = ls:=jtl (by have:=HL.out;omega);rw [ht] at K0;have hS:=K0.row;have HS5:=jh (SubV.weak (yee (g:=b) hS (by omega) (.bool true) (.string ⟨#[]⟩) (.slice vA k vc)) (fun g (hg:b3 + 1 <= g)=>(show w.heap.size <= g by omega)));have HG5:=jh (yar (yar (yar (yab HG.out K0.held.grown (by simp)) (p:=⟨b,0,none⟩) hle (.bool true)) (p:=⟨b,1,none⟩) hle (.string ⟨#[]⟩)) (p:=⟨b,2,none⟩) hle (.slice vA k vc));have HB5:=jh (((hRB.set_ 0 (.bool true)).set_ 1 (.string ⟨#[]⟩)).set_ 2 (.slice vA k vc));have c0:=hRB.cell 0;have c1:=hRB.cell 1;have c2:=hRB.cell 2;have d0:=hRB.frozen 0;have d1:=hRB.frozen 1;have d2:=hRB.frozen 2;have e0:=K0.held.blk.cell 0;have e1:=K0.held.blk.cell 1;have e2:=K0.held.blk.cell 2;simp only [jta,jcz,jcs] at c0 c1 c2 e0 e1 e2;clear K0 hle hb3 ht hS hRB hk hlt;go_wp2_with fail
   refine jbr (ya6 (fn:=Tryz.f90) rfl _ _ _ _ rfl (yb5 HB5.out)) rfl ?_;exact ⟨_,_,rfl,HS5.out,HG5.out⟩
def rdC (s:ByteArray) (a:Nat) (e:Int):Array Value:=#[.string s,.int .i64 (a:Int),.int .i64 e]
def kE (E e:Int):Int:=if E = 0 then e else E
theorem ya9 {a w:World} {g:Nat} (h:a.grownBy w (some g)) (i:Nat) (u:Value):a.grownBy (w.setCell ⟨g,i,none⟩ u) (some g):=yhT h (p:=⟨g,i,none⟩) (.inl rfl) u
theorem yaK {a w:World} (h:a.grownBy w none) (r:Option Nat):a.grownBy w r:=⟨h.os,h.tape,h.output,h.size,fun k hk hne=>h.block k hk (by simp)⟩
theorem yaS (w:World) (q:Nat) (row:Option Nat):w.grownBy (w.drewN q) row:=yaK (yak (ybE (jd1 w.heap.size w) q)) row
theorem ya5 {k:Nat} (h:k < 9223372036854775808):IntKind.i64.wrap (k:Int) = (k:Int):=by
 simp [IntKind.wrap,IntKind.bits,IntKind.signed];omega
theorem ybx (s:ByteArray) (a:Nat) (E e:Int) (r:Nat) (w:World) (h:Blk w r 155 (rdC s a E)) :
  Calls jq 121 #[.pointer (some ⟨r,0,none⟩),.int .i64 e] w fun x w'=>x = .returned (.bool (decide (kE E e = 0))) /\ Blk w' r 155 (rdC s a (kE E e)) /\ w.grownBy w' (some r):=by
 have HB:=jh h;have c2:=h.cell 2;have f2:=h.frozen 2;simp only [rdC,jta,jcz,jcs] at c2;clear h;by_cases h0:E = 0
 ·subst h0;rw [show kE 0 e = e from if_pos rfl];by_cases h1:e = 0
  ·subst h1;go_enter Tryz.func121,Tryz.ntmps121
   go_wp2_with fail
   go_ret
   refine ⟨rfl,?_,?_⟩
   ·first | exact HB.out | exact HB.out.set_ 2 (.int .i64 0)
   ·first | exact jr w _ | exact ya9 (jr w _) 2 _
  ·have e1:(e == 0) = false:=by simpa using h1
   have hd:decide (e = 0) = false:=decide_eq_false h1;rw [hd];clear h1 hd;go_enter Tryz.func121,Tryz.ntmps121
   go_wp2_with fail
   go_ret
   exact ⟨rfl,HB.out.set_ 2 (.int .i64 e),ya9 (jr w _) 2 _⟩
 ·have e1:(E == 0) = false:=by simpa using h0
  rw [show kE E e = E from if_neg h0,decide_eq_false h0];clear h0;go_enter Tryz.func121,Tryz.ntmps121
  go_wp2_with fail
  go_ret
  exact ⟨rfl,HB.out,jr w _⟩
def tkE (s:ByteArray) (a n:Nat) (E:Int):Int:=if E = 0 then (if s.size < a + n then 3 else 0) else E
def tkA (s:ByteArray) (a n:Nat) (E:Int):Nat:=if tkE s a n E = 0 then a + n else a
def tkS (s:ByteArray) (a n:Nat) (E:Int):ByteArray:=if tkE s a n E = 0 then s.extract a (a + n) else .empty
theorem ycy (s:ByteArray) (a n:Nat) (E:Int) (r:Nat) (w:World) (h:Blk w r 155 (rdC s a E)) (hs:s.size <= 1000000000000) (ha:a <= s.size) (hn:n <= 1000000000000) :
  Calls jq 116 #[.pointer (some ⟨r,0,none⟩),.int .i64 (n:Int)] w fun x w'=>x = .returned (.tuple #[.string (tkS s a n E),.bool (decide (tkE s a n E = 0))]) /\ Blk w' r 155 (rdC s (tkA s a n E) (tkE s a n E)) /\ w.grownBy w' (some r):=by
 have HB:=jh h;have c0:=h.cell 0;have c1:=h.cell 1;have c2:=h.cell 2;have f1:=h.frozen 1;have f2:=h.frozen 2;simp only [rdC,jta,jcz,jcs] at c0 c1 c2;clear h;by_cases h0:E = 0
 rotate_left
 ·have e1:(E == 0) = false:=by simpa using h0
  have e2:(E != 0) = true:=by simpa using h0
  have t1:tkE s a n E = E:=if_neg h0;have t2:tkA s a n E = a:=by unfold tkA;rw [t1,if_neg h0]
  have t3:tkS s a n E = .empty:=by unfold tkS;rw [t1,if_neg h0]
  rw [t1,t2,t3,decide_eq_false h0];clear h0 t1 t2 t3;go_enter Tryz.func116,Tryz.ntmps116
  go_upto_region 3 with (go_quiet (fail))
  go_wp2_with fail
  go_ret2
  exact ⟨rfl,HB.out,yaS _ _ _⟩
 subst h0;obtain ⟨d,hd⟩:∃ d,s.size = a + d:=⟨s.size - a,by omega⟩;have hw1:IntKind.i64.wrap ((s.size:Int) - (a:Int)) = (d:Int):=by rw [show (s.size:Int) - (a:Int) = (d:Int) by omega];exact ya5 (by omega)
 by_cases hsh:s.size < a + n
 ·have t1:tkE s a n 0 = 3:=by unfold tkE;rw [if_pos rfl,if_pos hsh]
  have t2:tkA s a n 0 = a:=by unfold tkA;rw [t1,if_neg (by decide)]
  have t3:tkS s a n 0 = .empty:=by unfold tkS;rw [t1,if_neg (by decide)]
  rw [t1,t2,t3];have g1:decide ((d:Int) < (n:Int)) = true:=decide_eq_true (by omega);have g1n:decide (d < n) = true:=decide_eq_true (by omega);clear hsh t1 t2 t3 hd;go_enter Tryz.func116,Tryz.ntmps116
  go_upto_region 2 with (go_quiet (fail))
  go_wp2_with fail
  go_ret2
  exact ⟨rfl,(show Blk _ r _ _ from HB.out).set_ 2 (.int .i64 3),ya9 (yaS _ _ _) 2 _⟩
 ·have t1:tkE s a n 0 = 0:=by unfold tkE;rw [if_pos rfl,if_neg hsh]
  have t2:tkA s a n 0 = a + n:=by unfold tkA;rw [t1,if_pos rfl]
  have t3:tkS s a n 0 = s.extract a (a + n):=by unfold tkS;rw [t1,if_pos rfl]
  rw [t1,t2,t3];have g1:decide ((d:Int) < (n:Int)) = false:=decide_eq_false (by omega);have g1n:decide (d < n) = false:=decide_eq_false (by omega);obtain ⟨b,hb⟩:∃ b,a + n = b:=⟨_,rfl⟩;have hw2:IntKind.i64.wrap ((a:Int) + (n:Int)) = (b:Int):=by rw [show (a:Int) + (n:Int) = (b:Int) by omega];exact ya5 (by omega)
  have hw3:IntKind.i64.wrap ((b:Int) - (n:Int)) = (a:Int):=by rw [show (b:Int) - (n:Int) = (a:Int) by omega];exact ya5 (by omega)
  have hab:a <= b:=by omega
  have hbs:b <= s.size:=by omega
  rw [hb];clear hsh t1 t2 t3 hd hb;go_enter Tryz.func116,Tryz.ntmps116
  go_upto_region 6 with (go_quiet (fail))
  have hb2:Blk ((w.drewN nq).setCell ⟨r,1,none⟩ (.int .i64 (b:Int))) r 155 (rdC s b 0):=(show Blk (w.drewN nq) r _ _ from HB.out).set_ 1 (.int .i64 (b:Int));have hg2:w.grownBy ((w.drewN nq).setCell ⟨r,1,none⟩ (.int .i64 (b:Int))) (some r):=ya9 (yaS _ _ _) 1 _;clear c0 c1 c2 f1 f2;generalize (w.drewN nq).setCell ⟨r,1,none⟩ (.int .i64 (b:Int)) = w2 at *;have c0:=hb2.cell 0;have c1:=hb2.cell 1;simp only [rdC,jta,jcz,jcs] at c0 c1;have HB2:=jh hb2;have HG2:=jh hg2;clear hb2 hg2;go_quiet (fail)
  go_wp2_with fail
  go_ret2
  exact ⟨rfl,HB2.out,ye9 HG2.out _⟩
def digB (c:UInt8) (i:Nat):BitVec 64:=BitVec.ofNat 64 (c.toNat % 128) <<< (7 * i)
def ybc (l:List UInt8) (a:Nat):Nat -> Nat -> BitVec 64 -> BitVec 64 × Nat × Int
 | 0,_,_=>(0,0,3)
 | f + 1,i,n=>match l[a + i]? with
  | none=>(0,0,3)
  | some c=>if i = 9 /\ 1 < c.toNat then (0,0,5) else if 128 <= c.toNat then ybc l a f (i + 1) (n ||| digB c i) else if 0 < i /\ c.toNat = 0 then (0,0,8) else (n ||| digB c i,a + i + 1,0)
def yaX (l:List UInt8) (at_:Int):BitVec 64 × Nat × Int:=if at_ < 0 \/ (l.length:Int) < at_ then (0,0,1) else ybc l at_.toNat 10 0 0
theorem yiK (m:Nat) (h:m < 2 ^ 64):BitVec.ofNat 64 m = BitVec.ofNat 64 (m % 128) ||| (BitVec.ofNat 64 (m / 128) <<< 7):=by
 apply BitVec.eq_of_toNat_eq
 rw [BitVec.toNat_or,BitVec.toNat_shiftLeft,BitVec.toNat_ofNat,BitVec.toNat_ofNat,BitVec.toNat_ofNat,Nat.shiftLeft_eq,Nat.mod_eq_of_lt h,Nat.mod_eq_of_lt (show m % 128 < 2 ^ 64 by omega),Nat.mod_eq_of_lt (show m / 128 < 2 ^ 64 by omega),
  Nat.mod_eq_of_lt (show m / 128 * 2 ^ 7 < 2 ^ 64 by omega)]
 have:=Nat.two_pow_add_eq_or_of_lt (i:=7) (b:=m % 128) (by omega) (m / 128);rw [Nat.or_comm,Nat.mul_comm,<- this];omega
theorem ydI (m i:Nat) (h:m < 2 ^ 64):BitVec.ofNat 64 m <<< (7 * i) = (BitVec.ofNat 64 (m % 128) <<< (7 * i)) ||| (BitVec.ofNat 64 (m / 128) <<< (7 * (i + 1))):=by
 conv=>lhs;rw [yiK m h]
 rw [BitVec.shiftLeft_or_distrib,<- BitVec.shiftLeft_add];congr 2;omega
theorem yj4 (i:Nat) (h:i <= 8):2 ^ (64 - 7 * i) = 128 * 2 ^ (64 - 7 * (i + 1)):=by
 rw [show 64 - 7 * i = (64 - 7 * (i + 1)) + 7 by omega,Nat.pow_add];omega
theorem yj5 (i:Nat):2 ^ (64 - 7 * i) <= 2 ^ 64:=Nat.pow_le_pow_right (by omega) (by omega)
theorem ygk (pre post:List UInt8):∀ (f i m:Nat) (n:BitVec 64) (done:List UInt8),done.length = i -> i + f = 10 -> m < 2 ^ (64 - 7 * i) -> (0 < i -> 0 < m) ->
  ybc (pre ++ (done ++ varF f m) ++ post) pre.length f i n = (n ||| BitVec.ofNat 64 m <<< (7 * i),pre.length + i + (varF f m).length,0)
 | 0,i,m,n,done,hd,hf,hm,h0=>by
  exfalso;have:i = 10:=by omega
  subst this;have:=h0 (by omega);simp at hm;omega
 | f + 1,i,m,n,done,hd,hf,hm,h0=>by
  have hm64:m < 2 ^ 64:=jb6 hm (yj5 i);by_cases hlt:m < 128
  ·have hv:varF (f + 1) m = [UInt8.ofNat m]:=by rw [varF,if_pos hlt]
   have hget:(pre ++ (done ++ varF (f + 1) m) ++ post)[pre.length + i]? = some (UInt8.ofNat m):=by
    rw [hv,List.append_assoc,jar (by omega),show pre.length + i - pre.length = i by omega,List.append_assoc,jar (by omega),hd,Nat.sub_self];rfl
   have hc:(UInt8.ofNat m).toNat = m:=by simp;omega
   rw [ybc,hget];simp only [hc,hv,List.length_singleton]
   rw [if_neg (by
    rintro ⟨rfl,h1⟩;have:m < 2:=hm;omega),if_neg (by omega),if_neg (by rintro ⟨h1,h2⟩;have:=h0 h1;omega)]
   unfold digB;rw [hc,Nat.mod_eq_of_lt hlt]
  ·have hv:varF (f + 1) m = UInt8.ofNat (m % 128 + 128) :: varF f (m / 128):=by rw [varF,if_neg hlt]
   have hget:(pre ++ (done ++ varF (f + 1) m) ++ post)[pre.length + i]? = some (UInt8.ofNat (m % 128 + 128)):=by
    rw [hv,List.append_assoc,jar (by omega),show pre.length + i - pre.length = i by omega,List.append_assoc,jar (by omega),hd,Nat.sub_self];rfl
   have hc:(UInt8.ofNat (m % 128 + 128)).toNat = m % 128 + 128:=by simp;omega
   have hi:i <= 8:=by
    rcases Nat.lt_or_ge i 9 with h | h
    ·omega
    ·exfalso;have:2 ^ (64 - 7 * i) <= 2 ^ 1:=Nat.pow_le_pow_right (by omega) (by omega);omega
   rw [ybc,hget];simp only [hc];rw [if_neg (by omega),if_pos (by omega)];have hstep:=yj4 i hi;have ih:=ygk pre post f (i + 1) (m / 128) (n ||| digB (UInt8.ofNat (m % 128 + 128)) i) (done ++ [UInt8.ofNat (m % 128 + 128)]) (by simp [hd]) (by omega) (by rw [hstep] at hm;exact Nat.div_lt_of_lt_mul hm) (by omega);rw [show done ++ [UInt8.ofNat (m % 128 + 128)] ++ varF f (m / 128) = done ++ varF (f + 1) m by rw [hv];simp] at ih;rw [ih,hv];congr 1
   ·rw [BitVec.or_assoc,ydI m i hm64];unfold digB;rw [hc,show (m % 128 + 128) % 128 = m % 128 by omega]
   ·congr 1
    simp;omega
theorem ygj (l:List UInt8) (a:Nat):∀ (f i:Nat) (n r:BitVec 64) (tz:Nat),i + f = 10 -> ybc l a f i n = (r,tz,0) ->
  ∃ m,m < 2 ^ (64 - 7 * i) /\ (0 < i -> 0 < m) /\ r = n ||| BitVec.ofNat 64 m <<< (7 * i) /\ tz = a + i + (varF f m).length /\ tz <= l.length /\ (l.drop (a + i)).take (varF f m).length = varF f m
 | 0,i,n,r,tz,hf,h=>by simp [ybc] at h
 | f + 1,i,n,r,tz,hf,h=>by
  rw [ybc] at h;cases hg:l[a + i]? with
  | none=>rw [hg] at h;simp at h
  | some c =>
   rw [hg] at h;simp only at h;obtain ⟨hlt,hge⟩:=jc6.1 hg;have hdrop:l.drop (a + i) = c :: l.drop (a + i + 1):=by rw [jdc hlt,hge]
   split at h
   ·simp at h
   ·rename_i h9
    split at h
    ·rename_i hc
     obtain ⟨m,h1,h2,h3,h4,h5,h6⟩:=ygj l a f (i + 1) _ r tz (by omega) h
     have hi:i <= 8:=by
      rcases Nat.lt_or_ge i 9 with h | h
      ·omega
      ·exfalso;exact h9 ⟨by omega,by omega⟩
     have hcl:=c.toNat_lt;have hstep:=yj4 i hi;have hm:0 < m:=h2 (by omega)
     have hv:varF (f + 1) (m * 128 + c.toNat % 128) = c :: varF f m:=by
      rw [varF,if_neg (by omega),show (m * 128 + c.toNat % 128) % 128 + 128 = c.toNat by omega,show (m * 128 + c.toNat % 128) / 128 = m by omega]
      simp
     have hlt64:m * 128 + c.toNat % 128 < 2 ^ (64 - 7 * i):=by rw [hstep];omega
     refine ⟨m * 128 + c.toNat % 128,hlt64,by omega,?_,?_,h5,?_⟩
     ·rw [h3,ydI _ i (jb6 hlt64 (yj5 i)),show (m * 128 + c.toNat % 128) % 128 = c.toNat % 128 by omega,show (m * 128 + c.toNat % 128) / 128 = m by omega,BitVec.or_assoc];rfl
     ·rw [h4,hv];simp;omega
     ·rw [hv,hdrop,jlc,List.take_succ_cons,show a + i + 1 = a + (i + 1) by omega,h6]
    ·rename_i hc
     split at h
     ·simp at h
     ·rename_i h0
      simp only [Prod.mk.injEq] at h;obtain ⟨rfl,rfl,_⟩:=h;have hv:varF (f + 1) c.toNat = [c]:=by rw [varF,if_pos (by omega)];simp
      refine ⟨c.toNat,?_,?_,?_,by rw [hv];simp,by omega,by rw [hv,hdrop];simp⟩
      ·rcases Nat.lt_or_ge i 9 with h | h
       ·have:2 ^ 7 <= 2 ^ (64 - 7 * i):=Nat.pow_le_pow_right (by omega) (by omega);omega
       ·have:i = 9:=by omega
        subst this;have:¬ 1 < c.toNat:=fun h=>h9 ⟨rfl,h⟩;show c.toNat < 2;omega
      ·intro hi;rcases Nat.eq_zero_or_pos c.toNat with h | h
       ·exact absurd ⟨hi,h⟩ h0
       ·exact h
      ·unfold digB;rw [Nat.mod_eq_of_lt (by omega)]
theorem yfi (pre post:List UInt8) (m:Nat) (h:m < 2 ^ 64):yaX (pre ++ varL m ++ post) pre.length = (BitVec.ofNat 64 m,pre.length + (varL m).length,0):=by
 unfold yaX;rw [if_neg (by simp;omega),jnc];have:=ygk pre post 10 0 m 0 [] rfl rfl (by simpa using h) (by omega);simpa [varL] using this
theorem ydN (l:List UInt8) (a:Nat) (r:BitVec 64) (tz:Nat) (h:yaX l a = (r,tz,0)):tz = a + (varL r.toNat).length /\ tz <= l.length /\ (l.drop a).take (tz - a) = varL r.toNat:=by
 unfold yaX at h;split at h
 ·simp at h
 ·rw [jnc] at h;obtain ⟨m,h1,_,h3,h4,h5,h6⟩:=ygj l a 10 0 0 r tz rfl h
  have hr:r.toNat = m:=by
   rw [h3]
   simp;omega
  rw [hr];refine ⟨h4,h5,?_⟩;rw [h4];simpa [varL] using h6
theorem ykf (l:List UInt8) (at_:Int) (h:(yaX l at_).2.2 ≠ 0):(yaX l at_).1 = 0 /\ (yaX l at_).2.1 = 0:=by
 have key:∀ a f i n,(ybc l a f i n).2.2 ≠ 0 -> (ybc l a f i n).1 = 0 /\ (ybc l a f i n).2.1 = 0:=by
  intro a f
  induction f with
  | zero=>intro i n _;exact ⟨rfl,rfl⟩
  | succ f ih =>
   intro i n h;rw [ybc] at h ⊢;split at h
   ·exact ⟨rfl,rfl⟩
   ·split at h
    ·rename_i h9;rw [if_pos h9];exact ⟨rfl,rfl⟩
    ·rename_i h9
     rw [if_neg h9];split at h
     ·rename_i hc;rw [if_pos hc];exact ih _ _ h
     ·rename_i hc
      rw [if_neg hc];split at h
      ·rename_i h0;rw [if_pos h0];exact ⟨rfl,rfl⟩
      ·exact absurd rfl h
 unfold yaX at h ⊢;split
 ·exact ⟨rfl,rfl⟩
 ·rename_i hn;rw [if_neg hn] at h;exact key _ _ _ _ h
end Go.Proofs.YtmaggfokhlodnaaGreatDoor
