/- Merged: CoH, CoI, CoL, DcF, Gro, Grf, RowJ. -/
import Derived.Test.YtgclnikdkfpflaaGreatDoorMv1
import Derived.Test.YtgclnikdkfpflaaGreatDoorMv4
import Derived.Test.YtgclnikdkfpflaaGreatDoorMv5
import Derived.Deep.WholeRow
import Derived.Deep.DeepCutAuto
namespace Go.Proofs.YtgclnikdkfpflaaGreatDoor
open Go.RowKit Go.Shelf
open List renaming set_cons_zero → jz, set_cons_succ → js, setIfInBounds_toArray → jb
set_option linter.unusedVariables false
set_option linter.unusedSimpArgs false
set_option maxRecDepth 100000
set_option maxHeartbeats 16000000
open Lib renaming hid → jh
open Act renaming put → jp
open World.grownBy renaming refl → jr
open _root_.List renaming getD_eq_getElem?_getD → jg, getElem?_eq_getElem → je, getElem?_cons_zero → jcz, getElem?_cons_succ → jcs, getElem?_toArray → jta, getElem?_append_right → jar, getElem?_append_left → jal, take_of_length_le → jtl, length_cons → jlc, map_cons → jb5, getElem?_eq_some_iff → jc9, mem_cons → je6
open _root_.Option.some renaming inj → ji
open _root_.Array renaming getElem?_eq_some_iff → jes, length_toList → jb0, getElem?_eq_getElem → jb4, getD_eq_getD_getElem? → jc0, getElem?_eq_none → jc8, getElem?_setIfInBounds_self_of_lt → jd7
open World renaming ownsRow_nil → jon, cell?_setCell_far → jd1
open _root_.Nat renaming le_trans → jlt, le_refl → jle, le_of_ble_eq_true → jb1, mul_comm → jd2, zero_add → jd6
open _root_.Go.Proofs.Tryz renaming prog → jq, underlying42 → ja3, underlying104 → ja7, underlying9 → ja9
open Go renaming wp_region_list → jwl, bodyPost_ret → jbr, wpAnyH_done → jwd, wp_region_held → jwh, run_append_own_at → jra
open _root_.Go.Proofs renaming enters_of → jeo
open _root_.Option renaming some → ja1
open Value renaming oneCell' → ja2, slice → ja4, string → ja8, ownBlock → jc2, bool → jc7
open Region renaming wanted → jb6
def yii (k:Int):Bool:=decide (k = 1 \/ k = 2 \/ k = 4)
def ybQ (t:TxV):TxV :=
 if t.kind = 126 then { TxV.zero with kind:=t.kind,gas:=t.gas,dst:=t.dst,value:=t.value,data:=t.data,source:=t.source,frm:=t.frm,mint:=t.mint,system:=t.system }
 else { TxV.zero with kind:=t.kind,gas:=t.gas,dst:=t.dst,value:=t.value,data:=t.data,chain:=t.chain,nonce:=t.nonce,price:=t.price,y:=t.y,r:=t.r,s:=t.s,tip:=if t.kind = 2 \/ t.kind = 4 then t.tip else 0,acc:=if yii t.kind = true then t.acc else [],auths:=if t.kind = 4 then t.auths else [] }
def accS (t:TxV) (sa:Value):Value:=if yii t.kind = true then sa else .slice none 0 0
def autS (t:TxV) (sb:Value):Value:=if t.kind = 4 then sb else .slice none 0 0
theorem yjJ {t:TxV} (h:t.Ok):(ybQ t).Ok:=by
 obtain ⟨h1,h2,h3,h4,h5,h6,h7,h8,h9,h10,h11⟩:=h;unfold ybQ;by_cases k:t.kind = 126
 ·rw [if_pos k];exact ⟨by simp [TxV.zero],by simp [TxV.zero],by simp [TxV.zero],by simp [TxV.zero],h5,h6,by simp [TxV.zero],by simp [TxV.zero],by simp [TxV.zero],h10,by simp [TxV.zero]⟩
 ·rw [if_neg k];refine ⟨h1,h2,?_,h4,h5,h6,h7,h8,h9,by simp [TxV.zero],?_⟩
  ·show (if t.kind = 2 \/ t.kind = 4 then t.tip else 0) < _;split
   ·exact h3
   ·omega
  ·show ∀ a ∈ (if t.kind = 4 then t.auths else []),a.Ok;split
   ·exact h11
   ·intro a ha;cases ha
theorem yjK {t:TxV} {B:Nat} {W:World} {sa sb:Value} (h:TxIn B W t sa sb):TxIn B W (ybQ t) (accS t sa) (autS t sb):=by
 have hn:∀ x:Nat,AccR B W [] none 0:=fun _=>AccR.nil B W none
 have key:∀ (la:List AccV) (lb:List AutV),(la = if yii t.kind = true then t.acc else []) -> (lb = if t.kind = 4 then t.auths else []) -> (ybQ t).acc = la -> (ybQ t).auths = lb -> TxIn B W (ybQ t) (accS t sa) (autS t sb):=by
  intro la lb e1 e2 e3 e4;refine ⟨?_,?_,?_,?_⟩
  ·rw [e3,e1];unfold accS;split
   ·exact h.acc
   ·exact ⟨none,0,rfl,AccR.nil B W none⟩
  ·rw [e4,e2];unfold autS;split
   ·exact h.aut
   ·exact ⟨none,0,rfl,AutR.nil B W none⟩
  ·rw [e3,e1];split
   ·exact h.la
   ·simp
  ·rw [e4,e2];split
   ·exact h.lb
   ·simp
 by_cases k:t.kind = 126
 ·exact key [] [] (by rw [k];rfl) (by rw [k];rfl) (by unfold ybQ;rw [if_pos k];rfl) (by unfold ybQ;rw [if_pos k];rfl)
 ·exact key _ _ rfl rfl (by unfold ybQ;rw [if_neg k]) (by unfold ybQ;rw [if_neg k])
theorem ymq {n:Int} (h:ydT n = true):n = 0 \/ n = 1 \/ n = 2 \/ n = 4 \/ n = 126:=of_decide_eq_true h
def TA.of (t:TxV) (pa:Option Addr) (na xa:Nat) (pb:Option Addr) (nb xb:Nat):TA:=⟨t.kind,t.chain,t.nonce,(wp t.tip 0:Nat),(wp t.tip 1:Nat),(wp t.tip 2:Nat),(wp t.tip 3:Nat),(wp t.price 0:Nat),(wp t.price 1:Nat),(wp t.price 2:Nat),(wp t.price 3:Nat),t.gas,t.dst,(wp t.value 0:Nat),(wp t.value 1:Nat),(wp t.value 2:Nat),(wp t.value 3:Nat),t.data,pa,na,xa,pb,nb,xb,t.y,(wp t.r 0:Nat),(wp t.r 1:Nat),(wp t.r 2:Nat),(wp t.r 3:Nat),(wp t.s 0:Nat),(wp t.s 1:Nat),(wp t.s 2:Nat),(wp t.s 3:Nat),t.source,t.frm,(wp t.mint 0:Nat),(wp t.mint 1:Nat),(wp t.mint 2:Nat),(wp t.mint 3:Nat),t.system⟩
theorem yhA (t:TxV) (hk:ydT t.kind = true) (pa:Option Addr) (na xa:Nat) (pb:Option Addr) (nb xb:Nat) (w:World) :
  Calls jq 60 #[.agg (txC t (.slice pa na xa) (.slice pb nb xb))] w fun e w'=>e = .returned (.agg (txC (ybQ t) (accS t (.slice pa na xa)) (autS t (.slice pb nb xb)))) /\ w.grownBy w' none:=by
 rw [show txC t (.slice pa na xa) (.slice pb nb xb) = (TA.of t pa na xa pb nb xb).L from by rw [ylu];rfl];refine (yhB (TA.of t pa na xa pb nb xb) w).mono ?_;rintro e w2 ⟨rfl,hg⟩;refine ⟨?_,hg⟩;obtain ⟨kind,chain,nonce,tip,price,gas,dst,value,data,acc,auths,y,r,s,source,frm,mint,system⟩:=t;rcases ymq hk with h | h | h | h | h <;> (simp only at h;subst h;kernel_rfl)
def yeA (kd sm sd:Bool) (bd ba bp bu:Bool):Int:=if kd = false then 9 else if (!sm || !sd) = true then 2 else if (bd || ba || bp || bu) = true then 5 else 0
def yev (t:TxV):Int:=yeA (ydT t.kind) (decide (t = ybQ t)) (ygp t) (decide (4096 < t.data.size)) (decide (16 < t.acc.length)) (t.acc.any yb8) (decide (8 < t.auths.length))
theorem yhD (t:TxV) (B:Nat) (sa sb:Value) (w:World) (h:TxIn B w t sa sb) (hB:B <= w.heap.size) (ok:t.Ok) :
  Calls jq 17 #[.agg (txC t sa sb)] w fun e w'=>e = .returned (.int .i64 (yev t)) /\ w.grownBy w' none:=by
 have hG:=yaa (jr w none) (.cells (txC t sa sb) 42);have hb1:=Blk.new w 42 (txC t sa sb);have hI:=h.grown hG hB;have hB1:=jlt hB hG.size;obtain ⟨⟨pa,xa,hsa,hacc⟩,⟨pb,xb,hsb,haut⟩,la,lb⟩:=h;obtain ⟨na,hna⟩:∃ n,t.acc.length = n:=⟨_,rfl⟩;obtain ⟨nb,hnb⟩:∃ n,t.auths.length = n:=⟨_,rfl⟩;rw [hna] at hsa la hacc;rw [hnb] at hsb lb;subst hsa;subst hsb;have hck:yev t = yeA (ydT t.kind) (decide (t = ybQ t)) (ygp t) (decide (4096 < t.data.size)) (decide (16 < na)) (t.acc.any yb8) (decide (8 < nb)):=by rw [<- hna,<- hnb];rfl
 rw [hck];have hi2:=yjK hI;obtain ⟨sm,hsm⟩:∃ b,decide (t = ybQ t) = b:=⟨_,rfl⟩;obtain ⟨sd,hsd⟩:∃ b,ygp t = b:=⟨_,rfl⟩;obtain ⟨bp,hbp⟩:∃ b,t.acc.any yb8 = b:=⟨_,rfl⟩;obtain ⟨kd,hkd⟩:∃ b,ydT t.kind = b:=⟨_,rfl⟩;have e1:decide ((4096:Int) < (t.data.size:Int)) = decide (4096 < t.data.size):=decide_eq_decide.2 (by omega);have e2:decide ((16:Int) < (na:Int)) = decide (16 < na):=decide_eq_decide.2 (by omega);have e3:decide ((8:Int) < (nb:Int)) = decide (8 < nb):=decide_eq_decide.2 (by omega);have HNA:=jh (fun (hk:ydT t.kind = true) V=>yhA t hk pa na xa pb nb xb V);have HSO:=jh (fun (V:World) hI hB=>yh9 t B (.slice pa na xa) (.slice pb nb xb) V hI hB);have HSA:=jh (fun (V:World) hI hI2 hB=>yiC t (ybQ t) B B (.slice pa na xa) (.slice pb nb xb) (accS t (.slice pa na xa)) (autS t (.slice pb nb xb)) V hI hI2 hB hB ok (yjJ ok));have HBI:=jh (fun (V:World) hR hB=>yeO B pa na xa t.acc V hR hB la);rw [hsm] at HSA ⊢;rw [hsd] at HSO ⊢;rw [hbp] at HBI ⊢;have HM:=jh (yoI t.kind);rw [hkd] at HM HNA ⊢;have HAC:=jh hacc;generalize hcn:txC (ybQ t) (accS t (.slice pa na xa)) (autS t (.slice pb nb xb)) = cn at *;have z0:(txC t (.slice pa na xa) (.slice pb nb xb))[0]? = some (.int .i64 t.kind):=rfl;have z17:(txC t (.slice pa na xa) (.slice pb nb xb))[17]? = some (.string t.data):=rfl;have z18:(txC t (.slice pa na xa) (.slice pb nb xb))[18]? = some (.slice pa na xa):=rfl;have z19:(txC t (.slice pa na xa) (.slice pb nb xb))[19]? = some (.slice pb nb xb):=rfl;have hsz:(txC t (.slice pa na xa) (.slice pb nb xb)).size = 36:=rfl;generalize txC t (.slice pa na xa) (.slice pb nb xb) = ct at *;obtain ⟨n,hn⟩:∃ n,t.kind = n:=⟨_,rfl⟩;obtain ⟨data,hdata⟩:∃ n,t.data = n:=⟨_,rfl⟩;rw [hdata] at e1 z17 ⊢;rw [hn] at HM z0;have HI:=jh hI;have HI2:=jh hi2;have HB0:=jh hB1;have HSZ:=jh hsz;generalize decide (4096 < data.size) = bd at *;generalize decide (16 < na) = ba at *;generalize decide (8 < nb) = bu at *;have HBA:=jh hB;have E1:=jh e1;have E2:=jh e2;have E3:=jh e3;clear hI hi2 hB1 hB hsz hcn hck hn hdata hsm hsd hbp hkd hna hnb la lb hacc haut ok e1 e2 e3;go_enter Tryz.func17,Tryz.ntmps17
 go_upto_region 1 with (fail)
 obtain ⟨g,hg⟩:∃ g,w.heap.size = g:=⟨_,rfl⟩;rw [hg] at hb1 ⊢;clear hg;generalize w.alloc (.cells ct 42) = w1 at *;have HB1:=jh hb1;have HAC:=jh (HAC.out.grown hG HBA.out);have HG:=jh hG;clear hb1 hG HBA;go_upto_region 2 with (fail)
 have hl:=HB1.out.lt;have hr0:∀ V,Below w1.heap.size w1 V -> V.cell? ⟨g,0,none⟩ = some (.int .i64 n):=fun V hV=>(hV.cell (p:=⟨g,0,none⟩) hl).trans ((HB1.out.cell 0).trans z0);refine jwh (S:=fun W=>Below w1.heap.size w1 W) (by kernel_rfl) ?_;change wpAnyH _ _ _ _ _ _ _ _ w1.drew;have hS:Below w1.heap.size w1 w1.drew:=⟨rfl,rfl,rfl,jle _,fun _ _=>rfl⟩;generalize w1.drew = u0 at *;refine zt 1 (.pointer (some ⟨g,0,none⟩)) (some 6) rfl (fun W hW=>by go_simp) hS ?_;simp only [jp,jb,jz,js];refine zt 2 (.int .i64 n) (some 7) rfl (fun W hW=>by have q:=hr0 W hW;go_simp) hS ?_;simp only [jp,jb,jz,js];refine yam (i:=0) (by kernel_rfl) ?_;refine ybe (some 5) rfl rfl 58 #[] (ykS _ rfl (jeo Tryz.func58 (by kernel_rfl) rfl _ _)) rfl ((ykl u0).mono ?_);rintro e u1 ⟨rfl,hmap,hg⟩;replace hS:Below w1.heap.size w1 u1:=hS.trans ((ybd hg).mono hS.size);refine ⟨_,rfl,hS,?_⟩;simp only [jp,jb,jz,js];refine yam (i:=3) (by kernel_rfl) ?_;refine yal (some 8) rfl rfl (.int .i64 (yiS n)) (yje _ (.tmp 5) (.tmp 7) rfl _ _ rfl rfl (yn4 n _ u1 hmap)) rfl hS ?_;simp only [jp,jb,jz,js];obtain ⟨m,hm⟩:∃ m,yiS n = m:=⟨_,rfl⟩;rw [hm] at HM ⊢;refine yam (i:=4) (by kernel_rfl) ?_;refine yal (some 9) rfl rfl (.bool (m == 0)) (by go_simp <;> rfl) rfl hS ?_;simp only [jp,jb,jz,js];refine yam (i:=5) (by kernel_rfl) ?_;refine yal (some 4) rfl rfl (.bool (m == 0)) (by go_simp <;> rfl) rfl hS ?_;simp only [jp,jb,jz,js];refine jwd (by kernel_rfl) ?_ _;replace HG:=jh (yab HG.out (yae hS) (by simp));replace HB1:=jh (HB1.out.below hS hl);have hgs:=yae hS;replace HI:=jh (HI.out.grown hgs HB0.out);replace HI2:=jh (HI2.out.grown hgs HB0.out);replace HAC:=jh (HAC.out.grown hgs HB0.out);replace HB0:=jh (jlt HB0.out hgs.size);clear hS hg hmap hr0 hl hm hgs;cases kd with
 | false =>
  have h0:=HM.out.2 rfl;subst h0;go_wp2_with fail
  go_ret
  exact ⟨rfl,HG.out⟩
 | true =>
  have h0:¬ m = 0:=fun e=>by have:=HM.out.1 e;cases this
  have e1:(m == 0) = false:=by simpa using h0
  replace HNA:=jh (HNA.out rfl);clear h0;go_upto_region 4 with (fail)
  clear e1 HM;have l1:=HB1.out.lt;have HCI:=jh (fun (V:World) (hV:Below u1.heap.size u1 V)=>(⟨HI.out.grown (yae hV) HB0.out,HI2.out.grown (yae hV) HB0.out,jlt HB0.out (yae hV).size⟩:TxIn B V t (.slice pa na xa) (.slice pb nb xb) /\ TxIn B V (ybQ t) (accS t (.slice pa na xa)) (autS t (.slice pb nb xb)) /\ B <= V.heap.size));have hC0:(fun V=>Below u1.heap.size u1 V) u1.drew:=⟨rfl,rfl,rfl,jle _,fun _ _=>rfl⟩;refine yaC (fun V=>Below u1.heap.size u1 V) (by kernel_rfl) (by kernel_rfl) hC0 ?_;have hcc:=ycN hC0;(try simp only [jp])
  (repeat go_big_quiet_step (fail))
  refine yad rfl (.agg ct) (fun V hV=>yaq rfl rfl 42 ct _ (HB1.out.below hV l1) ja3 rfl ((show (jq.info? 42).map (·.size) = some 36 by kernel_rfl).trans (congrArg some HSZ.out.symm))) ?_;simp only [jp,jb,jz,js]
  (repeat go_big_quiet_step (fail))
  refine yad rfl (.agg ct) (fun V hV=>yaq rfl rfl 42 ct _ (HB1.out.below hV l1) ja3 rfl ((show (jq.info? 42).map (·.size) = some 36 by kernel_rfl).trans (congrArg some HSZ.out.symm))) ?_;simp only [jp,jb,jz,js]
  (repeat go_big_quiet_step (fail))
  refine ybw (.agg cn) 60 #[.agg ct] rfl (fun V=>yak _ (.tmp 12) _ rfl _ rfl (jeo Tryz.func60 (by kernel_rfl) rfl _ _)) (fun V hV=>HNA.out V) ?_;simp only [jp,jb,jz,js]
  (repeat go_big_quiet_step (fail))
  refine ybw (.bool sm) 59 #[.agg ct,.agg cn] rfl (fun V=>ya4 _ (.tmp 11) (.tmp 13) _ rfl _ _ rfl rfl (jeo Tryz.func59 (by kernel_rfl) rfl _ _)) (fun V hV=>HSA.out V (HCI.out V hV).1 (HCI.out V hV).2.1 (HCI.out V hV).2.2) ?_;simp only [jp,jb,jz,js];cases sm with
  | false =>
   (repeat go_big_quiet_step (fail))
   refine wpQuiet_nil ?_;intro w3 hw3;have HG:=jh (yab HG.out (yae hw3) (by simp));clear hcc hC0 hw3 l1;go_wp2_with fail
   go_ret
   exact ⟨rfl,HG.out⟩
  | true =>
  (repeat go_big_quiet_step (fail))
  refine yad rfl (.agg ct) (fun V hV=>yaq rfl rfl 42 ct _ (HB1.out.below hV l1) ja3 rfl ((show (jq.info? 42).map (·.size) = some 36 by kernel_rfl).trans (congrArg some HSZ.out.symm))) ?_;simp only [jp,jb,jz,js]
  (repeat go_big_quiet_step (fail))
  refine ybw (.bool sd) 61 #[.agg ct] rfl (fun V=>yak _ (.tmp 17) _ rfl _ rfl (jeo Tryz.func61 (by kernel_rfl) rfl _ _)) (fun V hV=>HSO.out V (HCI.out V hV).1 (HCI.out V hV).2.2) ?_;simp only [jp,jb,jz,js]
  (repeat go_big_quiet_step (fail))
  refine wpQuiet_nil ?_;intro w3 hw3;have HG:=jh (yab HG.out (yae hw3) (by simp));have hb:=HB1.out.below hw3 l1;have HAC:=jh (HAC.out.grown (yae hw3) HB0.out);have HB0:=jh (jlt HB0.out (yae hw3).size);have c17:=(hb.cell 17).trans z17;have c18:=(hb.cell 18).trans z18;have c19:=(hb.cell 19).trans z19;have HBL:=jh hb;have e1:=E1.out;have e2:=E2.out;have e3:=E3.out;clear hcc hC0 hw3 l1 hb HCI HNA HSA HSO HI HI2 E1 E2 E3 z0;cases sd with
  | false =>
   go_wp2_with fail
   go_ret
   exact ⟨rfl,HG.out⟩
  | true =>
  cases bd with
  | true =>
   go_wp2_with fail
   go_ret
   exact ⟨rfl,HG.out⟩
  | false =>
  cases ba with
  | true =>
   go_wp2_with fail
   go_ret
   exact ⟨rfl,HG.out⟩
  | false =>
  go_wp2_with fail
  refine (HBI.out _ HAC.out HB0.out).mono ?_;rintro e w4 ⟨rfl,hg⟩;have HG:=jh (yab HG.out hg (by simp));replace c19:=hg.cell c19 (by simp);clear hg c17 c18;cases bp with
  | true =>
   go_wp2_with fail
   go_ret
   exact ⟨rfl,HG.out⟩
  | false =>
  cases bu with
  | true =>
   go_wp2_with fail
   go_ret
   exact ⟨rfl,HG.out⟩
  | false =>
   go_wp2_with fail
   go_ret
   exact ⟨rfl,HG.out⟩
def ye4 (ck:Int) (lo hi ne k0 c0:Bool):Int:=if (lo || hi) = true then 9 else if ck ≠ 0 then ck else if (ne && (k0 || c0)) = true then 2 else 0
def oneT (chain:Nat) (t:TxV):Int:=ye4 (yev t) (decide (t.kind < 0)) (decide (2 < t.kind)) (decide (t.chain ≠ chain)) (decide (t.kind ≠ 0)) (decide (t.chain ≠ 0))
def yd7 (f:TxV -> Int):List TxV -> Int
 | []=>0
 | t :: r=>if f t ≠ 0 then f t else yd7 f r
def yat (ls:List TxV) (chain:Nat):Int:=if (decide (chain = 0) || decide (4611686018427387904 < chain)) = true then 1 else if 512 < ls.length then 5 else yd7 (oneT chain) ls
theorem ydY {f:TxV -> Int}:∀ {ls:List TxV},(∀ i,i < ls.length -> f (ls.getD i TxV.zero) = 0) -> yd7 f ls = 0
 | [],_=>rfl
 | t :: r,h=>by
  have h0:f t = 0:=by have:=h 0 (by simp);simpa using this
  rw [yd7,if_neg (by rw [h0];simp)];exact ydY fun i hi=>by have:=h (i + 1) (by simp;omega);simpa using this
theorem ydk {f:TxV -> Int}:∀ {ls:List TxV} {k:Nat} {e:Int},(∀ i,i < k -> f (ls.getD i TxV.zero) = 0) -> k < ls.length -> f (ls.getD k TxV.zero) = e -> e ≠ 0 -> yd7 f ls = e
 | [],_,_,_,hk,_,_=>by simp at hk
 | t :: r,0,e,_,_,he,h0=>by
  have:f t = e:=by simpa using he
  rw [yd7,this,if_pos h0]
 | t :: r,k + 1,e,h,hk,he,h0=>by
  have h1:f t = 0:=by have:=h 0 (by omega);simpa using this
  rw [yd7,if_neg (by rw [h1];simp)];exact ydk (k:=k) (fun i hi=>by have:=h (i + 1) (by omega);simpa using this) (by simpa using hk) (by simpa using he) h0
theorem ycW (B:Nat) (A:Option Addr) (n c:Nat) (ls:List TxV) (chain:Nat) (w:World) (h:TxsR B w ls A n) (hB:B <= w.heap.size) (hn:n <= 9223372036854775807) (ok:∀ t ∈ ls,t.Ok) :
  Calls jq 13 #[.slice A n c,.int .u64 (chain:Int)] w fun e w'=>e = .returned (.int .i64 (yat ls chain)) /\ w.grownBy w' none:=by
 obtain ⟨R,hR⟩:∃ R,yat ls chain = R:=⟨_,rfl⟩;rw [hR];have hl:=h.1;have e1:((chain:Int) == 0) = decide (chain = 0):=yi0 chain 0;have e2:decide ((4611686018427387904:Int) < (chain:Int)) = decide (4611686018427387904 < chain):=decide_eq_decide.2 (by omega);have HH:=jh h;have HB:=jh hB;have HOK:=jh ok;have HL:=jh hl;have hR0:(decide (chain = 0) || decide (4611686018427387904 < chain)) = true -> R = 1:=fun hh=>by rw [<- hR];unfold yat;rw [if_pos hh]
 by_cases hc:(decide (chain = 0) || decide (4611686018427387904 < chain)) = true
 ·have hRR:=hR0 hc;subst hRR;clear h hB ok hl hR hR0;rcases Bool.or_eq_true _ _ ▸ hc with h1 | h1
  ·rw [h1] at e1;clear e2 h1 hc;go_enter Tryz.func13,Tryz.ntmps13
   go_wp2_with fail
   go_ret
   exact ⟨rfl,jr _ _⟩
  ·have h0:decide (chain = 0) = false:=decide_eq_false (by have:=of_decide_eq_true h1;omega);rw [h0] at e1;rw [h1] at e2;clear h0 h1 hc;go_enter Tryz.func13,Tryz.ntmps13
   go_wp2_with fail
   go_ret
   exact ⟨rfl,jr _ _⟩
 have hc':(decide (chain = 0) || decide (4611686018427387904 < chain)) = false:=by simpa using hc
 rw [Bool.or_eq_false_iff] at hc';rw [hc'.1] at e1;rw [hc'.2] at e2;by_cases h512:512 < n
 ·have hRR:R = 5:=by rw [<- hR];unfold yat;rw [if_neg hc,if_pos (by omega)]
  have e3:decide ((512:Int) < (n:Int)) = true:=decide_eq_true (by omega);subst hRR;clear h hB ok hl hR hR0 hc hc' h512;go_enter Tryz.func13,Tryz.ntmps13
  go_wp2_with fail
  go_ret
  exact ⟨rfl,jr _ _⟩
 have hRR:yd7 (oneT chain) ls = R:=by rw [<- hR];unfold yat;rw [if_neg hc,if_neg (by omega)]
 have e3:decide ((512:Int) < (n:Int)) = false:=decide_eq_false (by omega);have HRR:=jh hRR;clear h hB ok hl hR hR0 hRR hc hc' h512;go_enter Tryz.func13,Tryz.ntmps13
 go_wp2_with fail
 clear e1 e2 e3;go_loopw [21] (fun i wr=>∃ k:Nat,i = .int .i64 k /\ k <= n /\ w.grownBy wr none /\ Hid (∀ i:Nat,i < k -> oneT chain (ls.getD i TxV.zero) = 0)) (fun i _=>n - (intOf i).toNat)
 case atStart=>exact ⟨0,rfl,by omega,jr _ _,jh (by intro i h1;omega)⟩
 case round =>
  obtain ⟨k,rfl,hk,hg,h2⟩:=hrel;have h2':=jh h2.out;have HGG:=jh hg;by_cases hlt:k < n
  ·obtain ⟨g,off,sa,sb,x,rfl,hx,mx,hcx,hin⟩:=(HH.out.grown hg HB.out).at_ hlt;obtain ⟨⟨pa,xa,rfl,hacc⟩,⟨pb,xb,rfl,haut⟩,la,lb⟩:=id hin;have q1:(k:Int) < (n:Int):=by omega
   have q2:(0:Int) <= (k:Int):=by omega
   have HX:=jh hx;have HCX:=jh hcx;have hB2:=jlt HB.out hg.size;have HCALL:=jh (fun (V:World) (hV:wr.grownBy V none)=>yhD x B (.slice pa x.acc.length xa) (.slice pb x.auths.length xb) V (hin.grown hV hB2) (jlt hB2 hV.size) (HOK.out x mx));obtain ⟨ck,hck⟩:∃ e,yev x = e:=⟨_,rfl⟩;have hone:oneT chain x = ye4 ck (decide (x.kind < 0)) (decide (2 < x.kind)) (decide (x.chain ≠ chain)) (decide (x.kind ≠ 0)) (decide (x.chain ≠ 0)):=by rw [<- hck];rfl
   rw [hck] at HCALL;have z0:(txC x (.slice pa x.acc.length xa) (.slice pb x.auths.length xb))[0]? = some (.int .i64 x.kind):=rfl;have z1:(txC x (.slice pa x.acc.length xa) (.slice pb x.auths.length xb))[1]? = some (.int .u64 (x.chain:Int)):=rfl;have hone1:=ygS x pa pb x.acc.length xa x.auths.length xb;have HSZ:=jh (show (txC x (.slice pa x.acc.length xa) (.slice pb x.auths.length xb)).size = 36 from rfl);obtain ⟨kd,hkd⟩:∃ n,x.kind = n:=⟨_,rfl⟩;obtain ⟨ch,hch⟩:∃ n,x.chain = n:=⟨_,rfl⟩;rw [hkd] at z0 hone;rw [hch] at z1 hone;have HONE:=jh hone;have HONE1:=jh hone1;clear h2 hx hg hcx hin hacc haut la lb mx hB2 hck hone hkd hch hone1;go_upto_region 7 with (fail)
   refine jwl ?_
   iterate 3 go_step
   refine wp_load_mid 42 (.tmp 23) rfl g (off + k * 36) rfl (txL x (.slice pa x.acc.length xa) (.slice pb x.auths.length xb)) _ HCX.out ja3 rfl (by kernel_rfl) ?_;clear HCX;rw [show (txL x (.slice pa x.acc.length xa) (.slice pb x.auths.length xb)).toArray = txC x (.slice pa x.acc.length xa) (.slice pb x.auths.length xb) from rfl];generalize txC x (.slice pa x.acc.length xa) (.slice pb x.auths.length xb) = ct at *;have hga:=yaa (jr wr none) (.cells ct 42);have hbk:=Blk.new wr 42 ct
   iterate 5 go_step
   refine wp_store_row 42 (.tmp 6) (.tmp 24) rfl wr.heap.size ct rfl rfl 42 txZ (Blk.new wr _ txZ) ((show (jq.info? 42).map (·.size) = some 36 by kernel_rfl).trans (congrArg some HSZ.out.symm)) (by rw [HSZ.out];rfl) HONE1.out ?_;rw [World.setRow_alloc_new];obtain ⟨g6,hg6⟩:∃ g,wr.heap.size = g:=⟨_,rfl⟩;rw [hg6] at hbk ⊢;clear hg6;have HGA:=jh hga;have HCALL2:=jh (HCALL.out _ hga);generalize wr.alloc (.cells ct 42) = w5 at *;have HBK:=jh hbk;have c0:=(hbk.cell 0).trans z0;clear hga hbk HCALL HONE1;by_cases klo:kd < 0
   ·have q3:decide (kd < 0) = true:=decide_eq_true klo;have hRR:R = 9:=by rw [<- HRR.out];exact ydk (k:=k) h2'.out (by rw [HL.out];exact hlt) (by rw [HX.out,HONE.out,q3];rfl) (by decide)
    subst hRR;clear klo HONE;go_wp2_with fail
    go_ret
    exact ⟨rfl,yab HGG.out HGA.out (by simp)⟩
   have q3:decide (kd < 0) = false:=decide_eq_false klo;by_cases khi:2 < kd
   ·have q4:decide (2 < kd) = true:=decide_eq_true khi;have hRR:R = 9:=by rw [<- HRR.out];exact ydk (k:=k) h2'.out (by rw [HL.out];exact hlt) (by rw [HX.out,HONE.out,q3,q4];rfl) (by decide)
    subst hRR;clear klo khi HONE;go_wp2_with fail
    go_ret
    exact ⟨rfl,yab HGG.out HGA.out (by simp)⟩
   have q4:decide (2 < kd) = false:=decide_eq_false khi;rw [q3,q4] at HONE;have KLO:=jh klo;have KHI:=jh khi;clear klo khi;go_upto_region 10 with (fail)
   clear q3 q4 c0;refine jwl ?_;refine yac rfl (.agg ct) (yaq rfl rfl 42 ct _ HBK.out ja3 rfl ((show (jq.info? 42).map (·.size) = some 36 by kernel_rfl).trans (congrArg some HSZ.out.symm))) ?_;simp only [jp,jb,jz,js];go_wp2_with fail
   refine HCALL2.out.mono ?_;rintro e w6 ⟨rfl,hg6⟩;have HBK:=jh (HBK.out.grown hg6 (by simp));have HG6:=jh (yab (yab HGG.out HGA.out (by simp)) hg6 (by simp));clear hg6 HCALL2 HGA;by_cases hck:ck = 0
   rotate_left
   ·have q5:(ck != 0) = true:=by simpa using hck
    have hRR:R = ck:=by
     rw [<- HRR.out];refine ydk (k:=k) h2'.out (by rw [HL.out];exact hlt) ?_ hck;rw [HX.out,HONE.out];unfold ye4;rw [if_neg (by simp),if_pos hck]
    subst hRR;clear hck HONE;go_wp2_with fail
    go_ret
    exact ⟨rfl,HG6.out⟩
   subst hck;have c0:=(HBK.out.cell 0).trans z0;have c1:=(HBK.out.cell 1).trans z1;have q6:((ch:Int) != (chain:Int)) = decide (ch ≠ chain):=by rw [bne,ydc ch chain];by_cases hh:ch = chain <;> simp [hh]
   have q7:(kd != 0) = decide (kd ≠ 0):=by by_cases hh:kd = 0 <;> simp [hh]
   have q8:((ch:Int) != 0) = decide (ch ≠ 0):=by by_cases hh:ch = 0 <;> simp [hh]
   have hbad:(decide (ch ≠ chain) && (decide (kd ≠ 0) || decide (ch ≠ 0))) = true -> R = 2:=fun hh=>by
    rw [<- HRR.out];refine ydk (k:=k) h2'.out (by rw [HL.out];exact hlt) ?_ (by decide);rw [HX.out,HONE.out];unfold ye4;rw [if_neg (by simp),if_neg (by simp),if_pos hh]
   have hgood:(decide (ch ≠ chain) && (decide (kd ≠ 0) || decide (ch ≠ 0))) = false -> ∀ i,i < k + 1 -> oneT chain (ls.getD i TxV.zero) = 0:=fun hh i hi=>by
    by_cases hik:i = k
    ·rw [hik,HX.out,HONE.out];unfold ye4;rw [if_neg (by simp),if_neg (by simp),if_neg (by rw [hh];simp)]
    ·exact h2'.out i (by omega)
   have HBAD:=jh hbad;have HGOOD:=jh hgood;clear hbad hgood HONE;generalize decide (ch ≠ chain) = d1 at *;generalize decide (kd ≠ 0) = d2 at *;generalize decide (ch ≠ 0) = d3 at *;cases d1 with
   | false =>
    go_wp2_with fail
    exact ⟨⟨k + 1,by go_num,by omega,HG6.out,jh (HGOOD.out rfl)⟩,by simp [intOf];omega⟩
   | true =>
   cases d2 with
   | true =>
    obtain rfl:=HBAD.out rfl;go_wp2_with fail
    go_ret
    exact ⟨rfl,HG6.out⟩
   | false =>
   cases d3 with
   | true =>
    obtain rfl:=HBAD.out rfl;go_wp2_with fail
    go_ret
    exact ⟨rfl,HG6.out⟩
   | false =>
    go_wp2_with fail
    exact ⟨⟨k + 1,by go_num,by omega,HG6.out,jh (HGOOD.out rfl)⟩,by simp [intOf];omega⟩
  ·have hno:yd7 (oneT chain) ls = 0:=ydY fun i hi=>h2.out i (by have:=HL.out;omega);have hR0:R = 0:=by rw [<- HRR.out];exact hno
   subst hR0;have q0:(n:Int) <= (k:Int):=by omega
   clear hno h2 hg;go_wp2_with fail
   go_ret
   exact ⟨rfl,HGG.out⟩
section
variable {P:Program}
theorem yai {ops:Array Oper} {rest:List Oper} {op:Oper} {a:Act} {w:World} {Q:Exit -> Act -> World -> Prop} (hgd:op.guard = none) (f:FuncId) (args:Array Value) (h:(execOp a.eval op).run P w = .ok (.enter f args) w)
  (hc:Calls P f args w fun e w'=>∃ v,e = .returned v /\ wpList P ops Q rest (a.put op.dst v) w'):wpList P ops Q (op :: rest) a w :=
 wpList_plain hgd fun K hK=>by
  unfold Oper.wp;rw [h];refine hc.mono fun e w' he=>?_;obtain ⟨v,rfl,hk⟩:=he;exact hK _ _ hk
theorem yan {a:Act} {o:Oper} {W:World} (x:Operand) (ho:o.op = .move x) (v:Value) (hx:a.eval x = v):(execOp a.eval o).run P W = .ok (.value v) W:=by
 unfold execOp;simp only [ho,hx];rfl
end
theorem zm {P:Program} {ops:Array Oper} {rest:List Oper} {op:Oper} {a:Act} {w:World} {Q:Exit -> Act -> World -> Prop} (n:Nat) (v:Value) (hx:a.eval (.tmp n) = v) (hk:wpList P ops Q rest (a.put op.dst v) w) (hg:op.guard = none:=by rfl) (ho:op.op = .move (.tmp n):=by rfl):wpList P ops Q (op :: rest) a w :=
 yac hg v (yan (.tmp n) ho v hx) hk
theorem ypt:(jq.info? 4).map (fun i=>(i.zero,i.size,i.bytes)) = some (some (.bool false),1,1):=by kernel_rfl
theorem yps:(jq.info? 23).map (fun i=>(i.zero,i.size,i.bytes)) = some (some (.int .u64 0),1,8):=by kernel_rfl
theorem ypr:(jq.info? 9).map (fun i=>(i.zero,i.size,i.bytes)) = some (some (.string .empty),1,16):=by kernel_rfl
def colL {α:Type} (vf:TxV -> α) (pf:TxV -> Bool) (ls:List TxV):List α:=(ls.filter pf).map vf
theorem yfG {α:Type} (vf:TxV -> α) (pf:TxV -> Bool) (ls:List TxV) (k:Nat) (hk:k < ls.length) (x:TxV) (hx:ls.getD k TxV.zero = x):colL vf pf (ls.take (k + 1)) = if pf x = true then colL vf pf (ls.take k) ++ [vf x] else colL vf pf (ls.take k):=by
 unfold colL;rw [jg,je hk] at hx;rw [List.take_add_one,je hk,List.filter_append,List.map_append];have hx:ls[k] = x:=hx;rw [hx];by_cases h:pf x = true
 ·rw [if_pos h];simp [h]
 ·rw [if_neg h];simp [h]
theorem ydL {α:Type} (vf:TxV -> α) (pf:TxV -> Bool) (ls:List TxV) (k:Nat):(colL vf pf (ls.take k)).length <= k:=by
 unfold colL;rw [List.length_map];exact jlt (List.length_filter_le _ _) (by simp;omega)
theorem yjp (f:FuncId) (vf:TxV -> Bool) (pf:TxV -> Bool) (hf:∀ (V:World) (v:Value),(callFunc f #[v]).run jq V = .ok (.enter f #[v]) V) (B:Nat) (A:Option Addr) (n c:Nat) (ls:List TxV) (w:World) (h:TxsR B w ls A n) (hB:B <= w.heap.size) (hn:n <= 100000)
  (hF:∀ x ∈ ls,∀ sa sb (V:World),TxIn B V x sa sb -> B <= V.heap.size -> Calls jq f #[.agg (txC x sa sb)] V fun e w'=>e = .returned (.tuple #[jc7 (vf x),.bool (pf x)]) /\ V.grownBy w' none) :
  Calls jq 22 #[.slice A n c,.func (.func f) #[] #[]] w fun e w'=>∃ v,e = .returned v /\ w'.ownsRow w.heap.size 4 1 v (colL vf pf ls).length ((colL vf pf ls).map (jc7)) /\ w.grownBy w' none:=by
 have HH:=jh h;have HB:=jh hB;have HL:=jh h.1;have HF:=jh hF;have HFF:=jh hf;obtain ⟨i0,hi,hz0,hz1,hz2⟩:=info_parts ypt;clear h hB hF hf;go_enter Tryz.func22,Tryz.ntmps22
 go_wp2_with fail
 go_loopw [5,12] (fun v i wr=>∃ k:Nat,i = .int .i64 k /\ k <= n /\ wr.ownsRow w.heap.size 4 1 v (colL vf pf (ls.take k)).length ((colL vf pf (ls.take k)).map (jc7)) /\ w.grownBy wr none) (fun _ i _=>n - (intOf i).toNat)
 case atStart=>exact ⟨0,rfl,by omega,jon _ _ _ _,jr _ _⟩
 case round =>
  obtain ⟨k,rfl,hk,hown,hg⟩:=hrel;obtain ⟨A',cc,rfl,_⟩:=yaN hown;have HGG:=jh hg;by_cases hlt:k < n
  ·obtain ⟨g,off,sa,sb,x,rfl,hx,mx,hcx,hin⟩:=(HH.out.grown hg HB.out).at_ hlt;obtain ⟨⟨pa,xa,rfl,hacc⟩,⟨pb,xb,rfl,haut⟩,la,lb⟩:=id hin;have hlen:=ydL vf pf ls k;have hnx:=yfG vf pf ls k (by rw [HL.out];exact hlt) x hx;obtain ⟨ys,hys⟩:∃ ys,colL vf pf (ls.take k) = ys:=⟨_,rfl⟩;rw [hys] at hown hnx hlen ⊢;have q1:(k:Int) < (n:Int):=by omega
   have q2:(0:Int) <= (k:Int):=by omega
   have hB2:=jlt HB.out hg.size;have HCX:=jh hcx;have HNX:=jh hnx;have HCALL:=jh (fun (V:World) (hV:wr.grownBy V none)=>HF.out x mx (.slice pa x.acc.length xa) (.slice pb x.auths.length xb) V (hin.grown hV hB2) (jlt hB2 hV.size));have HONE1:=jh (ygS x pa pb x.acc.length xa x.auths.length xb);have HSZ:=jh (show (txC x (.slice pa x.acc.length xa) (.slice pb x.auths.length xb)).size = 36 from rfl);clear hx hg hcx hin hacc haut la lb mx hB2 hnx hys;go_upto_region 4 with (fail)
   refine jwl ?_
   iterate 3 go_step
   refine wp_load_mid 42 (.tmp 14) rfl g (off + k * 36) rfl (txL x (.slice pa x.acc.length xa) (.slice pb x.auths.length xb)) _ HCX.out ja3 rfl (by kernel_rfl) ?_;clear HCX;rw [show (txL x (.slice pa x.acc.length xa) (.slice pb x.auths.length xb)).toArray = txC x (.slice pa x.acc.length xa) (.slice pb x.auths.length xb) from rfl];generalize txC x (.slice pa x.acc.length xa) (.slice pb x.auths.length xb) = ct at *;have hga:=yaa (jr wr none) (.cells ct 42);have hbk:=Blk.new wr 42 ct
   iterate 5 go_step
   refine wp_store_row 42 (.tmp 7) (.tmp 15) rfl wr.heap.size ct rfl rfl 42 txZ (Blk.new wr _ txZ) ((show (jq.info? 42).map (·.size) = some 36 by kernel_rfl).trans (congrArg some HSZ.out.symm)) (by rw [HSZ.out];rfl) HONE1.out ?_;rw [World.setRow_alloc_new];obtain ⟨g6,hg6⟩:∃ g,wr.heap.size = g:=⟨_,rfl⟩;rw [hg6] at hbk ⊢;clear hg6;have HGA:=jh hga;have HCALL2:=jh (HCALL.out _ hga);have hown1:=hown.kept hga (Classical.em _);generalize wr.alloc (.cells ct 42) = w5 at *;have HBK:=jh hbk;clear hga hbk HCALL HONE1 hown;go_upto_region 5 with (fail)
   refine jwl ?_;refine zm 1 (.func (.func f) #[] #[]) rfl ?_;simp only [jp,jb,jz,js];refine yac rfl (.agg ct) (yaq rfl rfl 42 ct _ HBK.out ja3 rfl ((show (jq.info? 42).map (·.size) = some 36 by kernel_rfl).trans (congrArg some HSZ.out.symm))) ?_;simp only [jp,jb,jz,js];refine yai rfl f #[.agg ct] (ycL f (.tmp 17) (.tmp 18) _ rfl rfl _ rfl (HFF.out _ _)) (HCALL2.out.mono ?_);rintro e w6 ⟨rfl,hg6⟩;refine ⟨_,rfl,?_⟩;simp only [jp,jb,jz,js];have hown2:=hown1.kept hg6 (Classical.em _);have HG6:=jh (yab (yab HGG.out HGA.out (by simp)) hg6 (by simp));obtain ⟨vx,hvx⟩:∃ v,vf x = v:=⟨_,rfl⟩;obtain ⟨b,hb⟩:∃ b,pf x = b:=⟨_,rfl⟩;rw [hvx,hb];rw [hvx,hb] at HNX;clear hg6 HCALL2 HGA hown1 hvx hb HBK;have hsz2:=HG6.out.size;cases b with
   | true =>
    go_wp2_with (at_builtin;refine wpList_append_own _ rfl _ _ 47 rfl w.heap.size 4 i0 (.bool false) 1 1 Tryz.underlying47 hi hz0 hz1 hz2 rfl (by decide) _ _ _ rfl (hown2.alloc _) ⟨w6.heap.size,0,none⟩ 1 1 [jc7 vx] rfl rfl (cell_one_new _ _ _) (by simp [ja2]) (by simp only [maxLen];omega) (by omega) (by simp;omega) ?_;intro v' w8 hown4 hgrow _)
    obtain ⟨g',cap',rfl⟩:=ownsRow_succ hown4;have hg8:w.grownBy w8 none:=yab (yaa HG6.out _) hgrow (fun j hj=>.inr (yek hown2 hj));go_wp2_with fail
    go_roundw
    case rel=>exact ⟨k + 1,by go_num,by omega,by rw [HNX.out,if_pos rfl];simpa using hown4,hg8⟩
    case measure=>simp [intOf];omega
   | false =>
    go_wp2_with fail
    go_roundw
    case rel=>exact ⟨k + 1,by go_num,by omega,by rw [HNX.out,if_neg (by simp)];exact hown2,HG6.out⟩
    case measure=>simp [intOf];omega
  ·obtain rfl:k = n:=by omega
   have ht:ls.take k = ls:=jtl (by have:=HL.out;omega);rw [ht] at hown;have hfin:decide ((k:Int) < (k:Int)) = false:=by simp
   rw [ht];have HOW:=jh hown;clear hown hg ht;go_wp2_with fail
   go_ret
   exact ⟨_,rfl,HOW.out,HGG.out⟩
theorem yjn (f:FuncId) (vf:TxV -> ByteArray) (pf:TxV -> Bool) (hf:∀ (V:World) (v:Value),(callFunc f #[v]).run jq V = .ok (.enter f #[v]) V) (B:Nat) (A:Option Addr) (n c:Nat) (ls:List TxV) (w:World) (h:TxsR B w ls A n) (hB:B <= w.heap.size) (hn:n <= 100000)
  (hF:∀ x ∈ ls,∀ sa sb (V:World),TxIn B V x sa sb -> B <= V.heap.size -> Calls jq f #[.agg (txC x sa sb)] V fun e w'=>e = .returned (.tuple #[ja8 (vf x),.bool (pf x)]) /\ V.grownBy w' none) :
  Calls jq 28 #[.slice A n c,.func (.func f) #[] #[]] w fun e w'=>∃ v,e = .returned v /\ w'.ownsRow w.heap.size 9 1 v (colL vf pf ls).length ((colL vf pf ls).map (ja8)) /\ w.grownBy w' none:=by
 have HH:=jh h;have HB:=jh hB;have HL:=jh h.1;have HF:=jh hF;have HFF:=jh hf;obtain ⟨i0,hi,hz0,hz1,hz2⟩:=info_parts ypr;clear h hB hF hf;go_enter Tryz.func28,Tryz.ntmps28
 go_wp2_with fail
 go_loopw [5,12] (fun v i wr=>∃ k:Nat,i = .int .i64 k /\ k <= n /\ wr.ownsRow w.heap.size 9 1 v (colL vf pf (ls.take k)).length ((colL vf pf (ls.take k)).map (ja8)) /\ w.grownBy wr none) (fun _ i _=>n - (intOf i).toNat)
 case atStart=>exact ⟨0,rfl,by omega,jon _ _ _ _,jr _ _⟩
 case round =>
  obtain ⟨k,rfl,hk,hown,hg⟩:=hrel;obtain ⟨A',cc,rfl,_⟩:=yaN hown;have HGG:=jh hg;by_cases hlt:k < n
  ·obtain ⟨g,off,sa,sb,x,rfl,hx,mx,hcx,hin⟩:=(HH.out.grown hg HB.out).at_ hlt;obtain ⟨⟨pa,xa,rfl,hacc⟩,⟨pb,xb,rfl,haut⟩,la,lb⟩:=id hin;have hlen:=ydL vf pf ls k;have hnx:=yfG vf pf ls k (by rw [HL.out];exact hlt) x hx;obtain ⟨ys,hys⟩:∃ ys,colL vf pf (ls.take k) = ys:=⟨_,rfl⟩;rw [hys] at hown hnx hlen ⊢;have q1:(k:Int) < (n:Int):=by omega
   have q2:(0:Int) <= (k:Int):=by omega
   have hB2:=jlt HB.out hg.size;have HCX:=jh hcx;have HNX:=jh hnx;have HCALL:=jh (fun (V:World) (hV:wr.grownBy V none)=>HF.out x mx (.slice pa x.acc.length xa) (.slice pb x.auths.length xb) V (hin.grown hV hB2) (jlt hB2 hV.size));have HONE1:=jh (ygS x pa pb x.acc.length xa x.auths.length xb);have HSZ:=jh (show (txC x (.slice pa x.acc.length xa) (.slice pb x.auths.length xb)).size = 36 from rfl);clear hx hg hcx hin hacc haut la lb mx hB2 hnx hys;go_upto_region 4 with (fail)
   refine jwl ?_
   iterate 3 go_step
   refine wp_load_mid 42 (.tmp 14) rfl g (off + k * 36) rfl (txL x (.slice pa x.acc.length xa) (.slice pb x.auths.length xb)) _ HCX.out ja3 rfl (by kernel_rfl) ?_;clear HCX;rw [show (txL x (.slice pa x.acc.length xa) (.slice pb x.auths.length xb)).toArray = txC x (.slice pa x.acc.length xa) (.slice pb x.auths.length xb) from rfl];generalize txC x (.slice pa x.acc.length xa) (.slice pb x.auths.length xb) = ct at *;have hga:=yaa (jr wr none) (.cells ct 42);have hbk:=Blk.new wr 42 ct
   iterate 5 go_step
   refine wp_store_row 42 (.tmp 7) (.tmp 15) rfl wr.heap.size ct rfl rfl 42 txZ (Blk.new wr _ txZ) ((show (jq.info? 42).map (·.size) = some 36 by kernel_rfl).trans (congrArg some HSZ.out.symm)) (by rw [HSZ.out];rfl) HONE1.out ?_;rw [World.setRow_alloc_new];obtain ⟨g6,hg6⟩:∃ g,wr.heap.size = g:=⟨_,rfl⟩;rw [hg6] at hbk ⊢;clear hg6;have HGA:=jh hga;have HCALL2:=jh (HCALL.out _ hga);have hown1:=hown.kept hga (Classical.em _);generalize wr.alloc (.cells ct 42) = w5 at *;have HBK:=jh hbk;clear hga hbk HCALL HONE1 hown;go_upto_region 5 with (fail)
   refine jwl ?_;refine zm 1 (.func (.func f) #[] #[]) rfl ?_;simp only [jp,jb,jz,js];refine yac rfl (.agg ct) (yaq rfl rfl 42 ct _ HBK.out ja3 rfl ((show (jq.info? 42).map (·.size) = some 36 by kernel_rfl).trans (congrArg some HSZ.out.symm))) ?_;simp only [jp,jb,jz,js];refine yai rfl f #[.agg ct] (ycL f (.tmp 17) (.tmp 18) _ rfl rfl _ rfl (HFF.out _ _)) (HCALL2.out.mono ?_);rintro e w6 ⟨rfl,hg6⟩;refine ⟨_,rfl,?_⟩;simp only [jp,jb,jz,js];have hown2:=hown1.kept hg6 (Classical.em _);have HG6:=jh (yab (yab HGG.out HGA.out (by simp)) hg6 (by simp));obtain ⟨vx,hvx⟩:∃ v,vf x = v:=⟨_,rfl⟩;obtain ⟨b,hb⟩:∃ b,pf x = b:=⟨_,rfl⟩;rw [hvx,hb];rw [hvx,hb] at HNX;clear hg6 HCALL2 HGA hown1 hvx hb HBK;have hsz2:=HG6.out.size;cases b with
   | true =>
    go_wp2_with (at_builtin;refine wpList_append_own _ rfl _ _ 57 rfl w.heap.size 9 i0 (.string .empty) 1 16 Tryz.underlying57 hi hz0 hz1 hz2 rfl (by decide) _ _ _ rfl (hown2.alloc _) ⟨w6.heap.size,0,none⟩ 1 1 [ja8 vx] rfl rfl (cell_one_new _ _ _) (by simp [ja2]) (by simp only [maxLen];omega) (by omega) (by simp;omega) ?_;intro v' w8 hown4 hgrow _)
    obtain ⟨g',cap',rfl⟩:=ownsRow_succ hown4;have hg8:w.grownBy w8 none:=yab (yaa HG6.out _) hgrow (fun j hj=>.inr (yek hown2 hj));go_wp2_with fail
    go_roundw
    case rel=>exact ⟨k + 1,by go_num,by omega,by rw [HNX.out,if_pos rfl];simpa using hown4,hg8⟩
    case measure=>simp [intOf];omega
   | false =>
    go_wp2_with fail
    go_roundw
    case rel=>exact ⟨k + 1,by go_num,by omega,by rw [HNX.out,if_neg (by simp)];exact hown2,HG6.out⟩
    case measure=>simp [intOf];omega
  ·obtain rfl:k = n:=by omega
   have ht:ls.take k = ls:=jtl (by have:=HL.out;omega);rw [ht] at hown;have hfin:decide ((k:Int) < (k:Int)) = false:=by simp
   rw [ht];have HOW:=jh hown;clear hown hg ht;go_wp2_with fail
   go_ret
   exact ⟨_,rfl,HOW.out,HGG.out⟩
theorem yjo (f:FuncId) (vf:TxV -> Int) (pf:TxV -> Bool) (hf:∀ (V:World) (v:Value),(callFunc f #[v]).run jq V = .ok (.enter f #[v]) V) (B:Nat) (A:Option Addr) (n c:Nat) (ls:List TxV) (w:World) (h:TxsR B w ls A n) (hB:B <= w.heap.size) (hn:n <= 100000)
  (hF:∀ x ∈ ls,∀ sa sb (V:World),TxIn B V x sa sb -> B <= V.heap.size -> Calls jq f #[.agg (txC x sa sb)] V fun e w'=>e = .returned (.tuple #[Value.int .u64 (vf x),.bool (pf x)]) /\ V.grownBy w' none) :
  Calls jq 25 #[.slice A n c,.func (.func f) #[] #[]] w fun e w'=>∃ v,e = .returned v /\ w'.ownsRow w.heap.size 23 1 v (colL vf pf ls).length ((colL vf pf ls).map (Value.int .u64)) /\ w.grownBy w' none:=by
 have HH:=jh h;have HB:=jh hB;have HL:=jh h.1;have HF:=jh hF;have HFF:=jh hf;obtain ⟨i0,hi,hz0,hz1,hz2⟩:=info_parts yps;clear h hB hF hf;go_enter Tryz.func25,Tryz.ntmps25
 go_wp2_with fail
 go_loopw [5,12] (fun v i wr=>∃ k:Nat,i = .int .i64 k /\ k <= n /\ wr.ownsRow w.heap.size 23 1 v (colL vf pf (ls.take k)).length ((colL vf pf (ls.take k)).map (Value.int .u64)) /\ w.grownBy wr none) (fun _ i _=>n - (intOf i).toNat)
 case atStart=>exact ⟨0,rfl,by omega,jon _ _ _ _,jr _ _⟩
 case round =>
  obtain ⟨k,rfl,hk,hown,hg⟩:=hrel;obtain ⟨A',cc,rfl,_⟩:=yaN hown;have HGG:=jh hg;by_cases hlt:k < n
  ·obtain ⟨g,off,sa,sb,x,rfl,hx,mx,hcx,hin⟩:=(HH.out.grown hg HB.out).at_ hlt;obtain ⟨⟨pa,xa,rfl,hacc⟩,⟨pb,xb,rfl,haut⟩,la,lb⟩:=id hin;have hlen:=ydL vf pf ls k;have hnx:=yfG vf pf ls k (by rw [HL.out];exact hlt) x hx;obtain ⟨ys,hys⟩:∃ ys,colL vf pf (ls.take k) = ys:=⟨_,rfl⟩;rw [hys] at hown hnx hlen ⊢;have q1:(k:Int) < (n:Int):=by omega
   have q2:(0:Int) <= (k:Int):=by omega
   have hB2:=jlt HB.out hg.size;have HCX:=jh hcx;have HNX:=jh hnx;have HCALL:=jh (fun (V:World) (hV:wr.grownBy V none)=>HF.out x mx (.slice pa x.acc.length xa) (.slice pb x.auths.length xb) V (hin.grown hV hB2) (jlt hB2 hV.size));have HONE1:=jh (ygS x pa pb x.acc.length xa x.auths.length xb);have HSZ:=jh (show (txC x (.slice pa x.acc.length xa) (.slice pb x.auths.length xb)).size = 36 from rfl);clear hx hg hcx hin hacc haut la lb mx hB2 hnx hys;go_upto_region 4 with (fail)
   refine jwl ?_
   iterate 3 go_step
   refine wp_load_mid 42 (.tmp 14) rfl g (off + k * 36) rfl (txL x (.slice pa x.acc.length xa) (.slice pb x.auths.length xb)) _ HCX.out ja3 rfl (by kernel_rfl) ?_;clear HCX;rw [show (txL x (.slice pa x.acc.length xa) (.slice pb x.auths.length xb)).toArray = txC x (.slice pa x.acc.length xa) (.slice pb x.auths.length xb) from rfl];generalize txC x (.slice pa x.acc.length xa) (.slice pb x.auths.length xb) = ct at *;have hga:=yaa (jr wr none) (.cells ct 42);have hbk:=Blk.new wr 42 ct
   iterate 5 go_step
   refine wp_store_row 42 (.tmp 7) (.tmp 15) rfl wr.heap.size ct rfl rfl 42 txZ (Blk.new wr _ txZ) ((show (jq.info? 42).map (·.size) = some 36 by kernel_rfl).trans (congrArg some HSZ.out.symm)) (by rw [HSZ.out];rfl) HONE1.out ?_;rw [World.setRow_alloc_new];obtain ⟨g6,hg6⟩:∃ g,wr.heap.size = g:=⟨_,rfl⟩;rw [hg6] at hbk ⊢;clear hg6;have HGA:=jh hga;have HCALL2:=jh (HCALL.out _ hga);have hown1:=hown.kept hga (Classical.em _);generalize wr.alloc (.cells ct 42) = w5 at *;have HBK:=jh hbk;clear hga hbk HCALL HONE1 hown;go_upto_region 5 with (fail)
   refine jwl ?_;refine zm 1 (.func (.func f) #[] #[]) rfl ?_;simp only [jp,jb,jz,js];refine yac rfl (.agg ct) (yaq rfl rfl 42 ct _ HBK.out ja3 rfl ((show (jq.info? 42).map (·.size) = some 36 by kernel_rfl).trans (congrArg some HSZ.out.symm))) ?_;simp only [jp,jb,jz,js];refine yai rfl f #[.agg ct] (ycL f (.tmp 17) (.tmp 18) _ rfl rfl _ rfl (HFF.out _ _)) (HCALL2.out.mono ?_);rintro e w6 ⟨rfl,hg6⟩;refine ⟨_,rfl,?_⟩;simp only [jp,jb,jz,js];have hown2:=hown1.kept hg6 (Classical.em _);have HG6:=jh (yab (yab HGG.out HGA.out (by simp)) hg6 (by simp));obtain ⟨vx,hvx⟩:∃ v,vf x = v:=⟨_,rfl⟩;obtain ⟨b,hb⟩:∃ b,pf x = b:=⟨_,rfl⟩;rw [hvx,hb];rw [hvx,hb] at HNX;clear hg6 HCALL2 HGA hown1 hvx hb HBK;have hsz2:=HG6.out.size;cases b with
   | true =>
    go_wp2_with (at_builtin;refine wpList_append_own _ rfl _ _ 52 rfl w.heap.size 23 i0 (.int .u64 0) 1 8 Tryz.underlying52 hi hz0 hz1 hz2 rfl (by decide) _ _ _ rfl (hown2.alloc _) ⟨w6.heap.size,0,none⟩ 1 1 [Value.int .u64 vx] rfl rfl (cell_one_new _ _ _) (by simp [ja2]) (by simp only [maxLen];omega) (by omega) (by simp;omega) ?_;intro v' w8 hown4 hgrow _)
    obtain ⟨g',cap',rfl⟩:=ownsRow_succ hown4;have hg8:w.grownBy w8 none:=yab (yaa HG6.out _) hgrow (fun j hj=>.inr (yek hown2 hj));go_wp2_with fail
    go_roundw
    case rel=>exact ⟨k + 1,by go_num,by omega,by rw [HNX.out,if_pos rfl];simpa using hown4,hg8⟩
    case measure=>simp [intOf];omega
   | false =>
    go_wp2_with fail
    go_roundw
    case rel=>exact ⟨k + 1,by go_num,by omega,by rw [HNX.out,if_neg (by simp)];exact hown2,HG6.out⟩
    case measure=>simp [intOf];omega
  ·obtain rfl:k = n:=by omega
   have ht:ls.take k = ls:=jtl (by have:=HL.out;omega);rw [ht] at hown;have hfin:decide ((k:Int) < (k:Int)) = false:=by simp
   rw [ht];have HOW:=jh hown;clear hown hg ht;go_wp2_with fail
   go_ret
   exact ⟨_,rfl,HOW.out,HGG.out⟩
theorem yfO (B:Nat) (A:Option Addr) (n c:Nat) (ls:List AccV) (w:World) (h:AccR B w ls A n) (hB:B <= w.heap.size) (hn:n <= 1000) (hts:∀ l ∈ ls,l.keys.length <= 1000) :
  Calls jq 119 #[.slice A n c] w fun e w'=>∃ A' c',e = .returned (.agg #[.bool true,.string ⟨#[]⟩,.slice A' n c']) /\ SubV (fun g=>w.heap.size <= g) w' (ls.map ybt) (.slice A' n c') /\ w.grownBy w' none:=by
 have hl:ls.length = n:=h.1;have hRB:=Blk.new w 106 #[.bool false,.string ⟨#[]⟩,.slice none 0 0];have hG:=yaa (jr w none) (.cells #[.bool false,.string ⟨#[]⟩,.slice none 0 0] 106);have h:=h.grown hG hB;have hB1:=jlt hB hG.size;go_enter Tryz.func119,Tryz.ntmps119
 go_upto_region 1 with (fail)
 obtain ⟨b,hb⟩:∃ b,w.heap.size = b:=⟨_,rfl⟩;have HW:=jh hb;rw [hb] at hRB ⊢;have hz:(w.alloc (.cells #[.bool false,.string ⟨#[]⟩,.slice none 0 0] 106)).heap.size = b + 1:=by simp [hb]
 clear hb;change Code.wp _ _ _ _ (w.alloc (.cells #[.bool false,.string ⟨#[]⟩,.slice none 0 0] 106));generalize w.alloc (.cells #[.bool false,.string ⟨#[]⟩,.slice none 0 0] 106) = w3 at *;have hb3:w3.heap.size = b + 1:=hz
 have K0:RdI w3 (b + 1) (.slice none 0 0) 0 ((ls.take 0).map ybt) [] (w3.alloc (.cells #[.bool true,.string ⟨#[]⟩,.slice none 0 0] 106)):=by
  refine ⟨⟨?_,jon _ _ _ _,yaa (jr w3 none) _,by simp;omega,by omega⟩,rfl,rfl,fun i hi=>absurd hi (by omega)⟩;have:=Blk.new w3 106 #[.bool true,.string ⟨#[]⟩,.slice none 0 0]
  rwa [hb3] at this
 have H0:=jh h;have HL:=jh hl;have HB:Hid (B <= w3.heap.size):=jh hB1;have HB3:Hid (w3.heap.size = (b + 1)):=jh hb3;have HRB:=jh hRB;have HG:=jh hG;have HZB:Hid (b + 1 <= (b + 1)):=jh (by omega);have HTS:=jh hts;clear hG hl hB hB1 hRB h hts;go_upto_region 2 with (fail)
 generalize w3.alloc (.cells #[.bool true,.string ⟨#[]⟩,.slice none 0 0] 106) = W4 at *;clear hz hb3;go_wp2_with fail
 go_loopw [4] (fun i wr=>∃ (k:Nat) (v:Value) (vs:List Value),i = .int .i64 k /\ k <= n /\ RdI w3 (b + 1) v k ((ls.take k).map ybt) vs wr) (fun i _=>n - (intOf i).toNat)
 case atStart=>exact ⟨0,_,_,rfl,by omega,K0⟩
 case round =>
  clear K0;obtain ⟨k,v,vs,rfl,hk,K0⟩:=hrel;by_cases hlt:k < n
  ·obtain ⟨q,off,T,tc,x,rfl,hx,hmem,c0,c1,hT,_⟩:=(H0.out.grown K0.held.grown HB.out).at_ hlt;have q1:(k:Int) < (n:Int):=by omega
   have hqb:q < (b + 1):=by
    obtain ⟨q9,off9,e9,hq9,_⟩:=H0.out.2 (by omega);have e8:q = q9:=by injection e9 with e;injection e with e _ _
    have h1:=HB.out;have h2:=HB3.out;omega
   have htl:=HTS.out x hmem
   have hTK:(ls.take k).map ybt ++ [ybt x] = (ls.take (k + 1)).map ybt:=by
    rw [List.take_add_one,je (by have:=HL.out;omega),List.map_append];rw [<- hx,jg,je (by have:=HL.out;omega)];rfl
   have HTK:=jh hTK;obtain ⟨its,hits⟩:∃ its,(ls.take k).map ybt = its:=⟨_,rfl⟩;rw [hits] at HTK K0;obtain ⟨ad,keys⟩:=x;simp only at c0 c1 hT htl;obtain ⟨kn,hkn⟩:∃ m,keys.length = m:=⟨_,rfl⟩;have hkl:(keys.map txt).length = kn:=by simp [hkn]
   rw [hkn] at c1 hT htl;have HBW:=jh (jlt HB.out K0.held.grown.size);have HTX:Hid (∀ V,wr.grownBy V none -> Calls jq 151 #[.slice T kn tc] V fun e w'=>∃ A' c',e = .returned (.agg #[.bool true,.string ⟨#[]⟩,.slice A' kn c']) /\ SubV (fun g=>V.heap.size <= g) w' (keys.map txt) (.slice A' kn c') /\ V.grownBy w' none):=jh fun V hV=>yiF B T kn tc keys V (hT.grown hV HBW.out (by simp)) (jlt HBW.out hV.size) htl;clear hx hmem hT hTK hits htl hkn;obtain ⟨vA,vc,rfl⟩:=yaK K0.held.own;have HQB:=jh hqb;clear hqb;go_upto_region 5 with (fail)
   refine yci 19 (fun bb W=>bb = false -> W.cell? ⟨(b + 1),2,none⟩ = some (.slice vA k vc) /\ W.cell? ⟨q,off + k * 2,none⟩ = some (.string ad) /\ W.cell? ⟨q,off + k * 2 + 1,none⟩ = some (.slice T kn tc)) (by kernel_rfl) ?_;have hgu:=ya2 (jr wr none);replace K0:RdI w3 (b + 1) (.slice vA k vc) k its vs wr.drew:=K0.kept (ya2 (jr wr none));replace c0:wr.drew.cell? ⟨q,off + k * 2,none⟩ = some (.string ad):=c0;replace c1:wr.drew.cell? ⟨q,off + k * 2 + 1,none⟩ = some (.slice T kn tc):=c1;generalize wr.drew = u0 at *;have hS0:false = false -> u0.cell? ⟨(b + 1),2,none⟩ = some (.slice vA k vc) /\ u0.cell? ⟨q,off + k * 2,none⟩ = some (.string ad) /\ u0.cell? ⟨q,off + k * 2 + 1,none⟩ = some (.slice T kn tc):=fun _=>⟨K0.held.blk.cell 2,c0,c1⟩;refine zf 0 (.pointer (some ⟨(b + 1),2,none⟩)) (some 12) rfl (fun W hW=>by go_simp) hS0 ?_;simp only [jp,jb,jz,js];refine zf 1 (.slice vA k vc) (some 13) rfl (fun W hW=>yaf 104 (.tmp 12) rfl _ rfl _ _ ja7 rfl (hW rfl).1) hS0 ?_;simp only [jp,jb,jz,js];refine zf 2 (.slice (some ⟨q,off,none⟩) n c) (some 14) rfl (fun W hW=>yan (.tmp 0) rfl _ rfl) hS0 ?_;simp only [jp,jb,jz,js];refine zf 3 (.int .i64 (k:Int)) (some 15) rfl (fun W hW=>yan (.tmp 4) rfl _ rfl) hS0 ?_;simp only [jp,jb,jz,js];refine zf 4 (.pointer (some ⟨q,off + k * 2,none⟩)) (some 16) rfl (fun W hW=>by go_simp <;> first | rfl | simp [jd2]) hS0 ?_;simp only [jp,jb,jz,js];refine zf 5 (.pointer (some ⟨q,off + k * 2,none⟩)) (some 17) rfl (fun W hW=>by go_simp <;> rfl) hS0 ?_;simp only [jp,jb,jz,js];refine zf 6 (.string ad) (some 18) rfl (fun W hW=>yaf 9 (.tmp 17) rfl _ rfl _ _ ja9 rfl (hW rfl).2.1) hS0 ?_;simp only [jp,jb,jz,js];refine zf 8 (.slice (some ⟨q,off,none⟩) n c) (some 20) rfl (fun W hW=>yan (.tmp 0) rfl _ rfl) hS0 ?_;simp only [jp,jb,jz,js];refine zf 9 (.int .i64 (k:Int)) (some 21) rfl (fun W hW=>yan (.tmp 4) rfl _ rfl) hS0 ?_;simp only [jp,jb,jz,js];refine zf 10 (.pointer (some ⟨q,off + k * 2,none⟩)) (some 22) rfl (fun W hW=>by go_simp <;> first | rfl | simp [jd2]) hS0 ?_;simp only [jp,jb,jz,js];refine zf 11 (.pointer (some ⟨q,off + k * 2 + 1,none⟩)) (some 23) rfl (fun W hW=>by go_simp <;> rfl) hS0 ?_;simp only [jp,jb,jz,js];refine zf 12 (.slice T kn tc) (some 24) rfl (fun W hW=>yaf 57 (.tmp 23) rfl _ rfl _ _ Tryz.underlying57 rfl (hW rfl).2.2) hS0 ?_;simp only [jp,jb,jz,js];clear hS0;refine yb6 (i:=7) (by kernel_rfl) ?_;refine ycJ (some 19) rfl rfl 116 #[.string ad] (yak _ (.tmp 18) _ rfl _ rfl (jeo Tryz.func116 (by kernel_rfl) rfl _ _)) rfl false (by kernel_rfl) ((ydC ad u0).mono ?_);rintro e u1 ⟨rfl,hg1⟩;replace K0:=K0.kept hg1;replace c0:=hg1.cell c0 (by simp);replace c1:=hg1.cell c1 (by simp);replace hgu:=yab hgu hg1 (by simp);refine ⟨_,rfl,(fun _=>⟨K0.held.blk.cell 2,c0,c1⟩),?_⟩;simp only [jp,jb,jz,js];refine yb6 (i:=13) (by kernel_rfl) ?_;refine ycJ (some 25) rfl rfl 151 #[.slice T kn tc] (yak _ (.tmp 24) _ rfl _ rfl (jeo Tryz.func151 (by kernel_rfl) rfl _ _)) rfl false (by kernel_rfl) ((HTX.out u1 hgu).mono ?_);rintro e u2 ⟨A',c',rfl,hsub,hg2⟩;have hx1:SubV (fun g=>(b + 1) + 1 <= g /\ (ja4 vA k vc).ownBlock ≠ some g) u2 (keys.map txt) (.slice A' kn c'):=hsub.weak (fun g (h:u1.heap.size <= g)=>⟨by have:=K0.held.size;omega,fun e=>by have:=ycH K0.held.own e;omega⟩);replace K0:=K0.kept hg2;replace c0:=hg2.cell c0 (by simp);replace c1:=hg2.cell c1 (by simp);clear hsub hg1 hg2 hgu HTX;refine ⟨_,rfl,(fun _=>⟨K0.held.blk.cell 2,c0,c1⟩),?_⟩;simp only [jp,jb,jz,js];refine yb6 (i:=14) (by kernel_rfl) ?_;rw [<- hkl] at hx1;have hx2:=yj8 (fun g=>(b + 1) + 1 <= g /\ (ja4 vA k vc).ownBlock ≠ some g) u2 ad (keys.map txt) A' c' ⟨by have:=K0.held.size;omega,fun e=>by have:=ycH K0.held.own e;omega⟩ hx1;rw [hkl] at hx2;have hga:=yaa (jr u2 none) (.cells #[.bool false,.string ad,.slice none 0 0,.bool true,.string ⟨#[]⟩,.slice A' kn c'] 106);replace K0:=K0.kept hga;replace c0:=hga.cell c0 (by simp);replace c1:=hga.cell c1 (by simp);refine ybs (some 26) rfl rfl (.slice (some ⟨u2.heap.size,0,none⟩) 2 2) (w':=u2.alloc (.cells #[.bool false,.string ad,.slice none 0 0,.bool true,.string ⟨#[]⟩,.slice A' kn c'] 106)) (by go_simp <;> rfl) rfl false (by kernel_rfl) (fun _=>⟨K0.held.blk.cell 2,c0,c1⟩) ?_;simp only [jp,jb,jz,js];obtain ⟨z,hz⟩:∃ z,u2.heap.size = z:=⟨_,rfl⟩;rw [hz] at hx2;clear hga hx1;generalize u2.alloc (.cells #[.bool false,.string ad,.slice none 0 0,.bool true,.string ⟨#[]⟩,.slice A' kn c'] 106) = u3 at *;refine yb6 (i:=15) (by kernel_rfl) ?_;refine ycJ (some 27) rfl rfl 118 #[.slice (some ⟨z,0,none⟩) 2 2] (yak _ (.tmp 26) _ rfl _ (by rw [<- hz];rfl) (jeo Tryz.func118 (by kernel_rfl) rfl _ _)) rfl false (by kernel_rfl) ((ydI (.slice (some ⟨z,0,none⟩) 2 2) ⟨_,_,_,rfl⟩ u3).mono ?_);rintro e u4 ⟨rfl,hg4⟩;replace K0:=K0.kept hg4;replace c0:=hg4.cell c0 (by simp);replace c1:=hg4.cell c1 (by simp);replace hx2:=SubV.grown hx2 hg4;refine ⟨_,rfl,(fun _=>⟨K0.held.blk.cell 2,c0,c1⟩),?_⟩;simp only [jp,jb,jz,js];clear hg4;refine yb6 (i:=16) (by kernel_rfl) ?_;have hga:=yaa (jr u4 none) (.cells #[.bool true,.string ⟨#[]⟩,.slice (some ⟨z,0,none⟩) 2 2] 106);replace K0:=K0.kept hga;replace c0:=hga.cell c0 (by simp);replace c1:=hga.cell c1 (by simp);replace hx2:=SubV.grown hx2 hga;refine ybs (some 28) rfl rfl (.slice (some ⟨u4.heap.size,0,none⟩) 1 1) (w':=u4.alloc (.cells #[.bool true,.string ⟨#[]⟩,.slice (some ⟨z,0,none⟩) 2 2] 106)) (by go_simp <;> rfl) rfl false (by kernel_rfl) (fun _=>⟨K0.held.blk.cell 2,c0,c1⟩) ?_;simp only [jp,jb,jz,js];obtain ⟨i0,hi,hz0,hzs,hzb⟩:=info_parts ybr;obtain ⟨v',u6,hrun,hown',hgrow,hiff,hob⟩:=jra (P:=jq) (u4.alloc (.cells #[.bool true,.string ⟨#[]⟩,.slice (some ⟨z,0,none⟩) 2 2] 106)) ((b + 1) + 1) 104 104 106 i0 _ 3 48 ja7 hi hz0 hzs hzb rfl (by decide) (.slice vA k vc) k (yb2 its vs) K0.held.own ⟨u4.heap.size,0,none⟩ 1 1 [.bool true,.string ⟨#[]⟩,.slice (some ⟨z,0,none⟩) 2 2] rfl (yaJ _ _ _ _ _) (by simp [ja2]) (by simp only [maxLen];omega) (by omega) K0.held.size;obtain ⟨g',cap',rfl⟩:=ownsRow_succ hown';have K3:=K0.put (ybt ⟨ad,keys⟩) (.slice (some ⟨z,0,none⟩) 2 2) hx2 hown' hgrow hob;have hnq:(ja4 vA k vc).ownBlock ≠ some q:=fun e=>by have:=yaj K0.held.own e;have:=HQB.out;omega
   have d0:=hgrow.cell c0 (fun e=>hnq e.symm);have d1:=hgrow.cell c1 (fun e=>hnq e.symm);have hbb:=K0.held.blk.grown hgrow (fun e=>by have:=yaj K0.held.own e.symm;omega);refine yb6 (i:=17) (by kernel_rfl) ?_;refine ybs (some 29) rfl rfl (.slice (some ⟨g',0,none⟩) (k + 1) cap') (ya7 (.tmp 13) (.tmp 28) 104 rfl _ _ _ rfl rfl hrun) rfl false (by kernel_rfl) (fun _=>⟨hbb.cell 2,d0,d1⟩) ?_;simp only [jp,jb,jz,js];refine yb6 (i:=18) (by kernel_rfl) ?_;refine ybs (some 30) rfl rfl (.pointer (some ⟨(b + 1),2,none⟩)) (by go_simp <;> rfl) rfl false (by kernel_rfl) (fun _=>⟨hbb.cell 2,d0,d1⟩) ?_;simp only [jp,jb,jz,js];refine yb6 (i:=19) (by kernel_rfl) ?_;refine ygA rfl rfl rfl (yaG (.tmp 30) (.tmp 29) rfl rfl rfl hbb (by simp)) true (by kernel_rfl) (fun e=>by cases e) ?_;(try simp only [jp,jb,jz,js]);refine ygB (by kernel_rfl) ?_ _;rw [HTK.out] at K3;clear hrun hown' hgrow hob hiff hx2 K0 c0 c1 d0 d1 hnq hbb hga hz;go_wp2_with fail
   go_roundw
   case rel=>exact ⟨k + 1,_,_,by go_num,by omega,K3⟩
   case measure=>simp [intOf];omega
  ·obtain rfl:k = n:=by omega
   have hfin:decide ((k:Int) < (k:Int)) = false:=by simp
   have hRB:=HRB.out.grown K0.held.grown (by simp);obtain ⟨vA,vc,rfl⟩:=yaK K0.held.own;have hle:w.heap.size <= b:=by have:=HW.out;omega
   have hb3:b + 1 <= (b + 1):=by have:=HZB.out;omega
   have ht:ls.take k = ls:=jtl (by have:=HL.out;omega);rw [ht] at K0;have hS:=K0.row;have HS5:=jh (SubV.weak (ydq (g:=b) hS (by omega) (.bool true) (.string ⟨#[]⟩) (.slice vA k vc)) (fun g (hg:(b + 1) + 1 <= g)=>(show w.heap.size <= g by omega)));have HG5:=jh (yap (yap (yap (yab HG.out K0.held.grown (by simp)) (p:=⟨b,0,none⟩) hle (.bool true)) (p:=⟨b,1,none⟩) hle (.string ⟨#[]⟩)) (p:=⟨b,2,none⟩) hle (.slice vA k vc));have HB5:=jh (((hRB.set_ 0 (.bool true)).set_ 1 (.string ⟨#[]⟩)).set_ 2 (.slice vA k vc));have c0:=hRB.cell 0;have c1:=hRB.cell 1;have c2:=hRB.cell 2;have d0:=hRB.frozen 0;have d1:=hRB.frozen 1;have d2:=hRB.frozen 2;have e0:=K0.held.blk.cell 0;have e1:=K0.held.blk.cell 1;have e2:=K0.held.blk.cell 2;simp only [jta,jcz,jcs] at c0 c1 c2 e0 e1 e2;clear K0 hle hb3 ht hS hRB hk hlt;go_wp2_with fail
   refine jbr (yaw (fn:=Tryz.f119) rfl _ _ _ _ rfl (yaX HB5.out)) rfl ?_;exact ⟨_,_,rfl,HS5.out,HG5.out⟩
section
variable {P:Program} {ops:Array Oper} {Q:Exit -> Act -> World -> Prop} {md:Region.Mode}
def yel (listed:Array Bool):Nat -> Nat
 | 0=>0
 | n + 1=>yel listed n + (if listed.getD n true then 0 else 1)
theorem yhV (listed:Array Bool) (i:Nat):∀ n,n <= i -> yel (listed.setIfInBounds i true) n = yel listed n
 | 0,_=>rfl
 | n + 1,h=>by rw [yel,yel,yhV listed i n (by omega),getD_set_ne true (by omega)]
theorem yhU (listed:Array Bool) (i:Nat) (hi:listed.getD i true = false):∀ n,i < n -> yel (listed.setIfInBounds i true) n + 1 = yel listed n
 | 0,h=>by omega
 | n + 1,h=>by
  rw [yel,yel];by_cases e:i = n
  ·subst e
   have hlt:i < listed.size:=by
    rcases Nat.lt_or_ge i listed.size with h' | h'
    ·exact h'
    ·rw [jc0,jc8 h'] at hi;cases hi
   rw [yhV listed i i (jle _),hi,jc0,jd7 hlt]
   simp
  ·have:=yhU listed i hi n (by omega);rw [getD_set_ne true e];omega
theorem ylS (listed:Array Bool):∀ n,yel listed n = 0 -> ∀ i,i < n -> listed.getD i true = true
 | 0,_,i,h=>by omega
 | n + 1,h0,i,h=>by
  rw [yel] at h0;by_cases e:i = n
  ·subst e;cases hh:listed.getD i true with
   | true=>rfl
   | false=>rw [hh] at h0;simp at h0
  ·exact ylS listed n (by omega) i (by omega)
structure GrI (V:Nat -> Value -> World -> Prop) (d:Nat -> Tmp) (n:Nat) (base:Act) (w0:World) (listed:Array Bool) (a:Act) (w:World):Prop where
 grown:w0.grownBy w none
 defers:a.defers = base.defers
 len:a.tmps.size = base.tmps.size
 far:∀ t,(∀ i,i < n -> d i ≠ t) -> a.tmps[t]? = base.tmps[t]?
 val:∀ i,i < n -> listed.getD i true = true -> ∃ x,a.tmps[d i]? = some x /\ V i x w
def ykc (P:Program) (ops:Array Oper) (Q:Exit -> Act -> World -> Prop) (V:Nat -> Value -> World -> Prop) (ds:List Tmp) (base:Act) (w0:World) (i:Nat):Prop :=
 ∀ a w,w0.grownBy w none -> (∀ t,ds.contains t = false -> a.tmps[t]? = base.tmps[t]?) -> (∀ j,((ops[i]?).map fun o=>o.after.any fun e=>Region.binds .any e && e.on == j).getD false = true -> ∃ x,a.tmps[ds.getD j 0]? = some x /\ V j x w) ->
  wpOp P ops Q i (fun a' w'=>w.grownBy w' none /\ ∃ x,a' = a.put (some (ds.getD i 0)) x /\ V i x w') a w
theorem yik (d:Nat -> Tmp) (X:Nat -> Value) (tm:Array Value):∀ (l:List Nat) (base:Act),base.tmps.size = tm.size -> (∀ i ∈ l,d i < tm.size) -> (∀ i ∈ l,tm[d i]? = some (X i)) ->
  (l.foldl (fun a i=>a.put (some (d i)) (X i)) base).defers = base.defers /\ (l.foldl (fun a i=>a.put (some (d i)) (X i)) base).tmps.size = tm.size /\ ∀ t,(l.foldl (fun a i=>a.put (some (d i)) (X i)) base).tmps[t]? = if t ∈ l.map d then tm[t]? else base.tmps[t]?
 | [],base,hs,_,_=>⟨rfl,hs,fun t=>by simp⟩
 | i :: l,base,hs,hd,hx=>by
  have hs':(base.put (some (d i)) (X i)).tmps.size = tm.size:=by simp [jp,hs]
  obtain ⟨h1,h2,h3⟩:=yik d X tm l (base.put (some (d i)) (X i)) hs' (fun j hj=>hd j (List.mem_cons_of_mem _ hj)) (fun j hj=>hx j (List.mem_cons_of_mem _ hj));refine ⟨h1,h2,fun t=>?_⟩;rw [List.foldl_cons,h3 t,jb5];by_cases ht:t ∈ l.map d
  ·rw [if_pos ht,if_pos (List.mem_cons_of_mem _ ht)]
  ·rw [if_neg ht];by_cases e:t = d i
   ·subst e;have hlt:d i < base.tmps.size:=by rw [hs];exact hd i (List.mem_cons_self ..)
    rw [if_pos (List.mem_cons_self ..),hx i (List.mem_cons_self ..)];simp [jp,hlt]
   ·rw [if_neg (by simp only [je6,not_or];exact ⟨e,ht⟩)];simp only [jp];rw [Array.getElem?_setIfInBounds_ne (Ne.symm e)]
def yjE (ops:Array Oper) (ds:List Tmp) (m:Nat):Bool :=
 ds.length == ops.size && decide ds.Nodup && ds.all (fun t=>Nat.blt t m) && (List.range ops.size).all fun i=>match ops[i]? with
  | some o=>o.dst == some (ds.getD i 0) && o.after.all fun e=>Nat.blt e.on i
  | none=>false
theorem yfS {id:Nat} {base:Act} {w:World} (V:Nat -> Value -> World -> Prop) (ds:List Tmp) (hm:P.follows .mixedOrders = true) (hp:yjE ops ds base.tmps.size = true)
  (mono:∀ i x u u',V i x u -> u.grownBy u' none -> V i x u')
  (hstep:∀ i,i < ops.size -> ykc P ops Q V ds base w.drew i)
  (n:Nat) (hn:ops.size = n) (hend:∀ (X:Nat -> Value) (u:World),w.drew.grownBy u none -> (∀ i,i < n -> V i (X i) u) -> Q .normal ((List.range n).foldl (fun a i=>a.put (some (ds.getD i 0)) (X i)) base) u) :
  (Code.region id ops true).wp P Q base w:=by
 subst hn;unfold yjE at hp;simp only [Bool.and_eq_true,beq_iff_eq,decide_eq_true_eq,List.all_eq_true,List.mem_range] at hp;obtain ⟨⟨⟨hlen,hnd⟩,hbd⟩,hops⟩:=hp
 have hop:∀ i,i < ops.size -> ∃ o,ops[i]? = some o /\ o.dst = some (ds.getD i 0) /\ ∀ e ∈ o.after,e.on < i:=fun i hi=>by
  have h:=hops i hi;rw [jb4 hi] at h ⊢;simp only [Bool.and_eq_true,beq_iff_eq,Array.all_eq_true_iff_forall_mem] at h;exact ⟨_,rfl,h.1,fun e he=>jb1 (h.2 e he)⟩
 have hin:∀ i,i < ops.size -> ds.getD i 0 ∈ ds:=fun i hi=>by
  rw [jg,je (by omega)];exact List.getElem_mem _
 have hinj:∀ i j,i < ops.size -> j < ops.size -> ds.getD i 0 = ds.getD j 0 -> i = j:=fun i j hi hj e=>by
  rw [jg,jg,je (by omega),je (by omega)] at e;exact (List.getElem_inj hnd).1 e
 have key:∀ fuel (listed:Array Bool) (a:Act) (u:World),listed.size = ops.size -> GrI V (fun i=>ds.getD i 0) ops.size base w.drew listed a u -> yel listed ops.size <= fuel -> wpAny P .any ops Q fuel listed a u:=by
  have fin:∀ (listed:Array Bool) (a:Act) (u:World),GrI V (fun i=>ds.getD i 0) ops.size base w.drew listed a u -> (∀ i,i < ops.size -> listed.getD i true = true) -> Q .normal a u:=fun listed a u h hall=>by
   have hx:∀ i,i < ops.size -> a.tmps[ds.getD i 0]? = some (a.tmps.getD (ds.getD i 0) undef) /\ V i (a.tmps.getD (ds.getD i 0) undef) u:=fun i hi=>by
    obtain ⟨x,h1,h2⟩:=h.val i hi (hall i hi);have e:a.tmps.getD (ds.getD i 0) undef = x:=by rw [jc0,h1];rfl
    rw [e];exact ⟨h1,h2⟩
   have hf:=yik (fun i=>ds.getD i 0) (fun i=>a.tmps.getD (ds.getD i 0) undef) a.tmps (List.range ops.size) base h.len.symm (fun i hi=>by rw [h.len];exact jb1 (hbd _ (hin i (List.mem_range.1 hi)))) (fun i hi=>(hx i (List.mem_range.1 hi)).1)
   have he:(List.range ops.size).foldl (fun a' i=>a'.put (some (ds.getD i 0)) (a.tmps.getD (ds.getD i 0) undef)) base = a:=by
    obtain ⟨h1,h2,h3⟩:=hf
    have ht:((List.range ops.size).foldl (fun a' i=>a'.put (some (ds.getD i 0)) (a.tmps.getD (ds.getD i 0) undef)) base).tmps = a.tmps:=Array.ext_getElem? fun t=>by
     rw [h3 t];split
     ·rfl
     ·rename_i hn
      exact (h.far t fun i hi e=>hn (List.mem_map.2 ⟨i,List.mem_range.2 hi,e⟩)).symm
    obtain ⟨at_,ad⟩:=a;generalize (List.range ops.size).foldl _ base = b at *;obtain ⟨bt,bd⟩:=b;simp only at ht h1;rw [ht,h1,<- h.defers]
   have:=hend (fun i=>a.tmps.getD (ds.getD i 0) undef) u h.grown fun i hi=>(hx i hi).2
   rwa [he] at this
  have all_of:∀ (listed:Array Bool),Region.ready .any ops listed = [] -> listed.size = ops.size -> ∀ i,i < ops.size -> listed.getD i true = true:=fun listed hr hs i=>by
   induction i using Nat.strongRecOn with
   | _ i ih =>
    intro hi;cases hc:listed.getD i true with
    | true=>rfl
    | false =>
     obtain ⟨o,ho,_,ha⟩:=hop i hi
     have:i ∈ Region.ready .any ops listed:=mem_ready.2 ⟨hc,o,ho,fun e he _=>by
      have h1:=ha e he;have h2:=ih e.on h1 (by omega);rw [jc0,jb4 (by omega)] at h2 ⊢;simpa using h2⟩
     rw [hr] at this;cases this
  intro fuel
  induction fuel with
  | zero =>
   intro listed a u hs h hc;have hall:=ylS listed ops.size (by omega);refine ⟨?_,fin listed a u h hall⟩;refine List.eq_nil_iff_forall_not_mem.2 fun i hi=>?_;obtain ⟨h1,o,ho,_⟩:=mem_ready.1 hi;rw [hall i (jes.1 ho).1] at h1;cases h1
  | succ fuel ih =>
   intro listed a u hs h hc;refine ⟨fun hr=>fin listed a u h (all_of listed hr hs),fun i hi=>?_⟩;obtain ⟨hun,o,ho,hall⟩:=mem_ready.1 hi;have hilt:i < ops.size:=(jes.1 ho).1;obtain ⟨o',ho',hdst,hlt⟩:=hop i hilt
   have hst:=hstep i hilt a u h.grown (fun t ht=>h.far t fun j hj e=>by
    have h1:ds.contains t = true:=by rw [<- e];simpa using hin j hj
    rw [ht] at h1;cases h1) (fun j hj=>by
    rw [ho] at hj;simp only [Option.map_some,Option.getD_some] at hj;rw [<- Array.any_toList,List.any_eq_true] at hj;obtain ⟨e,he,h2⟩:=hj;simp only [Bool.and_eq_true,beq_iff_eq] at h2;obtain ⟨hb,rfl⟩:=h2;rw [ho'] at ho;cases ho;have he':e ∈ o.after:=by simpa using he
    have h1:=hlt e he';refine h.val e.on (by omega) ?_;have h3:listed.getD e.on false = true:=hall e he' hb;rw [jc0,jb4 (by omega)] at h3 ⊢;simpa using h3)
   refine wpOp_mono (fun a' u' hk=>?_) hst;obtain ⟨hg,x,rfl,hv⟩:=hk;refine ih _ _ _ (by simpa using hs) ⟨yab h.grown hg (by simp),h.defers,by simp [jp,h.len],fun t ht=>?_,fun j hj hl=>?_⟩ (by have:=yhU listed i hun ops.size hilt;omega)
   ·simp only [jp];rw [Array.getElem?_setIfInBounds_ne (ht i hilt)];exact h.far t ht
   ·by_cases e:j = i
    ·subst e;refine ⟨x,?_,hv⟩;have hlt2:ds.getD j 0 < a.tmps.size:=by rw [h.len];exact jb1 (hbd _ (hin j hj))
     simp only [jp];rw [jd7 hlt2]
    ·rw [getD_set_ne true (Ne.symm e)] at hl;obtain ⟨y,h1,h2⟩:=h.val j hj hl;refine ⟨y,?_,mono j y u u' h2 hg⟩;simp only [jp];rw [Array.getElem?_setIfInBounds_ne (fun e2=>e (hinj i j hilt hj e2).symm)];exact h1
 refine wp_region_any hm (key ops.size _ base w.drew (by simp) ⟨jr _ _,rfl,rfl,fun _ _=>rfl,fun i hi hl=>?_⟩ ?_)
 ·rw [jc0,Array.getElem?_replicate,if_pos hi] at hl;cases hl
 ·have:∀ (l:Array Bool) n,yel l n <= n:=fun l n=>by
   induction n with
   | zero=>exact jle _
   | succ n ih=>rw [yel];split <;> omega
  exact this _ _
theorem ybD {a:Act} {t:Tmp} {x:Value} (h:a.tmps[t]? = some x):a.eval (.tmp t) = x:=by
 show a.tmps.getD t undef = x;rw [jc0,h];rfl
theorem ydG {i:Nat} {oi:Oper} {a:Act} {w w':World} {K:Act -> World -> Prop} (hi:ops[i]? = some oi) (hw:jb6 oi (yielded ops a.tmps) = true) (v:Value) (hrun:(execOp a.eval oi).run P w = .ok (.value v) w') (h:K (a.put oi.dst v) w'):wpOp P ops Q i K a w:=by
 unfold wpOp;simp only [hi,hw,if_true];refine .inl ?_;unfold Oper.wp;rw [hrun];exact h
theorem ydH {i:Nat} {oi:Oper} {a:Act} {w:World} {K:Act -> World -> Prop} (hi:ops[i]? = some oi) (hw:jb6 oi (yielded ops a.tmps) = true) (f:FuncId) (args:Array Value) (hrun:(execOp a.eval oi).run P w = .ok (.enter f args) w)
  (h:Calls P f args w fun e w'=>∃ v,e = .returned v /\ K (a.put oi.dst v) w'):wpOp P ops Q i K a w:=by
 unfold wpOp;simp only [hi,hw,if_true];refine .inl ?_;unfold Oper.wp;rw [hrun];refine h.mono fun e w' he=>?_;obtain ⟨v,rfl,hk⟩:=he;exact hk
end
section
variable {P:Program} {ops:Array Oper} {Q:Exit -> Act -> World -> Prop}
def putX (X:Nat -> Value):Nat -> List Tmp -> List (Option Value) -> Act -> Act
 | i,d :: ds,v :: vs,a=>putX X (i + 1) ds vs (a.put (some d) (v.getD (X i)))
 | _,_,_,a=>a
def fixV (vs:List (Option Value)) (Vs:Nat -> Value -> World -> Prop) (i:Nat) (x:Value) (u:World):Prop :=
 match vs[i]? with | some (some v)=>x = v | some none=>Vs i x u | none=>False
def ym4 (P:Program) (v:Value) (u:World):Result Next -> Prop
 | .ok (.value x) u'=>x = v /\ u.grownBy u' none
 | .ok (.enter f args) u'=>u' = u /\ Calls P f args u fun e u2=>e = .returned v /\ u.grownBy u2 none
 | _=>False
def yny (P:Program) (ops:Array Oper) (w0:World) (aF:Act) (o:Oper) (v:Value):Prop :=
 if jb6 o (yielded ops aF.tmps) = true then ∀ u,w0.grownBy u none -> ym4 P v u ((execOp aF.eval o).run P u) else v = undef
def depB (ops:Array Oper) (ds:List Tmp) (vs:List (Option Value)) (i:Nat) (o:Oper):Bool :=
 (o.looksAt ops).all (fun t=>!ds.contains t || (List.range i).any fun j=>ds.getD j 0 == t && ((vs[j]?).getD none).isSome && (o.after.any fun e=>Region.binds .any e && e.on == j)) && (match o.op with | .select _ _=>false | _=>true)
def opOr (P:Program) (ops:Array Oper) (w0:World) (aF:Act) (ds:List Tmp) (VS:List (Option Value)) (base:Act) (Q:Exit -> Act -> World -> Prop) (V:Nat -> Value -> World -> Prop) (i:Nat) (o:Oper) (v:Value):Prop :=
 (depB ops ds VS i o = true /\ yny P ops w0 aF o v) \/ ykc P ops Q V ds base w0 i
def ynP (P:Program) (ops:Array Oper) (w0:World) (aF:Act) (ds:List Tmp) (VS:List (Option Value)) (base:Act) (Q:Exit -> Act -> World -> Prop) (V:Nat -> Value -> World -> Prop):Nat -> List Oper -> List (Option Value) -> Prop
 | i,o :: os,some v :: vs=>opOr P ops w0 aF ds VS base Q V i o v /\ ynP P ops w0 aF ds VS base Q V (i + 1) os vs
 | i,_ :: os,none :: vs=>ykc P ops Q V ds base w0 i /\ ynP P ops w0 aF ds VS base Q V (i + 1) os vs
 | _,_,_=>True
theorem yhP (X:Nat -> Value):∀ (i:Nat) (ds:List Tmp) (vs:List (Option Value)) (a:Act),ds.length = vs.length -> ds.Nodup -> (∀ d ∈ ds,d < a.tmps.size) ->
  (∀ t,t ∉ ds -> (putX X i ds vs a).tmps[t]? = a.tmps[t]?) /\ ∀ k,k < ds.length -> (putX X i ds vs a).tmps[ds.getD k 0]? = some ((vs.getD k none).getD (X (i + k)))
 | i,[],[],a,_,_,_=>⟨fun t _=>rfl,fun k hk=>by simp at hk⟩
 | i,[],_ :: _,a,h,_,_=>by simp at h
 | i,_ :: _,[],a,h,_,_=>by simp at h
 | i,d :: ds,v :: vs,a,hl,hn,hb=>by
  obtain ⟨hd,hn⟩:=List.nodup_cons.1 hn;have hb':∀ x ∈ ds,x < (a.put (some d) (v.getD (X i))).tmps.size:=fun x hx=>by simp [jp];exact hb x (List.mem_cons_of_mem _ hx)
  obtain ⟨h1,h2⟩:=yhP X (i + 1) ds vs (a.put (some d) (v.getD (X i))) (by simpa using hl) hn hb';refine ⟨fun t ht=>?_,fun k hk=>?_⟩
  ·simp only [je6,not_or] at ht;rw [putX,h1 t ht.2];simp only [jp];rw [Array.getElem?_setIfInBounds_ne (Ne.symm ht.1)]
  ·cases k with
   | zero =>
    rw [putX,List.getD_cons_zero,List.getD_cons_zero,h1 d hd];simp only [jp];rw [jd7 (hb d (List.mem_cons_self ..))];rfl
   | succ k =>
    rw [putX,List.getD_cons_succ,List.getD_cons_succ,h2 k (by simpa using hk)];rw [show i + 1 + k = i + (k + 1) by omega]
theorem ygr (X:Nat -> Value) (D:Nat -> Tmp):∀ (i:Nat) (ds:List Tmp) (vs:List (Option Value)) (a:Act),ds.length = vs.length -> (∀ k,k < ds.length -> D (i + k) = ds.getD k 0) -> (∀ k,k < ds.length -> (vs.getD k none).getD (X (i + k)) = X (i + k)) ->
  putX X i ds vs a = (List.range' i ds.length).foldl (fun a j=>a.put (some (D j)) (X j)) a
 | i,[],[],a,_,_,_=>rfl
 | i,[],_ :: _,a,h,_,_=>by simp at h
 | i,_ :: _,[],a,h,_,_=>by simp at h
 | i,d :: ds,v :: vs,a,hl,hD,hX=>by
  have e0:D i = d:=hD 0 (by simp);have x0:v.getD (X i) = X i:=hX 0 (by simp);rw [putX,jlc,List.range'_succ,List.foldl_cons,e0,x0]
  exact ygr X D (i + 1) ds vs _ (by simpa using hl) (fun k hk=>by have:=hD (k + 1) (by simpa using hk);rw [show i + 1 + k = i + (k + 1) by omega];exact this)
   (fun k hk=>by have:=hX (k + 1) (by simpa using hk);rw [show i + 1 + k = i + (k + 1) by omega];exact this)
theorem yhk {w0:World} {aF:Act} {ds:List Tmp} {VS:List (Option Value)} {base:Act} {V:Nat -> Value -> World -> Prop}:∀ (n:Nat) (os:List Oper) (vs:List (Option Value)),ynP P ops w0 aF ds VS base Q V n os vs -> os.length = vs.length -> ∀ k o,os[k]? = some o ->
  (∀ v,vs[k]? = some (some v) -> opOr P ops w0 aF ds VS base Q V (n + k) o v) /\ (vs[k]? = some none -> ykc P ops Q V ds base w0 (n + k))
 | n,[],vs,_,_,k,o,h=>by simp at h
 | n,_ :: _,[],_,hl,_,_,_=>by simp at hl
 | n,o' :: os,some v' :: vs,hf,hl,k,o,h=>by
  obtain ⟨h1,h2⟩:=hf;cases k with
  | zero=>simp only [jcz,ja1.injEq] at h ⊢;subst h;exact ⟨fun v e=>by cases e;exact h1,fun e=>by cases e⟩
  | succ k =>
   have:=yhk (n + 1) os vs h2 (by simpa using hl) k o (by simpa using h);rw [show n + (k + 1) = n + 1 + k by omega];simpa using this
 | n,o' :: os,none :: vs,hf,hl,k,o,h=>by
  obtain ⟨h1,h2⟩:=hf;cases k with
  | zero=>simp only [jcz,ja1.injEq] at h ⊢;subst h;exact ⟨fun v e=>(by cases e),fun _=>h1⟩
  | succ k =>
   have:=yhk (n + 1) os vs h2 (by simpa using hl) k o (by simpa using h);rw [show n + (k + 1) = n + 1 + k by omega];simpa using this
theorem yoO {xs ys:Array Value} {t:Tmp} (h:xs[t]? = ys[t]?):xs.getD t undef = ys.getD t undef:=by rw [jc0,jc0,h]
theorem yed {id:Nat} {base:Act} {w:World} (ds:List Tmp) (vs:List (Option Value)) (Vs:Nat -> Value -> World -> Prop) {aF:Act} (haF:putX (fun _=>undef) 0 ds vs base = aF)
  (mono:∀ i x u u',Vs i x u -> u.grownBy u' none -> Vs i x u')
  (hok:ynP P ops w.drew aF ds vs base Q (fixV vs Vs) 0 ops.toList vs)
  (hend:∀ (X:Nat -> Value) (u:World),w.drew.grownBy u none -> (∀ i,vs[i]? = some none -> Vs i (X i) u) -> Q .normal (putX X 0 ds vs base) u)
  (hm:P.follows .mixedOrders = true:=by kernel_rfl) (hp:yjE ops ds base.tmps.size = true:=by kernel_rfl) (hl:vs.length = ops.size:=by rfl) :
  (Code.region id ops true).wp P Q base w:=by
 have hp0:=hp;unfold yjE at hp0;simp only [Bool.and_eq_true,beq_iff_eq,decide_eq_true_eq,List.all_eq_true,List.mem_range] at hp0;obtain ⟨⟨⟨hlen,hnd⟩,hbd⟩,hops⟩:=hp0;have hbd':∀ d ∈ ds,d < base.tmps.size:=fun d h=>jb1 (hbd d h);have hdv:ds.length = vs.length:=hlen.trans hl.symm;obtain ⟨hF1,hF2⟩:=yhP (fun _=>undef) 0 ds vs base hdv hnd hbd';rw [haF] at hF1 hF2
 have hvmono:∀ i x u u',fixV vs Vs i x u -> u.grownBy u' none -> fixV vs Vs i x u':=fun i x u u' h hg=>by
  unfold fixV at h ⊢;split
  ·rename_i v e;rw [e] at h;exact h
  ·rename_i e;rw [e] at h;exact mono i x u u' h hg
  ·rename_i e;rw [e] at h;exact h
 refine yfS (fixV vs Vs) ds hm hp hvmono (fun i hi=>?_) ops.size rfl fun X u hg hX=>?_
 ·have hio:ops.toList[i]? = some ops[i]:=by simp [hi]
  have hoi:ops[i]? = some ops[i]:=jb4 hi;obtain ⟨hfx,hsp⟩:=yhk 0 ops.toList vs hok (by rw [jb0];exact hl.symm) i _ hio;rw [jd6] at hsp;cases hv:vs[i]? with
  | none=>rw [List.getElem?_eq_none_iff] at hv;omega
  | some v =>
   cases v with
   | none=>exact hsp hv
   | some v =>
    have hof:=hfx v hv;rw [jd6] at hof;rcases hof with ⟨hdi,hof⟩ | hof
    rotate_left
    ·exact hof
    unfold depB at hdi;simp only [Bool.and_eq_true,List.all_eq_true] at hdi;obtain ⟨hdi,hsel⟩:=hdi;have hns:∀ cs b,(ops[i]).op ≠ .select cs b:=fun cs b e=>by rw [e] at hsel;cases hsel
    intro a u hgu hfar hneed
    have hev:∀ t ∈ (ops[i]).looksAt ops,a.tmps[t]? = aF.tmps[t]?:=fun t ht=>by
     have h1:=hdi t ht;cases hc:ds.contains t with
     | false=>rw [hfar t hc,hF1 t (by simpa using hc)]
     | true =>
      rw [hc] at h1;simp only [Bool.not_true,Bool.false_or,List.any_eq_true,List.mem_range,Bool.and_eq_true,beq_iff_eq] at h1;obtain ⟨j,hj,⟨hjt,hjs⟩,hja⟩:=h1;obtain ⟨x,hx,hxv⟩:=hneed j (by rw [hoi];exact hja);subst hjt;rw [hx,hF2 j (by omega)];unfold fixV at hxv;cases hvj:vs[j]? with
      | none=>rw [hvj] at hxv;exact hxv.elim
      | some vj =>
       rw [hvj] at hxv hjs;cases vj with
       | none=>cases hjs
       | some vj=>rw [jg,hvj];simp only at hxv;rw [hxv];rfl
    have he:execOp a.eval ops[i] = execOp aF.eval ops[i]:=execOp_congr _ hns fun x hx=>by
     cases x with
     | tmp t=>exact yoO (hev t (List.mem_append_left _ (List.mem_filterMap.2 ⟨.tmp t,by simpa using hx,rfl⟩)))
     | _=>rfl
    have hw:jb6 ops[i] (yielded ops a.tmps) = jb6 ops[i] (yielded ops aF.tmps):=by
     unfold jb6;cases hg:(ops[i]).guard with
     | none=>rfl
     | some gw =>
      obtain ⟨g,want⟩:=gw
      have hy:yielded ops a.tmps g = yielded ops aF.tmps g:=by
       unfold yielded;cases ht:(ops[g]?).bind (·.dst) with
       | none=>rfl
       | some t=>simp only [Option.bind_some];rw [hev t (List.mem_append_right _ (by rw [hg];simp [ht]))]
      simp only [hy]
    have hds:(ops[i]).dst = some (ds.getD i 0):=by
     have h1:=hops i hi;rw [hoi] at h1;simp only [Bool.and_eq_true,beq_iff_eq] at h1;exact h1.1
    have hV:∀ u',fixV vs Vs i v u':=fun u'=>by unfold fixV;rw [hv]
    unfold wpOp;simp only [hoi,hw];unfold yny at hof;by_cases hwt:jb6 ops[i] (yielded ops aF.tmps) = true
    ·rw [if_pos hwt] at hof ⊢;refine .inl ?_;have h2:=hof u hgu;unfold Oper.wp;rw [he];cases hr:(execOp aF.eval ops[i]).run P u with
     | halt x u'=>rw [hr] at h2;exact h2.elim
     | ok nx u' =>
      rw [hr] at h2;cases nx <;> simp only [ym4] at h2 <;> simp only [Oper.upon]
      case value x=>exact ⟨h2.2,x,by rw [hds],by rw [h2.1];exact hV _⟩
      case enter f args =>
       obtain ⟨rfl,hc⟩:=h2;refine hc.mono fun e u2 he2=>?_;obtain ⟨rfl,hg2⟩:=he2;exact ⟨hg2,v,by rw [hds],hV _⟩
    ·rw [if_neg hwt] at hof ⊢;exact ⟨jr u none,undef,by rw [hds],by rw [<- hof];exact hV _⟩
 ·have hz:=hend X u hg fun i hi=>by
   have h1:=hX i (by have:=(jc9.1 hi).1;omega);unfold fixV at h1;rw [hi] at h1;exact h1
  rw [ygr X (fun i=>ds.getD i 0) 0 ds vs base hdv (fun k hk=>by rw [jd6]) (fun k hk=>by
   rw [jd6];have h1:=hX k (by omega);unfold fixV at h1;rw [jg];cases hvk:vs[k]? with
   | none=>rfl
   | some y =>
    cases y with
    | none=>rfl
    | some y=>rw [hvk] at h1;exact h1.symm)] at hz
  rw [List.range_eq_range',<- hlen];exact hz
section
variable {w0:World} {aF:Act} {ds:List Tmp} {VS:List (Option Value)} {base:Act} {V:Nat -> Value -> World -> Prop} {i:Nat} {o:Oper} {v:Value}
theorem opF (h:∀ u,w0.grownBy u none -> (execOp aF.eval o).run P u = .ok (.value v) u) (hd:depB ops ds VS i o = true:=by kernel_rfl) (hw:jb6 o (yielded ops aF.tmps) = true:=by rfl):opOr P ops w0 aF ds VS base Q V i o v:=by
 refine .inl ⟨hd,?_⟩;unfold yny;rw [if_pos hw];intro u hu;rw [h u hu];exact ⟨rfl,jr u none⟩
theorem opC (f:FuncId) (args:Array Value) (h:∀ u,(execOp aF.eval o).run P u = .ok (.enter f args) u) (hc:∀ u,w0.grownBy u none -> Calls P f args u fun e u2=>e = .returned v /\ u.grownBy u2 none) (hd:depB ops ds VS i o = true:=by kernel_rfl) (hw:jb6 o (yielded ops aF.tmps) = true:=by rfl):opOr P ops w0 aF ds VS base Q V i o v:=by
 refine .inl ⟨hd,?_⟩;unfold yny;rw [if_pos hw];intro u hu;rw [h u];exact ⟨rfl,hc u hu⟩
end
end
theorem ykG (xs ys:List Itm) (vs us:List Value) (h:xs.length = vs.length):yb2 (xs ++ ys) (vs ++ us) = yb2 xs vs ++ yb2 ys us:=by
 unfold yb2;rw [List.zip_append h,List.flatMap_append]
structure RdJ (w:World) (o b3:Nat) (v:Value) (j:Nat) (xs:List Itm) (vs:List Value) (u:World):Prop where
 blk:Blk u b3 106 #[.bool true,.string ⟨#[]⟩,v]
 own:u.ownsRow o 106 3 v j (yb2 xs vs)
 ne:v.ownBlock ≠ some b3
 grown:w.grownBy u none
 low:w.heap.size <= o
 lowb:w.heap.size <= b3
 size:o <= u.heap.size
 lx:xs.length = j
 lv:vs.length = j
 sub:∀ i,i < j -> SubV (fun g=>o <= g /\ g ≠ b3 /\ v.ownBlock ≠ some g) u (xs.getD i Itm.none_).items (vs.getD i undef)
theorem RdJ.kept {w u u':World} {o b3 j:Nat} {v:Value} {xs:List Itm} {vs:List Value} (h:RdJ w o b3 v j xs vs u) (hg:u.grownBy u' none):RdJ w o b3 v j xs vs u':=by
 obtain ⟨A,c,rfl⟩:=yaK h.own;exact ⟨h.blk.grown hg (by simp),h.own.kept hg (by cases A;exact .inl rfl;exact .inr (by simp [jc2])),h.ne,yab h.grown hg (by simp),h.low,h.lowb,jlt h.size hg.size,h.lx,h.lv,fun i hi=>(h.sub i hi).grown hg⟩
theorem RdJ.put {w u u2:World} {o b3 j m g' cap':Nat} {v:Value} {xs:List Itm} {vs:List Value} (h:RdJ w o b3 v j xs vs u) (ys:List Itm) (us:List Value) (hy:ys.length = m) (hus:us.length = m)
  (hx:∀ i,i < m -> SubV (fun g=>o <= g /\ g ≠ b3 /\ v.ownBlock ≠ some g) u (ys.getD i Itm.none_).items (us.getD i undef))
  (hown:u2.ownsRow o 106 3 (.slice (some ⟨g',0,none⟩) (j + m) cap') (j + m) (yb2 xs vs ++ yb2 ys us)) (hg:u.grownBy u2 v.ownBlock) (hob:(ja4 (some ⟨g',0,none⟩) (j + m) cap').ownBlock = v.ownBlock \/ (ja4 (some ⟨g',0,none⟩) (j + m) cap').ownBlock = some u.heap.size) :
  RdJ w o b3 (.slice (some ⟨g',0,none⟩) (j + m) cap') (j + m) (xs ++ ys) (vs ++ us) (u2.setCell ⟨b3,2,none⟩ (.slice (some ⟨g',0,none⟩) (j + m) cap')):=by
 have hlt:=h.blk.lt
 have hne:(ja4 (some ⟨g',0,none⟩) (j + m) cap').ownBlock ≠ some b3:=fun e=>by
  rcases hob with e2 | e2
  ·exact h.ne (e2.symm.trans e)
  ·have:=ji (e2.symm.trans e);omega
 have key:∀ zs sv',SubV (fun g=>o <= g /\ g ≠ b3 /\ v.ownBlock ≠ some g) u zs sv' -> SubV (fun g=>o <= g /\ g ≠ b3 /\ (ja4 (some ⟨g',0,none⟩) (j + m) cap').ownBlock ≠ some g) (u2.setCell ⟨b3,2,none⟩ (.slice (some ⟨g',0,none⟩) (j + m) cap')) zs sv':=by
  intro zs sv' hs;refine (hs.lt.keep fun p hp c hc=>?_).weak fun g hS=>⟨hS.1.1,hS.1.2.1,fun e=>?_⟩
  ·rw [jd1 _ _ _ _ (by exact fun e=>hp.1.2.1 e.symm)];exact hg.cell hc (fun e=>hp.1.2.2 e.symm)
  ·rcases hob with e2 | e2
   ·exact hS.1.2.2 (e2.symm.trans e)
   ·have:=ji (e2.symm.trans e);have:=hS.2;omega
 have hgw:w.grownBy u2 none:=yab h.grown hg (fun k hk=>.inr (by have:=yaj h.own hk;have:=h.low;omega));refine ⟨by simpa using (h.blk.grown hg (fun e=>h.ne e.symm)).set_ 2 (.slice (some ⟨g',0,none⟩) (j + m) cap'),?_,hne,yap hgw (p:=⟨b3,2,none⟩) h.lowb _,h.low,h.lowb,by have:=hg.size;have:=h.size;simp;omega,by simp [h.lx,hy],by simp [h.lv,hus],fun i hi=>?_⟩
 ·rw [ykG xs ys vs us (by rw [h.lx,h.lv])];exact yda hown (p:=⟨b3,2,none⟩) (by show g' ≠ b3;exact fun e=>hne (by rw [e];rfl)) _
 by_cases hij:i < j
 ·rw [jg,jal (by rw [h.lx];exact hij),<- jg,jg (l:=vs ++ us),jal (by rw [h.lv];exact hij),<- jg];exact key _ _ (h.sub i hij)
 ·rw [jg,jar (by rw [h.lx];omega),<- jg,jg (l:=vs ++ us),jar (by rw [h.lv];omega),<- jg,h.lx,h.lv];exact key _ _ (hx (i - j) (by omega))
theorem RdJ.row {w u:World} {o b3 j c:Nat} {A:Option Addr} {xs:List Itm} {vs:List Value} (h:RdJ w o b3 (.slice A j c) j xs vs u):SubV (fun g=>o <= g /\ g ≠ b3) u xs (.slice A j c):=by
 obtain ⟨h1,h2,h3,h4,h5,h6,h7,h8,h9,h10⟩:=h;subst h8;exact SubV.of_own (by rw [h9]) h2 (fun i hi=>(h10 i hi).weak fun g hg=>⟨hg.1,hg.2.1⟩) (fun g hg=>⟨yaj h2 hg,fun e=>h3 (e ▸ hg)⟩)
end Go.Proofs.YtgclnikdkfpflaaGreatDoor
