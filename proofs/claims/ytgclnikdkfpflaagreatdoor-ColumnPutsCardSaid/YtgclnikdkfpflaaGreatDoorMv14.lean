/- Merged: RtB, RtC, CpF, SpI, DcG, DcH0, DcA, DcB. -/
import Derived.Test.YtgclnikdkfpflaaGreatDoorMv1
import Derived.Test.YtgclnikdkfpflaaGreatDoorMv6
import Derived.Test.YtgclnikdkfpflaaGreatDoorMv7
import Derived.Test.YtgclnikdkfpflaaGreatDoorMv8
import Derived.Test.YtgclnikdkfpflaaGreatDoorMv10
import Derived.Test.YtgclnikdkfpflaaGreatDoorMv12
import Derived.Test.YtgclnikdkfpflaaGreatDoorMv13
import Derived.Deep.DeepCutAuto
namespace Go.Proofs.YtgclnikdkfpflaaGreatDoor
open Go.RowKit Go.Shelf
open List renaming set_cons_zero → jz, set_cons_succ → js, setIfInBounds_toArray → jb
set_option linter.unusedVariables false
set_option linter.unusedSimpArgs false
set_option maxRecDepth 100000
set_option maxHeartbeats 16000000
open Lib renaming hid → jh
open Act renaming put → jp
open World.grownBy renaming refl → jr
open _root_.List renaming length_append → jla, length_cons → jlc, setIfInBounds_toArray → jb2, map_cons → jb5, getElem?_eq_some_iff → jc9, set_cons_zero → je0, mem_cons → je6
open World renaming size_alloc → jsa, grownBy → ja0
open _root_.Nat renaming le_trans → jlt, le_refl → jle, le_of_ble_eq_true → jb1, mul_comm → jd2
open _root_.Go.Proofs.Tryz renaming prog → jq, underlying42 → ja3, underlying23 → ja5, underlying104 → ja7, underlying9 → ja9, underlying3 → jb8, underlying38 → jd8
open Go renaming wp_region_list → jwl, wpList_nil → jwn, run_append_own_at → jra, wpList_store_row → jsw
open _root_.Go.Proofs renaming enters_of → jeo
open Value renaming oneCell' → ja2, slice → ja4, string → ja8, bool → jc7
open _root_.Classical renaming not_not → jb9
theorem ydl {a:Act} {o:Oper} {x y:Nat} (hx0:x < 115792089237316195423570985008687907853269984665640564039457584007913129639936) (hy0:y < 115792089237316195423570985008687907853269984665640564039457584007913129639936) (W:World) {p q:Operand} {u:TypeId} (ho:o.op = .binOp .eql 38 p q u) (hp:a.eval p = ybG x) (hq:a.eval q = ybG y) :
  (execOp a.eval o).run jq W = .ok (.value (.bool (decide (x = y)))) W:=by
 have h:=yc7 9998 hx0 hy0 W;have hm:jq.eqGuardType jq.depth 38 = false:=by kernel_rfl
 obtain ⟨xs,hxs⟩:∃ xs,ybG x = .agg xs:=⟨_,rfl⟩;obtain ⟨ys,hys⟩:∃ ys,ybG y = .agg ys:=⟨_,rfl⟩;rw [hxs] at h hp;rw [hys] at h hq;have h1:=run_eqGuard_agg (P:=jq) W .eql 38 p q xs ys hm;have h2:=run_eql_struct (P:=jq) W 38 xs ys;rw [h] at h2;clear hxs hys;unfold execOp;generalize a.eval = ev at *;simp only [ho,hp,hq];generalize eqGuard .eql 38 p q (.agg xs) (.agg ys) = G at *;generalize binOp .eql 38 (.agg xs) (.agg ys) = M at *;simp [go_sem,h1,h2]
theorem faTx (g f off:Nat) (W:World) (h:∀ g W,(Instr.fieldAt 42 (.pointer (some ⟨g,0,none⟩)) f).run jq W = .ok (.pointer (some ⟨g,off,none⟩)) W):(Instr.fieldAt 42 (.pointer (some ⟨g,0,none⟩)) f).run jq W = .ok (.pointer (some ⟨g,off,none⟩)) W:=h g W
theorem yaZ {W:World} {g:Nat} {t:TypeId} {cs:Array Value} (hb:Blk W g t cs) (o:Nat) (l:List Value) (h:∀ j,j < l.length -> cs[o + j]? = l[j]?):W.rangeAt g o l:=fun j v hv=>by
 have hj:j < l.length:=(jc9.1 hv).1;rw [hb.cell,h j hj];exact hv
section
variable {P:Program} {a:Act} {o:Oper} {W:World}
theorem yhl (x y:Operand) {u:TypeId} (ho:o.op = .binOp .eql 23 x y u) (p q:Nat) (hx:a.eval x = .int .u64 (p:Int)) (hy:a.eval y = .int .u64 (q:Int)):(execOp a.eval o).run jq W = .ok (.value (.bool (decide (p = q)))) W:=by
 have h:=ydc p q;unfold execOp;generalize a.eval = ev at *;simp [ho,hx,hy,go_sem,h]
theorem ydK (x y:Operand) {u:TypeId} (ho:o.op = .binOp .eql 9 x y u) (p q:ByteArray) (hx:a.eval x = .string p) (hy:a.eval y = .string q):(execOp a.eval o).run jq W = .ok (.value (.bool (decide (p = q)))) W:=by
 have h:=yec p q;unfold execOp;generalize a.eval = ev at *;simp [ho,hx,hy,go_sem,h]
theorem ynU (x y:Operand) {u:TypeId} (ho:o.op = .binOp .eql 4 x y u) (p q:Bool) (hx:a.eval x = .bool p) (hy:a.eval y = .bool q):(execOp a.eval o).run jq W = .ok (.value (.bool (decide (p = q)))) W:=by
 have h:=ymM p q;unfold execOp;generalize a.eval = ev at *;simp [ho,hx,hy,go_sem,h]
end
def oneB (a b:TxV):Bool:=decide (a.kind = b.kind) && (decide (a.chain = b.chain) && (decide (a.nonce = b.nonce) && (decide (a.tip = b.tip) && (decide (a.price = b.price) && (decide (a.gas = b.gas) && (decide (a.dst = b.dst) && (decide (a.value = b.value) && decide (a.data = b.data))))))))
def twoB (a b:TxV):Bool:=decide (a.y = b.y) && (decide (a.r = b.r) && (decide (a.s = b.s) && (decide (a.source = b.source) && (decide (a.frm = b.frm) && (decide (a.mint = b.mint) && decide (a.system = b.system))))))
theorem ynj (a b:TxV):(oneB a b && (twoB a b && (decide (a.acc = b.acc) && decide (a.auths = b.auths)))) = decide (a = b):=by
 obtain ⟨a1,a2,a3,a4,a5,a6,a7,a8,a9,a10,a11,a12,a13,a14,a15,a16,a17,a18⟩:=a;obtain ⟨b1,b2,b3,b4,b5,b6,b7,b8,b9,b10,b11,b12,b13,b14,b15,b16,b17,b18⟩:=b;rw [Bool.eq_iff_iff];simp only [oneB,twoB,Bool.and_eq_true,decide_eq_true_eq,TxV.mk.injEq];constructor
 ·rintro ⟨⟨h1,h2,h3,h4,h5,h6,h7,h8,h9⟩,⟨h10,h11,h12,h13,h14,h15,h16⟩,h17,h18⟩;exact ⟨h1,h2,h3,h4,h5,h6,h7,h8,h9,h17,h18,h10,h11,h12,h13,h14,h15,h16⟩
 ·rintro ⟨h1,h2,h3,h4,h5,h6,h7,h8,h9,h17,h18,h10,h11,h12,h13,h14,h15,h16⟩;exact ⟨⟨h1,h2,h3,h4,h5,h6,h7,h8,h9⟩,⟨h10,h11,h12,h13,h14,h15,h16⟩,h17,h18⟩
theorem yfk (a b:TxV) (B B':Nat) (sa sb sa' sb':Value) (w:World) (ha:TxIn B w a sa sb) (hb:TxIn B' w b sa' sb') (hB:B <= w.heap.size) (hB':B' <= w.heap.size) (oa:a.Ok) (ob:b.Ok)
  (kx:∀ x ∈ a.acc,x.keys.length <= 281474976710656) (ky:∀ x ∈ b.acc,x.keys.length <= 281474976710656) :
  Calls jq 56 #[.agg (txC a sa sb),.agg (txC b sa' sb')] w fun e w'=>e = .returned (.bool (decide (a = b))) /\ w.grownBy w' none:=by
 have hG:=yaa (yaa (jr w none) (.cells (txC a sa sb) 42)) (.cells (txC b sa' sb') 42);have hb1:=(Blk.new w 42 (txC a sa sb)).alloc (.cells (txC b sa' sb') 42);have hb2:=Blk.new (w.alloc (.cells (txC a sa sb) 42)) 42 (txC b sa' sb');rw [jsa] at hb2;have hA:=ha.grown hG hB;have hA':=hb.grown hG hB';have hS:=jlt hB hG.size;have hS':=jlt hB' hG.size;obtain ⟨⟨p,c,rfl,acc⟩,⟨p',c',rfl,aut⟩,la,lb⟩:=hA;obtain ⟨⟨q,d,rfl,acc'⟩,⟨q',d',rfl,aut'⟩,la',lb'⟩:=hA';obtain ⟨g,hg⟩:∃ g,w.heap.size = g:=⟨_,rfl⟩;obtain ⟨w1,hw1⟩:∃ x,(w.alloc (.cells (txC a (.slice p a.acc.length c) (.slice p' a.auths.length c')) 42)).alloc (.cells (txC b (.slice q b.acc.length d) (.slice q' b.auths.length d')) 42) = x:=⟨_,rfl⟩;rw [hg,hw1] at hb1 hb2;rw [hw1] at hG acc acc' aut aut' hS hS';rw [<- ynj a b];obtain ⟨one,hone⟩:∃ r,oneB a b = r:=⟨_,rfl⟩;obtain ⟨two,htwo⟩:∃ r,twoB a b = r:=⟨_,rfl⟩;obtain ⟨r1,hr1⟩:∃ z,decide (a.acc = b.acc) = z:=⟨_,rfl⟩;obtain ⟨r2,hr2⟩:∃ z,decide (a.auths = b.auths) = z:=⟨_,rfl⟩;rw [hone,htwo,hr1,hr2];have HONE:=jh hone;have HTWO:=jh htwo;have HR1:=jh hr1;have HR2:=jh hr2;clear hone htwo hr1 hr2;have a_kind:=jh (show _ = some (.int .i64 a.kind) from (hb1.cell 0).trans rfl);have b_kind:=jh (show _ = some (.int .i64 b.kind) from (hb2.cell 0).trans rfl);have a_chain:=jh (show _ = some (.int .u64 (a.chain:Int)) from (hb1.cell 1).trans rfl);have b_chain:=jh (show _ = some (.int .u64 (b.chain:Int)) from (hb2.cell 1).trans rfl);have a_nonce:=jh (show _ = some (.int .u64 (a.nonce:Int)) from (hb1.cell 2).trans rfl);have b_nonce:=jh (show _ = some (.int .u64 (b.nonce:Int)) from (hb2.cell 2).trans rfl);have a_tip:=jh (yaZ hb1 3 [.int .u64 (wp a.tip 0:Nat),.int .u64 (wp a.tip 1:Nat),.int .u64 (wp a.tip 2:Nat),.int .u64 (wp a.tip 3:Nat)] (fun j hj=>by match j,hj with | 0,_=>rfl | 1,_=>rfl | 2,_=>rfl | 3,_=>rfl));have b_tip:=jh (yaZ hb2 3 [.int .u64 (wp b.tip 0:Nat),.int .u64 (wp b.tip 1:Nat),.int .u64 (wp b.tip 2:Nat),.int .u64 (wp b.tip 3:Nat)] (fun j hj=>by match j,hj with | 0,_=>rfl | 1,_=>rfl | 2,_=>rfl | 3,_=>rfl));have a_price:=jh (yaZ hb1 7 [.int .u64 (wp a.price 0:Nat),.int .u64 (wp a.price 1:Nat),.int .u64 (wp a.price 2:Nat),.int .u64 (wp a.price 3:Nat)] (fun j hj=>by match j,hj with | 0,_=>rfl | 1,_=>rfl | 2,_=>rfl | 3,_=>rfl));have b_price:=jh (yaZ hb2 7 [.int .u64 (wp b.price 0:Nat),.int .u64 (wp b.price 1:Nat),.int .u64 (wp b.price 2:Nat),.int .u64 (wp b.price 3:Nat)] (fun j hj=>by match j,hj with | 0,_=>rfl | 1,_=>rfl | 2,_=>rfl | 3,_=>rfl));have a_gas:=jh (show _ = some (.int .u64 (a.gas:Int)) from (hb1.cell 11).trans rfl);have b_gas:=jh (show _ = some (.int .u64 (b.gas:Int)) from (hb2.cell 11).trans rfl);have a_dst:=jh (show _ = some (.string a.dst) from (hb1.cell 12).trans rfl);have b_dst:=jh (show _ = some (.string b.dst) from (hb2.cell 12).trans rfl);have a_value:=jh (yaZ hb1 13 [.int .u64 (wp a.value 0:Nat),.int .u64 (wp a.value 1:Nat),.int .u64 (wp a.value 2:Nat),.int .u64 (wp a.value 3:Nat)] (fun j hj=>by match j,hj with | 0,_=>rfl | 1,_=>rfl | 2,_=>rfl | 3,_=>rfl));have b_value:=jh (yaZ hb2 13 [.int .u64 (wp b.value 0:Nat),.int .u64 (wp b.value 1:Nat),.int .u64 (wp b.value 2:Nat),.int .u64 (wp b.value 3:Nat)] (fun j hj=>by match j,hj with | 0,_=>rfl | 1,_=>rfl | 2,_=>rfl | 3,_=>rfl));have a_data:=jh (show _ = some (.string a.data) from (hb1.cell 17).trans rfl);have b_data:=jh (show _ = some (.string b.data) from (hb2.cell 17).trans rfl);have a_y:=jh (show _ = some (.int .u64 (a.y:Int)) from (hb1.cell 20).trans rfl);have b_y:=jh (show _ = some (.int .u64 (b.y:Int)) from (hb2.cell 20).trans rfl);have a_r:=jh (yaZ hb1 21 [.int .u64 (wp a.r 0:Nat),.int .u64 (wp a.r 1:Nat),.int .u64 (wp a.r 2:Nat),.int .u64 (wp a.r 3:Nat)] (fun j hj=>by match j,hj with | 0,_=>rfl | 1,_=>rfl | 2,_=>rfl | 3,_=>rfl));have b_r:=jh (yaZ hb2 21 [.int .u64 (wp b.r 0:Nat),.int .u64 (wp b.r 1:Nat),.int .u64 (wp b.r 2:Nat),.int .u64 (wp b.r 3:Nat)] (fun j hj=>by match j,hj with | 0,_=>rfl | 1,_=>rfl | 2,_=>rfl | 3,_=>rfl));have a_s:=jh (yaZ hb1 25 [.int .u64 (wp a.s 0:Nat),.int .u64 (wp a.s 1:Nat),.int .u64 (wp a.s 2:Nat),.int .u64 (wp a.s 3:Nat)] (fun j hj=>by match j,hj with | 0,_=>rfl | 1,_=>rfl | 2,_=>rfl | 3,_=>rfl));have b_s:=jh (yaZ hb2 25 [.int .u64 (wp b.s 0:Nat),.int .u64 (wp b.s 1:Nat),.int .u64 (wp b.s 2:Nat),.int .u64 (wp b.s 3:Nat)] (fun j hj=>by match j,hj with | 0,_=>rfl | 1,_=>rfl | 2,_=>rfl | 3,_=>rfl));have a_source:=jh (show _ = some (.string a.source) from (hb1.cell 29).trans rfl);have b_source:=jh (show _ = some (.string b.source) from (hb2.cell 29).trans rfl);have a_frm:=jh (show _ = some (.string a.frm) from (hb1.cell 30).trans rfl);have b_frm:=jh (show _ = some (.string b.frm) from (hb2.cell 30).trans rfl);have a_mint:=jh (yaZ hb1 31 [.int .u64 (wp a.mint 0:Nat),.int .u64 (wp a.mint 1:Nat),.int .u64 (wp a.mint 2:Nat),.int .u64 (wp a.mint 3:Nat)] (fun j hj=>by match j,hj with | 0,_=>rfl | 1,_=>rfl | 2,_=>rfl | 3,_=>rfl));have b_mint:=jh (yaZ hb2 31 [.int .u64 (wp b.mint 0:Nat),.int .u64 (wp b.mint 1:Nat),.int .u64 (wp b.mint 2:Nat),.int .u64 (wp b.mint 3:Nat)] (fun j hj=>by match j,hj with | 0,_=>rfl | 1,_=>rfl | 2,_=>rfl | 3,_=>rfl));have a_system:=jh (show _ = some (.bool a.system) from (hb1.cell 35).trans rfl);have b_system:=jh (show _ = some (.bool b.system) from (hb2.cell 35).trans rfl);have a_acc:=jh (show _ = some (ja4 p a.acc.length c) from (hb1.cell 18).trans rfl);have b_acc:=jh (show _ = some (ja4 q b.acc.length d) from (hb2.cell 18).trans rfl);have a_aut:=jh (show _ = some (ja4 p' a.auths.length c') from (hb1.cell 19).trans rfl);have b_aut:=jh (show _ = some (ja4 q' b.auths.length d') from (hb2.cell 19).trans rfl);have OA:=jh oa;have OB:=jh ob;generalize hca:txC a (.slice p a.acc.length c) (.slice p' a.auths.length c') = ca at *;generalize hcb:txC b (.slice q b.acc.length d) (.slice q' b.auths.length d') = cb at *;have HACC:=jh acc;have HACC':=jh acc';have HAUT:=jh aut;have HAUT':=jh aut';have HSI:=jh hS;have HSJ:=jh hS';have HLA:=jh la;have HLA':=jh la';have HLB:=jh lb;have HLB':=jh lb';have HKX:=jh kx;have HKY:=jh ky;have si:ca.size = 36:=by rw [<- hca];rfl
 have sj:cb.size = 36:=by rw [<- hcb];rfl
 have HG:=jh hG;clear hG ha hb hB hB' hS hS' acc acc' aut aut' la la' lb lb' oa ob hca hcb kx ky hb1 hb2;go_enter Tryz.func56,Tryz.ntmps56
 go_upto_region 1 with (fail)
 (try rw [hg]);(try rw [hw1]);clear hg hw1;clear si sj;go_cut [5] (fun v wx=>v = .bool one /\ w1 = wx)
 case first =>
  refine jwl ?_;refine zg (.pointer (some ⟨g,0,none⟩)) ?_;simp only [jp,jb,jz,js];refine yac rfl (.int .i64 a.kind) (yaf 3 (.tmp 7) rfl _ rfl _ _ jb8 rfl a_kind.out) ?_;simp only [jp,jb,jz,js];refine zg (.pointer (some ⟨g + 1,0,none⟩)) ?_;simp only [jp,jb,jz,js];refine yac rfl (.int .i64 b.kind) (yaf 3 (.tmp 9) rfl _ rfl _ _ jb8 rfl b_kind.out) ?_;simp only [jp,jb,jz,js];have hq:=ymL a.kind b.kind;refine yac rfl (.bool (decide (a.kind = b.kind))) (by go_simp <;> first | rfl | exact hq | (rw [hq]) | simp [hq]) ?_;simp only [jp,jb,jz,js];clear hq;obtain ⟨b0,hb0⟩:∃ z,decide (a.kind = b.kind) = z:=⟨_,rfl⟩;rw [hb0]
  refine yaW 5 12 (.tmp 11) b0 (decide (a.chain = b.chain)) (.pointer (some ⟨g,1,none⟩)) (.int .u64 (a.chain:Int)) (.pointer (some ⟨g + 1,1,none⟩)) (.int .u64 (b.chain:Int)) (by kernel_rfl) rfl rfl rfl rfl rfl rfl rfl rfl rfl rfl rfl rfl rfl rfl rfl rfl (jb1 (by kernel_rfl)) (by kernel_rfl)
   (fun tm' h=>yaH 42 (.tmp 2) 1 rfl _ _ (h 2 (by omega)) (faTx _ _ _ _ (fun g W=>by go_simp <;> rfl)))
   (fun tm' h=>yaf 23 (.tmp 13) rfl _ (show Act.eval ⟨tm',[]⟩ (.tmp 13) = _ from h) _ _ ja5 rfl a_chain.out)
   (fun tm' h=>yaH 42 (.tmp 3) 1 rfl _ _ (h 3 (by omega)) (faTx _ _ _ _ (fun g W=>by go_simp <;> rfl)))
   (fun tm' h=>yaf 23 (.tmp 15) rfl _ (show Act.eval ⟨tm',[]⟩ (.tmp 15) = _ from h) _ _ ja5 rfl b_chain.out)
   (fun tm' h1 h2=>yhl _ _ rfl _ _ (show Act.eval ⟨tm',[]⟩ (.tmp 14) = _ from h1) (show Act.eval ⟨tm',[]⟩ (.tmp 16) = _ from h2)) ?_
  intro x1 x2 x3 x4 x5;simp only [jp,jb,jz,js];obtain ⟨b1,hb1⟩:∃ z,(b0 && decide (a.chain = b.chain)) = z:=⟨_,rfl⟩;rw [hb1]
  refine yaW 12 19 (.tmp 18) b1 (decide (a.nonce = b.nonce)) (.pointer (some ⟨g,2,none⟩)) (.int .u64 (a.nonce:Int)) (.pointer (some ⟨g + 1,2,none⟩)) (.int .u64 (b.nonce:Int)) (by kernel_rfl) rfl rfl rfl rfl rfl rfl rfl rfl rfl rfl rfl rfl rfl rfl rfl rfl (jb1 (by kernel_rfl)) (by kernel_rfl)
   (fun tm' h=>yaH 42 (.tmp 2) 2 rfl _ _ (h 2 (by omega)) (faTx _ _ _ _ (fun g W=>by go_simp <;> rfl)))
   (fun tm' h=>yaf 23 (.tmp 20) rfl _ (show Act.eval ⟨tm',[]⟩ (.tmp 20) = _ from h) _ _ ja5 rfl a_nonce.out)
   (fun tm' h=>yaH 42 (.tmp 3) 2 rfl _ _ (h 3 (by omega)) (faTx _ _ _ _ (fun g W=>by go_simp <;> rfl)))
   (fun tm' h=>yaf 23 (.tmp 22) rfl _ (show Act.eval ⟨tm',[]⟩ (.tmp 22) = _ from h) _ _ ja5 rfl b_nonce.out)
   (fun tm' h1 h2=>yhl _ _ rfl _ _ (show Act.eval ⟨tm',[]⟩ (.tmp 21) = _ from h1) (show Act.eval ⟨tm',[]⟩ (.tmp 23) = _ from h2)) ?_
  intro x1 x2 x3 x4 x5;simp only [jp,jb,jz,js];obtain ⟨b2,hb2⟩:∃ z,(b1 && decide (a.nonce = b.nonce)) = z:=⟨_,rfl⟩;rw [hb2]
  refine yaW 19 26 (.tmp 25) b2 (decide (a.tip = b.tip)) (.pointer (some ⟨g,3,none⟩)) (ybG a.tip) (.pointer (some ⟨g + 1,3,none⟩)) (ybG b.tip) (by kernel_rfl) rfl rfl rfl rfl rfl rfl rfl rfl rfl rfl rfl rfl rfl rfl rfl rfl (jb1 (by kernel_rfl)) (by kernel_rfl)
   (fun tm' h=>yaH 42 (.tmp 2) 3 rfl _ _ (h 2 (by omega)) (faTx _ _ _ _ (fun g W=>by go_simp <;> rfl)))
   (fun tm' h=>yax rfl (show Act.eval ⟨tm',[]⟩ (.tmp 27) = _ from h) _ a_tip.out _ jd8 rfl (by kernel_rfl))
   (fun tm' h=>yaH 42 (.tmp 3) 3 rfl _ _ (h 3 (by omega)) (faTx _ _ _ _ (fun g W=>by go_simp <;> rfl)))
   (fun tm' h=>yax rfl (show Act.eval ⟨tm',[]⟩ (.tmp 29) = _ from h) _ b_tip.out _ jd8 rfl (by kernel_rfl))
   (fun tm' h1 h2=>ydl OA.out.tip OB.out.tip _ rfl (show Act.eval ⟨tm',[]⟩ (.tmp 28) = _ from h1) (show Act.eval ⟨tm',[]⟩ (.tmp 30) = _ from h2)) ?_
  intro x1 x2 x3 x4 x5;simp only [jp,jb,jz,js];obtain ⟨b3,hb3⟩:∃ z,(b2 && decide (a.tip = b.tip)) = z:=⟨_,rfl⟩;rw [hb3]
  refine yaW 26 33 (.tmp 32) b3 (decide (a.price = b.price)) (.pointer (some ⟨g,7,none⟩)) (ybG a.price) (.pointer (some ⟨g + 1,7,none⟩)) (ybG b.price) (by kernel_rfl) rfl rfl rfl rfl rfl rfl rfl rfl rfl rfl rfl rfl rfl rfl rfl rfl (jb1 (by kernel_rfl)) (by kernel_rfl)
   (fun tm' h=>yaH 42 (.tmp 2) 4 rfl _ _ (h 2 (by omega)) (faTx _ _ _ _ (fun g W=>by go_simp <;> rfl)))
   (fun tm' h=>yax rfl (show Act.eval ⟨tm',[]⟩ (.tmp 34) = _ from h) _ a_price.out _ jd8 rfl (by kernel_rfl))
   (fun tm' h=>yaH 42 (.tmp 3) 4 rfl _ _ (h 3 (by omega)) (faTx _ _ _ _ (fun g W=>by go_simp <;> rfl)))
   (fun tm' h=>yax rfl (show Act.eval ⟨tm',[]⟩ (.tmp 36) = _ from h) _ b_price.out _ jd8 rfl (by kernel_rfl))
   (fun tm' h1 h2=>ydl OA.out.price OB.out.price _ rfl (show Act.eval ⟨tm',[]⟩ (.tmp 35) = _ from h1) (show Act.eval ⟨tm',[]⟩ (.tmp 37) = _ from h2)) ?_
  intro x1 x2 x3 x4 x5;simp only [jp,jb,jz,js];obtain ⟨b4,hb4⟩:∃ z,(b3 && decide (a.price = b.price)) = z:=⟨_,rfl⟩;rw [hb4]
  refine yaW 33 40 (.tmp 39) b4 (decide (a.gas = b.gas)) (.pointer (some ⟨g,11,none⟩)) (.int .u64 (a.gas:Int)) (.pointer (some ⟨g + 1,11,none⟩)) (.int .u64 (b.gas:Int)) (by kernel_rfl) rfl rfl rfl rfl rfl rfl rfl rfl rfl rfl rfl rfl rfl rfl rfl rfl (jb1 (by kernel_rfl)) (by kernel_rfl)
   (fun tm' h=>yaH 42 (.tmp 2) 5 rfl _ _ (h 2 (by omega)) (faTx _ _ _ _ (fun g W=>by go_simp <;> rfl)))
   (fun tm' h=>yaf 23 (.tmp 41) rfl _ (show Act.eval ⟨tm',[]⟩ (.tmp 41) = _ from h) _ _ ja5 rfl a_gas.out)
   (fun tm' h=>yaH 42 (.tmp 3) 5 rfl _ _ (h 3 (by omega)) (faTx _ _ _ _ (fun g W=>by go_simp <;> rfl)))
   (fun tm' h=>yaf 23 (.tmp 43) rfl _ (show Act.eval ⟨tm',[]⟩ (.tmp 43) = _ from h) _ _ ja5 rfl b_gas.out)
   (fun tm' h1 h2=>yhl _ _ rfl _ _ (show Act.eval ⟨tm',[]⟩ (.tmp 42) = _ from h1) (show Act.eval ⟨tm',[]⟩ (.tmp 44) = _ from h2)) ?_
  intro x1 x2 x3 x4 x5;simp only [jp,jb,jz,js];obtain ⟨b5,hb5⟩:∃ z,(b4 && decide (a.gas = b.gas)) = z:=⟨_,rfl⟩;rw [hb5]
  refine yaW 40 47 (.tmp 46) b5 (decide (a.dst = b.dst)) (.pointer (some ⟨g,12,none⟩)) (.string a.dst) (.pointer (some ⟨g + 1,12,none⟩)) (.string b.dst) (by kernel_rfl) rfl rfl rfl rfl rfl rfl rfl rfl rfl rfl rfl rfl rfl rfl rfl rfl (jb1 (by kernel_rfl)) (by kernel_rfl)
   (fun tm' h=>yaH 42 (.tmp 2) 6 rfl _ _ (h 2 (by omega)) (faTx _ _ _ _ (fun g W=>by go_simp <;> rfl)))
   (fun tm' h=>yaf 9 (.tmp 48) rfl _ (show Act.eval ⟨tm',[]⟩ (.tmp 48) = _ from h) _ _ ja9 rfl a_dst.out)
   (fun tm' h=>yaH 42 (.tmp 3) 6 rfl _ _ (h 3 (by omega)) (faTx _ _ _ _ (fun g W=>by go_simp <;> rfl)))
   (fun tm' h=>yaf 9 (.tmp 50) rfl _ (show Act.eval ⟨tm',[]⟩ (.tmp 50) = _ from h) _ _ ja9 rfl b_dst.out)
   (fun tm' h1 h2=>ydK _ _ rfl _ _ (show Act.eval ⟨tm',[]⟩ (.tmp 49) = _ from h1) (show Act.eval ⟨tm',[]⟩ (.tmp 51) = _ from h2)) ?_
  intro x1 x2 x3 x4 x5;simp only [jp,jb,jz,js];obtain ⟨b6,hb6⟩:∃ z,(b5 && decide (a.dst = b.dst)) = z:=⟨_,rfl⟩;rw [hb6]
  refine yaW 47 54 (.tmp 53) b6 (decide (a.value = b.value)) (.pointer (some ⟨g,13,none⟩)) (ybG a.value) (.pointer (some ⟨g + 1,13,none⟩)) (ybG b.value) (by kernel_rfl) rfl rfl rfl rfl rfl rfl rfl rfl rfl rfl rfl rfl rfl rfl rfl rfl (jb1 (by kernel_rfl)) (by kernel_rfl)
   (fun tm' h=>yaH 42 (.tmp 2) 7 rfl _ _ (h 2 (by omega)) (faTx _ _ _ _ (fun g W=>by go_simp <;> rfl)))
   (fun tm' h=>yax rfl (show Act.eval ⟨tm',[]⟩ (.tmp 55) = _ from h) _ a_value.out _ jd8 rfl (by kernel_rfl))
   (fun tm' h=>yaH 42 (.tmp 3) 7 rfl _ _ (h 3 (by omega)) (faTx _ _ _ _ (fun g W=>by go_simp <;> rfl)))
   (fun tm' h=>yax rfl (show Act.eval ⟨tm',[]⟩ (.tmp 57) = _ from h) _ b_value.out _ jd8 rfl (by kernel_rfl))
   (fun tm' h1 h2=>ydl OA.out.value OB.out.value _ rfl (show Act.eval ⟨tm',[]⟩ (.tmp 56) = _ from h1) (show Act.eval ⟨tm',[]⟩ (.tmp 58) = _ from h2)) ?_
  intro x1 x2 x3 x4 x5;simp only [jp,jb,jz,js];obtain ⟨b7,hb7⟩:∃ z,(b6 && decide (a.value = b.value)) = z:=⟨_,rfl⟩;rw [hb7]
  refine yaW 54 61 (.tmp 60) b7 (decide (a.data = b.data)) (.pointer (some ⟨g,17,none⟩)) (.string a.data) (.pointer (some ⟨g + 1,17,none⟩)) (.string b.data) (by kernel_rfl) rfl rfl rfl rfl rfl rfl rfl rfl rfl rfl rfl rfl rfl rfl rfl rfl (jb1 (by kernel_rfl)) (by kernel_rfl)
   (fun tm' h=>yaH 42 (.tmp 2) 8 rfl _ _ (h 2 (by omega)) (faTx _ _ _ _ (fun g W=>by go_simp <;> rfl)))
   (fun tm' h=>yaf 9 (.tmp 62) rfl _ (show Act.eval ⟨tm',[]⟩ (.tmp 62) = _ from h) _ _ ja9 rfl a_data.out)
   (fun tm' h=>yaH 42 (.tmp 3) 8 rfl _ _ (h 3 (by omega)) (faTx _ _ _ _ (fun g W=>by go_simp <;> rfl)))
   (fun tm' h=>yaf 9 (.tmp 64) rfl _ (show Act.eval ⟨tm',[]⟩ (.tmp 64) = _ from h) _ _ ja9 rfl b_data.out)
   (fun tm' h1 h2=>ydK _ _ rfl _ _ (show Act.eval ⟨tm',[]⟩ (.tmp 63) = _ from h1) (show Act.eval ⟨tm',[]⟩ (.tmp 65) = _ from h2)) ?_
  intro x1 x2 x3 x4 x5;simp only [jp,jb,jz,js];obtain ⟨b8,hb8⟩:∃ z,(b7 && decide (a.data = b.data)) = z:=⟨_,rfl⟩;rw [hb8];refine zg (.bool b8) ?_;simp only [jp,jb,jz,js];refine jwn ?_
  have hfin:b8 = one:=by
   rw [<- HONE.out,<- hb8,<- hb7,<- hb6,<- hb5,<- hb4,<- hb3,<- hb2,<- hb1,<- hb0];unfold oneB;simp only [Bool.and_assoc]
  have HFIN:=jh hfin;clear hfin;go_wp2_with fail
  go_meet
  case rel=>exact ⟨congrArg jc7 HFIN.out,rfl⟩
 case rest =>
 obtain ⟨rfl,rfl⟩:=hcut;clear HONE;clear a_kind b_kind;clear a_chain b_chain;clear a_nonce b_nonce;clear a_tip b_tip;clear a_price b_price;clear a_gas b_gas;clear a_dst b_dst;clear a_value b_value;clear a_data b_data;go_upto_region 2 with (fail)
 go_cut [6] (fun v wx=>v = .bool two /\ w1 = wx)
 case first =>
  refine jwl ?_;refine zg (.pointer (some ⟨g,20,none⟩)) ?_;simp only [jp,jb,jz,js];refine yac rfl (.int .u64 (a.y:Int)) (yaf 23 (.tmp 68) rfl _ rfl _ _ ja5 rfl a_y.out) ?_;simp only [jp,jb,jz,js];refine zg (.pointer (some ⟨g + 1,20,none⟩)) ?_;simp only [jp,jb,jz,js];refine yac rfl (.int .u64 (b.y:Int)) (yaf 23 (.tmp 70) rfl _ rfl _ _ ja5 rfl b_y.out) ?_;simp only [jp,jb,jz,js];have hq:=ydc a.y b.y;refine yac rfl (.bool (decide (a.y = b.y))) (by go_simp <;> first | rfl | exact hq | (rw [hq]) | simp [hq]) ?_;simp only [jp,jb,jz,js];clear hq;obtain ⟨b0,hb0⟩:∃ z,decide (a.y = b.y) = z:=⟨_,rfl⟩;rw [hb0]
  refine yaW 5 73 (.tmp 72) b0 (decide (a.r = b.r)) (.pointer (some ⟨g,21,none⟩)) (ybG a.r) (.pointer (some ⟨g + 1,21,none⟩)) (ybG b.r) (by kernel_rfl) rfl rfl rfl rfl rfl rfl rfl rfl rfl rfl rfl rfl rfl rfl rfl rfl (jb1 (by kernel_rfl)) (by kernel_rfl)
   (fun tm' h=>yaH 42 (.tmp 2) 12 rfl _ _ (h 2 (by omega)) (faTx _ _ _ _ (fun g W=>by go_simp <;> rfl)))
   (fun tm' h=>yax rfl (show Act.eval ⟨tm',[]⟩ (.tmp 74) = _ from h) _ a_r.out _ jd8 rfl (by kernel_rfl))
   (fun tm' h=>yaH 42 (.tmp 3) 12 rfl _ _ (h 3 (by omega)) (faTx _ _ _ _ (fun g W=>by go_simp <;> rfl)))
   (fun tm' h=>yax rfl (show Act.eval ⟨tm',[]⟩ (.tmp 76) = _ from h) _ b_r.out _ jd8 rfl (by kernel_rfl))
   (fun tm' h1 h2=>ydl OA.out.r OB.out.r _ rfl (show Act.eval ⟨tm',[]⟩ (.tmp 75) = _ from h1) (show Act.eval ⟨tm',[]⟩ (.tmp 77) = _ from h2)) ?_
  intro x1 x2 x3 x4 x5;simp only [jp,jb,jz,js];obtain ⟨b1,hb1⟩:∃ z,(b0 && decide (a.r = b.r)) = z:=⟨_,rfl⟩;rw [hb1]
  refine yaW 12 80 (.tmp 79) b1 (decide (a.s = b.s)) (.pointer (some ⟨g,25,none⟩)) (ybG a.s) (.pointer (some ⟨g + 1,25,none⟩)) (ybG b.s) (by kernel_rfl) rfl rfl rfl rfl rfl rfl rfl rfl rfl rfl rfl rfl rfl rfl rfl rfl (jb1 (by kernel_rfl)) (by kernel_rfl)
   (fun tm' h=>yaH 42 (.tmp 2) 13 rfl _ _ (h 2 (by omega)) (faTx _ _ _ _ (fun g W=>by go_simp <;> rfl)))
   (fun tm' h=>yax rfl (show Act.eval ⟨tm',[]⟩ (.tmp 81) = _ from h) _ a_s.out _ jd8 rfl (by kernel_rfl))
   (fun tm' h=>yaH 42 (.tmp 3) 13 rfl _ _ (h 3 (by omega)) (faTx _ _ _ _ (fun g W=>by go_simp <;> rfl)))
   (fun tm' h=>yax rfl (show Act.eval ⟨tm',[]⟩ (.tmp 83) = _ from h) _ b_s.out _ jd8 rfl (by kernel_rfl))
   (fun tm' h1 h2=>ydl OA.out.s OB.out.s _ rfl (show Act.eval ⟨tm',[]⟩ (.tmp 82) = _ from h1) (show Act.eval ⟨tm',[]⟩ (.tmp 84) = _ from h2)) ?_
  intro x1 x2 x3 x4 x5;simp only [jp,jb,jz,js];obtain ⟨b2,hb2⟩:∃ z,(b1 && decide (a.s = b.s)) = z:=⟨_,rfl⟩;rw [hb2]
  refine yaW 19 87 (.tmp 86) b2 (decide (a.source = b.source)) (.pointer (some ⟨g,29,none⟩)) (.string a.source) (.pointer (some ⟨g + 1,29,none⟩)) (.string b.source) (by kernel_rfl) rfl rfl rfl rfl rfl rfl rfl rfl rfl rfl rfl rfl rfl rfl rfl rfl (jb1 (by kernel_rfl)) (by kernel_rfl)
   (fun tm' h=>yaH 42 (.tmp 2) 14 rfl _ _ (h 2 (by omega)) (faTx _ _ _ _ (fun g W=>by go_simp <;> rfl)))
   (fun tm' h=>yaf 9 (.tmp 88) rfl _ (show Act.eval ⟨tm',[]⟩ (.tmp 88) = _ from h) _ _ ja9 rfl a_source.out)
   (fun tm' h=>yaH 42 (.tmp 3) 14 rfl _ _ (h 3 (by omega)) (faTx _ _ _ _ (fun g W=>by go_simp <;> rfl)))
   (fun tm' h=>yaf 9 (.tmp 90) rfl _ (show Act.eval ⟨tm',[]⟩ (.tmp 90) = _ from h) _ _ ja9 rfl b_source.out)
   (fun tm' h1 h2=>ydK _ _ rfl _ _ (show Act.eval ⟨tm',[]⟩ (.tmp 89) = _ from h1) (show Act.eval ⟨tm',[]⟩ (.tmp 91) = _ from h2)) ?_
  intro x1 x2 x3 x4 x5;simp only [jp,jb,jz,js];obtain ⟨b3,hb3⟩:∃ z,(b2 && decide (a.source = b.source)) = z:=⟨_,rfl⟩;rw [hb3]
  refine yaW 26 94 (.tmp 93) b3 (decide (a.frm = b.frm)) (.pointer (some ⟨g,30,none⟩)) (.string a.frm) (.pointer (some ⟨g + 1,30,none⟩)) (.string b.frm) (by kernel_rfl) rfl rfl rfl rfl rfl rfl rfl rfl rfl rfl rfl rfl rfl rfl rfl rfl (jb1 (by kernel_rfl)) (by kernel_rfl)
   (fun tm' h=>yaH 42 (.tmp 2) 15 rfl _ _ (h 2 (by omega)) (faTx _ _ _ _ (fun g W=>by go_simp <;> rfl)))
   (fun tm' h=>yaf 9 (.tmp 95) rfl _ (show Act.eval ⟨tm',[]⟩ (.tmp 95) = _ from h) _ _ ja9 rfl a_frm.out)
   (fun tm' h=>yaH 42 (.tmp 3) 15 rfl _ _ (h 3 (by omega)) (faTx _ _ _ _ (fun g W=>by go_simp <;> rfl)))
   (fun tm' h=>yaf 9 (.tmp 97) rfl _ (show Act.eval ⟨tm',[]⟩ (.tmp 97) = _ from h) _ _ ja9 rfl b_frm.out)
   (fun tm' h1 h2=>ydK _ _ rfl _ _ (show Act.eval ⟨tm',[]⟩ (.tmp 96) = _ from h1) (show Act.eval ⟨tm',[]⟩ (.tmp 98) = _ from h2)) ?_
  intro x1 x2 x3 x4 x5;simp only [jp,jb,jz,js];obtain ⟨b4,hb4⟩:∃ z,(b3 && decide (a.frm = b.frm)) = z:=⟨_,rfl⟩;rw [hb4]
  refine yaW 33 101 (.tmp 100) b4 (decide (a.mint = b.mint)) (.pointer (some ⟨g,31,none⟩)) (ybG a.mint) (.pointer (some ⟨g + 1,31,none⟩)) (ybG b.mint) (by kernel_rfl) rfl rfl rfl rfl rfl rfl rfl rfl rfl rfl rfl rfl rfl rfl rfl rfl (jb1 (by kernel_rfl)) (by kernel_rfl)
   (fun tm' h=>yaH 42 (.tmp 2) 16 rfl _ _ (h 2 (by omega)) (faTx _ _ _ _ (fun g W=>by go_simp <;> rfl)))
   (fun tm' h=>yax rfl (show Act.eval ⟨tm',[]⟩ (.tmp 102) = _ from h) _ a_mint.out _ jd8 rfl (by kernel_rfl))
   (fun tm' h=>yaH 42 (.tmp 3) 16 rfl _ _ (h 3 (by omega)) (faTx _ _ _ _ (fun g W=>by go_simp <;> rfl)))
   (fun tm' h=>yax rfl (show Act.eval ⟨tm',[]⟩ (.tmp 104) = _ from h) _ b_mint.out _ jd8 rfl (by kernel_rfl))
   (fun tm' h1 h2=>ydl OA.out.mint OB.out.mint _ rfl (show Act.eval ⟨tm',[]⟩ (.tmp 103) = _ from h1) (show Act.eval ⟨tm',[]⟩ (.tmp 105) = _ from h2)) ?_
  intro x1 x2 x3 x4 x5;simp only [jp,jb,jz,js];obtain ⟨b5,hb5⟩:∃ z,(b4 && decide (a.mint = b.mint)) = z:=⟨_,rfl⟩;rw [hb5]
  refine yaW 40 108 (.tmp 107) b5 (decide (a.system = b.system)) (.pointer (some ⟨g,35,none⟩)) (.bool a.system) (.pointer (some ⟨g + 1,35,none⟩)) (.bool b.system) (by kernel_rfl) rfl rfl rfl rfl rfl rfl rfl rfl rfl rfl rfl rfl rfl rfl rfl rfl (jb1 (by kernel_rfl)) (by kernel_rfl)
   (fun tm' h=>yaH 42 (.tmp 2) 17 rfl _ _ (h 2 (by omega)) (faTx _ _ _ _ (fun g W=>by go_simp <;> rfl)))
   (fun tm' h=>yaf 4 (.tmp 109) rfl _ (show Act.eval ⟨tm',[]⟩ (.tmp 109) = _ from h) _ _ Tryz.underlying4 rfl a_system.out)
   (fun tm' h=>yaH 42 (.tmp 3) 17 rfl _ _ (h 3 (by omega)) (faTx _ _ _ _ (fun g W=>by go_simp <;> rfl)))
   (fun tm' h=>yaf 4 (.tmp 111) rfl _ (show Act.eval ⟨tm',[]⟩ (.tmp 111) = _ from h) _ _ Tryz.underlying4 rfl b_system.out)
   (fun tm' h1 h2=>ynU _ _ rfl _ _ (show Act.eval ⟨tm',[]⟩ (.tmp 110) = _ from h1) (show Act.eval ⟨tm',[]⟩ (.tmp 112) = _ from h2)) ?_
  intro x1 x2 x3 x4 x5;simp only [jp,jb,jz,js];obtain ⟨b6,hb6⟩:∃ z,(b5 && decide (a.system = b.system)) = z:=⟨_,rfl⟩;rw [hb6];refine zg (.bool b6) ?_;simp only [jp,jb,jz,js];refine jwn ?_
  have hfin:b6 = two:=by
   rw [<- HTWO.out,<- hb6,<- hb5,<- hb4,<- hb3,<- hb2,<- hb1,<- hb0];unfold twoB;simp only [Bool.and_assoc]
  have HFIN:=jh hfin;clear hfin;go_wp2_with fail
  go_meet
  case rel=>exact ⟨congrArg jc7 HFIN.out,rfl⟩
 case rest =>
 obtain ⟨rfl,rfl⟩:=hcut;clear HTWO;clear a_y b_y;clear a_r b_r;clear a_s b_s;clear a_source b_source;clear a_frm b_frm;clear a_mint b_mint;clear a_system b_system;go_upto_region 3 with (fail)
 refine jwl ?_;refine zm 5 (.bool one) rfl ?_;refine zm 115 (.bool one) rfl ?_;simp only [jp,jb,jz,js];cases one
 ·skip
  refine yao (by kernel_rfl) ?_;simp only [jp,jb,jz,js];refine yac rfl (.bool false) (ya6 (.tmp 116) (.tmp 117) _ rfl false rfl _ rfl) ?_;simp only [jp,jb,jz,js];refine zm 118 (.bool false) rfl ?_;simp only [jp,jb,jz,js];refine yao (by kernel_rfl) ?_;simp only [jp,jb,jz,js];refine yao (by kernel_rfl) ?_;simp only [jp,jb,jz,js];refine yao (by kernel_rfl) ?_;simp only [jp,jb,jz,js];refine yao (by kernel_rfl) ?_;simp only [jp,jb,jz,js];refine yao (by kernel_rfl) ?_;simp only [jp,jb,jz,js];refine yac rfl (.bool false) (ya6 (.tmp 119) (.tmp 124) _ rfl false rfl _ rfl) ?_;simp only [jp,jb,jz,js];refine zm 125 (.bool false) rfl ?_;simp only [jp,jb,jz,js];refine yao (by kernel_rfl) ?_;simp only [jp,jb,jz,js];refine yao (by kernel_rfl) ?_;simp only [jp,jb,jz,js];refine yao (by kernel_rfl) ?_;simp only [jp,jb,jz,js];refine yao (by kernel_rfl) ?_;simp only [jp,jb,jz,js];refine yao (by kernel_rfl) ?_;simp only [jp,jb,jz,js];refine yac rfl (.bool false) (ya6 (.tmp 126) (.tmp 131) _ rfl false rfl _ rfl) ?_;simp only [jp,jb,jz,js];refine zg (.bool false) ?_;simp only [jp,jb,jz,js];refine jwn ?_;go_wp2_with fail
  go_ret
  exact ⟨by simp,HG.out⟩
 ·skip
  refine yah rfl (.bool two) (yan (.tmp 6) rfl _ rfl) ?_;simp only [jp,jb,jz,js];refine yac rfl (.bool two) (ya6 (.tmp 116) (.tmp 117) _ rfl true rfl _ rfl) ?_;simp only [jp,jb,jz,js];refine zm 118 (.bool two) rfl ?_;simp only [jp,jb,jz,js];cases two
  ·skip
   refine yao (by kernel_rfl) ?_;simp only [jp,jb,jz,js];refine yao (by kernel_rfl) ?_;simp only [jp,jb,jz,js];refine yao (by kernel_rfl) ?_;simp only [jp,jb,jz,js];refine yao (by kernel_rfl) ?_;simp only [jp,jb,jz,js];refine yao (by kernel_rfl) ?_;simp only [jp,jb,jz,js];refine yac rfl (.bool false) (ya6 (.tmp 119) (.tmp 124) _ rfl false rfl _ rfl) ?_;simp only [jp,jb,jz,js];refine zm 125 (.bool false) rfl ?_;simp only [jp,jb,jz,js];refine yao (by kernel_rfl) ?_;simp only [jp,jb,jz,js];refine yao (by kernel_rfl) ?_;simp only [jp,jb,jz,js];refine yao (by kernel_rfl) ?_;simp only [jp,jb,jz,js];refine yao (by kernel_rfl) ?_;simp only [jp,jb,jz,js];refine yao (by kernel_rfl) ?_;simp only [jp,jb,jz,js];refine yac rfl (.bool false) (ya6 (.tmp 126) (.tmp 131) _ rfl false rfl _ rfl) ?_;simp only [jp,jb,jz,js];refine zg (.bool false) ?_;simp only [jp,jb,jz,js];refine jwn ?_;go_wp2_with fail
   go_ret
   exact ⟨by simp,HG.out⟩
  ·skip
   refine yah rfl (.pointer (some ⟨g,18,none⟩)) (by go_simp <;> rfl) ?_;simp only [jp,jb,jz,js];refine yah rfl (.slice p a.acc.length c) (yaf 39 (.tmp 120) rfl _ rfl _ _ Tryz.underlying39 rfl a_acc.out) ?_;simp only [jp,jb,jz,js];refine yah rfl (.pointer (some ⟨g + 1,18,none⟩)) (by go_simp <;> rfl) ?_;simp only [jp,jb,jz,js];refine yah rfl (.slice q b.acc.length d) (yaf 39 (.tmp 122) rfl _ rfl _ _ Tryz.underlying39 rfl b_acc.out) ?_;simp only [jp,jb,jz,js];have hc1:=yi4 B B' p q _ _ c d a.acc b.acc w1 HACC.out HACC'.out HSI.out HSJ.out HLA.out HLA'.out HKX.out HKY.out;have hc2:=fun V hV=>yi3 B B' p' q' _ _ c' d' a.auths b.auths V (HAUT.out.grown hV) (HAUT'.out.grown hV) (jlt HSI.out (ja0.size hV)) (jlt HSJ.out (ja0.size hV)) HLB.out HLB'.out OA.out.auths OB.out.auths;rw [HR1.out] at hc1;have HC2:=jh hc2;clear hc2;refine ybX rfl 95 #[.slice p a.acc.length c,.slice q b.acc.length d] (ya4 _ (.tmp 121) (.tmp 123) _ rfl _ _ rfl rfl (jeo Tryz.func95 (by kernel_rfl) rfl _ _)) (hc1.mono ?_);rintro e w2 ⟨rfl,hg2⟩;have HG2:=jh (yab HG.out hg2 (by simp));have e1:=hg2.cell a_aut.out (by simp);have e2:=hg2.cell b_aut.out (by simp);have hc3:=HC2.out w2 hg2;rw [HR2.out] at hc3;clear hg2 hc1 HC2;refine ⟨_,rfl,?_⟩;simp only [jp,jb,jz,js];refine yac rfl (.bool r1) (ya6 (.tmp 119) (.tmp 124) _ rfl true rfl _ rfl) ?_;simp only [jp,jb,jz,js];refine zm 125 (.bool r1) rfl ?_;simp only [jp,jb,jz,js];cases r1
   ·skip
    refine yao (by kernel_rfl) ?_;simp only [jp,jb,jz,js];refine yao (by kernel_rfl) ?_;simp only [jp,jb,jz,js];refine yao (by kernel_rfl) ?_;simp only [jp,jb,jz,js];refine yao (by kernel_rfl) ?_;simp only [jp,jb,jz,js];refine yao (by kernel_rfl) ?_;simp only [jp,jb,jz,js];refine yac rfl (.bool false) (ya6 (.tmp 126) (.tmp 131) _ rfl false rfl _ rfl) ?_;simp only [jp,jb,jz,js];refine zg (.bool false) ?_;simp only [jp,jb,jz,js];refine jwn ?_;go_wp2_with fail
    go_ret
    exact ⟨by simp,HG2.out⟩
   ·skip
    refine yah rfl (.pointer (some ⟨g,19,none⟩)) (by go_simp <;> rfl) ?_;simp only [jp,jb,jz,js];refine yah rfl (.slice p' a.auths.length c') (yaf 40 (.tmp 127) rfl _ rfl _ _ Tryz.underlying40 rfl e1) ?_;simp only [jp,jb,jz,js];refine yah rfl (.pointer (some ⟨g + 1,19,none⟩)) (by go_simp <;> rfl) ?_;simp only [jp,jb,jz,js];refine yah rfl (.slice q' b.auths.length d') (yaf 40 (.tmp 129) rfl _ rfl _ _ Tryz.underlying40 rfl e2) ?_;simp only [jp,jb,jz,js];refine ybX rfl 96 #[.slice p' a.auths.length c',.slice q' b.auths.length d'] (ya4 _ (.tmp 128) (.tmp 130) _ rfl _ _ rfl rfl (jeo Tryz.func96 (by kernel_rfl) rfl _ _)) (hc3.mono ?_);rintro e w3 ⟨rfl,hg3⟩;have HG3:=jh (yab HG2.out hg3 (by simp));clear hg3 hc3 e1 e2;refine ⟨_,rfl,?_⟩;simp only [jp,jb,jz,js];refine yac rfl (.bool r2) (ya6 (.tmp 126) (.tmp 131) _ rfl true rfl _ rfl) ?_;simp only [jp,jb,jz,js];refine zg (.bool r2) ?_;simp only [jp,jb,jz,js];refine jwn ?_;go_wp2_with fail
    go_ret
    exact ⟨by simp,HG3.out⟩
def ycp (t:TxV):Prop:=∀ x ∈ t.acc,x.keys.length <= 281474976710656
theorem yh8 (B B':Nat) (A A':Option Addr) (n m c d:Nat) (xs ys:List TxV) (w:World) (h:TxsR B w xs A n) (h':TxsR B' w ys A' m) (hB:B <= w.heap.size) (hB':B' <= w.heap.size) (hn:n <= 9223372036854775807) (hm:m <= 9223372036854775807)
  (ox:∀ x ∈ xs,x.Ok) (oy:∀ y ∈ ys,y.Ok) (kx:∀ x ∈ xs,ycp x) (ky:∀ y ∈ ys,ycp y) :
  Calls jq 16 #[.slice A n c,.slice A' m d] w fun e w'=>e = .returned (.bool (decide (xs = ys))) /\ w.grownBy w' none:=by
 have hl:=h.1;have hl':=h'.1;by_cases hnm:n = m
 ·subst hnm;have HL:=jh hl;have HL':=jh hl';have HH:=jh h;have HH':=jh h';have HB:=jh hB;have HB':=jh hB';have HOX:=jh ox;have HOY:=jh oy;have HKX:=jh kx;have HKY:=jh ky;have qe:((n:Int) != (n:Int)) = false:=by simp
  clear hl hl' h h' hB hB' ox oy kx ky;go_enter Tryz.func16,Tryz.ntmps16
  go_wp2_with fail
  clear qe;go_loopw [5] (fun i wr=>∃ k:Nat,i = .int .i64 k /\ k <= n /\ w.grownBy wr none /\ Hid (∀ i:Nat,i < k -> xs.getD i TxV.zero = ys.getD i TxV.zero)) (fun i _=>n - (intOf i).toNat)
  case atStart=>exact ⟨0,rfl,by omega,jr _ _,jh (by intro i h1;omega)⟩
  case round =>
   obtain ⟨k,rfl,hk,hg,h2⟩:=hrel;have h2':=jh h2.out;have HGG:=jh hg;by_cases hlt:k < n
   ·obtain ⟨g,off,sa,sb,x,rfl,hx,mx,hcx,hix⟩:=(HH.out.grown hg HB.out).at_ hlt;obtain ⟨g',off',sa',sb',y,rfl,hy,my,hcy,hiy⟩:=(HH'.out.grown hg HB'.out).at_ hlt;have q1:(k:Int) < (n:Int):=by omega
    have q2:(0:Int) <= (k:Int):=by omega
    have HX:=jh hx;have HY:=jh hy;have HCALL:=jh (fun V hV=>yfk x y B B' sa sb sa' sb' V (hix.grown (show wr.grownBy V none from hV) (jlt HB.out hg.size)) (hiy.grown hV (jlt HB'.out hg.size)) (jlt (jlt HB.out hg.size) (ja0.size hV)) (jlt (jlt HB'.out hg.size) (ja0.size hV)) (HOX.out x mx) (HOY.out y my) (HKX.out x mx) (HKY.out y my));have HCX:=jh hcx;have HCY:=jh hcy;obtain ⟨r,hr⟩:∃ r,decide (x = y) = r:=⟨_,rfl⟩;rw [hr] at HCALL;have HRR:=jh hr;obtain ⟨cx,hcx2⟩:∃ z,txC x sa sb = z:=⟨_,rfl⟩;obtain ⟨cy,hcy2⟩:∃ z,txC y sa' sb' = z:=⟨_,rfl⟩;have ex:txL x sa sb = cx.toList:=by rw [<- hcx2];rfl
    have ey:txL y sa' sb' = cy.toList:=by rw [<- hcy2];rfl
    rw [hcx2,hcy2] at HCALL;rw [ex] at HCX;rw [ey] at HCY;have zx:cx.toList.length = 36:=by rw [<- ex];rfl
    have zy:cy.toList.length = 36:=by rw [<- ey];rfl
    have HZX:=jh zx;have HZY:=jh zy;clear h2 hx hy hr hcx hcy mx my hg hix hiy hcx2 hcy2 ex ey zx zy;go_upto_region 6 with (fail)
    have hC0:(fun V=>wr.grownBy V none) wr.drew:=ya2 (jr wr none);refine yaC (fun V=>wr.grownBy V none) (by kernel_rfl) (by kernel_rfl) hC0 ?_;(try simp only [jp]);refine yad rfl (.slice (some ⟨g,off,none⟩) n c) (fun V hV=>by go_simp) ?_;simp only [jp,jb,jz,js];refine yad rfl (.int .i64 (k:Int)) (fun V hV=>by go_simp) ?_;simp only [jp,jb,jz,js];refine yad rfl (.pointer (some ⟨g,off + k * 36,none⟩)) (fun V hV=>by go_simp <;> first | rfl | simp [jd2]) ?_;simp only [jp,jb,jz,js];refine yad rfl (.agg cx) (fun V hV=>yax rfl rfl cx.toList (yca HCX.out hV) _ ja3 rfl (by rw [HZX.out];kernel_rfl)) ?_;simp only [jp,jb,jz,js];refine yad rfl (.slice (some ⟨g',off',none⟩) n d) (fun V hV=>by go_simp) ?_;simp only [jp,jb,jz,js];refine yad rfl (.int .i64 (k:Int)) (fun V hV=>by go_simp) ?_;simp only [jp,jb,jz,js];refine yad rfl (.pointer (some ⟨g',off' + k * 36,none⟩)) (fun V hV=>by go_simp <;> first | rfl | simp [jd2]) ?_;simp only [jp,jb,jz,js];refine yad rfl (.agg cy) (fun V hV=>yax rfl rfl cy.toList (yca HCY.out hV) _ ja3 rfl (by rw [HZY.out];kernel_rfl)) ?_;simp only [jp,jb,jz,js];refine ybE rfl (.bool r) 56 #[.agg cx,.agg cy] (fun V hV=>ya4 _ (.tmp 21) (.tmp 25) _ rfl _ _ rfl rfl (jeo Tryz.func56 (by kernel_rfl) rfl _ _)) (fun V hV=>(HCALL.out V hV).mono fun e V' ⟨h1,h2⟩=>⟨h1,yab hV h2 (by simp)⟩) ?_;simp only [jp,jb,jz,js];refine yad rfl (.bool r) (fun V hV=>by go_simp <;> rfl) ?_;simp only [jp,jb,jz,js];refine wpQuiet_nil ?_;intro w3 hw3;have HG2:=jh (yab HGG.out hw3 (by simp));clear hC0 hw3 HCX HCY HCALL HZX HZY;cases r with
    | true =>
     go_wp2_with fail
     refine ⟨⟨k + 1,by go_num,by omega,HG2.out,jh fun i hi=>?_⟩,by simp [intOf];omega⟩;by_cases hik:i = k
     ·rw [hik,HX.out,HY.out];exact of_decide_eq_true HRR.out
     ·exact h2'.out i (by omega)
    | false =>
     go_wp2_with fail
     go_ret
     refine ⟨?_,HG2.out⟩;rw [show decide (xs = ys) = false from decide_eq_false (fun e=>of_decide_eq_false HRR.out (by rw [<- HX.out,<- HY.out,e]))];rfl
   ·have he:xs = ys:=yd3 TxV.zero (by rw [HL.out,HL'.out]) fun i hi=>h2'.out i (by have:=HL.out;omega);have HE:=jh he;have q0:(n:Int) <= (k:Int):=by omega
    clear he h2 hg;go_wp2_with fail
    go_ret
    exact ⟨by rw [decide_eq_true HE.out];rfl,HGG.out⟩
 ·have hne:¬ xs = ys:=by rintro rfl;exact hnm (hl.symm.trans hl')
  have HE:=jh hne;have hb:((n:Int) != (m:Int)) = true:=by simp;omega
  clear hne hnm hl hl' h h' hB hB' ox oy kx ky;go_enter Tryz.func16,Tryz.ntmps16
  go_wp2_with fail
  go_ret
  exact ⟨by rw [decide_eq_false HE.out];rfl,jr _ _⟩
theorem ydN {α:Type} (f:α -> ByteArray) (m:Nat):∀ (l:List α),(∀ a ∈ l,(f a).size <= m) -> (catB (l.map f)).length <= l.length * m
 | [],_=>by simp [catB]
 | a :: l,h=>by
  have h1:=h a (by simp);have h2:=ydN f m l fun b hb=>h b (by simp [hb]);rw [jb5,yb3,jla,yar,jlc,Nat.add_mul];omega
theorem yku {t:TxV} (h:TxC t):(ybv t).size <= 20001:=by
 have:=ykz h;rw [<- yar];simpa [ybv] using this
theorem yjY {ls:List TxV} {chain:Nat} (h:yat ls chain = 0) (ok:∀ t ∈ ls,t.Ok):ypd ls:=by
 obtain ⟨_,_,hn,hone⟩:=ycA h;have hT:∀ t ∈ ls,TxC t:=fun t ht=>(yhc (hone t ht)).1;constructor
 ·intro t ht;have hc:=hT t ht;obtain ⟨h1,h2⟩:=hc.rest;have h3:=hc.check.2;refine ⟨ok t ht,hc.kind,hc.acc,fun a ha=>by have:=(hc.pair a ha).2.1;omega,by omega,by rw [hc.enc];omega⟩
 ·have hf:=List.length_filter_le (fun t:TxV=>decide (t.kind = 0)) ls;have b1:=ydN sigT 64 ls fun t _=>by rw [<- yar,yeS];exact jle _
  have b2:=ydN (fun x:TxV=>x.dst) 20 ls fun t ht=>by rcases (hT t ht).dst with h | h <;> omega
  have b3:=ydN ybv 20001 ls fun t ht=>yku (hT t ht);have b4:=ygX (ls.map fun x:TxV=>(x.nonce:Int));have b5:=ygX (ls.map fun x:TxV=>(x.gas:Int));have b6:=yct (ls.map fun x:TxV=>decide (x.dst.size = 0));have b7:=yct (ls.map fun x:TxV=>decide (x.y = 1));have b8:=yct ((ls.filter fun x:TxV=>decide (x.kind = 0)).map fun x:TxV=>decide (x.chain ≠ 0));simp only [List.length_map] at b4 b5 b6 b7 b8;have e:∀ l:List UInt8,(⟨l.toArray⟩:ByteArray).size = l.length:=fun l=>by rw [<- yar]
  intro s hs;unfold yet at hs;simp only [ydM,je6,List.not_mem_nil,or_false] at hs;rcases hs with rfl | rfl | rfl | rfl | rfl | rfl | rfl | rfl
  ·rw [e];omega
  ·rw [e];omega
  ·rw [e];omega
  ·rw [e];omega
  ·rw [e];omega
  ·rw [e];omega
  ·rw [e];omega
  ·rw [e];show (yaD ((ls.filter fun x:TxV=>decide (x.kind = 0)).map fun x:TxV=>decide (x.chain ≠ 0))).length <= _;omega
theorem ydm (B:Nat) (A:Option Addr) (n c:Nat) (ls:List TxV) (chain:Nat) (w:World) (h:TxsR B w ls A n) (hB:B <= w.heap.size) (hn:n <= 9223372036854775807) (ok:∀ t ∈ ls,t.Ok) :
  Calls jq 11 #[.slice A n c,.int .u64 (chain:Int)] w fun e w'=>e = .returned (.tuple #[.string ⟨(ycb ls chain).toArray⟩,.int .i64 (yat ls chain)]) /\ w.grownBy w' none :=
 ykZ B A n c ls chain w h hB hn ok (fun h0=>yjY h0 ok) (fun h0=>(ycA h0).2.2.1)
def getA (s:ByteArray) (at_ n:Int) (chain:Nat):Except Int (List TxV × Nat):=if yd9 s at_ n chain = true then .error 1 else getR s at_.toNat n.toNat chain
def yp1 (s:ByteArray) (at_ n:Int) (chain:Nat) (w:World) (e:Ending) (w':World):Prop :=
 w.grownBy w' none /\ ((∃ E,E ≠ 0 /\ getA s at_ n chain = .error E /\ e = .returned (.tuple #[.slice none 0 0,.int .i64 0,.int .i64 E])) \/
  (∃ L T g,getA s at_ n chain = .ok (L,T) /\ yd9 s at_ n chain = false /\ (L.length:Int) = n /\ e = .returned (.tuple #[.slice (some ⟨g,0,none⟩) L.length L.length,.int .i64 (T:Int),.int .i64 0]) /\ w.heap.size <= g /\ TxsR w'.heap.size w' L (some ⟨g,0,none⟩) L.length /\ T <= s.size /\ (∀ t ∈ L,yeQ t) /\ Stand w.heap.size w' L g L.length))
theorem ymS {s:ByteArray} {at_ n:Int} {chain:Nat} (h:yd9 s at_ n chain = false):0 < chain /\ chain <= 4611686018427387904 /\ ∃ a m:Nat,at_ = (a:Int) /\ n = (m:Int) /\ m <= 512 /\ a <= s.size:=by
 unfold yd9 at h;simp only [Bool.or_eq_false_iff,decide_eq_false_iff_not] at h;obtain ⟨⟨⟨⟨⟨h1,h2⟩,h3⟩,h4⟩,h5⟩,h6⟩:=h;exact ⟨by omega,by omega,at_.toNat,n.toNat,by omega,by omega,by omega,by omega⟩
theorem ygF (s:ByteArray) (at_ n:Int) (chain:Nat) (w:World) (hs:s.size <= 1000000000000) :
  Calls jq 14 #[.string s,.int .i64 at_,.int .i64 n,.int .u64 (chain:Int)] w (yp1 s at_ n chain w):=by
 cases hb:yd9 s at_ n chain with
 | true =>
  refine (ypu s at_ n chain w hs hb).mono ?_;rintro e w' ⟨rfl,hg⟩;exact ⟨hg,.inl ⟨1,by decide,by unfold getA;rw [if_pos hb],rfl⟩⟩
 | false =>
  obtain ⟨h1,h2,a,m,rfl,rfl,h3,h4⟩:=ymS hb;refine (yoN s a m chain w hs h4 h3 h1 h2).mono ?_;rintro e w' ⟨hg,h⟩;have e0:getA s a m chain = getR s a m chain:=by unfold getA;rw [if_neg (by rw [hb];simp)];rfl
  refine ⟨hg,?_⟩;rw [e0];rcases h with h | ⟨L,T,g,g1,g2,g3,g4,g5,g6⟩
  ·exact .inl h
  ·have hl:=(ymw h4 h3 g1).2.1;subst hl;exact .inr ⟨L,T,g,g1,hb,rfl,g2,g3,g4,g5,g6⟩
theorem ygC {P:Program} {a:Act} {o:Oper} {W:World} (t t':TypeId) (x:Operand) (ho:o.op = .convert t t' x) (v r:Value) (hx:a.eval x = v) (h:(convert t t' v).run P W = .ok r W):(execOp a.eval o).run P W = .ok (.value r) W:=by
 unfold execOp;simp only [ho,hx,Sem.run_bind,Sem.run_pure,Result.andThen_ok,h]
theorem ykm (S:Nat -> Prop) (V:World) (p0 p1 p2:ByteArray) (hS:S V.heap.size) :
  SubV S (V.alloc (.cells #[.bool false,.string p0,.slice none 0 0,.bool false,.string p1,.slice none 0 0,.bool false,.string p2,.slice none 0 0] 106)) [txt p0,txt p1,txt p2] (.slice (some ⟨V.heap.size,0,none⟩) 3 3):=by
 have hb:=Blk.new V 106 #[.bool false,.string p0,.slice none 0 0,.bool false,.string p1,.slice none 0 0,.bool false,.string p2,.slice none 0 0];have hg:=yaa (jr V none) (.cells #[.bool false,.string p0,.slice none 0 0,.bool false,.string p1,.slice none 0 0,.bool false,.string p2,.slice none 0 0] 106);have hn:∀ W:World,SubV S W [] (.slice none 0 0):=fun W=>.mk [] none 0 [] (fun h=>by cases h) (fun i h=>by cases h);refine .mk [txt p0,txt p1,txt p2] (some ⟨V.heap.size,0,none⟩) 3 [.slice none 0 0,.slice none 0 0,.slice none 0 0] ?_ ?_
 ·intro _;refine ⟨V.heap.size,0,rfl,hS,fun i hi=>?_⟩
  match i,hi with
  | 0,_=>exact ⟨hb.cell 0,hb.cell 1,hb.cell 2⟩
  | 1,_=>exact ⟨hb.cell 3,hb.cell 4,hb.cell 5⟩
  | 2,_=>exact ⟨hb.cell 6,hb.cell 7,hb.cell 8⟩
 ·intro i hi
  match i,hi with
  | 0,_=>exact hn _
  | 1,_=>exact hn _
  | 2,_=>exact hn _
theorem ymy (S:Nat -> Prop) (V:World) (p0 p1 p2:ByteArray) (ys:List Itm) (A:Option Addr) (c:Nat) (hS:S V.heap.size) (h:SubV S V ys (.slice A ys.length c)) :
  SubV S (V.alloc (.cells #[.bool false,.string p0,.slice none 0 0,.bool false,.string p1,.slice none 0 0,.bool false,.string p2,.slice none 0 0,.bool true,.string ⟨#[]⟩,.slice A ys.length c] 106)) [txt p0,txt p1,txt p2,.mk true ⟨#[]⟩ ys] (.slice (some ⟨V.heap.size,0,none⟩) 4 4):=by
 have hb:=Blk.new V 106 #[.bool false,.string p0,.slice none 0 0,.bool false,.string p1,.slice none 0 0,.bool false,.string p2,.slice none 0 0,.bool true,.string ⟨#[]⟩,.slice A ys.length c];have hg:=yaa (jr V none) (.cells #[.bool false,.string p0,.slice none 0 0,.bool false,.string p1,.slice none 0 0,.bool false,.string p2,.slice none 0 0,.bool true,.string ⟨#[]⟩,.slice A ys.length c] 106);have hn:∀ W:World,SubV S W [] (.slice none 0 0):=fun W=>.mk [] none 0 [] (fun h=>by cases h) (fun i h=>by cases h);refine .mk [txt p0,txt p1,txt p2,.mk true ⟨#[]⟩ ys] (some ⟨V.heap.size,0,none⟩) 4 [.slice none 0 0,.slice none 0 0,.slice none 0 0,.slice A ys.length c] ?_ ?_
 ·intro _;refine ⟨V.heap.size,0,rfl,hS,fun i hi=>?_⟩
  match i,hi with
  | 0,_=>exact ⟨hb.cell 0,hb.cell 1,hb.cell 2⟩
  | 1,_=>exact ⟨hb.cell 3,hb.cell 4,hb.cell 5⟩
  | 2,_=>exact ⟨hb.cell 6,hb.cell 7,hb.cell 8⟩
  | 3,_=>exact ⟨hb.cell 9,hb.cell 10,hb.cell 11⟩
 ·intro i hi
  match i,hi with
  | 0,_=>exact hn _
  | 1,_=>exact hn _
  | 2,_=>exact hn _
  | 3,_=>exact SubV.grown h hg
theorem ym7 (S:Nat -> Prop) (V:World) (p0 p1 p2 p3:ByteArray) (ys:List Itm) (A:Option Addr) (c:Nat) (hS:S V.heap.size) (h:SubV S V ys (.slice A ys.length c)) :
  SubV S (V.alloc (.cells #[.bool false,.string p0,.slice none 0 0,.bool false,.string p1,.slice none 0 0,.bool false,.string p2,.slice none 0 0,.bool false,.string p3,.slice none 0 0,.bool true,.string ⟨#[]⟩,.slice A ys.length c] 106)) [txt p0,txt p1,txt p2,txt p3,.mk true ⟨#[]⟩ ys] (.slice (some ⟨V.heap.size,0,none⟩) 5 5):=by
 have hb:=Blk.new V 106 #[.bool false,.string p0,.slice none 0 0,.bool false,.string p1,.slice none 0 0,.bool false,.string p2,.slice none 0 0,.bool false,.string p3,.slice none 0 0,.bool true,.string ⟨#[]⟩,.slice A ys.length c];have hg:=yaa (jr V none) (.cells #[.bool false,.string p0,.slice none 0 0,.bool false,.string p1,.slice none 0 0,.bool false,.string p2,.slice none 0 0,.bool false,.string p3,.slice none 0 0,.bool true,.string ⟨#[]⟩,.slice A ys.length c] 106);have hn:∀ W:World,SubV S W [] (.slice none 0 0):=fun W=>.mk [] none 0 [] (fun h=>by cases h) (fun i h=>by cases h);refine .mk [txt p0,txt p1,txt p2,txt p3,.mk true ⟨#[]⟩ ys] (some ⟨V.heap.size,0,none⟩) 5 [.slice none 0 0,.slice none 0 0,.slice none 0 0,.slice none 0 0,.slice A ys.length c] ?_ ?_
 ·intro _;refine ⟨V.heap.size,0,rfl,hS,fun i hi=>?_⟩
  match i,hi with
  | 0,_=>exact ⟨hb.cell 0,hb.cell 1,hb.cell 2⟩
  | 1,_=>exact ⟨hb.cell 3,hb.cell 4,hb.cell 5⟩
  | 2,_=>exact ⟨hb.cell 6,hb.cell 7,hb.cell 8⟩
  | 3,_=>exact ⟨hb.cell 9,hb.cell 10,hb.cell 11⟩
  | 4,_=>exact ⟨hb.cell 12,hb.cell 13,hb.cell 14⟩
 ·intro i hi
  match i,hi with
  | 0,_=>exact hn _
  | 1,_=>exact hn _
  | 2,_=>exact hn _
  | 3,_=>exact hn _
  | 4,_=>exact SubV.grown h hg
theorem ygP (p:Nat) (hp:p < 115792089237316195423570985008687907853269984665640564039457584007913129639936) (w:World) :
  Calls jq 115 #[.agg #[.int .u64 (wp p 0:Nat),.int .u64 (wp p 1:Nat),.int .u64 (wp p 2:Nat),.int .u64 (wp p 3:Nat)]] w fun e w'=>e = .returned (.agg #[.bool false,.string (nB p),.slice none 0 0]) /\ w.grownBy w' none:=by
 have h:=ykf (wp p 0) (wp p 1) (wp p 2) (wp p 3) (yee p 0) (yee p 1) (yee p 2) (yee p 3) w;rw [yfc p (by simpa using hp)] at h;exact h
theorem yiq {a:Act} {o:Oper} {W:World} (len:Nat) (parts:Array (Nat × Operand)) (vals:Array (Nat × Value)) (cells:Array Value) (ho:o.op = .buildSlice 104 len parts) (hv:(parts.map fun (i,x)=>(i,a.eval x)) = vals) (h0:0 < len) (h1:len <= 100)
  (hf:Instr.fill (fun i=>some (i * 3,3)) ((Array.range (len * 3)).map ((Value.agg #[.bool false,.string .empty,.slice none 0 0]).cells[· % (Value.agg #[.bool false,.string .empty,.slice none 0 0]).cells.size]!)) vals.toList = some cells) :
  (execOp a.eval o).run jq W = .ok (.value (.slice (some ⟨W.heap.size,0,none⟩) len len)) (W.alloc (.cells cells 106)):=by
 obtain ⟨i0,hi,hz0,hzs,hzb⟩:=info_parts ybr;have h:=run_buildSlice (P:=jq) W 104 106 len vals cells i0 _ ja7 hi hz0 (by rw [hzs];omega) (by rw [hzs];omega) (by rw [hzs];exact hf);unfold execOp;simp only [ho,hv,Sem.run_bind,Sem.run_pure,h,Result.andThen_ok]
theorem ybC {P:Program} {a:Act} {o:Oper} {W:World} (x:Operand) (ho:o.op = .assign x) (v:Value) (hx:a.eval x = v):(execOp a.eval o).run P W = .ok (.value v) W:=by
 unfold execOp;simp only [ho,hx];rfl
theorem yor (w:World) (n:Nat) (b:UInt8) (hb:Value.int .u8 (n:Int) = .int .u8 (b.toNat:Int)):(w.alloc (.cells #[.int .u8 (n:Int)] 5)).ownsRow 0 5 1 (.slice (some ⟨w.heap.size,0,none⟩) 1 1) 1 (u8s [b]) :=
 ⟨rfl,.inr ⟨w.heap.size,1,_,rfl,Nat.zero_le _,heap_alloc_new w _,jle _,by decide,rfl,by simp [u8s,hb]⟩⟩
structure ReD (w:World) (t:TxV) (g:Nat) (ct:Array Value) (B:Nat) (pa:Option Addr) (na:Nat) (W:World):Prop where
 b:Blk W g 42 ct
 h:AccR B W t.acc pa na
 i:B <= W.heap.size
 g:w.grownBy W none
theorem ReD.kept {w:World} {t:TxV} {g:Nat} {ct:Array Value} {B:Nat} {pa:Option Addr} {na:Nat} {W W':World} (h:ReD w t g ct B pa na W) (hg:W.grownBy W' none):ReD w t g ct B pa na W' :=
 ⟨h.b.grown hg (by simp),h.h.grown hg h.i,jlt h.i hg.size,yab h.g hg (by simp)⟩
theorem ylD (t:TxV) (B:Nat) (pa:Option Addr) (na xa:Nat) (pb:Option Addr) (nb xb:Nat) (w:World) (hk:t.kind = 0 \/ t.kind = 1 \/ t.kind = 2) (hac:AccR B w t.acc pa na) (hB:B <= w.heap.size) (hna:na <= 16) (hke:∀ a ∈ t.acc,a.keys.length <= 1000)
  (hva:t.value < 115792089237316195423570985008687907853269984665640564039457584007913129639936) (hti:t.tip < 115792089237316195423570985008687907853269984665640564039457584007913129639936) (hpr:t.price < 115792089237316195423570985008687907853269984665640564039457584007913129639936)
  (hwt:wtF (yaT t) <= 1000000000) (hlen:(encB (yaT t)).length <= 1000000000) (he:encB (yaT t) = yau (yaT t)) :
  Calls jq 78 #[.agg (txC t (.slice pa na xa) (.slice pb nb xb))] w fun e w'=>e = .returned (.string ⟨(ybS t).toArray⟩) /\ w.grownBy w' none:=by
 have hla:=hac.1;have hb:=Blk.new w 42 (txC t (.slice pa na xa) (.slice pb nb xb));have hG:=yaa (jr w none) (.cells (txC t (.slice pa na xa) (.slice pb nb xb)) 42);have HENC:=jh (fun (V:World) sx (h:SubW V (yaT t).items sx)=>yju (yaT t) V sx h hwt);obtain ⟨RB,hRB⟩:∃ x:ByteArray,(⟨(yau (yaT t)).toArray⟩:ByteArray) = x:=⟨_,rfl⟩;rw [hRB] at HENC;have hsz:RB.size <= 1000000000:=by rw [<- hRB,ydA,<- he];exact hlen
 have hres:(⟨(ybS t).toArray⟩:ByteArray) = ⟨((if t.kind = 0 then [] else if t.kind = 1 then [1] else [2]) ++ yau (yaT t)).toArray⟩:=by unfold ybS;rw [he]
 have HWV:=jh (fun V=>ygP t.value hva V);have HWP:=jh (fun V=>ygP t.price hpr V);have HWT:=jh (fun V=>ygP t.tip hti V);have hiv:(yaT t).items = if t.kind = 0 then [txt (nB t.value),txt (nB t.price),txt t.data] else if t.kind = 1 then [txt (nB t.value),txt (nB t.price),txt t.data,accI t.acc] else [txt (nB t.value),txt (nB t.tip),txt (nB t.price),txt t.data,accI t.acc]:=rfl
 obtain ⟨NV,hNV⟩:∃ x,nB t.value = x:=⟨_,rfl⟩;obtain ⟨NP,hNP⟩:∃ x,nB t.price = x:=⟨_,rfl⟩;obtain ⟨NT,hNT⟩:∃ x,nB t.tip = x:=⟨_,rfl⟩;rw [hNV,hNP,hNT] at hiv;rw [hNV] at HWV;rw [hNP] at HWP;rw [hNT] at HWT;have HIV:=jh hiv;clear hNV hNP hNT hiv;have HVA:=jh hva;have HTI:=jh hti;have HPR:=jh hpr;have HKE:=jh hke;have HNA:=jh hna;have HSZ:=jh hsz;obtain ⟨OUT,hOUT⟩:∃ x:ByteArray,(⟨(ybS t).toArray⟩:ByteArray) = x:=⟨_,rfl⟩;rw [hOUT] at hres ⊢;have HRES:=jh hres;have HRB:=jh hRB;have HLA:=jh hla;have c0:(txC t (.slice pa na xa) (.slice pb nb xb))[0]? = some (.int .i64 t.kind):=rfl;have c3:(txC t (.slice pa na xa) (.slice pb nb xb))[3]? = some (.int .u64 (wp t.tip 0:Nat)):=rfl;have c4:(txC t (.slice pa na xa) (.slice pb nb xb))[4]? = some (.int .u64 (wp t.tip 1:Nat)):=rfl;have c5:(txC t (.slice pa na xa) (.slice pb nb xb))[5]? = some (.int .u64 (wp t.tip 2:Nat)):=rfl;have c6:(txC t (.slice pa na xa) (.slice pb nb xb))[6]? = some (.int .u64 (wp t.tip 3:Nat)):=rfl;have c7:(txC t (.slice pa na xa) (.slice pb nb xb))[7]? = some (.int .u64 (wp t.price 0:Nat)):=rfl;have c8:(txC t (.slice pa na xa) (.slice pb nb xb))[8]? = some (.int .u64 (wp t.price 1:Nat)):=rfl;have c9:(txC t (.slice pa na xa) (.slice pb nb xb))[9]? = some (.int .u64 (wp t.price 2:Nat)):=rfl;have c10:(txC t (.slice pa na xa) (.slice pb nb xb))[10]? = some (.int .u64 (wp t.price 3:Nat)):=rfl;have c13:(txC t (.slice pa na xa) (.slice pb nb xb))[13]? = some (.int .u64 (wp t.value 0:Nat)):=rfl;have c14:(txC t (.slice pa na xa) (.slice pb nb xb))[14]? = some (.int .u64 (wp t.value 1:Nat)):=rfl;have c15:(txC t (.slice pa na xa) (.slice pb nb xb))[15]? = some (.int .u64 (wp t.value 2:Nat)):=rfl;have c16:(txC t (.slice pa na xa) (.slice pb nb xb))[16]? = some (.int .u64 (wp t.value 3:Nat)):=rfl;have c17:(txC t (.slice pa na xa) (.slice pb nb xb))[17]? = some (.string t.data):=rfl;have c18:(txC t (.slice pa na xa) (.slice pb nb xb))[18]? = some (.slice pa na xa):=rfl;have hi:yaT t = .mk true ⟨#[]⟩ (yaT t).items:=rfl;obtain ⟨ct,hct⟩:∃ x,txC t (.slice pa na xa) (.slice pb nb xb) = x:=⟨_,rfl⟩;rw [hct] at hb hG c0 c3 c4 c5 c6 c7 c8 c9 c10 c13 c14 c15 c16 c17 c18 ⊢;have H:ReD w t w.heap.size ct B pa na (w.alloc (.cells ct 42)):=⟨hb,hac.grown hG hB,jlt hB hG.size,hG⟩;have CC:=jh c0;have C3:=jh c3;have C4:=jh c4;have C5:=jh c5;have C6:=jh c6;have C7:=jh c7;have C8:=jh c8;have C9:=jh c9;have C10:=jh c10;have C13:=jh c13;have C14:=jh c14;have C15:=jh c15;have C16:=jh c16;have C17:=jh c17;have C18:=jh c18;clear hOUT;clear hla hb hG hRB hsz hres hva hti hpr hke hna hct hac hB he hlen hwt c0 c3 c4 c5 c6 c7 c8 c9 c10 c13 c14 c15 c16 c17 c18 hi;go_enter Tryz.func78,Tryz.ntmps78
 go_upto_region 1 with (fail)
 obtain ⟨g,hg⟩:∃ x,w.heap.size = x:=⟨_,rfl⟩;rw [hg] at H ⊢;clear hg;generalize w.alloc (.cells ct 42) = w1 at *;refine jwl ?_;refine zg (.pointer (some ⟨g,13,none⟩)) ?_;simp only [jp,jb,jz,js];refine yac rfl (.agg #[.int .u64 (wp t.value 0:Nat),.int .u64 (wp t.value 1:Nat),.int .u64 (wp t.value 2:Nat),.int .u64 (wp t.value 3:Nat)]) (yaA _ rfl rfl ((H.b.cell 13).trans C13.out) ((H.b.cell 14).trans C14.out) ((H.b.cell 15).trans C15.out) ((H.b.cell 16).trans C16.out)) ?_;simp only [jp,jb,jz,js];refine yai rfl 115 #[.agg #[.int .u64 (wp t.value 0:Nat),.int .u64 (wp t.value 1:Nat),.int .u64 (wp t.value 2:Nat),.int .u64 (wp t.value 3:Nat)]] (yak _ (.tmp 7) _ rfl _ rfl (jeo Tryz.func115 (by kernel_rfl) rfl _ _)) ((HWV.out w1).mono ?_);rintro e w2 ⟨rfl,hg⟩;replace H:=H.kept hg;clear hg;refine ⟨_,rfl,?_⟩;simp only [jp,jb,jz,js];refine yac rfl (.pointer (some ⟨w2.heap.size,0,none⟩)) (w':=w2.alloc (.cells #[.bool false,.string ⟨#[]⟩,.slice none 0 0] 106)) (by go_simp <;> rfl) ?_;simp only [jp,jb,jz,js];refine jsw rfl 106 (.tmp 3) (.tmp 8) rfl w2.heap.size #[.bool false,.string NV,.slice none 0 0] rfl rfl 106 #[.bool false,.string ⟨#[]⟩,.slice none 0 0] (Blk.new w2 _ _) (by kernel_rfl) rfl (by simp [ja2]) ?_;(try simp only [jp,jb,jz,js]);rw [World.setRow_alloc_new];have hga:=yaa (jr w2 none) (.cells #[.bool false,.string NV,.slice none 0 0] 106);have hbv:=Blk.new w2 106 #[.bool false,.string NV,.slice none 0 0];replace H:=H.kept hga;obtain ⟨gv,hge⟩:∃ x,w2.heap.size = x:=⟨_,rfl⟩;rw [hge] at hbv ⊢;clear hge hga;generalize w2.alloc (.cells #[.bool false,.string NV,.slice none 0 0] 106) = w3 at *;refine jwn ?_;go_upto_region 2 with (fail)
 refine jwl ?_;refine zg (.pointer (some ⟨g,7,none⟩)) ?_;simp only [jp,jb,jz,js];refine yac rfl (.agg #[.int .u64 (wp t.price 0:Nat),.int .u64 (wp t.price 1:Nat),.int .u64 (wp t.price 2:Nat),.int .u64 (wp t.price 3:Nat)]) (yaA _ rfl rfl ((H.b.cell 7).trans C7.out) ((H.b.cell 8).trans C8.out) ((H.b.cell 9).trans C9.out) ((H.b.cell 10).trans C10.out)) ?_;simp only [jp,jb,jz,js];refine yai rfl 115 #[.agg #[.int .u64 (wp t.price 0:Nat),.int .u64 (wp t.price 1:Nat),.int .u64 (wp t.price 2:Nat),.int .u64 (wp t.price 3:Nat)]] (yak _ (.tmp 10) _ rfl _ rfl (jeo Tryz.func115 (by kernel_rfl) rfl _ _)) ((HWP.out w3).mono ?_);rintro e w4 ⟨rfl,hg⟩;replace H:=H.kept hg;replace hbv:=hbv.grown hg (by simp);clear hg;refine ⟨_,rfl,?_⟩;simp only [jp,jb,jz,js];refine yac rfl (.pointer (some ⟨w4.heap.size,0,none⟩)) (w':=w4.alloc (.cells #[.bool false,.string ⟨#[]⟩,.slice none 0 0] 106)) (by go_simp <;> rfl) ?_;simp only [jp,jb,jz,js];refine jsw rfl 106 (.tmp 4) (.tmp 11) rfl w4.heap.size #[.bool false,.string NP,.slice none 0 0] rfl rfl 106 #[.bool false,.string ⟨#[]⟩,.slice none 0 0] (Blk.new w4 _ _) (by kernel_rfl) rfl (by simp [ja2]) ?_;(try simp only [jp,jb,jz,js]);rw [World.setRow_alloc_new];have hga:=yaa (jr w4 none) (.cells #[.bool false,.string NP,.slice none 0 0] 106);have hbp:=Blk.new w4 106 #[.bool false,.string NP,.slice none 0 0];replace H:=H.kept hga;replace hbv:=hbv.grown hga (by simp);obtain ⟨gp,hge⟩:∃ x,w4.heap.size = x:=⟨_,rfl⟩;rw [hge] at hbp ⊢;clear hge hga;generalize w4.alloc (.cells #[.bool false,.string NP,.slice none 0 0] 106) = w5 at *;refine jwn ?_;go_upto_region 3 with (fail)
 refine jwl ?_;refine zg (.pointer (some ⟨g,17,none⟩)) ?_;simp only [jp,jb,jz,js];refine yac rfl (.string t.data) (yaf 9 _ rfl _ rfl _ _ ja9 rfl ((H.b.cell 17).trans C17.out)) ?_;simp only [jp,jb,jz,js];refine yai rfl 116 #[.string t.data] (yak _ (.tmp 13) _ rfl _ rfl (jeo Tryz.func116 (by kernel_rfl) rfl _ _)) ((ydC t.data w5).mono ?_);rintro e w6 ⟨rfl,hg⟩;replace H:=H.kept hg;replace hbv:=hbv.grown hg (by simp);replace hbp:=hbp.grown hg (by simp);clear hg;refine ⟨_,rfl,?_⟩;simp only [jp,jb,jz,js];refine yac rfl (.pointer (some ⟨w6.heap.size,0,none⟩)) (w':=w6.alloc (.cells #[.bool false,.string ⟨#[]⟩,.slice none 0 0] 106)) (by go_simp <;> rfl) ?_;simp only [jp,jb,jz,js];refine jsw rfl 106 (.tmp 5) (.tmp 14) rfl w6.heap.size #[.bool false,.string t.data,.slice none 0 0] rfl rfl 106 #[.bool false,.string ⟨#[]⟩,.slice none 0 0] (Blk.new w6 _ _) (by kernel_rfl) rfl (by simp [ja2]) ?_;(try simp only [jp,jb,jz,js]);rw [World.setRow_alloc_new];have hga:=yaa (jr w6 none) (.cells #[.bool false,.string t.data,.slice none 0 0] 106);have hbd:=Blk.new w6 106 #[.bool false,.string t.data,.slice none 0 0];replace H:=H.kept hga;replace hbv:=hbv.grown hga (by simp);replace hbp:=hbp.grown hga (by simp);obtain ⟨gd,hge⟩:∃ x,w6.heap.size = x:=⟨_,rfl⟩;rw [hge] at hbd ⊢;clear hge hga;generalize w6.alloc (.cells #[.bool false,.string t.data,.slice none 0 0] 106) = w7 at *;refine jwn ?_;have c0:=(H.b.cell 0).trans CC.out;obtain ⟨K,hK⟩:∃ x,t.kind = x:=⟨_,rfl⟩;rw [hK] at c0 hk;have HK:=jh hK;clear hK;rcases hk with h | h | h
 ·subst h;have hit:(yaT t).items = [txt NV,txt NP,txt t.data]:=by rw [HIV.out,if_pos HK.out]
  go_upto_region 5 with (fail)
  clear c0;refine jwl ?_;refine wpList_load_row rfl 106 (.tmp 3) rfl gv rfl 106 #[.bool false,.string NV,.slice none 0 0] (0,0) _ hbv Tryz.underlying106 rfl (by kernel_rfl) ?_;simp only [jp,jb,jz,js];refine wpList_load_row rfl 106 (.tmp 4) rfl gp rfl 106 #[.bool false,.string NP,.slice none 0 0] (0,0) _ hbp Tryz.underlying106 rfl (by kernel_rfl) ?_;simp only [jp,jb,jz,js];refine wpList_load_row rfl 106 (.tmp 5) rfl gd rfl 106 #[.bool false,.string t.data,.slice none 0 0] (0,0) _ hbd Tryz.underlying106 rfl (by kernel_rfl) ?_;simp only [jp,jb,jz,js];refine yac rfl (.slice (some ⟨w7.heap.size,0,none⟩) 3 3) (w':=w7.alloc (.cells #[.bool false,.string NV,.slice none 0 0,.bool false,.string NP,.slice none 0 0,.bool false,.string t.data,.slice none 0 0] 106)) (by go_simp <;> rfl) ?_;simp only [jp,jb,jz,js];have hsub:=(ykm (fun _=>True) w7 NV NP t.data trivial).here;have hga:=yaa (jr w7 none) (.cells #[.bool false,.string NV,.slice none 0 0,.bool false,.string NP,.slice none 0 0,.bool false,.string t.data,.slice none 0 0] 106);have HG:=jh (yab H.g hga (by simp));rw [<- hit] at hsub;obtain ⟨q,hq⟩:∃ x,w7.heap.size = x:=⟨_,rfl⟩;rw [hq] at hsub ⊢;clear hga hq;generalize w7.alloc (.cells #[.bool false,.string NV,.slice none 0 0,.bool false,.string NP,.slice none 0 0,.bool false,.string t.data,.slice none 0 0] 106) = y1 at *;refine yai rfl 118 #[.slice (some ⟨q,0,none⟩) 3 3] (yak _ (.tmp 21) _ rfl _ rfl (jeo Tryz.func118 (by kernel_rfl) rfl _ _)) ((ydI _ ⟨_,_,_,rfl⟩ y1).mono ?_);rintro e y2 ⟨rfl,hg⟩;have HG:=jh (yab HG.out hg (by simp));replace hsub:=hsub.grown hg;clear hg;refine ⟨_,rfl,?_⟩;simp only [jp,jb,jz,js];refine yai rfl 117 #[.agg #[.bool true,.string ⟨#[]⟩,.slice (some ⟨q,0,none⟩) 3 3]] (yak _ (.tmp 22) _ rfl _ rfl (jeo Tryz.func117 (by kernel_rfl) rfl _ _)) ((HENC.out y2 _ hsub).mono ?_);rintro e y3 ⟨rfl,hg⟩;have HG:=jh (yab HG.out hg (by simp));clear hg hsub;refine ⟨_,rfl,?_⟩;simp only [jp,jb,jz,js];refine zg (.string RB) ?_;simp only [jp,jb,jz,js];refine jwn ?_;go_wp2_with fail
  go_ret
  exact ⟨by rw [HRES.out,HK.out,if_pos rfl,List.nil_append,HRB.out];rfl,HG.out⟩
 ·subst h;have hit:(yaT t).items = [txt NV,txt NP,txt t.data,accI t.acc]:=by rw [HIV.out];rw [if_neg (by rw [HK.out];decide),if_pos HK.out]
  go_upto_region 7 with (fail)
  clear c0;have hw:ReD w t g ct B pa na w7.drew:=H.kept (ya2 (jr w7 none));replace hbv:Blk w7.drew gv 106 #[.bool false,.string NV,.slice none 0 0]:=hbv;replace hbp:Blk w7.drew gp 106 #[.bool false,.string NP,.slice none 0 0]:=hbp;replace hbd:Blk w7.drew gd 106 #[.bool false,.string t.data,.slice none 0 0]:=hbd;have HD:=jh hw;have HBv:=jh hbv;have HBp:=jh hbp;have HBd:=jh hbd;clear hw H hbv hbp hbd
  refine yed [27,28,29,30,31,32,33,34,35,36,37,38,2] [none,some (.string ⟨#[1]⟩),some (.agg #[.bool false,.string NV,.slice none 0 0]),some (.agg #[.bool false,.string NP,.slice none 0 0]),some (.agg #[.bool false,.string t.data,.slice none 0 0]),some (.pointer (some ⟨g,18,none⟩)),some (.slice pa na xa),none,none,none,some (.string RB),some (.string (⟨#[1]⟩ ++ RB)),some (.string (⟨#[1]⟩ ++ RB))] (fun i x u=>match i with
   | 0=>u.ownsRow 0 5 1 x 1 (u8s [1])
   | 7=>∃ A c,x = .agg #[.bool true,.string ⟨#[]⟩,.slice A na c] /\ SubV (fun _=>True) u (t.acc.map ybt) (.slice A na c)
   | 8=>∃ q:Nat,x = .slice (some ⟨q,0,none⟩) 4 4 /\ SubW u (yaT t).items (.slice (some ⟨q,0,none⟩) 4 4)
   | 9=>∃ q:Nat,x = .agg #[.bool true,.string ⟨#[]⟩,.slice (some ⟨q,0,none⟩) 4 4] /\ SubW u (yaT t).items (.slice (some ⟨q,0,none⟩) 4 4)
   | _=>False) (aF:=_) (by simp only [putX,Option.getD_some,Option.getD_none,jp,jb2,je0,List.set_cons_succ] <;> rfl) ?_ ?_ ?_
  ·intro i x u u' h hg
   match i,h with
   | 0,h=>exact ydF h hg (by simp)
   | 7,h=>exact by obtain ⟨A,c,h1,h2⟩:=h;exact ⟨A,c,h1,SubV.grown h2 hg⟩
   | 8,h=>exact by obtain ⟨q,h1,h2⟩:=h;exact ⟨q,h1,h2.grown hg⟩
   | 9,h=>exact by obtain ⟨q,h1,h2⟩:=h;exact ⟨q,h1,h2.grown hg⟩
  ·refine ⟨?_,?_,?_,?_,?_,?_,?_,?_,?_,?_,?_,?_,?_,trivial⟩
   ·intro a u hgu hfar hneed;exact ydG rfl rfl (.slice (some ⟨u.heap.size,0,none⟩) 1 1) (w':=u.alloc (.cells #[.int .u8 1] 5)) (by go_simp <;> rfl) ⟨yaa (jr u none) _,_,rfl,yor u 1 1 rfl⟩
   ·refine .inr ?_;intro a u hgu hfar hneed;obtain ⟨x0,hx0,hv0⟩:=hneed 0 (by kernel_rfl);exact ydG rfl rfl (.string ⟨#[1]⟩) (ygC 43 9 (.tmp 27) rfl _ _ (ybD hx0) (yc8 hv0)) ⟨jr u none,_,rfl,rfl⟩
   ·exact opF fun u hu=>yaq rfl rfl 106 _ _ (HBv.out.grown hu (by simp)) Tryz.underlying106 rfl (by kernel_rfl)
   ·exact opF fun u hu=>yaq rfl rfl 106 _ _ (HBp.out.grown hu (by simp)) Tryz.underlying106 rfl (by kernel_rfl)
   ·exact opF fun u hu=>yaq rfl rfl 106 _ _ (HBd.out.grown hu (by simp)) Tryz.underlying106 rfl (by kernel_rfl)
   ·exact opF fun u hu=>yaH 42 (.tmp 1) 9 rfl _ _ rfl (by go_simp <;> rfl)
   ·exact opF fun u hu=>yaf 39 (.tmp 32) rfl _ rfl _ _ Tryz.underlying39 rfl (((HD.out.b.grown hu (by simp)).cell 18).trans C18.out)
   ·intro a u hgu hfar hneed;obtain ⟨x6,hx6,hv6⟩:=hneed 6 (by kernel_rfl);have e6:a.eval (.tmp 33) = .slice pa na xa:=(ybD hx6).trans hv6;have hdu:=HD.out.kept hgu;refine ydH rfl rfl 119 #[.slice pa na xa] (yak _ (.tmp 33) _ rfl _ e6 (jeo Tryz.func119 (by kernel_rfl) rfl _ _)) ((yfO B pa na xa t.acc u hdu.h hdu.i (jlt HNA.out (by decide)) HKE.out).mono ?_);rintro e u2 ⟨A,c,rfl,hs,hg⟩;exact ⟨_,rfl,hg,_,rfl,A,c,rfl,hs.weak fun _ _=>trivial⟩
   ·intro a u hgu hfar hneed;obtain ⟨x2,hx2,hv2⟩:=hneed 2 (by kernel_rfl);have e2:a.eval (.tmp 29) = .agg #[.bool false,.string NV,.slice none 0 0]:=(ybD hx2).trans hv2;obtain ⟨x3,hx3,hv3⟩:=hneed 3 (by kernel_rfl);have e3:a.eval (.tmp 30) = .agg #[.bool false,.string NP,.slice none 0 0]:=(ybD hx3).trans hv3;obtain ⟨x4,hx4,hv4⟩:=hneed 4 (by kernel_rfl);have e4:a.eval (.tmp 31) = .agg #[.bool false,.string t.data,.slice none 0 0]:=(ybD hx4).trans hv4;obtain ⟨xa9,hxa,A,c,hva,hs⟩:=hneed 7 (by kernel_rfl);have ea:a.eval (.tmp 34) = .agg #[.bool true,.string ⟨#[]⟩,.slice A na c]:=(ybD hxa).trans hva;have hlm:(t.acc.map ybt).length = na:=by rw [List.length_map];exact HLA.out
    rw [<- hlm] at hs;have hsub:=(ymy (fun _=>True) u NV NP t.data (t.acc.map ybt) A c trivial hs).here;rw [hlm] at hsub;refine ydG rfl rfl (.slice (some ⟨u.heap.size,0,none⟩) 4 4) (yiq 4 #[(0,.tmp 29),(1,.tmp 30),(2,.tmp 31),(3,.tmp 34)] #[(0,.agg #[.bool false,.string NV,.slice none 0 0]),(1,.agg #[.bool false,.string NP,.slice none 0 0]),(2,.agg #[.bool false,.string t.data,.slice none 0 0]),(3,.agg #[.bool true,.string ⟨#[]⟩,.slice A na c])] #[.bool false,.string NV,.slice none 0 0,.bool false,.string NP,.slice none 0 0,.bool false,.string t.data,.slice none 0 0,.bool true,.string ⟨#[]⟩,.slice A na c] rfl (by simp [e2,e3,e4,ea]) (by decide) (by decide) (by kernel_rfl)) ⟨yaa (jr u none) _,_,rfl,u.heap.size,rfl,?_⟩;rw [hit];exact hsub
   ·intro a u hgu hfar hneed;obtain ⟨x9,hx9,q,hv9,hs⟩:=hneed 8 (by kernel_rfl);refine ydH rfl rfl 118 #[.slice (some ⟨q,0,none⟩) 4 4] (yak _ (.tmp 35) _ rfl _ ((ybD hx9).trans hv9) (jeo Tryz.func118 (by kernel_rfl) rfl _ _)) ((ydI _ ⟨_,_,_,rfl⟩ u).mono ?_);rintro e u2 ⟨rfl,hg⟩;exact ⟨_,rfl,hg,_,rfl,q,rfl,hs.grown hg⟩
   ·refine .inr ?_;intro a u hgu hfar hneed;obtain ⟨x9,hx9,q,hv9,hs⟩:=hneed 9 (by kernel_rfl);refine ydH rfl rfl 117 #[.agg #[.bool true,.string ⟨#[]⟩,.slice (some ⟨q,0,none⟩) 4 4]] (yak _ (.tmp 36) _ rfl _ ((ybD hx9).trans hv9) (jeo Tryz.func117 (by kernel_rfl) rfl _ _)) ((HENC.out u _ hs).mono ?_);rintro e u2 ⟨rfl,hg⟩;exact ⟨_,rfl,hg,_,rfl,rfl⟩
   ·exact opF fun u hu=>ybi _ _ rfl _ _ _ rfl rfl (by have:=HSZ.out;show 1 + _ <= _;omega) rfl
   ·exact opF fun u hu=>ybC (.tmp 38) rfl _ rfl
  ·intro X u hgu hX;have HGU:=jh hgu;clear hX hgu;simp only [putX,Option.getD_some,Option.getD_none,jp,jb2,je0,List.set_cons_succ];have HG:=jh (yab HD.out.g HGU.out (by simp));clear HGU;go_wp2_with fail
   go_ret
   have hout:OUT = ⟨#[1]⟩ ++ RB:=by rw [HRES.out,HK.out,if_neg (by decide),if_pos rfl,<- HRB.out];exact ybM (by simp)
   exact ⟨by rw [hout];rfl,HG.out⟩
 ·subst h;have hit:(yaT t).items = [txt NV,txt NT,txt NP,txt t.data,accI t.acc]:=by rw [HIV.out];rw [if_neg (by rw [HK.out];decide),if_neg (by rw [HK.out];decide)]
  go_upto_region 8 with (fail)
  clear c0;have hw:ReD w t g ct B pa na w7.drew:=H.kept (ya2 (jr w7 none));replace hbv:Blk w7.drew gv 106 #[.bool false,.string NV,.slice none 0 0]:=hbv;replace hbp:Blk w7.drew gp 106 #[.bool false,.string NP,.slice none 0 0]:=hbp;replace hbd:Blk w7.drew gd 106 #[.bool false,.string t.data,.slice none 0 0]:=hbd;have HD:=jh hw;have HBv:=jh hbv;have HBp:=jh hbp;have HBd:=jh hbd;clear hw H hbv hbp hbd
  refine yed [39,40,41,42,43,44,45,46,47,48,49,50,51,52,53,2] [none,some (.string ⟨#[2]⟩),some (.agg #[.bool false,.string NV,.slice none 0 0]),some (.pointer (some ⟨g,3,none⟩)),some (.agg #[.int .u64 (wp t.tip 0:Nat),.int .u64 (wp t.tip 1:Nat),.int .u64 (wp t.tip 2:Nat),.int .u64 (wp t.tip 3:Nat)]),some (.agg #[.bool false,.string NT,.slice none 0 0]),some (.agg #[.bool false,.string NP,.slice none 0 0]),some (.agg #[.bool false,.string t.data,.slice none 0 0]),some (.pointer (some ⟨g,18,none⟩)),some (.slice pa na xa),none,none,none,some (.string RB),some (.string (⟨#[2]⟩ ++ RB)),some (.string (⟨#[2]⟩ ++ RB))] (fun i x u=>match i with
   | 0=>u.ownsRow 0 5 1 x 1 (u8s [2])
   | 10=>∃ A c,x = .agg #[.bool true,.string ⟨#[]⟩,.slice A na c] /\ SubV (fun _=>True) u (t.acc.map ybt) (.slice A na c)
   | 11=>∃ q:Nat,x = .slice (some ⟨q,0,none⟩) 5 5 /\ SubW u (yaT t).items (.slice (some ⟨q,0,none⟩) 5 5)
   | 12=>∃ q:Nat,x = .agg #[.bool true,.string ⟨#[]⟩,.slice (some ⟨q,0,none⟩) 5 5] /\ SubW u (yaT t).items (.slice (some ⟨q,0,none⟩) 5 5)
   | _=>False) (aF:=_) (by simp only [putX,Option.getD_some,Option.getD_none,jp,jb2,je0,List.set_cons_succ] <;> rfl) ?_ ?_ ?_
  ·intro i x u u' h hg
   match i,h with
   | 0,h=>exact ydF h hg (by simp)
   | 10,h=>exact by obtain ⟨A,c,h1,h2⟩:=h;exact ⟨A,c,h1,SubV.grown h2 hg⟩
   | 11,h=>exact by obtain ⟨q,h1,h2⟩:=h;exact ⟨q,h1,h2.grown hg⟩
   | 12,h=>exact by obtain ⟨q,h1,h2⟩:=h;exact ⟨q,h1,h2.grown hg⟩
  ·refine ⟨?_,?_,?_,?_,?_,?_,?_,?_,?_,?_,?_,?_,?_,?_,?_,?_,trivial⟩
   ·intro a u hgu hfar hneed;exact ydG rfl rfl (.slice (some ⟨u.heap.size,0,none⟩) 1 1) (w':=u.alloc (.cells #[.int .u8 2] 5)) (by go_simp <;> rfl) ⟨yaa (jr u none) _,_,rfl,yor u 2 2 rfl⟩
   ·refine .inr ?_;intro a u hgu hfar hneed;obtain ⟨x0,hx0,hv0⟩:=hneed 0 (by kernel_rfl);exact ydG rfl rfl (.string ⟨#[2]⟩) (ygC 43 9 (.tmp 39) rfl _ _ (ybD hx0) (yc8 hv0)) ⟨jr u none,_,rfl,rfl⟩
   ·exact opF fun u hu=>yaq rfl rfl 106 _ _ (HBv.out.grown hu (by simp)) Tryz.underlying106 rfl (by kernel_rfl)
   ·exact opF fun u hu=>yaH 42 (.tmp 1) 3 rfl _ _ rfl (by go_simp <;> rfl)
   ·exact opF fun u hu=>yaA _ rfl rfl (((HD.out.b.grown hu (by simp)).cell 3).trans C3.out) (((HD.out.b.grown hu (by simp)).cell 4).trans C4.out) (((HD.out.b.grown hu (by simp)).cell 5).trans C5.out) (((HD.out.b.grown hu (by simp)).cell 6).trans C6.out)
   ·exact opC 115 #[.agg #[.int .u64 (wp t.tip 0:Nat),.int .u64 (wp t.tip 1:Nat),.int .u64 (wp t.tip 2:Nat),.int .u64 (wp t.tip 3:Nat)]] (fun u=>yak _ (.tmp 43) _ rfl _ rfl (jeo Tryz.func115 (by kernel_rfl) rfl _ _)) (fun u hu=>HWT.out u)
   ·exact opF fun u hu=>yaq rfl rfl 106 _ _ (HBp.out.grown hu (by simp)) Tryz.underlying106 rfl (by kernel_rfl)
   ·exact opF fun u hu=>yaq rfl rfl 106 _ _ (HBd.out.grown hu (by simp)) Tryz.underlying106 rfl (by kernel_rfl)
   ·exact opF fun u hu=>yaH 42 (.tmp 1) 9 rfl _ _ rfl (by go_simp <;> rfl)
   ·exact opF fun u hu=>yaf 39 (.tmp 47) rfl _ rfl _ _ Tryz.underlying39 rfl (((HD.out.b.grown hu (by simp)).cell 18).trans C18.out)
   ·intro a u hgu hfar hneed;obtain ⟨x9,hx9,hv9⟩:=hneed 9 (by kernel_rfl);have e9:a.eval (.tmp 48) = .slice pa na xa:=(ybD hx9).trans hv9;have hdu:=HD.out.kept hgu;refine ydH rfl rfl 119 #[.slice pa na xa] (yak _ (.tmp 48) _ rfl _ e9 (jeo Tryz.func119 (by kernel_rfl) rfl _ _)) ((yfO B pa na xa t.acc u hdu.h hdu.i (jlt HNA.out (by decide)) HKE.out).mono ?_);rintro e u2 ⟨A,c,rfl,hs,hg⟩;exact ⟨_,rfl,hg,_,rfl,A,c,rfl,hs.weak fun _ _=>trivial⟩
   ·intro a u hgu hfar hneed;obtain ⟨x2,hx2,hv2⟩:=hneed 2 (by kernel_rfl);have e2:a.eval (.tmp 41) = .agg #[.bool false,.string NV,.slice none 0 0]:=(ybD hx2).trans hv2;obtain ⟨x5,hx5,hv5⟩:=hneed 5 (by kernel_rfl);have e5:a.eval (.tmp 44) = .agg #[.bool false,.string NT,.slice none 0 0]:=(ybD hx5).trans hv5;obtain ⟨x6,hx6,hv6⟩:=hneed 6 (by kernel_rfl);have e6:a.eval (.tmp 45) = .agg #[.bool false,.string NP,.slice none 0 0]:=(ybD hx6).trans hv6;obtain ⟨x7,hx7,hv7⟩:=hneed 7 (by kernel_rfl);have e7:a.eval (.tmp 46) = .agg #[.bool false,.string t.data,.slice none 0 0]:=(ybD hx7).trans hv7;obtain ⟨xa9,hxa,A,c,hva,hs⟩:=hneed 10 (by kernel_rfl);have ea:a.eval (.tmp 49) = .agg #[.bool true,.string ⟨#[]⟩,.slice A na c]:=(ybD hxa).trans hva;have hlm:(t.acc.map ybt).length = na:=by rw [List.length_map];exact HLA.out
    rw [<- hlm] at hs;have hsub:=(ym7 (fun _=>True) u NV NT NP t.data (t.acc.map ybt) A c trivial hs).here;rw [hlm] at hsub;refine ydG rfl rfl (.slice (some ⟨u.heap.size,0,none⟩) 5 5) (yiq 5 #[(0,.tmp 41),(1,.tmp 44),(2,.tmp 45),(3,.tmp 46),(4,.tmp 49)] #[(0,.agg #[.bool false,.string NV,.slice none 0 0]),(1,.agg #[.bool false,.string NT,.slice none 0 0]),(2,.agg #[.bool false,.string NP,.slice none 0 0]),(3,.agg #[.bool false,.string t.data,.slice none 0 0]),(4,.agg #[.bool true,.string ⟨#[]⟩,.slice A na c])] #[.bool false,.string NV,.slice none 0 0,.bool false,.string NT,.slice none 0 0,.bool false,.string NP,.slice none 0 0,.bool false,.string t.data,.slice none 0 0,.bool true,.string ⟨#[]⟩,.slice A na c] rfl (by simp [e2,e5,e6,e7,ea]) (by decide) (by decide) (by kernel_rfl)) ⟨yaa (jr u none) _,_,rfl,u.heap.size,rfl,?_⟩;rw [hit];exact hsub
   ·intro a u hgu hfar hneed;obtain ⟨x9,hx9,q,hv9,hs⟩:=hneed 11 (by kernel_rfl);refine ydH rfl rfl 118 #[.slice (some ⟨q,0,none⟩) 5 5] (yak _ (.tmp 50) _ rfl _ ((ybD hx9).trans hv9) (jeo Tryz.func118 (by kernel_rfl) rfl _ _)) ((ydI _ ⟨_,_,_,rfl⟩ u).mono ?_);rintro e u2 ⟨rfl,hg⟩;exact ⟨_,rfl,hg,_,rfl,q,rfl,hs.grown hg⟩
   ·refine .inr ?_;intro a u hgu hfar hneed;obtain ⟨x9,hx9,q,hv9,hs⟩:=hneed 12 (by kernel_rfl);refine ydH rfl rfl 117 #[.agg #[.bool true,.string ⟨#[]⟩,.slice (some ⟨q,0,none⟩) 5 5]] (yak _ (.tmp 51) _ rfl _ ((ybD hx9).trans hv9) (jeo Tryz.func117 (by kernel_rfl) rfl _ _)) ((HENC.out u _ hs).mono ?_);rintro e u2 ⟨rfl,hg⟩;exact ⟨_,rfl,hg,_,rfl,rfl⟩
   ·exact opF fun u hu=>ybi _ _ rfl _ _ _ rfl rfl (by have:=HSZ.out;show 1 + _ <= _;omega) rfl
   ·exact opF fun u hu=>ybC (.tmp 53) rfl _ rfl
  ·intro X u hgu hX;have HGU:=jh hgu;clear hX hgu;simp only [putX,Option.getD_some,Option.getD_none,jp,jb2,je0,List.set_cons_succ];have HG:=jh (yab HD.out.g HGU.out (by simp));clear HGU;go_wp2_with fail
   go_ret
   have hout:OUT = ⟨#[2]⟩ ++ RB:=by rw [HRES.out,HK.out,if_neg (by decide),if_neg (by decide),<- HRB.out];exact ybM (by simp)
   exact ⟨by rw [hout];rfl,HG.out⟩
abbrev RowT:=TypeId × Value × Nat × List Value
def Dj (a b:RowT):Prop:=∀ g,a.2.1.ownBlock = some g -> b.2.1.ownBlock ≠ some g
theorem Dj.symm {a b:RowT} (h:Dj a b):Dj b a:=fun g h1 h2=>h g h2 h1
def RowsO (z:Nat) (W:World) (l:List RowT):Prop:=(∀ r ∈ l,W.ownsRow z r.1 1 r.2.1 r.2.2.1 r.2.2.2) /\ l.Pairwise Dj
theorem RowsO.kept {z:Nat} {W W':World} {l:List RowT} (h:RowsO z W l) (hg:W.grownBy W' none):RowsO z W' l:=⟨fun r hr=>ydF (h.1 r hr) hg (by simp),h.2⟩
theorem RowsO.turn {z:Nat} {W:World} {r:RowT} {l:List RowT} (h:RowsO z W (r :: l)):RowsO z W (l ++ [r]):=by
 obtain ⟨h1,h2⟩:=h;rw [List.pairwise_cons] at h2;refine ⟨fun x hx=>h1 x (by simpa [or_comm] using hx),List.pairwise_append.2 ⟨h2.2,List.pairwise_singleton _ _,fun a ha b hb=>?_⟩⟩;obtain rfl:b = r:=by simpa using hb
 exact (h2.1 a ha).symm
theorem RowsO.app {z n bt:Nat} {e t:TypeId} {v zv x:Value} {xs:List Value} {l:List RowT} {w W:World} {i0:TypeInfo} (h:RowsO z W ((e,v,n,xs) :: l)) (ht:jq.underlying t = some (.slice e)) (hi:jq.info? e = some i0) (hz0:i0.zero = some zv) (hz1:i0.size = 1) (hz2:i0.bytes = bt) (hzc:zv.cells.size = 1) (hbt:bt <= 64)
  (hz:z <= W.heap.size) (hx:x.oneCell' = true) (hn:n <= 100000) (hw:w.grownBy W none) (hwz:w.heap.size <= z) :
  ∃ g' c' W',(Builtin.append_ #[t,t] t #[v,.slice (some ⟨W.heap.size,0,none⟩) 1 1]).run jq (W.alloc (.cells #[x] e)) = .ok (.slice (some ⟨g',0,none⟩) (n + 1) c') W' /\ RowsO z W' ((e,.slice (some ⟨g',0,none⟩) (n + 1) c',n + 1,xs ++ [x]) :: l) /\ w.grownBy W' none /\ z <= W'.heap.size:=by
 have hga:=yaa (jr W none) (.cells #[x] e);obtain ⟨h1,h2⟩:=h.kept hga;have ho:=h.1 (e,v,n,xs) (by simp);have hown:=h1 (e,v,n,xs) (by simp);obtain ⟨v',W',hrun,hown',hgrow,hiff,hob⟩:=jra (P:=jq) (W.alloc (.cells #[x] e)) z t t e i0 zv 1 bt ht hi hz0 hz1 hz2 hzc (by decide) v n xs hown ⟨W.heap.size,0,none⟩ 1 1 [x] rfl (ydn _ [x] _) (by simpa using hx) (by simp only [maxLen];omega) (by have:(n + 1) * bt <= 100001 * 64:=Nat.mul_le_mul (by omega) hbt;omega) (by simp;omega);obtain ⟨g',c',rfl⟩:=ownsRow_succ hown';rw [List.pairwise_cons] at h2;refine ⟨g',c',W',hrun,⟨fun r hr=>?_,?_⟩,yab (yab hw hga (by simp)) hgrow (fun k hk=>.inr (by have:=yaj hown hk;omega)),jlt (by simp;omega) hgrow.size⟩
 ·rcases je6.1 hr with rfl | hr
  ·exact hown'
  ·have hd:=h2.1 r hr;refine (h1 r (List.mem_cons_of_mem _ hr)).kept hgrow ?_;cases hb:r.2.1.ownBlock with
   | none=>exact .inl rfl
   | some k=>exact .inr (fun e9=>hd k e9.symm hb)
 ·rw [List.pairwise_cons];refine ⟨fun r hr g hg hrg=>?_,h2.2⟩;rcases hob with h9 | h9
  ·exact h2.1 r hr g (by rw [<- h9];exact hg) hrg
  ·rw [h9] at hg;have h8:=ycH (h.1 r (List.mem_cons_of_mem _ hr)) hrg;have:W.heap.size + 1 = g:=by simpa using hg
   omega
theorem yol (ls:List AccV) (B:Nat) (A:Option Addr) (n c:Nat) (w:World) (h:AccR B w ls A n) (hn:n <= 9223372036854775807) :
  Calls jq 64 #[.slice A n c] w fun e w'=>e = .returned (.bool (!ls.any ybc)) /\ w' = w:=by
 have HR:=jh h;have hl:=h.1;have HL:=jh hl;obtain ⟨R,hR⟩:∃ R,ls.any ybc = R:=⟨_,rfl⟩;rw [hR];have HRR:=jh hR;clear h hl hR;go_enter Tryz.func64,Tryz.ntmps64
 go_wp2_with fail
 go_loopw [3] (fun i wr=>∃ k:Nat,i = .int .i64 k /\ k <= n /\ w = wr /\ Hid (∀ i,i < k -> ybc (ls.getD i AccV.none_) = false)) (fun i _=>n - (intOf i).toNat)
 case atStart=>exact ⟨0,rfl,by omega,rfl,jh fun i hi=>by omega⟩
 case round =>
  obtain ⟨k,rfl,hk,rfl,hf⟩:=hrel;have HF:=jh hf.out;clear hf;by_cases hlt:k < n
  ·obtain ⟨gg,off,T,tc,l,rfl,hlk,hml,c0,c1,hr,hm⟩:=HR.out.at_ hlt;have HLK:=jh hlk;have q1:(k:Int) < (n:Int):=by omega
   have HLT:=jh hlt;have HRT:=jh hr;clear hr hlt hlk hml;obtain ⟨la,lt⟩:=l;simp only at c0 c1 HRT hm
   have hrow:Hid (∀ j,j < lt.length -> ∃ g off,T = some ⟨g,off,none⟩ /\ w.cell? ⟨g,off + j,none⟩ = some (.string (lt.getD j .empty))):=jh fun j hj=>by
    obtain ⟨q,off,hT,_,hc⟩:=Reads.vals ja8 .empty HRT.out hj;exact ⟨q,off,hT,hc j hj⟩
   clear HRT;obtain ⟨tn,htn⟩:∃ tn,lt.length = tn:=⟨_,rfl⟩;rw [htn] at hrow c1 hm;have HTN:=jh htn;clear htn;by_cases p1:la.size = 20
   rotate_left
   ·have q2:((la.size:Int) != 20) = true:=by simp;omega
    have hr:R = true:=by
     rw [<- HRR.out];refine ydd (d:=AccV.none_) (k:=k) (by rw [HL.out];exact HLT.out) ?_;rw [HLK.out];simp [ybc,p1]
    subst hr;clear p1 hrow hm;go_wp2_with fail
    go_ret
    exact ⟨rfl,rfl⟩
   ·have q2:((la.size:Int) != 20) = false:=by simp;omega
    have HP:=jh p1;clear p1;go_wp2_with fail
    go_loopw [4] (fun j wr=>∃ m:Nat,j = .int .i64 m /\ m <= tn /\ w = wr /\ Hid (∀ i,i < m -> ybP (lt.getD i .empty) = false)) (fun j _=>tn - (intOf j).toNat)
    case atStart=>exact ⟨0,rfl,by omega,rfl,jh fun i hi=>by omega⟩
    case round =>
     obtain ⟨m,rfl,hmm,rfl,hft⟩:=hrel;have HFT:=jh hft.out;clear hft;by_cases hmt:m < tn
     ·obtain ⟨tg,toff,rfl,t0⟩:=hrow.out m hmt;have q3:(m:Int) < (tn:Int):=by omega
      obtain ⟨ts,hts⟩:∃ ts,lt.getD m .empty = ts:=⟨_,rfl⟩;rw [hts] at t0;have HTS:=jh hts;clear hts;by_cases p5:ts.size = 32
      rotate_left
      ·have q6:((ts.size:Int) != 32) = true:=by simp;omega
       have hr:R = true:=by
        rw [<- HRR.out];refine ydd (d:=AccV.none_) (k:=k) (by rw [HL.out];exact HLT.out) ?_;rw [HLK.out];have:lt.any ybP = true:=ydd (d:=.empty) (k:=m) (by rw [HTN.out];exact hmt) (by rw [HTS.out];simp [ybP,p5]);simp only [ybc,this,Bool.or_true]
       subst hr;clear p5;go_wp2_with fail
       go_ret
       exact ⟨rfl,rfl⟩
      ·have q6:((ts.size:Int) != 32) = false:=by simp;omega
       have HP5:=jh p5;clear p5;go_wp2_with fail
       refine ⟨⟨m + 1,by go_num,by omega,by first | rfl | trivial,jh fun i hi=>?_⟩,by simp [intOf];omega⟩;by_cases hik:i = m
       ·rw [hik,HTS.out];simp [ybP,HP5.out]
       ·exact HFT.out i (by omega)
     ·have q3:decide ((m:Int) < (tn:Int)) = false:=decide_eq_false (by omega);obtain rfl:m = tn:=by omega
      go_wp2_with fail
      refine ⟨⟨k + 1,by go_num,by have:=HLT.out;omega,by first | rfl | trivial,jh fun i hi=>?_⟩,by have:=HLT.out;simp [intOf];omega⟩;by_cases hik:i = k
      ·rw [hik,HLK.out];have:lt.any ybP = false:=ycw (d:=.empty) fun i hi=>HFT.out i (by have:=HTN.out;omega);simp only [ybc,this,Bool.or_false,decide_eq_false_iff_not,ne_eq,jb9];exact HP.out
      ·exact HF.out i (by omega)
  ·have q1:decide ((k:Int) < (n:Int)) = false:=decide_eq_false (by omega)
   have hr:R = false:=by
    rw [<- HRR.out];exact ycw (d:=AccV.none_) fun i hi=>HF.out i (by have:=HL.out;omega)
   subst hr;go_wp2_with fail
   go_ret
   exact ⟨rfl,rfl⟩
theorem yok (ls:List AutV) (B:Nat) (A:Option Addr) (n c:Nat) (w:World) (h:AutR B w ls A n) (hn:n <= 9223372036854775807) :
  Calls jq 65 #[.slice A n c] w fun e w'=>e = .returned (.bool (!ls.any ybm)) /\ w' = w:=by
 have HR:=jh h;have hl:=h.1;have HL:=jh hl;obtain ⟨R,hR⟩:∃ R,ls.any ybm = R:=⟨_,rfl⟩;rw [hR];have HRR:=jh hR;clear h hl hR;go_enter Tryz.func65,Tryz.ntmps65
 go_wp2_with fail
 go_loopw [3] (fun i wr=>∃ k:Nat,i = .int .i64 k /\ k <= n /\ w = wr /\ Hid (∀ i,i < k -> ybm (ls.getD i AutV.none_) = false)) (fun i _=>n - (intOf i).toNat)
 case atStart=>exact ⟨0,rfl,by omega,rfl,jh fun i hi=>by omega⟩
 case round =>
  obtain ⟨k,rfl,hk,rfl,hf⟩:=hrel;have HF:=jh hf.out;clear hf;by_cases hlt:k < n
  ·obtain ⟨gg,off,rfl,_,hc⟩:=HR.out.2 (by omega);have hra:=hc k hlt;obtain ⟨l,hlk⟩:∃ x,ls.getD k AutV.none_ = x:=⟨_,rfl⟩;rw [hlk] at hra;have c1:w.cell? ⟨gg,off + k * 12 + 1,none⟩ = some (.string l.addr):=hra 1 _ rfl;have c3:w.cell? ⟨gg,off + k * 12 + 3,none⟩ = some (.int .u64 (l.y:Int)):=hra 3 _ rfl;have HLK:=jh hlk;have q1:(k:Int) < (n:Int):=by omega
   have HLT:=jh hlt;clear hlt hlk hra hc;obtain ⟨la,hla⟩:∃ x,l.addr = x:=⟨_,rfl⟩;obtain ⟨ly,hly⟩:∃ x,l.y = x:=⟨_,rfl⟩;rw [hla] at c1;rw [hly] at c3;have HLA:=jh hla;have HLY:=jh hly;clear hla hly;by_cases p1:la.size = 20
   ·have q2:((la.size:Int) != 20) = false:=by simp;omega
    by_cases p2:1 < ly
    ·have q3:decide ((1:Int) < (ly:Int)) = true:=decide_eq_true (by omega);have q3n:decide (1 < ly) = true:=decide_eq_true p2
     have hr:R = true:=by
      rw [<- HRR.out];refine ydd (d:=AutV.none_) (k:=k) (by rw [HL.out];exact HLT.out) ?_;rw [HLK.out];simp [ybm,HLY.out,p2]
     subst hr;clear p1 p2;go_wp2_with fail
     go_ret
     exact ⟨rfl,rfl⟩
    ·have q3:decide ((1:Int) < (ly:Int)) = false:=decide_eq_false (by omega);have q3n:decide (1 < ly) = false:=decide_eq_false p2;have HP:=jh p1;have HP2:=jh p2;clear p1 p2;go_wp2_with fail
     refine ⟨⟨k + 1,by go_num,by have:=HLT.out;omega,by first | rfl | trivial,jh fun i hi=>?_⟩,by have:=HLT.out;simp [intOf];omega⟩;by_cases hik:i = k
     ·have h1:=HP.out;have h2:=HP2.out;rw [hik,HLK.out];unfold ybm;rw [HLA.out,HLY.out,decide_eq_false (by omega),decide_eq_false h2];rfl
     ·exact HF.out i (by omega)
   ·have q2:((la.size:Int) != 20) = true:=by simp;omega
    have hr:R = true:=by
     rw [<- HRR.out];refine ydd (d:=AutV.none_) (k:=k) (by rw [HL.out];exact HLT.out) ?_;rw [HLK.out];simp [ybm,HLA.out,p1]
    subst hr;clear p1;go_wp2_with fail
    go_ret
    exact ⟨rfl,rfl⟩
  ·have q1:decide ((k:Int) < (n:Int)) = false:=decide_eq_false (by omega)
   have hr:R = false:=by
    rw [<- HRR.out];exact ycw (d:=AutV.none_) fun i hi=>HF.out i (by have:=HL.out;omega)
   subst hr;go_wp2_with fail
   go_ret
   exact ⟨rfl,rfl⟩
def yk8 (t:TxV):Bool:=t.acc.any yb8 || (decide (4096 < t.data.size) || (decide (16 < t.acc.length) || decide (8 < t.auths.length)))
theorem ymc (t:TxV) (B:Nat) (sa sb:Value) (w:World) (h:TxIn B w t sa sb) (hB:B <= w.heap.size) :
  Calls jq 66 #[.agg (txC t sa sb)] w fun e w'=>e = .returned (.bool (yk8 t)) /\ w.grownBy w' none:=by
 have hG:=yaa (jr w none) (.cells (txC t sa sb) 42);have hb:=Blk.new w 42 (txC t sa sb);obtain ⟨⟨pa,xa,rfl,hacc⟩,⟨pb,xb,rfl,haut⟩,la,lb⟩:=h.grown hG hB;obtain ⟨cs,hcs⟩:∃ x,txC t (.slice pa t.acc.length xa) (.slice pb t.auths.length xb) = x:=⟨_,rfl⟩;have d17:cs[17]? = some (.string t.data):=by rw [<- hcs];rfl
 have d18:cs[18]? = some (.slice pa t.acc.length xa):=by rw [<- hcs];rfl
 have d19:cs[19]? = some (.slice pb t.auths.length xb):=by rw [<- hcs];rfl
 rw [hcs] at hG hb hacc haut ⊢;have b17:=(hb.cell 17).trans d17;have b18:=(hb.cell 18).trans d18;have b19:=(hb.cell 19).trans d19;obtain ⟨R,hR⟩:∃ R,yk8 t = R:=⟨_,rfl⟩;rw [hR];unfold yk8 at hR;obtain ⟨ls,hls⟩:∃ x,t.acc = x:=⟨_,rfl⟩;obtain ⟨n,hn⟩:∃ x,ls.length = x:=⟨_,rfl⟩;obtain ⟨d,hd⟩:∃ x,t.data = x:=⟨_,rfl⟩;obtain ⟨m,hm⟩:∃ x,t.auths.length = x:=⟨_,rfl⟩;rw [hls,hn] at b18 hacc hR la;rw [hd] at b17 hR;rw [hm] at b19 hR;have HACC:=jh hacc;have HG:=jh hG;have HRR:=jh hR;have HN:=jh hn;have HLA:=jh la;clear h hB hG hb hacc haut la lb hcs d17 d18 d19 hR hls hn hd hm;obtain ⟨gb,hgb⟩:∃ x,w.heap.size = x:=⟨_,rfl⟩;go_enter Tryz.func66,Tryz.ntmps66
 go_upto_region 1 with (fail)
 rw [hgb] at b17 b18 b19;clear hgb;generalize w.alloc (.cells cs 42) = w1 at *;go_wp2_with fail
 go_loopw [3] (fun i wr=>∃ k:Nat,i = .int .i64 k /\ k <= n /\ w1 = wr /\ Hid (∀ i,i < k -> yb8 (ls.getD i AccV.none_) = false)) (fun i _=>n - (intOf i).toNat)
 case atStart=>exact ⟨0,rfl,by omega,rfl,jh fun i hi=>by omega⟩
 case round =>
  obtain ⟨k,rfl,hk,rfl,hf⟩:=hrel;have HF:=jh hf.out;clear hf;by_cases hlt:k < n
  ·obtain ⟨gg,off,T,tc,l,rfl,hlk,hml,c0,c1,hr,hm⟩:=HACC.out.at_ hlt;have HLK:=jh hlk;have q1:(k:Int) < (n:Int):=by omega
   have HLT:=jh hlt;clear hr hlt hlk hml c0;obtain ⟨tn,htn⟩:∃ tn,l.keys.length = tn:=⟨_,rfl⟩;rw [htn] at c1 hm;have HTN:=jh htn;clear htn;by_cases p1:16 < tn
   ·have q2:decide ((16:Int) < (tn:Int)) = true:=decide_eq_true (by omega);have q2n:decide (16 < tn) = true:=decide_eq_true p1
    have hr:R = true:=by
     rw [<- HRR.out]
     have:ls.any yb8 = true:=by
      refine ydd (d:=AccV.none_) (k:=k) (by rw [HN.out];exact HLT.out) ?_;rw [HLK.out];unfold yb8;rw [HTN.out];exact q2n
     rw [this];rfl
    subst hr;clear p1;go_wp2_with fail
    go_ret
    exact ⟨rfl,HG.out⟩
   ·have q2:decide ((16:Int) < (tn:Int)) = false:=decide_eq_false (by omega);have q2n:decide (16 < tn) = false:=decide_eq_false p1;have HP:=jh q2n;clear p1;go_wp2_with fail
    have hw9:wrap64 ((k:Int) + 1) = ((k + 1:Nat):Int):=by have:=HLA.out;have:=HLT.out;unfold wrap64;omega
    refine ⟨⟨k + 1,congrArg (Value.int .i64) hw9,by have:=HLT.out;omega,by first | rfl | trivial,jh fun i hi=>?_⟩,by have:=HLT.out;rw [hw9];simp [intOf];omega⟩;by_cases hik:i = k
    ·rw [hik,HLK.out];unfold yb8;rw [HTN.out];exact HP.out
    ·exact HF.out i (by omega)
  ·have q1:decide ((k:Int) < (n:Int)) = false:=decide_eq_false (by omega);have hr:=HRR.out;rw [ycw (d:=AccV.none_) fun i hi=>HF.out i (by have:=HN.out;omega),Bool.false_or] at hr;by_cases p1:4096 < d.size
   ·have q2:decide ((4096:Int) < (d.size:Int)) = true:=decide_eq_true (by omega);have q2n:decide (4096 < d.size) = true:=decide_eq_true p1;rw [q2n] at hr;obtain rfl:R = true:=by rw [<- hr];rfl
    clear p1 hr;go_wp2_with fail
    go_ret
    exact ⟨rfl,HG.out⟩
   have q2:decide ((4096:Int) < (d.size:Int)) = false:=decide_eq_false (by omega);have q2n:decide (4096 < d.size) = false:=decide_eq_false p1;rw [q2n,Bool.false_or] at hr;clear p1;by_cases p2:16 < n
   ·have q3:decide ((16:Int) < (n:Int)) = true:=decide_eq_true (by omega);have q3n:decide (16 < n) = true:=decide_eq_true p2;rw [q3n] at hr;obtain rfl:R = true:=by rw [<- hr];rfl
    clear p2 hr;go_wp2_with fail
    go_ret
    exact ⟨rfl,HG.out⟩
   have q3:decide ((16:Int) < (n:Int)) = false:=decide_eq_false (by omega);have q3n:decide (16 < n) = false:=decide_eq_false p2;rw [q3n,Bool.false_or] at hr;clear p2;by_cases p3:8 < m
   ·have q4:decide ((8:Int) < (m:Int)) = true:=decide_eq_true (by omega);have q4n:decide (8 < m) = true:=decide_eq_true p3;rw [q4n] at hr;obtain rfl:R = true:=hr.symm;clear p3 hr;go_wp2_with fail
    go_ret
    exact ⟨rfl,HG.out⟩
   have q4:decide ((8:Int) < (m:Int)) = false:=decide_eq_false (by omega);have q4n:decide (8 < m) = false:=decide_eq_false p3;rw [q4n] at hr;obtain rfl:R = false:=hr.symm;clear p3 hr;go_wp2_with fail
   go_ret
   exact ⟨rfl,HG.out⟩
end Go.Proofs.YtgclnikdkfpflaaGreatDoor
