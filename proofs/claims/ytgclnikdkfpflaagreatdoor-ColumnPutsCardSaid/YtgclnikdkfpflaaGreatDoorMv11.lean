/- Merged: CoO, RlpL, UnrR, UnrS0, TSame, UnrU, UnlA0, UnlA, CgU, CgJ3, CgK0, CgK1, BitsX, BitsY, CgK2, CgK3. -/
import Derived.Test.YtgclnikdkfpflaaGreatDoorMv1
import Derived.Test.YtgclnikdkfpflaaGreatDoorMv2
import Derived.Test.YtgclnikdkfpflaaGreatDoorMv5
import Derived.Test.YtgclnikdkfpflaaGreatDoorMv6
import Derived.Test.YtgclnikdkfpflaaGreatDoorMv8
import Derived.Test.YtgclnikdkfpflaaGreatDoorMv9
import Derived.Test.YtgclnikdkfpflaaGreatDoorMv10
namespace Go.Proofs.YtgclnikdkfpflaaGreatDoor
open Go.RowKit Go.Shelf
open List renaming set_cons_zero → jz, set_cons_succ → js, setIfInBounds_toArray → jb
set_option linter.unusedVariables false
set_option linter.unusedSimpArgs false
set_option maxRecDepth 100000
set_option maxHeartbeats 16000000
open Lib renaming hid → jh
open World.grownBy renaming refl → jr
open _root_.List renaming getD_eq_getElem?_getD → jg, getElem?_eq_getElem → je, length_append → jla, getElem?_append_left → jal, take_of_length_le → jtl, drop_eq_getElem_cons → jdc, length_cons → jlc, getElem?_map → jgm, map_cons → jb5, eq_nil_of_length_eq_zero → jb7, getElem?_take_of_lt → jc3, getElem?_eq_none → jc6, getElem?_eq_some_iff → jc9, length_take → jd4, size_toArray → jd9, mem_cons → je6
open _root_.Option.some renaming inj → ji
open _root_.Array renaming getElem?_eq_some_iff → jes, length_toList → jb0
open _root_.Int renaming toNat_natCast → jnc, eq_ofNat_of_zero_le → jez
open World renaming size_alloc → jsa
open _root_.Nat renaming le_trans → jlt, le_refl → jle, le_of_ble_eq_true → jb1, lt_of_lt_of_le → jc4, zero_add → jd6
open _root_.Go.Proofs.Tryz renaming prog → jq
open Go renaming setRow_other → jso
open Value renaming string → ja8
open Region renaming wanted → jb6
open _root_.Classical renaming not_not → jb9
def yet (ls:List TxV):List ByteArray:=[⟨(yaD (colL (fun x:TxV=>decide (x.dst.size = 0)) (fun _=>true) ls)).toArray⟩,⟨(yaD (colL (fun x:TxV=>decide (x.y = 1)) (fun _=>true) ls)).toArray⟩,⟨(catB (colL sigT (fun _=>true) ls)).toArray⟩,⟨(catB (colL (fun x:TxV=>x.dst) (fun _=>true) ls)).toArray⟩,⟨(catB (colL ybv (fun _=>true) ls)).toArray⟩,⟨(rowL (colL (fun x:TxV=>(x.nonce:Int)) (fun _=>true) ls)).toArray⟩,⟨(rowL (colL (fun x:TxV=>(x.gas:Int)) (fun _=>true) ls)).toArray⟩,⟨(yaD (colL (fun x:TxV=>decide (x.chain ≠ 0)) (fun x:TxV=>decide (x.kind = 0)) ls)).toArray⟩]
def ye9 (ls:List TxV):List UInt8:=catB (yet ls)
def ycb (ls:List TxV) (chain:Nat):List UInt8:=if yat ls chain = 0 then ye9 ls else []
structure ypd (ls:List TxV):Prop where
 rest:∀ x ∈ ls,ykb x
 sizes:∀ s ∈ yet ls,s.size <= 1000000000
theorem ybV {ys:List ByteArray} {k:Nat} (hk:k < ys.length):catB (ys.take (k + 1)) = catB (ys.take k) ++ (ys[k]).data.toList:=by
 unfold catB;rw [List.take_add_one,je hk,List.flatMap_append]
 simp
theorem ykZ (B:Nat) (A:Option Addr) (n c:Nat) (ls:List TxV) (chain:Nat) (w:World) (h:TxsR B w ls A n) (hB:B <= w.heap.size) (hn:n <= 9223372036854775807) (ok:∀ t ∈ ls,t.Ok) (hco:yat ls chain = 0 -> ypd ls) (hlen:yat ls chain = 0 -> ls.length <= 512) :
  Calls jq 11 #[.slice A n c,.int .u64 (chain:Int)] w fun e w'=>e = .returned (.tuple #[.string ⟨(ycb ls chain).toArray⟩,.int .i64 (yat ls chain)]) /\ w.grownBy w' none:=by
 have hG:=yaa (jr w none) (.cells #[.slice A n c] 22);have hbx:=Boxed.new w 22 (.slice A n c);have hR:=h.grown hG hB;have hB1:=jlt hB hG.size;have hll:=h.1;have HCK:=jh (fun (V:World) (hV:(w.alloc (.cells #[.slice A n c] 22)).grownBy V none)=>ycW B A n c ls chain V (hR.grown hV hB1) (jlt hB1 hV.size) hn ok);have HR:=jh hR;have HB1:=jh hB1;have HOK:=jh ok;have HLL:=jh hll;obtain ⟨E,hE⟩:∃ E,yat ls chain = E:=⟨_,rfl⟩;obtain ⟨L,hL⟩:∃ L,ycb ls chain = L:=⟨_,rfl⟩;have hLE:L = if E = 0 then ye9 ls else []:=by rw [<- hL,<- hE];rfl
 rw [hE] at HCK hco hlen;rw [hL,hE];have HCO:=jh hco;have HLEN:=jh hlen;have HLE:=jh hLE;clear h hB hR hB1 ok hco hlen hE hL hLE hn hll;go_enter Tryz.func11,Tryz.ntmps11
 go_upto_region 1 with (fail)
 obtain ⟨b,hb⟩:∃ b,w.heap.size = b:=⟨_,rfl⟩;rw [hb] at hbx ⊢;clear hb;generalize w.alloc (.cells #[.slice A n c] 22) = w1 at *;have c0:=hbx.cell;have HBX:=jh hbx;have HG:=jh hG;clear hbx hG;go_wp2_with fail
 refine (HCK.out w1 (jr _ _)).mono ?_;rintro e w2 ⟨rfl,hg⟩;replace HBX:=jh (HBX.out.kept hg (by simp));replace HR:=jh (HR.out.grown hg HB1.out);replace HB1:=jh (jlt HB1.out hg.size);replace HG:=jh (yab HG.out hg (by simp));clear hg c0 HCK;by_cases hE0:E = 0
 rotate_left
 ·have q1:(E != 0) = true:=by simpa using hE0
  have hL0:L = []:=by rw [HLE.out,if_neg hE0]
  subst hL0;clear hE0;go_wp2_with fail
  go_ret2
  exact ⟨rfl,HG.out⟩
 subst hE0;have HCOK:=jh (HCO.out rfl);have hN:n <= 1000:=by have:=HLEN.out rfl;rw [HLL.out] at this;omega
 have hLL:L = catB (yet ls):=by rw [HLE.out,if_pos rfl];rfl
 have HLQ:=jh hLL;clear HCO HLEN HLE hLL;obtain ⟨q,hq⟩:∃ q,w2.heap.size = q:=⟨_,rfl⟩;have hz0:(w2.alloc (.cells #[.func (.func 20) #[] #[.pointer (some ⟨b,0,none⟩)]] 49)).heap.size = q + 1:=by simp [hq]
 have hz1:((w2.alloc (.cells #[.func (.func 20) #[] #[.pointer (some ⟨b,0,none⟩)]] 49)).alloc (.cells #[.func (.func 23) #[] #[.pointer (some ⟨b,0,none⟩)]] 54)).heap.size = q + 2:=by rw [jsa,hz0]
 have hz2:(((w2.alloc (.cells #[.func (.func 20) #[] #[.pointer (some ⟨b,0,none⟩)]] 49)).alloc (.cells #[.func (.func 23) #[] #[.pointer (some ⟨b,0,none⟩)]] 54)).alloc (.cells #[.func (.func 26) #[] #[.pointer (some ⟨b,0,none⟩)]] 59)).heap.size = q + 3:=by rw [jsa,hz1]
 have hp7:=((Boxed.new w2 49 (.func (.func 20) #[] #[.pointer (some ⟨b,0,none⟩)])).alloc (.cells #[.func (.func 23) #[] #[.pointer (some ⟨b,0,none⟩)]] 54)).alloc (.cells #[.func (.func 26) #[] #[.pointer (some ⟨b,0,none⟩)]] 59) |>.alloc (.cells #[.func (.func 29) #[] #[.pointer (some ⟨q,0,none⟩)],.func (.func 31) #[] #[.pointer (some ⟨q,0,none⟩)],.func (.func 33) #[] #[.pointer (some ⟨q + 2,0,none⟩)],.func (.func 36) #[] #[.pointer (some ⟨q + 2,0,none⟩)],.func (.func 38) #[] #[.pointer (some ⟨q + 2,0,none⟩)],.func (.func 41) #[] #[.pointer (some ⟨q + 1,0,none⟩)],.func (.func 43) #[] #[.pointer (some ⟨q + 1,0,none⟩)],.func (.func 45) #[] #[.pointer (some ⟨q,0,none⟩)]] 60);have hp8:=((Boxed.new (w2.alloc (.cells #[.func (.func 20) #[] #[.pointer (some ⟨b,0,none⟩)]] 49)) 54 (.func (.func 23) #[] #[.pointer (some ⟨b,0,none⟩)])).alloc (.cells #[.func (.func 26) #[] #[.pointer (some ⟨b,0,none⟩)]] 59)).alloc (.cells #[.func (.func 29) #[] #[.pointer (some ⟨q,0,none⟩)],.func (.func 31) #[] #[.pointer (some ⟨q,0,none⟩)],.func (.func 33) #[] #[.pointer (some ⟨q + 2,0,none⟩)],.func (.func 36) #[] #[.pointer (some ⟨q + 2,0,none⟩)],.func (.func 38) #[] #[.pointer (some ⟨q + 2,0,none⟩)],.func (.func 41) #[] #[.pointer (some ⟨q + 1,0,none⟩)],.func (.func 43) #[] #[.pointer (some ⟨q + 1,0,none⟩)],.func (.func 45) #[] #[.pointer (some ⟨q,0,none⟩)]] 60);have hp9:=(Boxed.new ((w2.alloc (.cells #[.func (.func 20) #[] #[.pointer (some ⟨b,0,none⟩)]] 49)).alloc (.cells #[.func (.func 23) #[] #[.pointer (some ⟨b,0,none⟩)]] 54)) 59 (.func (.func 26) #[] #[.pointer (some ⟨b,0,none⟩)])).alloc (.cells #[.func (.func 29) #[] #[.pointer (some ⟨q,0,none⟩)],.func (.func 31) #[] #[.pointer (some ⟨q,0,none⟩)],.func (.func 33) #[] #[.pointer (some ⟨q + 2,0,none⟩)],.func (.func 36) #[] #[.pointer (some ⟨q + 2,0,none⟩)],.func (.func 38) #[] #[.pointer (some ⟨q + 2,0,none⟩)],.func (.func 41) #[] #[.pointer (some ⟨q + 1,0,none⟩)],.func (.func 43) #[] #[.pointer (some ⟨q + 1,0,none⟩)],.func (.func 45) #[] #[.pointer (some ⟨q,0,none⟩)]] 60);have hbs:=Blk.new (((w2.alloc (.cells #[.func (.func 20) #[] #[.pointer (some ⟨b,0,none⟩)]] 49)).alloc (.cells #[.func (.func 23) #[] #[.pointer (some ⟨b,0,none⟩)]] 54)).alloc (.cells #[.func (.func 26) #[] #[.pointer (some ⟨b,0,none⟩)]] 59)) 60 #[.func (.func 29) #[] #[.pointer (some ⟨q,0,none⟩)],.func (.func 31) #[] #[.pointer (some ⟨q,0,none⟩)],.func (.func 33) #[] #[.pointer (some ⟨q + 2,0,none⟩)],.func (.func 36) #[] #[.pointer (some ⟨q + 2,0,none⟩)],.func (.func 38) #[] #[.pointer (some ⟨q + 2,0,none⟩)],.func (.func 41) #[] #[.pointer (some ⟨q + 1,0,none⟩)],.func (.func 43) #[] #[.pointer (some ⟨q + 1,0,none⟩)],.func (.func 45) #[] #[.pointer (some ⟨q,0,none⟩)]];have hg4:=yaa (yaa (yaa (yaa (jr w2 none) (.cells #[.func (.func 20) #[] #[.pointer (some ⟨b,0,none⟩)]] 49)) (.cells #[.func (.func 23) #[] #[.pointer (some ⟨b,0,none⟩)]] 54)) (.cells #[.func (.func 26) #[] #[.pointer (some ⟨b,0,none⟩)]] 59)) (.cells #[.func (.func 29) #[] #[.pointer (some ⟨q,0,none⟩)],.func (.func 31) #[] #[.pointer (some ⟨q,0,none⟩)],.func (.func 33) #[] #[.pointer (some ⟨q + 2,0,none⟩)],.func (.func 36) #[] #[.pointer (some ⟨q + 2,0,none⟩)],.func (.func 38) #[] #[.pointer (some ⟨q + 2,0,none⟩)],.func (.func 41) #[] #[.pointer (some ⟨q + 1,0,none⟩)],.func (.func 43) #[] #[.pointer (some ⟨q + 1,0,none⟩)],.func (.func 45) #[] #[.pointer (some ⟨q,0,none⟩)]] 60);rw [hq] at hp7;rw [hz0] at hp8;rw [hz1] at hp9;rw [hz2] at hbs;have HW3:=jh (⟨hp7,hp8,hp9,hbs,hg4⟩:_ /\ _ /\ _ /\ _ /\ _);clear hp7 hp8 hp9 hbs hg4 hz0 hz1 hz2;go_upto_region 8 with (fail)
 (try rw [hq]);clear hq;generalize ((((w2.alloc (.cells #[.func (.func 20) #[] #[.pointer (some ⟨b,0,none⟩)]] 49)).alloc (.cells #[.func (.func 23) #[] #[.pointer (some ⟨b,0,none⟩)]] 54)).alloc (.cells #[.func (.func 26) #[] #[.pointer (some ⟨b,0,none⟩)]] 59)).alloc (.cells #[.func (.func 29) #[] #[.pointer (some ⟨q,0,none⟩)],.func (.func 31) #[] #[.pointer (some ⟨q,0,none⟩)],.func (.func 33) #[] #[.pointer (some ⟨q + 2,0,none⟩)],.func (.func 36) #[] #[.pointer (some ⟨q + 2,0,none⟩)],.func (.func 38) #[] #[.pointer (some ⟨q + 2,0,none⟩)],.func (.func 41) #[] #[.pointer (some ⟨q + 1,0,none⟩)],.func (.func 43) #[] #[.pointer (some ⟨q + 1,0,none⟩)],.func (.func 45) #[] #[.pointer (some ⟨q,0,none⟩)]] 60)) = w3 at *;obtain ⟨hp7,hp8,hp9,hbs,hg4⟩:=HW3.out;have HP7:=jh hp7;have HP8:=jh hp8;have HP9:=jh hp9;have HBS:=jh hbs;replace HBX:=jh (HBX.out.kept hg4 (by simp));replace HR:=jh (HR.out.grown hg4 HB1.out);replace HB1:=jh (jlt HB1.out hg4.size);replace HG:=jh (yab HG.out hg4 (by simp));clear hp7 hp8 hp9 hbs hg4 HW3;have hsz:=HCOK.out.sizes;have HC0:=jh (fun (V:World) (hV:w3.grownBy V none)=>yoc B A n c b (q) ls V (HR.out.grown hV HB1.out) (jlt HB1.out hV.size) hN (HBX.out.kept hV (by simp)) (HP7.out.kept hV (by simp)));have HC1:=jh (fun (V:World) (hV:w3.grownBy V none)=>yob B A n c b (q) ls V (HR.out.grown hV HB1.out) (jlt HB1.out hV.size) hN (HBX.out.kept hV (by simp)) (HP7.out.kept hV (by simp)));have HC2:=jh (fun (V:World) (hV:w3.grownBy V none)=>yoa B A n c b (q + 2) ls V (HR.out.grown hV HB1.out) (jlt HB1.out hV.size) hN (HBX.out.kept hV (by simp)) (HP9.out.kept hV (by simp)) (by have:=hsz _ (by unfold yet;exact List.mem_iff_getElem.2 ⟨2,jb1 rfl,rfl⟩);rw [ydA] at this;exact this));have HC3:=jh (fun (V:World) (hV:w3.grownBy V none)=>ynZ B A n c b (q + 2) ls V (HR.out.grown hV HB1.out) (jlt HB1.out hV.size) hN (HBX.out.kept hV (by simp)) (HP9.out.kept hV (by simp)) (by have:=hsz _ (by unfold yet;exact List.mem_iff_getElem.2 ⟨3,jb1 rfl,rfl⟩);rw [ydA] at this;exact this));have HC4:=jh (fun (V:World) (hV:w3.grownBy V none)=>ynY B A n c b (q + 2) ls V (HR.out.grown hV HB1.out) (jlt HB1.out hV.size) hN (HBX.out.kept hV (by simp)) (HP9.out.kept hV (by simp)) HCOK.out.rest (by have:=hsz _ (by unfold yet;exact List.mem_iff_getElem.2 ⟨4,jb1 rfl,rfl⟩);rw [ydA] at this;exact this));have HC5:=jh (fun (V:World) (hV:w3.grownBy V none)=>ynX B A n c b (q + 1) ls V (HR.out.grown hV HB1.out) (jlt HB1.out hV.size) hN (HBX.out.kept hV (by simp)) (HP8.out.kept hV (by simp)) HOK.out);have HC6:=jh (fun (V:World) (hV:w3.grownBy V none)=>ymE B A n c b (q + 1) ls V (HR.out.grown hV HB1.out) (jlt HB1.out hV.size) hN (HBX.out.kept hV (by simp)) (HP8.out.kept hV (by simp)) HOK.out);have HC7:=jh (fun (V:World) (hV:w3.grownBy V none)=>ymD B A n c b (q) ls V (HR.out.grown hV HB1.out) (jlt HB1.out hV.size) hN (HBX.out.kept hV (by simp)) (HP7.out.kept hV (by simp)));have HSZ:=jh hsz;have hcols:yet ls = [⟨(yaD (colL (fun x:TxV=>decide (x.dst.size = 0)) (fun _=>true) ls)).toArray⟩,⟨(yaD (colL (fun x:TxV=>decide (x.y = 1)) (fun _=>true) ls)).toArray⟩,⟨(catB (colL sigT (fun _=>true) ls)).toArray⟩,⟨(catB (colL (fun x:TxV=>x.dst) (fun _=>true) ls)).toArray⟩,⟨(catB (colL ybv (fun _=>true) ls)).toArray⟩,⟨(rowL (colL (fun x:TxV=>(x.nonce:Int)) (fun _=>true) ls)).toArray⟩,⟨(rowL (colL (fun x:TxV=>(x.gas:Int)) (fun _=>true) ls)).toArray⟩,⟨(yaD (colL (fun x:TxV=>decide (x.chain ≠ 0)) (fun x:TxV=>decide (x.kind = 0)) ls)).toArray⟩]:=rfl;obtain ⟨Q0,hQ0⟩:∃ Q:ByteArray,(⟨(yaD (colL (fun x:TxV=>decide (x.dst.size = 0)) (fun _=>true) ls)).toArray⟩:ByteArray) = Q:=⟨_,rfl⟩;obtain ⟨Q1,hQ1⟩:∃ Q:ByteArray,(⟨(yaD (colL (fun x:TxV=>decide (x.y = 1)) (fun _=>true) ls)).toArray⟩:ByteArray) = Q:=⟨_,rfl⟩;obtain ⟨Q2,hQ2⟩:∃ Q:ByteArray,(⟨(catB (colL sigT (fun _=>true) ls)).toArray⟩:ByteArray) = Q:=⟨_,rfl⟩;obtain ⟨Q3,hQ3⟩:∃ Q:ByteArray,(⟨(catB (colL (fun x:TxV=>x.dst) (fun _=>true) ls)).toArray⟩:ByteArray) = Q:=⟨_,rfl⟩;obtain ⟨Q4,hQ4⟩:∃ Q:ByteArray,(⟨(catB (colL ybv (fun _=>true) ls)).toArray⟩:ByteArray) = Q:=⟨_,rfl⟩;obtain ⟨Q5,hQ5⟩:∃ Q:ByteArray,(⟨(rowL (colL (fun x:TxV=>(x.nonce:Int)) (fun _=>true) ls)).toArray⟩:ByteArray) = Q:=⟨_,rfl⟩;obtain ⟨Q6,hQ6⟩:∃ Q:ByteArray,(⟨(rowL (colL (fun x:TxV=>(x.gas:Int)) (fun _=>true) ls)).toArray⟩:ByteArray) = Q:=⟨_,rfl⟩;obtain ⟨Q7,hQ7⟩:∃ Q:ByteArray,(⟨(yaD (colL (fun x:TxV=>decide (x.chain ≠ 0)) (fun x:TxV=>decide (x.kind = 0)) ls)).toArray⟩:ByteArray) = Q:=⟨_,rfl⟩;rw [hQ0,hQ1,hQ2,hQ3,hQ4,hQ5,hQ6,hQ7] at hcols;rw [hQ0] at HC0;rw [hQ1] at HC1;rw [hQ2] at HC2;rw [hQ3] at HC3;rw [hQ4] at HC4;rw [hQ5] at HC5;rw [hQ6] at HC6;rw [hQ7] at HC7;rw [hcols] at HSZ HLQ;clear hsz hcols HCOK hQ0 hQ1 hQ2 hQ3 hQ4 hQ5 hQ6 hQ7;have HS0:Hid (Q0.size <= 1000000000):=jh (HSZ.out _ (by simp));have HS1:Hid (Q1.size <= 1000000000):=jh (HSZ.out _ (by simp));have HS2:Hid (Q2.size <= 1000000000):=jh (HSZ.out _ (by simp));have HS3:Hid (Q3.size <= 1000000000):=jh (HSZ.out _ (by simp));have HS4:Hid (Q4.size <= 1000000000):=jh (HSZ.out _ (by simp));have HS5:Hid (Q5.size <= 1000000000):=jh (HSZ.out _ (by simp));have HS6:Hid (Q6.size <= 1000000000):=jh (HSZ.out _ (by simp));have HS7:Hid (Q7.size <= 1000000000):=jh (HSZ.out _ (by simp));clear HSZ;go_wp2_with fail
 go_loopw [11,34] (fun v i wr=>∃ (k:Nat) (sb:ByteArray),i = .int .i64 k /\ v = .string sb /\ k <= 8 /\ sb.size <= k * 1000000000 /\ Hid (sb.data.toList = catB ([Q0,Q1,Q2,Q3,Q4,Q5,Q6,Q7].take k)) /\ w3.grownBy wr none) (fun _ i _=>8 - (intOf i).toNat)
 case atStart=>exact ⟨0,.empty,rfl,rfl,by omega,by simp,jh rfl,jr _ _⟩
 case round =>
  obtain ⟨k,sb,rfl,rfl,hk,hs,hsb,hg⟩:=hrel;have HSB:=jh hsb.out;have HGG:=jh hg;have hbs:=HBS.out.grown hg (by simp);clear hsb;rcases (by omega:k = 0 \/ k = 1 \/ k = 2 \/ k = 3 \/ k = 4 \/ k = 5 \/ k = 6 \/ k = 7 \/ k = 8) with rfl | rfl | rfl | rfl | rfl | rfl | rfl | rfl | rfl
  ·have cj:wr.cell? ⟨q + 3,0,none⟩ = some (.func (.func 29) #[] #[.pointer (some ⟨q,0,none⟩)]):=hbs.cell 0;clear hbs;go_wp2_with fail
   refine (HC0.out wr HGG.out).mono ?_;rintro e w6 ⟨rfl,hg6⟩;have hsum:sb.size + Q0.size <= 9223372036854775807:=by have:=HS0.out;omega
   have hsn:(sb ++ Q0).size <= 1 * 1000000000:=by have:=HS0.out;rw [ByteArray.size_append];omega
   have HSN:=jh hsn;have HSB2:Hid ((sb ++ Q0).data.toList = catB ([Q0,Q1,Q2,Q3,Q4,Q5,Q6,Q7].take 1)):=jh (by show _ = catB ([Q0,Q1,Q2,Q3,Q4,Q5,Q6,Q7].take (0 + 1));rw [ybV (by simp),<- HSB.out];simp);have HG6:=jh (yab HGG.out hg6 (by simp));clear hg6 cj hg hsn;go_wp2_with fail
   go_roundw
   case rel=>exact ⟨1,sb ++ Q0,by go_num,rfl,by omega,HSN.out,jh HSB2.out,HG6.out⟩
   case measure=>simp [intOf]
  ·have cj:wr.cell? ⟨q + 3,1,none⟩ = some (.func (.func 31) #[] #[.pointer (some ⟨q,0,none⟩)]):=hbs.cell 1;clear hbs;go_wp2_with fail
   refine (HC1.out wr HGG.out).mono ?_;rintro e w6 ⟨rfl,hg6⟩;have hsum:sb.size + Q1.size <= 9223372036854775807:=by have:=HS1.out;omega
   have hsn:(sb ++ Q1).size <= 2 * 1000000000:=by have:=HS1.out;rw [ByteArray.size_append];omega
   have HSN:=jh hsn;have HSB2:Hid ((sb ++ Q1).data.toList = catB ([Q0,Q1,Q2,Q3,Q4,Q5,Q6,Q7].take 2)):=jh (by show _ = catB ([Q0,Q1,Q2,Q3,Q4,Q5,Q6,Q7].take (1 + 1));rw [ybV (by simp),<- HSB.out];simp);have HG6:=jh (yab HGG.out hg6 (by simp));clear hg6 cj hg hsn;go_wp2_with fail
   go_roundw
   case rel=>exact ⟨2,sb ++ Q1,by go_num,rfl,by omega,HSN.out,jh HSB2.out,HG6.out⟩
   case measure=>simp [intOf]
  ·have cj:wr.cell? ⟨q + 3,2,none⟩ = some (.func (.func 33) #[] #[.pointer (some ⟨q + 2,0,none⟩)]):=hbs.cell 2;clear hbs;go_wp2_with fail
   refine (HC2.out wr HGG.out).mono ?_;rintro e w6 ⟨rfl,hg6⟩;have hsum:sb.size + Q2.size <= 9223372036854775807:=by have:=HS2.out;omega
   have hsn:(sb ++ Q2).size <= 3 * 1000000000:=by have:=HS2.out;rw [ByteArray.size_append];omega
   have HSN:=jh hsn;have HSB2:Hid ((sb ++ Q2).data.toList = catB ([Q0,Q1,Q2,Q3,Q4,Q5,Q6,Q7].take 3)):=jh (by show _ = catB ([Q0,Q1,Q2,Q3,Q4,Q5,Q6,Q7].take (2 + 1));rw [ybV (by simp),<- HSB.out];simp);have HG6:=jh (yab HGG.out hg6 (by simp));clear hg6 cj hg hsn;go_wp2_with fail
   go_roundw
   case rel=>exact ⟨3,sb ++ Q2,by go_num,rfl,by omega,HSN.out,jh HSB2.out,HG6.out⟩
   case measure=>simp [intOf]
  ·have cj:wr.cell? ⟨q + 3,3,none⟩ = some (.func (.func 36) #[] #[.pointer (some ⟨q + 2,0,none⟩)]):=hbs.cell 3;clear hbs;go_wp2_with fail
   refine (HC3.out wr HGG.out).mono ?_;rintro e w6 ⟨rfl,hg6⟩;have hsum:sb.size + Q3.size <= 9223372036854775807:=by have:=HS3.out;omega
   have hsn:(sb ++ Q3).size <= 4 * 1000000000:=by have:=HS3.out;rw [ByteArray.size_append];omega
   have HSN:=jh hsn;have HSB2:Hid ((sb ++ Q3).data.toList = catB ([Q0,Q1,Q2,Q3,Q4,Q5,Q6,Q7].take 4)):=jh (by show _ = catB ([Q0,Q1,Q2,Q3,Q4,Q5,Q6,Q7].take (3 + 1));rw [ybV (by simp),<- HSB.out];simp);have HG6:=jh (yab HGG.out hg6 (by simp));clear hg6 cj hg hsn;go_wp2_with fail
   go_roundw
   case rel=>exact ⟨4,sb ++ Q3,by go_num,rfl,by omega,HSN.out,jh HSB2.out,HG6.out⟩
   case measure=>simp [intOf]
  ·have cj:wr.cell? ⟨q + 3,4,none⟩ = some (.func (.func 38) #[] #[.pointer (some ⟨q + 2,0,none⟩)]):=hbs.cell 4;clear hbs;go_wp2_with fail
   refine (HC4.out wr HGG.out).mono ?_;rintro e w6 ⟨rfl,hg6⟩;have hsum:sb.size + Q4.size <= 9223372036854775807:=by have:=HS4.out;omega
   have hsn:(sb ++ Q4).size <= 5 * 1000000000:=by have:=HS4.out;rw [ByteArray.size_append];omega
   have HSN:=jh hsn;have HSB2:Hid ((sb ++ Q4).data.toList = catB ([Q0,Q1,Q2,Q3,Q4,Q5,Q6,Q7].take 5)):=jh (by show _ = catB ([Q0,Q1,Q2,Q3,Q4,Q5,Q6,Q7].take (4 + 1));rw [ybV (by simp),<- HSB.out];simp);have HG6:=jh (yab HGG.out hg6 (by simp));clear hg6 cj hg hsn;go_wp2_with fail
   go_roundw
   case rel=>exact ⟨5,sb ++ Q4,by go_num,rfl,by omega,HSN.out,jh HSB2.out,HG6.out⟩
   case measure=>simp [intOf]
  ·have cj:wr.cell? ⟨q + 3,5,none⟩ = some (.func (.func 41) #[] #[.pointer (some ⟨q + 1,0,none⟩)]):=hbs.cell 5;clear hbs;go_wp2_with fail
   refine (HC5.out wr HGG.out).mono ?_;rintro e w6 ⟨rfl,hg6⟩;have hsum:sb.size + Q5.size <= 9223372036854775807:=by have:=HS5.out;omega
   have hsn:(sb ++ Q5).size <= 6 * 1000000000:=by have:=HS5.out;rw [ByteArray.size_append];omega
   have HSN:=jh hsn;have HSB2:Hid ((sb ++ Q5).data.toList = catB ([Q0,Q1,Q2,Q3,Q4,Q5,Q6,Q7].take 6)):=jh (by show _ = catB ([Q0,Q1,Q2,Q3,Q4,Q5,Q6,Q7].take (5 + 1));rw [ybV (by simp),<- HSB.out];simp);have HG6:=jh (yab HGG.out hg6 (by simp));clear hg6 cj hg hsn;go_wp2_with fail
   go_roundw
   case rel=>exact ⟨6,sb ++ Q5,by go_num,rfl,by omega,HSN.out,jh HSB2.out,HG6.out⟩
   case measure=>simp [intOf]
  ·have cj:wr.cell? ⟨q + 3,6,none⟩ = some (.func (.func 43) #[] #[.pointer (some ⟨q + 1,0,none⟩)]):=hbs.cell 6;clear hbs;go_wp2_with fail
   refine (HC6.out wr HGG.out).mono ?_;rintro e w6 ⟨rfl,hg6⟩;have hsum:sb.size + Q6.size <= 9223372036854775807:=by have:=HS6.out;omega
   have hsn:(sb ++ Q6).size <= 7 * 1000000000:=by have:=HS6.out;rw [ByteArray.size_append];omega
   have HSN:=jh hsn;have HSB2:Hid ((sb ++ Q6).data.toList = catB ([Q0,Q1,Q2,Q3,Q4,Q5,Q6,Q7].take 7)):=jh (by show _ = catB ([Q0,Q1,Q2,Q3,Q4,Q5,Q6,Q7].take (6 + 1));rw [ybV (by simp),<- HSB.out];simp);have HG6:=jh (yab HGG.out hg6 (by simp));clear hg6 cj hg hsn;go_wp2_with fail
   go_roundw
   case rel=>exact ⟨7,sb ++ Q6,by go_num,rfl,by omega,HSN.out,jh HSB2.out,HG6.out⟩
   case measure=>simp [intOf]
  ·have cj:wr.cell? ⟨q + 3,7,none⟩ = some (.func (.func 45) #[] #[.pointer (some ⟨q,0,none⟩)]):=hbs.cell 7;clear hbs;go_wp2_with fail
   refine (HC7.out wr HGG.out).mono ?_;rintro e w6 ⟨rfl,hg6⟩;have hsum:sb.size + Q7.size <= 9223372036854775807:=by have:=HS7.out;omega
   have hsn:(sb ++ Q7).size <= 8 * 1000000000:=by have:=HS7.out;rw [ByteArray.size_append];omega
   have HSN:=jh hsn;have HSB2:Hid ((sb ++ Q7).data.toList = catB ([Q0,Q1,Q2,Q3,Q4,Q5,Q6,Q7].take 8)):=jh (by show _ = catB ([Q0,Q1,Q2,Q3,Q4,Q5,Q6,Q7].take (7 + 1));rw [ybV (by simp),<- HSB.out];simp);have HG6:=jh (yab HGG.out hg6 (by simp));clear hg6 cj hg hsn;go_wp2_with fail
   go_roundw
   case rel=>exact ⟨8,sb ++ Q7,by go_num,rfl,by omega,HSN.out,jh HSB2.out,HG6.out⟩
   case measure=>simp [intOf]
  ·have hL2:(⟨L.toArray⟩:ByteArray) = sb:=ybM (by rw [HSB.out,HLQ.out];rfl);have HL2:=jh hL2;clear hbs hL2;go_wp2_with fail
   go_ret2
   exact ⟨by rw [HL2.out];rfl,yab HG.out HGG.out (by simp)⟩
theorem yf7 (n p:Nat) (hn:n <= 1000000000) (hp:p = 128 \/ p = 192):∃ z l,yaU n p = z :: l /\ p <= z.toNat /\ z.toNat < p + 64:=by
 have l1:=yey n (by omega);unfold yaU;split
 ·exact ⟨_,_,rfl,by rw [UInt8.toNat_ofNat'];omega,by rw [UInt8.toNat_ofNat'];omega⟩
 ·exact ⟨_,_,rfl,by rw [UInt8.toNat_ofNat'];omega,by rw [UInt8.toNat_ofNat'];omega⟩
theorem yix (b:ByteArray) (h:b.size <= 1000000000):∃ z l,yce b = z :: l /\ z.toNat < 192:=by
 unfold yce;split
 ·rename_i h1
  have hl:b.data.toList.length = 1:=by rw [jb0];exact h1.1
  cases hb:b.data.toList with
  | nil=>rw [hb] at hl;cases hl
  | cons z l=>rw [hb] at h1;exact ⟨z,l,rfl,jc4 h1.2 (by omega)⟩
 ·obtain ⟨z,l,e,h1,h2⟩:=yf7 b.size 128 h (.inl rfl);exact ⟨z,l ++ b.data.toList,by rw [e];rfl,h2⟩
inductive Itm.Form:Itm -> Prop
 | text (b:ByteArray):Itm.Form (.mk false b [])
 | list (xs:List Itm) (h:∀ x,x ∈ xs -> Itm.Form x):Itm.Form (.mk true ⟨#[]⟩ xs)
theorem yej {b:ByteArray} (h:b.size = 0):b = ⟨#[]⟩:=ybM (by
 have:b.data.toList.length = 0:=by rw [jb0];exact h
 exact jb7 this)
mutual
theorem ymz:∀ (x:Itm) (d:Nat),yaP x d = 0 -> x.Form
 | .mk l b xs,d,h=>by
  rw [yaP] at h;split at h
  ·cases h
  rename_i h1
  cases l with
  | false =>
   have:xs = []:=jb7 (Classical.byContradiction fun h2=>h1 (.inr ⟨rfl,h2⟩));subst this;exact .text b
  | true =>
   have hb:=yej (b:=b) (Classical.byContradiction fun h2=>h1 (.inl ⟨rfl,h2⟩));subst hb;rw [if_neg (by simp)] at h;split at h
   ·cases h
   split at h
   ·cases h
   exact .list xs (form_ofL xs (d + 1) h)
theorem form_ofL:∀ (xs:List Itm) (d:Nat),formL xs d = 0 -> ∀ x,x ∈ xs -> x.Form
 | [],d,_,x,hx=>by cases hx
 | y :: ys,d,h,x,hx=>by
  rw [formL] at h;split at h
  ·rename_i h1;exact absurd h h1
  ·rename_i h1
   rcases je6.1 hx with e | hx
   ·rw [e];exact ymz y d (by simpa using h1)
   ·exact form_ofL ys d h x hx
end
theorem ype {xs:List Itm} {x:Itm} (h:x ∈ xs):wtF x <= wtL xs:=by
 induction xs with
 | nil=>cases h
 | cons y ys ih =>
  rw [wtL];rcases je6.1 h with rfl | h
  ·omega
  ·have:=ih h;omega
theorem yiy (x:Itm) (h:wtF x <= 1000000000):∃ z l,yau x = z :: l /\ (x.list = true -> 192 <= z.toNat) /\ (x.list = false -> z.toNat < 192):=by
 have hw:=ydO x;have hl:=bytesL_len x.items (by omega);rw [ydo];cases hx:x.list with
 | true =>
  obtain ⟨z,l,e,h1,_⟩:=yf7 (bytesL x.items).length 192 (by omega) (.inr rfl);exact ⟨z,l ++ bytesL x.items,by rw [if_pos rfl,e];rfl,fun _=>h1,(fun h=>by cases h)⟩
 | false =>
  obtain ⟨z,l,e,h1⟩:=yix x.bytes (by omega);exact ⟨z,l,by rw [if_neg (by simp)];exact e,(fun h=>by cases h),fun _=>h1⟩
theorem yla {x:Itm} (h:ybU x = 0):x.Form /\ (yau x).length <= 65536 /\ yaP x 0 = 0:=by
 unfold ybU at h;split at h
 ·rename_i h1;exact absurd h h1
 ·rename_i h1
  have h1:yaP x 0 = 0:=by simpa using h1
  split at h
  ·cases h
  ·exact ⟨ymz x 0 h1,by omega,h1⟩

theorem yd5 {k:Nat} {l:List UInt8} {a q:Nat} {x:Itm} (h:ybx k l a = .ok (x,q)):yaV l (a:Int) = 0 /\ x.list = ybW l (a:Int) /\ q = yag l (a:Int) + ya5 l (a:Int):=by
 have key:∀ sub,ydg sub l a = .ok (x,q) -> yaV l (a:Int) = 0 /\ x.list = ybW l (a:Int) /\ q = yag l (a:Int) + ya5 l (a:Int):=by
  intro sub h;unfold ydg at h;split at h
  ·cases h
  split at h
  ·cases h
  rename_i h2
  have h2:yaV l (a:Int) = 0:=by simpa using h2
  split at h
  ·rename_i h3
   injection h with h;injection h with h4 h5;subst h4;exact ⟨h2,by rw [h3];rfl,h5.symm⟩
  rename_i h3
  split at h
  ·cases h
  ·split at h
   ·cases h
   ·injection h with h;injection h with h4 h5;subst h4;exact ⟨h2,by rw [show ybW l (a:Int) = true by simpa using h3];rfl,h5.symm⟩
 cases k with
 | zero=>exact key none h
 | succ k=>exact key _ h
theorem yfF {l:List UInt8} {x:Itm} (h:yb7 l = .ok x):yaV l 0 = 0 /\ x.list = ybW l 0 /\ yag l 0 + ya5 l 0 = l.length:=by
 unfold yb7 at h;split at h
 ·cases h
 ·split at h
  ·cases h
  ·rename_i y q hi
   split at h
   ·cases h
   ·rename_i hq
    injection h with h;subst h;obtain ⟨h1,h2,h3⟩:=yd5 hi;have h4:=(ybN h1).2.1;simp only [Int.ofNat_zero] at h1 h2 h3 h4;exact ⟨h1,h2,by omega⟩
noncomputable section
open Classical
end
def Agree (l:List UInt8) (a:Nat) (l':List UInt8) (a' n:Nat):Prop:=∀ j,j < n -> l'[a' + j]? = l[a + j]?
theorem Agree.take {l l':List UInt8} {a a' n:Nat} (h:Agree l a l' a' n) {m1 m2:Nat} (hm:m1 + m2 <= n):(l'.drop (a' + m1)).take m2 = (l.drop (a + m1)).take m2:=by
 apply List.ext_getElem?;intro i;rw [List.getElem?_take,List.getElem?_take];split
 ·rw [List.getElem?_drop,List.getElem?_drop];have:=h (m1 + i) (by omega);rw [<- Nat.add_assoc,<- Nat.add_assoc] at this;exact this
 ·rfl
theorem Agree.head {l l':List UInt8} {a a' n:Nat} (h:Agree l a l' a' n) {m:Nat} (hm:m < n):ya1 l' (a' + m) = ya1 l (a + m):=by
 unfold ya1;rw [jg,jg,h m hm]
theorem Agree.size {l l':List UInt8} {a a' n:Nat} (h:Agree l a l' a' n) (h0:0 < n) (hn:a + n <= l.length):a' + n <= l'.length:=by
 have:=h (n - 1) (by omega);rw [je (l:=l) (by omega)] at this;have:=(jc9.1 this).1;omega
theorem ye5 {l l':List UInt8} {a a':Nat} (h:yaV l (a:Int) = 0) (hag:Agree l a l' a' (yag l (a:Int) + ya5 l (a:Int) - a)) :
  yaV l' (a':Int) = 0 /\ yag l' (a':Int) = a' + (yag l (a:Int) - a) /\ ya5 l' (a':Int) = ya5 l (a:Int) /\ ybW l' (a':Int) = ybW l (a:Int):=by
 obtain ⟨b0,b1,b2,b3,b4,b5⟩:=ybN h;have e1:yag l (a:Int) = ybb l a:=by unfold yag;rw [if_pos h,jnc]
 have e2:ya5 l (a:Int) = rawN l a:=by unfold ya5;rw [if_pos h,jnc]
 rw [e1,e2] at hag b1 b3;rw [e1] at b2;have hsz:=hag.size (by omega) (by omega);have hc:ya1 l' a' = ya1 l a:=hag.head (m:=0) (by omega);have hl:yaV l (a:Int) = 0:=h;unfold yaV at h;split at h
 ·cases h
 split at h
 ·cases h
 rw [jnc] at h;split at h
 ·rename_i g;exact absurd h g
 rename_i g3
 split at h
 ·cases h
 rename_i g4
 split at h
 ·cases h
 rename_i g5
 have g3:rawE l a = 0:=by simpa using g3
 have key:rawE l' a' = 0 /\ ybb l' a' = a' + (ybb l a - a) /\ rawN l' a' = rawN l a:=by
  unfold rawE ybb rawN at *;rw [hc];split
  ·rename_i c1;simp only [if_pos c1] at *;exact ⟨trivial,by omega,trivial⟩
  ·rename_i c1
   simp only [if_neg c1] at *;split
   ·rename_i c2;simp only [if_pos c2] at *;exact ⟨trivial,by omega,trivial⟩
   ·rename_i c2
    simp only [if_neg c2] at *;generalize hm:(ya1 l a - 128) % 64 - 55 = m at *
    have hlB:lenB l' a' m = lenB l a m:=by
     unfold lenB;rw [hag.take (m1:=1) (m2:=m) (by omega)]
    have hb:ya1 l' (a' + 1) = ya1 l (a + 1):=hag.head (m:=1) (by omega);unfold ya1 at hb;refine ⟨?_,by omega,hlB⟩;unfold ybn at g3 ⊢;rw [hlB,hb];split at g3
    ·cases g3
    rename_i q1
    split at g3
    ·cases g3
    rename_i q2
    split at g3
    ·cases g3
    rename_i q3
    rw [if_neg q1,if_neg (by omega),if_neg q3]
 obtain ⟨k1,k2,k3⟩:=key
 have hE:yaV l' (a':Int) = 0:=by
  unfold yaV;rw [if_neg (by omega),if_neg (by omega),jnc,if_neg (by rw [k1];simp),if_neg (by omega),if_neg];rintro ⟨q1,q2⟩;rw [hc] at q1
  have hb:ya1 l' (a' + 1) = ya1 l (a + 1):=hag.head (m:=1) (by
   unfold ybb rawN;rw [q1];simp;omega)
  exact g5 ⟨q1,by rw [<- hb];exact q2⟩
 refine ⟨hE,?_,?_,?_⟩
 ·unfold yag;rw [if_pos hE,if_pos hl,jnc,jnc];exact k2
 ·unfold ya5;rw [if_pos hE,if_pos hl,jnc,jnc];exact k3
 ·unfold ybW;rw [if_pos hE,if_pos hl,jnc,jnc,hc]
theorem yiW {rd rd':Nat -> Except Int (Itm × Nat)} {en d d':Nat} (hd:d <= en)
  (hrd:∀ p x q,d <= p -> p < en -> rd p = .ok (x,q) -> d <= q /\ rd' (p - d + d') = .ok (x,q - d + d')) (f:Nat):∀ (i p:Nat) (xs:List Itm),d <= p -> ya9 rd en f i p = .ok xs -> ya9 rd' (en - d + d') f i (p - d + d') = .ok xs:=by
 induction f with
 | zero=>intro i p xs _ h;cases h
 | succ f ih =>
  intro i p xs hp h;unfold ya9 at h ⊢;by_cases h1:p < en
  ·rw [if_pos h1] at h;rw [if_pos (by omega)];by_cases h2:512 <= i
   ·rw [if_pos h2] at h;cases h
   ·rw [if_neg h2] at h ⊢;split at h
    ·cases h
    ·rename_i x q hx
     obtain ⟨hq,hx'⟩:=hrd p x q hp h1 hx;rw [hx'];split at h
     ·cases h
     ·rename_i ys hys
      have:=ih (i + 1) q ys hq hys;show (match ya9 rd' (en - d + d') f (i + 1) (q - d + d') with | .error e=>_ | .ok ys=>_) = _;rw [this];exact h
  ·rw [if_neg h1] at h;rw [if_neg (by omega)];exact h
theorem ykJ:∀ (k k':Nat),k <= k' -> ∀ {l l':List UInt8} {a a' q:Nat} {x:Itm},ybx k l a = .ok (x,q) -> Agree l a l' a' (q - a) -> ybx k' l' a' = .ok (x,q - a + a'):=by
 intro k
 induction k with
 | zero =>
  intro k' hk l l' a a' q x h hag;obtain ⟨h1,h2,h3⟩:=yd5 h;subst h3;obtain ⟨b0,b1,b2,b3,b4,b5⟩:=ybN h1;obtain ⟨s1,s2,s3,s4⟩:=ye5 h1 hag;have h:ydg none l a = _:=h;unfold ydg at h;rw [if_neg (by rintro hh;rw [if_pos hh] at h;cases h),if_neg (by simpa using h1)] at h;split at h
  ·rename_i hl
   injection h with h;injection h with h _;rw [ycl (by rintro ⟨_,g,_⟩;rw [hl] at s4;rw [(ybN s1).2.2.2.2.2] at s4;simp at s4;omega) s1 (by rw [s4,hl]),s2,s3,<- h];have:=hag.take (m1:=yag l (a:Int) - a) (m2:=ya5 l (a:Int)) (by omega);rw [show a + (yag l (a:Int) - a) = yag l (a:Int) by omega] at this;rw [this,show a' + (yag l (a:Int) - a) + ya5 l (a:Int) = yag l (a:Int) + ya5 l (a:Int) - a + a' by omega]
  ·cases h
 | succ k ih =>
  intro k' hk l l' a a' q x h hag;obtain ⟨k',rfl⟩:∃ j,k' = j + 1:=⟨k' - 1,by omega⟩;obtain ⟨h1,h2,h3⟩:=yd5 h;subst h3;obtain ⟨b0,b1,b2,b3,b4,b5⟩:=ybN h1;obtain ⟨s1,s2,s3,s4⟩:=ye5 h1 hag;have hsz:=hag.size (by omega) (by omega);cases hl:ybW l (a:Int) with
  | false =>
   rw [ycl (by rintro ⟨_,_,g⟩;cases g) h1 hl] at h;injection h with h;injection h with h _;rw [ycl (by rintro ⟨_,_,g⟩;cases g) s1 (by rw [s4,hl]),s2,s3,<- h];have:=hag.take (m1:=yag l (a:Int) - a) (m2:=ya5 l (a:Int)) (by omega);rw [show a + (yag l (a:Int) - a) = yag l (a:Int) by omega] at this;rw [this,show a' + (yag l (a:Int) - a) + ya5 l (a:Int) = yag l (a:Int) + ya5 l (a:Int) - a + a' by omega]
  | true =>
   rw [yd6 h1 hl] at h;rw [yd6 s1 (by rw [s4,hl]),s2,s3];generalize yag l (a:Int) = F at *;generalize ya5 l (a:Int) = N at *;have e1:a' + (F - a) + N = F + N - a + a':=by omega
   have e2:a' + (F - a) = F - a + a':=by omega
   rw [e1,e2];split at h
   ·cases h
   ·rename_i xs hxs
    injection h with h;injection h with h _
    have:=yiW (rd:=ybx k (l.take (F + N))) (rd':=ybx k' (l'.take (F + N - a + a'))) (en:=F + N) (d:=a) (d':=a') (by omega) (fun p y q hp hpe hy=>by
     obtain ⟨g1,g2,g3⟩:=yd5 hy;obtain ⟨c0,c1,c2,c3,_,_⟩:=ybN g1;rw [<- g3] at c1 c3;rw [jd4] at c1;refine ⟨by omega,?_⟩;rw [ih k' (by omega) hy (l':=l'.take (F + N - a + a')) (a':=p - a + a') (fun j hj=>?_),show q - p + (p - a + a') = q - a + a' by omega];rw [jc3 (by omega),jc3 (by omega)];have:=hag (p - a + j) (by omega);rw [show a' + (p - a + j) = p - a + a' + j by omega,show a + (p - a + j) = p + j by omega] at this;exact this) 513 0 F xs b2 hxs
    rw [this,<- h]
theorem ykE {rd:Nat -> Except Int (Itm × Nat)} {en f i p:Nat} {x:Itm} {xs:List Itm} (h:ya9 rd en f i p = .ok (x :: xs)):p < en /\ ∃ q,rd p = .ok (x,q) /\ ya9 rd en (f - 1) (i + 1) q = .ok xs:=by
 cases f with
 | zero=>cases h
 | succ f =>
  unfold ya9 at h;by_cases h1:p < en
  ·rw [if_pos h1] at h;by_cases h2:512 <= i
   ·rw [if_pos h2] at h;cases h
   ·rw [if_neg h2] at h;split at h
    ·cases h
    ·rename_i y q hy
     split at h
     ·cases h
     ·rename_i ys hys
      injection h with h;injection h with h3 h4;subst h3;subst h4;exact ⟨h1,q,hy,hys⟩
  ·rw [if_neg h1] at h;injection h with h;cases h
theorem ykF {rd:Nat -> Except Int (Itm × Nat)} {en f i p:Nat} (h:ya9 rd en f i p = .ok []):¬ p < en:=by
 cases f with
 | zero=>cases h
 | succ f =>
  unfold ya9 at h;intro h1;rw [if_pos h1] at h;by_cases h2:512 <= i
  ·rw [if_pos h2] at h;cases h
  ·rw [if_neg h2] at h;split at h
   ·cases h
   ·split at h
    ·cases h
    ·injection h with h;cases h
theorem ynq (n base:Nat) (t:List UInt8) (hn:n <= 65536) (hb:base = 128 \/ base = 192) :
  128 <= ya1 (yaU n base ++ t) 0 /\ (192 <= ya1 (yaU n base ++ t) 0 ↔ base = 192) /\ rawE (yaU n base ++ t) 0 = 0 /\ ybb (yaU n base ++ t) 0 = (yaU n base).length /\ rawN (yaU n base ++ t) 0 = n /\ (ya1 (yaU n base ++ t) 0 = 129 -> base = 128 /\ n = 1):=by
 by_cases h:n < 56
 ·rw [show yaU n base = [UInt8.ofNat (base + n)] from if_pos h]
  have hc:ya1 ([UInt8.ofNat (base + n)] ++ t) 0 = base + n:=by
   show (UInt8.ofNat (base + n)).toNat = _;rw [UInt8.toNat_ofNat'];omega
  unfold rawE ybb rawN;rw [hc];have q1:¬ base + n < 128:=by omega
  have q2:(base + n - 128) % 64 = n:=by omega
  rw [if_neg q1,if_neg q1,if_neg q1,q2,if_pos h,if_pos h,if_pos h];exact ⟨by omega,by omega,rfl,rfl,rfl,by omega⟩
 ·rw [show yaU n base = UInt8.ofNat (base + 55 + (beN n).length) :: beN n from if_neg h];have hm3:=yoj n (by omega);have hm1:=yoX (n:=n) (by omega) (by omega);have hv:=yht n (Nat.lt_of_le_of_lt hn (by decide));have hf:=yi1 n;generalize beN n = r at *
  have hc:ya1 (UInt8.ofNat (base + 55 + r.length) :: r ++ t) 0 = base + 55 + r.length:=by
   show (UInt8.ofNat (base + 55 + r.length)).toNat = _;rw [UInt8.toNat_ofNat'];omega
  have hB:lenB (UInt8.ofNat (base + 55 + r.length) :: r ++ t) 0 r.length = n:=by
   unfold lenB;rw [show (UInt8.ofNat (base + 55 + r.length) :: r ++ t).drop (0 + 1) = r ++ t from rfl,List.take_left' rfl];exact hv
  have hz:(UInt8.ofNat (base + 55 + r.length) :: r ++ t).getD (0 + 1) 0 = r.getD 0 0:=by
   cases r with
   | nil=>simp at hm1
   | cons a r=>rfl
  have hE:ybn (UInt8.ofNat (base + 55 + r.length) :: r ++ t) 0 r.length = 0:=by
   unfold ybn;rw [if_neg (by omega),if_neg (by simp only [List.cons_append,jlc,jla];omega),if_neg];rw [hz,hB];rintro (g | g)
   ·rcases hf with f | f
    ·rw [f] at hm1;simp at hm1
    ·exact f (UInt8.toNat_inj.1 (by rw [g];rfl))
   ·omega
  unfold rawE ybb rawN;rw [hc];have q1:¬ base + 55 + r.length < 128:=by omega
  have q2:(base + 55 + r.length - 128) % 64 = 55 + r.length:=by omega
  have q3:¬ 55 + r.length < 56:=by omega
  rw [if_neg q1,if_neg q1,if_neg q1,q2,if_neg q3,if_neg q3,if_neg q3,show 55 + r.length - 55 = r.length by omega,hE,hB];exact ⟨by omega,by omega,rfl,by simp;omega,rfl,by omega⟩
theorem yep (n base:Nat):1 <= (yaU n base).length:=by unfold yaU;split <;> simp
theorem yia (n base:Nat) (t:List UInt8) (hn:n <= 65536) (hb:base = 128 \/ base = 192) (ht:n <= t.length) (h1:¬ (base = 128 /\ n = 1 /\ (t.getD 0 0).toNat < 128)) :
  yaV (yaU n base ++ t) ((0:Nat):Int) = 0 /\ yag (yaU n base ++ t) ((0:Nat):Int) = (yaU n base).length /\ ya5 (yaU n base ++ t) ((0:Nat):Int) = n /\ ybW (yaU n base ++ t) ((0:Nat):Int) = decide (base = 192):=by
 obtain ⟨r1,r2,r3,r4,r5,r6⟩:=ynq n base t hn hb;have hp:=yep n base;have hl:(yaU n base ++ t).length = (yaU n base).length + t.length:=jla
 have hE:yaV (yaU n base ++ t) ((0:Nat):Int) = 0:=by
  unfold yaV;rw [if_neg (by omega),if_neg (by omega),jnc,if_neg (by rw [r3];simp),if_neg (by omega),if_neg];rintro ⟨g1,g2⟩;obtain ⟨e1,e2⟩:=r6 g1;subst e1;subst e2
  exact h1 ⟨rfl,rfl,by cases t with
   | nil=>exact g2
   | cons a t=>exact g2⟩
 refine ⟨hE,?_,?_,?_⟩
 ·unfold yag;rw [if_pos hE,jnc,r4]
 ·unfold ya5;rw [if_pos hE,jnc,r5]
 ·unfold ybW;rw [if_pos hE,jnc];exact decide_eq_decide.2 r2
theorem ylf (b:ByteArray):1 <= (yce b).length:=by
 have h2:b.data.toList.length = b.size:=jb0;unfold yce;split
 ·omega
 ·rw [jla];have:=yep b.size 128;omega
theorem ygH (x:Itm):1 <= (yau x).length:=by
 rw [ydo];split
 ·rw [jla];have:=yep (bytesL x.items).length 192;omega
 ·exact ylf _
theorem yig {l:List UInt8} {a:Nat} (h:yaV l (a:Int) = 0) (hc:128 <= ya1 l a):(l.drop a).take (yag l (a:Int) - a) = yaU (ya5 l (a:Int)) (if 192 <= ya1 l a then 192 else 128):=by
 obtain ⟨b0,b1,b2,b3,b4,b5⟩:=ybN h;have e1:yag l (a:Int) = ybb l a:=by unfold yag;rw [if_pos h,jnc]
 have e2:ya5 l (a:Int) = rawN l a:=by unfold ya5;rw [if_pos h,jnc]
 rw [e1] at b1 b2 b3 b4 ⊢;rw [e2] at b1 b3 ⊢;unfold yaV at h;rw [if_neg (by omega),if_neg (by omega),jnc] at h;split at h
 ·rename_i g;exact absurd h g
 rename_i g
 have g:rawE l a = 0:=by simpa using g
 clear h b5 e1 e2
 have hd:l.drop a = UInt8.ofNat (ya1 l a) :: l.drop (a + 1):=by
  rw [jdc b0];unfold ya1;rw [UInt8.ofNat_toNat,jg,je b0];rfl
 have hlt:=yeX l a;unfold rawE at g;unfold ybb rawN at *;have n1:¬ ya1 l a < 128:=by omega
 simp only [if_neg n1] at *;by_cases h2:(ya1 l a - 128) % 64 < 56
 ·simp only [if_pos h2] at *;rw [show a + 1 - a = 1 by omega,hd];unfold yaU;rw [if_pos h2,show (if 192 <= ya1 l a then 192 else 128) + (ya1 l a - 128) % 64 = ya1 l a by split <;> omega];rfl
 ·simp only [if_neg h2] at *;generalize hm:(ya1 l a - 128) % 64 - 55 = m at *;unfold ybn at g;split at g
  ·cases g
  rename_i g1
  split at g
  ·cases g
  rename_i g2
  split at g
  ·cases g
  rename_i g3
  have hlen:((l.drop (a + 1)).take m).length = m:=by rw [jd4,List.length_drop];omega
  have hbe:beN (lenB l a m) = (l.drop (a + 1)).take m:=by
   show beN (beV _) = _;refine ymQ _ (by omega) ?_;rw [jg,jc3 (by omega),List.getElem?_drop,Nat.add_zero,<- jg];intro e;exact g3 (.inl (by rw [e];rfl))
  unfold yaU;rw [if_neg (by omega),hbe,hlen,show a + 1 + m - a = m + 1 by omega,hd,List.take_succ_cons,show (if 192 <= ya1 l a then 192 else 128) + 55 + m = ya1 l a by split <;> omega]
theorem ylw (b:ByteArray) (k:Nat) (h:(yce b).length <= 65536):ybx k (yce b) 0 = .ok (.mk false b [],(yce b).length):=by
 have h2:b.data.toList.length = b.size:=jb0;unfold yce at h ⊢;by_cases h1:b.size = 1 /\ (b.data.toList.getD 0 0).toNat < 128
 ·rw [if_pos h1] at h ⊢;cases hb:b.data.toList with
  | nil=>rw [hb] at h2;simp at h2;omega
  | cons z r =>
   rw [hb] at h2 h1;obtain rfl:r = []:=jb7 (by simp at h2;omega);have hz:ya1 [z] 0 < 128:=h1.2;have e1:rawE [z] 0 = 0:=if_pos hz;have e2:ybb [z] 0 = 0:=if_pos hz;have e3:rawN [z] 0 = 1:=if_pos hz
   have hE:yaV [z] ((0:Nat):Int) = 0:=by
    unfold yaV;rw [if_neg (by simp),if_neg (by simp),jnc,if_neg (by rw [e1];simp),if_neg (by rw [e2,e3];simp),if_neg (by omega)]
   have hF:yag [z] ((0:Nat):Int) = 0:=by unfold yag;rw [if_pos hE,jnc,e2]
   have hN:ya5 [z] ((0:Nat):Int) = 1:=by unfold ya5;rw [if_pos hE,jnc,e3]
   have hL:ybW [z] ((0:Nat):Int) = false:=by unfold ybW;rw [if_pos hE,jnc];exact decide_eq_false (by omega)
   rw [ycl (by omega) hE hL,hF,hN];have:b = ⟨#[z]⟩:=ybM (by rw [hb]);rw [this];rfl
 ·rw [if_neg h1] at h ⊢;rw [jla,h2] at h;obtain ⟨q1,q2,q3,q4⟩:=yia b.size 128 b.data.toList (by omega) (.inl rfl) (by omega) (by rintro ⟨_,g1,g2⟩;exact h1 ⟨g1,g2⟩);have q4:ybW (yaU b.size 128 ++ b.data.toList) ((0:Nat):Int) = false:=q4;have q5:=(ybN q1).2.2.2.2.2;rw [q4] at q5;have q5:¬ 192 <= ya1 (yaU b.size 128 ++ b.data.toList) 0:=of_decide_eq_false q5.symm;rw [ycl (fun g=>q5 g.2.1) q1 q4,q2,q3,List.drop_left' rfl,jtl (by omega),jla,h2]
mutual
theorem yi2:∀ (x:Itm) (k:Nat),k <= 12 -> yaP x (12 - k) = 0 -> (yau x).length <= 65536 -> ybx k (yau x) 0 = .ok (x,(yau x).length)
 | .mk l b xs,k,hk,hf,hl=>by
  rw [yaP] at hf;rw [yau] at hl ⊢;split at hf
  ·cases hf
  rename_i h1
  cases l with
  | false =>
   have:xs = []:=jb7 (Classical.byContradiction fun h2=>h1 (.inr ⟨rfl,h2⟩));subst this;exact ylw b k hl
  | true =>
   have hb:=yej (b:=b) (Classical.byContradiction fun h2=>h1 (.inl ⟨rfl,h2⟩));subst hb;rw [if_neg (by simp)] at hf;split at hf
   ·cases hf
   rename_i h3
   split at hf
   ·cases hf
   rename_i h4
   obtain ⟨j,rfl⟩:∃ j,k = j + 1:=⟨k - 1,by omega⟩;rw [show 12 - (j + 1) + 1 = 12 - j by omega] at hf;rw [if_pos rfl] at hl ⊢;have hl2:=hl;rw [jla] at hl2;obtain ⟨q1,q2,q3,q4⟩:=yia (bytesL xs).length 192 (bytesL xs) (by omega) (.inr rfl) (by omega) (by omega)
   rw [yd6 q1 (by rw [q4];rfl),q2,q3,<- jla,List.take_length,
    back_items xs j (by omega) hf (yaU (bytesL xs).length 192 ++ bytesL xs) (yaU (bytesL xs).length 192).length 0 513 hl (by rw [List.drop_left' rfl]) (by rw [jla]) (by omega) (by omega)]
   rfl
theorem back_items:∀ (xs:List Itm) (k:Nat),k <= 12 -> formL xs (12 - k) = 0 -> ∀ (L:List UInt8) (p i f:Nat),L.length <= 65536 -> L.drop p = bytesL xs -> p + (bytesL xs).length = L.length -> xs.length + i <= 512 -> xs.length < f -> ya9 (ybx k L) L.length f i p = .ok xs
 | [],k,hk,hf,L,p,i,f,hL,hd,hp,hi,hff=>by
  obtain ⟨f,rfl⟩:∃ j,f = j + 1:=⟨f - 1,by simp at hff;omega⟩;unfold ya9;rw [bytesL] at hp;rw [if_neg (by simp at hp;omega)]
 | x :: xs,k,hk,hf,L,p,i,f,hL,hd,hp,hi,hff=>by
  obtain ⟨f,rfl⟩:∃ j,f = j + 1:=⟨f - 1,by simp at hff;omega⟩;rw [formL] at hf;split at hf
  ·rename_i h1;exact absurd hf h1
  rename_i h1
  have h1:yaP x (12 - k) = 0:=by simpa using h1
  rw [bytesL] at hd hp;rw [jla] at hp;rw [jlc] at hi hff;have hx:=yi2 x k hk h1 (by omega)
  have hs:=ykJ k k (jle _) hx (l':=L) (a':=p) (fun j hj=>by
   have:=congrArg (fun l=>l[j]?) hd;simp only [List.getElem?_drop] at this;rw [this,jal (by omega),jd6])
  have hpos:=ygH x;rw [Nat.sub_zero] at hs
  have hr:=back_items xs k hk hf L ((yau x).length + p) (i + 1) f hL (by
   rw [Nat.add_comm,<- List.drop_drop,hd,List.drop_left' rfl]) (by omega) (by omega) (by omega)
  unfold ya9;rw [if_pos (by omega),if_neg (by omega),hs];show (match ya9 (ybx k L) L.length f (i + 1) ((yau x).length + p) with | .error e=>Except.error e | .ok ys=>.ok (x :: ys)) = _;rw [hr]
end
theorem yjk {x:Itm} (h:ybU x = 0):yb7 (yau x) = .ok x:=by
 obtain ⟨h1,h2,h3⟩:=yla h;unfold yb7;rw [if_neg (by omega),yi2 x 12 (by omega) h3 h2];exact if_neg (by omega)
theorem ykD {l:List UInt8} {rd:Nat -> Except Int (Itm × Nat)} {en d:Nat} (hen:en <= l.length)
  (hrd:∀ p y q,rd p = .ok (y,q) -> p < q /\ q <= en /\ yau y = (l.drop p).take (q - p) /\ yaP y d = 0 /\ wtF y <= 11 * (q - p)) (f:Nat) :
  ∀ (i p:Nat) (xs:List Itm),p <= en -> i <= 512 -> ya9 rd en f i p = .ok xs -> bytesL xs = (l.drop p).take (en - p) /\ formL xs d = 0 /\ wtL xs <= 11 * (en - p) /\ xs.length + i <= 512:=by
 induction f with
 | zero=>intro i p xs _ _ h;cases h
 | succ f ih =>
  intro i p xs hp hi h;cases xs with
  | nil =>
   have:=ykF h;obtain rfl:p = en:=by omega
   rw [Nat.sub_self,List.take_zero];exact ⟨rfl,rfl,by simp [wtL],by simp;omega⟩
  | cons x xs =>
   obtain ⟨h1,q,h2,h3⟩:=ykE h
   have hi2:i < 512:=by
    unfold ya9 at h;rw [if_pos h1] at h;by_cases g:512 <= i
    ·rw [if_pos g] at h;cases h
    ·omega
   obtain ⟨r1,r2,r3,r4,r5⟩:=hrd _ _ _ h2;obtain ⟨s1,s2,s3,s4⟩:=ih (i + 1) q xs r2 (by omega) h3;refine ⟨?_,?_,?_,?_⟩
   ·rw [bytesL,r3,s1,show en - p = (q - p) + (en - q) by omega,List.take_add,List.drop_drop,show p + (q - p) = q by omega]
   ·rw [formL,if_neg (by rw [r4];simp)];exact s2
   ·rw [wtL];omega
   ·rw [jlc];omega
theorem ylT:∀ (k:Nat),k <= 12 -> ∀ {l:List UInt8} {a q:Nat} {x:Itm},ybx k l a = .ok (x,q) -> yau x = (l.drop a).take (q - a) /\ yaP x (12 - k) = 0 /\ wtF x <= 11 * (q - a):=by
 have text:∀ {l:List UInt8} {a d:Nat},yaV l (a:Int) = 0 -> ybW l (a:Int) = false -> yau (.mk false ⟨((l.drop (yag l a)).take (ya5 l a)).toArray⟩ []) = (l.drop a).take (yag l a + ya5 l a - a) /\ yaP (.mk false ⟨((l.drop (yag l a)).take (ya5 l a)).toArray⟩ []) d = 0 /\ wtF (.mk false ⟨((l.drop (yag l a)).take (ya5 l a)).toArray⟩ []) <= 11 * (yag l a + ya5 l a - a):=by
  intro l a d h hL;obtain ⟨b0,b1,b2,b3,b4,b5⟩:=ybN h;rw [hL] at b5;have b5:¬ 192 <= ya1 l a:=of_decide_eq_false b5.symm;have hz:((l.drop (yag l a)).take (ya5 l a)).length = ya5 l a:=by rw [jd4,List.length_drop];omega
  refine ⟨?_,?_,?_⟩
  ·rw [yau,if_neg (by simp)];unfold yce
   have hsz:(ByteArray.mk ((l.drop (yag l a)).take (ya5 l a)).toArray).size = ya5 l a:=by
    show (List.toArray _).size = _;rw [jd9,hz]
   rw [hsz];show (if _ /\ ((((l.drop (yag l a)).take (ya5 l a))).getD 0 0).toNat < 128 then (l.drop (yag l a)).take (ya5 l a) else _ ++ (l.drop (yag l a)).take (ya5 l a)) = _
   have hg:0 < ya5 l a -> (((l.drop (yag l a)).take (ya5 l a)).getD 0 0).toNat = ya1 l (yag l a):=by
    intro h0;unfold ya1;rw [jg,jc3 h0,List.getElem?_drop,Nat.add_zero,<- jg]
   by_cases hc:ya1 l a < 128
   ·have e1:yag l (a:Int) = a:=by unfold yag;rw [if_pos h,jnc];exact if_pos hc
    have e2:ya5 l (a:Int) = 1:=by unfold ya5;rw [if_pos h,jnc];exact if_pos hc
    rw [if_pos ⟨e2,by rw [hg (by omega),e1];exact hc⟩,e1,e2,show a + 1 - a = 1 by omega]
   ·have hh:=yig h (by omega);rw [if_neg b5] at hh;rw [if_neg,<- hh]
    ·conv=>rhs;rw [show yag l (a:Int) + ya5 l (a:Int) - a = (yag l (a:Int) - a) + ya5 l (a:Int) by omega,List.take_add,List.drop_drop,show a + (yag l (a:Int) - a) = yag l (a:Int) by omega]
    ·rintro ⟨g1,g2⟩;rw [hg (by omega)] at g2;have e1:yag l (a:Int) = ybb l a:=by unfold yag;rw [if_pos h,jnc]
     have e2:ya5 l (a:Int) = rawN l a:=by unfold ya5;rw [if_pos h,jnc]
     rw [e2] at g1;rw [e1] at g2;have h':=h;unfold yaV at h';rw [if_neg (by omega),if_neg (by omega),jnc] at h';split at h'
     ·rename_i g;exact absurd h' g
     rename_i gE
     have gE:rawE l a = 0:=by simpa using gE
     split at h'
     ·cases h'
     split at h'
     ·cases h'
     rename_i g4
     unfold rawE at gE;unfold rawN at g1;unfold ybb at g2;rw [if_neg hc] at gE g1 g2;have hlt:=yeX l a;split at g1
     ·rename_i g5
      rw [if_pos g5] at g2;exact g4 ⟨by omega,g2⟩
     ·rename_i g5
      rw [if_neg g5] at gE;unfold ybn at gE;split at gE
      ·cases gE
      split at gE
      ·cases gE
      split at gE
      ·cases gE
      rename_i g6
      exact g6 (.inr (by omega))
  ·rw [yaP,if_neg (by simp),if_pos rfl]
  ·rw [wtF];show 10 + (List.toArray _).size + wtL [] <= _;rw [jd9,hz,wtL];omega
 intro k
 induction k with
 | zero =>
  intro hk l a q x h;obtain ⟨h1,h2,h3⟩:=yd5 h;subst h3;have hg:ydg none l a = _:=h;unfold ydg at hg;rw [if_neg (by rintro hh;rw [if_pos hh] at hg;cases hg),if_neg (by simpa using h1)] at hg;clear h;split at hg
  ·rename_i hL
   injection hg with h;injection h with h _;rw [<- h];exact text h1 hL
  ·cases hg
 | succ k ih =>
  intro hk l a q x h;obtain ⟨h1,h2,h3⟩:=yd5 h;cases hL:ybW l (a:Int) with
  | false =>
   rw [ycl (by rintro ⟨_,_,g⟩;cases g) h1 hL] at h;injection h with h;injection h with h _;subst h3;rw [<- h];exact text h1 hL
  | true =>
   obtain ⟨b0,b1,b2,b3,b4,b5⟩:=ybN h1;rw [hL] at b5;have b5:192 <= ya1 l a:=of_decide_eq_true b5.symm;have hh:=yig h1 (by omega);rw [if_pos b5] at hh
   have hFa:a < yag l (a:Int):=by
    have e:=congrArg List.length hh;have:=yep (ya5 l (a:Int)) 192;rw [jd4] at e;omega
   rw [yd6 h1 hL] at h;subst h3;split at h
   ·cases h
   ·rename_i xs hxs
    injection h with h;injection h with h _;rw [<- h]
    obtain ⟨r1,r2,r3,r4⟩:=ykD (l:=l) (d:=12 - k) b1 (fun p y q hy=>by
     obtain ⟨s1,s2,s3⟩:=yd5 hy;obtain ⟨c0,c1,c2,c3,_,_⟩:=ybN s1;rw [<- s3] at c1 c3;obtain ⟨t1,t2,t3⟩:=ih (by omega) hy;rw [jd4] at c1;refine ⟨c3,by omega,?_,t2,t3⟩;rw [t1,List.drop_take,List.take_take,Nat.min_eq_left (by omega)]) 513 0 _ xs (by omega) (by omega) hxs
    rw [show yag l (a:Int) + ya5 l (a:Int) - yag l (a:Int) = ya5 l (a:Int) by omega] at r1 r3;have hbl:(bytesL xs).length = ya5 l (a:Int):=by rw [r1,jd4,List.length_drop];omega
    refine ⟨?_,?_,?_⟩
    ·rw [yau,if_pos rfl,hbl,<- hh,r1]
     conv=>rhs;rw [show yag l (a:Int) + ya5 l (a:Int) - a = (yag l (a:Int) - a) + ya5 l (a:Int) by omega,List.take_add,List.drop_drop,show a + (yag l (a:Int) - a) = yag l (a:Int) by omega]
    ·rw [yaP,if_neg (by simp),if_neg (by simp),if_neg (by omega),if_neg (by omega),show 12 - (k + 1) + 1 = 12 - k by omega];exact r2
    ·rw [wtF,show ByteArray.empty.size = 0 from rfl];omega
theorem yfE {l:List UInt8} {x:Itm} (h:yb7 l = .ok x):ybU x = 0 /\ yau x = l /\ wtF x <= 11 * l.length:=by
 obtain ⟨g1,g2,g3⟩:=yfF h;unfold yb7 at h;split at h
 ·cases h
 rename_i hl
 split at h
 ·cases h
 ·rename_i y q hi
  split at h
  ·cases h
  ·rename_i hq
   injection h with h;subst h;obtain ⟨_,_,e⟩:=yd5 hi;have e:q = l.length:=by rw [<- g3,e];rfl
   obtain ⟨r1,r2,r3⟩:=ylT 12 (by omega) hi;rw [e,Nat.sub_zero,List.drop_zero,List.take_length] at r1;rw [e] at r3;refine ⟨?_,r1,by omega⟩;unfold ybU;rw [if_neg (by rw [show (0:Nat) = 12 - 12 from rfl,r2];simp),if_neg (by rw [r1];omega)]
theorem ypq {l:List UInt8} {a T:Nat} {y:Itm} (h:itR l a = .ok (y,T)) (hl:l.length <= 1000000000000):∀ z ∈ y.items,z.bytes.size <= 9223372036854775807:=by
 unfold itR at h;split at h
 ·cases h
 ·split at h
  ·cases h
  ·rename_i x hx
   cases h;obtain ⟨_,_,hw⟩:=yfE hx;intro z hz;have h1:=ype hz;have h2:=ydO y;have h3:=ydO z;have h4:((l.drop a).take (yag l a + ya5 l a - a)).length <= l.length:=by simp;omega
   omega
theorem ynm {s:ByteArray} {a T:Nat} {E:Int} {zs:List Itm} (h:ycy s a E = .ok (zs,T)):E = 0 /\ zs.length = 3 + kdV s a E:=by
 unfold ycy at h;split at h
 ·cases h
 ·rename_i h0
  have hE:E = 0:=by
   by_cases hE:E = 0
   ·exact hE
   ·exact absurd (show kdE s a E ≠ 0 by unfold kdE;rw [if_pos hE];exact hE) h0
  split at h
  ·cases h
  ·split at h
   ·cases h
   ·rename_i h1
    split at h
    ·cases h
    ·cases h;refine ⟨hE,?_⟩;have h2:=yde (ykq (show rwE _ _ _ _ 0 = 0 from jb9.1 h1)).2.2;omega
theorem ylB {s:ByteArray} {a:Nat} {E:Int} (hE:E ≠ 0):ycy s a E = .error E:=by
 have h:kdE s a E = E:=by unfold kdE;rw [if_pos hE]
 unfold ycy;rw [h,if_pos hE]
theorem AccQ.weak {o o' n:Nat} {u:World} {ls:List AccV} {A:Option Addr} (h:AccQ o u ls A n) (ho:o' <= o):AccQ o' u ls A n:=by
 refine ⟨h.1,fun h0=>?_⟩;obtain ⟨g,off,h1,h2,h3,h4⟩:=h.2 h0;refine ⟨g,off,h1,jlt ho h2,h3,fun i hi=>?_⟩;obtain ⟨T,tc,a,b,c,d⟩:=h4 i hi;exact ⟨T,tc,a,b,c.weak fun g hg=>jlt ho hg,d⟩
theorem ycU {α:Type} (ts:List α) (t d:α) {i:Nat} (h:i < ts.length):(ts ++ [t]).getD i d = ts.getD i d:=by
 rw [jg,jg,jal h]
theorem ycV {α:Type} (ts:List α) (t d:α) {i:Nat} (h:ts.length = i):(ts ++ [t]).getD i d = t:=by
 subst h;simp [jg]
theorem ynH (kd:Nat) (zs:List Itm) (y R S:Nat) (d:ByteArray):(gotT kd zs y R S d).acc = (gotA kd zs).1:=rfl
theorem GetS.next {wG u u':World} {s signs:ByteArray} {r sg l n k a sa yv R S:Nat} {d:ByteArray} {E SE:Int} {C:Array Value} {ks:List Nat} {ts:List TxV} {e:Ending} (h:GetS wG s signs r sg l n k a sa E SE C (txL (ycX yv R S d) (.slice none 0 0) (.slice none 0 0)) ks ts u) (hk:k < n)
  (he:yfQ s a E r l (36 * k) C u e u'):e = .returned (.tuple #[]) /\ ∃ a' E' C' ts',GetS wG s signs r sg l n (k + 1) a' sa E' SE C' blankL (ks ++ [kdV s a E]) ts' u' /\ C'[36 * k]? = some (.int .i64 ((kdV s a E:Nat):Int)) /\
   ((E' ≠ 0 /\ ycy s a E = .error E' /\ ts' = ts) \/ (∃ zs,E' = 0 /\ ycy s a E = .ok (zs,a') /\ ts' = ts ++ [gotT (kdV s a E) zs yv R S d])):=by
 obtain ⟨a',E',C',rfl,hrd,ha',hrow,hsz,hfar,hkd,hg,hE⟩:=he;refine ⟨rfl,?_⟩;have hlk:=h.lk;have hrl:=h.rl;have hll:=h.ll;have hgs:=h.gr.size;have hcell:∀ (p:Addr) v,wG.heap.size <= p.block -> u.cell? p = some v -> u'.cell? p = some v:=fun p v hp hv=>hg.cell hv (by omega) (by omega)
 have base:∀ ts',(E' = 0 -> ts'.length = k + 1) -> (E' = 0 -> ∀ i,i < k + 1 -> ∃ sl,Win C' (36 * i) (txL (ts'.getD i TxV.zero) sl (.slice none 0 0)) /\ SlQ wG.heap.size u' (ts'.getD i TxV.zero) sl /\ (ts'.getD i TxV.zero).kind = (((ks ++ [kdV s a E]).getD i 0:Nat):Int)) ->
   GetS wG s signs r sg l n (k + 1) a' sa E' SE C' blankL (ks ++ [kdV s a E]) ts' u':=fun ts' h1 h2 =>
  ⟨hrd,(hg.block sg h.sd.lt (fun e=>h.rg e.symm) h.gw).trans h.sd,hrow,h.gr.rest hg,h.rl,h.gl,h.ll,h.rg,h.rw,h.gw,ha',h.hsa,hsz.trans h.size,hk,by simp [hlk],h1,
   fun i hi=>by
    by_cases hik:i < k
    ·rw [hfar _ (.inl (by omega)),h.kind i hik,ycU _ _ _ (by omega)]
    ·obtain rfl:i = k:=by omega
     rw [hkd,ycV _ _ _ hlk],
   h2,rfl,fun hk1 f hf=>(hfar _ (.inr (by omega))).trans (h.blank (k + 1) (by omega) hk1 f hf),fun i h3 h4 f hf=>(hfar _ (.inr (by omega))).trans (h.blank i (by omega) h4 f hf)⟩
 rcases hE with ⟨hne,hR⟩ | ⟨zs,T,A,c,vs,rfl,hR,rfl,rfl,hacc⟩
 ·exact ⟨a',E',C',ts,base ts (fun e=>absurd e hne) (fun e=>absurd e hne),hkd,.inl ⟨hne,hR,rfl⟩⟩
 ·obtain ⟨hE0,hlen⟩:=ynm hR;have hlt:=h.lt hE0;refine ⟨a',0,_,ts ++ [gotT (kdV s a E) zs yv R S d],base _ (fun _=>by simp [hlt]) (fun _ i hi=>?_),hkd,.inr ⟨zs,rfl,hR,rfl⟩⟩;by_cases hik:i < k
  ·rw [ycU _ _ _ (by omega),ycU _ _ _ (by omega)];obtain ⟨sl,w1,w2,w3⟩:=h.good hE0 i hik;exact ⟨sl,fun f hf=>(hfar _ (.inl (by omega))).trans (w1 f hf),w2.keep hg.size hcell,w3⟩
  ·obtain rfl:i = k:=by omega
   rw [ycV _ _ _ hlt,ycV _ _ _ hlk];refine ⟨_,yoK (kdV s a E) zs yv R S d C (36 * i) (.slice A (gotA (kdV s a E) zs).1.length c) (yjM s a E) hlen (h.win hk),?_,rfl⟩;by_cases h0:kdV s a E = 0
   ·rw [if_pos h0];have hz:(gotT (kdV s a E) zs yv R S d).acc = []:=by rw [ynH];unfold gotA;rw [if_pos h0]
    exact ⟨none,0,by rw [hz];rfl,by rw [hz];exact ⟨rfl,fun h=>absurd h (Nat.lt_irrefl _)⟩⟩
   ·rw [if_neg h0];exact ⟨A,c,rfl,(hacc h0).toQ.weak hgs⟩
theorem yng {s:ByteArray} {a n:Nat} {E:Int} (h:tkE s a n E = 0):E = 0 /\ a + n <= s.size:=by
 unfold tkE at h;split at h
 ·split at h
  ·cases h
  ·rename_i h1 h2;exact ⟨h1,by omega⟩
 ·rename_i h1;exact absurd h h1
theorem yj9 {s:ByteArray} {a n:Nat} {E:Int} (h:tkE s a n E = 0):(tkS s a n E).size = n:=by
 have:=(yng h).2;unfold tkS;rw [if_pos h,ByteArray.size_extract];omega
def InvG (s sgs:ByteArray) (nl yl:List Bool) (n k ak sa:Nat) (Ek SE E4:Int) (ts:List TxV) (tk:ByteArray) (R0:Except Int (List TxV × Nat)):Prop :=
 (Ek = 0 /\ SE = 0 /\ sa = 64 * k /\ E4 = 0 /\ R0 = yfZ ts (ycR s sgs nl yl (n - k) k ak tk)) \/ (Ek ≠ 0 /\ R0 = .error Ek)
theorem InvG.step {s sgs:ByteArray} {nl yl:List Bool} {n k ak sa a' sa2 yv R S2:Nat} {Ek SE E4 E' SE2:Int} {ts ts':List TxV} {tk tk2 dv:ByteArray} {R0:Except Int (List TxV × Nat)} (h:InvG s sgs nl yl n k ak sa Ek SE E4 ts tk R0) (hk:k < n) (hsz:E4 = 0 -> sgs.size = 64 * n)
  (hR:wdN sgs sa SE = R) (hS2:wdN sgs (tkA sgs sa 32 SE) (tkE sgs sa 32 SE) = S2) (hsa2:tkA sgs (tkA sgs sa 32 SE) 32 (tkE sgs sa 32 SE) = sa2) (hSE2:tkE sgs (tkA sgs sa 32 SE) 32 (tkE sgs sa 32 SE) = SE2) (hyv:(if yl.getD k false then 1 else 0) = yv)
  (htk2:(if nl.getD k false = false /\ 20 <= tk.size then tk.extract 20 tk.size else tk) = tk2) (hdv:(if nl.getD k false = false /\ 20 <= tk.size then tk.extract 0 20 else ⟨#[]⟩) = dv)
  (hE:(E' ≠ 0 /\ ycy s ak Ek = .error E' /\ ts' = ts) \/ (∃ zs,E' = 0 /\ ycy s ak Ek = .ok (zs,a') /\ ts' = ts ++ [gotT (kdV s ak Ek) zs yv R S2 dv])) :
  InvG s sgs nl yl n (k + 1) a' sa2 E' SE2 E4 ts' tk2 R0:=by
 rcases h with ⟨rfl,rfl,rfl,h4,hR0⟩ | ⟨h1,h2⟩
 ·obtain ⟨m,hm⟩:∃ m,n - k = m + 1:=⟨n - k - 1,by omega⟩;have hm2:n - (k + 1) = m:=by omega
  rw [hm] at hR0;obtain ⟨x1,x2,x3,x4⟩:=yon (hsz h4) hk;rw [x1,x2] at hS2 hsa2 hSE2;rw [x4] at hsa2;rw [x3] at hSE2;rcases hE with ⟨e1,e2,e3⟩ | ⟨zs,e1,e2,e3⟩
  ·rw [ymx e2] at hR0;exact .inr ⟨e1,hR0⟩
  ·rw [yg4 e2,ykL,hR,hS2,hyv,htk2,hdv] at hR0;refine .inl ⟨e1,hSE2.symm,hsa2.symm,h4,?_⟩;rw [hm2,e3];exact hR0
 ·rw [ylB h1] at hE;rcases hE with ⟨e1,e2,e3⟩ | ⟨zs,e1,e2,e3⟩
  ·cases e2;exact .inr ⟨h1,h2⟩
  ·cases e2
theorem ygE (ks:List Nat) (x:Nat):(ks ++ [x]).count 0 = ks.count 0 + if x = 0 then 1 else 0:=by
 rw [List.count_append];by_cases h:x = 0
 ·subst h;simp
 ·rw [if_neg h];simp [List.count_cons,h]
theorem yfg (l:List UInt8):∀ k a,(yaB l k a).2.2 = 0 -> (yaB l k a).1.length = k /\ ∀ x ∈ (yaB l k a).1,0 <= x /\ x < 18446744073709551616
 | 0,a,_=>⟨rfl,fun x h=>by simp [yaB] at h⟩
 | k + 1,a,h=>by
  rw [yaB] at h ⊢;simp only at h ⊢;split at h
  ·rename_i h1;exact absurd h h1
  ·rename_i h1
   rw [if_neg h1];split at h
   ·rename_i h2;exact absurd h h2
   ·rename_i h2
    rw [if_neg h2];obtain ⟨g1,g2⟩:=yfg l k _ (jb9.1 h2);refine ⟨by simp [g1],fun x hx=>?_⟩;rcases je6.1 hx with rfl | hx
    ·have:=(ybR l (a:Int)).1.isLt;constructor <;> omega
    ·exact g2 x hx
theorem ylY (s:ByteArray) (a n:Nat) (E:Int) (ha:a <= s.size) (hn:n <= 4096):(nuL s a n E).length = n /\ ∀ x ∈ nuL s a n E,0 <= x /\ x < 18446744073709551616:=by
 unfold nuL;split
 ·rename_i h
  unfold nuE at h;split at h
  ·have hl:=yar s;unfold ybz at h ⊢;rw [if_neg (by omega)] at h ⊢;simp only [jnc] at h ⊢;exact yfg _ _ _ h
  ·rename_i h1;exact absurd h h1
 ·exact ⟨by simp,fun x hx=>by rw [List.eq_of_mem_replicate hx];constructor <;> omega⟩
def nuN (s:ByteArray) (a n:Nat) (E:Int):List Nat:=(nuL s a n E).map Int.toNat
theorem yfy (s:ByteArray) (a n:Nat) (E:Int) (ha:a <= s.size) (hn:n <= 4096):(nuN s a n E).length = n /\ (∀ x ∈ nuN s a n E,x < 18446744073709551616) /\ nuL s a n E = (nuN s a n E).map (fun (x:Nat)=>(x:Int)):=by
 obtain ⟨h1,h2⟩:=ylY s a n E ha hn;refine ⟨by simp [nuN,h1],fun x hx=>?_,?_⟩
 ·obtain ⟨y,hy,rfl⟩:=List.mem_map.1 hx;have:=h2 y hy;omega
 ·unfold nuN;rw [List.map_map]
  conv=>lhs;rw [<- List.map_id (nuL s a n E)]
  exact List.map_congr_left fun x hx=>by have:=h2 x hx;simp;omega
def yc6 (chain:Nat) (t:TxV) (no ga:Nat) (ch:Bool):TxV:={ t with nonce:=no,gas:=ga,chain:=if ch then chain else 0 }
def ybh (chain:Nat):List TxV -> List Nat -> List Nat -> List Bool -> List TxV
 | [],_,_,_=>[]
 | t :: ts,ns,gs,cs=>if t.kind = 0 then yc6 chain t (ns.headD 0) (gs.headD 0) (cs.headD false) :: ybh chain ts ns.tail gs.tail cs.tail else yc6 chain t (ns.headD 0) (gs.headD 0) true :: ybh chain ts ns.tail gs.tail cs
theorem yg9 (chain:Nat):∀ (ts:List TxV) (ns gs:List Nat) (cs:List Bool),(ybh chain ts ns gs cs).length = ts.length
 | [],_,_,_=>rfl
 | t :: ts,ns,gs,cs=>by unfold ybh;split <;> simp [yg9 chain ts]
def legN (ts:List TxV):Nat:=(ts.map TxV.kind).count 0
def yn6 (s:ByteArray) (n chain:Nat) (ts:List TxV) (a:Nat):Except Int (List TxV × Nat) :=
 if btE s (nuA s (nuA s a n 0) n (nuE s a n 0)) (legN ts) (nuE s (nuA s a n 0) n (nuE s a n 0)) ≠ 0 then .error (btE s (nuA s (nuA s a n 0) n (nuE s a n 0)) (legN ts) (nuE s (nuA s a n 0) n (nuE s a n 0)))
 else if yat (ybh chain ts (nuN s a n 0) (nuN s (nuA s a n 0) n (nuE s a n 0)) (btL s (nuA s (nuA s a n 0) n (nuE s a n 0)) (legN ts) (nuE s (nuA s a n 0) n (nuE s a n 0)))) chain ≠ 0
  then .error (yat (ybh chain ts (nuN s a n 0) (nuN s (nuA s a n 0) n (nuE s a n 0)) (btL s (nuA s (nuA s a n 0) n (nuE s a n 0)) (legN ts) (nuE s (nuA s a n 0) n (nuE s a n 0)))) chain)
 else .ok (ybh chain ts (nuN s a n 0) (nuN s (nuA s a n 0) n (nuE s a n 0)) (btL s (nuA s (nuA s a n 0) n (nuE s a n 0)) (legN ts) (nuE s (nuA s a n 0) n (nuE s a n 0))),btA s (nuA s (nuA s a n 0) n (nuE s a n 0)) (legN ts) (nuE s (nuA s a n 0) n (nuE s a n 0)))
def endR (s:ByteArray) (n chain:Nat):Except Int (List TxV × Nat) -> Except Int (List TxV × Nat)
 | .error e=>.error e
 | .ok (ts,a)=>yn6 s n chain ts a
def fixR (s:ByteArray) (n:Nat) (nl:List Bool) (A1:Nat) (E1:Int):Except Int (List TxV × Nat) :=
 if tkE s (tkA s (btA s A1 n E1) (64 * n) (btE s A1 n E1)) (20 * (n - cntB nl)) (tkE s (btA s A1 n E1) (64 * n) (btE s A1 n E1)) ≠ 0 then .error (tkE s (tkA s (btA s A1 n E1) (64 * n) (btE s A1 n E1)) (20 * (n - cntB nl)) (tkE s (btA s A1 n E1) (64 * n) (btE s A1 n E1)))
 else ycR s (tkS s (btA s A1 n E1) (64 * n) (btE s A1 n E1)) nl (btL s A1 n E1) n 0 (tkA s (tkA s (btA s A1 n E1) (64 * n) (btE s A1 n E1)) (20 * (n - cntB nl)) (tkE s (btA s A1 n E1) (64 * n) (btE s A1 n E1))) (tkS s (tkA s (btA s A1 n E1) (64 * n) (btE s A1 n E1)) (20 * (n - cntB nl)) (tkE s (btA s A1 n E1) (64 * n) (btE s A1 n E1)))
def getR (s:ByteArray) (a n chain:Nat):Except Int (List TxV × Nat):=endR s n chain (fixR s n (btL s a n 0) (btA s a n 0) (btE s a n 0))
structure yeQ (t:TxV):Prop where
 ok:t.Ok
 aut:t.auths = []
 acc:t.acc.length <= 16
 kind:t.kind = 0 \/ t.kind = 1 \/ t.kind = 2
theorem yjD:(256:Nat) ^ 32 = 115792089237316195423570985008687907853269984665640564039457584007913129639936:=by decide
theorem yow {l:List UInt8} (h:l.length <= 32):beV l < 115792089237316195423570985008687907853269984665640564039457584007913129639936:=by
 have h1:=ymN l;have h2:(256:Nat) ^ l.length <= 256 ^ 32:=Nat.pow_le_pow_right (by omega) h;rw [yjD] at h2;omega
theorem ymp (z:Itm):itW z < 115792089237316195423570985008687907853269984665640564039457584007913129639936:=by
 unfold itW;split
 ·rename_i h
  refine yow ?_;have h2:=h.2;unfold ybT at h2;split at h2
  ·cases h2
  ·omega
 ·decide
theorem ylo (s:ByteArray) (a:Nat) (E:Int):wdN s a E < 115792089237316195423570985008687907853269984665640564039457584007913129639936:=by
 unfold wdN;split
 ·refine yow ?_;rw [yar];exact ygV s a 32 E
 ·decide
theorem yi5:∀ (ys:List Itm) (E:Int),(yc1 ys E).1.length <= ys.length
 | [],E=>by simp [yc1]
 | y :: ys,E=>by
  unfold yc1;split
  ·simp
  ·simp only [jlc];have:=yi5 ys (prE y);omega
theorem yo8 (x:Itm) (E:Int):(rwL 0 16 x E).length <= 16:=by
 unfold rwL;split
 ·rename_i h
  have:=yde (ykq h).2.2;omega
 ·simp
theorem ynI (kd:Nat) (zs:List Itm):(gotA kd zs).1.length <= 16:=by
 unfold gotA;split
 ·simp
 ·exact jlt (yi5 _ _) (yo8 _ _)
theorem yoL (kd:Nat) (zs:List Itm) (y R S:Nat) (d:ByteArray) (hk:kd = 0 \/ kd = 1 \/ kd = 2) (hy:y <= 1) (hR:R < 115792089237316195423570985008687907853269984665640564039457584007913129639936) (hS:S < 115792089237316195423570985008687907853269984665640564039457584007913129639936):yeQ (gotT kd zs y R S d):=by
 refine ⟨⟨by show (0:Nat) < _;omega,by show (0:Nat) < _;omega,?_,ymp _,by show (0:Nat) < _;omega,ymp _,by show y < _;omega,hR,hS,by show (0:Nat) < _;omega,fun a h=>by cases h⟩,rfl,ynI kd zs,?_⟩
 ·show (if kd = 2 then itW (zs.getD 1 Itm.none_) else 0) < _;split
  ·exact ymp _
  ·omega
 ·show ((kd:Int) = 0 \/ (kd:Int) = 1 \/ (kd:Int) = 2);omega
theorem yg2 {s sgs:ByteArray} {nl yl:List Bool}:∀ {m i a b:Nat} {tos:ByteArray} {ts:List TxV},ycR s sgs nl yl m i a tos = .ok (ts,b) -> ts.length = m /\ ∀ t ∈ ts,yeQ t
 | 0,i,a,b,tos,ts,h=>by
  rw [ycR] at h;cases h;exact ⟨rfl,fun t h=>by cases h⟩
 | m + 1,i,a,b,tos,ts,h=>by
  rw [ycR] at h;split at h
  ·cases h
  ·split at h
   ·cases h
   ·rename_i us c hg
    cases h;obtain ⟨h1,h2⟩:=yg2 hg;refine ⟨by simp [h1],fun t ht=>?_⟩;rcases je6.1 ht with rfl | ht
    ·exact yoL _ _ _ _ _ _ (yjM _ _ _) (by split <;> omega) (ylo _ _ _) (ylo _ _ _)
    ·exact h2 t ht
theorem yjW {chain:Nat} {t:TxV} {no ga:Nat} {ch:Bool} (h:yeQ t) (hc:chain < 18446744073709551616) (hn:no < 18446744073709551616) (hg:ga < 18446744073709551616):yeQ (yc6 chain t no ga ch):=by
 obtain ⟨⟨a1,a2,a3,a4,a5,a6,a7,a8,a9,a10,a11⟩,b,c,d⟩:=h;refine ⟨⟨?_,hn,a3,a4,hg,a6,a7,a8,a9,a10,a11⟩,b,c,d⟩;show (if ch then chain else 0) < _;split
 ·exact hc
 ·omega
theorem yoF {s:ByteArray} {a n:Nat} {E:Int} (h:nuE s a n E = 0):E = 0:=by
 unfold nuE at h;split at h
 ·assumption
 ·exact h
theorem ypN {s:ByteArray} {a n:Nat} {E:Int} (h:btE s a n E = 0):E = 0:=by
 unfold btE at h;split at h
 ·rename_i h1;exact (yng h1).1
 ·rename_i h1;exact absurd h h1
theorem ygk (l:List UInt8):∀ k a,a <= l.length -> (yaB l k a).2.1 <= l.length
 | 0,a,h=>h
 | k + 1,a,h=>by
  rw [yaB];simp only;split
  ·exact Nat.zero_le _
  ·rename_i h1
   split
   ·exact Nat.zero_le _
   ·have he:(ybR l (a:Int)).2.2 = 0:=jb9.1 h1;exact ygk l k _ (yh6 l a _ _ (Prod.ext rfl (Prod.ext rfl he)))
theorem yma {s:ByteArray} {a n:Nat} {E:Int} (h:a <= s.size):nuA s a n E <= s.size:=by
 unfold nuA;split
 ·have hl:=yar s;unfold ybz;split
  ·exact Nat.zero_le _
  ·rw [<- hl];exact ygk _ _ _ (by simp;omega)
 ·exact h
theorem Gr3.trans {w u v:World} {r g l:Nat} (h:Gr3 w u r g l) (h':Gr3 u v r g l):Gr3 w v r g l :=
 ⟨h'.os.trans h.os,h'.tape.trans h.tape,h'.output.trans h.output,jlt h.size h'.size,fun k hk a b c=>(h'.block k (jc4 hk h.size) a b c).trans (h.block k hk a b c)⟩
def ydW (us ts:List TxV) (k i:Nat):TxV:=if i < k then us.getD i TxV.zero else ts.getD i TxV.zero
structure FilS (wG:World) (o:Nat) (s:ByteArray) (r sg l n k:Nat) (a:Nat) (E:Int) (C:Array Value) (cur:Value -> List Value) (ks:List Nat) (ts us:List TxV) (u:World):Prop where
 rd:Blk u r 67 (rdC s a E)
 row:Blk u l 42 C
 gr:Gr3 wG u r sg l
 rw:r ≠ l
 ll:l < o
 size:C.size = 36 * n
 lk:ks.length = n
 kind:∀ i,i < n -> C[36 * i]? = some (.int .i64 ((ks.getD i 0:Nat):Int))
 lt:E = 0 -> ts.length = n
 lu:E = 0 -> us.length = k
 good:E = 0 -> ∀ i,i < n -> i ≠ k -> ∃ sl,Win C (36 * i) (txL (ydW us ts k i) sl (.slice none 0 0)) /\ SlQ o u (ydW us ts k i) sl /\ (ydW us ts k i).kind = ((ks.getD i 0:Nat):Int)
 cl:∀ sl,(cur sl).length = 36
 at_:E = 0 -> k < n -> ∃ sl,Win C (36 * k) (cur sl) /\ SlQ o u (ts.getD k TxV.zero) sl /\ (ts.getD k TxV.zero).kind = ((ks.getD k 0:Nat):Int)
def curT (t:TxV):Value -> List Value:=fun sl=>txL t sl (.slice none 0 0)
theorem FilS.of {wG u:World} {s signs:ByteArray} {r sg l n k a sa:Nat} {E SE:Int} {C:Array Value} {cur:List Value} {ks:List Nat} {ts:List TxV} (h:GetS wG s signs r sg l n k a sa E SE C cur ks ts u) (hk:k = n):FilS u wG.heap.size s r sg l n 0 a E C (curT (ts.getD 0 TxV.zero)) ks ts [] u:=by
 subst hk;refine ⟨h.rd,h.row,Gr3.refl _ _ _ _,h.rw,h.ll,h.size,h.lk,h.kind,h.lt,fun _=>rfl,fun h0 i hi _=>?_,fun _=>rfl,fun h0 hk=>?_⟩
 ·obtain ⟨sl,a,b,c⟩:=h.good h0 i hi;exact ⟨sl,a,b,c⟩
 ·obtain ⟨sl,a,b,c⟩:=h.good h0 0 hk;exact ⟨sl,a,b,c⟩
theorem FilS.kept {wG u u':World} {o:Nat} {s:ByteArray} {r sg l n k a:Nat} {E:Int} {C:Array Value} {cur:Value -> List Value} {ks:List Nat} {ts us:List TxV} (h:FilS wG o s r sg l n k a E C cur ks ts us u) (hg:u.grownBy u' none):FilS wG o s r sg l n k a E C cur ks ts us u' :=
 { h with
  rd:=h.rd.grown hg (by simp),row:=h.row.grown hg (by simp),gr:=h.gr.grown hg (fun k e=>by cases e),
  good:=fun h0 i hi hik=>by obtain ⟨sl,a,b,c⟩:=h.good h0 i hi hik;exact ⟨sl,a,b.keep hg.size (fun p v _ hv=>hg.cell hv (by simp)),c⟩,
  at_:=fun h0 hk=>by obtain ⟨sl,a,b,c⟩:=h.at_ h0 hk;exact ⟨sl,a,b.keep hg.size (fun p v _ hv=>hg.cell hv (by simp)),c⟩ }
theorem FilS.put {wG u:World} {o:Nat} {s:ByteArray} {r sg l n k a:Nat} {E:Int} {C:Array Value} {cur:Value -> List Value} {ks:List Nat} {ts us:List TxV} (h:FilS wG o s r sg l n k a E C cur ks ts us u) (f:Nat) (vs:List Value) (hf0:0 < f) (hf:f + vs.length <= 36) (hk:k < n) :
  FilS wG o s r sg l n k a E (putA (36 * k + f) vs C) (fun sl=>(cur sl).take f ++ (vs ++ (cur sl).drop (f + vs.length))) ks ts us (u.setRow l (putA (36 * k + f) vs C)):=by
 have hll:=h.ll;have hcell:∀ (p:Addr) v,o <= p.block -> u.cell? p = some v -> (u.setRow l (putA (36 * k + f) vs C)).cell? p = some v:=fun p v hp hv=>yaY (by omega) hv
 exact { h with
  rd:=(jso u l r _ h.rw).trans h.rd,row:=yaI h.row,gr:=h.gr.setRow _,size:=(ycG _ _ _).trans h.size,
  kind:=fun i hi=>by
   by_cases hik:i <= k
   ·exact (ybj _ _ _ _ (.inl (by omega))).trans (h.kind i hi)
   ·exact (ybj _ _ _ _ (.inr (by omega))).trans (h.kind i hi)
  good:=fun h0 i hi hik=>by
   obtain ⟨sl,a,b,c⟩:=h.good h0 i hi hik;refine ⟨sl,a.out fun j h1 h2=>?_,b.keep (by simp) hcell,c⟩;by_cases hlt:i < k
   ·exact ybj _ _ _ _ (.inl (by omega))
   ·exact ybj _ _ _ _ (.inr (by omega))
  cl:=fun sl=>by have:=h.cl sl;simp;omega
  at_:=fun h0 hk2=>by
   obtain ⟨sl,a,b,c⟩:=h.at_ h0 hk2;exact ⟨sl,a.put (h.cl sl) hf,b.keep (by simp) hcell,c⟩ }
theorem FilS.eqc {wG u:World} {o:Nat} {s:ByteArray} {r sg l n k a:Nat} {E:Int} {C:Array Value} {cur cur':Value -> List Value} {ks:List Nat} {ts us:List TxV} (h:FilS wG o s r sg l n k a E C cur ks ts us u) (e:∀ sl,cur sl = cur' sl):FilS wG o s r sg l n k a E C cur' ks ts us u:=(funext e:cur = cur') ▸ h
theorem ypM (t:TxV) (no:Nat) (sl:Value):(txL t sl (.slice none 0 0)).take 2 ++ ([Value.int .u64 (no:Int)] ++ (txL t sl (.slice none 0 0)).drop (2 + [Value.int .u64 (no:Int)].length)) = curT { t with nonce:=no } sl:=rfl
theorem ypL (t:TxV) (ga:Nat) (sl:Value):(txL t sl (.slice none 0 0)).take 11 ++ ([Value.int .u64 (ga:Int)] ++ (txL t sl (.slice none 0 0)).drop (11 + [Value.int .u64 (ga:Int)].length)) = curT { t with gas:=ga } sl:=rfl
theorem ypK (t:TxV) (ch:Nat) (sl:Value):(txL t sl (.slice none 0 0)).take 1 ++ ([Value.int .u64 (ch:Int)] ++ (txL t sl (.slice none 0 0)).drop (1 + [Value.int .u64 (ch:Int)].length)) = curT { t with chain:=ch } sl:=rfl
theorem FilS.step {wG u:World} {o:Nat} {s:ByteArray} {r sg l n k a no ga chain:Nat} {ch:Bool} {E:Int} {C:Array Value} {ks:List Nat} {ts us:List TxV} (h:FilS wG o s r sg l n k a E C (curT (yc6 chain (ts.getD k TxV.zero) no ga ch)) ks ts us u) (hk:k < n) :
  FilS wG o s r sg l n (k + 1) a E C (curT (ts.getD (k + 1) TxV.zero)) ks ts (us ++ [yc6 chain (ts.getD k TxV.zero) no ga ch]) u :=
 { h with
  lu:=fun h0=>by simp [h.lu h0]
  good:=fun h0 i hi hik=>by
   by_cases h1:i < k
   ·obtain ⟨sl,a,b,c⟩:=h.good h0 i hi (by omega)
    have e:ydW (us ++ [yc6 chain (ts.getD k TxV.zero) no ga ch]) ts (k + 1) i = ydW us ts k i:=by
     unfold ydW;rw [if_pos h1,if_pos (by omega),ycU _ _ _ (by rw [h.lu h0];exact h1)]
    rw [e];exact ⟨sl,a,b,c⟩
   ·by_cases h2:i = k
    ·subst h2;obtain ⟨sl,a,b,c⟩:=h.at_ h0 hk
     have e:ydW (us ++ [yc6 chain (ts.getD i TxV.zero) no ga ch]) ts (i + 1) i = yc6 chain (ts.getD i TxV.zero) no ga ch:=by
      unfold ydW;rw [if_pos (by omega),ycV _ _ _ (h.lu h0)]
     rw [e];exact ⟨sl,a,b,c⟩
    ·obtain ⟨sl,a,b,c⟩:=h.good h0 i hi h2
     have e:ydW (us ++ [yc6 chain (ts.getD k TxV.zero) no ga ch]) ts (k + 1) i = ydW us ts k i:=by
      unfold ydW;rw [if_neg (by omega),if_neg (by omega)]
     rw [e];exact ⟨sl,a,b,c⟩
  cl:=fun _=>rfl
  at_:=fun h0 hk1=>by
   obtain ⟨sl,a,b,c⟩:=h.good h0 (k + 1) hk1 (by omega);have e:ydW us ts k (k + 1) = ts.getD (k + 1) TxV.zero:=by unfold ydW;rw [if_neg (by omega)]
   rw [e] at a b c;exact ⟨sl,a,b,c⟩ }
def Stand (z:Nat) (W:World) (L:List TxV) (g n:Nat):Prop :=
 ∀ W':World,W.heap.size <= W'.heap.size -> (∀ (p:Addr) (v:Value),z <= p.block -> W.cell? p = some v -> W'.cell? p = some v) -> TxsR W'.heap.size W' L (some ⟨g,0,none⟩) n
theorem Stand.here {z g n:Nat} {W:World} {L:List TxV} (h:Stand z W L g n):TxsR W.heap.size W L (some ⟨g,0,none⟩) n:=h W (jle _) fun _ _ _ hv=>hv
theorem Stand.next {z g n:Nat} {W W':World} {L:List TxV} (h:Stand z W L g n) (hs:W.heap.size <= W'.heap.size) (hc:∀ (p:Addr) (v:Value),z <= p.block -> W.cell? p = some v -> W'.cell? p = some v):Stand z W' L g n :=
 fun V h1 h2=>h V (jlt hs h1) fun p v hp hv=>h2 p v hp (hc p v hp hv)
theorem Stand.grown {z g n:Nat} {W W':World} {L:List TxV} (h:Stand z W L g n) (hg:W.grownBy W' none):Stand z W' L g n:=h.next hg.size fun p v _ hv=>hg.cell hv (by simp)
theorem FilS.stand {wG u:World} {o:Nat} {s:ByteArray} {r sg l n k a:Nat} {E:Int} {C:Array Value} {cur:Value -> List Value} {ks:List Nat} {ts us:List TxV} (h:FilS wG o s r sg l n k a E C cur ks ts us u) (hk:k = n) (h0:E = 0) (hr:∀ t ∈ us,yeQ t) {z:Nat} (hz:z <= l):Stand z u us l n:=by
 subst hk;intro W' hs hcs;refine ⟨h.lu h0,fun _=>⟨l,0,rfl,jc4 h.row.lt hs,fun i hi=>?_⟩⟩;obtain ⟨sl,a,b,c⟩:=h.good h0 i hi (by omega);have e:ydW us ts k i = us.getD i TxV.zero:=by unfold ydW;rw [if_pos hi]
 rw [e] at a b;have hm:us.getD i TxV.zero ∈ us:=by rw [jg,je (by rw [h.lu h0];exact hi)];exact List.getElem_mem _
 have hok:=hr _ hm;obtain ⟨A,c2,rfl,hq⟩:=b;have hq2:=hq.keep hs fun p v hp hv=>hcs p v (by have:=h.ll;omega) hv;have hz:(us.getD i TxV.zero).auths.length = 0:=by rw [hok.aut];rfl
 refine ⟨_,.slice none 0 0,fun j v hv=>hcs _ _ (by assumption) ?_,⟨⟨A,c2,rfl,hq2.toR⟩,⟨none,0,by rw [hz],by rw [hok.aut];exact AutR.nil _ _ _⟩,by have:=hok.acc;omega,by omega⟩⟩;have hj:j < 36:=(jc9.1 hv).1;rw [<- hv,<- a j hj,h.row.cell];congr 1;omega
theorem FilS.rows {wG u:World} {o:Nat} {s:ByteArray} {r sg l n k a:Nat} {E:Int} {C:Array Value} {cur:Value -> List Value} {ks:List Nat} {ts us:List TxV} (h:FilS wG o s r sg l n k a E C cur ks ts us u) (hk:k = n) (h0:E = 0) (hr:∀ t ∈ us,yeQ t):TxsR u.heap.size u us (some ⟨l,0,none⟩) n:=(h.stand hk h0 hr (Nat.zero_le _)).here
theorem yg0 {α:Type} (xs:List α) (k:Nat) (d:α):(xs.drop k).headD d = xs.getD k d:=by
 rw [jg,<- List.head?_drop,List.headD_eq_head?_getD]
theorem yfA (chain:Nat) (ts:List TxV) (ns gs:List Nat) (cs:List Bool) {k:Nat} (hk:k < ts.length):ybh chain (ts.drop k) (ns.drop k) (gs.drop k) cs =
  if (ts.getD k TxV.zero).kind = 0 then yc6 chain (ts.getD k TxV.zero) (ns.getD k 0) (gs.getD k 0) (cs.headD false) :: ybh chain (ts.drop (k + 1)) (ns.drop (k + 1)) (gs.drop (k + 1)) cs.tail
  else yc6 chain (ts.getD k TxV.zero) (ns.getD k 0) (gs.getD k 0) true :: ybh chain (ts.drop (k + 1)) (ns.drop (k + 1)) (gs.drop (k + 1)) cs:=by
 have e:ts.drop k = ts.getD k TxV.zero :: ts.drop (k + 1):=by
  rw [jdc hk,jg,je hk];rfl
 rw [e,ybh,yg0,yg0,List.tail_drop,List.tail_drop]
structure Car (w W:World) (b:Nat) (t:TypeId) (cs:Array Value):Prop where
 below:Below w.heap.size w W
 blk:Blk W b t cs
theorem Car.step {w W W':World} {b:Nat} {t:TypeId} {cs:Array Value} (h:Car w W b t cs) (hb:Below W.heap.size W W'):Car w W' b t cs:=⟨h.below.trans (hb.mono h.below.size),h.blk.below hb h.blk.lt⟩
structure CarR (W:World) (B:Nat) (A:Option Addr) (n:Nat) (xs:List Value):Prop where
 le:B <= W.heap.size
 reads:Reads W B 1 A n xs
theorem CarR.step {W W':World} {B:Nat} {A:Option Addr} {n:Nat} {xs:List Value} (h:CarR W B A n xs) (hb:Below W.heap.size W W'):CarR W' B A n xs:=⟨jlt h.le hb.size,h.reads.below (hb.mono h.le)⟩
theorem yct (l:List Bool):(yaD l).length = (l.length + 7) / 8:=ydf _ _
theorem ygJ (l:List Bool) (i:Nat) (h:i < 8 * ((l.length + 7) / 8)):ycT (yaD l) i = l.getD i false:=by
 unfold ycT;rw [yct];unfold yaD;rw [yhT _ _ _ (by omega),ymK _ _ (by omega)];congr 1;omega
theorem yiB (l:List Bool) (h:l.length <= 4096):ybq (yaD l) (l.length:Int) = 0 /\ yaR (yaD l) (l.length:Int) = l:=by
 have hs:yei (yaD l) l.length = false:=by
  unfold yei;rw [<- Bool.not_eq_true,List.any_eq_true];rintro ⟨i,hi,hh⟩;have hi':=List.mem_range.1 hi;rw [yct] at hi';simp only [Bool.and_eq_true,decide_eq_true_eq] at hh;rw [ygJ _ _ hi',jg,jc6 hh.1] at hh;exact absurd hh.2 (by simp)
 have he:ybq (yaD l) (l.length:Int) = 0:=by
  unfold ybq;rw [if_neg (by omega),if_neg (by rw [yct,jnc];simp),jnc,hs];rfl
 refine ⟨he,?_⟩;unfold yaR;rw [if_pos he,jnc];apply List.ext_getElem (by simp);intro i h1 h2;simp only [List.getElem_map,List.getElem_range];rw [ygJ _ _ (by omega),jg,je h2];rfl
theorem yfh (s:List UInt8) (n:Int) (h:ybq s n = 0):((yaR s n).length:Int) = n:=by
 unfold yaR;rw [if_pos h];unfold ybq at h;split at h
 ·cases h
 ·simp;omega
theorem yiK (s:List UInt8) (n:Int) (h:ybq s n = 0):yaD (yaR s n) = s:=by
 have hn:=yfh s n h;have hL:yaR s n = (List.range n.toNat).map (ycT s):=by unfold yaR;rw [if_pos h]
 unfold ybq at h;split at h
 ·cases h
 ·split at h
  ·cases h
  ·rename_i hlen
   split at h
   ·cases h
   ·rename_i hsp
    have hlen:s.length = (n.toNat + 7) / 8:=jb9.1 hlen
    have hget:∀ i,i < 8 * s.length -> (yaR s n).getD i false = ycT s i:=by
     intro i hi;rw [hL,jg,jgm];by_cases hin:i < n.toNat
     ·rw [List.getElem?_range hin];rfl
     ·rw [jc6 (by simpa using hin)];by_cases hb:ycT s i = true
      ·exfalso;apply hsp;unfold yei;rw [List.any_eq_true];exact ⟨i,List.mem_range.2 hi,by simp only [Bool.and_eq_true,decide_eq_true_eq];exact ⟨by omega,hb⟩⟩
      ·rw [Bool.not_eq_true] at hb;rw [hb];rfl
    have hm:((yaR s n).length + 7) / 8 = s.length:=by omega
    unfold yaD;rw [hm];apply List.ext_getElem (ydf _ _);intro j h1 h2;have e1:(ybA s.length (yaR s n))[j] = yco fun r=>(yaR s n).getD (8 * (s.length - 1 - j) + r) false:=by simp [ybA]
    rw [e1,<- ylh (s[j])];refine ycO fun r hr=>?_;rw [hget _ (by omega)];unfold ycT;rw [show (8 * (s.length - 1 - j) + r) / 8 = s.length - 1 - j by omega,show (8 * (s.length - 1 - j) + r) % 8 = r by omega,show s.length - 1 - (s.length - 1 - j) = j by omega,jg,je h2];rfl
theorem ygj (post:List UInt8):∀ (xs:List Int) (pre:List UInt8),(∀ x ∈ xs,0 <= x /\ x <= 18446744073709551615) -> yaB (pre ++ rowL xs ++ post) xs.length pre.length = (xs,pre.length + (rowL xs).length,0)
 | [],pre,_=>by simp [yaB,rowL]
 | x :: xs,pre,h=>by
  have hx:=h x (by simp);obtain ⟨z,rfl⟩:=jez hx.1;have hr:rowL ((z:Int) :: xs) = varL z ++ rowL xs:=by simp [rowL]
  have e1:pre ++ rowL ((z:Int) :: xs) ++ post = pre ++ varL z ++ (rowL xs ++ post):=by rw [hr];simp
  have e2:pre ++ rowL ((z:Int) :: xs) ++ post = (pre ++ varL z) ++ rowL xs ++ post:=by rw [hr];simp
  have hu:ybR (pre ++ rowL ((z:Int) :: xs) ++ post) (pre.length:Int) = (BitVec.ofNat 64 z,pre.length + (varL z).length,0):=by
   rw [e1];exact yi8 pre (rowL xs ++ post) z (by omega)
  have ih:=ygj post xs (pre ++ varL z) (fun y hy=>h y (List.mem_cons_of_mem _ hy));rw [<- e2,jla] at ih;rw [jlc,yaB];simp only [hu,ih];rw [if_neg (by simp),if_neg (by simp)]
  have hz:((BitVec.ofNat 64 z).toNat:Int) = (z:Int):=by
   rw [BitVec.toNat_ofNat,Nat.mod_eq_of_lt (by omega)]
  rw [hz,hr,jla];simp [Nat.add_assoc]
theorem ygi (l:List UInt8):∀ (k a:Nat) (xs:List Int) (t:Nat),a <= l.length -> yaB l k a = (xs,t,0) -> xs.length = k /\ a <= t /\ t <= l.length /\ (l.drop a).take (t - a) = rowL xs /\ ∀ x ∈ xs,0 <= x /\ x <= 18446744073709551615
 | 0,a,xs,t,ha,h=>by
  simp only [yaB,Prod.mk.injEq] at h;obtain ⟨rfl,rfl,_⟩:=h;exact ⟨rfl,jle _,ha,by simp [rowL],by simp⟩
 | k + 1,a,xs,t,ha,h=>by
  obtain ⟨r,tz,e,hr⟩:∃ r tz e,ybR l (a:Int) = (r,tz,e):=⟨_,_,_,rfl⟩;obtain ⟨ys,t',e',hg⟩:∃ ys t' e',yaB l k tz = (ys,t',e'):=⟨_,_,_,rfl⟩;rw [yaB] at h;simp only [hr,hg] at h;split at h
  ·rename_i h1
   simp only [Prod.mk.injEq] at h;exact absurd h.2.2 h1
  ·rename_i h1
   have he:e = 0:=jb9.1 h1;subst he;split at h
   ·rename_i h2
    simp only [Prod.mk.injEq] at h;exact absurd h.2.2 h2
   ·rename_i h2
    have he':e' = 0:=jb9.1 h2;subst he';simp only [Prod.mk.injEq] at h;obtain ⟨rfl,rfl,_⟩:=h;obtain ⟨u1,u2,u3⟩:=yff l a r tz hr;obtain ⟨i1,i2,i3,i4,i5⟩:=ygi l k tz ys t' u2 hg;refine ⟨by simp [i1],by omega,i3,?_,?_⟩
    ·have hrow:rowL ((r.toNat:Int) :: ys) = varL r.toNat ++ rowL ys:=by simp [rowL]
     rw [hrow,<- u3,<- i4,show t' - a = (tz - a) + (t' - tz) by omega,List.take_add,List.drop_drop,show a + (tz - a) = tz by omega]
    ·intro x hx;rcases je6.1 hx with rfl | hx
     ·have:=r.isLt;omega
     ·exact i5 x hx
theorem yiA (pre post:List UInt8) (xs:List Int) (h:∀ x ∈ xs,0 <= x /\ x <= 18446744073709551615) (hn:xs.length <= 4096):ybz (pre ++ rowL xs ++ post) (pre.length:Int) (xs.length:Int) = (xs,pre.length + (rowL xs).length,0):=by
 unfold ybz;rw [if_neg (by simp;omega),jnc,jnc];exact ygj post xs pre h
theorem yi9 (l:List UInt8) (at_ n:Int) (xs:List Int) (t:Nat) (h:ybz l at_ n = (xs,t,0)):∃ a:Nat,at_ = (a:Int) /\ (xs.length:Int) = n /\ a <= t /\ t <= l.length /\ (l.drop a).take (t - a) = rowL xs /\ xs.length <= 4096 /\ ∀ x ∈ xs,0 <= x /\ x <= 18446744073709551615:=by
 unfold ybz at h;split at h
 ·simp at h
 ·rename_i hb
  obtain ⟨a,rfl⟩:=jez (show 0 <= at_ by omega);obtain ⟨k,rfl⟩:=jez (show 0 <= n by omega);rw [jnc,jnc] at h;obtain ⟨i1,i2,i3,i4,i5⟩:=ygi l k a xs t (by omega) h;exact ⟨a,rfl,by omega,i2,i3,i4,by omega,i5⟩
def RowQ (lo hi:Nat) (w:World) (v:Value) (xs:List Value):Prop :=
 ∃ A c,v = .slice A xs.length c /\ (0 < xs.length -> ∃ g off,A = some ⟨g,off,none⟩ /\ lo <= g /\ g < hi /\ ∀ i,i < xs.length -> w.cell? ⟨g,off + i,none⟩ = xs[i]?)
theorem RowQ.of_own {o k:Nat} {e:TypeId} {w:World} {v:Value} {xs:List Value} (h:w.ownsRow o e 1 v k xs):RowQ o w.heap.size w v xs:=by
 have hl:xs.length = k:=by have:=h.1;omega
 rcases h.2 with ⟨hv,h1⟩ | ⟨g,cap,cur,hv,hb,hg,hn,hc,hs,ht⟩
 ·subst hv;exact ⟨none,0,by rw [hl,h1],fun h0=>by omega⟩
 ·subst hv;refine ⟨some ⟨g,0,none⟩,cap,by rw [hl],fun _=>⟨g,0,rfl,yaj h rfl,(jes.1 hg).1,fun i hi=>?_⟩⟩;rw [jd6,cell_of_row w g i cur e (0,0) hg,<- Array.getElem?_toList,<- ht,jc3 (by omega)]
theorem RowQ.keep {lo hi:Nat} {w w':World} {v:Value} {xs:List Value} (h:RowQ lo hi w v xs) (hc:∀ (p:Addr) u,lo <= p.block -> p.block < hi -> w.cell? p = some u -> w'.cell? p = some u):RowQ lo hi w' v xs:=by
 obtain ⟨A,c,h1,h2⟩:=h;refine ⟨A,c,h1,fun h0=>?_⟩;obtain ⟨g,off,a,b,d,e⟩:=h2 h0;exact ⟨g,off,a,b,d,fun i hi=>by have:=e i hi;rw [je hi] at this ⊢;exact hc _ _ b d this⟩
theorem RowQ.reads {lo hi:Nat} {w:World} {v:Value} {xs:List Value} (h:RowQ lo hi w v xs):∃ A c,v = .slice A xs.length c /\ Reads w hi 1 A xs.length xs:=by
 obtain ⟨A,c,h1,h2⟩:=h;refine ⟨A,c,h1,by simp,fun h0=>?_⟩;obtain ⟨g,off,a,b,d,hc⟩:=h2 h0;refine ⟨_,a,d,fun j u hu=>?_⟩;have hj:j < xs.length:=(jc9.1 hu).1
 have e:(⟨g,off,none⟩:Addr).add j = ⟨g,off + j,none⟩:=by
  unfold Addr.add;by_cases hj:j = 0
  ·subst hj;simp
  ·simp [hj]
 rw [e,hc j hj];exact hu
theorem yjg {P:Program} {a:Act} {o:Oper} {W:World} (f:FuncId) (y x:Operand) (ts:Array TypeId) (b:Value) (ho:o.op = .call { callee:=.value y,args:=#[x],argTypes:=ts }) (hy:a.eval y = .func (.func f) #[b] #[]) (v:Value) (hx:a.eval x = v)
  (hf:(callFunc f #[b,v]).run P W = .ok (.enter f #[b,v]) W):(execOp a.eval o).run P W = .ok (.enter f #[b,v]) W:=by
 unfold execOp;generalize a.eval = ev at *;simp only [ho];simp [resolve,invoke,go_sem,hx,hy,hf]
theorem yfm {s:ByteArray} {a n:Nat} {E:Int} (h:a <= s.size):tkA s a n E <= s.size:=by
 unfold tkA;split
 ·rename_i h0
  unfold tkE at h0;split at h0
  ·split at h0
   ·exact absurd h0 (by decide)
   ·omega
  ·rename_i h1;exact absurd h0 h1
 ·exact h
theorem yfK (s:ByteArray) (a n:Nat) (E:Int):(btL s a n E).length = n:=by
 unfold btL;split
 ·rename_i h
  unfold btE at h;split at h
  ·have:=yfh _ _ h;omega
  ·rename_i h2;exact absurd h h2
 ·simp
theorem GetS.eqc {wG u:World} {s signs:ByteArray} {r sg l n k a sa:Nat} {E SE:Int} {C:Array Value} {cur cur':List Value} {ks:List Nat} {ts:List TxV} (h:GetS wG s signs r sg l n k a sa E SE C cur ks ts u) (e:cur = cur'):GetS wG s signs r sg l n k a sa E SE C cur' ks ts u:=e ▸ h
theorem cur2 (R S:Nat):List.take 25 (List.take 21 blankL ++ ((ybp R).toList ++ List.drop (21 + (ybp R).toList.length) blankL)) ++ ((ybp S).toList ++ List.drop (25 + (ybp S).toList.length) (List.take 21 blankL ++ ((ybp R).toList ++ List.drop (21 + (ybp R).toList.length) blankL))) = txL (ycX 0 R S ⟨#[]⟩) (.slice none 0 0) (.slice none 0 0):=rfl
theorem cur3 (R S:Nat) (d:ByteArray):List.take 20 (txL (ycX 0 R S d) (.slice none 0 0) (.slice none 0 0)) ++ ([Value.int .u64 1] ++ List.drop (20 + [Value.int .u64 1].length) (txL (ycX 0 R S d) (.slice none 0 0) (.slice none 0 0))) = txL (ycX 1 R S d) (.slice none 0 0) (.slice none 0 0):=rfl
theorem cur4 (y R S:Nat) (d e:ByteArray):List.take 12 (txL (ycX y R S d) (.slice none 0 0) (.slice none 0 0)) ++ ([ja8 e] ++ List.drop (12 + [ja8 e].length) (txL (ycX y R S d) (.slice none 0 0) (.slice none 0 0))) = txL (ycX y R S e) (.slice none 0 0) (.slice none 0 0):=rfl
theorem RowQ.at_ {lo hi n c i:Nat} {w:World} {A:Option Addr} {xs:List Value} (h:RowQ lo hi w (.slice A n c) xs) (hin:i < n):∃ g off,A = some ⟨g,off,none⟩ /\ lo <= g /\ g < hi /\ w.cell? ⟨g,off + i,none⟩ = xs[i]?:=by
 obtain ⟨B,d,h1,h2⟩:=h;cases h1;obtain ⟨g,off,a,b,e,f⟩:=h2 (by omega);exact ⟨g,off,a,b,e,f i hin⟩
def RowC (lo hi:Nat) (w:World) (v:Value) (xs:List Value):Prop :=
 ∃ A c,v = .slice A xs.length c /\ xs.length <= c /\ (0 < xs.length -> ∃ g off,A = some ⟨g,off,none⟩ /\ lo <= g /\ g < hi /\ ∀ i,i < xs.length -> w.cell? ⟨g,off + i,none⟩ = xs[i]?)
theorem RowC.of_own {o k:Nat} {e:TypeId} {w:World} {v:Value} {xs:List Value} (h:w.ownsRow o e 1 v k xs):RowC o w.heap.size w v xs:=by
 have hl:xs.length = k:=by have:=h.1;omega
 obtain ⟨A,c,h1,h2⟩:=RowQ.of_own h;rcases h.2 with ⟨hv,h3⟩ | ⟨g,cap,cur,hv,hb,hg,hn,hc,hs,ht⟩
 ·refine ⟨A,c,h1,by omega,h2⟩
 ·rw [h1] at hv;refine ⟨A,c,h1,?_,h2⟩;have:c = cap:=by cases hv;rfl
  omega
theorem RowC.keep {lo hi:Nat} {w w':World} {v:Value} {xs:List Value} (h:RowC lo hi w v xs) (hc:∀ (p:Addr) u,lo <= p.block -> p.block < hi -> w.cell? p = some u -> w'.cell? p = some u):RowC lo hi w' v xs:=by
 obtain ⟨A,c,h1,h2,h3⟩:=h;refine ⟨A,c,h1,h2,fun h0=>?_⟩;obtain ⟨g,off,a,b,d,e⟩:=h3 h0;exact ⟨g,off,a,b,d,fun i hi=>by have:=e i hi;rw [je hi] at this ⊢;exact hc _ _ b d this⟩
theorem RowC.at_ {lo hi n c:Nat} {w:World} {A:Option Addr} {xs:List Value} (h:RowC lo hi w (.slice A n c) xs) (h0:0 < n):∃ g off,A = some ⟨g,off,none⟩ /\ lo <= g /\ g < hi /\ ∀ i,i < n -> w.cell? ⟨g,off + i,none⟩ = xs[i]?:=by
 obtain ⟨B,d,h1,_,h2⟩:=h;cases h1;obtain ⟨g,off,a,b,e,f⟩:=h2 h0;exact ⟨g,off,a,b,e,f⟩
theorem RowC.cons {lo hi:Nat} {w:World} {v x:Value} {xs:List Value} (h:RowC lo hi w v (x :: xs)):∃ g off c,v = .slice (some ⟨g,off,none⟩) (xs.length + 1) c /\ xs.length + 1 <= c /\ lo <= g /\ g < hi /\ w.cell? ⟨g,off,none⟩ = some x /\ RowC lo hi w (.slice (if c = 1 then some ⟨g,off,none⟩ else some ⟨g,off + 1,none⟩) xs.length (c - 1)) xs:=by
 obtain ⟨A,c,h1,h2,h3⟩:=h;obtain ⟨g,off,rfl,b,d,e⟩:=h3 (by simp);simp only [jlc] at h1 h2 e;refine ⟨g,off,c,h1,h2,b,d,by simpa using e 0 (by omega),_,_,rfl,by omega,fun h0=>⟨g,off + 1,by rw [if_neg (by omega)],b,d,fun i hi=>?_⟩⟩;have:=e (i + 1) (by omega);rw [show off + 1 + i = off + (i + 1) by omega,this];rfl
def InvF (chain:Nat) (ts us:List TxV) (ns gs:List Nat) (csr:List Bool) (E:Int) (j:Nat) (F0:List TxV):Prop:=E = 0 -> us ++ ybh chain (ts.drop j) (ns.drop j) (gs.drop j) csr = F0
theorem InvF.step0 {chain:Nat} {ts us:List TxV} {ns gs:List Nat} {csr:List Bool} {b:Bool} {E:Int} {j:Nat} {F0:List TxV} {kv:Nat} (h:InvF chain ts us ns gs (b :: csr) E j F0) (hl:E = 0 -> j < ts.length /\ (ts.getD j TxV.zero).kind = (kv:Int)) (hk:kv = 0) :
  InvF chain ts (us ++ [yc6 chain (ts.getD j TxV.zero) (ns.getD j 0) (gs.getD j 0) b]) ns gs csr E (j + 1) F0:=fun h0=>by
 obtain ⟨h1,h2⟩:=hl h0;have:=h h0;rw [yfA _ _ _ _ _ h1,if_pos (by rw [h2];omega)] at this;rw [<- this]
 simp
theorem InvF.step1 {chain:Nat} {ts us:List TxV} {ns gs:List Nat} {csr:List Bool} {E:Int} {j:Nat} {F0:List TxV} {kv:Nat} (h:InvF chain ts us ns gs csr E j F0) (hl:E = 0 -> j < ts.length /\ (ts.getD j TxV.zero).kind = (kv:Int)) (hk:kv ≠ 0) :
  InvF chain ts (us ++ [yc6 chain (ts.getD j TxV.zero) (ns.getD j 0) (gs.getD j 0) true]) ns gs csr E (j + 1) F0:=fun h0=>by
 obtain ⟨h1,h2⟩:=hl h0;have:=h h0;rw [yfA _ _ _ _ _ h1,if_neg (by rw [h2];omega)] at this;rw [<- this]
 simp
theorem ykW (ks:List Nat) {j:Nat} (h:j < ks.length):(ks.drop j).count 0 = (if ks.getD j 0 = 0 then 1 else 0) + (ks.drop (j + 1)).count 0:=by
 have e:ks.drop j = ks.getD j 0 :: ks.drop (j + 1):=by
  rw [jdc h,jg,je h];rfl
 rw [e,List.count_cons];by_cases h0:ks.getD j 0 = 0
 ·rw [if_pos h0,h0];simp;omega
 ·rw [if_neg h0,if_neg (by simpa using h0)];omega
theorem ykB {ts:List TxV} {ks:List Nat} (hl:ts.length = ks.length) (hk:∀ i,i < ks.length -> (ts.getD i TxV.zero).kind = ((ks.getD i 0:Nat):Int)):legN ts = ks.count 0:=by
 have e:ts.map TxV.kind = ks.map fun (x:Nat)=>(x:Int):=by
  refine List.ext_getElem (by simp [hl]) fun i h1 h2=>?_;have h3:i < ks.length:=by simpa using h2
  have:=hk i h3;rw [jg,jg,je h3,je (by omega)] at this;simpa using this
 unfold legN;rw [e]
 have:∀ l:List Nat,(l.map fun (x:Nat)=>(x:Int)).count 0 = l.count 0:=by
  intro l
  induction l with
  | nil=>rfl
  | cons x l ih =>
   rw [jb5,List.count_cons,List.count_cons,ih];by_cases hx:x = 0
   ·subst hx;simp
   ·simp [hx]
 exact this ks
section
variable {P:Program} {ops:Array Oper} {rest:List Oper} {op:Oper} {a:Act} {w w':World} {Q:Exit -> Act -> World -> Prop}
theorem yah (hgd:jb6 op (yielded ops a.tmps) = true) (v:Value) (h:(execOp a.eval op).run P w = .ok (.value v) w') (hk:wpList P ops Q rest (a.put op.dst v) w'):wpList P ops Q (op :: rest) a w :=
 wpList_step fun K hK=>by rw [if_pos hgd];unfold Oper.wp;rw [h];exact hK _ _ hk
theorem ybX (hgd:jb6 op (yielded ops a.tmps) = true) (f:FuncId) (args:Array Value) (h:(execOp a.eval op).run P w = .ok (.enter f args) w)
  (hc:Calls P f args w fun e w'=>∃ v,e = .returned v /\ wpList P ops Q rest (a.put op.dst v) w'):wpList P ops Q (op :: rest) a w :=
 wpList_step fun K hK=>by
  rw [if_pos hgd];unfold Oper.wp;rw [h];refine hc.mono fun e w' he=>?_;obtain ⟨v,rfl,hk⟩:=he;exact hK _ _ hk
theorem yao (hgd:jb6 op (yielded ops a.tmps) = false) (hk:wpList P ops Q rest (a.put op.dst undef) w):wpList P ops Q (op :: rest) a w :=
 wpList_step fun K hK=>by rw [if_neg (by rw [hgd];decide)];exact hK _ _ hk
end
theorem ylZ {s:ByteArray} {a n:Nat} {E:Int} (h:E ≠ 0):nuE s a n E = E:=by unfold nuE;rw [if_neg h]
theorem yo7 {s:ByteArray} {a n:Nat} {E:Int} (h:E ≠ 0):tkE s a n E = E:=by unfold tkE;rw [if_neg h]
theorem yoT {s:ByteArray} {a n:Nat} {E:Int} (h:E ≠ 0):btE s a n E = E:=by unfold btE;rw [yo7 h,if_neg h]
theorem ynL {s sgs:ByteArray} {nl yl cs:List Bool} {n k ak sa lg A5 A6 A7 chain:Nat} {Ek SE E4 E5 E6 E7:Int} {ts:List TxV} {ns gs:List Nat} {tk:ByteArray} {R0:Except Int (List TxV × Nat)} (hi:InvG s sgs nl yl n k ak sa Ek SE E4 ts tk R0) (hk:k = n)
  (h5:nuE s ak n Ek = E5) (ha5:nuA s ak n Ek = A5) (hns:nuN s ak n Ek = ns) (h6:nuE s A5 n E5 = E6) (ha6:nuA s A5 n E5 = A6) (hgs:nuN s A5 n E5 = gs) (h7:btE s A6 lg E6 = E7) (ha7:btA s A6 lg E6 = A7) (hcs:btL s A6 lg E6 = cs) (hlg:Ek = 0 -> lg = legN ts) :
  endR s n chain R0 = if E7 ≠ 0 then .error E7 else if yat (ybh chain ts ns gs cs) chain ≠ 0 then .error (yat (ybh chain ts ns gs cs) chain) else .ok (ybh chain ts ns gs cs,A7):=by
 rcases hi with ⟨rfl,_,_,_,hR⟩ | ⟨h1,hR⟩
 ·rw [hk,Nat.sub_self,ycR,yfZ,List.append_nil] at hR;rw [hR,endR];unfold yn6;rw [<- hlg rfl,h5,ha5,hns,h6,ha6,hgs,h7,ha7,hcs]
 ·rw [ylZ h1] at h5;subst h5;rw [ylZ h1] at h6;subst h6;rw [yoT h1] at h7;subst h7;rw [if_pos h1,hR];rfl
theorem yoP {s sgs tos:ByteArray} {nl yl:List Bool} {n a A1 A2 A3 A4 m:Nat} {E1 E2 E3 E4:Int} {R0:Except Int (List TxV × Nat)} (h1:btL s a n 0 = nl) (h2:btA s a n 0 = A1) (h3:btE s a n 0 = E1) (h4:btE s A1 n E1 = E2) (h5:btA s A1 n E1 = A2) (h6:btL s A1 n E1 = yl) (h7:n - cntB nl = m)
  (h8:tkS s A2 (64 * n) E2 = sgs) (h9:tkE s A2 (64 * n) E2 = E3) (h10:tkA s A2 (64 * n) E2 = A3) (h11:tkE s A3 (20 * m) E3 = E4) (h12:tkA s A3 (20 * m) E3 = A4) (h13:tkS s A3 (20 * m) E3 = tos) (hR:(if E4 ≠ 0 then .error E4 else ycR s sgs nl yl n 0 A4 tos) = R0) :
  fixR s n (btL s a n 0) (btA s a n 0) (btE s a n 0) = R0:=by
 rw [h1,h2,h3];unfold fixR;rw [h4,h5,h6,h7,h8,h9,h10,h11,h12,h13];exact hR
theorem yjR {p:Nat -> Prop} {ns:List Nat} (h:∀ x ∈ ns,p x) (h0:p 0):p (ns.headD 0):=by
 cases ns with
 | nil=>exact h0
 | cons x r=>exact h x (by simp)
theorem yfB {chain:Nat} (hc:chain < 18446744073709551616):∀ {ts:List TxV} {ns gs:List Nat} {cs:List Bool},(∀ t ∈ ts,yeQ t) -> (∀ x ∈ ns,x < 18446744073709551616) -> (∀ x ∈ gs,x < 18446744073709551616) -> ∀ u ∈ ybh chain ts ns gs cs,yeQ u
 | [],_,_,_,_,_,_,u,hu=>by simp [ybh] at hu
 | t :: ts,ns,gs,cs,ht,hn,hg,u,hu=>by
  have a1:=yjR hn (by omega);have a2:=yjR hg (by omega);have b1:∀ x ∈ ns.tail,x < 18446744073709551616:=fun x hx=>hn x (List.mem_of_mem_tail hx);have b2:∀ x ∈ gs.tail,x < 18446744073709551616:=fun x hx=>hg x (List.mem_of_mem_tail hx);unfold ybh at hu;split at hu
  ·rcases je6.1 hu with rfl | hu
   ·exact yjW (ht t (by simp)) hc a1 a2
   ·exact yfB hc (fun t h=>ht t (by simp [h])) b1 b2 u hu
  ·rcases je6.1 hu with rfl | hu
   ·exact yjW (ht t (by simp)) hc a1 a2
   ·exact yfB hc (fun t h=>ht t (by simp [h])) b1 b2 u hu
theorem InvG.rows {s sgs:ByteArray} {nl yl:List Bool} {n k ak sa A4:Nat} {Ek SE E4:Int} {ts:List TxV} {tk tos:ByteArray} {R0:Except Int (List TxV × Nat)} (hi:InvG s sgs nl yl n k ak sa Ek SE E4 ts tk R0) (hk:k = n) (h0:Ek = 0) (hR:(if E4 ≠ 0 then .error E4 else ycR s sgs nl yl n 0 A4 tos) = R0):∀ t ∈ ts,yeQ t:=by
 rcases hi with ⟨_,_,_,h4,hR2⟩ | ⟨h1,_⟩
 ·rw [hk,Nat.sub_self,ycR,yfZ,List.append_nil] at hR2;rw [if_neg (by simpa using h4),hR2] at hR;exact (yg2 hR).2
 ·exact absurd h0 h1
theorem Gr3.close {w w1 u:World} {r g l:Nat} (h0:w.grownBy w1 none) (h:Gr3 w1 u r g l) (hr:w.heap.size <= r) (hg:w.heap.size <= g) (hl:w.heap.size <= l):w.grownBy u none :=
 ⟨h.os.trans h0.os,h.tape.trans h0.tape,h.output.trans h0.output,jlt h0.size h.size,fun k hk _=>(h.block k (jc4 hk h0.size) (by omega) (by omega) (by omega)).trans (h0.block k hk (by simp))⟩
theorem FilS.read {wG u u':World} {o:Nat} {s:ByteArray} {r sg l n k a:Nat} {E:Int} {C:Array Value} {cur:Value -> List Value} {ks:List Nat} {ts us:List TxV} (h:FilS wG o s r sg l n k a E C cur ks ts us u) (hg:u.grownBy u' (some r)) (hr:Blk u' r 67 (rdC s a E)) (ho:r < o):FilS wG o s r sg l n k a E C cur ks ts us u' :=
 { h with
  rd:=hr,row:=h.row.grown hg (fun e=>h.rw (ji e).symm),gr:=h.gr.grown hg (fun k e=>.inl (ji e).symm),
  good:=fun h0 i hi hik=>by obtain ⟨sl,a,b,c⟩:=h.good h0 i hi hik;exact ⟨sl,a,b.keep hg.size (fun p v hp hv=>hg.cell hv (fun e=>by have:=ji e;omega)),c⟩,
  at_:=fun h0 hk=>by obtain ⟨sl,a,b,c⟩:=h.at_ h0 hk;exact ⟨sl,a,b.keep hg.size (fun p v hp hv=>hg.cell hv (fun e=>by have:=ji e;omega)),c⟩ }
def GetEnd (s:ByteArray) (a n chain:Nat) (w:World) (e:Ending) (w':World):Prop :=
 w.grownBy w' none /\ ((∃ E,E ≠ 0 /\ getR s a n chain = .error E /\ e = .returned (.tuple #[.slice none 0 0,.int .i64 0,.int .i64 E])) \/
  (∃ L T g,getR s a n chain = .ok (L,T) /\ e = .returned (.tuple #[.slice (some ⟨g,0,none⟩) n n,.int .i64 (T:Int),.int .i64 0]) /\ w.heap.size <= g /\ TxsR w'.heap.size w' L (some ⟨g,0,none⟩) n /\ T <= s.size /\ (∀ t ∈ L,yeQ t) /\ Stand w.heap.size w' L g n))
theorem GetEnd.drew {s:ByteArray} {a n chain:Nat} {w w':World} {e:Ending} (h:GetEnd s a n chain w e w'):GetEnd s a n chain w e w'.drew:=by
 obtain ⟨h1,h2⟩:=h;refine ⟨ya2 h1,?_⟩;rcases h2 with h2 | ⟨L,T,g,a,b,c,d,f1,f2,f3⟩
 ·exact .inl h2
 ·exact .inr ⟨L,T,g,a,b,c,d.grown (ya2 (jr w' none)) (jle _),f1,f2,f3.grown (ya2 (jr w' none))⟩
end Go.Proofs.YtgclnikdkfpflaaGreatDoor
