/- Merged: CpA, CpB, CpC, CpD, CpE, SpA, SpH, SpD, SpB. -/
import Derived.Test.YtgclnikdkfpflaaGreatDoorMv1
import Derived.Test.YtgclnikdkfpflaaGreatDoorMv8
import Derived.Test.YtgclnikdkfpflaaGreatDoorMv10
import Derived.Test.YtgclnikdkfpflaaGreatDoorMv11
namespace Go.Proofs.YtgclnikdkfpflaaGreatDoor
open Go.RowKit Go.Shelf
open List renaming set_cons_zero → jz, set_cons_succ → js, setIfInBounds_toArray → jb
set_option linter.unusedVariables false
set_option linter.unusedSimpArgs false
set_option maxRecDepth 100000
set_option maxHeartbeats 16000000
open _root_.List renaming getD_eq_getElem?_getD → jg, getElem?_eq_getElem → je, length_append → jla, getElem?_append_left → jal, take_of_length_le → jtl, drop_eq_getElem_cons → jdc, length_cons → jlc, getElem?_map → jgm, map_cons → jb5, eq_nil_of_length_eq_zero → jb7, length_take → jd4, mem_cons → je6
open _root_.Nat renaming le_refl → jle, zero_add → jd6
open _root_.Classical renaming not_not → jb9
structure TxC (t:TxV):Prop where
 kind:t.kind = 0 \/ t.kind = 1 \/ t.kind = 2
 named:t = ybQ t
 y:t.y <= 1
 dst:t.dst.size = 0 \/ t.dst.size = 20
 acc:t.acc.length <= 16
 pair:∀ a ∈ t.acc,a.addr.size = 20 /\ a.keys.length <= 16 /\ ∀ k ∈ a.keys,k.size = 32
 data:t.data.size <= 4096
theorem yoE {ck:Int} {lo hi ne k0 c0:Bool} (h:ye4 ck lo hi ne k0 c0 = 0):lo = false /\ hi = false /\ ck = 0 /\ (ne = false \/ k0 = false /\ c0 = false):=by
 unfold ye4 at h;split at h
 ·cases h
 ·rename_i h1
  split at h
  ·rename_i h2;exact absurd h h2
  ·rename_i h2
   split at h
   ·cases h
   ·rename_i h3
    refine ⟨by cases lo <;> simp_all,by cases hi <;> simp_all,jb9.1 h2,?_⟩;cases ne <;> cases k0 <;> cases c0 <;> simp_all
theorem ymH {kd sm sd bd ba bp bu:Bool} (h:yeA kd sm sd bd ba bp bu = 0):kd = true /\ sm = true /\ sd = true /\ bd = false /\ ba = false /\ bp = false /\ bu = false:=by
 revert h;cases kd <;> cases sm <;> cases sd <;> cases bd <;> cases ba <;> cases bp <;> cases bu <;> simp [yeA]
theorem yhc {chain:Nat} {t:TxV} (h:oneT chain t = 0):TxC t /\ (t.chain = chain \/ t.kind = 0 /\ t.chain = 0):=by
 obtain ⟨h1,h2,h3,h4⟩:=yoE (show ye4 _ _ _ _ _ _ = 0 from h);obtain ⟨c1,c2,c3,c4,c5,c6,c7⟩:=ymH (show yeA _ _ _ _ _ _ _ = 0 from h3);have k1:=of_decide_eq_false h1;have k2:=of_decide_eq_false h2;have hk:t.kind = 0 \/ t.kind = 1 \/ t.kind = 2:=by omega
 have hs:ydx t.kind (decide (1 < t.y)) (t.acc.any ybc) (t.auths.any ybm) (decide (t.chain <= 4611686018427387904)) (decide (t.dst.size = 0)) (decide (t.dst.size = 20)) (decide (0 < t.auths.length)) (decide (t.source.size = 32)) (decide (t.frm.size = 20)) = true:=c3;unfold ydx at hs;split at hs
 ·cases hs
 ·rename_i hn
  have hn:decide (1 < t.y) = false /\ t.acc.any ybc = false:=by
   revert hn;cases decide (1 < t.y) <;> cases t.acc.any ybc <;> simp
  have hd:t.dst.size = 0 \/ t.dst.size = 20:=by
   rcases hk with hk | hk | hk
   ·rw [if_pos hk] at hs;simp only [Bool.and_eq_true,Bool.or_eq_true,decide_eq_true_eq] at hs;exact hs.2
   ·rw [if_neg (by omega),if_neg (by omega),if_neg (by omega)] at hs;simpa only [Bool.or_eq_true,decide_eq_true_eq] using hs
   ·rw [if_neg (by omega),if_neg (by omega),if_neg (by omega)] at hs;simpa only [Bool.or_eq_true,decide_eq_true_eq] using hs
  have hy:=of_decide_eq_false hn.1;refine ⟨⟨hk,of_decide_eq_true c2,by omega,hd,by have:=of_decide_eq_false c5;omega,fun a ha=>?_,by have:=of_decide_eq_false c4;omega⟩,?_⟩
  ·have h5:=List.any_eq_false.1 hn.2 a ha;have h6:=List.any_eq_false.1 c6 a ha;simp only [ybc,Bool.or_eq_true,decide_eq_true_eq,not_or,jb9] at h5;simp only [yb8,decide_eq_true_eq] at h6;refine ⟨h5.1,by omega,fun k hk=>?_⟩;have h7:=h5.2;have h8:a.keys.any ybP = false:=by revert h7;cases a.keys.any ybP <;> simp
   have h9:=List.any_eq_false.1 h8 k hk;simpa [ybP] using h9
  ·rcases h4 with h4 | ⟨h4,h5⟩
   ·left;have:=of_decide_eq_false h4;exact jb9.1 this
   ·right;exact ⟨jb9.1 (of_decide_eq_false h4),jb9.1 (of_decide_eq_false h5)⟩
theorem TxC.lacks {t:TxV} (h:TxC t):t.auths = [] /\ t.source = ⟨#[]⟩ /\ t.frm = ⟨#[]⟩ /\ t.mint = 0 /\ t.system = false /\ (t.kind ≠ 2 -> t.tip = 0) /\ (t.kind = 0 -> t.acc = []):=by
 have hk:=h.kind;have hn:=h.named
 have e:ybQ t = { TxV.zero with kind:=t.kind,gas:=t.gas,dst:=t.dst,value:=t.value,data:=t.data,chain:=t.chain,nonce:=t.nonce,price:=t.price,y:=t.y,r:=t.r,s:=t.s,tip:=if t.kind = 2 \/ t.kind = 4 then t.tip else 0,acc:=if yii t.kind = true then t.acc else [],auths:=if t.kind = 4 then t.auths else [] }:=by
  unfold ybQ;rw [if_neg (by omega)]
 rw [e] at hn;refine ⟨?_,congrArg TxV.source hn,congrArg TxV.frm hn,congrArg TxV.mint hn,congrArg TxV.system hn,fun h2=>?_,fun h0=>?_⟩
 ·have:=congrArg TxV.auths hn;simp only at this;rw [this,if_neg (by omega)]
 ·have:=congrArg TxV.tip hn;simp only at this;rw [this,if_neg (by omega)]
 ·have:=congrArg TxV.acc hn;simp only at this;rw [this,if_neg (by simp [yii,h0])]
theorem ynO {xs:List Itm} {d:Nat} (h:∀ x ∈ xs,yaP x d = 0):formL xs d = 0:=by
 induction xs with
 | nil=>rw [formL]
 | cons x xs ih=>rw [formL,h x (by simp),if_neg (by simp)];exact ih fun y hy=>h y (by simp [hy])
theorem yeq (b:ByteArray) (d:Nat):yaP (txt b) d = 0:=by rw [txt,yaP];simp
theorem ydj {xs:List Itm} {d:Nat} (hd:d < 12) (hn:xs.length <= 512) (h:∀ x ∈ xs,yaP x (d + 1) = 0):yaP (.mk true ⟨#[]⟩ xs) d = 0:=by
 rw [yaP,if_neg (by rintro (⟨_,h⟩ | ⟨h,_⟩) <;> first | exact h rfl | cases h),if_neg (by simp),if_neg (by omega),if_neg (by omega)];exact ynO h
theorem ym0 {l:List AccV} (hl:l.length <= 16) (hp:∀ a ∈ l,a.keys.length <= 16) (d:Nat) (hd:d < 9):yaP (accI l) d = 0:=by
 refine ydj (by omega) (by simp;omega) fun x hx=>?_;obtain ⟨a,ha,rfl⟩:=List.mem_map.1 hx;refine ydj (by omega) (by simp) fun x hx=>?_;rcases je6.1 hx with rfl | hx
 ·exact yeq _ _
 ·rcases je6.1 hx with rfl | hx
  ·refine ydj (by omega) (by have:=hp a ha;simp;omega) fun x hx=>?_;obtain ⟨k,_,rfl⟩:=List.mem_map.1 hx;exact yeq _ _
  ·cases hx
theorem yhz (b:ByteArray):wtF (txt b) = 10 + b.size:=by rw [txt,wtF,wtL,Nat.add_zero]
theorem yi6 {α:Type} (f:α -> Itm) (m:Nat):∀ (l:List α),(∀ a ∈ l,wtF (f a) <= m) -> wtL (l.map f) <= l.length * m
 | [],_=>by simp [wtL]
 | a :: l,h=>by
  have h1:=h a (by simp);have h2:=yi6 f m l fun b hb=>h b (by simp [hb]);rw [jb5,wtL,jlc,Nat.add_mul];omega
theorem yoz {l:List AccV} (hl:l.length <= 16) (hp:∀ a ∈ l,a.addr.size = 20 /\ a.keys.length <= 16 /\ ∀ k ∈ a.keys,k.size = 32):wtF (accI l) <= 11600:=by
 have h1:∀ a ∈ l,wtF (ybt a) <= 722:=fun a ha=>by
  obtain ⟨p1,p2,p3⟩:=hp a ha;have h2:=yi6 txt 42 a.keys fun k hk=>by rw [yhz,p3 k hk];exact jle _
  have h3:a.keys.length * 42 <= 16 * 42:=Nat.mul_le_mul_right _ p2;rw [ybt,wtF,wtL,wtL,wtL,yhz,wtF,p1];simp only [show (⟨#[]⟩:ByteArray).size = 0 from rfl];omega
 have h4:=yi6 ybt 722 l h1;have h5:l.length * 722 <= 16 * 722:=Nat.mul_le_mul_right _ hl;rw [accI,wtF];simp only [show (⟨#[]⟩:ByteArray).size = 0 from rfl];omega
theorem yiR (n:Nat):(nB n).size <= 32:=by
 have h:=ymP n;unfold nB;obtain ⟨t,ht⟩:∃ t,beN n = t:=⟨_,rfl⟩;rw [ht] at h ⊢;rw [<- yar];simpa using h
theorem TxC.rest {t:TxV} (h:TxC t):wtF (yaT t) <= 20000 /\ yaP (yaT t) 0 = 0:=by
 have h1:=yiR t.value;have h2:=yiR t.tip;have h3:=yiR t.price;have h4:=yoz h.acc h.pair;have h5:=h.data;have h6:=fun d hd=>ym0 h.acc (fun a ha=>(h.pair a ha).2.1) d hd;constructor
 ·unfold yaT;rw [wtF];simp only [show (⟨#[]⟩:ByteArray).size = 0 from rfl];split
  ·simp only [wtL,yhz];omega
  split
  ·simp only [wtL,yhz];omega
  ·simp only [wtL,yhz];omega
 ·unfold yaT;split
  ·exact ydj (by omega) (by simp) fun x hx=>by simp at hx;rcases hx with rfl | rfl | rfl <;> exact yeq _ _
  split
  ·exact ydj (by omega) (by simp) fun x hx=>by simp at hx;rcases hx with rfl | rfl | rfl | rfl <;> first | exact yeq _ _ | exact h6 1 (by omega)
  ·exact ydj (by omega) (by simp) fun x hx=>by simp at hx;rcases hx with rfl | rfl | rfl | rfl | rfl <;> first | exact yeq _ _ | exact h6 1 (by omega)
theorem TxC.check {t:TxV} (h:TxC t):ybU (yaT t) = 0 /\ (yau (yaT t)).length <= 20000:=by
 obtain ⟨h1,h2⟩:=h.rest;have h3:=yeB (yaT t) (by omega);refine ⟨?_,by omega⟩;unfold ybU;rw [h2,if_neg (by simp),if_neg (by omega)]
theorem TxC.enc {t:TxV} (h:TxC t):encB (yaT t) = yau (yaT t):=by unfold encB;rw [if_pos h.check.1]
theorem ykz {t:TxV} (h:TxC t):(ybS t).length <= 20001:=by
 have:=h.check.2;unfold ybS;rw [h.enc];split
 ·simp;omega
 split <;> (simp;omega)
def At (l:List UInt8) (a:Nat) (x:List UInt8):Prop:=∃ y,l.drop a = x ++ y
theorem At.le {l x:List UInt8} {a:Nat} (h:At l a x) (ha:a <= l.length):a + x.length <= l.length:=by
 obtain ⟨y,hy⟩:=h;have:=congrArg List.length hy;simp at this;omega
theorem At.left {l x y:List UInt8} {a:Nat} (h:At l a (x ++ y)):At l a x:=by
 obtain ⟨z,hz⟩:=h;exact ⟨y ++ z,by rw [hz,List.append_assoc]⟩
theorem At.right {l x y:List UInt8} {a:Nat} (h:At l a (x ++ y)):At l (a + x.length) y:=by
 obtain ⟨z,hz⟩:=h;refine ⟨z,?_⟩;rw [<- List.drop_drop,hz,List.append_assoc,List.drop_left]
theorem At.take {l x:List UInt8} {a:Nat} (h:At l a x):(l.drop a).take x.length = x:=by
 obtain ⟨y,hy⟩:=h;rw [hy,List.take_left]
theorem At.get {l x:List UInt8} {a i:Nat} (h:At l a x) (hi:i < x.length):l[a + i]? = x[i]?:=by
 obtain ⟨y,hy⟩:=h;have:=congrArg (fun z=>z[i]?) hy;simp only [List.getElem?_drop] at this;rw [this,jal hi]
theorem At.agree {l x:List UInt8} {a:Nat} (h:At l a x):Agree x 0 l a x.length:=fun j hj=>by rw [h.get hj,jd6]
theorem ydu (s:ByteArray) (a n:Nat):(s.extract a (a + n)).data.toList = (s.data.toList.drop a).take n:=by
 rw [Lib.extract_data];simp [List.take_drop]
theorem ynD {l:List UInt8} {a:Nat} {x:Itm} (h:ybU x = 0) (hat:At l a (yau x)):itR l a = .ok (x,a + (yau x).length):=by
 have hd:=yjk h;obtain ⟨d1,d2,d3⟩:=yfF hd
 have hag:Agree (yau x) 0 l a (yag (yau x) ((0:Nat):Int) + ya5 (yau x) ((0:Nat):Int) - 0):=by
  have e:yag (yau x) ((0:Nat):Int) + ya5 (yau x) ((0:Nat):Int) - 0 = (yau x).length:=d3;rw [e];exact hat.agree
 obtain ⟨s1,s2,s3,s4⟩:=ye5 (l:=yau x) (a:=0) d1 hag
 have e:yag l (a:Int) + ya5 l (a:Int) = a + (yau x).length:=by
  have d3':yag (yau x) ((0:Nat):Int) + ya5 (yau x) ((0:Nat):Int) = (yau x).length:=d3;omega
 unfold itR;rw [if_neg (by rw [s1];simp),e,show a + (yau x).length - a = (yau x).length by omega,hat.take,hd]
theorem ynC {l:List UInt8} {a T:Nat} {x:Itm} (h:itR l a = .ok (x,T)):a < T /\ T <= l.length /\ ybU x = 0 /\ yau x = (l.drop a).take (T - a):=by
 unfold itR at h;split at h
 ·cases h
 ·rename_i h0
  have h0:=jb9.1 h0;obtain ⟨k1,k2,k3,k4,_⟩:=ybN h0;split at h
  ·cases h
  ·rename_i y hy
   cases h;obtain ⟨d1,d2,_⟩:=yfE hy;exact ⟨k4,k2,d1,d2⟩
theorem ymo {n:Nat} (h:n < 115792089237316195423570985008687907853269984665640564039457584007913129639936):itW (txt (nB n)) = n /\ ycQ (txt (nB n)).list (txt (nB n)).bytes = 0:=by
 have h2:n < 256 ^ 32:=by rw [yjD];exact h
 have hp:=(ylO n h2).1;have hv:=yht n h2;unfold nB;obtain ⟨t,ht⟩:∃ t,beN n = t:=⟨_,rfl⟩;rw [ht] at hp hv ⊢;constructor
 ·unfold itW;rw [if_pos ⟨rfl,hp⟩];exact hv
 ·exact hp
theorem ypl {d:ByteArray} (h:d.size <= 4096):dtE (txt d) = 0 /\ dtV (txt d) = d:=by
 have e:ych d.size 0 4096 = 0:=by unfold ych;rw [if_neg (by omega),if_neg (by omega)]
 constructor
 ·exact e
 ·unfold dtV;rw [if_pos ⟨rfl,e⟩];rfl
theorem yot (n:Nat):∀ (ks:List ByteArray),(∀ k ∈ ks,k.size = n) -> exsF n 0 (ks.map txt) = 0
 | [],_=>rfl
 | k :: ks,h=>by
  have e:exE (txt k).list (txt k).bytes.size n 0 = 0:=by
   unfold exE;have h1:(txt k).bytes.size = n:=h k (by simp);have h2:(txt k).list = false:=rfl;rw [h1,h2];simp [kE]
  have:=yot n ks fun x hx=>h x (by simp [hx]);unfold exsF at this ⊢;rw [jb5,List.foldl_cons,e];exact this
theorem ygW {n:Nat} {few many:Int} (h1:few <= (n:Int)) (h2:(n:Int) <= many):rwE true n few many 0 = 0:=by
 unfold rwE ych;rw [if_pos rfl,if_pos rfl,if_neg (by omega),if_neg (by omega)]
theorem ynk {few many:Int} {y:Itm} {E:Int} (h:rwF few many y E = 0):rwL few many y E = y.items:=if_pos h
theorem ynr {a:AccV} (h:a.addr.size = 20 /\ a.keys.length <= 16 /\ ∀ k ∈ a.keys,k.size = 32):rwF 2 2 (ybt a) 0 = 0 /\ prV (ybt a) = a /\ prE (ybt a) = 0:=by
 obtain ⟨h1,h2,h3⟩:=h
 have e1:prE1 (ybt a) = 0:=by
  unfold prE1 exE prA ybt;show kE 0 (if (false || decide (a.addr.size ≠ 20)) = true then 2 else 0) = 0;rw [h1];rfl
 have e2:rwF 0 16 (prK (ybt a)) 0 = 0:=by
  refine ygW (n:=(a.keys.map txt).length) (by omega) (by simp;omega)
 have e3:prZ (ybt a) = a.keys.map txt:=by
  unfold prZ;rw [e1,ynk e2];rfl
 refine ⟨ygW (n:=2) (by omega) (by omega),?_,?_⟩
 ·unfold prV;rw [e3,List.map_map];have:(Itm.bytes ∘ txt) = id:=rfl;rw [this,List.map_id];rfl
 ·unfold prE;rw [e3,e1,e2];exact yot 32 a.keys h3
theorem ygM:∀ (l:List AccV),(∀ a ∈ l,a.addr.size = 20 /\ a.keys.length <= 16 /\ ∀ k ∈ a.keys,k.size = 32) -> yc1 (l.map ybt) 0 = (l,0)
 | [],_=>rfl
 | a :: l,h=>by
  obtain ⟨e1,e2,e3⟩:=ynr (h a (by simp));rw [jb5,yc1,if_neg (by rw [e1];simp),e2,e3,ygM l fun b hb=>h b (by simp [hb])]
theorem ymV {l:List AccV} (hl:l.length <= 16) (h:∀ a ∈ l,a.addr.size = 20 /\ a.keys.length <= 16 /\ ∀ k ∈ a.keys,k.size = 32):accX (accI l) 0 = (l,0):=by
 have e1:rwF 0 16 (accI l) 0 = 0:=ygW (n:=(l.map ybt).length) (by omega) (by simp;omega);have e2:rwL 0 16 (accI l) 0 = l.map ybt:=by rw [ynk e1];rfl
 unfold accX;rw [e1,e2,ygM l h]
theorem ymJ {s:ByteArray} {a i:Nat} {x:List UInt8} (h:At s.data.toList a x) (hi:i < x.length):byt s (a + i) = (x.getD i 0).toNat:=by
 unfold byt;rw [jg,h.get hi,<- jg]
theorem yn7 {t:TxV} (h:TxC t):∃ kd:Nat,t.kind = (kd:Int) /\ (kd = 0 \/ kd = 1 \/ kd = 2):=by
 rcases h.kind with h | h | h
 ·exact ⟨0,h,.inl rfl⟩
 ·exact ⟨1,h,.inr (.inl rfl)⟩
 ·exact ⟨2,h,.inr (.inr rfl)⟩
theorem ykw {s:ByteArray} {a:Nat} {t:TxV} (h:TxC t) (ok:t.Ok) (hat:At s.data.toList a (ybS t)) (ha:a <= s.size):∃ kd:Nat,t.kind = (kd:Int) /\ kdV s a 0 = kd /\ ycy s a 0 = .ok ((yaT t).items,a + (ybS t).length) /\ ∀ y R S dst,gotT kd (yaT t).items y R S dst = { t with chain:=0,nonce:=0,gas:=0,y:=y,r:=R,s:=S,dst:=dst }:=by
 obtain ⟨kd,hk,hk3⟩:=yn7 h;obtain ⟨l1,l2,l3,l4,l5,l6,l7⟩:=h.lacks;have hle:=hat.le (by rw [yar];exact ha);rw [yar] at hle;have hck:=h.check.1;obtain ⟨z,zl,hz,hz1,_⟩:=yiy (yaT t) (by have:=h.rest.1;omega);have hz1:=hz1 rfl
 have hrb:ybS t = (if kd = 0 then [] else [UInt8.ofNat kd]) ++ yau (yaT t):=by
  unfold ybS;rw [h.enc,hk];rcases hk3 with rfl | rfl | rfl <;> rfl
 have hlen:(ybS t).length = (if kd = 0 then 0 else 1) + (yau (yaT t)).length:=by
  rw [hrb];split <;> simp;omega
 have hpos:1 <= (yau (yaT t)).length:=ygH _
 have hE:kdE s a 0 = 0 /\ kdV s a 0 = kd /\ kdA s a = a + (if kd = 0 then 0 else 1):=by
  rcases hk3 with rfl | hk3
  ·have hb:byt s a = z.toNat:=by
    have:=ymJ (i:=0) hat (by omega)
    rw [hrb,hz] at this;exact this
   unfold kdE kdV kdA;rw [hb];simp only [ne_eq,not_true_eq_false,if_false,if_true];rw [if_neg (by omega),if_pos hz1,if_neg (by omega),if_pos hz1,if_pos hz1];exact ⟨rfl,rfl,rfl⟩
  ·have hne:¬ kd = 0:=by omega
   rw [if_neg hne] at hrb hlen
   have hb:byt s a = kd:=by
    have:=ymJ (i:=0) hat (by omega)
    rw [hrb] at this;rw [Nat.add_zero] at this;rw [this];rcases hk3 with rfl | rfl <;> rfl
   have hb1:byt s (a + 1) = z.toNat:=by
    have:=ymJ (i:=1) hat (by omega)
    rw [hrb,hz] at this;exact this
   unfold kdE kdV kdA;rw [hb,hb1];simp only [ne_eq,not_true_eq_false,if_false,if_neg hne];rw [if_neg (by omega),if_neg (by omega),if_neg (by omega),if_neg (by omega),if_neg (by omega),if_neg (by omega),if_neg (by omega),if_neg (by omega),if_neg (by omega)];exact ⟨rfl,rfl,rfl⟩
 obtain ⟨e1,e2,e3⟩:=hE
 have hat2:At s.data.toList (kdA s a) (yau (yaT t)):=by
  rw [e3];rw [hrb] at hat
  have:=hat.right;rcases hk3 with rfl | rfl | rfl <;> exact this
 have hit:=ynD hck hat2;have hT:kdA s a + (yau (yaT t)).length = a + (ybS t).length:=by rw [e3,hlen];omega
 rw [hT] at hit;obtain ⟨v1,v2⟩:=ymo ok.value;obtain ⟨p1,p2⟩:=ymo ok.price;obtain ⟨t1,t2⟩:=ymo ok.tip;obtain ⟨d1,d2⟩:=ypl h.data;have hax:=ymV h.acc h.pair;obtain ⟨V,hV⟩:∃ x,txt (nB t.value) = x:=⟨_,rfl⟩;obtain ⟨Tt,hTt⟩:∃ x,txt (nB t.tip) = x:=⟨_,rfl⟩;obtain ⟨Pp,hPp⟩:∃ x,txt (nB t.price) = x:=⟨_,rfl⟩;obtain ⟨D,hD⟩:∃ x,txt t.data = x:=⟨_,rfl⟩;obtain ⟨A,hA⟩:∃ x,accI t.acc = x:=⟨_,rfl⟩
 have hI:(yaT t).list = true /\ (yaT t).items = if kd = 0 then [V,Pp,D] else if kd = 1 then [V,Pp,D,A] else [V,Tt,Pp,D,A]:=by
  unfold yaT;rw [hk,hV,hTt,hPp,hD,hA];rcases hk3 with rfl | rfl | rfl <;> exact ⟨rfl,rfl⟩
 rw [hV] at v1 v2;rw [hTt] at t1 t2;rw [hPp] at p1 p2;rw [hD] at d1 d2;rw [hA] at hax;obtain ⟨I,hIe⟩:∃ x,yaT t = x:=⟨_,rfl⟩;rw [hIe] at hit hI ⊢;obtain ⟨hIl,hI⟩:=hI;obtain ⟨zs,hzs⟩:∃ x,I.items = x:=⟨_,rfl⟩;rw [hzs] at hI ⊢
 have hF:rwF (3 + (kd:Nat)) (3 + (kd:Nat)) I 0 = 0:=by
  have hl:zs.length = 3 + kd:=by
   rw [hI];rcases hk3 with rfl | rfl | rfl <;> rfl
  unfold rwF;rw [hIl,hzs];exact ygW (n:=zs.length) (by omega) (by omega)
 have hG:gotA kd zs = (t.acc,0):=by
  rw [hI];rcases hk3 with rfl | rfl | rfl
  ·have e:ydX 0 [V,Pp,D] = 0:=by
    show kE (kE (kE 0 (ycQ V.list V.bytes)) (ycQ Pp.list Pp.bytes)) (dtE D) = 0;rw [v2,p2,d1];rfl
   show (([]:List AccV),ydX 0 [V,Pp,D]) = (t.acc,0);rw [e,l7 (by rw [hk];rfl)]
  ·have e:ydX 1 [V,Pp,D,A] = 0:=by
    show kE (kE (kE 0 (ycQ V.list V.bytes)) (ycQ Pp.list Pp.bytes)) (dtE D) = 0;rw [v2,p2,d1];rfl
   show accX A (ydX 1 [V,Pp,D,A]) = (t.acc,0);rw [e,hax]
  ·have e:ydX 2 [V,Tt,Pp,D,A] = 0:=by
    show kE (kE (kE (kE 0 (ycQ V.list V.bytes)) (ycQ Tt.list Tt.bytes)) (ycQ Pp.list Pp.bytes)) (dtE D) = 0;rw [v2,t2,p2,d1];rfl
   show accX A (ydX 2 [V,Tt,Pp,D,A]) = (t.acc,0);rw [e,hax]
 refine ⟨kd,hk,e2,?_,fun y R S dst=>?_⟩
 ·unfold ycy;rw [if_neg (by rw [e1];simp),hit];dsimp only;rw [e2,if_neg (by rw [hF];simp),hzs,hG]
  simp
 ·have hG1:(gotA kd zs).1 = t.acc:=by rw [hG]
  clear hV hTt hPp hD hA hIe hIl hzs hF hG hit hat hat2 hrb hlen hpos hz hck hax d1 v2 t2 p2;obtain ⟨c1,c2,c3,c4,c5,c6,c7,c8,c9,c10,c11,c12,c13,c14,c15,c16,c17,c18⟩:=t;simp only at hk l1 l2 l3 l4 l5 l6 l7 v1 p1 t1 d2 hG1;subst hk;subst l1;subst l2;subst l3;subst l4;subst l5;unfold gotT;rw [hG1,hI];rcases hk3 with rfl | rfl | rfl
  ·have:=l6 (by simp);subst this;show (TxV.mk _ 0 0 0 (itW Pp) 0 dst (itW V) (dtV D) c10 [] y R S ⟨#[]⟩ ⟨#[]⟩ 0 false) = _;rw [v1,p1,d2]
  ·have:=l6 (by simp);subst this;show (TxV.mk _ 0 0 0 (itW Pp) 0 dst (itW V) (dtV D) c10 [] y R S ⟨#[]⟩ ⟨#[]⟩ 0 false) = _;rw [v1,p1,d2]
  ·show (TxV.mk _ 0 0 (itW Tt) (itW Pp) 0 dst (itW V) (dtV D) c10 [] y R S ⟨#[]⟩ ⟨#[]⟩ 0 false) = _;rw [v1,p1,t1,d2]
theorem ynf {s:ByteArray} {a k:Nat} {x:List UInt8} (h:At s.data.toList a x) (ha:a <= s.size) (hk:x.length = k):tkE s a k 0 = 0 /\ tkA s a k 0 = a + k /\ (tkS s a k 0).data.toList = x:=by
 have hle:=h.le (by rw [yar];exact ha);rw [yar] at hle;have e:tkE s a k 0 = 0:=by unfold tkE;rw [if_pos rfl,if_neg (by omega)]
 refine ⟨e,?_,?_⟩
 ·unfold tkA;rw [if_pos e]
 ·unfold tkS;rw [if_pos e,ydu,<- hk];exact h.take
theorem yjy {s:ByteArray} {a n:Nat} {bs:List Bool} (h:At s.data.toList a (yaD bs)) (ha:a <= s.size) (hn:bs.length = n) (hm:n <= 4096):btE s a n 0 = 0 /\ btA s a n 0 = a + (yaD bs).length /\ btL s a n 0 = bs:=by
 have hl:=yct bs;rw [hn] at hl;obtain ⟨t1,t2,t3⟩:=ynf h ha hl;obtain ⟨u1,u2⟩:=yiB bs (by omega);rw [hn] at u1 u2;have e:btE s a n 0 = 0:=by unfold btE;rw [if_pos t1,t3];exact u1
 refine ⟨e,?_,?_⟩
 ·unfold btA;rw [t2,hl]
 ·unfold btL;rw [if_pos e,t3];exact u2
theorem ygv {s:ByteArray} {a n:Nat} {xs:List Nat} (h:At s.data.toList a (rowL (xs.map fun (x:Nat)=>(x:Int)))) (ha:a <= s.size) (hn:xs.length = n) (hm:n <= 4096) (hx:∀ x ∈ xs,x < 18446744073709551616) :
  nuE s a n 0 = 0 /\ nuA s a n 0 = a + (rowL (xs.map fun (x:Nat)=>(x:Int))).length /\ nuN s a n 0 = xs:=by
 obtain ⟨y,hy⟩:=h
 have hl:s.data.toList = s.data.toList.take a ++ rowL (xs.map fun (x:Nat)=>(x:Int)) ++ y:=by
  rw [List.append_assoc,<- hy,List.take_append_drop]
 have ht:(s.data.toList.take a).length = a:=by
  have:=yar s;rw [jd4];omega
 have hb:=yiA (s.data.toList.take a) y (xs.map fun (x:Nat)=>(x:Int)) (fun z hz=>by obtain ⟨x,hx1,rfl⟩:=List.mem_map.1 hz;have:=hx x hx1;omega) (by simp;omega);rw [<- hl,ht,List.length_map,hn] at hb;have e:nuE s a n 0 = 0:=by unfold nuE;rw [if_pos rfl,hb]
 refine ⟨e,?_,?_⟩
 ·unfold nuA;rw [if_pos e,hb]
 ·unfold nuN nuL;rw [if_pos e,hb,List.map_map];exact (List.map_congr_left fun x hx=>by simp).trans (List.map_id xs)
theorem ym5 {p:Nat} (h:p < 115792089237316195423570985008687907853269984665640564039457584007913129639936):fixN p = yc0 32 p:=by
 have h2:p < 256 ^ 32:=by rw [yjD];exact h
 unfold fixN;rw [yjc _ _ _ _ (yee p 0) (yee p 1) (yee p 2) (yee p 3),yfc p h2]
theorem yeY (p:Nat):(fixN p).length = 32:=ycq _
theorem ypk {s:ByteArray} {a p:Nat} (h:At s.data.toList a (fixN p)) (ha:a <= s.size) (hp:p < 115792089237316195423570985008687907853269984665640564039457584007913129639936):wdN s a 0 = p:=by
 obtain ⟨t1,_,t3⟩:=ynf h ha (yeY p);unfold wdN;rw [if_pos t1,t3,ym5 hp];exact ymO 32 p (by rw [yjD];exact hp)
theorem yb3 (x:ByteArray) (xs:List ByteArray):catB (x :: xs) = x.data.toList ++ catB xs:=rfl
theorem yog:catB [] = []:=rfl
theorem yeS (t:TxV):(sigT t).data.toList.length = 64:=by
 show ((fixN t.r ++ fixN t.s).toArray.toList).length = 64;simp [yeY]
theorem yhI:∀ (L:List TxV) (i:Nat),(catB (L.map sigT)).drop (64 * i) = catB ((L.drop i).map sigT)
 | L,0=>by simp
 | [],i + 1=>by simp [catB]
 | t :: L,i + 1=>by
  rw [jb5,yb3,show 64 * (i + 1) = (sigT t).data.toList.length + 64 * i by rw [yeS];omega,<- List.drop_drop,List.drop_left,yhI L i];rfl
def yfq (t:TxV):TxV:={ t with chain:=0,nonce:=0,gas:=0 }
theorem yg5 {s sgs:ByteArray} {L:List TxV} (hL:∀ t ∈ L,TxC t /\ t.Ok) (hs:sgs.data.toList = catB (L.map sigT)):∀ (m i a:Nat) (tos:ByteArray),i + m = L.length -> a <= s.size -> At s.data.toList a (catB ((L.drop i).map ybv)) -> tos.data.toList = catB ((L.drop i).map TxV.dst) ->
  ycR s sgs (L.map fun t=>decide (t.dst.size = 0)) (L.map fun t=>decide (t.y = 1)) m i a tos = .ok ((L.drop i).map yfq,a + (catB ((L.drop i).map ybv)).length)
 | 0,i,a,tos,hi,ha,hat,ht=>by
  rw [ycR,List.drop_eq_nil_of_le (by omega)];rfl
 | m + 1,i,a,tos,hi,ha,hat,ht=>by
  have hlt:i < L.length:=by omega
  have ed:L.drop i = L[i] :: L.drop (i + 1):=jdc hlt;obtain ⟨t,htt⟩:∃ t,L[i] = t:=⟨_,rfl⟩;rw [htt] at ed;have hmem:t ∈ L:=by rw [<- htt];exact List.getElem_mem _
  obtain ⟨hc,ok⟩:=hL t hmem;rw [ed,jb5,yb3] at hat ht;have hrt:(ybv t).data.toList = ybS t:=by simp [ybv]
  rw [hrt] at hat
  obtain ⟨kd,k1,k2,k3,k4⟩:=ykw hc ok hat.left ha;have hle:=hat.left.le (by rw [yar];exact ha);rw [yar] at hle
  have hsa:At sgs.data.toList (64 * i) (fixN t.r ++ fixN t.s):=by
   refine ⟨catB ((L.drop (i + 1)).map sigT),?_⟩;rw [hs,yhI,ed,jb5,yb3];congr 1
  have hsz:64 * i + 64 <= sgs.size:=by
   have h1:=hsa.le (by
    rw [hs]
    have:(catB (L.map sigT)).length = 64 * L.length:=by
     clear hs hL hsa
     have:∀ M:List TxV,(catB (M.map sigT)).length = 64 * M.length:=fun M=>by
      induction M with
      | nil=>rfl
      | cons x M ih=>rw [jb5,yb3,jla,yeS,ih,jlc];omega
     exact this L
    rw [this];omega)
   simp only [jla,yeY] at h1;rw [yar] at h1;omega
  have hR:=ypk hsa.left (by omega) ok.r;have hS:=ypk (a:=64 * i + 32) (by have:=hsa.right;rwa [yeY] at this) (by omega) ok.s
  have hn:(L.map fun t=>decide (t.dst.size = 0)).getD i false = decide (t.dst.size = 0):=by
   rw [jg,jgm,je hlt,htt];rfl
  have hy:(L.map fun t=>decide (t.y = 1)).getD i false = decide (t.y = 1):=by
   rw [jg,jgm,je hlt,htt];rfl
  have hdst:(if (L.map fun t=>decide (t.dst.size = 0)).getD i false = false /\ 20 <= tos.size then tos.extract 0 20 else ⟨#[]⟩) = t.dst /\ (if (L.map fun t=>decide (t.dst.size = 0)).getD i false = false /\ 20 <= tos.size then tos.extract 20 tos.size else tos).data.toList = catB ((L.drop (i + 1)).map TxV.dst):=by
   rw [hn];have hdl:=yar t.dst;have htl:=yar tos;rcases hc.dst with h0 | h20
   ·have hz:t.dst = ⟨#[]⟩:=yej h0;rw [if_neg (by simp [h0]),if_neg (by simp [h0])];refine ⟨hz.symm,?_⟩;rw [ht,hz];rfl
   ·have h20':20 <= tos.size:=by
     have:=congrArg List.length ht;simp only [jla] at this;omega
    rw [if_pos ⟨by simp [h20],h20'⟩,if_pos ⟨by simp [h20],h20'⟩];constructor
    ·refine ybM ?_;have:=ydu tos 0 20;rw [jd6] at this;rw [this,ht,List.drop_zero,<- h20,<- hdl,List.take_left]
    ·have:=ydu tos 20 (tos.size - 20);rw [show 20 + (tos.size - 20) = tos.size by omega] at this;rw [this,ht,<- h20,<- hdl,List.drop_left];refine jtl ?_;have:=congrArg List.length ht;simp only [jla] at this;omega
  have hnext:=yg5 hL hs m (i + 1) (a + (ybS t).length) (if (L.map fun t=>decide (t.dst.size = 0)).getD i false = false /\ 20 <= tos.size then tos.extract 20 tos.size else tos) (by omega) hle hat.right hdst.2;rw [yg4 k3,hnext,hdst.1,hR,hS,k2,k4,hy,ed,jb5,jb5,yb3,hrt]
  have hyv:(if decide (t.y = 1) = true then 1 else 0) = t.y:=by
   have:=hc.y;by_cases h1:t.y = 1
   ·simp [h1]
   ·have:t.y = 0:=by omega
    simp [this]
  rw [hyv];unfold yfZ;simp only [jla,Nat.add_assoc];rfl
theorem yin {chain:Nat} (hc0:chain ≠ 0):∀ (ls:List TxV),(∀ t ∈ ls,t.chain = chain \/ t.kind = 0 /\ t.chain = 0) -> ybh chain (ls.map yfq) (ls.map TxV.nonce) (ls.map TxV.gas) ((ls.filter fun t=>decide (t.kind = 0)).map fun t=>decide (t.chain ≠ 0)) = ls
 | [],_=>rfl
 | t :: ls,h=>by
  have h1:=h t (by simp);have ih:=yin hc0 ls fun x hx=>h x (by simp [hx]);rw [jb5,ybh];by_cases hk:t.kind = 0
  ·rw [if_pos (show (yfq t).kind = 0 from hk),List.filter_cons_of_pos (by simp [hk]),jb5];simp only [jb5,List.headD_cons,List.tail_cons];rw [ih];congr 1;unfold yc6 yfq
   have:(if decide (t.chain ≠ 0) = true then chain else 0) = t.chain:=by
    rcases h1 with h1 | ⟨_,h1⟩
    ·rw [h1,if_pos (by simp [hc0])]
    ·rw [h1];simp
   rw [this]
  ·rw [if_neg (show ¬ (yfq t).kind = 0 from hk),List.filter_cons_of_neg (by simp [hk])];simp only [jb5,List.headD_cons,List.tail_cons];rw [ih];congr 1;unfold yc6 yfq;rcases h1 with h1 | ⟨h2,_⟩
   ·rw [if_pos rfl,<- h1]
   ·exact absurd h2 hk
theorem ydM {α:Type} (f:TxV -> α) (ls:List TxV):colL f (fun _=>true) ls = ls.map f:=by
 unfold colL;rw [List.filter_eq_self.2 (fun _ _=>rfl)]
theorem yho (ls:List TxV):ye9 ls = yaD (ls.map fun t=>decide (t.dst.size = 0)) ++ (yaD (ls.map fun t=>decide (t.y = 1)) ++ (catB (ls.map sigT) ++ (catB (ls.map TxV.dst) ++ (catB (ls.map ybv) ++ (rowL ((ls.map TxV.nonce).map fun (x:Nat)=>(x:Int)) ++ (rowL ((ls.map TxV.gas).map fun (x:Nat)=>(x:Int)) ++ yaD ((ls.filter fun t=>decide (t.kind = 0)).map fun t=>decide (t.chain ≠ 0)))))))):=by
 unfold ye9 yet;simp only [yb3,yog,ydM,List.map_map,List.append_nil,List.toList_toArray];rfl
theorem ygy (ls:List TxV):legN (ls.map yfq) = (ls.filter fun t=>decide (t.kind = 0)).length:=by
 unfold legN
 induction ls with
 | nil=>rfl
 | cons t ls ih =>
  rw [jb5,jb5,List.count_cons,ih];by_cases hk:t.kind = 0
  ·rw [List.filter_cons_of_pos (by simp [hk])];simp [yfq,hk]
  ·rw [List.filter_cons_of_neg (by simp [hk])];simp [yfq,hk]
theorem yoe {α:Type} (p:α -> Bool) (ls:List α):cntB (ls.map p) = (ls.filter p).length:=by
 unfold cntB;rw [List.count_eq_countP,List.countP_map,List.countP_eq_length_filter];congr 1;exact List.filter_congr fun x _=>by simp
theorem yoS:∀ (ls:List TxV),(∀ t ∈ ls,TxC t) -> (catB (ls.map TxV.dst)).length = 20 * (ls.length - cntB (ls.map fun t=>decide (t.dst.size = 0))):=fun ls h=>by
 rw [yoe]
 induction ls with
 | nil=>rfl
 | cons t ls ih =>
  have hl:=yar t.dst;have ih:=ih fun x hx=>h x (by simp [hx]);have hle:=List.length_filter_le (fun t:TxV=>decide (t.dst.size = 0)) ls;rw [jb5,yb3,jla,ih,jlc];rcases (h t (by simp)).dst with h0 | h20
  ·rw [List.filter_cons_of_pos (by simp [h0]),jlc];omega
  ·rw [List.filter_cons_of_neg (by simp [h20])];omega
theorem yjU {f:TxV -> Int}:∀ {ls:List TxV},yd7 f ls = 0 -> ∀ t ∈ ls,f t = 0
 | [],_,t,h=>by cases h
 | x :: r,h,t,ht=>by
  rw [yd7] at h;split at h
  ·rename_i h1;exact absurd h h1
  ·rename_i h1
   rcases je6.1 ht with rfl | ht
   ·exact jb9.1 h1
   ·exact yjU h t ht
theorem ycA {ls:List TxV} {chain:Nat} (h:yat ls chain = 0):0 < chain /\ chain <= 4611686018427387904 /\ ls.length <= 512 /\ ∀ t ∈ ls,oneT chain t = 0:=by
 unfold yat at h;split at h
 ·cases h
 ·rename_i h1
  split at h
  ·cases h
  ·rename_i h2
   simp only [Bool.or_eq_true,decide_eq_true_eq,not_or] at h1;exact ⟨by omega,by omega,by omega,yjU h⟩
theorem ynK {s:ByteArray} {a chain:Nat} {ls:List TxV} (hck:yat ls chain = 0) (ok:∀ t ∈ ls,t.Ok) (hat:At s.data.toList a (ye9 ls)) (ha:a <= s.size):getR s a ls.length chain = .ok (ls,a + (ye9 ls).length):=by
 obtain ⟨hc0,hc1,hn,hone⟩:=ycA hck;have hT:∀ t ∈ ls,TxC t /\ t.Ok:=fun t ht=>⟨(yhc (hone t ht)).1,ok t ht⟩;have hle:=hat.le (by rw [yar];exact ha);rw [yar] at hle;rw [yho] at hat hle ⊢;simp only [jla] at hle;obtain ⟨n,hln⟩:∃ n,ls.length = n:=⟨_,rfl⟩;rw [hln] at hn ⊢;have h1:=hat.left;have r1:=hat.right;obtain ⟨b1,b2,b3⟩:=yjy (n:=n) h1 ha (by simp [hln]) (by omega);have h2:=r1.left;have r2:=r1.right;obtain ⟨c1,c2,c3⟩:=yjy (n:=n) h2 (by omega) (by simp [hln]) (by omega);have h3:=r2.left;have r3:=r2.right
 have hsl:(catB (ls.map sigT)).length = 64 * n:=by
  have:∀ M:List TxV,(catB (M.map sigT)).length = 64 * M.length:=fun M=>by
   induction M with
   | nil=>rfl
   | cons x M ih=>rw [jb5,yb3,jla,yeS,ih,jlc];omega
  rw [this,hln]
 obtain ⟨d1,d2,d3⟩:=ynf h3 (by omega) hsl;have h4:=r3.left;have r4:=r3.right;have hdl:=yoS ls fun t ht=>(hT t ht).1;rw [hln] at hdl;rw [hsl] at h4 r4 r3;obtain ⟨e1,e2,e3⟩:=ynf h4 (by omega) hdl;have h5:=r4.left;have r5:=r4.right;rw [hdl] at h5 r5;have hgo:=yg5 (s:=s) (sgs:=tkS s (a + (yaD (ls.map fun t=>decide (t.dst.size = 0))).length + (yaD (ls.map fun t=>decide (t.y = 1))).length) (64 * n) 0) hT d3 n 0 _ (tkS s (a + (yaD (ls.map fun t=>decide (t.dst.size = 0))).length + (yaD (ls.map fun t=>decide (t.y = 1))).length + 64 * n) (20 * (n - cntB (ls.map fun t=>decide (t.dst.size = 0)))) 0) (by rw [jd6,hln]) (by omega) h5 e3;rw [List.drop_zero] at hgo
 have hfix:fixR s n (btL s a n 0) (btA s a n 0) (btE s a n 0) = .ok (ls.map yfq,a + (yaD (ls.map fun t=>decide (t.dst.size = 0))).length + (yaD (ls.map fun t=>decide (t.y = 1))).length + 64 * n + 20 * (n - cntB (ls.map fun t=>decide (t.dst.size = 0))) + (catB (ls.map ybv)).length):=by
  rw [b1,b2,b3];unfold fixR;rw [c1,c2,c3,d1,d2,e1,e2,if_neg (by simp)];exact hgo
 have h6:=r5.left;have r6:=r5.right;obtain ⟨f1,f2,f3⟩:=ygv (n:=n) h6 (by omega) (by simp [hln]) (by omega) (fun x hx=>by obtain ⟨t,ht,rfl⟩:=List.mem_map.1 hx;exact (ok t ht).nonce);have h7:=r6.left;have r7:=r6.right;obtain ⟨g1,g2,g3⟩:=ygv (n:=n) h7 (by omega) (by simp [hln]) (by omega) (fun x hx=>by obtain ⟨t,ht,rfl⟩:=List.mem_map.1 hx;exact (ok t ht).gas);have hfl:=List.length_filter_le (fun t:TxV=>decide (t.kind = 0)) ls;obtain ⟨i1,i2,i3⟩:=yjy (n:=legN (ls.map yfq)) r7 (by omega) (by rw [ygy];simp) (by rw [ygy];omega);have hfb:=yin (chain:=chain) (by omega) ls fun t ht=>(yhc (hone t ht)).2;unfold getR;rw [hfix,endR];unfold yn6;rw [f1,f2,f3,g1,g2,g3,i1,i2,i3,hfb,hck,if_neg (by simp),if_neg (by simp)];simp only [jla,hsl,hdl,Nat.add_assoc]
theorem ykM {xs:List Itm} {d:Nat} (h:formL xs d = 0):∀ x ∈ xs,yaP x d = 0:=by
 induction xs with
 | nil=>intro x hx;cases hx
 | cons y ys ih =>
  rw [formL] at h;split at h
  ·rename_i h1;exact absurd h h1
  ·rename_i h1
   intro x hx;rcases je6.1 hx with rfl | hx
   ·exact jb9.1 h1
   ·exact ih h x hx
theorem ygR {y:Itm} {d:Nat} (hf:yaP y d = 0) (hl:y.list = false):y = txt y.bytes:=by
 obtain ⟨l,b,xs⟩:=y;simp only [Itm.list] at hl;subst hl;rw [yer] at hf;split at hf
 ·cases hf
 ·rename_i h
  have hx:xs = []:=by
   by_cases hx:xs.length = 0
   ·exact jb7 hx
   ·exact absurd (.inr ⟨rfl,hx⟩) h
  subst hx;rfl
theorem yhf {y:Itm} {d:Nat} (hf:yaP y d = 0) (hl:y.list = true):y = .mk true ⟨#[]⟩ y.items /\ ∀ z ∈ y.items,yaP z (d + 1) = 0:=by
 obtain ⟨l,b,xs⟩:=y;simp only [Itm.list] at hl;subst hl;rw [yer] at hf;split at hf
 ·cases hf
 ·rename_i h
  have hb:b = ⟨#[]⟩:=by
   by_cases hb:b.size = 0
   ·exact yej hb
   ·exact absurd (.inl ⟨rfl,hb⟩) h
  subst hb;refine ⟨rfl,?_⟩;split at hf
  ·rename_i h2;cases h2
  ·split at hf
   ·cases hf
   ·split at hf
    ·cases hf
    ·exact ykM hf
theorem kE_0 {E e:Int} (h:kE E e = 0):E = 0 /\ e = 0:=by
 unfold kE at h;split at h
 ·rename_i h1;exact ⟨h1,h⟩
 ·rename_i h1;exact absurd h h1
theorem yoB {l:List UInt8} (h:ybT l = 0):beN (beV l) = l:=by
 unfold ybT at h;split at h
 ·cases h
 ·rename_i h1
  split at h
  ·cases h
  ·rename_i h2
   cases l with
   | nil=>exact by decide
   | cons x r=>exact ymQ _ (by omega) (fun e=>h2 (by simpa using e))
theorem ydV {z:Itm} {d:Nat} (hf:yaP z d = 0) (hw:ycQ z.list z.bytes = 0):z = txt (nB (itW z)):=by
 unfold ycQ at hw;split at hw
 ·cases hw
 ·rename_i hl
  have hl:z.list = false:=by revert hl;cases z.list <;> simp
  have hz:=ygR hf hl;have e:itW z = beV z.bytes.data.toList:=by unfold itW;rw [if_pos ⟨hl,hw⟩]
  have hp:=yoB hw;rw [e];unfold nB;rw [hp]
  conv=>lhs;rw [hz]
theorem yjl {z:Itm} {d:Nat} (hf:yaP z d = 0) (hw:dtE z = 0):z = txt (dtV z):=by
 unfold dtE at hw;split at hw
 ·cases hw
 ·rename_i hl
  have hl:z.list = false:=by revert hl;cases z.list <;> simp
  have e:dtV z = z.bytes:=by unfold dtV;rw [if_pos ⟨hl,hw⟩]
  rw [e];exact ygR hf hl
theorem yl9 {few many:Int} {y:Itm} {E:Int} (h:rwF few many y E = 0):E = 0 /\ y.list = true /\ few <= (y.items.length:Int) /\ (y.items.length:Int) <= many:=by
 obtain ⟨h1,h2,h3⟩:=ykq (show rwE _ _ _ _ _ = 0 from h);obtain ⟨h4,h5⟩:=yde h3;exact ⟨h1,h2,h4,h5⟩
theorem yio {n:Nat}:∀ {zs:List Itm} {E:Int},exsF n E zs = 0 -> E = 0 /\ ∀ z ∈ zs,z.list = false /\ z.bytes.size = n
 | [],E,h=>⟨h,fun z hz=>by cases hz⟩
 | z :: zs,E,h=>by
  unfold exsF at h;rw [List.foldl_cons] at h;obtain ⟨h1,h2⟩:=yio (zs:=zs) (E:=exE z.list z.bytes.size n E) h;unfold exE at h1;obtain ⟨h3,h4⟩:=kE_0 h1
  have h5:z.list = false /\ z.bytes.size = n:=by
   revert h4
   cases z.list
   ·by_cases hz:z.bytes.size = n
    ·exact fun _=>⟨rfl,hz⟩
    ·simp [hz]
   ·simp
  refine ⟨h3,fun y hy=>?_⟩;rcases je6.1 hy with rfl | hy
  ·exact h5
  ·exact h2 y hy
theorem yoC {y:Itm} {d:Nat} (hf:yaP y d = 0) (h1:rwF 2 2 y 0 = 0) (h2:prE y = 0):y = ybt (prV y):=by
 obtain ⟨_,hl,hn1,hn2⟩:=yl9 h1;obtain ⟨hy,hi⟩:=yhf hf hl;obtain ⟨l,b,xs⟩:=y;simp only [Itm.list,Itm.items] at hl hn1 hn2 hy hi
 match xs,hn1,hn2 with
 | [p,q],_,_ =>
  cases hy;unfold prE at h2;obtain ⟨h3,h4⟩:=yio h2;obtain ⟨h5,h6,_⟩:=yl9 h3;have e1:prZ (.mk true ⟨#[]⟩ [p,q]) = q.items:=by unfold prZ;rw [h5];exact ynk (by rw [h5] at h3;exact h3)
  rw [e1] at h4
  have h7:p.list = false:=by
   have:=h5;unfold prE1 exE at this;have:=(kE_0 this).2
   revert this
   show (if (p.list || decide (p.bytes.size ≠ 20)) = true then (2:Int) else 0) = 0 -> _;cases p.list <;> simp
  have hp:=ygR (hi p (by simp)) h7;obtain ⟨hq,hqi⟩:=yhf (hi q (by simp)) h6
  have hqs:q.items = (q.items.map Itm.bytes).map txt:=by
   rw [List.map_map]
   conv=>lhs;rw [<- List.map_id q.items]
   exact List.map_congr_left fun z hz=>ygR (hqi z hz) (h4 z hz).1
  unfold ybt prV;rw [e1];show Itm.mk true ⟨#[]⟩ [p,q] = Itm.mk true ⟨#[]⟩ [txt p.bytes,.mk true ⟨#[]⟩ ((q.items.map Itm.bytes).map txt)];rw [<- hqs,<- hp,<- hq]
 | [],h,_=>simp at h
 | [_],h,_=>simp at h
 | _ :: _ :: _ :: _,_,h=>simp at h;omega
theorem ygL:∀ {ys:List Itm} {E:Int} {ls:List AccV},yc1 ys E = (ls,0) -> E = 0 /\ ((∀ y ∈ ys,yaP y 2 = 0) -> ys = ls.map ybt)
 | [],E,ls,h=>by
  rw [yc1] at h;cases h;exact ⟨rfl,fun _=>rfl⟩
 | y :: ys,E,ls,h=>by
  rw [yc1] at h;split at h
  ·rename_i h1;exact absurd (congrArg Prod.snd h) h1
  ·rename_i h1
   have h1:=jb9.1 h1;obtain ⟨h2,_,_,_⟩:=yl9 h1;subst h2;obtain ⟨ms,hms⟩:∃ ms,(yc1 ys (prE y)).1 = ms:=⟨_,rfl⟩
   have h3:yc1 ys (prE y) = (ms,0):=by
    have:=congrArg Prod.snd h;exact Prod.ext hms this
   obtain ⟨h4,h5⟩:=ygL h3;have h6:prV y :: ms = ls:=by rw [<- hms];exact congrArg Prod.fst h
   refine ⟨rfl,fun hf=>?_⟩;rw [<- h6,jb5,<- h5 fun z hz=>hf z (by simp [hz]),<- yoC (hf y (by simp)) h1 h4]
theorem yox {z:Itm} {E:Int} (hf:yaP z 1 = 0) (h:(accX z E).2 = 0):E = 0 /\ z = accI (accX z E).1:=by
 unfold accX at h ⊢;obtain ⟨ms,hms⟩:∃ ms,(yc1 (rwL 0 16 z E) (rwF 0 16 z E)).1 = ms:=⟨_,rfl⟩;have h2:yc1 (rwL 0 16 z E) (rwF 0 16 z E) = (ms,0):=Prod.ext hms h;obtain ⟨h3,h4⟩:=ygL h2;obtain ⟨h5,h6,_⟩:=yl9 h3;obtain ⟨h7,h8⟩:=yhf hf h6;refine ⟨h5,?_⟩;rw [ynk h3] at h4;rw [hms];unfold accI;rw [<- h4 h8];exact h7
theorem ykv {s:ByteArray} {a T:Nat} {zs:List Itm} (h:ycy s a 0 = .ok (zs,T)) (y R S:Nat) (dst:ByteArray):a <= T /\ T <= s.size /\ ybS (gotT (kdV s a 0) zs y R S dst) = (s.data.toList.drop a).take (T - a):=by
 have hk3:=yjM s a 0;obtain ⟨kd,hkd⟩:∃ kd,kdV s a 0 = kd:=⟨_,rfl⟩;unfold ycy at h;rw [hkd] at h hk3 ⊢;split at h
 ·cases h
 ·rename_i hE
  have hE:=jb9.1 hE;split at h
  ·cases h
  ·rename_i x T2 hit
   split at h
   ·cases h
   ·rename_i hF
    have hF:=jb9.1 hF;split at h
    ·cases h
    ·rename_i hG
     have hG:=jb9.1 hG;cases h;obtain ⟨i1,i2,i3,i4⟩:=ynC hit;rw [yar] at i2;obtain ⟨_,f2,f3,f4⟩:=yl9 hF
     have hform:yaP x 0 = 0:=by
      unfold ybU at i3;split at i3
      ·rename_i h1;exact absurd i3 h1
      ·rename_i h1;exact jb9.1 h1
     obtain ⟨l1,l2⟩:=yhf hform f2
     have hA:kdA s a = a + (if kd = 0 then 0 else 1) /\ (s.data.toList.drop a).take (if kd = 0 then 0 else 1) = (if kd = 0 then [] else if kd = 1 then [1] else [2]) /\ a < s.size:=by
      unfold kdE at hE;rw [if_neg (by simp)] at hE;split at hE
      ·cases hE
      ·rename_i g1
       have hlt:a < s.size:=by omega
       have hget:s.data.toList[a]? = some (s.data.toList.getD a 0):=ydB 0 (by rw [yar];exact hlt);have hkv:=hkd;unfold kdV at hkv;rw [if_neg (by simp),if_neg g1] at hkv;split at hE
       ·rename_i g2
        rw [if_pos g2] at hkv;subst hkv;exact ⟨by unfold kdA;rw [if_pos g2];rfl,by simp,hlt⟩
       ·rename_i g2
        rw [if_neg g2] at hkv;split at hE
        ·cases hE
        ·rename_i g3
         rw [if_neg g3] at hkv;have hk1:kd = 1 \/ kd = 2:=by omega
         have hne:¬ kd = 0:=by omega
         refine ⟨by unfold kdA;rw [if_neg g2,if_neg hne],?_,hlt⟩;rw [if_neg hne,if_neg hne]
         have:(s.data.toList.drop a).take 1 = [s.data.toList.getD a 0]:=by
          have hl:a < s.data.toList.length:=by rw [yar];exact hlt
          rw [jdc hl,List.take_succ_cons,List.take_zero,jg,je hl];rfl
         rw [this];have hb:(s.data.toList.getD a 0).toNat = kd:=hkv;rcases hk1 with rfl | rfl
         ·rw [if_pos rfl];congr 1;exact UInt8.toNat_inj.1 hb
         ·rw [if_neg (by omega)];congr 1;exact UInt8.toNat_inj.1 hb
     obtain ⟨a1,a2,a3⟩:=hA
     have hI:yaT (gotT kd x.items y R S dst) = x:=by
      rw [l1];obtain ⟨zs,hzs⟩:∃ zs,x.items = zs:=⟨_,rfl⟩;rw [hzs] at f3 f4 l2 hG ⊢;unfold yaT;rcases hk3 with rfl | rfl | rfl
      ·match zs,f3,f4 with
       | [z0,z1,z2],_,_ =>
        have e:ydX 0 [z0,z1,z2] = 0:=hG;obtain ⟨e1,e2⟩:=kE_0 e;have e1:kE (kE 0 (ycQ z0.list z0.bytes)) (ycQ z1.list z1.bytes) = 0:=e1;obtain ⟨e3,e4⟩:=kE_0 e1;obtain ⟨_,e5⟩:=kE_0 e3;have w0:=ydV (l2 z0 (by simp)) e5;have w1:=ydV (l2 z1 (by simp)) e4;have w2:=yjl (l2 z2 (by simp)) e2;show Itm.mk true ⟨#[]⟩ [txt (nB (itW z0)),txt (nB (itW z1)),txt (dtV z2)] = _;rw [<- w0,<- w1,<- w2]
       | [],h,_=>simp at h
       | [_],h,_=>simp at h
       | [_,_],h,_=>simp at h
       | _ :: _ :: _ :: _ :: _,_,h=>simp at h;omega
      ·match zs,f3,f4 with
       | [z0,z1,z2,z3],_,_ =>
        obtain ⟨e,w3⟩:=yox (l2 z3 (by simp)) (show (accX z3 (ydX 1 [z0,z1,z2,z3])).2 = 0 from hG);obtain ⟨e1,e2⟩:=kE_0 e;have e1:kE (kE 0 (ycQ z0.list z0.bytes)) (ycQ z1.list z1.bytes) = 0:=e1;obtain ⟨e3,e4⟩:=kE_0 e1;obtain ⟨_,e5⟩:=kE_0 e3;have w0:=ydV (l2 z0 (by simp)) e5;have w1:=ydV (l2 z1 (by simp)) e4;have w2:=yjl (l2 z2 (by simp)) e2;show Itm.mk true ⟨#[]⟩ [txt (nB (itW z0)),txt (nB (itW z1)),txt (dtV z2),accI (accX z3 (ydX 1 [z0,z1,z2,z3])).1] = _;rw [<- w0,<- w1,<- w2,<- w3]
       | [],h,_=>simp at h
       | [_],h,_=>simp at h
       | [_,_],h,_=>simp at h
       | [_,_,_],h,_=>simp at h
       | _ :: _ :: _ :: _ :: _ :: _,_,h=>simp at h;omega
      ·match zs,f3,f4 with
       | [z0,z1,z2,z3,z4],_,_ =>
        obtain ⟨e,w4⟩:=yox (l2 z4 (by simp)) (show (accX z4 (ydX 2 [z0,z1,z2,z3,z4])).2 = 0 from hG);obtain ⟨e1,e2⟩:=kE_0 e;have e1:kE (kE (kE 0 (ycQ z0.list z0.bytes)) (ycQ z1.list z1.bytes)) (ycQ z2.list z2.bytes) = 0:=e1;obtain ⟨e3,e4⟩:=kE_0 e1;obtain ⟨e5,e6⟩:=kE_0 e3;obtain ⟨_,e7⟩:=kE_0 e5;have w0:=ydV (l2 z0 (by simp)) e7;have w1:=ydV (l2 z1 (by simp)) e6;have w2:=ydV (l2 z2 (by simp)) e4;have w3:=yjl (l2 z3 (by simp)) e2;show Itm.mk true ⟨#[]⟩ [txt (nB (itW z0)),txt (nB (itW z1)),txt (nB (itW z2)),txt (dtV z3),accI (accX z4 (ydX 2 [z0,z1,z2,z3,z4])).1] = _;rw [<- w0,<- w1,<- w2,<- w3,<- w4]
       | [],h,_=>simp at h
       | [_],h,_=>simp at h
       | [_,_],h,_=>simp at h
       | [_,_,_],h,_=>simp at h
       | [_,_,_,_],h,_=>simp at h
       | _ :: _ :: _ :: _ :: _ :: _ :: _,_,h=>simp at h;omega
     have hk:(gotT kd x.items y R S dst).kind = (kd:Int):=rfl;refine ⟨by omega,i2,?_⟩;unfold ybS;rw [hI,hk];unfold encB;rw [if_pos i3,i4,a1];rcases hk3 with rfl | rfl | rfl
     ·simp
     ·have a2':(s.data.toList.drop a).take 1 = [1]:=a2;show [1] ++ List.take (T - (a + 1)) (List.drop (a + 1) s.data.toList) = _;have e1:kdA s a = a + 1:=a1;rw [<- a2',<- List.drop_drop,<- List.take_add];congr 1;omega
     ·have a2':(s.data.toList.drop a).take 1 = [2]:=a2;show [2] ++ List.take (T - (a + 1)) (List.drop (a + 1) s.data.toList) = _;have e1:kdA s a = a + 1:=a1;rw [<- a2',<- List.drop_drop,<- List.take_add];congr 1;omega
theorem ygU {s:ByteArray} {a k:Nat} {E:Int} (h:tkE s a k E = 0):E = 0 /\ a + k <= s.size /\ tkA s a k E = a + k /\ (tkS s a k E).data.toList = (s.data.toList.drop a).take k /\ (tkS s a k E).size = k:=by
 obtain ⟨h1,h2⟩:=yng h;refine ⟨h1,h2,?_,?_,yj9 h⟩
 ·unfold tkA;rw [if_pos h]
 ·unfold tkS;rw [if_pos h,ydu]
theorem yfL {s:ByteArray} {a n:Nat} {E:Int} (h:btE s a n E = 0):E = 0 /\ btA s a n E = a + (yaD (btL s a n E)).length /\ btA s a n E <= s.size /\ (s.data.toList.drop a).take (yaD (btL s a n E)).length = yaD (btL s a n E) /\ (btL s a n E).length = n:=by
 have h0:=h;unfold btE at h0;split at h0
 ·rename_i ht
  obtain ⟨t1,t2,t3,t4,t5⟩:=ygU ht;have e:btL s a n E = yaR (tkS s a ((n + 7) / 8) E).data.toList n:=by unfold btL;rw [if_pos h]
  have hp:=yiK _ _ h0;rw [<- e] at hp;have hl:=yfK s a n E;have hpl:=yct (btL s a n E);rw [hl] at hpl;have ea:btA s a n E = a + (n + 7) / 8:=t3;refine ⟨t1,by rw [ea,hpl],by rw [ea];exact t2,?_,hl⟩;rw [hpl,<- t4,hp]
 ·rename_i ht;exact absurd h0 ht
theorem yeE {s:ByteArray} {a n:Nat} {E:Int} (ha:a <= s.size) (hn:n <= 4096) (h:nuE s a n E = 0):E = 0 /\ nuA s a n E = a + (rowL ((nuN s a n E).map fun (x:Nat)=>(x:Int))).length /\ nuA s a n E <= s.size /\ (s.data.toList.drop a).take (rowL ((nuN s a n E).map fun (x:Nat)=>(x:Int))).length = rowL ((nuN s a n E).map fun (x:Nat)=>(x:Int)) /\ (nuN s a n E).length = n:=by
 have h0:=yoF h;obtain ⟨f1,f2,f3⟩:=yfy s a n E ha hn;have hu:(ybz s.data.toList a n).2.2 = 0:=by unfold nuE at h;rw [if_pos h0] at h;exact h
 have e1:nuA s a n E = (ybz s.data.toList a n).2.1:=by unfold nuA;rw [if_pos h]
 have e2:nuL s a n E = (ybz s.data.toList a n).1:=by unfold nuL;rw [if_pos h]
 obtain ⟨a',g1,g2,g3,g4,g5,_⟩:=yi9 s.data.toList a n (ybz s.data.toList a n).1 (ybz s.data.toList a n).2.1 (Prod.ext rfl (Prod.ext rfl hu));have ga:a' = a:=by omega
 subst ga;rw [<- e2,f3] at g5;rw [<- e1] at g3 g4 g5;rw [yar] at g4;have hlen:=congrArg List.length g5;rw [jd4,List.length_drop,yar] at hlen;refine ⟨h0,by omega,g4,?_,f1⟩;rw [<- hlen,Nat.min_eq_left (by omega)];exact g5
theorem yln {s:ByteArray} {a:Nat} (h:tkE s a 32 0 = 0):fixN (wdN s a 0) = (s.data.toList.drop a).take 32:=by
 obtain ⟨_,_,_,t4,t5⟩:=ygU h;rw [ym5 (ylo s a 0)];unfold wdN;rw [if_pos h];have:=ym3 (tkS s a 32 0).data.toList;rw [yar,t5] at this;rw [this,t4]
theorem yod (nl:List Bool) {i:Nat} (h:i < nl.length):cntB (nl.drop i) = (if nl.getD i false then 1 else 0) + cntB (nl.drop (i + 1)):=by
 have e:nl.drop i = nl.getD i false :: nl.drop (i + 1):=by
  rw [jdc h,jg,je h];rfl
 rw [e];unfold cntB;rw [List.count_cons];cases nl.getD i false <;> simp;omega
theorem yiu (nl:List Bool) (i:Nat):cntB (nl.drop i) <= nl.length - i:=by
 have:=ymG (nl.drop i);simpa using this
theorem yg3 {s sgs:ByteArray} {nl yl:List Bool} {n:Nat} (hs:sgs.size = 64 * n) (hn:nl.length = n) (hy:yl.length = n):∀ (m i a b:Nat) (tos:ByteArray) (ts:List TxV),i + m = n -> a <= s.size -> tos.size = 20 * (m - cntB (nl.drop i)) -> ycR s sgs nl yl m i a tos = .ok (ts,b) ->
  a <= b /\ b <= s.size /\ catB (ts.map ybv) = (s.data.toList.drop a).take (b - a) /\ ts.length = m /\ ts.map (fun t=>decide (t.dst.size = 0)) = nl.drop i /\ ts.map (fun t=>decide (t.y = 1)) = yl.drop i /\ catB (ts.map sigT) = sgs.data.toList.drop (64 * i) /\ catB (ts.map TxV.dst) = tos.data.toList
 | 0,i,a,b,tos,ts,hi,ha,ht,h=>by
  rw [ycR] at h;cases h;refine ⟨jle _,ha,by simp [catB],rfl,(List.drop_eq_nil_of_le (by omega)).symm,(List.drop_eq_nil_of_le (by omega)).symm,?_,?_⟩
  ·rw [List.drop_eq_nil_of_le (by rw [yar];omega)];rfl
  ·have:tos.data.toList.length = 0:=by rw [yar];omega
   rw [jb7 this];rfl
 | m + 1,i,a,b,tos,ts,hi,ha,ht,h=>by
  have hlt:i < n:=by omega
  rw [ycR] at h;split at h
  ·cases h
  ·rename_i zs T hr
   split at h
   ·cases h
   ·rename_i us c hg
    cases h;have hcd:=yod nl (i:=i) (by omega);have hcl:=yiu nl (i + 1);obtain ⟨nb,hnb⟩:∃ x,nl.getD i false = x:=⟨_,rfl⟩;obtain ⟨tos2,ht2⟩:∃ x,(if nl.getD i false = false /\ 20 <= tos.size then tos.extract 20 tos.size else tos) = x:=⟨_,rfl⟩;obtain ⟨dv,hdv⟩:∃ x,(if nl.getD i false = false /\ 20 <= tos.size then tos.extract 0 20 else ⟨#[]⟩) = x:=⟨_,rfl⟩;rw [ht2] at hg;rw [hdv];obtain ⟨r1,r2,r3⟩:=ykv hr (if yl.getD i false = true then 1 else 0) (wdN sgs (64 * i) 0) (wdN sgs (64 * i + 32) 0) dv;rw [hnb] at hcd ht2 hdv
    have hd:tos2.size = 20 * (m - cntB (nl.drop (i + 1))) /\ (dv.size = 0) = (nb = true) /\ dv.data.toList ++ tos2.data.toList = tos.data.toList:=by
     cases nb with
     | true =>
      rw [if_neg (by simp)] at ht2 hdv;subst ht2;subst hdv;refine ⟨by rw [if_pos rfl] at hcd;omega,propext ⟨fun _=>rfl,fun _=>rfl⟩,rfl⟩
     | false =>
      have h20:20 <= tos.size:=by rw [if_neg (by simp)] at hcd;omega
      rw [if_pos ⟨rfl,h20⟩] at ht2 hdv;have e1:=ydu tos 0 20;rw [jd6,List.drop_zero] at e1;have e2:=ydu tos 20 (tos.size - 20);rw [show 20 + (tos.size - 20) = tos.size by omega,jtl (by rw [List.length_drop,yar];omega)] at e2;rw [hdv] at e1;rw [ht2] at e2;have hz1:=congrArg List.length e1;have hz2:=congrArg List.length e2;rw [yar,jd4,yar] at hz1;rw [yar,List.length_drop,yar] at hz2;refine ⟨by rw [if_neg (by simp)] at hcd;omega,propext ⟨fun h=>by omega,fun h=>by cases h⟩,?_⟩;rw [e1,e2,List.take_append_drop]
    obtain ⟨d1,d2,d3⟩:=hd
    have hdd:decide (dv.size = 0) = nb:=by
     have hiff:dv.size = 0 ↔ nb = true:=Iff.of_eq d2;clear d1 d2 d3 ht2 hdv hcd hnb r3 hg;cases nb with
     | true=>exact decide_eq_true (hiff.2 rfl)
     | false=>exact decide_eq_false (fun h=>by have:=hiff.1 h;cases this)
    obtain ⟨g1,g2,g3,g4,g5,g6,g7,g8⟩:=yg3 hs hn hy m (i + 1) T b tos2 us (by omega) r2 d1 hg;obtain ⟨x1,x2,x3,x4⟩:=yon hs hlt;have w1:=yln x1;have w2:=yln x3;refine ⟨by omega,g2,?_,by simp [g4],?_,?_,?_,?_⟩
    ·rw [jb5,yb3,g3]
     have:(ybv (gotT (kdV s a 0) zs (if yl.getD i false = true then 1 else 0) (wdN sgs (64 * i) 0) (wdN sgs (64 * i + 32) 0) dv)).data.toList = (s.data.toList.drop a).take (T - a):=by
      rw [<- r3];simp [ybv]
     rw [this];have e:s.data.toList.drop T = (s.data.toList.drop a).drop (T - a):=by rw [List.drop_drop];congr 1;omega
     rw [e,<- List.take_add];congr 1;omega
    ·have e:nl.drop i = nb :: nl.drop (i + 1):=by
      rw [jdc (by omega),<- hnb,jg,je (by omega)];rfl
     rw [e,jb5,g5];congr 1
    ·have e:yl.drop i = yl.getD i false :: yl.drop (i + 1):=by
      rw [jdc (by omega),jg,je (by omega)];rfl
     rw [e,jb5,g6];congr 1;show decide ((if yl.getD i false = true then 1 else 0) = 1) = yl.getD i false;cases yl.getD i false <;> rfl
    ·rw [jb5,yb3,g7];have:(sigT (gotT (kdV s a 0) zs (if yl.getD i false = true then 1 else 0) (wdN sgs (64 * i) 0) (wdN sgs (64 * i + 32) 0) dv)).data.toList = fixN (wdN sgs (64 * i) 0) ++ fixN (wdN sgs (64 * i + 32) 0):=by simp [sigT,gotT]
     rw [this,w1,w2,<- List.drop_drop,<- List.take_add,show 64 * (i + 1) = 64 * i + (32 + 32) by omega,<- List.drop_drop,List.take_append_drop]
    ·rw [jb5,yb3,g8];exact d3
theorem ydr {α:Type} (f:TxV -> α) (hf:∀ chain t no ga ch,f (yc6 chain t no ga ch) = f t) (chain:Nat):∀ (ts:List TxV) (ns gs:List Nat) (cs:List Bool),(ybh chain ts ns gs cs).map f = ts.map f
 | [],_,_,_=>rfl
 | t :: ts,ns,gs,cs=>by
  unfold ybh;split
  ·rw [jb5,jb5,hf,ydr f hf chain ts]
  ·rw [jb5,jb5,hf,ydr f hf chain ts]
theorem yg8 (chain:Nat):∀ (ts:List TxV) (ns gs:List Nat) (cs:List Bool),ns.length = ts.length -> (ybh chain ts ns gs cs).map TxV.nonce = ns
 | [],[],_,_,_=>rfl
 | t :: ts,x :: ns,gs,cs,h=>by
  have h:ns.length = ts.length:=by simpa using h
  unfold ybh;split <;> rw [jb5,List.tail_cons,yg8 chain ts ns _ _ h] <;> rfl
theorem yjV (chain:Nat):∀ (ts:List TxV) (ns gs:List Nat) (cs:List Bool),gs.length = ts.length -> (ybh chain ts ns gs cs).map TxV.gas = gs
 | [],_,[],_,_=>rfl
 | t :: ts,ns,x :: gs,cs,h=>by
  have h:gs.length = ts.length:=by simpa using h
  unfold ybh;split <;> rw [jb5,List.tail_cons,yjV chain ts _ gs _ h] <;> rfl
theorem ye7 {chain:Nat} (hc:chain ≠ 0):∀ (ts:List TxV) (ns gs:List Nat) (cs:List Bool),cs.length = legN ts -> ((ybh chain ts ns gs cs).filter fun t=>decide (t.kind = 0)).map (fun t=>decide (t.chain ≠ 0)) = cs
 | [],_,_,cs,h=>by
  have:cs = []:=jb7 (by rw [h];rfl);subst this;rfl
 | t :: ts,ns,gs,cs,h=>by
  unfold legN at h;rw [jb5,List.count_cons] at h;unfold ybh;by_cases hk:t.kind = 0
  ·rw [if_pos hk];rw [if_pos (by simp [hk])] at h
   match cs,h with
   | c :: cs,h =>
    have h:cs.length = legN ts:=by unfold legN;simpa using h
    rw [List.filter_cons_of_pos (by simp [yc6,hk]),jb5,List.tail_cons,ye7 hc ts _ _ cs h];congr 1;unfold yc6;cases c <;> simp [hc]
  ·rw [if_neg hk];rw [if_neg (by simp [hk])] at h;rw [List.filter_cons_of_neg (by simp [yc6,hk])];exact ye7 hc ts _ _ cs h
theorem ycj {l x y:List UInt8} {a b c:Nat} (hab:a <= b) (hbc:b <= c) (h1:(l.drop a).take (b - a) = x) (h2:(l.drop b).take (c - b) = y):(l.drop a).take (c - a) = x ++ y:=by
 have e:l.drop b = (l.drop a).drop (b - a):=by rw [List.drop_drop];congr 1;omega
 rw [e] at h2;rw [<- h1,<- h2,<- List.take_add];congr 1;omega
theorem ymw {s:ByteArray} {a n chain T:Nat} {L:List TxV} (ha:a <= s.size) (hn:n <= 512) (h:getR s a n chain = .ok (L,T)):yat L chain = 0 /\ L.length = n /\ a <= T /\ T <= s.size /\ (s.data.toList.drop a).take (T - a) = ye9 L:=by
 unfold getR at h;obtain ⟨nl,hnl⟩:∃ x,btL s a n 0 = x:=⟨_,rfl⟩;obtain ⟨A1,hA1⟩:∃ x,btA s a n 0 = x:=⟨_,rfl⟩;obtain ⟨E1,hE1⟩:∃ x,btE s a n 0 = x:=⟨_,rfl⟩;rw [hnl,hA1,hE1] at h;obtain ⟨F,hF⟩:∃ x,fixR s n nl A1 E1 = x:=⟨_,rfl⟩;rw [hF] at h;rcases F with e | ⟨ts,b⟩
 ·cases h
 ·rw [endR] at h;unfold fixR at hF;obtain ⟨yl,hyl⟩:∃ x,btL s A1 n E1 = x:=⟨_,rfl⟩;obtain ⟨A2,hA2⟩:∃ x,btA s A1 n E1 = x:=⟨_,rfl⟩;obtain ⟨E2,hE2⟩:∃ x,btE s A1 n E1 = x:=⟨_,rfl⟩;rw [hyl,hA2,hE2] at hF;obtain ⟨sgs,hsg⟩:∃ x,tkS s A2 (64 * n) E2 = x:=⟨_,rfl⟩;obtain ⟨A3,hA3⟩:∃ x,tkA s A2 (64 * n) E2 = x:=⟨_,rfl⟩;obtain ⟨E3,hE3⟩:∃ x,tkE s A2 (64 * n) E2 = x:=⟨_,rfl⟩;rw [hsg,hA3,hE3] at hF;obtain ⟨tos,hto⟩:∃ x,tkS s A3 (20 * (n - cntB nl)) E3 = x:=⟨_,rfl⟩;obtain ⟨A4,hA4⟩:∃ x,tkA s A3 (20 * (n - cntB nl)) E3 = x:=⟨_,rfl⟩;obtain ⟨E4,hE4⟩:∃ x,tkE s A3 (20 * (n - cntB nl)) E3 = x:=⟨_,rfl⟩;rw [hto,hA4,hE4] at hF;split at hF
  ·cases hF
  ·rename_i h4
   have h4:=jb9.1 h4;subst h4;obtain ⟨t31,t32,t33,t34,t35⟩:=ygU hE4;subst t31;obtain ⟨t21,t22,t23,t24,t25⟩:=ygU hE3;subst t21;obtain ⟨b21,b22,b23,b24,b25⟩:=yfL hE2;subst b21;obtain ⟨b11,b12,b13,b14,b15⟩:=yfL hE1;rw [hA4] at t33;rw [hto] at t34 t35;rw [hA3] at t23;rw [hsg] at t24 t25;rw [hA2] at b22 b23;rw [hyl] at b22 b24 b25;rw [hA1] at b12 b13;rw [hnl] at b12 b14 b15;obtain ⟨g1,g2,g3,g4,g5,g6,g7,g8⟩:=yg3 t25 b15 b25 n 0 A4 b tos ts (by omega) (by omega) (by rw [t35,List.drop_zero]) hF;rw [List.drop_zero] at g5 g6;rw [Nat.mul_zero,List.drop_zero] at g7;unfold yn6 at h;obtain ⟨ns,hns⟩:∃ x,nuN s b n 0 = x:=⟨_,rfl⟩;obtain ⟨A5,hA5⟩:∃ x,nuA s b n 0 = x:=⟨_,rfl⟩;obtain ⟨E5,hE5⟩:∃ x,nuE s b n 0 = x:=⟨_,rfl⟩;rw [hns,hA5,hE5] at h;obtain ⟨gs,hgs⟩:∃ x,nuN s A5 n E5 = x:=⟨_,rfl⟩;obtain ⟨A6,hA6⟩:∃ x,nuA s A5 n E5 = x:=⟨_,rfl⟩;obtain ⟨E6,hE6⟩:∃ x,nuE s A5 n E5 = x:=⟨_,rfl⟩;rw [hgs,hA6,hE6] at h;obtain ⟨cs,hcs⟩:∃ x,btL s A6 (legN ts) E6 = x:=⟨_,rfl⟩;obtain ⟨A7,hA7⟩:∃ x,btA s A6 (legN ts) E6 = x:=⟨_,rfl⟩;obtain ⟨E7,hE7⟩:∃ x,btE s A6 (legN ts) E6 = x:=⟨_,rfl⟩;rw [hcs,hA7,hE7] at h;split at h
   ·cases h
   ·rename_i h7
    have h7:=jb9.1 h7;subst h7;split at h
    ·cases h
    ·rename_i hck
     have hck:=jb9.1 hck;cases h;obtain ⟨c1,c2,c3,c4,c5⟩:=yfL hE7;subst c1;have hA5le:A5 <= s.size:=by rw [<- hA5];exact yma g2
     obtain ⟨n1,n2,n3,n4,n5⟩:=yeE hA5le (by omega) hE6;subst n1;obtain ⟨m1,m2,m3,m4,m5⟩:=yeE g2 (by omega) hE5;rw [hA7] at c2 c3;rw [hcs] at c2 c4 c5;rw [hA6] at n2 n3;rw [hgs] at n2 n4 n5;rw [hA5] at m2 m3;rw [hns] at m2 m4 m5;have hc0:=(ycA hck).1;obtain ⟨us,hus⟩:∃ x,ybh chain ts ns gs cs = x:=⟨_,rfl⟩;have u1:=ydr (fun t=>decide (t.dst.size = 0)) (fun _ _ _ _ _=>rfl) chain ts ns gs cs;have u2:=ydr (fun t=>decide (t.y = 1)) (fun _ _ _ _ _=>rfl) chain ts ns gs cs;have u3:=ydr sigT (fun _ _ _ _ _=>rfl) chain ts ns gs cs;have u4:=ydr TxV.dst (fun _ _ _ _ _=>rfl) chain ts ns gs cs;have u5:=ydr ybv (fun _ _ _ _ _=>rfl) chain ts ns gs cs;have u6:=yg8 chain ts ns gs cs (by omega);have u7:=yjV chain ts ns gs cs (by omega);have u8:=ye7 (chain:=chain) (by omega) ts ns gs cs c5;have u9:=yg9 chain ts ns gs cs;rw [hus] at hck u1 u2 u3 u4 u5 u6 u7 u8 u9 ⊢;refine ⟨hck,by omega,by omega,c3,?_⟩;rw [yho,u1,u2,u3,u4,u5,u6,u7,u8,g5,g6,g7,g8];refine ycj (b:=A1) (by omega) (by omega) (by rw [b12,Nat.add_sub_cancel_left];exact b14) ?_;refine ycj (b:=A2) (by omega) (by omega) (by rw [b22,Nat.add_sub_cancel_left];exact b24) ?_;refine ycj (b:=A3) (by omega) (by omega) (by rw [t23,Nat.add_sub_cancel_left];exact t24.symm) ?_;refine ycj (b:=A4) (by omega) (by omega) (by rw [t33,Nat.add_sub_cancel_left];exact t34.symm) ?_;refine ycj (b:=b) (by omega) (by omega) g3.symm ?_;refine ycj (b:=A5) (by omega) (by omega) (by rw [m2,Nat.add_sub_cancel_left];exact m4) ?_;refine ycj (b:=A6) (by omega) (by omega) (by rw [n2,Nat.add_sub_cancel_left];exact n4) ?_;rw [c2,Nat.add_sub_cancel_left];exact c4
structure SpV.Ok (s:SpV):Prop where
 time:s.time < 18446744073709551616
 epoch:s.epoch < 18446744073709551616
 txs:∀ t ∈ s.all,t.Ok

section
variable {P:Program} {ops:Array Oper} {md:Region.Mode} {Q:Exit -> Act -> World -> Prop} {fuel:Nat} {listed:Array Bool} {a:Act} {w:World} {S:World -> Prop} {oi:Oper}
end

end Go.Proofs.YtgclnikdkfpflaaGreatDoor
