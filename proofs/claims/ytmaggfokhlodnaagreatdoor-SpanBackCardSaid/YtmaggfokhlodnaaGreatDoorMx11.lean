/- Merged: CgK1, BitsX, BitsY, CgK2, CgK3, CpA, CpB, CpC, CpD, CpE, SpA, SpH. -/
import Derived.Test.YtmaggfokhlodnaaGreatDoorMx1
import Derived.Test.YtmaggfokhlodnaaGreatDoorMx3
import Derived.Test.YtmaggfokhlodnaaGreatDoorMx7
import Derived.Test.YtmaggfokhlodnaaGreatDoorMx9
import Derived.Test.YtmaggfokhlodnaaGreatDoorMx10
namespace Go.Proofs.YtmaggfokhlodnaaGreatDoor
open Go.RowKit Go.Shelf
open List renaming set_cons_zero → jz, set_cons_succ → js, setIfInBounds_toArray → jb
set_option linter.unusedVariables false
set_option linter.unusedSimpArgs false
set_option maxRecDepth 100000
set_option maxHeartbeats 16000000
open Lib renaming hid → jh
open Act renaming put → jp
open World.grownBy renaming refl → jr
open _root_.List renaming getD_eq_getElem?_getD → jg, getElem?_eq_getElem → je, length_append → jla, getElem?_append_left → jal, take_of_length_le → jtl, drop_eq_getElem_cons → jdc, length_cons → jlc, getElem?_map → jgm, map_cons → ja8, getElem?_take_of_lt → ja9, eq_nil_of_length_eq_zero → jb7, length_take → jc0, getElem_mem → jc1, getElem?_eq_none → jc5, getElem?_eq_some_iff → jc6, take_append_drop → jd0, length_map → jd8
open _root_.Option.some renaming inj → ji
open _root_.Array renaming getElem?_eq_some_iff → jes
open _root_.Int renaming toNat_natCast → jnc, eq_ofNat_of_zero_le → jez
open _root_.Nat renaming le_trans → jlt, le_refl → jle, lt_of_lt_of_le → jb6, add_sub_cancel_left → jc3, zero_add → je1
open _root_.Go.Proofs.Tryz renaming prog → jq, underlying25 → ja3
open Go renaming wp_region_list → jwl, setRow_other → jso
open _root_.Go.Proofs renaming enters_of → jeo
open Value renaming string → jb2, int → je3
open _root_.Classical renaming not_not → jb5
open Region renaming wanted → jd9
theorem yoL {s:ByteArray} {a n:Nat} {E:Int} (h:nuE s a n E = 0):E = 0:=by
 unfold nuE at h;split at h
 ·assumption
 ·exact h
theorem yqi {s:ByteArray} {a n:Nat} {E:Int} (h:btE s a n E = 0):E = 0:=by
 unfold btE at h;split at h
 ·rename_i h1;exact (ynj h1).1
 ·rename_i h1;exact absurd h h1
theorem ygn (l:List UInt8):∀ k a,a <= l.length -> (ya7 l k a).2.1 <= l.length
 | 0,a,h=>h
 | k + 1,a,h=>by
  rw [ya7];simp only;split
  ·exact Nat.zero_le _
  ·rename_i h1
   split
   ·exact Nat.zero_le _
   ·have he:(yaX l (a:Int)).2.2 = 0:=jb5.1 h1;exact ygn l k _ (yh2 l a _ _ (Prod.ext rfl (Prod.ext rfl he)))
theorem yjD {s:ByteArray} {a n:Nat} {E:Int} (h:a <= s.size):nuA s a n E <= s.size:=by
 unfold nuA;split
 ·have hl:=yan s;unfold yaQ;split
  ·exact Nat.zero_le _
  ·rw [<- hl];exact ygn _ _ _ (by simp;omega)
 ·exact h
theorem Gr3.trans {w u v:World} {r g l:Nat} (h:Gr3 w u r g l) (h':Gr3 u v r g l):Gr3 w v r g l :=
 ⟨h'.os.trans h.os,h'.tape.trans h.tape,h'.output.trans h.output,jlt h.size h'.size,fun k hk a b c=>(h'.block k (jb6 hk h.size) a b c).trans (h.block k hk a b c)⟩
def ydR (us ts:List TxV) (k i:Nat):TxV:=if i < k then us.getD i TxV.zero else ts.getD i TxV.zero
structure FilS (wG:World) (o:Nat) (s:ByteArray) (r sg l n k:Nat) (a:Nat) (E:Int) (C:Array Value) (cur:Value -> List Value) (ks:List Nat) (ts us:List TxV) (u:World):Prop where
 rd:Blk u r 155 (rdC s a E)
 row:Blk u l 49 C
 gr:Gr3 wG u r sg l
 rw:r ≠ l
 ll:l < o
 size:C.size = 36 * n
 lk:ks.length = n
 kind:∀ i,i < n -> C[36 * i]? = some (.int .i64 ((ks.getD i 0:Nat):Int))
 lt:E = 0 -> ts.length = n
 lu:E = 0 -> us.length = k
 good:E = 0 -> ∀ i,i < n -> i ≠ k -> ∃ sl,Win C (36 * i) (txL (ydR us ts k i) sl (.slice none 0 0)) /\ SlQ o u (ydR us ts k i) sl /\ (ydR us ts k i).kind = ((ks.getD i 0:Nat):Int)
 cl:∀ sl,(cur sl).length = 36
 at_:E = 0 -> k < n -> ∃ sl,Win C (36 * k) (cur sl) /\ SlQ o u (ts.getD k TxV.zero) sl /\ (ts.getD k TxV.zero).kind = ((ks.getD k 0:Nat):Int)
def curT (t:TxV):Value -> List Value:=fun sl=>txL t sl (.slice none 0 0)
theorem FilS.of {wG u:World} {s signs:ByteArray} {r sg l n k a sa:Nat} {E SE:Int} {C:Array Value} {cur:List Value} {ks:List Nat} {ts:List TxV} (h:GetS wG s signs r sg l n k a sa E SE C cur ks ts u) (hk:k = n):FilS u wG.heap.size s r sg l n 0 a E C (curT (ts.getD 0 TxV.zero)) ks ts [] u:=by
 subst hk;refine ⟨h.rd,h.row,Gr3.refl _ _ _ _,h.rw,h.ll,h.size,h.lk,h.kind,h.lt,fun _=>rfl,fun h0 i hi _=>?_,fun _=>rfl,fun h0 hk=>?_⟩
 ·obtain ⟨sl,a,b,c⟩:=h.good h0 i hi;exact ⟨sl,a,b,c⟩
 ·obtain ⟨sl,a,b,c⟩:=h.good h0 0 hk;exact ⟨sl,a,b,c⟩
theorem FilS.kept {wG u u':World} {o:Nat} {s:ByteArray} {r sg l n k a:Nat} {E:Int} {C:Array Value} {cur:Value -> List Value} {ks:List Nat} {ts us:List TxV} (h:FilS wG o s r sg l n k a E C cur ks ts us u) (hg:u.grownBy u' none):FilS wG o s r sg l n k a E C cur ks ts us u' :=
 { h with
  rd:=h.rd.grown hg (by simp),row:=h.row.grown hg (by simp),gr:=h.gr.grown hg (fun k e=>by cases e),
  good:=fun h0 i hi hik=>by obtain ⟨sl,a,b,c⟩:=h.good h0 i hi hik;exact ⟨sl,a,b.keep hg.size (fun p v _ hv=>hg.cell hv (by simp)),c⟩,
  at_:=fun h0 hk=>by obtain ⟨sl,a,b,c⟩:=h.at_ h0 hk;exact ⟨sl,a,b.keep hg.size (fun p v _ hv=>hg.cell hv (by simp)),c⟩ }
theorem FilS.put {wG u:World} {o:Nat} {s:ByteArray} {r sg l n k a:Nat} {E:Int} {C:Array Value} {cur:Value -> List Value} {ks:List Nat} {ts us:List TxV} (h:FilS wG o s r sg l n k a E C cur ks ts us u) (f:Nat) (vs:List Value) (hf0:0 < f) (hf:f + vs.length <= 36) (hk:k < n) :
  FilS wG o s r sg l n k a E (putA (36 * k + f) vs C) (fun sl=>(cur sl).take f ++ (vs ++ (cur sl).drop (f + vs.length))) ks ts us (u.setRow l (putA (36 * k + f) vs C)):=by
 have hll:=h.ll;have hcell:∀ (p:Addr) v,o <= p.block -> u.cell? p = some v -> (u.setRow l (putA (36 * k + f) vs C)).cell? p = some v:=fun p v hp hv=>yaM (by omega) hv
 exact { h with
  rd:=(jso u l r _ h.rw).trans h.rd,row:=yay h.row,gr:=h.gr.setRow _,size:=(yc0 _ _ _).trans h.size,
  kind:=fun i hi=>by
   by_cases hik:i <= k
   ·exact (yba _ _ _ _ (.inl (by omega))).trans (h.kind i hi)
   ·exact (yba _ _ _ _ (.inr (by omega))).trans (h.kind i hi)
  good:=fun h0 i hi hik=>by
   obtain ⟨sl,a,b,c⟩:=h.good h0 i hi hik;refine ⟨sl,a.out fun j h1 h2=>?_,b.keep (by simp) hcell,c⟩;by_cases hlt:i < k
   ·exact yba _ _ _ _ (.inl (by omega))
   ·exact yba _ _ _ _ (.inr (by omega))
  cl:=fun sl=>by have:=h.cl sl;simp;omega
  at_:=fun h0 hk2=>by
   obtain ⟨sl,a,b,c⟩:=h.at_ h0 hk2;exact ⟨sl,a.put (h.cl sl) hf,b.keep (by simp) hcell,c⟩ }
theorem FilS.eqc {wG u:World} {o:Nat} {s:ByteArray} {r sg l n k a:Nat} {E:Int} {C:Array Value} {cur cur':Value -> List Value} {ks:List Nat} {ts us:List TxV} (h:FilS wG o s r sg l n k a E C cur ks ts us u) (e:∀ sl,cur sl = cur' sl):FilS wG o s r sg l n k a E C cur' ks ts us u:=(funext e:cur = cur') ▸ h
theorem yqh (t:TxV) (no:Nat) (sl:Value):(txL t sl (.slice none 0 0)).take 2 ++ ([je3 .u64 (no:Int)] ++ (txL t sl (.slice none 0 0)).drop (2 + [je3 .u64 (no:Int)].length)) = curT { t with nonce:=no } sl:=rfl
theorem yqg (t:TxV) (ga:Nat) (sl:Value):(txL t sl (.slice none 0 0)).take 11 ++ ([je3 .u64 (ga:Int)] ++ (txL t sl (.slice none 0 0)).drop (11 + [je3 .u64 (ga:Int)].length)) = curT { t with gas:=ga } sl:=rfl
theorem yqf (t:TxV) (ch:Nat) (sl:Value):(txL t sl (.slice none 0 0)).take 1 ++ ([je3 .u64 (ch:Int)] ++ (txL t sl (.slice none 0 0)).drop (1 + [je3 .u64 (ch:Int)].length)) = curT { t with chain:=ch } sl:=rfl
theorem FilS.step {wG u:World} {o:Nat} {s:ByteArray} {r sg l n k a no ga chain:Nat} {ch:Bool} {E:Int} {C:Array Value} {ks:List Nat} {ts us:List TxV} (h:FilS wG o s r sg l n k a E C (curT (ycq chain (ts.getD k TxV.zero) no ga ch)) ks ts us u) (hk:k < n) :
  FilS wG o s r sg l n (k + 1) a E C (curT (ts.getD (k + 1) TxV.zero)) ks ts (us ++ [ycq chain (ts.getD k TxV.zero) no ga ch]) u :=
 { h with
  lu:=fun h0=>by simp [h.lu h0]
  good:=fun h0 i hi hik=>by
   by_cases h1:i < k
   ·obtain ⟨sl,a,b,c⟩:=h.good h0 i hi (by omega)
    have e:ydR (us ++ [ycq chain (ts.getD k TxV.zero) no ga ch]) ts (k + 1) i = ydR us ts k i:=by
     unfold ydR;rw [if_pos h1,if_pos (by omega),ycD _ _ _ (by rw [h.lu h0];exact h1)]
    rw [e];exact ⟨sl,a,b,c⟩
   ·by_cases h2:i = k
    ·subst h2;obtain ⟨sl,a,b,c⟩:=h.at_ h0 hk
     have e:ydR (us ++ [ycq chain (ts.getD i TxV.zero) no ga ch]) ts (i + 1) i = ycq chain (ts.getD i TxV.zero) no ga ch:=by
      unfold ydR;rw [if_pos (by omega),ycE _ _ _ (h.lu h0)]
     rw [e];exact ⟨sl,a,b,c⟩
    ·obtain ⟨sl,a,b,c⟩:=h.good h0 i hi h2
     have e:ydR (us ++ [ycq chain (ts.getD k TxV.zero) no ga ch]) ts (k + 1) i = ydR us ts k i:=by
      unfold ydR;rw [if_neg (by omega),if_neg (by omega)]
     rw [e];exact ⟨sl,a,b,c⟩
  cl:=fun _=>rfl
  at_:=fun h0 hk1=>by
   obtain ⟨sl,a,b,c⟩:=h.good h0 (k + 1) hk1 (by omega);have e:ydR us ts k (k + 1) = ts.getD (k + 1) TxV.zero:=by unfold ydR;rw [if_neg (by omega)]
   rw [e] at a b c;exact ⟨sl,a,b,c⟩ }
def Stand (z:Nat) (W:World) (L:List TxV) (g n:Nat):Prop :=
 ∀ W':World,W.heap.size <= W'.heap.size -> (∀ (p:Addr) (v:Value),z <= p.block -> W.cell? p = some v -> W'.cell? p = some v) -> TxsR W'.heap.size W' L (some ⟨g,0,none⟩) n
theorem Stand.here {z g n:Nat} {W:World} {L:List TxV} (h:Stand z W L g n):TxsR W.heap.size W L (some ⟨g,0,none⟩) n:=h W (jle _) fun _ _ _ hv=>hv
theorem Stand.next {z g n:Nat} {W W':World} {L:List TxV} (h:Stand z W L g n) (hs:W.heap.size <= W'.heap.size) (hc:∀ (p:Addr) (v:Value),z <= p.block -> W.cell? p = some v -> W'.cell? p = some v):Stand z W' L g n :=
 fun V h1 h2=>h V (jlt hs h1) fun p v hp hv=>h2 p v hp (hc p v hp hv)
theorem Stand.grown {z g n:Nat} {W W':World} {L:List TxV} (h:Stand z W L g n) (hg:W.grownBy W' none):Stand z W' L g n:=h.next hg.size fun p v _ hv=>hg.cell hv (by simp)
theorem FilS.stand {wG u:World} {o:Nat} {s:ByteArray} {r sg l n k a:Nat} {E:Int} {C:Array Value} {cur:Value -> List Value} {ks:List Nat} {ts us:List TxV} (h:FilS wG o s r sg l n k a E C cur ks ts us u) (hk:k = n) (h0:E = 0) (hr:∀ t ∈ us,ydX t) {z:Nat} (hz:z <= l):Stand z u us l n:=by
 subst hk;intro W' hs hcs;refine ⟨h.lu h0,fun _=>⟨l,0,rfl,jb6 h.row.lt hs,fun i hi=>?_⟩⟩;obtain ⟨sl,a,b,c⟩:=h.good h0 i hi (by omega);have e:ydR us ts k i = us.getD i TxV.zero:=by unfold ydR;rw [if_pos hi]
 rw [e] at a b;have hm:us.getD i TxV.zero ∈ us:=by rw [jg,je (by rw [h.lu h0];exact hi)];exact jc1 _
 have hok:=hr _ hm;obtain ⟨A,c2,rfl,hq⟩:=b;have hq2:=hq.keep hs fun p v hp hv=>hcs p v (by have:=h.ll;omega) hv;have hz:(us.getD i TxV.zero).auths.length = 0:=by rw [hok.aut];rfl
 refine ⟨_,.slice none 0 0,fun j v hv=>hcs _ _ (by assumption) ?_,⟨⟨A,c2,rfl,hq2.toR⟩,⟨none,0,by rw [hz],by rw [hok.aut];exact AutR.nil _ _ _⟩,by have:=hok.acc;omega,by omega⟩⟩;have hj:j < 36:=(jc6.1 hv).1;rw [<- hv,<- a j hj,h.row.cell];congr 1;omega
theorem FilS.rows {wG u:World} {o:Nat} {s:ByteArray} {r sg l n k a:Nat} {E:Int} {C:Array Value} {cur:Value -> List Value} {ks:List Nat} {ts us:List TxV} (h:FilS wG o s r sg l n k a E C cur ks ts us u) (hk:k = n) (h0:E = 0) (hr:∀ t ∈ us,ydX t):TxsR u.heap.size u us (some ⟨l,0,none⟩) n:=(h.stand hk h0 hr (Nat.zero_le _)).here
theorem yg1 {α:Type} (xs:List α) (k:Nat) (d:α):(xs.drop k).headD d = xs.getD k d:=by
 rw [jg,<- List.head?_drop,List.headD_eq_head?_getD]
theorem yfE (chain:Nat) (ts:List TxV) (ns gs:List Nat) (cs:List Bool) {k:Nat} (hk:k < ts.length):yaY chain (ts.drop k) (ns.drop k) (gs.drop k) cs =
  if (ts.getD k TxV.zero).kind = 0 then ycq chain (ts.getD k TxV.zero) (ns.getD k 0) (gs.getD k 0) (cs.headD false) :: yaY chain (ts.drop (k + 1)) (ns.drop (k + 1)) (gs.drop (k + 1)) cs.tail
  else ycq chain (ts.getD k TxV.zero) (ns.getD k 0) (gs.getD k 0) true :: yaY chain (ts.drop (k + 1)) (ns.drop (k + 1)) (gs.drop (k + 1)) cs:=by
 have e:ts.drop k = ts.getD k TxV.zero :: ts.drop (k + 1):=by
  rw [jdc hk,jg,je hk];rfl
 rw [e,yaY,yg1,yg1,List.tail_drop,List.tail_drop]
structure Car (w W:World) (b:Nat) (t:TypeId) (cs:Array Value):Prop where
 below:Below w.heap.size w W
 blk:Blk W b t cs
theorem Car.step {w W W':World} {b:Nat} {t:TypeId} {cs:Array Value} (h:Car w W b t cs) (hb:Below W.heap.size W W'):Car w W' b t cs:=⟨h.below.trans (hb.mono h.below.size),h.blk.below hb h.blk.lt⟩
structure CarR (W:World) (B:Nat) (A:Option Addr) (n:Nat) (xs:List Value):Prop where
 le:B <= W.heap.size
 reads:Reads W B 1 A n xs
theorem CarR.step {W W':World} {B:Nat} {A:Option Addr} {n:Nat} {xs:List Value} (h:CarR W B A n xs) (hb:Below W.heap.size W W'):CarR W' B A n xs:=⟨jlt h.le hb.size,h.reads.below (hb.mono h.le)⟩
theorem ybB (l:List Bool):(yaT l).length = (l.length + 7) / 8:=yek _ _
theorem ygH (l:List Bool) (i:Nat) (h:i < 8 * ((l.length + 7) / 8)):ycC (yaT l) i = l.getD i false:=by
 unfold ycC;rw [ybB];unfold yaT;rw [yhS _ _ _ (by omega),ymO _ _ (by omega)];congr 1;omega
theorem yi7 (l:List Bool) (h:l.length <= 4096):ybd (yaT l) (l.length:Int) = 0 /\ yaI (yaT l) (l.length:Int) = l:=by
 have hs:yef (yaT l) l.length = false:=by
  unfold yef;rw [<- Bool.not_eq_true,List.any_eq_true];rintro ⟨i,hi,hh⟩;have hi':=List.mem_range.1 hi;rw [ybB] at hi';simp only [Bool.and_eq_true,decide_eq_true_eq] at hh;rw [ygH _ _ hi',jg,jc5 hh.1] at hh;exact absurd hh.2 (by simp)
 have he:ybd (yaT l) (l.length:Int) = 0:=by
  unfold ybd;rw [if_neg (by omega),if_neg (by rw [ybB,jnc];simp),jnc,hs];rfl
 refine ⟨he,?_⟩;unfold yaI;rw [if_pos he,jnc];apply List.ext_getElem (by simp);intro i h1 h2;simp only [List.getElem_map,List.getElem_range];rw [ygH _ _ (by omega),jg,je h2];rfl
theorem yfk (s:List UInt8) (n:Int) (h:ybd s n = 0):((yaI s n).length:Int) = n:=by
 unfold yaI;rw [if_pos h];unfold ybd at h;split at h
 ·cases h
 ·simp;omega
theorem yiF (s:List UInt8) (n:Int) (h:ybd s n = 0):yaT (yaI s n) = s:=by
 have hn:=yfk s n h;have hL:yaI s n = (List.range n.toNat).map (ycC s):=by unfold yaI;rw [if_pos h]
 unfold ybd at h;split at h
 ·cases h
 ·split at h
  ·cases h
  ·rename_i hlen
   split at h
   ·cases h
   ·rename_i hsp
    have hlen:s.length = (n.toNat + 7) / 8:=jb5.1 hlen
    have hget:∀ i,i < 8 * s.length -> (yaI s n).getD i false = ycC s i:=by
     intro i hi;rw [hL,jg,jgm];by_cases hin:i < n.toNat
     ·rw [List.getElem?_range hin];rfl
     ·rw [jc5 (by simpa using hin)];by_cases hb:ycC s i = true
      ·exfalso;apply hsp;unfold yef;rw [List.any_eq_true];exact ⟨i,List.mem_range.2 hi,by simp only [Bool.and_eq_true,decide_eq_true_eq];exact ⟨by omega,hb⟩⟩
      ·rw [Bool.not_eq_true] at hb;rw [hb];rfl
    have hm:((yaI s n).length + 7) / 8 = s.length:=by omega
    unfold yaT;rw [hm];apply List.ext_getElem (yek _ _);intro j h1 h2;have e1:(ybO s.length (yaI s n))[j] = ybZ fun r=>(yaI s n).getD (8 * (s.length - 1 - j) + r) false:=by simp [ybO]
    rw [e1,<- ylg (s[j])];refine yc6 fun r hr=>?_;rw [hget _ (by omega)];unfold ycC;rw [show (8 * (s.length - 1 - j) + r) / 8 = s.length - 1 - j by omega,show (8 * (s.length - 1 - j) + r) % 8 = r by omega,show s.length - 1 - (s.length - 1 - j) = j by omega,jg,je h2];rfl
theorem ygm (post:List UInt8):∀ (xs:List Int) (pre:List UInt8),(∀ x ∈ xs,0 <= x /\ x <= 18446744073709551615) -> ya7 (pre ++ rowL xs ++ post) xs.length pre.length = (xs,pre.length + (rowL xs).length,0)
 | [],pre,_=>by simp [ya7,rowL]
 | x :: xs,pre,h=>by
  have hx:=h x (by simp);obtain ⟨z,rfl⟩:=jez hx.1;have hr:rowL ((z:Int) :: xs) = varL z ++ rowL xs:=by simp [rowL]
  have e1:pre ++ rowL ((z:Int) :: xs) ++ post = pre ++ varL z ++ (rowL xs ++ post):=by rw [hr];simp
  have e2:pre ++ rowL ((z:Int) :: xs) ++ post = (pre ++ varL z) ++ rowL xs ++ post:=by rw [hr];simp
  have hu:yaX (pre ++ rowL ((z:Int) :: xs) ++ post) (pre.length:Int) = (BitVec.ofNat 64 z,pre.length + (varL z).length,0):=by
   rw [e1];exact yfi pre (rowL xs ++ post) z (by omega)
  have ih:=ygm post xs (pre ++ varL z) (fun y hy=>h y (List.mem_cons_of_mem _ hy));rw [<- e2,jla] at ih;rw [jlc,ya7];simp only [hu,ih];rw [if_neg (by simp),if_neg (by simp)]
  have hz:((BitVec.ofNat 64 z).toNat:Int) = (z:Int):=by
   rw [BitVec.toNat_ofNat,Nat.mod_eq_of_lt (by omega)]
  rw [hz,hr,jla];simp [Nat.add_assoc]
theorem ygl (l:List UInt8):∀ (k a:Nat) (xs:List Int) (t:Nat),a <= l.length -> ya7 l k a = (xs,t,0) -> xs.length = k /\ a <= t /\ t <= l.length /\ (l.drop a).take (t - a) = rowL xs /\ ∀ x ∈ xs,0 <= x /\ x <= 18446744073709551615
 | 0,a,xs,t,ha,h=>by
  simp only [ya7,Prod.mk.injEq] at h;obtain ⟨rfl,rfl,_⟩:=h;exact ⟨rfl,jle _,ha,by simp [rowL],by simp⟩
 | k + 1,a,xs,t,ha,h=>by
  obtain ⟨r,tz,e,hr⟩:∃ r tz e,yaX l (a:Int) = (r,tz,e):=⟨_,_,_,rfl⟩;obtain ⟨ys,t',e',hg⟩:∃ ys t' e',ya7 l k tz = (ys,t',e'):=⟨_,_,_,rfl⟩;rw [ya7] at h;simp only [hr,hg] at h;split at h
  ·rename_i h1
   simp only [Prod.mk.injEq] at h;exact absurd h.2.2 h1
  ·rename_i h1
   have he:e = 0:=jb5.1 h1;subst he;split at h
   ·rename_i h2
    simp only [Prod.mk.injEq] at h;exact absurd h.2.2 h2
   ·rename_i h2
    have he':e' = 0:=jb5.1 h2;subst he';simp only [Prod.mk.injEq] at h;obtain ⟨rfl,rfl,_⟩:=h;obtain ⟨u1,u2,u3⟩:=ydN l a r tz hr;obtain ⟨i1,i2,i3,i4,i5⟩:=ygl l k tz ys t' u2 hg;refine ⟨by simp [i1],by omega,i3,?_,?_⟩
    ·have hrow:rowL ((r.toNat:Int) :: ys) = varL r.toNat ++ rowL ys:=by simp [rowL]
     rw [hrow,<- u3,<- i4,show t' - a = (tz - a) + (t' - tz) by omega,List.take_add,List.drop_drop,show a + (tz - a) = tz by omega]
    ·intro x hx;rcases List.mem_cons.1 hx with rfl | hx
     ·have:=r.isLt;omega
     ·exact i5 x hx
theorem yi6 (pre post:List UInt8) (xs:List Int) (h:∀ x ∈ xs,0 <= x /\ x <= 18446744073709551615) (hn:xs.length <= 4096):yaQ (pre ++ rowL xs ++ post) (pre.length:Int) (xs.length:Int) = (xs,pre.length + (rowL xs).length,0):=by
 unfold yaQ;rw [if_neg (by simp;omega),jnc,jnc];exact ygm post xs pre h
theorem yi5 (l:List UInt8) (at_ n:Int) (xs:List Int) (t:Nat) (h:yaQ l at_ n = (xs,t,0)):∃ a:Nat,at_ = (a:Int) /\ (xs.length:Int) = n /\ a <= t /\ t <= l.length /\ (l.drop a).take (t - a) = rowL xs /\ xs.length <= 4096 /\ ∀ x ∈ xs,0 <= x /\ x <= 18446744073709551615:=by
 unfold yaQ at h;split at h
 ·simp at h
 ·rename_i hb
  obtain ⟨a,rfl⟩:=jez (show 0 <= at_ by omega);obtain ⟨k,rfl⟩:=jez (show 0 <= n by omega);rw [jnc,jnc] at h;obtain ⟨i1,i2,i3,i4,i5⟩:=ygl l k a xs t (by omega) h;exact ⟨a,rfl,by omega,i2,i3,i4,by omega,i5⟩
theorem ykg (l:List UInt8) (at_ n:Int) (h:(yaQ l at_ n).2.2 ≠ 0):(yaQ l at_ n).1 = [] /\ (yaQ l at_ n).2.1 = 0:=by
 unfold yaQ at h ⊢;split
 ·exact ⟨rfl,rfl⟩
 ·rename_i hb;rw [if_neg hb] at h;exact yh3 _ _ _ h
def RowQ (lo hi:Nat) (w:World) (v:Value) (xs:List Value):Prop :=
 ∃ A c,v = .slice A xs.length c /\ (0 < xs.length -> ∃ g off,A = some ⟨g,off,none⟩ /\ lo <= g /\ g < hi /\ ∀ i,i < xs.length -> w.cell? ⟨g,off + i,none⟩ = xs[i]?)
theorem RowQ.of_own {o k:Nat} {e:TypeId} {w:World} {v:Value} {xs:List Value} (h:w.ownsRow o e 1 v k xs):RowQ o w.heap.size w v xs:=by
 have hl:xs.length = k:=by have:=h.1;omega
 rcases h.2 with ⟨hv,h1⟩ | ⟨g,cap,cur,hv,hb,hg,hn,hc,hs,ht⟩
 ·subst hv;exact ⟨none,0,by rw [hl,h1],fun h0=>by omega⟩
 ·subst hv;refine ⟨some ⟨g,0,none⟩,cap,by rw [hl],fun _=>⟨g,0,rfl,yal h rfl,(jes.1 hg).1,fun i hi=>?_⟩⟩;rw [je1,cell_of_row w g i cur e (0,0) hg,<- Array.getElem?_toList,<- ht,ja9 (by omega)]
theorem RowQ.keep {lo hi:Nat} {w w':World} {v:Value} {xs:List Value} (h:RowQ lo hi w v xs) (hc:∀ (p:Addr) u,lo <= p.block -> p.block < hi -> w.cell? p = some u -> w'.cell? p = some u):RowQ lo hi w' v xs:=by
 obtain ⟨A,c,h1,h2⟩:=h;refine ⟨A,c,h1,fun h0=>?_⟩;obtain ⟨g,off,a,b,d,e⟩:=h2 h0;exact ⟨g,off,a,b,d,fun i hi=>by have:=e i hi;rw [je hi] at this ⊢;exact hc _ _ b d this⟩
theorem RowQ.reads {lo hi:Nat} {w:World} {v:Value} {xs:List Value} (h:RowQ lo hi w v xs):∃ A c,v = .slice A xs.length c /\ Reads w hi 1 A xs.length xs:=by
 obtain ⟨A,c,h1,h2⟩:=h;refine ⟨A,c,h1,by simp,fun h0=>?_⟩;obtain ⟨g,off,a,b,d,hc⟩:=h2 h0;refine ⟨_,a,d,fun j u hu=>?_⟩;have hj:j < xs.length:=(jc6.1 hu).1
 have e:(⟨g,off,none⟩:Addr).add j = ⟨g,off + j,none⟩:=by
  unfold Addr.add;by_cases hj:j = 0
  ·subst hj;simp
  ·simp [hj]
 rw [e,hc j hj];exact hu
theorem yjd {P:Program} {a:Act} {o:Oper} {W:World} (f:FuncId) (y x:Operand) (ts:Array TypeId) (b:Value) (ho:o.op = .call { callee:=.value y,args:=#[x],argTypes:=ts }) (hy:a.eval y = .func (.func f) #[b] #[]) (v:Value) (hx:a.eval x = v)
  (hf:(callFunc f #[b,v]).run P W = .ok (.enter f #[b,v]) W):(execOp a.eval o).run P W = .ok (.enter f #[b,v]) W:=by
 unfold execOp;generalize a.eval = ev at *;simp only [ho];simp [resolve,invoke,go_sem,hx,hy,hf]
theorem yec {s:ByteArray} {a n:Nat} {E:Int} (h:a <= s.size):tkA s a n E <= s.size:=by
 unfold tkA;split
 ·rename_i h0
  unfold tkE at h0;split at h0
  ·split at h0
   ·exact absurd h0 (by decide)
   ·omega
  ·rename_i h1;exact absurd h0 h1
 ·exact h
theorem yfN (s:ByteArray) (a n:Nat) (E:Int):(btL s a n E).length = n:=by
 unfold btL;split
 ·rename_i h
  unfold btE at h;split at h
  ·have:=yfk _ _ h;omega
  ·rename_i h2;exact absurd h h2
 ·simp
theorem GetS.eqc {wG u:World} {s signs:ByteArray} {r sg l n k a sa:Nat} {E SE:Int} {C:Array Value} {cur cur':List Value} {ks:List Nat} {ts:List TxV} (h:GetS wG s signs r sg l n k a sa E SE C cur ks ts u) (e:cur = cur'):GetS wG s signs r sg l n k a sa E SE C cur' ks ts u:=e ▸ h
theorem cur2 (R S:Nat):List.take 25 (List.take 21 blankL ++ ((ybn R).toList ++ List.drop (21 + (ybn R).toList.length) blankL)) ++ ((ybn S).toList ++ List.drop (25 + (ybn S).toList.length) (List.take 21 blankL ++ ((ybn R).toList ++ List.drop (21 + (ybn R).toList.length) blankL))) = txL (ycG 0 R S ⟨#[]⟩) (.slice none 0 0) (.slice none 0 0):=rfl
theorem cur3 (R S:Nat) (d:ByteArray):List.take 20 (txL (ycG 0 R S d) (.slice none 0 0) (.slice none 0 0)) ++ ([je3 .u64 1] ++ List.drop (20 + [je3 .u64 1].length) (txL (ycG 0 R S d) (.slice none 0 0) (.slice none 0 0))) = txL (ycG 1 R S d) (.slice none 0 0) (.slice none 0 0):=rfl
theorem cur4 (y R S:Nat) (d e:ByteArray):List.take 12 (txL (ycG y R S d) (.slice none 0 0) (.slice none 0 0)) ++ ([jb2 e] ++ List.drop (12 + [jb2 e].length) (txL (ycG y R S d) (.slice none 0 0) (.slice none 0 0))) = txL (ycG y R S e) (.slice none 0 0) (.slice none 0 0):=rfl
theorem RowQ.at_ {lo hi n c i:Nat} {w:World} {A:Option Addr} {xs:List Value} (h:RowQ lo hi w (.slice A n c) xs) (hin:i < n):∃ g off,A = some ⟨g,off,none⟩ /\ lo <= g /\ g < hi /\ w.cell? ⟨g,off + i,none⟩ = xs[i]?:=by
 obtain ⟨B,d,h1,h2⟩:=h;cases h1;obtain ⟨g,off,a,b,e,f⟩:=h2 (by omega);exact ⟨g,off,a,b,e,f i hin⟩
def RowC (lo hi:Nat) (w:World) (v:Value) (xs:List Value):Prop :=
 ∃ A c,v = .slice A xs.length c /\ xs.length <= c /\ (0 < xs.length -> ∃ g off,A = some ⟨g,off,none⟩ /\ lo <= g /\ g < hi /\ ∀ i,i < xs.length -> w.cell? ⟨g,off + i,none⟩ = xs[i]?)
theorem RowC.of_own {o k:Nat} {e:TypeId} {w:World} {v:Value} {xs:List Value} (h:w.ownsRow o e 1 v k xs):RowC o w.heap.size w v xs:=by
 have hl:xs.length = k:=by have:=h.1;omega
 obtain ⟨A,c,h1,h2⟩:=RowQ.of_own h;rcases h.2 with ⟨hv,h3⟩ | ⟨g,cap,cur,hv,hb,hg,hn,hc,hs,ht⟩
 ·refine ⟨A,c,h1,by omega,h2⟩
 ·rw [h1] at hv;refine ⟨A,c,h1,?_,h2⟩;have:c = cap:=by cases hv;rfl
  omega
theorem RowC.keep {lo hi:Nat} {w w':World} {v:Value} {xs:List Value} (h:RowC lo hi w v xs) (hc:∀ (p:Addr) u,lo <= p.block -> p.block < hi -> w.cell? p = some u -> w'.cell? p = some u):RowC lo hi w' v xs:=by
 obtain ⟨A,c,h1,h2,h3⟩:=h;refine ⟨A,c,h1,h2,fun h0=>?_⟩;obtain ⟨g,off,a,b,d,e⟩:=h3 h0;exact ⟨g,off,a,b,d,fun i hi=>by have:=e i hi;rw [je hi] at this ⊢;exact hc _ _ b d this⟩
theorem RowC.at_ {lo hi n c:Nat} {w:World} {A:Option Addr} {xs:List Value} (h:RowC lo hi w (.slice A n c) xs) (h0:0 < n):∃ g off,A = some ⟨g,off,none⟩ /\ lo <= g /\ g < hi /\ ∀ i,i < n -> w.cell? ⟨g,off + i,none⟩ = xs[i]?:=by
 obtain ⟨B,d,h1,_,h2⟩:=h;cases h1;obtain ⟨g,off,a,b,e,f⟩:=h2 h0;exact ⟨g,off,a,b,e,f⟩
theorem RowC.cons {lo hi:Nat} {w:World} {v x:Value} {xs:List Value} (h:RowC lo hi w v (x :: xs)):∃ g off c,v = .slice (some ⟨g,off,none⟩) (xs.length + 1) c /\ xs.length + 1 <= c /\ lo <= g /\ g < hi /\ w.cell? ⟨g,off,none⟩ = some x /\ RowC lo hi w (.slice (if c = 1 then some ⟨g,off,none⟩ else some ⟨g,off + 1,none⟩) xs.length (c - 1)) xs:=by
 obtain ⟨A,c,h1,h2,h3⟩:=h;obtain ⟨g,off,rfl,b,d,e⟩:=h3 (by simp);simp only [jlc] at h1 h2 e;refine ⟨g,off,c,h1,h2,b,d,by simpa using e 0 (by omega),_,_,rfl,by omega,fun h0=>⟨g,off + 1,by rw [if_neg (by omega)],b,d,fun i hi=>?_⟩⟩;have:=e (i + 1) (by omega);rw [show off + 1 + i = off + (i + 1) by omega,this];rfl
def InvF (chain:Nat) (ts us:List TxV) (ns gs:List Nat) (csr:List Bool) (E:Int) (j:Nat) (F0:List TxV):Prop:=E = 0 -> us ++ yaY chain (ts.drop j) (ns.drop j) (gs.drop j) csr = F0
theorem InvF.step0 {chain:Nat} {ts us:List TxV} {ns gs:List Nat} {csr:List Bool} {b:Bool} {E:Int} {j:Nat} {F0:List TxV} {kv:Nat} (h:InvF chain ts us ns gs (b :: csr) E j F0) (hl:E = 0 -> j < ts.length /\ (ts.getD j TxV.zero).kind = (kv:Int)) (hk:kv = 0) :
  InvF chain ts (us ++ [ycq chain (ts.getD j TxV.zero) (ns.getD j 0) (gs.getD j 0) b]) ns gs csr E (j + 1) F0:=fun h0=>by
 obtain ⟨h1,h2⟩:=hl h0;have:=h h0;rw [yfE _ _ _ _ _ h1,if_pos (by rw [h2];omega)] at this;rw [<- this]
 simp
theorem InvF.step1 {chain:Nat} {ts us:List TxV} {ns gs:List Nat} {csr:List Bool} {E:Int} {j:Nat} {F0:List TxV} {kv:Nat} (h:InvF chain ts us ns gs csr E j F0) (hl:E = 0 -> j < ts.length /\ (ts.getD j TxV.zero).kind = (kv:Int)) (hk:kv ≠ 0) :
  InvF chain ts (us ++ [ycq chain (ts.getD j TxV.zero) (ns.getD j 0) (gs.getD j 0) true]) ns gs csr E (j + 1) F0:=fun h0=>by
 obtain ⟨h1,h2⟩:=hl h0;have:=h h0;rw [yfE _ _ _ _ _ h1,if_neg (by rw [h2];omega)] at this;rw [<- this]
 simp
theorem ykT (ks:List Nat) {j:Nat} (h:j < ks.length):(ks.drop j).count 0 = (if ks.getD j 0 = 0 then 1 else 0) + (ks.drop (j + 1)).count 0:=by
 have e:ks.drop j = ks.getD j 0 :: ks.drop (j + 1):=by
  rw [jdc h,jg,je h];rfl
 rw [e,List.count_cons];by_cases h0:ks.getD j 0 = 0
 ·rw [if_pos h0,h0];simp;omega
 ·rw [if_neg h0,if_neg (by simpa using h0)];omega
theorem yk6 {ts:List TxV} {ks:List Nat} (hl:ts.length = ks.length) (hk:∀ i,i < ks.length -> (ts.getD i TxV.zero).kind = ((ks.getD i 0:Nat):Int)):legN ts = ks.count 0:=by
 have e:ts.map TxV.kind = ks.map fun (x:Nat)=>(x:Int):=by
  refine List.ext_getElem (by simp [hl]) fun i h1 h2=>?_;have h3:i < ks.length:=by simpa using h2
  have:=hk i h3;rw [jg,jg,je h3,je (by omega)] at this;simpa using this
 unfold legN;rw [e]
 have:∀ l:List Nat,(l.map fun (x:Nat)=>(x:Int)).count 0 = l.count 0:=by
  intro l
  induction l with
  | nil=>rfl
  | cons x l ih =>
   rw [ja8,List.count_cons,List.count_cons,ih];by_cases hx:x = 0
   ·subst hx;simp
   ·simp [hx]
 exact this ks
section
variable {P:Program} {ops:Array Oper} {rest:List Oper} {op:Oper} {a:Act} {w w':World} {Q:Exit -> Act -> World -> Prop}
theorem yad (hgd:jd9 op (yielded ops a.tmps) = true) (v:Value) (h:(execOp a.eval op).run P w = .ok (.value v) w') (hk:wpList P ops Q rest (a.put op.dst v) w'):wpList P ops Q (op :: rest) a w :=
 wpList_step fun K hK=>by rw [if_pos hgd];unfold Oper.wp;rw [h];exact hK _ _ hk
theorem yaG (hgd:jd9 op (yielded ops a.tmps) = true) (f:FuncId) (args:Array Value) (h:(execOp a.eval op).run P w = .ok (.enter f args) w)
  (hc:Calls P f args w fun e w'=>∃ v,e = .returned v /\ wpList P ops Q rest (a.put op.dst v) w'):wpList P ops Q (op :: rest) a w :=
 wpList_step fun K hK=>by
  rw [if_pos hgd];unfold Oper.wp;rw [h];refine hc.mono fun e w' he=>?_;obtain ⟨v,rfl,hk⟩:=he;exact hK _ _ hk
theorem ybX (hgd:jd9 op (yielded ops a.tmps) = false) (hk:wpList P ops Q rest (a.put op.dst undef) w):wpList P ops Q (op :: rest) a w :=
 wpList_step fun K hK=>by rw [if_neg (by rw [hgd];decide)];exact hK _ _ hk
end
theorem ymb {s:ByteArray} {a n:Nat} {E:Int} (h:E ≠ 0):nuE s a n E = E:=by unfold nuE;rw [if_neg h]
theorem yoA {s:ByteArray} {a n:Nat} {E:Int} (h:E ≠ 0):tkE s a n E = E:=by unfold tkE;rw [if_neg h]
theorem yoZ {s:ByteArray} {a n:Nat} {E:Int} (h:E ≠ 0):btE s a n E = E:=by unfold btE;rw [yoA h,if_neg h]
theorem ynP {s sgs:ByteArray} {nl yl cs:List Bool} {n k ak sa lg A5 A6 A7 chain:Nat} {Ek SE E4 E5 E6 E7:Int} {ts:List TxV} {ns gs:List Nat} {tk:ByteArray} {R0:Except Int (List TxV × Nat)} (hi:InvG s sgs nl yl n k ak sa Ek SE E4 ts tk R0) (hk:k = n)
  (h5:nuE s ak n Ek = E5) (ha5:nuA s ak n Ek = A5) (hns:nuN s ak n Ek = ns) (h6:nuE s A5 n E5 = E6) (ha6:nuA s A5 n E5 = A6) (hgs:nuN s A5 n E5 = gs) (h7:btE s A6 lg E6 = E7) (ha7:btA s A6 lg E6 = A7) (hcs:btL s A6 lg E6 = cs) (hlg:Ek = 0 -> lg = legN ts) :
  endR s n chain R0 = if E7 ≠ 0 then .error E7 else if yaA (yaY chain ts ns gs cs) chain ≠ 0 then .error (yaA (yaY chain ts ns gs cs) chain) else .ok (yaY chain ts ns gs cs,A7):=by
 rcases hi with ⟨rfl,_,_,_,hR⟩ | ⟨h1,hR⟩
 ·rw [hk,Nat.sub_self,ycA,ygc,List.append_nil] at hR;rw [hR,endR];unfold ynB;rw [<- hlg rfl,h5,ha5,hns,h6,ha6,hgs,h7,ha7,hcs]
 ·rw [ymb h1] at h5;subst h5;rw [ymb h1] at h6;subst h6;rw [yoZ h1] at h7;subst h7;rw [if_pos h1,hR];rfl
theorem yoV {s sgs tos:ByteArray} {nl yl:List Bool} {n a A1 A2 A3 A4 m:Nat} {E1 E2 E3 E4:Int} {R0:Except Int (List TxV × Nat)} (h1:btL s a n 0 = nl) (h2:btA s a n 0 = A1) (h3:btE s a n 0 = E1) (h4:btE s A1 n E1 = E2) (h5:btA s A1 n E1 = A2) (h6:btL s A1 n E1 = yl) (h7:n - cntB nl = m)
  (h8:tkS s A2 (64 * n) E2 = sgs) (h9:tkE s A2 (64 * n) E2 = E3) (h10:tkA s A2 (64 * n) E2 = A3) (h11:tkE s A3 (20 * m) E3 = E4) (h12:tkA s A3 (20 * m) E3 = A4) (h13:tkS s A3 (20 * m) E3 = tos) (hR:(if E4 ≠ 0 then .error E4 else ycA s sgs nl yl n 0 A4 tos) = R0) :
  fixR s n (btL s a n 0) (btA s a n 0) (btE s a n 0) = R0:=by
 rw [h1,h2,h3];unfold fixR;rw [h4,h5,h6,h7,h8,h9,h10,h11,h12,h13];exact hR
theorem yjL {p:Nat -> Prop} {ns:List Nat} (h:∀ x ∈ ns,p x) (h0:p 0):p (ns.headD 0):=by
 cases ns with
 | nil=>exact h0
 | cons x r=>exact h x (by simp)
theorem yfF {chain:Nat} (hc:chain < 18446744073709551616):∀ {ts:List TxV} {ns gs:List Nat} {cs:List Bool},(∀ t ∈ ts,ydX t) -> (∀ x ∈ ns,x < 18446744073709551616) -> (∀ x ∈ gs,x < 18446744073709551616) -> ∀ u ∈ yaY chain ts ns gs cs,ydX u
 | [],_,_,_,_,_,_,u,hu=>by simp [yaY] at hu
 | t :: ts,ns,gs,cs,ht,hn,hg,u,hu=>by
  have a1:=yjL hn (by omega);have a2:=yjL hg (by omega);have b1:∀ x ∈ ns.tail,x < 18446744073709551616:=fun x hx=>hn x (List.mem_of_mem_tail hx);have b2:∀ x ∈ gs.tail,x < 18446744073709551616:=fun x hx=>hg x (List.mem_of_mem_tail hx);unfold yaY at hu;split at hu
  ·rcases List.mem_cons.1 hu with rfl | hu
   ·exact yjS (ht t (by simp)) hc a1 a2
   ·exact yfF hc (fun t h=>ht t (by simp [h])) b1 b2 u hu
  ·rcases List.mem_cons.1 hu with rfl | hu
   ·exact yjS (ht t (by simp)) hc a1 a2
   ·exact yfF hc (fun t h=>ht t (by simp [h])) b1 b2 u hu
theorem InvG.rows {s sgs:ByteArray} {nl yl:List Bool} {n k ak sa A4:Nat} {Ek SE E4:Int} {ts:List TxV} {tk tos:ByteArray} {R0:Except Int (List TxV × Nat)} (hi:InvG s sgs nl yl n k ak sa Ek SE E4 ts tk R0) (hk:k = n) (h0:Ek = 0) (hR:(if E4 ≠ 0 then .error E4 else ycA s sgs nl yl n 0 A4 tos) = R0):∀ t ∈ ts,ydX t:=by
 rcases hi with ⟨_,_,_,h4,hR2⟩ | ⟨h1,_⟩
 ·rw [hk,Nat.sub_self,ycA,ygc,List.append_nil] at hR2;rw [if_neg (by simpa using h4),hR2] at hR;exact (yg3 hR).2
 ·exact absurd h0 h1
theorem Gr3.close {w w1 u:World} {r g l:Nat} (h0:w.grownBy w1 none) (h:Gr3 w1 u r g l) (hr:w.heap.size <= r) (hg:w.heap.size <= g) (hl:w.heap.size <= l):w.grownBy u none :=
 ⟨h.os.trans h0.os,h.tape.trans h0.tape,h.output.trans h0.output,jlt h0.size h.size,fun k hk _=>(h.block k (jb6 hk h0.size) (by omega) (by omega) (by omega)).trans (h0.block k hk (by simp))⟩
theorem FilS.read {wG u u':World} {o:Nat} {s:ByteArray} {r sg l n k a:Nat} {E:Int} {C:Array Value} {cur:Value -> List Value} {ks:List Nat} {ts us:List TxV} (h:FilS wG o s r sg l n k a E C cur ks ts us u) (hg:u.grownBy u' (some r)) (hr:Blk u' r 155 (rdC s a E)) (ho:r < o):FilS wG o s r sg l n k a E C cur ks ts us u' :=
 { h with
  rd:=hr,row:=h.row.grown hg (fun e=>h.rw (ji e).symm),gr:=h.gr.grown hg (fun k e=>.inl (ji e).symm),
  good:=fun h0 i hi hik=>by obtain ⟨sl,a,b,c⟩:=h.good h0 i hi hik;exact ⟨sl,a,b.keep hg.size (fun p v hp hv=>hg.cell hv (fun e=>by have:=ji e;omega)),c⟩,
  at_:=fun h0 hk=>by obtain ⟨sl,a,b,c⟩:=h.at_ h0 hk;exact ⟨sl,a,b.keep hg.size (fun p v hp hv=>hg.cell hv (fun e=>by have:=ji e;omega)),c⟩ }
def GetEnd (s:ByteArray) (a n chain:Nat) (w:World) (e:Ending) (w':World):Prop :=
 w.grownBy w' none /\ ((∃ E,E ≠ 0 /\ getR s a n chain = .error E /\ e = .returned (.tuple #[.slice none 0 0,.int .i64 0,.int .i64 E])) \/
  (∃ L T g,getR s a n chain = .ok (L,T) /\ e = .returned (.tuple #[.slice (some ⟨g,0,none⟩) n n,.int .i64 (T:Int),.int .i64 0]) /\ w.heap.size <= g /\ TxsR w'.heap.size w' L (some ⟨g,0,none⟩) n /\ T <= s.size /\ (∀ t ∈ L,ydX t) /\ Stand w.heap.size w' L g n))
theorem GetEnd.drew {s:ByteArray} {a n chain:Nat} {w w':World} {e:Ending} (h:GetEnd s a n chain w e w'):GetEnd s a n chain w e w'.drew:=by
 obtain ⟨h1,h2⟩:=h;refine ⟨yau h1,?_⟩;rcases h2 with h2 | ⟨L,T,g,a,b,c,d,f1,f2,f3⟩
 ·exact .inl h2
 ·exact .inr ⟨L,T,g,a,b,c,d.grown (yau (jr w' none)) (jle _),f1,f2,f3.grown (yau (jr w' none))⟩
structure TxC (t:TxV):Prop where
 kind:t.kind = 0 \/ t.kind = 1 \/ t.kind = 2
 named:t = ycQ t
 y:t.y <= 1
 dst:t.dst.size = 0 \/ t.dst.size = 20
 acc:t.acc.length <= 16
 pair:∀ a ∈ t.acc,a.addr.size = 20 /\ a.keys.length <= 16 /\ ∀ k ∈ a.keys,k.size = 32
 data:t.data.size <= 4096
theorem yoJ {ck:Int} {lo hi ne k0 c0:Bool} (h:yhU ck lo hi ne k0 c0 = 0):lo = false /\ hi = false /\ ck = 0 /\ (ne = false \/ k0 = false /\ c0 = false):=by
 unfold yhU at h;split at h
 ·cases h
 ·rename_i h1
  split at h
  ·rename_i h2;exact absurd h h2
  ·rename_i h2
   split at h
   ·cases h
   ·rename_i h3
    refine ⟨by cases lo <;> simp_all,by cases hi <;> simp_all,jb5.1 h2,?_⟩;cases ne <;> cases k0 <;> cases c0 <;> simp_all
theorem ymH {kd sm sd bd ba bp bu:Bool} (h:yfK kd sm sd bd ba bp bu = 0):kd = true /\ sm = true /\ sd = true /\ bd = false /\ ba = false /\ bp = false /\ bu = false:=by
 revert h;cases kd <;> cases sm <;> cases sd <;> cases bd <;> cases ba <;> cases bp <;> cases bu <;> simp [yfK]
theorem yiJ {chain:Nat} {t:TxV} (h:oneT chain t = 0):TxC t /\ (t.chain = chain \/ t.kind = 0 /\ t.chain = 0):=by
 obtain ⟨h1,h2,h3,h4⟩:=yoJ (show yhU _ _ _ _ _ _ = 0 from h);obtain ⟨c1,c2,c3,c4,c5,c6,c7⟩:=ymH (show yfK _ _ _ _ _ _ _ = 0 from h3);have k1:=of_decide_eq_false h1;have k2:=of_decide_eq_false h2;have hk:t.kind = 0 \/ t.kind = 1 \/ t.kind = 2:=by omega
 have hs:ydp t.kind (decide (1 < t.y)) (t.acc.any ybP) (t.auths.any yc1) (decide (t.chain <= 4611686018427387904)) (decide (t.dst.size = 0)) (decide (t.dst.size = 20)) (decide (0 < t.auths.length)) (decide (t.source.size = 32)) (decide (t.frm.size = 20)) = true:=c3;unfold ydp at hs;split at hs
 ·cases hs
 ·rename_i hn
  have hn:decide (1 < t.y) = false /\ t.acc.any ybP = false:=by
   revert hn;cases decide (1 < t.y) <;> cases t.acc.any ybP <;> simp
  have hd:t.dst.size = 0 \/ t.dst.size = 20:=by
   rcases hk with hk | hk | hk
   ·rw [if_pos hk] at hs;simp only [Bool.and_eq_true,Bool.or_eq_true,decide_eq_true_eq] at hs;exact hs.2
   ·rw [if_neg (by omega),if_neg (by omega),if_neg (by omega)] at hs;simpa only [Bool.or_eq_true,decide_eq_true_eq] using hs
   ·rw [if_neg (by omega),if_neg (by omega),if_neg (by omega)] at hs;simpa only [Bool.or_eq_true,decide_eq_true_eq] using hs
  have hy:=of_decide_eq_false hn.1;refine ⟨⟨hk,of_decide_eq_true c2,by omega,hd,by have:=of_decide_eq_false c5;omega,fun a ha=>?_,by have:=of_decide_eq_false c4;omega⟩,?_⟩
  ·have h5:=List.any_eq_false.1 hn.2 a ha;have h6:=List.any_eq_false.1 c6 a ha;simp only [ybP,Bool.or_eq_true,decide_eq_true_eq,not_or,jb5] at h5;simp only [yc7,decide_eq_true_eq] at h6;refine ⟨h5.1,by omega,fun k hk=>?_⟩;have h7:=h5.2;have h8:a.keys.any yck = false:=by revert h7;cases a.keys.any yck <;> simp
   have h9:=List.any_eq_false.1 h8 k hk;simpa [yck] using h9
  ·rcases h4 with h4 | ⟨h4,h5⟩
   ·left;have:=of_decide_eq_false h4;exact jb5.1 this
   ·right;exact ⟨jb5.1 (of_decide_eq_false h4),jb5.1 (of_decide_eq_false h5)⟩
theorem TxC.lacks {t:TxV} (h:TxC t):t.auths = [] /\ t.source = ⟨#[]⟩ /\ t.frm = ⟨#[]⟩ /\ t.mint = 0 /\ t.system = false /\ (t.kind ≠ 2 -> t.tip = 0) /\ (t.kind = 0 -> t.acc = []):=by
 have hk:=h.kind;have hn:=h.named
 have e:ycQ t = { TxV.zero with kind:=t.kind,gas:=t.gas,dst:=t.dst,value:=t.value,data:=t.data,chain:=t.chain,nonce:=t.nonce,price:=t.price,y:=t.y,r:=t.r,s:=t.s,tip:=if t.kind = 2 \/ t.kind = 4 then t.tip else 0,acc:=if yih t.kind = true then t.acc else [],auths:=if t.kind = 4 then t.auths else [] }:=by
  unfold ycQ;rw [if_neg (by omega)]
 rw [e] at hn;refine ⟨?_,congrArg TxV.source hn,congrArg TxV.frm hn,congrArg TxV.mint hn,congrArg TxV.system hn,fun h2=>?_,fun h0=>?_⟩
 ·have:=congrArg TxV.auths hn;simp only at this;rw [this,if_neg (by omega)]
 ·have:=congrArg TxV.tip hn;simp only at this;rw [this,if_neg (by omega)]
 ·have:=congrArg TxV.acc hn;simp only at this;rw [this,if_neg (by simp [yih,h0])]
theorem ynS {xs:List Itm} {d:Nat} (h:∀ x ∈ xs,yaO x d = 0):formL xs d = 0:=by
 induction xs with
 | nil=>rw [formL]
 | cons x xs ih=>rw [formL,h x (by simp),if_neg (by simp)];exact ih fun y hy=>h y (by simp [hy])
theorem yeu (b:ByteArray) (d:Nat):yaO (txt b) d = 0:=by rw [txt,yaO];simp
theorem ycT {xs:List Itm} {d:Nat} (hd:d < 12) (hn:xs.length <= 512) (h:∀ x ∈ xs,yaO x (d + 1) = 0):yaO (.mk true ⟨#[]⟩ xs) d = 0:=by
 rw [yaO,if_neg (by rintro (⟨_,h⟩ | ⟨h,_⟩) <;> first | exact h rfl | cases h),if_neg (by simp),if_neg (by omega),if_neg (by omega)];exact ynS h
theorem ymz {l:List AccV} (hl:l.length <= 16) (hp:∀ a ∈ l,a.keys.length <= 16) (d:Nat) (hd:d < 9):yaO (accI l) d = 0:=by
 refine ycT (by omega) (by simp;omega) fun x hx=>?_;obtain ⟨a,ha,rfl⟩:=List.mem_map.1 hx;refine ycT (by omega) (by simp) fun x hx=>?_;rcases List.mem_cons.1 hx with rfl | hx
 ·exact yeu _ _
 ·rcases List.mem_cons.1 hx with rfl | hx
  ·refine ycT (by omega) (by have:=hp a ha;simp;omega) fun x hx=>?_;obtain ⟨k,_,rfl⟩:=List.mem_map.1 hx;exact yeu _ _
  ·cases hx
theorem yhv (b:ByteArray):wtF (txt b) = 10 + b.size:=by rw [txt,wtF,wtL,Nat.add_zero]
theorem yi3 {α:Type} (f:α -> Itm) (m:Nat):∀ (l:List α),(∀ a ∈ l,wtF (f a) <= m) -> wtL (l.map f) <= l.length * m
 | [],_=>by simp [wtL]
 | a :: l,h=>by
  have h1:=h a (by simp);have h2:=yi3 f m l fun b hb=>h b (by simp [hb]);rw [ja8,wtL,jlc,Nat.add_mul];omega
theorem yo1 {l:List AccV} (hl:l.length <= 16) (hp:∀ a ∈ l,a.addr.size = 20 /\ a.keys.length <= 16 /\ ∀ k ∈ a.keys,k.size = 32):wtF (accI l) <= 11600:=by
 have h1:∀ a ∈ l,wtF (ycd a) <= 722:=fun a ha=>by
  obtain ⟨p1,p2,p3⟩:=hp a ha;have h2:=yi3 txt 42 a.keys fun k hk=>by rw [yhv,p3 k hk];exact jle _
  have h3:a.keys.length * 42 <= 16 * 42:=Nat.mul_le_mul_right _ p2;rw [ycd,wtF,wtL,wtL,wtL,yhv,wtF,p1];simp only [show (⟨#[]⟩:ByteArray).size = 0 from rfl];omega
 have h4:=yi3 ycd 722 l h1;have h5:l.length * 722 <= 16 * 722:=Nat.mul_le_mul_right _ hl;rw [accI,wtF];simp only [show (⟨#[]⟩:ByteArray).size = 0 from rfl];omega
theorem yiP (n:Nat):(nB n).size <= 32:=by
 have h:=ymR n;unfold nB;obtain ⟨t,ht⟩:∃ t,beN n = t:=⟨_,rfl⟩;rw [ht] at h ⊢;rw [<- yan];simpa using h
theorem TxC.rest {t:TxV} (h:TxC t):wtF (yb8 t) <= 20000 /\ yaO (yb8 t) 0 = 0:=by
 have h1:=yiP t.value;have h2:=yiP t.tip;have h3:=yiP t.price;have h4:=yo1 h.acc h.pair;have h5:=h.data;have h6:=fun d hd=>ymz h.acc (fun a ha=>(h.pair a ha).2.1) d hd;constructor
 ·unfold yb8;rw [wtF];simp only [show (⟨#[]⟩:ByteArray).size = 0 from rfl];split
  ·simp only [wtL,yhv];omega
  split
  ·simp only [wtL,yhv];omega
  ·simp only [wtL,yhv];omega
 ·unfold yb8;split
  ·exact ycT (by omega) (by simp) fun x hx=>by simp at hx;rcases hx with rfl | rfl | rfl <;> exact yeu _ _
  split
  ·exact ycT (by omega) (by simp) fun x hx=>by simp at hx;rcases hx with rfl | rfl | rfl | rfl <;> first | exact yeu _ _ | exact h6 1 (by omega)
  ·exact ycT (by omega) (by simp) fun x hx=>by simp at hx;rcases hx with rfl | rfl | rfl | rfl | rfl <;> first | exact yeu _ _ | exact h6 1 (by omega)
theorem TxC.check {t:TxV} (h:TxC t):ybG (yb8 t) = 0 /\ (ya0 (yb8 t)).length <= 20000:=by
 obtain ⟨h1,h2⟩:=h.rest;have h3:=ygF (yb8 t) (by omega);refine ⟨?_,by omega⟩;unfold ybG;rw [h2,if_neg (by simp),if_neg (by omega)]
theorem TxC.enc {t:TxV} (h:TxC t):encB (yb8 t) = ya0 (yb8 t):=by unfold encB;rw [if_pos h.check.1]
theorem yku {t:TxV} (h:TxC t):(ycj t).length <= 20001:=by
 have:=h.check.2;unfold ycj;rw [h.enc];split
 ·simp;omega
 split <;> (simp;omega)
def At (l:List UInt8) (a:Nat) (x:List UInt8):Prop:=∃ y,l.drop a = x ++ y
theorem At.le {l x:List UInt8} {a:Nat} (h:At l a x) (ha:a <= l.length):a + x.length <= l.length:=by
 obtain ⟨y,hy⟩:=h;have:=congrArg List.length hy;simp at this;omega
theorem At.left {l x y:List UInt8} {a:Nat} (h:At l a (x ++ y)):At l a x:=by
 obtain ⟨z,hz⟩:=h;exact ⟨y ++ z,by rw [hz,List.append_assoc]⟩
theorem At.right {l x y:List UInt8} {a:Nat} (h:At l a (x ++ y)):At l (a + x.length) y:=by
 obtain ⟨z,hz⟩:=h;refine ⟨z,?_⟩;rw [<- List.drop_drop,hz,List.append_assoc,List.drop_left]
theorem At.take {l x:List UInt8} {a:Nat} (h:At l a x):(l.drop a).take x.length = x:=by
 obtain ⟨y,hy⟩:=h;rw [hy,List.take_left]
theorem At.get {l x:List UInt8} {a i:Nat} (h:At l a x) (hi:i < x.length):l[a + i]? = x[i]?:=by
 obtain ⟨y,hy⟩:=h;have:=congrArg (fun z=>z[i]?) hy;simp only [List.getElem?_drop] at this;rw [this,jal hi]
theorem At.agree {l x:List UInt8} {a:Nat} (h:At l a x):Agree x 0 l a x.length:=fun j hj=>by rw [h.get hj,je1]
theorem ybj (s:ByteArray) (a n:Nat):(s.extract a (a + n)).data.toList = (s.data.toList.drop a).take n:=by
 rw [Lib.extract_data];simp [List.take_drop]
theorem ynI {l:List UInt8} {a:Nat} {x:Itm} (h:ybG x = 0) (hat:At l a (ya0 x)):itR l a = .ok (x,a + (ya0 x).length):=by
 have hd:=yjh h;obtain ⟨d1,d2,d3⟩:=yfH hd
 have hag:Agree (ya0 x) 0 l a (yae (ya0 x) ((0:Nat):Int) + ya1 (ya0 x) ((0:Nat):Int) - 0):=by
  have e:yae (ya0 x) ((0:Nat):Int) + ya1 (ya0 x) ((0:Nat):Int) - 0 = (ya0 x).length:=d3;rw [e];exact hat.agree
 obtain ⟨s1,s2,s3,s4⟩:=yeD (l:=ya0 x) (a:=0) d1 hag
 have e:yae l (a:Int) + ya1 l (a:Int) = a + (ya0 x).length:=by
  have d3':yae (ya0 x) ((0:Nat):Int) + ya1 (ya0 x) ((0:Nat):Int) = (ya0 x).length:=d3;omega
 unfold itR;rw [if_neg (by rw [s1];simp),e,show a + (ya0 x).length - a = (ya0 x).length by omega,hat.take,hd]
theorem ynH {l:List UInt8} {a T:Nat} {x:Itm} (h:itR l a = .ok (x,T)):a < T /\ T <= l.length /\ ybG x = 0 /\ ya0 x = (l.drop a).take (T - a):=by
 unfold itR at h;split at h
 ·cases h
 ·rename_i h0
  have h0:=jb5.1 h0;obtain ⟨k1,k2,k3,k4,_⟩:=yb9 h0;split at h
  ·cases h
  ·rename_i y hy
   cases h;obtain ⟨d1,d2,_⟩:=yfG hy;exact ⟨k4,k2,d1,d2⟩
theorem ymo {n:Nat} (h:n < 115792089237316195423570985008687907853269984665640564039457584007913129639936):itW (txt (nB n)) = n /\ yc9 (txt (nB n)).list (txt (nB n)).bytes = 0:=by
 have h2:n < 256 ^ 32:=by rw [yj6];exact h
 have hp:=(ylR n h2).1;have hv:=yhn n h2;unfold nB;obtain ⟨t,ht⟩:∃ t,beN n = t:=⟨_,rfl⟩;rw [ht] at hp hv ⊢;constructor
 ·unfold itW;rw [if_pos ⟨rfl,hp⟩];exact hv
 ·exact hp
theorem yps {d:ByteArray} (h:d.size <= 4096):dtE (txt d) = 0 /\ dtV (txt d) = d:=by
 have e:ybU d.size 0 4096 = 0:=by unfold ybU;rw [if_neg (by omega),if_neg (by omega)]
 constructor
 ·exact e
 ·unfold dtV;rw [if_pos ⟨rfl,e⟩];rfl
theorem yov (n:Nat):∀ (ks:List ByteArray),(∀ k ∈ ks,k.size = n) -> exsF n 0 (ks.map txt) = 0
 | [],_=>rfl
 | k :: ks,h=>by
  have e:exE (txt k).list (txt k).bytes.size n 0 = 0:=by
   unfold exE;have h1:(txt k).bytes.size = n:=h k (by simp);have h2:(txt k).list = false:=rfl;rw [h1,h2];simp [kE]
  have:=yov n ks fun x hx=>h x (by simp [hx]);unfold exsF at this ⊢;rw [ja8,List.foldl_cons,e];exact this
theorem ygT {n:Nat} {few many:Int} (h1:few <= (n:Int)) (h2:(n:Int) <= many):rwE true n few many 0 = 0:=by
 unfold rwE ybU;rw [if_pos rfl,if_pos rfl,if_neg (by omega),if_neg (by omega)]
theorem ynq {few many:Int} {y:Itm} {E:Int} (h:rwF few many y E = 0):rwL few many y E = y.items:=if_pos h
theorem ynw {a:AccV} (h:a.addr.size = 20 /\ a.keys.length <= 16 /\ ∀ k ∈ a.keys,k.size = 32):rwF 2 2 (ycd a) 0 = 0 /\ prV (ycd a) = a /\ prE (ycd a) = 0:=by
 obtain ⟨h1,h2,h3⟩:=h
 have e1:prE1 (ycd a) = 0:=by
  unfold prE1 exE prA ycd;show kE 0 (if (false || decide (a.addr.size ≠ 20)) = true then 2 else 0) = 0;rw [h1];rfl
 have e2:rwF 0 16 (prK (ycd a)) 0 = 0:=by
  refine ygT (n:=(a.keys.map txt).length) (by omega) (by simp;omega)
 have e3:prZ (ycd a) = a.keys.map txt:=by
  unfold prZ;rw [e1,ynq e2];rfl
 refine ⟨ygT (n:=2) (by omega) (by omega),?_,?_⟩
 ·unfold prV;rw [e3,List.map_map];have:(Itm.bytes ∘ txt) = id:=rfl;rw [this,List.map_id];rfl
 ·unfold prE;rw [e3,e1,e2];exact yov 32 a.keys h3
theorem ygJ:∀ (l:List AccV),(∀ a ∈ l,a.addr.size = 20 /\ a.keys.length <= 16 /\ ∀ k ∈ a.keys,k.size = 32) -> yci (l.map ycd) 0 = (l,0)
 | [],_=>rfl
 | a :: l,h=>by
  obtain ⟨e1,e2,e3⟩:=ynw (h a (by simp));rw [ja8,yci,if_neg (by rw [e1];simp),e2,e3,ygJ l fun b hb=>h b (by simp [hb])]
theorem ymY {l:List AccV} (hl:l.length <= 16) (h:∀ a ∈ l,a.addr.size = 20 /\ a.keys.length <= 16 /\ ∀ k ∈ a.keys,k.size = 32):accX (accI l) 0 = (l,0):=by
 have e1:rwF 0 16 (accI l) 0 = 0:=ygT (n:=(l.map ycd).length) (by omega) (by simp;omega);have e2:rwL 0 16 (accI l) 0 = l.map ycd:=by rw [ynq e1];rfl
 unfold accX;rw [e1,e2,ygJ l h]
theorem ymL {s:ByteArray} {a i:Nat} {x:List UInt8} (h:At s.data.toList a x) (hi:i < x.length):byt s (a + i) = (x.getD i 0).toNat:=by
 unfold byt;rw [jg,h.get hi,<- jg]
theorem ynC {t:TxV} (h:TxC t):∃ kd:Nat,t.kind = (kd:Int) /\ (kd = 0 \/ kd = 1 \/ kd = 2):=by
 rcases h.kind with h | h | h
 ·exact ⟨0,h,.inl rfl⟩
 ·exact ⟨1,h,.inr (.inl rfl)⟩
 ·exact ⟨2,h,.inr (.inr rfl)⟩
theorem ykr {s:ByteArray} {a:Nat} {t:TxV} (h:TxC t) (ok:t.Ok) (hat:At s.data.toList a (ycj t)) (ha:a <= s.size):∃ kd:Nat,t.kind = (kd:Int) /\ kdV s a 0 = kd /\ ycg s a 0 = .ok ((yb8 t).items,a + (ycj t).length) /\ ∀ y R S dst,gotT kd (yb8 t).items y R S dst = { t with chain:=0,nonce:=0,gas:=0,y:=y,r:=R,s:=S,dst:=dst }:=by
 obtain ⟨kd,hk,hk3⟩:=ynC h;obtain ⟨l1,l2,l3,l4,l5,l6,l7⟩:=h.lacks;have hle:=hat.le (by rw [yan];exact ha);rw [yan] at hle;have hck:=h.check.1;obtain ⟨z,zl,hz,hz1,_⟩:=yix (yb8 t) (by have:=h.rest.1;omega);have hz1:=hz1 rfl
 have hrb:ycj t = (if kd = 0 then [] else [UInt8.ofNat kd]) ++ ya0 (yb8 t):=by
  unfold ycj;rw [h.enc,hk];rcases hk3 with rfl | rfl | rfl <;> rfl
 have hlen:(ycj t).length = (if kd = 0 then 0 else 1) + (ya0 (yb8 t)).length:=by
  rw [hrb];split <;> simp;omega
 have hpos:1 <= (ya0 (yb8 t)).length:=ygE _
 have hE:kdE s a 0 = 0 /\ kdV s a 0 = kd /\ kdA s a = a + (if kd = 0 then 0 else 1):=by
  rcases hk3 with rfl | hk3
  ·have hb:byt s a = z.toNat:=by
    have:=ymL (i:=0) hat (by omega)
    rw [hrb,hz] at this;exact this
   unfold kdE kdV kdA;rw [hb];simp only [ne_eq,not_true_eq_false,if_false,if_true];rw [if_neg (by omega),if_pos hz1,if_neg (by omega),if_pos hz1,if_pos hz1];exact ⟨rfl,rfl,rfl⟩
  ·have hne:¬ kd = 0:=by omega
   rw [if_neg hne] at hrb hlen
   have hb:byt s a = kd:=by
    have:=ymL (i:=0) hat (by omega)
    rw [hrb] at this;rw [Nat.add_zero] at this;rw [this];rcases hk3 with rfl | rfl <;> rfl
   have hb1:byt s (a + 1) = z.toNat:=by
    have:=ymL (i:=1) hat (by omega)
    rw [hrb,hz] at this;exact this
   unfold kdE kdV kdA;rw [hb,hb1];simp only [ne_eq,not_true_eq_false,if_false,if_neg hne];rw [if_neg (by omega),if_neg (by omega),if_neg (by omega),if_neg (by omega),if_neg (by omega),if_neg (by omega),if_neg (by omega),if_neg (by omega),if_neg (by omega)];exact ⟨rfl,rfl,rfl⟩
 obtain ⟨e1,e2,e3⟩:=hE
 have hat2:At s.data.toList (kdA s a) (ya0 (yb8 t)):=by
  rw [e3];rw [hrb] at hat
  have:=hat.right;rcases hk3 with rfl | rfl | rfl <;> exact this
 have hit:=ynI hck hat2;have hT:kdA s a + (ya0 (yb8 t)).length = a + (ycj t).length:=by rw [e3,hlen];omega
 rw [hT] at hit;obtain ⟨v1,v2⟩:=ymo ok.value;obtain ⟨p1,p2⟩:=ymo ok.price;obtain ⟨t1,t2⟩:=ymo ok.tip;obtain ⟨d1,d2⟩:=yps h.data;have hax:=ymY h.acc h.pair;obtain ⟨V,hV⟩:∃ x,txt (nB t.value) = x:=⟨_,rfl⟩;obtain ⟨Tt,hTt⟩:∃ x,txt (nB t.tip) = x:=⟨_,rfl⟩;obtain ⟨Pp,hPp⟩:∃ x,txt (nB t.price) = x:=⟨_,rfl⟩;obtain ⟨D,hD⟩:∃ x,txt t.data = x:=⟨_,rfl⟩;obtain ⟨A,hA⟩:∃ x,accI t.acc = x:=⟨_,rfl⟩
 have hI:(yb8 t).list = true /\ (yb8 t).items = if kd = 0 then [V,Pp,D] else if kd = 1 then [V,Pp,D,A] else [V,Tt,Pp,D,A]:=by
  unfold yb8;rw [hk,hV,hTt,hPp,hD,hA];rcases hk3 with rfl | rfl | rfl <;> exact ⟨rfl,rfl⟩
 rw [hV] at v1 v2;rw [hTt] at t1 t2;rw [hPp] at p1 p2;rw [hD] at d1 d2;rw [hA] at hax;obtain ⟨I,hIe⟩:∃ x,yb8 t = x:=⟨_,rfl⟩;rw [hIe] at hit hI ⊢;obtain ⟨hIl,hI⟩:=hI;obtain ⟨zs,hzs⟩:∃ x,I.items = x:=⟨_,rfl⟩;rw [hzs] at hI ⊢
 have hF:rwF (3 + (kd:Nat)) (3 + (kd:Nat)) I 0 = 0:=by
  have hl:zs.length = 3 + kd:=by
   rw [hI];rcases hk3 with rfl | rfl | rfl <;> rfl
  unfold rwF;rw [hIl,hzs];exact ygT (n:=zs.length) (by omega) (by omega)
 have hG:gotA kd zs = (t.acc,0):=by
  rw [hI];rcases hk3 with rfl | rfl | rfl
  ·have e:ydT 0 [V,Pp,D] = 0:=by
    show kE (kE (kE 0 (yc9 V.list V.bytes)) (yc9 Pp.list Pp.bytes)) (dtE D) = 0;rw [v2,p2,d1];rfl
   show (([]:List AccV),ydT 0 [V,Pp,D]) = (t.acc,0);rw [e,l7 (by rw [hk];rfl)]
  ·have e:ydT 1 [V,Pp,D,A] = 0:=by
    show kE (kE (kE 0 (yc9 V.list V.bytes)) (yc9 Pp.list Pp.bytes)) (dtE D) = 0;rw [v2,p2,d1];rfl
   show accX A (ydT 1 [V,Pp,D,A]) = (t.acc,0);rw [e,hax]
  ·have e:ydT 2 [V,Tt,Pp,D,A] = 0:=by
    show kE (kE (kE (kE 0 (yc9 V.list V.bytes)) (yc9 Tt.list Tt.bytes)) (yc9 Pp.list Pp.bytes)) (dtE D) = 0;rw [v2,t2,p2,d1];rfl
   show accX A (ydT 2 [V,Tt,Pp,D,A]) = (t.acc,0);rw [e,hax]
 refine ⟨kd,hk,e2,?_,fun y R S dst=>?_⟩
 ·unfold ycg;rw [if_neg (by rw [e1];simp),hit];dsimp only;rw [e2,if_neg (by rw [hF];simp),hzs,hG]
  simp
 ·have hG1:(gotA kd zs).1 = t.acc:=by rw [hG]
  clear hV hTt hPp hD hA hIe hIl hzs hF hG hit hat hat2 hrb hlen hpos hz hck hax d1 v2 t2 p2;obtain ⟨c1,c2,c3,c4,c5,c6,c7,c8,c9,c10,c11,c12,c13,c14,c15,c16,c17,c18⟩:=t;simp only at hk l1 l2 l3 l4 l5 l6 l7 v1 p1 t1 d2 hG1;subst hk;subst l1;subst l2;subst l3;subst l4;subst l5;unfold gotT;rw [hG1,hI];rcases hk3 with rfl | rfl | rfl
  ·have:=l6 (by simp);subst this;show (TxV.mk _ 0 0 0 (itW Pp) 0 dst (itW V) (dtV D) c10 [] y R S ⟨#[]⟩ ⟨#[]⟩ 0 false) = _;rw [v1,p1,d2]
  ·have:=l6 (by simp);subst this;show (TxV.mk _ 0 0 0 (itW Pp) 0 dst (itW V) (dtV D) c10 [] y R S ⟨#[]⟩ ⟨#[]⟩ 0 false) = _;rw [v1,p1,d2]
  ·show (TxV.mk _ 0 0 (itW Tt) (itW Pp) 0 dst (itW V) (dtV D) c10 [] y R S ⟨#[]⟩ ⟨#[]⟩ 0 false) = _;rw [v1,p1,t1,d2]
theorem yni {s:ByteArray} {a k:Nat} {x:List UInt8} (h:At s.data.toList a x) (ha:a <= s.size) (hk:x.length = k):tkE s a k 0 = 0 /\ tkA s a k 0 = a + k /\ (tkS s a k 0).data.toList = x:=by
 have hle:=h.le (by rw [yan];exact ha);rw [yan] at hle;have e:tkE s a k 0 = 0:=by unfold tkE;rw [if_pos rfl,if_neg (by omega)]
 refine ⟨e,?_,?_⟩
 ·unfold tkA;rw [if_pos e]
 ·unfold tkS;rw [if_pos e,ybj,<- hk];exact h.take
theorem yhk {s:ByteArray} {a n:Nat} {bs:List Bool} (h:At s.data.toList a (yaT bs)) (ha:a <= s.size) (hn:bs.length = n) (hm:n <= 4096):btE s a n 0 = 0 /\ btA s a n 0 = a + (yaT bs).length /\ btL s a n 0 = bs:=by
 have hl:=ybB bs;rw [hn] at hl;obtain ⟨t1,t2,t3⟩:=yni h ha hl;obtain ⟨u1,u2⟩:=yi7 bs (by omega);rw [hn] at u1 u2;have e:btE s a n 0 = 0:=by unfold btE;rw [if_pos t1,t3];exact u1
 refine ⟨e,?_,?_⟩
 ·unfold btA;rw [t2,hl]
 ·unfold btL;rw [if_pos e,t3];exact u2
theorem yeA {s:ByteArray} {a n:Nat} {xs:List Nat} (h:At s.data.toList a (rowL (xs.map fun (x:Nat)=>(x:Int)))) (ha:a <= s.size) (hn:xs.length = n) (hm:n <= 4096) (hx:∀ x ∈ xs,x < 18446744073709551616) :
  nuE s a n 0 = 0 /\ nuA s a n 0 = a + (rowL (xs.map fun (x:Nat)=>(x:Int))).length /\ nuN s a n 0 = xs:=by
 obtain ⟨y,hy⟩:=h
 have hl:s.data.toList = s.data.toList.take a ++ rowL (xs.map fun (x:Nat)=>(x:Int)) ++ y:=by
  rw [List.append_assoc,<- hy,jd0]
 have ht:(s.data.toList.take a).length = a:=by
  have:=yan s;rw [jc0];omega
 have hb:=yi6 (s.data.toList.take a) y (xs.map fun (x:Nat)=>(x:Int)) (fun z hz=>by obtain ⟨x,hx1,rfl⟩:=List.mem_map.1 hz;have:=hx x hx1;omega) (by simp;omega);rw [<- hl,ht,jd8,hn] at hb;have e:nuE s a n 0 = 0:=by unfold nuE;rw [if_pos rfl,hb]
 refine ⟨e,?_,?_⟩
 ·unfold nuA;rw [if_pos e,hb]
 ·unfold nuN nuL;rw [if_pos e,hb,List.map_map];exact (List.map_congr_left fun x hx=>by simp).trans (List.map_id xs)
theorem ym4 {p:Nat} (h:p < 115792089237316195423570985008687907853269984665640564039457584007913129639936):fixN p = ych 32 p:=by
 have h2:p < 256 ^ 32:=by rw [yj6];exact h
 unfold fixN;rw [ym5 _ _ _ _ (yfV p 0) (yfV p 1) (yfV p 2) (yfV p 3),ygL p h2]
theorem yfd (p:Nat):(fixN p).length = 32:=ydB _
theorem ypr {s:ByteArray} {a p:Nat} (h:At s.data.toList a (fixN p)) (ha:a <= s.size) (hp:p < 115792089237316195423570985008687907853269984665640564039457584007913129639936):wdN s a 0 = p:=by
 obtain ⟨t1,_,t3⟩:=yni h ha (yfd p);unfold wdN;rw [if_pos t1,t3,ym4 hp];exact ymQ 32 p (by rw [yj6];exact hp)
theorem ybi (x:ByteArray) (xs:List ByteArray):catB (x :: xs) = x.data.toList ++ catB xs:=rfl
theorem yhi:catB [] = []:=rfl
theorem yeV (t:TxV):(sigT t).data.toList.length = 64:=by
 show ((fixN t.r ++ fixN t.s).toArray.toList).length = 64;simp [yfd]
theorem yhI:∀ (L:List TxV) (i:Nat),(catB (L.map sigT)).drop (64 * i) = catB ((L.drop i).map sigT)
 | L,0=>by simp
 | [],i + 1=>by simp [catB]
 | t :: L,i + 1=>by
  rw [ja8,ybi,show 64 * (i + 1) = (sigT t).data.toList.length + 64 * i by rw [yeV];omega,<- List.drop_drop,List.drop_left,yhI L i];rfl
def yft (t:TxV):TxV:={ t with chain:=0,nonce:=0,gas:=0 }
theorem yg6 {s sgs:ByteArray} {L:List TxV} (hL:∀ t ∈ L,TxC t /\ t.Ok) (hs:sgs.data.toList = catB (L.map sigT)):∀ (m i a:Nat) (tos:ByteArray),i + m = L.length -> a <= s.size -> At s.data.toList a (catB ((L.drop i).map ycp)) -> tos.data.toList = catB ((L.drop i).map TxV.dst) ->
  ycA s sgs (L.map fun t=>decide (t.dst.size = 0)) (L.map fun t=>decide (t.y = 1)) m i a tos = .ok ((L.drop i).map yft,a + (catB ((L.drop i).map ycp)).length)
 | 0,i,a,tos,hi,ha,hat,ht=>by
  rw [ycA,List.drop_eq_nil_of_le (by omega)];rfl
 | m + 1,i,a,tos,hi,ha,hat,ht=>by
  have hlt:i < L.length:=by omega
  have ed:L.drop i = L[i] :: L.drop (i + 1):=jdc hlt;obtain ⟨t,htt⟩:∃ t,L[i] = t:=⟨_,rfl⟩;rw [htt] at ed;have hmem:t ∈ L:=by rw [<- htt];exact jc1 _
  obtain ⟨hc,ok⟩:=hL t hmem;rw [ed,ja8,ybi] at hat ht;have hrt:(ycp t).data.toList = ycj t:=by simp [ycp]
  rw [hrt] at hat
  obtain ⟨kd,k1,k2,k3,k4⟩:=ykr hc ok hat.left ha;have hle:=hat.left.le (by rw [yan];exact ha);rw [yan] at hle
  have hsa:At sgs.data.toList (64 * i) (fixN t.r ++ fixN t.s):=by
   refine ⟨catB ((L.drop (i + 1)).map sigT),?_⟩;rw [hs,yhI,ed,ja8,ybi];congr 1
  have hsz:64 * i + 64 <= sgs.size:=by
   have h1:=hsa.le (by
    rw [hs]
    have:(catB (L.map sigT)).length = 64 * L.length:=by
     clear hs hL hsa
     have:∀ M:List TxV,(catB (M.map sigT)).length = 64 * M.length:=fun M=>by
      induction M with
      | nil=>rfl
      | cons x M ih=>rw [ja8,ybi,jla,yeV,ih,jlc];omega
     exact this L
    rw [this];omega)
   simp only [jla,yfd] at h1;rw [yan] at h1;omega
  have hR:=ypr hsa.left (by omega) ok.r;have hS:=ypr (a:=64 * i + 32) (by have:=hsa.right;rwa [yfd] at this) (by omega) ok.s
  have hn:(L.map fun t=>decide (t.dst.size = 0)).getD i false = decide (t.dst.size = 0):=by
   rw [jg,jgm,je hlt,htt];rfl
  have hy:(L.map fun t=>decide (t.y = 1)).getD i false = decide (t.y = 1):=by
   rw [jg,jgm,je hlt,htt];rfl
  have hdst:(if (L.map fun t=>decide (t.dst.size = 0)).getD i false = false /\ 20 <= tos.size then tos.extract 0 20 else ⟨#[]⟩) = t.dst /\ (if (L.map fun t=>decide (t.dst.size = 0)).getD i false = false /\ 20 <= tos.size then tos.extract 20 tos.size else tos).data.toList = catB ((L.drop (i + 1)).map TxV.dst):=by
   rw [hn];have hdl:=yan t.dst;have htl:=yan tos;rcases hc.dst with h0 | h20
   ·have hz:t.dst = ⟨#[]⟩:=yeg h0;rw [if_neg (by simp [h0]),if_neg (by simp [h0])];refine ⟨hz.symm,?_⟩;rw [ht,hz];rfl
   ·have h20':20 <= tos.size:=by
     have:=congrArg List.length ht;simp only [jla] at this;omega
    rw [if_pos ⟨by simp [h20],h20'⟩,if_pos ⟨by simp [h20],h20'⟩];constructor
    ·refine ycW ?_;have:=ybj tos 0 20;rw [je1] at this;rw [this,ht,List.drop_zero,<- h20,<- hdl,List.take_left]
    ·have:=ybj tos 20 (tos.size - 20);rw [show 20 + (tos.size - 20) = tos.size by omega] at this;rw [this,ht,<- h20,<- hdl,List.drop_left];refine jtl ?_;have:=congrArg List.length ht;simp only [jla] at this;omega
  have hnext:=yg6 hL hs m (i + 1) (a + (ycj t).length) (if (L.map fun t=>decide (t.dst.size = 0)).getD i false = false /\ 20 <= tos.size then tos.extract 20 tos.size else tos) (by omega) hle hat.right hdst.2;rw [yg5 k3,hnext,hdst.1,hR,hS,k2,k4,hy,ed,ja8,ja8,ybi,hrt]
  have hyv:(if decide (t.y = 1) = true then 1 else 0) = t.y:=by
   have:=hc.y;by_cases h1:t.y = 1
   ·simp [h1]
   ·have:t.y = 0:=by omega
    simp [this]
  rw [hyv];unfold ygc;simp only [jla,Nat.add_assoc];rfl
theorem yim {chain:Nat} (hc0:chain ≠ 0):∀ (ls:List TxV),(∀ t ∈ ls,t.chain = chain \/ t.kind = 0 /\ t.chain = 0) -> yaY chain (ls.map yft) (ls.map TxV.nonce) (ls.map TxV.gas) ((ls.filter fun t=>decide (t.kind = 0)).map fun t=>decide (t.chain ≠ 0)) = ls
 | [],_=>rfl
 | t :: ls,h=>by
  have h1:=h t (by simp);have ih:=yim hc0 ls fun x hx=>h x (by simp [hx]);rw [ja8,yaY];by_cases hk:t.kind = 0
  ·rw [if_pos (show (yft t).kind = 0 from hk),List.filter_cons_of_pos (by simp [hk]),ja8];simp only [ja8,List.headD_cons,List.tail_cons];rw [ih];congr 1;unfold ycq yft
   have:(if decide (t.chain ≠ 0) = true then chain else 0) = t.chain:=by
    rcases h1 with h1 | ⟨_,h1⟩
    ·rw [h1,if_pos (by simp [hc0])]
    ·rw [h1];simp
   rw [this]
  ·rw [if_neg (show ¬ (yft t).kind = 0 from hk),List.filter_cons_of_neg (by simp [hk])];simp only [ja8,List.headD_cons,List.tail_cons];rw [ih];congr 1;unfold ycq yft;rcases h1 with h1 | ⟨h2,_⟩
   ·rw [if_pos rfl,<- h1]
   ·exact absurd h2 hk
theorem yjV {α:Type} (f:TxV -> α) (ls:List TxV):colL f (fun _=>true) ls = ls.map f:=by
 unfold colL;rw [List.filter_eq_self.2 (fun _ _=>rfl)]
theorem yjU (ls:List TxV):yd0 ls = yaT (ls.map fun t=>decide (t.dst.size = 0)) ++ (yaT (ls.map fun t=>decide (t.y = 1)) ++ (catB (ls.map sigT) ++ (catB (ls.map TxV.dst) ++ (catB (ls.map ycp) ++ (rowL ((ls.map TxV.nonce).map fun (x:Nat)=>(x:Int)) ++ (rowL ((ls.map TxV.gas).map fun (x:Nat)=>(x:Int)) ++ yaT ((ls.filter fun t=>decide (t.kind = 0)).map fun t=>decide (t.chain ≠ 0)))))))):=by
 unfold yd0 yfI;simp only [ybi,yhi,yjV,List.map_map,List.append_nil,List.toList_toArray];rfl
theorem ygz (ls:List TxV):legN (ls.map yft) = (ls.filter fun t=>decide (t.kind = 0)).length:=by
 unfold legN
 induction ls with
 | nil=>rfl
 | cons t ls ih =>
  rw [ja8,ja8,List.count_cons,ih];by_cases hk:t.kind = 0
  ·rw [List.filter_cons_of_pos (by simp [hk])];simp [yft,hk]
  ·rw [List.filter_cons_of_neg (by simp [hk])];simp [yft,hk]
theorem yoh {α:Type} (p:α -> Bool) (ls:List α):cntB (ls.map p) = (ls.filter p).length:=by
 unfold cntB;rw [List.count_eq_countP,List.countP_map,List.countP_eq_length_filter];congr 1;exact List.filter_congr fun x _=>by simp
theorem yoX:∀ (ls:List TxV),(∀ t ∈ ls,TxC t) -> (catB (ls.map TxV.dst)).length = 20 * (ls.length - cntB (ls.map fun t=>decide (t.dst.size = 0))):=fun ls h=>by
 rw [yoh]
 induction ls with
 | nil=>rfl
 | cons t ls ih =>
  have hl:=yan t.dst;have ih:=ih fun x hx=>h x (by simp [hx]);have hle:=List.length_filter_le (fun t:TxV=>decide (t.dst.size = 0)) ls;rw [ja8,ybi,jla,ih,jlc];rcases (h t (by simp)).dst with h0 | h20
  ·rw [List.filter_cons_of_pos (by simp [h0]),jlc];omega
  ·rw [List.filter_cons_of_neg (by simp [h20])];omega
theorem yjQ {f:TxV -> Int}:∀ {ls:List TxV},ydy f ls = 0 -> ∀ t ∈ ls,f t = 0
 | [],_,t,h=>by cases h
 | x :: r,h,t,ht=>by
  rw [ydy] at h;split at h
  ·rename_i h1;exact absurd h h1
  ·rename_i h1
   rcases List.mem_cons.1 ht with rfl | ht
   ·exact jb5.1 h1
   ·exact yjQ h t ht
theorem ycV {ls:List TxV} {chain:Nat} (h:yaA ls chain = 0):0 < chain /\ chain <= 4611686018427387904 /\ ls.length <= 512 /\ ∀ t ∈ ls,oneT chain t = 0:=by
 unfold yaA at h;split at h
 ·cases h
 ·rename_i h1
  split at h
  ·cases h
  ·rename_i h2
   simp only [Bool.or_eq_true,decide_eq_true_eq,not_or] at h1;exact ⟨by omega,by omega,by omega,yjQ h⟩
theorem ynO {s:ByteArray} {a chain:Nat} {ls:List TxV} (hck:yaA ls chain = 0) (ok:∀ t ∈ ls,t.Ok) (hat:At s.data.toList a (yd0 ls)) (ha:a <= s.size):getR s a ls.length chain = .ok (ls,a + (yd0 ls).length):=by
 obtain ⟨hc0,hc1,hn,hone⟩:=ycV hck;have hT:∀ t ∈ ls,TxC t /\ t.Ok:=fun t ht=>⟨(yiJ (hone t ht)).1,ok t ht⟩;have hle:=hat.le (by rw [yan];exact ha);rw [yan] at hle;rw [yjU] at hat hle ⊢;simp only [jla] at hle;obtain ⟨n,hln⟩:∃ n,ls.length = n:=⟨_,rfl⟩;rw [hln] at hn ⊢;have h1:=hat.left;have r1:=hat.right;obtain ⟨b1,b2,b3⟩:=yhk (n:=n) h1 ha (by simp [hln]) (by omega);have h2:=r1.left;have r2:=r1.right;obtain ⟨c1,c2,c3⟩:=yhk (n:=n) h2 (by omega) (by simp [hln]) (by omega);have h3:=r2.left;have r3:=r2.right
 have hsl:(catB (ls.map sigT)).length = 64 * n:=by
  have:∀ M:List TxV,(catB (M.map sigT)).length = 64 * M.length:=fun M=>by
   induction M with
   | nil=>rfl
   | cons x M ih=>rw [ja8,ybi,jla,yeV,ih,jlc];omega
  rw [this,hln]
 obtain ⟨d1,d2,d3⟩:=yni h3 (by omega) hsl;have h4:=r3.left;have r4:=r3.right;have hdl:=yoX ls fun t ht=>(hT t ht).1;rw [hln] at hdl;rw [hsl] at h4 r4 r3;obtain ⟨e1,e2,e3⟩:=yni h4 (by omega) hdl;have h5:=r4.left;have r5:=r4.right;rw [hdl] at h5 r5;have hgo:=yg6 (s:=s) (sgs:=tkS s (a + (yaT (ls.map fun t=>decide (t.dst.size = 0))).length + (yaT (ls.map fun t=>decide (t.y = 1))).length) (64 * n) 0) hT d3 n 0 _ (tkS s (a + (yaT (ls.map fun t=>decide (t.dst.size = 0))).length + (yaT (ls.map fun t=>decide (t.y = 1))).length + 64 * n) (20 * (n - cntB (ls.map fun t=>decide (t.dst.size = 0)))) 0) (by rw [je1,hln]) (by omega) h5 e3;rw [List.drop_zero] at hgo
 have hfix:fixR s n (btL s a n 0) (btA s a n 0) (btE s a n 0) = .ok (ls.map yft,a + (yaT (ls.map fun t=>decide (t.dst.size = 0))).length + (yaT (ls.map fun t=>decide (t.y = 1))).length + 64 * n + 20 * (n - cntB (ls.map fun t=>decide (t.dst.size = 0))) + (catB (ls.map ycp)).length):=by
  rw [b1,b2,b3];unfold fixR;rw [c1,c2,c3,d1,d2,e1,e2,if_neg (by simp)];exact hgo
 have h6:=r5.left;have r6:=r5.right;obtain ⟨f1,f2,f3⟩:=yeA (n:=n) h6 (by omega) (by simp [hln]) (by omega) (fun x hx=>by obtain ⟨t,ht,rfl⟩:=List.mem_map.1 hx;exact (ok t ht).nonce);have h7:=r6.left;have r7:=r6.right;obtain ⟨g1,g2,g3⟩:=yeA (n:=n) h7 (by omega) (by simp [hln]) (by omega) (fun x hx=>by obtain ⟨t,ht,rfl⟩:=List.mem_map.1 hx;exact (ok t ht).gas);have hfl:=List.length_filter_le (fun t:TxV=>decide (t.kind = 0)) ls;obtain ⟨i1,i2,i3⟩:=yhk (n:=legN (ls.map yft)) r7 (by omega) (by rw [ygz];simp) (by rw [ygz];omega);have hfb:=yim (chain:=chain) (by omega) ls fun t ht=>(yiJ (hone t ht)).2;unfold getR;rw [hfix,endR];unfold ynB;rw [f1,f2,f3,g1,g2,g3,i1,i2,i3,hfb,hck,if_neg (by simp),if_neg (by simp)];simp only [jla,hsl,hdl,Nat.add_assoc]
theorem ykI {xs:List Itm} {d:Nat} (h:formL xs d = 0):∀ x ∈ xs,yaO x d = 0:=by
 induction xs with
 | nil=>intro x hx;cases hx
 | cons y ys ih =>
  rw [formL] at h;split at h
  ·rename_i h1;exact absurd h h1
  ·rename_i h1
   intro x hx;rcases List.mem_cons.1 hx with rfl | hx
   ·exact jb5.1 h1
   ·exact ih h x hx
theorem ygP {y:Itm} {d:Nat} (hf:yaO y d = 0) (hl:y.list = false):y = txt y.bytes:=by
 obtain ⟨l,b,xs⟩:=y;simp only [Itm.list] at hl;subst hl;rw [yev] at hf;split at hf
 ·cases hf
 ·rename_i h
  have hx:xs = []:=by
   by_cases hx:xs.length = 0
   ·exact jb7 hx
   ·exact absurd (.inr ⟨rfl,hx⟩) h
  subst hx;rfl
theorem ygZ {y:Itm} {d:Nat} (hf:yaO y d = 0) (hl:y.list = true):y = .mk true ⟨#[]⟩ y.items /\ ∀ z ∈ y.items,yaO z (d + 1) = 0:=by
 obtain ⟨l,b,xs⟩:=y;simp only [Itm.list] at hl;subst hl;rw [yev] at hf;split at hf
 ·cases hf
 ·rename_i h
  have hb:b = ⟨#[]⟩:=by
   by_cases hb:b.size = 0
   ·exact yeg hb
   ·exact absurd (.inl ⟨rfl,hb⟩) h
  subst hb;refine ⟨rfl,?_⟩;split at hf
  ·rename_i h2;cases h2
  ·split at hf
   ·cases hf
   ·split at hf
    ·cases hf
    ·exact ykI hf
theorem kE_0 {E e:Int} (h:kE E e = 0):E = 0 /\ e = 0:=by
 unfold kE at h;split at h
 ·rename_i h1;exact ⟨h1,h⟩
 ·rename_i h1;exact absurd h h1
theorem yoG {l:List UInt8} (h:ybF l = 0):beN (beV l) = l:=by
 unfold ybF at h;split at h
 ·cases h
 ·rename_i h1
  split at h
  ·cases h
  ·rename_i h2
   cases l with
   | nil=>exact by decide
   | cons x r=>exact ymS _ (by omega) (fun e=>h2 (by simpa using e))
theorem ydM {z:Itm} {d:Nat} (hf:yaO z d = 0) (hw:yc9 z.list z.bytes = 0):z = txt (nB (itW z)):=by
 unfold yc9 at hw;split at hw
 ·cases hw
 ·rename_i hl
  have hl:z.list = false:=by revert hl;cases z.list <;> simp
  have hz:=ygP hf hl;have e:itW z = beV z.bytes.data.toList:=by unfold itW;rw [if_pos ⟨hl,hw⟩]
  have hp:=yoG hw;rw [e];unfold nB;rw [hp]
  conv=>lhs;rw [hz]
theorem yji {z:Itm} {d:Nat} (hf:yaO z d = 0) (hw:dtE z = 0):z = txt (dtV z):=by
 unfold dtE at hw;split at hw
 ·cases hw
 ·rename_i hl
  have hl:z.list = false:=by revert hl;cases z.list <;> simp
  have e:dtV z = z.bytes:=by unfold dtV;rw [if_pos ⟨hl,hw⟩]
  rw [e];exact ygP hf hl
theorem yl9 {few many:Int} {y:Itm} {E:Int} (h:rwF few many y E = 0):E = 0 /\ y.list = true /\ few <= (y.items.length:Int) /\ (y.items.length:Int) <= many:=by
 obtain ⟨h1,h2,h3⟩:=ykl (show rwE _ _ _ _ _ = 0 from h);obtain ⟨h4,h5⟩:=ycK h3;exact ⟨h1,h2,h4,h5⟩
theorem yip {n:Nat}:∀ {zs:List Itm} {E:Int},exsF n E zs = 0 -> E = 0 /\ ∀ z ∈ zs,z.list = false /\ z.bytes.size = n
 | [],E,h=>⟨h,fun z hz=>by cases hz⟩
 | z :: zs,E,h=>by
  unfold exsF at h;rw [List.foldl_cons] at h;obtain ⟨h1,h2⟩:=yip (zs:=zs) (E:=exE z.list z.bytes.size n E) h;unfold exE at h1;obtain ⟨h3,h4⟩:=kE_0 h1
  have h5:z.list = false /\ z.bytes.size = n:=by
   revert h4
   cases z.list
   ·by_cases hz:z.bytes.size = n
    ·exact fun _=>⟨rfl,hz⟩
    ·simp [hz]
   ·simp
  refine ⟨h3,fun y hy=>?_⟩;rcases List.mem_cons.1 hy with rfl | hy
  ·exact h5
  ·exact h2 y hy
theorem yoH {y:Itm} {d:Nat} (hf:yaO y d = 0) (h1:rwF 2 2 y 0 = 0) (h2:prE y = 0):y = ycd (prV y):=by
 obtain ⟨_,hl,hn1,hn2⟩:=yl9 h1;obtain ⟨hy,hi⟩:=ygZ hf hl;obtain ⟨l,b,xs⟩:=y;simp only [Itm.list,Itm.items] at hl hn1 hn2 hy hi
 match xs,hn1,hn2 with
 | [p,q],_,_ =>
  cases hy;unfold prE at h2;obtain ⟨h3,h4⟩:=yip h2;obtain ⟨h5,h6,_⟩:=yl9 h3;have e1:prZ (.mk true ⟨#[]⟩ [p,q]) = q.items:=by unfold prZ;rw [h5];exact ynq (by rw [h5] at h3;exact h3)
  rw [e1] at h4
  have h7:p.list = false:=by
   have:=h5;unfold prE1 exE at this;have:=(kE_0 this).2
   revert this
   show (if (p.list || decide (p.bytes.size ≠ 20)) = true then (2:Int) else 0) = 0 -> _;cases p.list <;> simp
  have hp:=ygP (hi p (by simp)) h7;obtain ⟨hq,hqi⟩:=ygZ (hi q (by simp)) h6
  have hqs:q.items = (q.items.map Itm.bytes).map txt:=by
   rw [List.map_map]
   conv=>lhs;rw [<- List.map_id q.items]
   exact List.map_congr_left fun z hz=>ygP (hqi z hz) (h4 z hz).1
  unfold ycd prV;rw [e1];show Itm.mk true ⟨#[]⟩ [p,q] = Itm.mk true ⟨#[]⟩ [txt p.bytes,.mk true ⟨#[]⟩ ((q.items.map Itm.bytes).map txt)];rw [<- hqs,<- hp,<- hq]
 | [],h,_=>simp at h
 | [_],h,_=>simp at h
 | _ :: _ :: _ :: _,_,h=>simp at h;omega
theorem ygI:∀ {ys:List Itm} {E:Int} {ls:List AccV},yci ys E = (ls,0) -> E = 0 /\ ((∀ y ∈ ys,yaO y 2 = 0) -> ys = ls.map ycd)
 | [],E,ls,h=>by
  rw [yci] at h;cases h;exact ⟨rfl,fun _=>rfl⟩
 | y :: ys,E,ls,h=>by
  rw [yci] at h;split at h
  ·rename_i h1;exact absurd (congrArg Prod.snd h) h1
  ·rename_i h1
   have h1:=jb5.1 h1;obtain ⟨h2,_,_,_⟩:=yl9 h1;subst h2;obtain ⟨ms,hms⟩:∃ ms,(yci ys (prE y)).1 = ms:=⟨_,rfl⟩
   have h3:yci ys (prE y) = (ms,0):=by
    have:=congrArg Prod.snd h;exact Prod.ext hms this
   obtain ⟨h4,h5⟩:=ygI h3;have h6:prV y :: ms = ls:=by rw [<- hms];exact congrArg Prod.fst h
   refine ⟨rfl,fun hf=>?_⟩;rw [<- h6,ja8,<- h5 fun z hz=>hf z (by simp [hz]),<- yoH (hf y (by simp)) h1 h4]
theorem yoz {z:Itm} {E:Int} (hf:yaO z 1 = 0) (h:(accX z E).2 = 0):E = 0 /\ z = accI (accX z E).1:=by
 unfold accX at h ⊢;obtain ⟨ms,hms⟩:∃ ms,(yci (rwL 0 16 z E) (rwF 0 16 z E)).1 = ms:=⟨_,rfl⟩;have h2:yci (rwL 0 16 z E) (rwF 0 16 z E) = (ms,0):=Prod.ext hms h;obtain ⟨h3,h4⟩:=ygI h2;obtain ⟨h5,h6,_⟩:=yl9 h3;obtain ⟨h7,h8⟩:=ygZ hf h6;refine ⟨h5,?_⟩;rw [ynq h3] at h4;rw [hms];unfold accI;rw [<- h4 h8];exact h7
theorem ykq {s:ByteArray} {a T:Nat} {zs:List Itm} (h:ycg s a 0 = .ok (zs,T)) (y R S:Nat) (dst:ByteArray):a <= T /\ T <= s.size /\ ycj (gotT (kdV s a 0) zs y R S dst) = (s.data.toList.drop a).take (T - a):=by
 have hk3:=yjH s a 0;obtain ⟨kd,hkd⟩:∃ kd,kdV s a 0 = kd:=⟨_,rfl⟩;unfold ycg at h;rw [hkd] at h hk3 ⊢;split at h
 ·cases h
 ·rename_i hE
  have hE:=jb5.1 hE;split at h
  ·cases h
  ·rename_i x T2 hit
   split at h
   ·cases h
   ·rename_i hF
    have hF:=jb5.1 hF;split at h
    ·cases h
    ·rename_i hG
     have hG:=jb5.1 hG;cases h;obtain ⟨i1,i2,i3,i4⟩:=ynH hit;rw [yan] at i2;obtain ⟨_,f2,f3,f4⟩:=yl9 hF
     have hform:yaO x 0 = 0:=by
      unfold ybG at i3;split at i3
      ·rename_i h1;exact absurd i3 h1
      ·rename_i h1;exact jb5.1 h1
     obtain ⟨l1,l2⟩:=ygZ hform f2
     have hA:kdA s a = a + (if kd = 0 then 0 else 1) /\ (s.data.toList.drop a).take (if kd = 0 then 0 else 1) = (if kd = 0 then [] else if kd = 1 then [1] else [2]) /\ a < s.size:=by
      unfold kdE at hE;rw [if_neg (by simp)] at hE;split at hE
      ·cases hE
      ·rename_i g1
       have hlt:a < s.size:=by omega
       have hget:s.data.toList[a]? = some (s.data.toList.getD a 0):=yd4 0 (by rw [yan];exact hlt);have hkv:=hkd;unfold kdV at hkv;rw [if_neg (by simp),if_neg g1] at hkv;split at hE
       ·rename_i g2
        rw [if_pos g2] at hkv;subst hkv;exact ⟨by unfold kdA;rw [if_pos g2];rfl,by simp,hlt⟩
       ·rename_i g2
        rw [if_neg g2] at hkv;split at hE
        ·cases hE
        ·rename_i g3
         rw [if_neg g3] at hkv;have hk1:kd = 1 \/ kd = 2:=by omega
         have hne:¬ kd = 0:=by omega
         refine ⟨by unfold kdA;rw [if_neg g2,if_neg hne],?_,hlt⟩;rw [if_neg hne,if_neg hne]
         have:(s.data.toList.drop a).take 1 = [s.data.toList.getD a 0]:=by
          have hl:a < s.data.toList.length:=by rw [yan];exact hlt
          rw [jdc hl,List.take_succ_cons,List.take_zero,jg,je hl];rfl
         rw [this];have hb:(s.data.toList.getD a 0).toNat = kd:=hkv;rcases hk1 with rfl | rfl
         ·rw [if_pos rfl];congr 1;exact UInt8.toNat_inj.1 hb
         ·rw [if_neg (by omega)];congr 1;exact UInt8.toNat_inj.1 hb
     obtain ⟨a1,a2,a3⟩:=hA
     have hI:yb8 (gotT kd x.items y R S dst) = x:=by
      rw [l1];obtain ⟨zs,hzs⟩:∃ zs,x.items = zs:=⟨_,rfl⟩;rw [hzs] at f3 f4 l2 hG ⊢;unfold yb8;rcases hk3 with rfl | rfl | rfl
      ·match zs,f3,f4 with
       | [z0,z1,z2],_,_ =>
        have e:ydT 0 [z0,z1,z2] = 0:=hG;obtain ⟨e1,e2⟩:=kE_0 e;have e1:kE (kE 0 (yc9 z0.list z0.bytes)) (yc9 z1.list z1.bytes) = 0:=e1;obtain ⟨e3,e4⟩:=kE_0 e1;obtain ⟨_,e5⟩:=kE_0 e3;have w0:=ydM (l2 z0 (by simp)) e5;have w1:=ydM (l2 z1 (by simp)) e4;have w2:=yji (l2 z2 (by simp)) e2;show Itm.mk true ⟨#[]⟩ [txt (nB (itW z0)),txt (nB (itW z1)),txt (dtV z2)] = _;rw [<- w0,<- w1,<- w2]
       | [],h,_=>simp at h
       | [_],h,_=>simp at h
       | [_,_],h,_=>simp at h
       | _ :: _ :: _ :: _ :: _,_,h=>simp at h;omega
      ·match zs,f3,f4 with
       | [z0,z1,z2,z3],_,_ =>
        obtain ⟨e,w3⟩:=yoz (l2 z3 (by simp)) (show (accX z3 (ydT 1 [z0,z1,z2,z3])).2 = 0 from hG);obtain ⟨e1,e2⟩:=kE_0 e;have e1:kE (kE 0 (yc9 z0.list z0.bytes)) (yc9 z1.list z1.bytes) = 0:=e1;obtain ⟨e3,e4⟩:=kE_0 e1;obtain ⟨_,e5⟩:=kE_0 e3;have w0:=ydM (l2 z0 (by simp)) e5;have w1:=ydM (l2 z1 (by simp)) e4;have w2:=yji (l2 z2 (by simp)) e2;show Itm.mk true ⟨#[]⟩ [txt (nB (itW z0)),txt (nB (itW z1)),txt (dtV z2),accI (accX z3 (ydT 1 [z0,z1,z2,z3])).1] = _;rw [<- w0,<- w1,<- w2,<- w3]
       | [],h,_=>simp at h
       | [_],h,_=>simp at h
       | [_,_],h,_=>simp at h
       | [_,_,_],h,_=>simp at h
       | _ :: _ :: _ :: _ :: _ :: _,_,h=>simp at h;omega
      ·match zs,f3,f4 with
       | [z0,z1,z2,z3,z4],_,_ =>
        obtain ⟨e,w4⟩:=yoz (l2 z4 (by simp)) (show (accX z4 (ydT 2 [z0,z1,z2,z3,z4])).2 = 0 from hG);obtain ⟨e1,e2⟩:=kE_0 e;have e1:kE (kE (kE 0 (yc9 z0.list z0.bytes)) (yc9 z1.list z1.bytes)) (yc9 z2.list z2.bytes) = 0:=e1;obtain ⟨e3,e4⟩:=kE_0 e1;obtain ⟨e5,e6⟩:=kE_0 e3;obtain ⟨_,e7⟩:=kE_0 e5;have w0:=ydM (l2 z0 (by simp)) e7;have w1:=ydM (l2 z1 (by simp)) e6;have w2:=ydM (l2 z2 (by simp)) e4;have w3:=yji (l2 z3 (by simp)) e2;show Itm.mk true ⟨#[]⟩ [txt (nB (itW z0)),txt (nB (itW z1)),txt (nB (itW z2)),txt (dtV z3),accI (accX z4 (ydT 2 [z0,z1,z2,z3,z4])).1] = _;rw [<- w0,<- w1,<- w2,<- w3,<- w4]
       | [],h,_=>simp at h
       | [_],h,_=>simp at h
       | [_,_],h,_=>simp at h
       | [_,_,_],h,_=>simp at h
       | [_,_,_,_],h,_=>simp at h
       | _ :: _ :: _ :: _ :: _ :: _ :: _,_,h=>simp at h;omega
     have hk:(gotT kd x.items y R S dst).kind = (kd:Int):=rfl;refine ⟨by omega,i2,?_⟩;unfold ycj;rw [hI,hk];unfold encB;rw [if_pos i3,i4,a1];rcases hk3 with rfl | rfl | rfl
     ·simp
     ·have a2':(s.data.toList.drop a).take 1 = [1]:=a2;show [1] ++ List.take (T - (a + 1)) (List.drop (a + 1) s.data.toList) = _;have e1:kdA s a = a + 1:=a1;rw [<- a2',<- List.drop_drop,<- List.take_add];congr 1;omega
     ·have a2':(s.data.toList.drop a).take 1 = [2]:=a2;show [2] ++ List.take (T - (a + 1)) (List.drop (a + 1) s.data.toList) = _;have e1:kdA s a = a + 1:=a1;rw [<- a2',<- List.drop_drop,<- List.take_add];congr 1;omega
theorem ydP {s:ByteArray} {a k:Nat} {E:Int} (h:tkE s a k E = 0):E = 0 /\ a + k <= s.size /\ tkA s a k E = a + k /\ (tkS s a k E).data.toList = (s.data.toList.drop a).take k /\ (tkS s a k E).size = k:=by
 obtain ⟨h1,h2⟩:=ynj h;refine ⟨h1,h2,?_,?_,yj2 h⟩
 ·unfold tkA;rw [if_pos h]
 ·unfold tkS;rw [if_pos h,ybj]
theorem yd2 {s:ByteArray} {a n:Nat} {E:Int} (h:btE s a n E = 0):E = 0 /\ btA s a n E = a + (yaT (btL s a n E)).length /\ btA s a n E <= s.size /\ (s.data.toList.drop a).take (yaT (btL s a n E)).length = yaT (btL s a n E) /\ (btL s a n E).length = n:=by
 have h0:=h;unfold btE at h0;split at h0
 ·rename_i ht
  obtain ⟨t1,t2,t3,t4,t5⟩:=ydP ht;have e:btL s a n E = yaI (tkS s a ((n + 7) / 8) E).data.toList n:=by unfold btL;rw [if_pos h]
  have hp:=yiF _ _ h0;rw [<- e] at hp;have hl:=yfN s a n E;have hpl:=ybB (btL s a n E);rw [hl] at hpl;have ea:btA s a n E = a + (n + 7) / 8:=t3;refine ⟨t1,by rw [ea,hpl],by rw [ea];exact t2,?_,hl⟩;rw [hpl,<- t4,hp]
 ·rename_i ht;exact absurd h0 ht
theorem ydt {s:ByteArray} {a n:Nat} {E:Int} (ha:a <= s.size) (hn:n <= 4096) (h:nuE s a n E = 0):E = 0 /\ nuA s a n E = a + (rowL ((nuN s a n E).map fun (x:Nat)=>(x:Int))).length /\ nuA s a n E <= s.size /\ (s.data.toList.drop a).take (rowL ((nuN s a n E).map fun (x:Nat)=>(x:Int))).length = rowL ((nuN s a n E).map fun (x:Nat)=>(x:Int)) /\ (nuN s a n E).length = n:=by
 have h0:=yoL h;obtain ⟨f1,f2,f3⟩:=ycP s a n E ha hn;have hu:(yaQ s.data.toList a n).2.2 = 0:=by unfold nuE at h;rw [if_pos h0] at h;exact h
 have e1:nuA s a n E = (yaQ s.data.toList a n).2.1:=by unfold nuA;rw [if_pos h]
 have e2:nuL s a n E = (yaQ s.data.toList a n).1:=by unfold nuL;rw [if_pos h]
 obtain ⟨a',g1,g2,g3,g4,g5,_⟩:=yi5 s.data.toList a n (yaQ s.data.toList a n).1 (yaQ s.data.toList a n).2.1 (Prod.ext rfl (Prod.ext rfl hu));have ga:a' = a:=by omega
 subst ga;rw [<- e2,f3] at g5;rw [<- e1] at g3 g4 g5;rw [yan] at g4;have hlen:=congrArg List.length g5;rw [jc0,List.length_drop,yan] at hlen;refine ⟨h0,by omega,g4,?_,f1⟩;rw [<- hlen,Nat.min_eq_left (by omega)];exact g5
theorem yln {s:ByteArray} {a:Nat} (h:tkE s a 32 0 = 0):fixN (wdN s a 0) = (s.data.toList.drop a).take 32:=by
 obtain ⟨_,_,_,t4,t5⟩:=ydP h;rw [ym4 (ylo s a 0)];unfold wdN;rw [if_pos h];have:=ym3 (tkS s a 32 0).data.toList;rw [yan,t5] at this;rw [this,t4]
theorem yog (nl:List Bool) {i:Nat} (h:i < nl.length):cntB (nl.drop i) = (if nl.getD i false then 1 else 0) + cntB (nl.drop (i + 1)):=by
 have e:nl.drop i = nl.getD i false :: nl.drop (i + 1):=by
  rw [jdc h,jg,je h];rfl
 rw [e];unfold cntB;rw [List.count_cons];cases nl.getD i false <;> simp;omega
theorem yit (nl:List Bool) (i:Nat):cntB (nl.drop i) <= nl.length - i:=by
 have:=ymG (nl.drop i);simpa using this
theorem yg4 {s sgs:ByteArray} {nl yl:List Bool} {n:Nat} (hs:sgs.size = 64 * n) (hn:nl.length = n) (hy:yl.length = n):∀ (m i a b:Nat) (tos:ByteArray) (ts:List TxV),i + m = n -> a <= s.size -> tos.size = 20 * (m - cntB (nl.drop i)) -> ycA s sgs nl yl m i a tos = .ok (ts,b) ->
  a <= b /\ b <= s.size /\ catB (ts.map ycp) = (s.data.toList.drop a).take (b - a) /\ ts.length = m /\ ts.map (fun t=>decide (t.dst.size = 0)) = nl.drop i /\ ts.map (fun t=>decide (t.y = 1)) = yl.drop i /\ catB (ts.map sigT) = sgs.data.toList.drop (64 * i) /\ catB (ts.map TxV.dst) = tos.data.toList
 | 0,i,a,b,tos,ts,hi,ha,ht,h=>by
  rw [ycA] at h;cases h;refine ⟨jle _,ha,by simp [catB],rfl,(List.drop_eq_nil_of_le (by omega)).symm,(List.drop_eq_nil_of_le (by omega)).symm,?_,?_⟩
  ·rw [List.drop_eq_nil_of_le (by rw [yan];omega)];rfl
  ·have:tos.data.toList.length = 0:=by rw [yan];omega
   rw [jb7 this];rfl
 | m + 1,i,a,b,tos,ts,hi,ha,ht,h=>by
  have hlt:i < n:=by omega
  rw [ycA] at h;split at h
  ·cases h
  ·rename_i zs T hr
   split at h
   ·cases h
   ·rename_i us c hg
    cases h;have hcd:=yog nl (i:=i) (by omega);have hcl:=yit nl (i + 1);obtain ⟨nb,hnb⟩:∃ x,nl.getD i false = x:=⟨_,rfl⟩;obtain ⟨tos2,ht2⟩:∃ x,(if nl.getD i false = false /\ 20 <= tos.size then tos.extract 20 tos.size else tos) = x:=⟨_,rfl⟩;obtain ⟨dv,hdv⟩:∃ x,(if nl.getD i false = false /\ 20 <= tos.size then tos.extract 0 20 else ⟨#[]⟩) = x:=⟨_,rfl⟩;rw [ht2] at hg;rw [hdv];obtain ⟨r1,r2,r3⟩:=ykq hr (if yl.getD i false = true then 1 else 0) (wdN sgs (64 * i) 0) (wdN sgs (64 * i + 32) 0) dv;rw [hnb] at hcd ht2 hdv
    have hd:tos2.size = 20 * (m - cntB (nl.drop (i + 1))) /\ (dv.size = 0) = (nb = true) /\ dv.data.toList ++ tos2.data.toList = tos.data.toList:=by
     cases nb with
     | true =>
      rw [if_neg (by simp)] at ht2 hdv;subst ht2;subst hdv;refine ⟨by rw [if_pos rfl] at hcd;omega,propext ⟨fun _=>rfl,fun _=>rfl⟩,rfl⟩
     | false =>
      have h20:20 <= tos.size:=by rw [if_neg (by simp)] at hcd;omega
      rw [if_pos ⟨rfl,h20⟩] at ht2 hdv;have e1:=ybj tos 0 20;rw [je1,List.drop_zero] at e1;have e2:=ybj tos 20 (tos.size - 20);rw [show 20 + (tos.size - 20) = tos.size by omega,jtl (by rw [List.length_drop,yan];omega)] at e2;rw [hdv] at e1;rw [ht2] at e2;have hz1:=congrArg List.length e1;have hz2:=congrArg List.length e2;rw [yan,jc0,yan] at hz1;rw [yan,List.length_drop,yan] at hz2;refine ⟨by rw [if_neg (by simp)] at hcd;omega,propext ⟨fun h=>by omega,fun h=>by cases h⟩,?_⟩;rw [e1,e2,jd0]
    obtain ⟨d1,d2,d3⟩:=hd
    have hdd:decide (dv.size = 0) = nb:=by
     have hiff:dv.size = 0 ↔ nb = true:=Iff.of_eq d2;clear d1 d2 d3 ht2 hdv hcd hnb r3 hg;cases nb with
     | true=>exact decide_eq_true (hiff.2 rfl)
     | false=>exact decide_eq_false (fun h=>by have:=hiff.1 h;cases this)
    obtain ⟨g1,g2,g3,g4,g5,g6,g7,g8⟩:=yg4 hs hn hy m (i + 1) T b tos2 us (by omega) r2 d1 hg;obtain ⟨x1,x2,x3,x4⟩:=yoo hs hlt;have w1:=yln x1;have w2:=yln x3;refine ⟨by omega,g2,?_,by simp [g4],?_,?_,?_,?_⟩
    ·rw [ja8,ybi,g3]
     have:(ycp (gotT (kdV s a 0) zs (if yl.getD i false = true then 1 else 0) (wdN sgs (64 * i) 0) (wdN sgs (64 * i + 32) 0) dv)).data.toList = (s.data.toList.drop a).take (T - a):=by
      rw [<- r3];simp [ycp]
     rw [this];have e:s.data.toList.drop T = (s.data.toList.drop a).drop (T - a):=by rw [List.drop_drop];congr 1;omega
     rw [e,<- List.take_add];congr 1;omega
    ·have e:nl.drop i = nb :: nl.drop (i + 1):=by
      rw [jdc (by omega),<- hnb,jg,je (by omega)];rfl
     rw [e,ja8,g5];congr 1
    ·have e:yl.drop i = yl.getD i false :: yl.drop (i + 1):=by
      rw [jdc (by omega),jg,je (by omega)];rfl
     rw [e,ja8,g6];congr 1;show decide ((if yl.getD i false = true then 1 else 0) = 1) = yl.getD i false;cases yl.getD i false <;> rfl
    ·rw [ja8,ybi,g7];have:(sigT (gotT (kdV s a 0) zs (if yl.getD i false = true then 1 else 0) (wdN sgs (64 * i) 0) (wdN sgs (64 * i + 32) 0) dv)).data.toList = fixN (wdN sgs (64 * i) 0) ++ fixN (wdN sgs (64 * i + 32) 0):=by simp [sigT,gotT]
     rw [this,w1,w2,<- List.drop_drop,<- List.take_add,show 64 * (i + 1) = 64 * i + (32 + 32) by omega,<- List.drop_drop,jd0]
    ·rw [ja8,ybi,g8];exact d3
theorem yda {α:Type} (f:TxV -> α) (hf:∀ chain t no ga ch,f (ycq chain t no ga ch) = f t) (chain:Nat):∀ (ts:List TxV) (ns gs:List Nat) (cs:List Bool),(yaY chain ts ns gs cs).map f = ts.map f
 | [],_,_,_=>rfl
 | t :: ts,ns,gs,cs=>by
  unfold yaY;split
  ·rw [ja8,ja8,hf,yda f hf chain ts]
  ·rw [ja8,ja8,hf,yda f hf chain ts]
theorem yg8 (chain:Nat):∀ (ts:List TxV) (ns gs:List Nat) (cs:List Bool),ns.length = ts.length -> (yaY chain ts ns gs cs).map TxV.nonce = ns
 | [],[],_,_,_=>rfl
 | t :: ts,x :: ns,gs,cs,h=>by
  have h:ns.length = ts.length:=by simpa using h
  unfold yaY;split <;> rw [ja8,List.tail_cons,yg8 chain ts ns _ _ h] <;> rfl
theorem yjR (chain:Nat):∀ (ts:List TxV) (ns gs:List Nat) (cs:List Bool),gs.length = ts.length -> (yaY chain ts ns gs cs).map TxV.gas = gs
 | [],_,[],_,_=>rfl
 | t :: ts,ns,x :: gs,cs,h=>by
  have h:gs.length = ts.length:=by simpa using h
  unfold yaY;split <;> rw [ja8,List.tail_cons,yjR chain ts _ gs _ h] <;> rfl
theorem yeF {chain:Nat} (hc:chain ≠ 0):∀ (ts:List TxV) (ns gs:List Nat) (cs:List Bool),cs.length = legN ts -> ((yaY chain ts ns gs cs).filter fun t=>decide (t.kind = 0)).map (fun t=>decide (t.chain ≠ 0)) = cs
 | [],_,_,cs,h=>by
  have:cs = []:=jb7 (by rw [h];rfl);subst this;rfl
 | t :: ts,ns,gs,cs,h=>by
  unfold legN at h;rw [ja8,List.count_cons] at h;unfold yaY;by_cases hk:t.kind = 0
  ·rw [if_pos hk];rw [if_pos (by simp [hk])] at h
   match cs,h with
   | c :: cs,h =>
    have h:cs.length = legN ts:=by unfold legN;simpa using h
    rw [List.filter_cons_of_pos (by simp [ycq,hk]),ja8,List.tail_cons,yeF hc ts _ _ cs h];congr 1;unfold ycq;cases c <;> simp [hc]
  ·rw [if_neg hk];rw [if_neg (by simp [hk])] at h;rw [List.filter_cons_of_neg (by simp [ycq,hk])];exact yeF hc ts _ _ cs h
theorem yaL {l x y:List UInt8} {a b c:Nat} (hab:a <= b) (hbc:b <= c) (h1:(l.drop a).take (b - a) = x) (h2:(l.drop b).take (c - b) = y):(l.drop a).take (c - a) = x ++ y:=by
 have e:l.drop b = (l.drop a).drop (b - a):=by rw [List.drop_drop];congr 1;omega
 rw [e] at h2;rw [<- h1,<- h2,<- List.take_add];congr 1;omega
theorem yet {s:ByteArray} {a n chain T:Nat} {L:List TxV} (ha:a <= s.size) (hn:n <= 512) (h:getR s a n chain = .ok (L,T)):yaA L chain = 0 /\ L.length = n /\ a <= T /\ T <= s.size /\ (s.data.toList.drop a).take (T - a) = yd0 L:=by
 unfold getR at h;obtain ⟨nl,hnl⟩:∃ x,btL s a n 0 = x:=⟨_,rfl⟩;obtain ⟨A1,hA1⟩:∃ x,btA s a n 0 = x:=⟨_,rfl⟩;obtain ⟨E1,hE1⟩:∃ x,btE s a n 0 = x:=⟨_,rfl⟩;rw [hnl,hA1,hE1] at h;obtain ⟨F,hF⟩:∃ x,fixR s n nl A1 E1 = x:=⟨_,rfl⟩;rw [hF] at h;rcases F with e | ⟨ts,b⟩
 ·cases h
 ·rw [endR] at h;unfold fixR at hF;obtain ⟨yl,hyl⟩:∃ x,btL s A1 n E1 = x:=⟨_,rfl⟩;obtain ⟨A2,hA2⟩:∃ x,btA s A1 n E1 = x:=⟨_,rfl⟩;obtain ⟨E2,hE2⟩:∃ x,btE s A1 n E1 = x:=⟨_,rfl⟩;rw [hyl,hA2,hE2] at hF;obtain ⟨sgs,hsg⟩:∃ x,tkS s A2 (64 * n) E2 = x:=⟨_,rfl⟩;obtain ⟨A3,hA3⟩:∃ x,tkA s A2 (64 * n) E2 = x:=⟨_,rfl⟩;obtain ⟨E3,hE3⟩:∃ x,tkE s A2 (64 * n) E2 = x:=⟨_,rfl⟩;rw [hsg,hA3,hE3] at hF;obtain ⟨tos,hto⟩:∃ x,tkS s A3 (20 * (n - cntB nl)) E3 = x:=⟨_,rfl⟩;obtain ⟨A4,hA4⟩:∃ x,tkA s A3 (20 * (n - cntB nl)) E3 = x:=⟨_,rfl⟩;obtain ⟨E4,hE4⟩:∃ x,tkE s A3 (20 * (n - cntB nl)) E3 = x:=⟨_,rfl⟩;rw [hto,hA4,hE4] at hF;split at hF
  ·cases hF
  ·rename_i h4
   have h4:=jb5.1 h4;subst h4;obtain ⟨t31,t32,t33,t34,t35⟩:=ydP hE4;subst t31;obtain ⟨t21,t22,t23,t24,t25⟩:=ydP hE3;subst t21;obtain ⟨b21,b22,b23,b24,b25⟩:=yd2 hE2;subst b21;obtain ⟨b11,b12,b13,b14,b15⟩:=yd2 hE1;rw [hA4] at t33;rw [hto] at t34 t35;rw [hA3] at t23;rw [hsg] at t24 t25;rw [hA2] at b22 b23;rw [hyl] at b22 b24 b25;rw [hA1] at b12 b13;rw [hnl] at b12 b14 b15;obtain ⟨g1,g2,g3,g4,g5,g6,g7,g8⟩:=yg4 t25 b15 b25 n 0 A4 b tos ts (by omega) (by omega) (by rw [t35,List.drop_zero]) hF;rw [List.drop_zero] at g5 g6;rw [Nat.mul_zero,List.drop_zero] at g7;unfold ynB at h;obtain ⟨ns,hns⟩:∃ x,nuN s b n 0 = x:=⟨_,rfl⟩;obtain ⟨A5,hA5⟩:∃ x,nuA s b n 0 = x:=⟨_,rfl⟩;obtain ⟨E5,hE5⟩:∃ x,nuE s b n 0 = x:=⟨_,rfl⟩;rw [hns,hA5,hE5] at h;obtain ⟨gs,hgs⟩:∃ x,nuN s A5 n E5 = x:=⟨_,rfl⟩;obtain ⟨A6,hA6⟩:∃ x,nuA s A5 n E5 = x:=⟨_,rfl⟩;obtain ⟨E6,hE6⟩:∃ x,nuE s A5 n E5 = x:=⟨_,rfl⟩;rw [hgs,hA6,hE6] at h;obtain ⟨cs,hcs⟩:∃ x,btL s A6 (legN ts) E6 = x:=⟨_,rfl⟩;obtain ⟨A7,hA7⟩:∃ x,btA s A6 (legN ts) E6 = x:=⟨_,rfl⟩;obtain ⟨E7,hE7⟩:∃ x,btE s A6 (legN ts) E6 = x:=⟨_,rfl⟩;rw [hcs,hA7,hE7] at h;split at h
   ·cases h
   ·rename_i h7
    have h7:=jb5.1 h7;subst h7;split at h
    ·cases h
    ·rename_i hck
     have hck:=jb5.1 hck;cases h;obtain ⟨c1,c2,c3,c4,c5⟩:=yd2 hE7;subst c1;have hA5le:A5 <= s.size:=by rw [<- hA5];exact yjD g2
     obtain ⟨n1,n2,n3,n4,n5⟩:=ydt hA5le (by omega) hE6;subst n1;obtain ⟨m1,m2,m3,m4,m5⟩:=ydt g2 (by omega) hE5;rw [hA7] at c2 c3;rw [hcs] at c2 c4 c5;rw [hA6] at n2 n3;rw [hgs] at n2 n4 n5;rw [hA5] at m2 m3;rw [hns] at m2 m4 m5;have hc0:=(ycV hck).1;obtain ⟨us,hus⟩:∃ x,yaY chain ts ns gs cs = x:=⟨_,rfl⟩;have u1:=yda (fun t=>decide (t.dst.size = 0)) (fun _ _ _ _ _=>rfl) chain ts ns gs cs;have u2:=yda (fun t=>decide (t.y = 1)) (fun _ _ _ _ _=>rfl) chain ts ns gs cs;have u3:=yda sigT (fun _ _ _ _ _=>rfl) chain ts ns gs cs;have u4:=yda TxV.dst (fun _ _ _ _ _=>rfl) chain ts ns gs cs;have u5:=yda ycp (fun _ _ _ _ _=>rfl) chain ts ns gs cs;have u6:=yg8 chain ts ns gs cs (by omega);have u7:=yjR chain ts ns gs cs (by omega);have u8:=yeF (chain:=chain) (by omega) ts ns gs cs c5;have u9:=yg9 chain ts ns gs cs;rw [hus] at hck u1 u2 u3 u4 u5 u6 u7 u8 u9 ⊢;refine ⟨hck,by omega,by omega,c3,?_⟩;rw [yjU,u1,u2,u3,u4,u5,u6,u7,u8,g5,g6,g7,g8];refine yaL (b:=A1) (by omega) (by omega) (by rw [b12,jc3];exact b14) ?_;refine yaL (b:=A2) (by omega) (by omega) (by rw [b22,jc3];exact b24) ?_;refine yaL (b:=A3) (by omega) (by omega) (by rw [t23,jc3];exact t24.symm) ?_;refine yaL (b:=A4) (by omega) (by omega) (by rw [t33,jc3];exact t34.symm) ?_;refine yaL (b:=b) (by omega) (by omega) g3.symm ?_;refine yaL (b:=A5) (by omega) (by omega) (by rw [m2,jc3];exact m4) ?_;refine yaL (b:=A6) (by omega) (by omega) (by rw [n2,jc3];exact n4) ?_;rw [c2,jc3];exact c4
structure SpV.Ok (s:SpV):Prop where
 time:s.time < 18446744073709551616
 epoch:s.epoch < 18446744073709551616
 txs:∀ t ∈ s.all,t.Ok
def ybt (s:SpV) (chain:Nat):Int :=
 if (decide (s.parent.size ≠ 20) || decide (s.hash.size ≠ 20) || decide (s.blocks.length = 0)) = true then 2 else if 16 < s.blocks.length then 5 else yaA s.all chain
def ycf (s:SpV):List Int:=s.blocks.map fun b=>(b.txs.length:Int)
def spL (s:SpV):List UInt8:=[1] ++ (varL s.time ++ (varL s.epoch ++ (s.parent.data.toList ++ (s.hash.data.toList ++ (varL s.blocks.length ++ (yaT (s.blocks.map BkV.origin) ++ (rowL (ycf s) ++ yd0 s.all)))))))
def ydG (s:SpV) (chain:Nat):List UInt8:=if ybt s chain = 0 then spL s else []
def noE (s:ByteArray) (a:Nat) (E:Int):Int:=if E = 0 then (yaX s.data.toList a).2.2 else E
def noA (s:ByteArray) (a:Nat) (E:Int):Nat:=if noE s a E = 0 then (yaX s.data.toList a).2.1 else a
def noN (s:ByteArray) (a:Nat) (E:Int):Nat:=if E = 0 then (yaX s.data.toList a).1.toNat else 0
def hdA1 (s:ByteArray):Nat:=noA s 1 0
def hdE1 (s:ByteArray):Int:=noE s 1 0
def hdA2 (s:ByteArray):Nat:=noA s (hdA1 s) (hdE1 s)
def hdE2 (s:ByteArray):Int:=noE s (hdA1 s) (hdE1 s)
def hdA (s:ByteArray):Nat:=tkA s (hdA2 s) 40 (hdE2 s)
def hdE (s:ByteArray):Int:=tkE s (hdA2 s) 40 (hdE2 s)
def bkN (s:ByteArray):Nat:=noN s (hdA s) (hdE s)
def bkA1 (s:ByteArray):Nat:=noA s (hdA s) (hdE s)
def bkE1 (s:ByteArray):Int:=kE (kE (noE s (hdA s) (hdE s)) (if bkN s = 0 then 2 else 0)) (if 16 < bkN s then 5 else 0)
def bkL (s:ByteArray):List Bool:=if bkE1 s = 0 then btL s (bkA1 s) (bkN s) 0 else []
def bkA2 (s:ByteArray):Nat:=if bkE1 s = 0 then btA s (bkA1 s) (bkN s) 0 else bkA1 s
def bkE2 (s:ByteArray):Int:=if bkE1 s = 0 then btE s (bkA1 s) (bkN s) 0 else bkE1 s
def bkC (s:ByteArray):List Nat:=if bkE2 s = 0 then (if nuE s (bkA2 s) (bkN s) 0 = 0 then nuN s (bkA2 s) (bkN s) 0 else []) else []
def bkA3 (s:ByteArray):Nat:=if bkE2 s = 0 then nuA s (bkA2 s) (bkN s) 0 else bkA2 s
def bkE3 (s:ByteArray):Int:=if bkE2 s = 0 then nuE s (bkA2 s) (bkN s) 0 else bkE2 s
def sumS (cs:List Nat):Nat:=cs.foldl (fun n c=>n + min c 513) 0
def txE (s:ByteArray):Int:=kE (bkE3 s) (if 512 < sumS (bkC s) then 5 else 0)
def cutB:List Bool -> List Nat -> List TxV -> List BkV
 | o :: os,k :: ks,l=>⟨o,l.take k⟩ :: cutB os ks (l.drop k)
 | _,_,_=>[]
def ynn (s:ByteArray):Except Int (List TxV × Nat) -> Except Int SpV
 | .error e=>.error e
 | .ok (L,T)=>if T < s.size then .error 4 else .ok ⟨noN s 1 0,noN s (hdA1 s) (hdE1 s),s.extract (hdA2 s) (hdA2 s + 20),s.extract (hdA2 s + 20) (hdA2 s + 40),cutB (bkL s) (bkC s) L⟩
def ybR (s:ByteArray) (chain:Nat):Except Int SpV :=
 if (decide (chain = 0) || decide (4611686018427387904 < chain)) = true then .error 1
 else if s.size = 0 then .error 3
 else if s.data.toList.getD 0 0 ≠ 1 then .error 9
 else if txE s ≠ 0 then .error (txE s)
 else ynn s (getR s (bkA3 s) (sumS (bkC s)) chain)
theorem ynl (cs:List Nat):∀ n,cs.foldl (fun n c=>n + min c 513) n = n + sumS cs:=by
 unfold sumS
 induction cs with
 | nil=>intro n;rfl
 | cons c cs ih=>intro n;simp only [List.foldl_cons];rw [ih (n + min c 513),ih (0 + min c 513)];omega
theorem yfs (c:Nat) (cs:List Nat):sumS (c :: cs) = min c 513 + sumS cs:=by
 have:=ynl cs (0 + min c 513);unfold sumS at *;simp only [List.foldl_cons];rw [this];omega
theorem yl1 (cs:List Nat) (h:sumS cs <= 512):sumS cs = cs.foldr (· + ·) 0 /\ ∀ c ∈ cs,c <= 512:=by
 induction cs with
 | nil=>exact ⟨rfl,fun c hc=>by cases hc⟩
 | cons c cs ih =>
  rw [yfs] at h ⊢;obtain ⟨h1,h2⟩:=ih (by omega);rw [List.foldr_cons,h1];rw [h1] at h;refine ⟨by omega,fun d hd=>?_⟩;rcases List.mem_cons.1 hd with rfl | hd
  ·omega
  ·exact h2 d hd
theorem ynk (bs:List BkV) (h:(bs.flatMap BkV.txs).length <= 512):sumS (bs.map fun b=>b.txs.length) = (bs.flatMap BkV.txs).length:=by
 induction bs with
 | nil=>rfl
 | cons b bs ih =>
  rw [List.flatMap_cons,jla] at h ⊢;rw [ja8,yfs,ih (by omega)];omega
theorem ynZ (bs:List BkV):cutB (bs.map BkV.origin) (bs.map fun b=>b.txs.length) (bs.flatMap BkV.txs) = bs:=by
 induction bs with
 | nil=>rfl
 | cons b bs ih=>simp only [ja8,List.flatMap_cons,cutB,List.take_left,List.drop_left];rw [ih]
theorem yew:∀ (os:List Bool) (ks:List Nat) (l:List TxV),os.length = ks.length -> l.length = ks.foldr (· + ·) 0 ->
  (cutB os ks l).map BkV.origin = os /\ (cutB os ks l).map (fun b=>b.txs.length) = ks /\ (cutB os ks l).flatMap BkV.txs = l /\ (cutB os ks l).length = ks.length
 | [],[],l,_,h=>by
  have:l = []:=List.length_eq_zero_iff.1 h;subst this;exact ⟨rfl,rfl,rfl,rfl⟩
 | o :: os,k :: ks,l,h,hl=>by
  rw [List.foldr_cons] at hl;obtain ⟨h1,h2,h3,h4⟩:=yew os ks (l.drop k) (by simpa using h) (by rw [List.length_drop];omega);refine ⟨by simp only [cutB,ja8];rw [h1],?_,?_,by simp only [cutB,jlc];rw [h4]⟩
  ·simp only [cutB,ja8,jc0];rw [h2,Nat.min_eq_left (by omega)]
  ·simp only [cutB,List.flatMap_cons];rw [h3,jd0]
 | [],_ :: _,_,h,_=>by cases h
 | _ :: _,[],_,h,_=>by cases h
theorem yiN {s:ByteArray} {a n:Nat} (h:At s.data.toList a (varL n)) (ha:a <= s.size) (hn:n < 18446744073709551616):noE s a 0 = 0 /\ noA s a 0 = a + (varL n).length /\ noN s a 0 = n:=by
 obtain ⟨y,hy⟩:=h;have e:s.data.toList = s.data.toList.take a ++ varL n ++ y:=by rw [List.append_assoc,<- hy,jd0]
 have hl:(s.data.toList.take a).length = a:=by rw [jc0,yan];omega
 have:=yfi (s.data.toList.take a) y n hn;rw [<- e,hl] at this;have h1:noE s a 0 = 0:=by unfold noE;rw [if_pos rfl,this]
 refine ⟨h1,?_,?_⟩
 ·unfold noA;rw [if_pos h1,this]
 ·unfold noN;rw [if_pos rfl,this];simp only [BitVec.toNat_ofNat];omega
theorem yf2 {s:ByteArray} {a:Nat} {E:Int} (h:noE s a E = 0):E = 0 /\ noA s a E = a + (varL (noN s a E)).length /\ noA s a E <= s.size /\ (s.data.toList.drop a).take (varL (noN s a E)).length = varL (noN s a E) /\ noN s a E < 18446744073709551616:=by
 have h0:E = 0:=by unfold noE at h;split at h <;> assumption
 subst h0;have h':=h;unfold noE at h';rw [if_pos rfl] at h';obtain ⟨r,tz,e,hr⟩:∃ r tz e,yaX s.data.toList (a:Int) = (r,tz,e):=⟨_,_,_,rfl⟩;rw [hr] at h';simp only at h';subst h';obtain ⟨h1,h2,h3⟩:=ydN _ a r tz hr;have eA:noA s a 0 = tz:=by unfold noA;rw [if_pos h,hr]
 have eN:noN s a 0 = r.toNat:=by unfold noN;rw [if_pos rfl,hr]
 rw [yan] at h2;rw [eA,eN];refine ⟨rfl,h1,h2,?_,r.isLt⟩;rw [h1] at h3;simpa using h3
theorem yde (s:SpV) (B:Nat) (A:Option Addr) (n c chain:Nat) (w:World) (h:BksR B w s.blocks A n) (hB:B <= w.heap.size) (hn:n <= 9223372036854775807) (hN:s.all.length <= 10000) (ok:∀ t ∈ s.all,t.Ok) :
  Calls jq 14 #[.agg (spC s A n c),.int .u64 (chain:Int)] w fun e w'=>e = .returned (.int .i64 (ybt s chain)) /\ w.grownBy w' none:=by
 have hl:=h.1;have hg1:=yaa (jr w none) (.cells (spC s A n c) 25);have HA:=jh (yfR s B A n c _ (h.grown hg1 hB) (jlt hB hg1.size) hn hN);have hbk:=Blk.new w 25 (spC s A n c);have HG1:=jh hg1;obtain ⟨R,hR⟩:∃ R,ybt s chain = R:=⟨_,rfl⟩;have hR':(if (decide (s.parent.size ≠ 20) || decide (s.hash.size ≠ 20) || decide (s.blocks.length = 0)) = true then 2 else if 16 < s.blocks.length then 5 else yaA s.all chain) = R:=hR;rw [hl] at hR';rw [hR];obtain ⟨P,hP⟩:∃ x,s.parent = x:=⟨_,rfl⟩;obtain ⟨H,hH⟩:∃ x,s.hash = x:=⟨_,rfl⟩;obtain ⟨L,hL⟩:∃ x,s.all = x:=⟨_,rfl⟩;have hc:∀ i:Nat,(spC s A n c)[i]? = (#[.int .u64 (s.time:Int),.int .u64 (s.epoch:Int),.string P,.string H,.slice A n c]:Array Value)[i]?:=fun i=>by rw [<- hP,<- hH];rfl
 rw [hP,hH,hL] at hR';rw [hL] at HA ok hN;obtain ⟨cs,hcs⟩:∃ x,spC s A n c = x:=⟨_,rfl⟩;have hz:cs.size = 5:=by rw [<- hcs];rfl
 rw [hcs] at hg1 HA hbk hc HG1 ⊢;have HRR:=jh hR';clear h hB hcs hR hR' hP hH hL hl hg1;have HBK:=jh hbk;have HZ:=jh hz;have HC:=jh hc;have HN:=jh hN;have HOK:=jh ok;clear hbk hz hc hN ok;go_enter Tryz.func14,Tryz.ntmps14
 go_upto_region 1 with (fail)
 obtain ⟨g,hg⟩:∃ x,w.heap.size = x:=⟨_,rfl⟩;rw [hg] at HBK ⊢;clear hg;generalize w.alloc (.cells cs 25) = w1 at *;have c2:w1.cell? ⟨g,2,none⟩ = some (.string P):=(HBK.out.cell 2).trans (HC.out 2);have c3:w1.cell? ⟨g,3,none⟩ = some (.string H):=(HBK.out.cell 3).trans (HC.out 3);have c4:w1.cell? ⟨g,4,none⟩ = some (.slice A n c):=(HBK.out.cell 4).trans (HC.out 4);by_cases h1:P.size = 20
 rotate_left
 ·have hRR:R = 2:=by rw [<- HRR.out,if_pos (by simp [h1])]
  have e1:((P.size:Int) != 20) = true:=by simp;omega
  subst hRR;clear h1;go_wp2_with fail
  go_ret
  exact ⟨rfl,HG1.out⟩
 have e1:((P.size:Int) != 20) = false:=by simp;omega
 by_cases h2:H.size = 20
 rotate_left
 ·have hRR:R = 2:=by rw [<- HRR.out,if_pos (by simp [h2])]
  have e2:((H.size:Int) != 20) = true:=by simp;omega
  subst hRR;clear h1 h2;go_wp2_with fail
  go_ret
  exact ⟨rfl,HG1.out⟩
 have e2:((H.size:Int) != 20) = false:=by simp;omega
 by_cases h3:n = 0
 ·have hRR:R = 2:=by rw [<- HRR.out,if_pos (by simp [h3])]
  have e3:((n:Int) == 0) = true:=by simp;omega
  subst hRR;clear h1 h2 h3;go_wp2_with fail
  go_ret
  exact ⟨rfl,HG1.out⟩
 have e3:((n:Int) == 0) = false:=by simp;omega
 have hno:¬ ((decide (P.size ≠ 20) || decide (H.size ≠ 20) || decide (n = 0)) = true):=by simp [h1,h2,h3]
 by_cases h4:16 < n
 ·have hRR:R = 5:=by rw [<- HRR.out,if_neg hno,if_pos h4]
  have e4:decide ((16:Int) < (n:Int)) = true:=decide_eq_true (by omega);subst hRR;clear h1 h2 h3 h4 hno;go_wp2_with fail
  go_ret
  exact ⟨rfl,HG1.out⟩
 have e4:decide ((16:Int) < (n:Int)) = false:=decide_eq_false (by omega);have hRR:yaA L chain = R:=by rw [<- HRR.out,if_neg hno,if_neg h4]
 have HCK:=jh hRR;clear h1 h2 h3 h4 hno hRR;go_upto_region 5 with (fail)
 refine jwl ?_;refine yac rfl (.agg cs) (yai rfl rfl 25 _ _ HBK.out ja3 rfl ((show (jq.info? 25).map (·.size) = some 5 by kernel_rfl).trans (congrArg some HZ.out.symm))) ?_;simp only [jp,jb,jz,js];refine yah rfl 22 #[.agg cs] (yam _ (.tmp 27) _ rfl _ rfl (jeo Tryz.func22 (by kernel_rfl) rfl _ _)) (HA.out.mono ?_);rintro e w2 ⟨A',c',rfl,htx,hg2⟩;have HG:=jh (yab HG1.out hg2 (by simp));have HCC:=jh (yd1 _ A' L.length c' L chain w2 htx (jle _) (by have:=HN.out;omega) HOK.out);rw [HCK.out] at HCC;refine ⟨_,rfl,?_⟩;simp only [jp,jb,jz,js];clear htx hg2 HA c2 c3 c4 e1 e2 e3 e4;go_wp2_with fail
 refine HCC.out.mono ?_;rintro e w3 ⟨rfl,hg3⟩;have HG3:=jh (yab HG.out hg3 (by simp));clear hg3 HCC;go_wp2_with fail
 go_ret
 exact ⟨rfl,HG3.out⟩
end Go.Proofs.YtmaggfokhlodnaaGreatDoor
