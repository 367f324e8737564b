/- Merged: CpI, CpJ, SpO, SpQ, OpenS, OpenI, OpenT, OpenP, SpT. -/
import Derived.Test.YtmaggfokhlodnaaGreatDoorMx1
import Derived.Test.YtmaggfokhlodnaaGreatDoorMx2
import Derived.Test.YtmaggfokhlodnaaGreatDoorMx5
import Derived.Test.YtmaggfokhlodnaaGreatDoorMx9
import Derived.Test.YtmaggfokhlodnaaGreatDoorMx11
import Derived.Test.YtmaggfokhlodnaaGreatDoorMx12
import Derived.Test.YtmaggfokhlodnaaGreatDoorMx14
import Derived.Deep.DeepCutAuto
import Derived.Deep.Strs
namespace Go.Proofs.YtmaggfokhlodnaaGreatDoor
open Go.RowKit Go.Shelf
open List renaming set_cons_zero → jz, set_cons_succ → js, setIfInBounds_toArray → jb
set_option linter.unusedVariables false
set_option linter.unusedSimpArgs false
set_option maxRecDepth 100000
set_option maxHeartbeats 16000000
open Lib renaming hid → jh
open Act renaming put → jp
open World.grownBy renaming refl → jr
open _root_.List renaming getD_eq_getElem?_getD → jg, getElem?_eq_getElem → je, getElem?_cons_zero → jcz, getElem?_cons_succ → jcs, getElem?_toArray → jta, length_append → jla, take_succ_eq_append_getElem → jtk, take_of_length_le → jtl, drop_eq_getElem_cons → jdc, length_cons → jlc, getElem?_map → jgm, getElem_mem → jc1, getElem?_eq_none → jc5, getElem?_eq_some_iff → jc6, take_append_drop → jd0, cons → jd4, length_map → jd8
open _root_.Array renaming getElem?_eq_some_iff → jes
open World renaming size_alloc → jsa, ownsRow_nil → jon, block_lt_of_cell? → jd7
open _root_.Int renaming eq_ofNat_of_zero_le → jez
open _root_.Nat renaming le_trans → jlt, le_refl → jle
open _root_.Go.Proofs.Tryz renaming prog → jq, underlying25 → ja3, underlying49 → ja5, underlying22 → jb3, underlying9 → jb8, underlying3 → jb9
open Go renaming wp_region_list → jwl, wpList_nil → jwn, wpAnyH_done → jwd, wp_region_held → jwh, wpList_store_row → jsw
open _root_.Go.Proofs renaming enters_of → jeo
open Value renaming oneCell' → ja2, slice → ja6, string → jb2, int → je3
theorem ym8 (a:TxV) (B:Nat) (sa sb:Value) (w:World) (ha:TxIn B w a sa sb) (hB:B <= w.heap.size) :
  Calls jq 64 #[.agg (txC a sa sb)] w fun e w'=>(∃ b,e = .returned (.bool b)) /\ w.grownBy w' none:=by
 have hG:=yaa (jr w none) (.cells (txC a sa sb) 49);have hb1:=Blk.new w 49 (txC a sa sb);have hA:=ha.grown hG hB;have hS:=jlt hB hG.size;obtain ⟨⟨p,c,rfl,acc⟩,⟨p',c',rfl,aut⟩,la,lb⟩:=hA;obtain ⟨g,hg⟩:∃ g,w.heap.size = g:=⟨_,rfl⟩;obtain ⟨w1,hw1⟩:∃ x,w.alloc (.cells (txC a (.slice p a.acc.length c) (.slice p' a.auths.length c')) 49) = x:=⟨_,rfl⟩;rw [hg,hw1] at hb1;rw [hw1] at hG acc aut hS;have c17:w1.cell? ⟨g,17,none⟩ = some (.string a.data):=(hb1.cell 17).trans rfl;have c18:w1.cell? ⟨g,18,none⟩ = some (ja6 p a.acc.length c):=(hb1.cell 18).trans rfl;have c19:w1.cell? ⟨g,19,none⟩ = some (ja6 p' a.auths.length c'):=(hb1.cell 19).trans rfl;have c12:w1.cell? ⟨g,12,none⟩ = some (.string a.dst):=(hb1.cell 12).trans rfl;have c29:w1.cell? ⟨g,29,none⟩ = some (.string a.source):=(hb1.cell 29).trans rfl;have c30:w1.cell? ⟨g,30,none⟩ = some (.string a.frm):=(hb1.cell 30).trans rfl;generalize hca:txC a (.slice p a.acc.length c) (.slice p' a.auths.length c') = ca at *;have HACC:=jh acc;have HAUT:=jh aut;have HS:=jh hS;have HG:=jh hG;have LA:=jh la;have LB:=jh lb;have si:ca.size = 36:=by rw [<- hca];rfl
 clear hG ha hB hS acc aut la lb hca hb1;go_enter Tryz.func64,Tryz.ntmps64
 go_upto_region 1 with (fail)
 (try rw [hg]);(try rw [hw1]);clear hg hw1 si;go_cut [45] (fun v wx=>∃ b,v = .bool b /\ w1 = wx)
 case first =>
  go_wp2_with fail
  all_goals (try go_meet)
  all_goals exact ⟨_,rfl,rfl⟩
 case rest =>
  obtain ⟨b,rfl,rfl⟩:=hcut;cases b with
  | true =>
   go_wp2_with fail
   go_ret
   exact ⟨⟨_,rfl⟩,HG.out⟩
  | false =>
   obtain ⟨N,hN⟩:∃ N,a.acc.length = N:=⟨_,rfl⟩;obtain ⟨M,hM⟩:∃ N,a.auths.length = N:=⟨_,rfl⟩;rw [hN] at c18 HACC LA;rw [hM] at c19 HAUT LB;clear hN hM c17 c12 c29 c30;go_wp2_with fail
   go_loopw [3] (fun v wr=>∃ k:Nat,v = .int .i64 k /\ k <= N /\ w1 = wr) (fun v _=>N - (intOf v).toNat)
   case atStart=>exact ⟨0,rfl,Nat.zero_le _,rfl⟩
   case round =>
    obtain ⟨k,rfl,hk,rfl⟩:=hrel;by_cases hlt:k < N
    ·obtain ⟨g1,off,T,tc,x,rfl,hx,_,c0,c1,hT,hTn⟩:=HACC.out.at_ hlt;have q1:(k:Int) < (N:Int):=by omega
     obtain ⟨K,hK⟩:∃ K,x.keys.length = K:=⟨_,rfl⟩;rw [hK] at c1 hT hTn;have HT:=jh hT;have HTN:=jh hTn;have HKK:=jh hK;clear hx hT hTn hK;go_upto_region 6 with (fail)
     go_cut [70] (fun v wx=>∃ b,v = .bool b /\ w1 = wx)
     case first =>
      go_wp2_with fail
      all_goals (try go_meet)
      all_goals exact ⟨_,rfl,rfl⟩
     case rest =>
      obtain ⟨b,rfl,rfl⟩:=hcut;cases b with
      | true =>
       go_wp2_with fail
       go_ret
       exact ⟨⟨_,rfl⟩,HG.out⟩
      | false =>
       go_wp2_with fail
       go_loopw [4] (fun v wr=>∃ j:Nat,v = .int .i64 j /\ j <= K /\ w1 = wr) (fun v _=>K - (intOf v).toNat)
       case atStart=>exact ⟨0,rfl,Nat.zero_le _,rfl⟩
       case round =>
        obtain ⟨j,rfl,hj,rfl⟩:=hrel;by_cases hjl:j < K
        ·have q2:(j:Int) < (K:Int):=by omega
         obtain ⟨gk,ok,hT,hgk,hck⟩:=Reads.vals jb2 .empty HT.out hjl;have d0:=hck j hjl;obtain ⟨y,hy⟩:∃ y,x.keys.getD j .empty = y:=⟨_,rfl⟩;rw [hy] at d0;subst hT;clear hck hgk hy;by_cases hl:100 < y.size
         ·have q3:(100:Int) < (y.size:Int):=by omega
          clear hl;go_wp2_with fail
          go_ret
          exact ⟨⟨_,rfl⟩,HG.out⟩
         ·have q3:decide ((100:Int) < (y.size:Int)) = false:=decide_eq_false (by omega);have q4:(y.size:Int) <= 100:=by omega
          have hwj:IntKind.i64.wrap ((j:Int) + 1) = ((j + 1:Nat):Int):=ya5 (k:=j + 1) (by have:=HTN.out;omega);clear hl;go_wp2_with fail
          go_roundw
          case rel=>exact ⟨j + 1,by go_num,by omega,trivial⟩
          case measure=>simp [intOf];omega
        ·have q2:¬ ((j:Int) < (K:Int)):=by omega
         have hwk:IntKind.i64.wrap ((k:Int) + 1) = ((k + 1:Nat):Int):=ya5 (k:=k + 1) (by have:=LA.out;omega);clear hj hjl;go_wp2_with fail
         go_roundw
         case rel=>exact ⟨k + 1,by go_num,by omega,trivial⟩
         case measure=>simp [intOf];omega
    ·have q1:¬ ((k:Int) < (N:Int)):=by omega
     clear hk hlt;go_wp2_with fail
     go_loopw [5] (fun v wr=>∃ k:Nat,v = .int .i64 k /\ k <= M /\ w1 = wr) (fun v _=>M - (intOf v).toNat)
     case atStart=>exact ⟨0,rfl,Nat.zero_le _,rfl⟩
     case round =>
      obtain ⟨k2,rfl,hk2,rfl⟩:=hrel;by_cases hlt2:k2 < M
      ·obtain ⟨g1,off,x,rfl,hx,_,hcx⟩:=HAUT.out.at_ hlt2;have q2:(k2:Int) < (M:Int):=by omega
       have d0:w1.cell? ⟨g1,off + k2 * 12 + 1,none⟩ = some (.string x.addr):=hcx 1 _ rfl;obtain ⟨y,hy⟩:∃ y,x.addr = y:=⟨_,rfl⟩;rw [hy] at d0;clear hcx hx hy;by_cases hl:100 < y.size
       ·have q3:(100:Int) < (y.size:Int):=by omega
        clear hl;go_wp2_with fail
        go_ret
        exact ⟨⟨_,rfl⟩,HG.out⟩
       ·have q3:decide ((100:Int) < (y.size:Int)) = false:=decide_eq_false (by omega);have q4:(y.size:Int) <= 100:=by omega
        have hwk:IntKind.i64.wrap ((k2:Int) + 1) = ((k2 + 1:Nat):Int):=ya5 (k:=k2 + 1) (by have:=LB.out;omega);clear hl;go_wp2_with fail
        go_roundw
        case rel=>exact ⟨k2 + 1,by go_num,by omega,trivial⟩
        case measure=>simp [intOf];omega
      ·have q2:¬ ((k2:Int) < (M:Int)):=by omega
       clear hk2 hlt2;go_wp2_with fail
       go_ret
       exact ⟨.inr rfl,HG.out⟩
def FewEnd (n:Nat) (w:World) (e:Ending) (w':World):Prop:=(∃ b,e = .returned (.bool b) /\ (b = true -> n <= 12)) /\ w.grownBy w' none
theorem FewEnd.t {n:Nat} {w w':World} (h:n <= 12) (hg:w.grownBy w' none):FewEnd n w (.returned (.bool true)) w':=⟨⟨_,rfl,fun _=>h⟩,hg⟩
theorem FewEnd.f {n:Nat} {w w':World} (hg:w.grownBy w' none):FewEnd n w (.returned (.bool false)) w':=⟨⟨_,rfl,fun h=>by cases h⟩,hg⟩
theorem ykK (B:Nat) (A:Option Addr) (n c:Nat) (ls:List TxV) (w:World) (h:TxsR B w ls A n) (hB:B <= w.heap.size) (hn:n <= 9223372036854775807) :
  Calls jq 19 #[.slice A n c] w (FewEnd n w):=by
 have HH:=jh h;have HB:=jh hB;have HN:=jh hn;clear h hB hn;go_enter Tryz.func19,Tryz.ntmps19
 go_wp2_with fail
 go_loopw [3] (fun v wr=>∃ k:Nat,v = .int .i64 k /\ k <= n /\ w.grownBy wr none) (fun v _=>n - (intOf v).toNat)
 case atStart=>exact ⟨0,rfl,Nat.zero_le _,jr _ _⟩
 case round =>
  obtain ⟨k,rfl,hk,hg⟩:=hrel;have HG:=jh hg;by_cases hlt:k < n /\ k <= 12
  ·obtain ⟨h1,h2⟩:=hlt;obtain ⟨g,off,sa,sb,x,rfl,hx,_,hcx,hix⟩:=(HH.out.grown hg HB.out).at_ h1;have q1:(k:Int) < (n:Int):=by omega
   have q2:(k:Int) <= 12:=by omega
   have HC:=jh (ym8 x B sa sb wr hix (jlt HB.out hg.size));have hw:IntKind.i64.wrap ((k:Int) + 1) = ((k + 1:Nat):Int):=ya5 (k:=k + 1) (by omega);have HW:=jh hw;obtain ⟨cx,hcx2⟩:∃ z,txC x sa sb = z:=⟨_,rfl⟩;have ex:txL x sa sb = cx.toList:=by rw [<- hcx2];rfl
   rw [hcx2] at HC;rw [ex] at hcx;have zx:cx.toList.length = 36:=by rw [<- ex];rfl
   have HCX:=jh hcx;have HZX:=jh zx;clear hx hcx hix hw hcx2 ex zx hg;go_upto_region 4 with (fail)
   refine jwl ?_;refine zm 0 (.slice (some ⟨g,off,none⟩) n c) rfl ?_;refine zm 3 (.int .i64 (k:Int)) rfl ?_;simp only [jp,jb,jz,js];refine yac rfl (.pointer (some ⟨g,off + k * 36,none⟩)) (by go_simp <;> first | rfl | simp [Nat.mul_comm]) ?_;simp only [jp,jb,jz,js];refine yac rfl (.agg cx) (ycr rfl rfl cx.toList HCX.out _ ja5 rfl (by rw [HZX.out];kernel_rfl)) ?_;simp only [jp,jb,jz,js];refine yah rfl 64 #[.agg cx] (yam _ (.tmp 18) _ rfl _ rfl (jeo Tryz.func64 (by kernel_rfl) rfl _ _)) (HC.out.mono ?_);rintro e w3 ⟨⟨b,rfl⟩,hg3⟩;have HG3:=jh (yab HG.out hg3 (by simp));clear hg3 HC HCX HZX;refine ⟨_,rfl,?_⟩;simp only [jp,jb,jz,js];refine zg (.bool b) ?_;simp only [jp,jb,jz,js];refine jwn ?_;have hw:=HW.out;cases b with
   | true =>
    go_wp2_with fail
    go_roundw
    case rel=>exact ⟨k + 1,by go_num,by omega,HG3.out⟩
    case measure=>simp [intOf];omega
   | false =>
    go_wp2_with fail
    go_ret
    exact FewEnd.f HG3.out
  ·by_cases h1:k < n
   ·have q1:(k:Int) < (n:Int):=by omega
    have q2:decide ((k:Int) <= 12) = false:=decide_eq_false (by omega);have q4:¬ ((k:Int) <= 12):=by omega
    by_cases h3:n <= 12
    ·have q3:(n:Int) <= 12:=by omega
     have HN12:=jh h3;clear hlt h1 h3 hg;go_wp2_with fail
     go_ret
     exact FewEnd.t HN12.out HG.out
    ·have q3:decide ((n:Int) <= 12) = false:=decide_eq_false (by omega);clear hlt h1 h3 hg;go_wp2_with fail
     go_ret
     exact FewEnd.f HG.out
   ·have q1:decide ((k:Int) < (n:Int)) = false:=decide_eq_false (by omega);have q5:¬ ((k:Int) < (n:Int)):=by omega
    by_cases h3:n <= 12
    ·have q3:(n:Int) <= 12:=by omega
     have HN12:=jh h3;clear hlt h1 h3 hg;go_wp2_with fail
     go_ret
     exact FewEnd.t HN12.out HG.out
    ·have q3:decide ((n:Int) <= 12) = false:=decide_eq_false (by omega);clear hlt h1 h3 hg;go_wp2_with fail
     go_ret
     exact FewEnd.f HG.out
theorem ydQ {P:Program} {w:World} (base:Nat) (t ty e:TypeId) (i:TypeInfo) (size:Nat) (ht:P.underlying t = some (.slice e)) (hi:P.info? e = some i)
  (v:Value) (n c:Nat) (xs:List Value) (hown:w.ownsRow base e size v n xs) :
  (Builtin.append_ #[t,t] ty #[v,.slice none 0 c]).run P w = .ok v w:=by
 rcases hown.2 with ⟨rfl,rfl⟩ | ⟨g,cap,cur,rfl,_,_,hnc,_⟩
 ·simp [Builtin.append_,run_underlying ht,sizeOf,typeInfo,hi,Builtin.lenOf,Builtin.firstCells]
 ·simp [Builtin.append_,run_underlying ht,sizeOf,typeInfo,hi,Builtin.lenOf,Builtin.firstCells,hnc,storeCells]
theorem ypI {base:Nat} {W:World} {v:Value} {q:Nat} {xs:List Value} (hown:W.ownsRow base 49 36 v q xs) (T:Option Addr) (m tc:Nat) (news:List Value) (hl:news.length = m * 36)
  (hne:0 < m -> ∃ g off,T = some ⟨g,off,none⟩ /\ ∀ j u,news[j]? = some u -> W.cell? ⟨g,off + j,none⟩ = some u) (h1:∀ u ∈ news,u.oneCell' = true) (hb:q + m <= 10000) (hbase:base <= W.heap.size) :
  ∃ v' W',(Builtin.append_ #[39,39] 39 #[v,.slice T m tc]).run jq W = .ok v' W' /\ W'.ownsRow base 49 36 v' (q + m) (xs ++ news) /\ W.grownBy W' v.ownBlock:=by
 obtain ⟨i0,hi,hz0,hzs,hzb⟩:=yi8;rcases Nat.eq_zero_or_pos m with rfl | hm
 ·have e:news = []:=List.length_eq_zero_iff.1 (by omega);subst e;cases T with
  | none=>exact ⟨v,W,ydQ base _ _ _ i0 36 Tryz.underlying39 hi v q tc xs hown,by simpa using hown,⟨rfl,rfl,rfl,jle _,fun _ _ _=>rfl⟩⟩
  | some ad =>
   obtain ⟨v',W',a,b,c,_⟩:=run_append_own (P:=jq) W base 39 39 49 i0 _ 36 i0.bytes Tryz.underlying39 hi hz0 hzs rfl (by rfl) (by omega) v q xs hown ad 0 tc [] (by simp) (by intro j u h;simp at h) (by simp) (by simp only [maxLen];omega) (jlt (Nat.mul_le_mul hb hzb) (by decide)) hbase;exact ⟨v',W',a,b,c⟩
 ·obtain ⟨g,off,rfl,hc⟩:=hne hm;obtain ⟨v',W',a,b,c,_⟩:=run_append_own (P:=jq) W base 39 39 49 i0 _ 36 i0.bytes Tryz.underlying39 hi hz0 hzs rfl (by rfl) (by omega) v q xs hown ⟨g,off,none⟩ m tc news hl (fun j u h=>by have:=hc j u h;rcases j with _ | j <;> simpa [Addr.add] using this) h1 (by simp only [maxLen];omega) (jlt (Nat.mul_le_mul hb hzb) (by decide)) hbase;exact ⟨v',W',a,b,c⟩
theorem ydA (r:List (List Value)) (h:∀ x ∈ r,x.length = 36):r.flatten.length = r.length * 36:=by
 induction r with
 | nil=>rfl
 | cons x xs ih=>rw [List.flatten_cons,jla,h x (List.mem_cons_self ..),ih (fun y hy=>h y (List.mem_cons_of_mem _ hy)),jlc];omega
theorem ymW (s:SpV) (B:Nat) (A:Option Addr) (n c:Nat) (w:World) (h:BksR B w s.blocks A n) (hB:B <= w.heap.size) (hn:n <= 9223372036854775807) (hN:s.all.length <= 10000) :
  Calls jq 20 #[.agg (spC s A n c)] w fun e w'=>(∃ A' c',e = .returned (.slice A' s.all.length c')) /\ w.grownBy w' none:=by
 have hg1:=yaa (jr w none) (.cells (spC s A n c) 25);have h1:=h.grown hg1 hB;have hbk:=Blk.new w 25 (spC s A n c);obtain ⟨cs,hcs⟩:∃ x,spC s A n c = x:=⟨_,rfl⟩;have c4:cs[4]? = some (.slice A n c):=by rw [<- hcs];rfl
 rw [hcs] at hg1 h1 hbk ⊢;obtain ⟨rs,hM,hR⟩:=yeC h1 hB;have hl:rs.flatten.length = s.all.length:=hR.1;have HM:=jh hM;have HR:=jh hR.mem;have HL:=jh hl;have HG1:=jh hg1;have HN:=jh hN;have HLN:=jh hM.len;have hbc:=(hbk.cell 4).trans c4;have HBC:=jh hbc;clear h hB hN h1 hcs hM hR hl hg1 c4 hbk hbc;go_enter Tryz.func20,Tryz.ntmps20
 go_upto_region 1 with (fail)
 generalize hw1:w.alloc (.cells cs 25) = w1 at *;have hs1:w1.heap.size = w.heap.size + 1:=by rw [<- hw1,jsa]
 have HS1:=jh hs1;clear hw1 hs1;go_wp2_with fail
 go_loopw [3,4] (fun v i wr=>∃ k:Nat,i = .int .i64 (k:Int) /\ k <= n /\ wr.ownsRow w1.heap.size 49 36 v (offS rs k) (rs.take k).flatten.flatten /\ w1.grownBy wr none) (fun _ i _=>n - (intOf i).toNat)
 case atStart=>exact ⟨0,rfl,by omega,jon _ _ _ _,jr _ _⟩
 case round =>
  obtain ⟨k,rfl,hk,hown,hg⟩:=hrel;obtain ⟨A',cc,rfl⟩:=yb4 hown;have HGG:=jh hg;have hbc:=hg.cell HBC.out (by simp);by_cases hlt:k < n
  ·have q1:(k:Int) < (n:Int):=by omega
   have hkr:k < rs.length:=by rw [HLN.out];exact hlt
   obtain ⟨g,off,T,tc,o,rfl,hgD,_,hc1,hrow⟩:=HM.out.at_ k hlt;have c1:=hg.cell hc1 (by simp);have hmemf:∀ x ∈ rs.getD k [],x ∈ rs.flatten:=fun x hx=>List.mem_flatten.2 ⟨_,(by rw [jg,je hkr];exact jc1 hkr),hx⟩;have h36:∀ x ∈ rs.getD k [],x.length = 36:=fun x hx=>(HR.out x (hmemf x hx)).1;have hsucc:=yf1 rs k hkr
   have htk:(rs.take (k + 1)).flatten.flatten = (rs.take k).flatten.flatten ++ (rs.getD k []).flatten:=by
    rw [jtk hkr,List.flatten_append,List.flatten_append,jg,je hkr]
    simp
   have hle:offS rs k + (rs.getD k []).length <= 10000:=by
    rw [<- hsucc];unfold offS;have e:=congrArg List.length (congrArg List.flatten (jd0 (k + 1) rs));rw [List.flatten_append,jla] at e;have:=HN.out;have:=HL.out;omega
   obtain ⟨v',w5,hrun,hown',hgrow⟩:=ypI hown T (rs.getD k []).length tc (rs.getD k []).flatten (ydA _ h36) (fun hm=>by
     obtain ⟨g',off',rfl,_,_,_,_⟩:=hrow 0 hm;refine ⟨g',off',rfl,fun j u hu=>?_⟩
     have hj:j < (rs.getD k []).length * 36:=by
      rw [<- ydA _ h36];exact (jc6.1 hu).1
     obtain ⟨g2,off2,e,hg2,hra,_,_⟩:=hrow (j / 36) (by omega);cases e;have hf:=yjP (rs.getD k []) (j / 36) (j % 36) h36 (by omega) (by omega);rw [show j / 36 * 36 + j % 36 = j by omega,hu] at hf;have:=hra (j % 36) u hf.symm;rw [show off' + j / 36 * 36 + j % 36 = off' + j by omega] at this;exact hg.cell this (by simp)) (fun u hu=>by
     obtain ⟨r,hr,hu2⟩:=List.mem_flatten.1 hu;exact (Array.all_eq_true_iff_forall_mem.1 (HR.out r (hmemf r hr)).2.1) u (by simpa using hu2)) hle hg.size
   rw [<- hsucc,<- htk] at hown';have HG5:=jh (yab HGG.out hgrow (fun j hj=>.inr (yeJ hown hj)));obtain ⟨m,hm⟩:∃ m,(rs.getD k []).length = m:=⟨_,rfl⟩;rw [hm] at c1 hrun;have HO5:=jh hown';clear hc1 hrow hmemf h36 hsucc htk hle hown hgrow hg hown' hm;go_wp2_with (at_builtin;refine yac rfl v' (yaw (.tmp 12) (.tmp 18) 39 rfl _ _ _ rfl rfl hrun) ?_)
   go_roundw
   case rel=>exact ⟨k + 1,by go_num,by omega,HO5.out,HG5.out⟩
   case measure=>simp [intOf];omega
  ·have q1:¬ (k:Int) < (n:Int):=by omega
   have e:offS rs k = s.all.length:=by rw [show k = rs.length by rw [HLN.out];omega,yeX,HL.out]
   rw [e];have HX:=jh (yab HG1.out HGG.out (by simp));clear e hown hg;go_wp2_with fail
   go_ret
   exact ⟨⟨A',cc,rfl⟩,HX.out⟩
def FewSp (s:SpV) (n:Nat) (w:World) (e:Ending) (w':World):Prop:=(∃ b,e = .returned (.bool b) /\ (b = true -> n <= 20 /\ s.parent.size <= 100 /\ s.hash.size <= 100 /\ s.all.length <= 20)) /\ w.grownBy w' none
theorem FewSp.f {s:SpV} {n:Nat} {w w':World} (hg:w.grownBy w' none):FewSp s n w (.returned (.bool false)) w':=⟨⟨_,rfl,fun h=>by cases h⟩,hg⟩
theorem ypK (bs:List BkV) (K:Nat) (h:∀ i,i < bs.length -> (bs.getD i BkV.none_).txs.length <= K):(bs.flatMap BkV.txs).length <= bs.length * K:=by
 induction bs with
 | nil=>simp
 | cons b bs ih =>
  have h0:=h 0 (by simp);have hi:=ih fun i hi=>by have:=h (i + 1) (by simpa using hi);simpa using this
  simp only [List.flatMap_cons,jla,jlc] at *;have e:(b :: bs).getD 0 BkV.none_ = b:=rfl;rw [e] at h0;rw [Nat.succ_mul];omega
theorem yin (s:SpV) (B:Nat) (A:Option Addr) (n c:Nat) (w:World) (h:BksR B w s.blocks A n) (hB:B <= w.heap.size) (hn:n <= 9223372036854775807) (hN:∀ b ∈ s.blocks,b.txs.length <= 9223372036854775807) :
  Calls jq 8 #[.agg (spC s A n c)] w (FewSp s n w):=by
 have hg1:=yaa (jr w none) (.cells (spC s A n c) 25);have h1:=h.grown hg1 hB;have hbk:=Blk.new w 25 (spC s A n c);have hl:=h.1;have HA:=jh (fun (V:World) (hV:w.grownBy V none) (hle:s.all.length <= 10000)=>ymW s B A n c V (h.grown hV hB) (jlt hB hV.size) hn hle);have HH:=jh h1;have HB:=jh (jlt hB hg1.size);have HG1:=jh hg1;have HNB:=jh hN;have HL:=jh hl;simp only [spC] at hbk HA HG1 HH HB hg1 ⊢;have c0:=hbk.cell 0;have c1:=hbk.cell 1;have c2:=hbk.cell 2;have c3:=hbk.cell 3;have c4:=hbk.cell 4;simp only [jta,jcz,jcs] at c0 c1 c2 c3 c4;have H0:=jh c0;have H1:=jh c1;have H2:=jh c2;have H3:=jh c3;have H4:=jh c4;clear h hB hN h1 hg1 hbk hl c0 c1 c2 c3 c4;go_enter Tryz.func8,Tryz.ntmps8
 go_upto_region 1 with (fail)
 generalize w.alloc (.cells #[.int .u64 (s.time:Int),.int .u64 (s.epoch:Int),.string s.parent,.string s.hash,.slice A n c] 25) = w1 at *;go_wp2_with fail
 go_loopw [3] (fun i wr=>∃ k:Nat,i = .int .i64 (k:Int) /\ k <= n /\ w1.grownBy wr none /\ Hid (∀ i:Nat,i < k -> (s.blocks.getD i BkV.none_).txs.length <= 12)) (fun i _=>n - (intOf i).toNat)
 case atStart=>exact ⟨0,rfl,by omega,jr _ _,jh (by intro i h1;omega)⟩
 case round =>
  obtain ⟨k,rfl,hk,hg,h2⟩:=hrel;have h2':=jh h2.out;have HGG:=jh hg;have c0:=hg.cell H0.out (by simp);have c1:=hg.cell H1.out (by simp);have c2:=hg.cell H2.out (by simp);have c3:=hg.cell H3.out (by simp);have c4:=hg.cell H4.out (by simp);by_cases hlt:k < n /\ k <= 20
  ·obtain ⟨hlt,h20⟩:=hlt;obtain ⟨g,off,x,T,tc,rfl,hx,mx,_,d1,hT⟩:=(HH.out.grown hg HB.out).at_ hlt;have q1:(k:Int) < (n:Int):=by omega
   have q2:(k:Int) <= 20:=by omega
   have HX:=jh hx;have HC:=jh (ykK B T x.txs.length tc x.txs wr hT (jlt HB.out hg.size) (HNB.out x mx));clear h2 hx mx hT hg;go_wp2_with fail
   refine HC.out.mono ?_;rintro e w2 ⟨⟨b,rfl,hb⟩,hg2⟩;have HG2:=jh (yab HGG.out hg2 (by simp));have HBB:=jh hb;clear hb hg2 HC c0 c1 c2 c3 c4 d1;cases b with
   | true =>
    go_wp2_with fail
    go_roundw
    case rel =>
     refine ⟨k + 1,by go_num,by omega,HG2.out,jh fun i hi=>?_⟩;by_cases hik:i = k
     ·rw [hik,HX.out];exact HBB.out trivial
     ·exact h2'.out i (by omega)
    case measure=>simp [intOf];omega
   | false =>
    go_wp2_with fail
    go_ret
    exact FewSp.f (yab HG1.out HG2.out (by simp))
  ·by_cases h1:k < n
   ·have q1:(k:Int) < (n:Int):=by omega
    have q2:decide ((k:Int) <= 20) = false:=decide_eq_false (by omega);have q4:¬ ((k:Int) <= 20):=by omega
    have q3:decide ((n:Int) <= 20) = false:=decide_eq_false (by omega);clear hlt h1 h2 hg;go_wp2_with fail
    go_ret
    exact FewSp.f (yab HG1.out HGG.out (by simp))
   ·have q1:decide ((k:Int) < (n:Int)) = false:=decide_eq_false (by omega);have q5:¬ ((k:Int) < (n:Int)):=by omega
    have hkn:k = n:=by omega
    subst hkn;have hgw:=yab HG1.out HGG.out (by simp);have HGW:=jh hgw;by_cases h3:k <= 20
    ·have q3:(k:Int) <= 20:=by omega
     by_cases h4:s.parent.size <= 100
     ·have q6:(s.parent.size:Int) <= 100:=by omega
      by_cases h5:s.hash.size <= 100
      ·have q7:(s.hash.size:Int) <= 100:=by omega
       have hall:s.all.length <= 10000:=by
        have:=ypK s.blocks 12 (fun i hi=>h2.out i (by have:=HL.out;omega));have e:s.all = s.blocks.flatMap BkV.txs:=rfl;rw [e];have:=HL.out;omega
       have HC:=jh (HA.out wr hgw hall);have HP:=jh (show k <= 20 /\ s.parent.size <= 100 /\ s.hash.size <= 100 from ⟨h3,h4,h5⟩);clear hlt h1 h2 hg hgw h3 h4 h5 hall;go_wp2_with fail
       refine HC.out.mono ?_;rintro e w2 ⟨⟨A',c',rfl⟩,hg2⟩;have HG2:=jh (yab HGW.out hg2 (by simp));clear hg2 HC c0 c1 c2 c3 c4;by_cases h6:s.all.length <= 20
       ·have q8:(s.all.length:Int) <= 20:=by omega
        have HQ:=jh h6;clear h6;go_wp2_with fail
        go_ret
        exact ⟨⟨true,rfl,fun _=>⟨HP.out.1,HP.out.2.1,HP.out.2.2,HQ.out⟩⟩,HG2.out⟩
       ·have q8:decide ((s.all.length:Int) <= 20) = false:=decide_eq_false (by omega);clear h6;go_wp2_with fail
        go_ret
        exact FewSp.f HG2.out
      ·have q7:decide ((s.hash.size:Int) <= 100) = false:=decide_eq_false (by omega);clear hlt h1 h2 hg hgw h3 h4 h5;go_wp2_with fail
       go_ret
       exact FewSp.f HGW.out
     ·have q6:decide ((s.parent.size:Int) <= 100) = false:=decide_eq_false (by omega);clear hlt h1 h2 hg hgw h3 h4;go_wp2_with fail
      go_ret
      exact FewSp.f HGW.out
    ·have q3:decide ((k:Int) <= 20) = false:=decide_eq_false (by omega);clear hlt h1 h2 hg hgw h3;go_wp2_with fail
     go_ret
     exact FewSp.f HGW.out
theorem yl4 {S:SpV} {ch:Nat} (h:ybt S ch = 0) (ok:S.Ok):(spL S).length <= 10000000000:=by
 obtain ⟨hp,hh,hn0,hn16,hcol⟩:=ycU h;have l1:=ycn 10 S.time;have l2:=ycn 10 S.epoch;have l3:=ycn 10 S.blocks.length;have l4:=ybB (S.blocks.map BkV.origin);have l5:=yei (ycf S);have l6:(ycf S).length = S.blocks.length:=by unfold ycf;rw [jd8]
 have l7:=ycv (fun x:ByteArray=>x) 1000000000 (yfI S.all) (fun a ha=>(yhh hcol ok.txs).sizes a ha)
 have l8:(yd0 S.all).length <= 8000000000:=by
  unfold yd0;rw [List.map_id'] at l7;exact jlt l7 (by show 8 * 1000000000 <= _;omega)
 rw [jd8] at l4;rw [l6] at l5;unfold spL varL;simp only [jla,yan,hp,hh,jlc,List.length_nil];omega
theorem yp0 (S:SpV) (A:Option Addr) (n c ch:Nat) (w:World) (h:BksR w.heap.size w S.blocks A n) (hn:n <= 9223372036854775807) (hb:∀ b ∈ S.blocks,b.txs.length <= 9223372036854775807) (ok:S.Ok) (hch:ch < 18446744073709551616) :
  Calls jq 4 #[.agg (spC S A n c),.int .u64 (ch:Int)] w fun e w'=>e = .returned (.bool true) /\ w.grownBy w' none:=by
 have hb0:SpBx (w.alloc (.cells (spC S A n c) 25)) w.heap.size S:=by
  have hg:=yaa (jr w none) (.cells (spC S A n c) 25);exact ⟨A,n,c,Blk.new w _ _,(h.grown hg (jle _)).more hg.size,hn⟩
 have HG:=jh (yaa (jr w none) (.cells (spC S A n c) 25));have HN:=jh hn;have HBL:=jh hb;have HOK:=jh ok;have HCH:=jh hch;clear h hn hb ok hch;go_enter Tryz.func4,Tryz.ntmps4
 go_upto_region 1 with (fail)
 generalize w.alloc (.cells (spC S A n c) 25) = w1 at *;obtain ⟨b1,hb1⟩:∃ x,w.heap.size = x:=⟨_,rfl⟩;rw [hb1] at hb0 ⊢;have H1:=jh hb0;clear hb0 hb1;refine jwl ?_;have hc:=ydL w1;refine yah rfl 7 #[] (ydC _ rfl (jeo Tryz.func7 (by kernel_rfl) rfl _ _)) (hc.mono ?_);clear hc;rintro e w2 ⟨rfl,hg⟩;have HG:=jh (yab HG.out hg (by simp));have H1:=jh (H1.out.kept hg);clear hg;refine ⟨_,rfl,?_⟩;simp only [jp,jb,jz,js];refine zg (.bool true) ?_;simp only [jp,jb,jz,js];refine jwn ?_;go_upto_region 4 with (fail)
 refine jwl ?_;obtain ⟨AA,nA,cA,hxA,hrA,hnA⟩:=H1.out;refine wpList_load_row rfl 25 (.tmp 2) rfl b1 rfl 25 (spC S AA nA cA) (0,0) _ hxA ja3 rfl (by kernel_rfl) ?_;simp only [jp,jb,jz,js];have hc:=yin S _ AA nA cA w2 hrA (jle _) hnA HBL.out;refine yah rfl 8 #[.agg (spC S AA nA cA)] (yam _ (.tmp 14) _ rfl _ rfl (jeo Tryz.func8 (by kernel_rfl) rfl _ _)) (hc.mono ?_);clear hc;rintro e w3 ⟨⟨fb,rfl,hf⟩,hg⟩;have HG:=jh (yab HG.out hg (by simp));have H1:=jh (H1.out.kept hg);clear hg;refine ⟨_,rfl,?_⟩;simp only [jp,jb,jz,js];clear hxA hrA hnA;refine zg (.bool fb) ?_;simp only [jp,jb,jz,js];refine jwn ?_;cases fb with
 | false =>
  clear hf;go_wp2_with fail
  go_ret
  exact ⟨rfl,HG.out⟩
 | true =>
 have HF:=jh (hf rfl);clear hf;go_upto_region 7 with (fail)
 refine jwl ?_;obtain ⟨AA,nA,cA,hxA,hrA,hnA⟩:=H1.out;refine wpList_load_row rfl 25 (.tmp 2) rfl b1 rfl 25 (spC S AA nA cA) (0,0) _ hxA ja3 rfl (by kernel_rfl) ?_;simp only [jp,jb,jz,js];refine zm 1 (.int .u64 (ch:Int)) rfl ?_;simp only [jp,jb,jz,js];obtain ⟨E,hE⟩:∃ E,ybt S ch = E:=⟨_,rfl⟩;obtain ⟨B,hB⟩:∃ B:ByteArray,(⟨(ydG S ch).toArray⟩:ByteArray) = B:=⟨_,rfl⟩;have hc:=ycM S _ AA nA cA ch w3 hrA (jle _) hnA (by have:=HF.out.2.2.2;omega) HOK.out;rw [hE,hB] at hc;refine yah rfl 11 #[.agg (spC S AA nA cA),.int .u64 (ch:Int)] (yao _ (.tmp 20) (.tmp 21) _ rfl _ _ rfl rfl (jeo Tryz.func11 (by kernel_rfl) rfl _ _)) (hc.mono ?_);clear hc;rintro e w4 ⟨rfl,hg⟩;have HG:=jh (yab HG.out hg (by simp));have H1:=jh (H1.out.kept hg);clear hg;refine ⟨_,rfl,?_⟩;simp only [jp,jb,jz,js];clear hxA hrA hnA;have HE:=jh hE;have HB:=jh hB;clear hE hB;refine zm 22 (.tuple #[.string B,.int .i64 E]) rfl ?_;simp only [jp,jb,jz,js];refine zg (.string B) ?_;simp only [jp,jb,jz,js];refine zg (.int .i64 E) ?_;simp only [jp,jb,jz,js];refine zg (.string B) ?_;simp only [jp,jb,jz,js];refine zg (.int .i64 E) ?_;simp only [jp,jb,jz,js];refine jwn ?_;by_cases h0:E = 0
 rotate_left
 ·have q1:(E != 0) = true:=by simpa using h0
  have hB0:B = ⟨#[]⟩:=by rw [<- HB.out,ygv (by rw [HE.out];exact h0)]
  subst hB0;clear h0;go_upto_region 9 with (fail)
  refine jwl ?_;refine zm 5 (.bool true) rfl ?_;refine zm 27 (.bool true) rfl ?_;simp only [jp,jb,jz,js];refine yad rfl (.string ⟨#[]⟩) (yaq (.tmp 7) rfl _ rfl) ?_;simp only [jp,jb,jz,js];refine yad rfl (.bool true) (by go_simp <;> rfl) ?_;simp only [jp,jb,jz,js];refine yac rfl (.bool true) (yax (.tmp 28) (.tmp 30) _ rfl true rfl _ rfl) ?_;simp only [jp,jb,jz,js];refine zm 31 (.bool true) rfl ?_;simp only [jp,jb,jz,js];obtain ⟨AA,nA,cA,hxA,hrA,hnA⟩:=H1.out;refine yad rfl (.agg (spC S AA nA cA)) (yai rfl rfl 25 _ _ hxA ja3 rfl (by kernel_rfl)) ?_;simp only [jp,jb,jz,js];refine yad rfl (.int .u64 (ch:Int)) (yaq (.tmp 1) rfl _ rfl) ?_;simp only [jp,jb,jz,js];have hc:=yde S _ AA nA cA ch w4 hrA (jle _) hnA (by have:=HF.out.2.2.2;omega) HOK.out.txs;rw [HE.out] at hc;refine yaG rfl 14 #[.agg (spC S AA nA cA),.int .u64 (ch:Int)] (yao _ (.tmp 33) (.tmp 34) _ rfl _ _ rfl rfl (jeo Tryz.func14 (by kernel_rfl) rfl _ _)) (hc.mono ?_);clear hc;rintro e w5 ⟨rfl,hg⟩;have HG:=jh (yab HG.out hg (by simp));have H1:=jh (H1.out.kept hg);clear hg;refine ⟨_,rfl,?_⟩;simp only [jp,jb,jz,js];clear hxA hrA hnA;refine yad rfl (.int .i64 E) (yaq (.tmp 8) rfl _ rfl) ?_;simp only [jp,jb,jz,js];refine yad rfl (.bool true) (by go_simp <;> first | rfl | simp) ?_;simp only [jp,jb,jz,js];refine yac rfl (.bool true) (yax (.tmp 32) (.tmp 37) _ rfl true rfl _ rfl) ?_;simp only [jp,jb,jz,js];refine zg (.bool true) ?_;simp only [jp,jb,jz,js];refine jwn ?_;go_wp2_with fail
  go_ret
  exact ⟨rfl,HG.out⟩
 ·subst h0;have hp:B.data.toList = spL S:=by rw [<- HB.out];show ydG S ch = _;exact ydr HE.out
  have hsz:B.size <= 1000000000000:=by rw [<- yan,hp];exact jlt (yl4 HE.out HOK.out) (by omega)
  have hget:ybR B ch = .ok S:=yfA HE.out HOK.out hp;have HSZ:=jh hsz;have HGET:=jh hget;clear hp hsz hget;go_upto_region 10 with (fail)
  refine jwl ?_;refine zm 7 (.string B) rfl ?_;refine zm 1 (.int .u64 (ch:Int)) rfl ?_;simp only [jp,jb,jz,js];have hc:=yd9 B ch w4 HSZ.out HCH.out;refine yah rfl 17 #[.string B,.int .u64 (ch:Int)] (yao _ (.tmp 40) (.tmp 41) _ rfl _ _ rfl rfl (jeo Tryz.func17 (by kernel_rfl) rfl _ _)) (hc.mono ?_);clear hc;rintro e w5 hh;obtain ⟨hg,A2,n2,c2,rfl,hr⟩:=ygS hh HGET.out;have HG:=jh (yab HG.out hg (by simp));have H1:=jh (H1.out.kept hg);clear hg hh;refine ⟨_,rfl,?_⟩;simp only [jp,jb,jz,js];refine zm 42 (.tuple #[.agg (spC S A2 n2 c2),.int .i64 0]) rfl ?_;simp only [jp,jb,jz,js];refine zg (.agg (spC S A2 n2 c2)) ?_;simp only [jp,jb,jz,js];refine zg (.int .i64 0) ?_;simp only [jp,jb,jz,js];refine yac rfl (.pointer (some ⟨w5.heap.size,0,none⟩)) (w':=w5.alloc (.cells spZ 25)) (by unfold spZ;go_simp <;> rfl) ?_;simp only [jp,jb,jz,js];refine jsw rfl 25 (.tmp 9) (.tmp 43) rfl w5.heap.size (spC S A2 n2 c2) rfl rfl 25 spZ (Blk.new w5 _ _) (by kernel_rfl) rfl (by simp [ja2,spC]) ?_;(try simp only [jp,jb,jz,js]);obtain ⟨hbx,hga⟩:=SpBx.new (W:=w5) (S:=S) (A:=A2) (n:=n2) (c:=c2) (z:=spZ) hr (by have:=hr.1;have:=(ycU HE.out).2.2.2.1;omega);obtain ⟨b2,hge⟩:∃ x,w5.heap.size = x:=⟨_,rfl⟩;rw [hge] at hbx hga ⊢;have HG:=jh (yab HG.out hga (by simp));have H1:=jh (H1.out.kept hga);have H2:=jh hbx;clear hbx hga;generalize (w5.alloc (.cells spZ 25)).setRow b2 (spC S A2 n2 c2) = w6 at *;clear hge;refine zg (.int .i64 0) ?_;simp only [jp,jb,jz,js];refine jwn ?_;clear hr;go_upto_region 11 with (fail)
  obtain ⟨AA,nA,cA,hxA,hrA,hnA⟩:=H1.out;obtain ⟨AB,nB,cB,hxB,hrB,hnB⟩:=H2.out;refine jwh (S:=fun V=>Blk V b1 25 (spC S AA nA cA) /\ Blk V b2 25 (spC S AB nB cB)) (by kernel_rfl) ?_;change wpAnyH _ _ _ _ _ _ _ _ w6.drew;have hS0:Blk w6.drew b1 25 (spC S AA nA cA) /\ Blk w6.drew b2 25 (spC S AB nB cB):=⟨hxA,hxB⟩;have hg0:=yau (jr w6 none);have hra:=(hrA.grown hg0 (jle _)).more hg0.size;have hrb:=(hrB.grown hg0 (jle _)).more hg0.size;have HG:=jh (yau HG.out);clear hg0 hxA hxB hrA hrB H1 H2;generalize w6.drew = u0 at *;have HBS:=jh (fun b (hb:b ∈ S.blocks)=>jlt (yfQ hb) (show S.all.length <= 9223372036854775807 by have:=HF.out.2.2.2;omega));have hsm:=ycL S S _ _ AA AB nA nB cA cB u0 hra hrb (jle _) (jle _) hnA hnB HBS.out HBS.out (yeP HOK.out) (yeP HOK.out);rw [decide_eq_true rfl] at hsm;refine cV 0 45 (.bool true) rfl hS0 ?_;simp only [jp,jb,jz,js];refine cV 1 46 (.bool true) rfl hS0 ?_;simp only [jp,jb,jz,js];refine cV 2 47 (.int .i64 0) rfl hS0 ?_;simp only [jp,jb,jz,js];refine cV 3 48 (.bool true) rfl hS0 ?_;simp only [jp,jb,jz,js];refine cL 4 49 (.bool true) rfl (fun W hW=>yax (.tmp 46) (.tmp 48) _ rfl true rfl _ rfl) hS0 ?_;simp only [jp,jb,jz,js];refine cV 5 50 (.bool true) rfl hS0 ?_;simp only [jp,jb,jz,js];refine cL 6 51 (.agg (spC S AA nA cA)) rfl (fun W hW=>yai rfl rfl 25 _ _ hW.1 ja3 rfl (by kernel_rfl)) hS0 ?_;simp only [jp,jb,jz,js];refine cL 7 52 (.agg (spC S AB nB cB)) rfl (fun W hW=>yai rfl rfl 25 _ _ hW.2 ja3 rfl (by kernel_rfl)) hS0 ?_;simp only [jp,jb,jz,js];refine yag (i:=8) (by kernel_rfl) ?_;refine yat (some 53) rfl rfl 16 #[.agg (spC S AA nA cA),.agg (spC S AB nB cB)] (yao _ (.tmp 51) (.tmp 52) _ rfl _ _ rfl rfl (jeo Tryz.func16 (by kernel_rfl) rfl _ _)) rfl (hsm.mono ?_);rintro e u1 ⟨rfl,hg⟩;have hS1:Blk u1 b1 25 (spC S AA nA cA) /\ Blk u1 b2 25 (spC S AB nB cB):=⟨hS0.1.grown hg (by simp),hS0.2.grown hg (by simp)⟩;replace hra:=(hra.grown hg (jle _)).more hg.size;replace hrb:=(hrb.grown hg (jle _)).more hg.size;have HG:=jh (yab HG.out hg (by simp));clear hg hsm hS0;refine ⟨_,rfl,hS1,?_⟩;simp only [jp,jb,jz,js];refine cL 9 54 (.bool true) rfl (fun W hW=>yax (.tmp 50) (.tmp 53) _ rfl true rfl _ rfl) hS1 ?_;simp only [jp,jb,jz,js];refine cV 10 55 (.bool true) rfl hS1 ?_;simp only [jp,jb,jz,js];refine cL 11 56 (.agg (spC S AB nB cB)) rfl (fun W hW=>yai rfl rfl 25 _ _ hW.2 ja3 rfl (by kernel_rfl)) hS1 ?_;simp only [jp,jb,jz,js];refine cL 13 58 (.agg (spC S AA nA cA)) rfl (fun W hW=>yai rfl rfl 25 _ _ hW.1 ja3 rfl (by kernel_rfl)) hS1 ?_;simp only [jp,jb,jz,js];have hmn:=yd8 S _ AB nB cB u1 hrb (jle _) hnB (by have:=HF.out.2.2.2;omega);refine yag (i:=12) (by kernel_rfl) ?_;refine yat (some 57) rfl rfl 15 #[.agg (spC S AB nB cB)] (yam _ (.tmp 56) _ rfl _ rfl (jeo Tryz.func15 (by kernel_rfl) rfl _ _)) rfl (hmn.mono ?_);clear hmn;rintro e u2 ⟨rfl,hg⟩;have hS2:Blk u2 b1 25 (spC S AA nA cA) /\ Blk u2 b2 25 (spC S AB nB cB):=⟨hS1.1.grown hg (by simp),hS1.2.grown hg (by simp)⟩;replace hra:=(hra.grown hg (jle _)).more hg.size;replace hrb:=(hrb.grown hg (jle _)).more hg.size;have HG:=jh (yab HG.out hg (by simp));clear hg hS1;refine ⟨_,rfl,hS2,?_⟩;simp only [jp,jb,jz,js];have hmn:=yd8 S _ AA nA cA u2 hra (jle _) hnA (by have:=HF.out.2.2.2;omega);refine yag (i:=14) (by kernel_rfl) ?_;refine yat (some 59) rfl rfl 15 #[.agg (spC S AA nA cA)] (yam _ (.tmp 58) _ rfl _ rfl (jeo Tryz.func15 (by kernel_rfl) rfl _ _)) rfl (hmn.mono ?_);clear hmn;rintro e u3 ⟨rfl,hg⟩;have hS3:Blk u3 b1 25 (spC S AA nA cA) /\ Blk u3 b2 25 (spC S AB nB cB):=⟨hS2.1.grown hg (by simp),hS2.2.grown hg (by simp)⟩;replace hra:=(hra.grown hg (jle _)).more hg.size;replace hrb:=(hrb.grown hg (jle _)).more hg.size;have HG:=jh (yab HG.out hg (by simp));clear hg hS2;refine ⟨_,rfl,hS3,?_⟩;simp only [jp,jb,jz,js];refine cL 15 60 (.bool true) rfl (fun W hW=>by go_simp <;> first | rfl | simp) hS3 ?_;simp only [jp,jb,jz,js];refine cL 16 61 (.bool true) rfl (fun W hW=>yax (.tmp 55) (.tmp 60) _ rfl true rfl _ rfl) hS3 ?_;simp only [jp,jb,jz,js];refine cV 17 4 (.bool true) rfl hS3 ?_;simp only [jp,jb,jz,js];refine jwd (by kernel_rfl) ?_ _;clear hS3 hra hrb;go_wp2_with fail
  go_ret
  exact ⟨rfl,HG.out⟩
open Go.ChangeShapes Go.WideShapes Go.ChangeAt Go.RowKit Go.Deep Go.Joins
set_option linter.constructorNameAsVariable false
section
variable {H:Type} {enc:TypeId × Value -> H} {P:Program} {w:World} {base:Nat} {held:Bool}
theorem ygV {t e:TypeId} {fuel:Nat} {v:Value} {x:DataW H × List MemPlace} (ht:P.underlying t = some (.slice e)) (he:P.underlying e = some .string) (hc:P.cellsOf e = 1)
  (h:DataW.trod enc P w base (fun _=>true) held fuel t [v] = some x) :
  ∃ (A:Option Addr) (n c:Nat) (xs:List ByteArray),v = .slice A n c /\ Reads w w.heap.size 1 A n (xs.map jb2) /\ (∀ x ∈ xs,x.size <= 9223372036854775807) /\ n <= 9223372036854775807 /\ xs.length = n /\ n <= c:=by
 rcases open_strs ht he hc h with ⟨hcs,_⟩ | ⟨a,len,cap,m,B,hcs,_,hl,hm,hmm,_,hcell⟩
 ·simp only [jd4.injEq,and_true] at hcs;exact ⟨none,0,0,[],hcs,Reads.none_,by simp,by omega,rfl,by omega⟩
 ·simp only [jd4.injEq,and_true] at hcs;simp only [if_true] at hmm;have hmL:maxLen = 9223372036854775807:=by decide
  refine ⟨some a,len,cap,(List.range len).map B,hcs,⟨by simp,fun hn=>⟨a,rfl,?_,fun j u hu=>?_⟩⟩,fun x hx=>?_,by omega,by simp,hl⟩
  ·have:=jd7 w _ (hcell 0 (by omega)).1
   rwa [ybI] at this
  ·rw [jgm,jgm,Option.map_map] at hu
   have hj:j < len:=by
    rcases Nat.lt_or_ge j len with hj | hj
    ·exact hj
    ·rw [jc5 (by simpa using hj)] at hu;cases hu
   rw [List.getElem?_range hj] at hu;have:=(hcell j (by omega)).1;simp at hu;subst hu;simpa using this
  ·obtain ⟨i,hi,rfl⟩:=List.mem_map.1 hx;have:=(hcell i (by have:=List.mem_range.1 hi;omega)).2;omega
end
section
variable {H:Type} {enc:TypeId × Value -> H} {w:World} {base:Nat} {held:Bool}
end
open Go.ChangeShapes Go.WideShapes Go.RowKit Go.Deep Go.Joins
set_option linter.constructorNameAsVariable false
theorem yeo {α:Type} {R:Nat -> α -> Prop}:∀ n:Nat,(∀ i,i < n -> ∃ x,R i x) -> ∃ xs:List α,xs.length = n /\ ∀ i (h:i < xs.length),R i xs[i]
 | 0,_=>⟨[],rfl,fun i h=>absurd h (by simp)⟩
 | n + 1,h=>by
  obtain ⟨xs,hl,hx⟩:=yeo n fun i hi=>h i (by omega);obtain ⟨x,hxn⟩:=h n (by omega);refine ⟨xs ++ [x],by simp [hl],fun i hi=>?_⟩;by_cases h1:i < xs.length
  ·rw [List.getElem_append_left h1];exact hx i h1
  ·obtain rfl:i = n:=by simp at hi;omega
   rw [List.getElem_append_right (by omega)];simpa [hl] using hxn
section
variable {H:Type} {enc:TypeId × Value -> H} {w:World} {base:Nat} {held:Bool}
end
open Go.ChangeShapes Go.WideShapes Go.ChangeAt Go.RowKit Go.Deep Go.Joins
set_option linter.constructorNameAsVariable false
section
variable {H:Type} {enc:TypeId × Value -> H} {P:Program} {w:World} {base:Nat} {held:Bool}
theorem ygy (c:List Value) (n:Nat) (h:c.length = n):c = (List.range n).map fun i=>c.getD i undef:=by
 refine List.ext_getElem (by simp [h]) fun i h1 h2=>?_;rw [List.getElem_map,List.getElem_range,jg,je h1];rfl
theorem ydj {t e:TypeId} {fs:Array Field} {fuel:Nat} {cs:List Value} {x:DataW H × List MemPlace} (ht:P.underlying t = some (.slice e)) (he:P.underlying e = some (.struct fs)) {s:Nat} (hC:P.cellsOf e = s)
  (h:DataW.trod enc P w base (fun _=>true) held fuel t cs = some x) :
  cs = [.slice none 0 0] \/
  ∃ (a:Addr) (len cap:Nat),cs = [.slice (some a) len cap] /\ len <= cap /\ cap <= maxLen /\
   ∀ i,i < cap -> ∃ (c:List Value) (n:Nat),c.length = s /\ (∀ j,j < s -> w.cell? (a.add (i * s + j)) = c[j]?) /\ ∀ (j:Nat) (f:Field),fs[j]? = some f -> ∃ y,DataW.trod enc P w base (fun _=>true) held n f.type ((c.drop f.offset).take (P.cellsOf f.type)) = some y:=by
 rcases open_slice ht h with ⟨h0,_⟩ | ⟨a,len,cap,m,n,D,Pl,hcs,hb,hl,hm,hmm,hx,hi⟩
 ·exact .inl h0
 ·simp only [if_true] at hmm;refine .inr ⟨a,len,cap,hcs,hl,hm,fun i him=>?_⟩;obtain ⟨cs',hc,ht'⟩:=hi i (by omega);rw [hC] at hc;obtain ⟨ys,n',hn',hy,hlen,hyl,hf⟩:=DataW.trod_struct he ht';obtain ⟨_,hcl,hat⟩:=World.cells?_some hc;refine ⟨cs',n',by omega,fun j hj=>?_,fun j f hj=>?_⟩
  ·rw [<- Go.Deep.add_add,hat j hj]
  ·have h1:=hf j f hj;have hjl:j < fs.size:=(jes.1 hj).1;exact ⟨_,h1.trans (je (by omega))⟩
end
section
variable {H:Type} {enc:TypeId × Value -> H} {w:World} {base:Nat} {held:Bool}
theorem ycb {fuel:Nat} {c:List Value} {x:DataW H × List MemPlace} (h:DataW.trod enc jq w base (fun _=>true) held fuel 45 c = some x):∃ N:Nat,N < 115792089237316195423570985008687907853269984665640564039457584007913129639936 /\ c = [.int .u64 (wp N 0:Nat),.int .u64 (wp N 1:Nat),.int .u64 (wp N 2:Nat),.int .u64 (wp N 3:Nat)]:=by
 have ht:=Tryz.underlying45;have he:=jb3;have hce:jq.cellsOf 22 = 1:=by kernel_rfl
 have hct:jq.cellsOf 45 = 4:=by kernel_rfl
 obtain ⟨xs,m,_,_,hl,hxl,hat⟩:=DataW.trod_array ht h;have hcl:c.length = 4:=hl.trans hct
 have key:∀ i,i < 4 -> ∃ x:Nat,x < 18446744073709551616 /\ c[i]? = some (.int .u64 (x:Int)):=by
  intro i hi;have h1:=hat i hi
  have hone:(c.drop (i * jq.cellsOf 22)).take (jq.cellsOf 22) = [c[i]'(by omega)]:=by
   rw [hce,Nat.mul_one,jdc (by omega)];rfl
  have hx:xs[i]? = some (xs[i]'(by omega)):=je (by omega);rw [hone,hx] at h1;obtain ⟨k,hk,_,hw⟩:=DataW.trod_int he h1;have hwf:=ycc hw;obtain ⟨z,rfl⟩:=jez hwf.1;refine ⟨z,by omega,?_⟩;rw [je (by omega)];simp only [jd4.injEq,and_true] at hk;rw [hk]
 obtain ⟨a0,l0,e0⟩:=key 0 (by omega);obtain ⟨a1,l1,e1⟩:=key 1 (by omega);obtain ⟨a2,l2,e2⟩:=key 2 (by omega);obtain ⟨a3,l3,e3⟩:=key 3 (by omega);obtain ⟨w0,w1,w2,w3⟩:=yo6 a0 a1 a2 a3 l0 l1 l2 l3;have hlt:=yo7 a0 a1 a2 a3 l0 l1 l2 l3;have e256:(256:Nat) ^ 32 = 115792089237316195423570985008687907853269984665640564039457584007913129639936:=by decide
 refine ⟨ycX a0 a1 a2 a3,by rw [<- e256];exact hlt,?_⟩;rw [w0,w1,w2,w3]
 match c,hcl,e0,e1,e2,e3 with
 | [c0,c1,c2,c3],_,e0,e1,e2,e3 =>
  have f0:some c0 = some _:=e0;have f1:some c1 = some _:=e1;have f2:some c2 = some _:=e2;have f3:some c3 = some _:=e3;cases f0;cases f1;cases f2;cases f3;rfl
theorem ypk:∃ t0 t1:Field,jq.underlying 104 = some (.struct #[t0,t1]) /\ oneCellFields jq #[t0,t1] = true /\ jq.underlying t0.type = some .string /\ t1.type = 56 :=
 ⟨_,_,Tryz.underlying104,by kernel_rfl,jb8,rfl⟩
theorem yhO {fuel:Nat} {v:Value} {x:DataW H × List MemPlace} (h:DataW.trod enc jq w base (fun _=>true) held fuel 46 [v] = some x) :
  ∃ (A:Option Addr) (n c:Nat) (ls:List AccV),v = .slice A n c /\ AccR w.heap.size w ls A n /\ n <= 9223372036854775807:=by
 obtain ⟨t0,t1,hu,hone,u0,u1⟩:=ypk;have hmL:maxLen = 9223372036854775807:=by decide
 rcases ycO Tryz.underlying46 hu hone (by kernel_rfl) h with ⟨hcs,_⟩ | ⟨a,len,cap,m,D,Pl,hcs,hb,hl,hm,hmm,_,hi⟩
 ·simp only [jd4.injEq,and_true] at hcs;exact ⟨none,0,0,[],hcs,AccR.nil _ _ _,by omega⟩
 ·simp only [jd4.injEq,and_true] at hcs;simp only [if_true] at hmm
  have key:∀ i,i < len -> ∃ l:AccV,∃ T tc,(w.cell? (a.add (i * 2 + 0)) = some (.string l.addr) /\ w.cell? (a.add (i * 2 + 1)) = some (.slice T l.keys.length tc)) /\
    Reads w w.heap.size 1 T l.keys.length (l.keys.map jb2) /\ l.keys.length <= 9223372036854775807:=by
   intro i hil;obtain ⟨ys,n,_,_,_,hf⟩:=hi i (by omega);obtain ⟨v0,y0,c0,_,e0⟩:=hf 0 t0 rfl;obtain ⟨v1,y1,c1,_,e1⟩:=hf 1 t1 rfl;obtain ⟨s0,hs0,_⟩:=DataW.trod_string u0 e0;rw [u1] at e1;obtain ⟨T,k,tc,xs,rfl,hr,hx,hm,hxl,hc⟩:=ygV Tryz.underlying56 jb8 (by kernel_rfl) e1;simp only [jd4.injEq,and_true] at hs0;subst hs0;subst hxl;exact ⟨⟨s0,xs⟩,T,tc,⟨c0,c1⟩,hr,hm⟩
  obtain ⟨ls,hll,hls⟩:=yeo len key;refine ⟨some a,len,cap,ls,hcs,⟨hll,fun h0=>?_⟩,by omega⟩;obtain ⟨_,_,⟨c00,_⟩,_⟩:=hls 0 (by omega);have ea:a = ⟨a.block,a.off,none⟩:=ybD (a:=a) (by simpa [Addr.add] using c00);refine ⟨a.block,a.off,by rw [<- ea],?_,fun i hi'=>?_⟩
  ·have:=jd7 w _ c00
   rwa [ybI] at this
  ·obtain ⟨T,tc,⟨d0,d1⟩,p,q⟩:=hls i (by omega);rw [ea] at d0 d1;have hadd:∀ j,(⟨a.block,a.off,none⟩:Addr).add j = ⟨a.block,a.off + j,none⟩:=fun j=>Addr.add_mid _ _ _;rw [hadd] at d0 d1;have hg:ls.getD i AccV.none_ = ls[i]'(by omega):=by rw [jg,je (by omega)];rfl
   rw [hg];exact ⟨T,tc,d0,d1,p,q⟩
theorem ypi:∃ t0 t1 t2 t3 t4 t5:Field,jq.underlying 110 = some (.struct #[t0,t1,t2,t3,t4,t5]) /\ t0.type = 22 /\ t0.offset = 0 /\ t1.type = 9 /\ t1.offset = 1 /\ t2.type = 22 /\ t2.offset = 2 /\ t3.type = 22 /\ t3.offset = 3 /\ t4.type = 45 /\ t4.offset = 4 /\ t5.type = 45 /\ t5.offset = 8 :=
 ⟨_,_,_,_,_,_,Tryz.underlying110,rfl,rfl,rfl,rfl,rfl,rfl,rfl,rfl,rfl,rfl,rfl,rfl⟩
theorem yhN {fuel:Nat} {v:Value} {x:DataW H × List MemPlace} (h:DataW.trod enc jq w base (fun _=>true) held fuel 47 [v] = some x) :
  ∃ (A:Option Addr) (n c:Nat) (ls:List AutV),v = .slice A n c /\ AutR w.heap.size w ls A n /\ (∀ t ∈ ls,t.Ok) /\ n <= 9223372036854775807:=by
 obtain ⟨t0,t1,t2,t3,t4,t5,hu,a0,b0,a1,b1,a2,b2,a3,b3,a4,b4,a5,b5⟩:=ypi;have hmL:maxLen = 9223372036854775807:=by decide
 rcases ydj Tryz.underlying47 hu (s:=12) (by kernel_rfl) h with hcs | ⟨a,len,cap,hcs,hl,hm,hi⟩
 ·simp only [jd4.injEq,and_true] at hcs;exact ⟨none,0,0,[],hcs,AutR.nil _ _ _,(fun t h=>by cases h),by omega⟩
 ·simp only [jd4.injEq,and_true] at hcs
  have key:∀ i,i < len -> ∃ l:AutV,l.Ok /\ ∀ j,j < 12 -> w.cell? (a.add (i * 12 + j)) = (autL l)[j]?:=by
   intro i hil;obtain ⟨c,n,hc,hat,hf⟩:=hi i (by omega);obtain ⟨c0,c1,c2,c3,c4,c5,c6,c7,c8,c9,c10,c11,rfl⟩:∃ c0 c1 c2 c3 c4 c5 c6 c7 c8 c9 c10 c11,c = [c0,c1,c2,c3,c4,c5,c6,c7,c8,c9,c10,c11]:=⟨_,_,_,_,_,_,_,_,_,_,_,_,ygy c 12 hc⟩;obtain ⟨y0,e0⟩:=hf 0 t0 rfl;rw [a0,b0,show jq.cellsOf 22 = 1 by kernel_rfl] at e0;replace e0:DataW.trod enc jq w base (fun _=>true) held n 22 [c0] = some y0:=e0;obtain ⟨k0,h0,_,w0⟩:=DataW.trod_int jb3 e0;simp only [jd4.injEq,and_true] at h0;subst h0;obtain ⟨z0,rfl⟩:=jez (ycc w0).1;have q0:=(ycc w0).2;obtain ⟨y1,e1⟩:=hf 1 t1 rfl;rw [a1,b1,show jq.cellsOf 9 = 1 by kernel_rfl] at e1;replace e1:DataW.trod enc jq w base (fun _=>true) held n 9 [c1] = some y1:=e1;obtain ⟨s1,h1,_⟩:=DataW.trod_string jb8 e1;simp only [jd4.injEq,and_true] at h1;subst h1;obtain ⟨y2,e2⟩:=hf 2 t2 rfl;rw [a2,b2,show jq.cellsOf 22 = 1 by kernel_rfl] at e2;replace e2:DataW.trod enc jq w base (fun _=>true) held n 22 [c2] = some y2:=e2;obtain ⟨k2,h2,_,w2⟩:=DataW.trod_int jb3 e2;simp only [jd4.injEq,and_true] at h2;subst h2;obtain ⟨z2,rfl⟩:=jez (ycc w2).1;have q2:=(ycc w2).2;obtain ⟨y3,e3⟩:=hf 3 t3 rfl;rw [a3,b3,show jq.cellsOf 22 = 1 by kernel_rfl] at e3;replace e3:DataW.trod enc jq w base (fun _=>true) held n 22 [c3] = some y3:=e3;obtain ⟨k3,h3,_,w3⟩:=DataW.trod_int jb3 e3;simp only [jd4.injEq,and_true] at h3;subst h3;obtain ⟨z3,rfl⟩:=jez (ycc w3).1;have q3:=(ycc w3).2;obtain ⟨y4,e4⟩:=hf 4 t4 rfl;rw [a4,b4,show jq.cellsOf 45 = 4 by kernel_rfl] at e4;replace e4:DataW.trod enc jq w base (fun _=>true) held n 45 [c4,c5,c6,c7] = some y4:=e4;obtain ⟨N4,q4,h4⟩:=ycb e4;simp only [jd4.injEq,and_true] at h4;obtain ⟨rfl,rfl,rfl,rfl⟩:=h4;obtain ⟨y5,e5⟩:=hf 5 t5 rfl;rw [a5,b5,show jq.cellsOf 45 = 4 by kernel_rfl] at e5;replace e5:DataW.trod enc jq w base (fun _=>true) held n 45 [c8,c9,c10,c11] = some y5:=e5;obtain ⟨N5,q5,h5⟩:=ycb e5;simp only [jd4.injEq,and_true] at h5;obtain ⟨rfl,rfl,rfl,rfl⟩:=h5;refine ⟨⟨z0,s1,z2,z3,N4,N5⟩,⟨by show z0 < _;omega,by show z2 < _;omega,by show z3 < _;omega,q4,q5⟩,fun j hj=>hat j hj⟩
  obtain ⟨ls,hll,hls⟩:=yeo len key;refine ⟨some a,len,cap,ls,hcs,⟨hll,fun h0=>?_⟩,fun t ht=>?_,by omega⟩
  ·have c00:w.cell? (a.add (0 * 12 + 0)) = some (.int .u64 ((ls[0]'(by omega)).chain:Int)):=(hls 0 (by omega)).2 0 (by omega);have ea:a = ⟨a.block,a.off,none⟩:=ybD (a:=a) (by simpa [Addr.add] using c00);refine ⟨a.block,a.off,by rw [<- ea],?_,fun i hi' j u hu=>?_⟩
   ·have:=jd7 w _ c00
    rwa [ybI] at this
   ·have hg:ls.getD i AutV.none_ = ls[i]'(by omega):=by rw [jg,je (by omega)];rfl
    rw [hg] at hu;have hj:j < 12:=(jc6.1 hu).1;have d:=(hls i (by omega)).2 j hj;rw [ea,show (⟨a.block,a.off,none⟩:Addr).add (i * 12 + j) = ⟨a.block,a.off + (i * 12 + j),none⟩ from Addr.add_mid _ _ _] at d;rw [Nat.add_assoc,d,hu]
  ·obtain ⟨i,hi',rfl⟩:=List.mem_iff_getElem.1 ht;exact (hls i hi').1
theorem ypt:∃ t0 t1 t2 t3 t4 t5 t6 t7 t8 t9 t10 t11 t12 t13 t14 t15 t16 t17:Field,jq.underlying 49 = some (.struct #[t0,t1,t2,t3,t4,t5,t6,t7,t8,t9,t10,t11,t12,t13,t14,t15,t16,t17]) /\ t0.type = 3 /\ t0.offset = 0 /\ t1.type = 22 /\ t1.offset = 1 /\ t2.type = 22 /\ t2.offset = 2 /\ t3.type = 45 /\ t3.offset = 3 /\ t4.type = 45 /\ t4.offset = 7 /\ t5.type = 22 /\ t5.offset = 11 /\ t6.type = 9 /\ t6.offset = 12 /\ t7.type = 45 /\ t7.offset = 13 /\ t8.type = 9 /\ t8.offset = 17 /\ t9.type = 46 /\ t9.offset = 18 /\ t10.type = 47 /\ t10.offset = 19 /\ t11.type = 22 /\ t11.offset = 20 /\ t12.type = 45 /\ t12.offset = 21 /\ t13.type = 45 /\ t13.offset = 25 /\ t14.type = 9 /\ t14.offset = 29 /\ t15.type = 9 /\ t15.offset = 30 /\ t16.type = 45 /\ t16.offset = 31 /\ t17.type = 4 /\ t17.offset = 35 :=
 ⟨_,_,_,_,_,_,_,_,_,_,_,_,_,_,_,_,_,_,ja5,rfl,rfl,rfl,rfl,rfl,rfl,rfl,rfl,rfl,rfl,rfl,rfl,rfl,rfl,rfl,rfl,rfl,rfl,rfl,rfl,rfl,rfl,rfl,rfl,rfl,rfl,rfl,rfl,rfl,rfl,rfl,rfl,rfl,rfl,rfl,rfl⟩
theorem yhL {fuel:Nat} {v:Value} {x:DataW H × List MemPlace} (h:DataW.trod enc jq w base (fun _=>true) held fuel 39 [v] = some x) :
  ∃ (A:Option Addr) (n c:Nat) (ls:List TxV),v = .slice A n c /\ TxsR w.heap.size w ls A n /\ (∀ t ∈ ls,t.Ok) /\ n <= 9223372036854775807 /\ n <= c:=by
 obtain ⟨t0,t1,t2,t3,t4,t5,t6,t7,t8,t9,t10,t11,t12,t13,t14,t15,t16,t17,hu,a0,b0,a1,b1,a2,b2,a3,b3,a4,b4,a5,b5,a6,b6,a7,b7,a8,b8,a9,b9,a10,b10,a11,b11,a12,b12,a13,b13,a14,b14,a15,b15,a16,b16,a17,b17⟩:=ypt;have hmL:maxLen = 9223372036854775807:=by decide
 rcases ydj Tryz.underlying39 hu (s:=36) (by kernel_rfl) h with hcs | ⟨a,len,cap,hcs,hl,hm,hi⟩
 ·simp only [jd4.injEq,and_true] at hcs;exact ⟨none,0,0,[],hcs,⟨rfl,fun h=>by omega⟩,(fun t h=>by cases h),by omega,by omega⟩
 ·simp only [jd4.injEq,and_true] at hcs
  have key:∀ i,i < len -> ∃ l:TxV,l.Ok /\ ∃ sa sb,TxIn w.heap.size w l sa sb /\ ∀ j,j < 36 -> w.cell? (a.add (i * 36 + j)) = (txL l sa sb)[j]?:=by
   intro i hil;obtain ⟨c,n,hc,hat,hf⟩:=hi i (by omega);obtain ⟨c0,c1,c2,c3,c4,c5,c6,c7,c8,c9,c10,c11,c12,c13,c14,c15,c16,c17,c18,c19,c20,c21,c22,c23,c24,c25,c26,c27,c28,c29,c30,c31,c32,c33,c34,c35,rfl⟩:∃ c0 c1 c2 c3 c4 c5 c6 c7 c8 c9 c10 c11 c12 c13 c14 c15 c16 c17 c18 c19 c20 c21 c22 c23 c24 c25 c26 c27 c28 c29 c30 c31 c32 c33 c34 c35,c = [c0,c1,c2,c3,c4,c5,c6,c7,c8,c9,c10,c11,c12,c13,c14,c15,c16,c17,c18,c19,c20,c21,c22,c23,c24,c25,c26,c27,c28,c29,c30,c31,c32,c33,c34,c35]:=⟨_,_,_,_,_,_,_,_,_,_,_,_,_,_,_,_,_,_,_,_,_,_,_,_,_,_,_,_,_,_,_,_,_,_,_,_,ygy c 36 hc⟩;obtain ⟨y0,e0⟩:=hf 0 t0 rfl;rw [a0,b0,show jq.cellsOf 3 = 1 by kernel_rfl] at e0;replace e0:DataW.trod enc jq w base (fun _=>true) held n 3 [c0] = some y0:=e0;obtain ⟨k0,h0,_,w0⟩:=DataW.trod_int jb9 e0;simp only [jd4.injEq,and_true] at h0;subst h0;obtain ⟨y1,e1⟩:=hf 1 t1 rfl;rw [a1,b1,show jq.cellsOf 22 = 1 by kernel_rfl] at e1;replace e1:DataW.trod enc jq w base (fun _=>true) held n 22 [c1] = some y1:=e1;obtain ⟨k1,h1,_,w1⟩:=DataW.trod_int jb3 e1;simp only [jd4.injEq,and_true] at h1;subst h1;obtain ⟨z1,rfl⟩:=jez (ycc w1).1;have q1:=(ycc w1).2;obtain ⟨y2,e2⟩:=hf 2 t2 rfl;rw [a2,b2,show jq.cellsOf 22 = 1 by kernel_rfl] at e2;replace e2:DataW.trod enc jq w base (fun _=>true) held n 22 [c2] = some y2:=e2;obtain ⟨k2,h2,_,w2⟩:=DataW.trod_int jb3 e2;simp only [jd4.injEq,and_true] at h2;subst h2;obtain ⟨z2,rfl⟩:=jez (ycc w2).1;have q2:=(ycc w2).2;obtain ⟨y3,e3⟩:=hf 3 t3 rfl;rw [a3,b3,show jq.cellsOf 45 = 4 by kernel_rfl] at e3;replace e3:DataW.trod enc jq w base (fun _=>true) held n 45 [c3,c4,c5,c6] = some y3:=e3;obtain ⟨N3,q3,h3⟩:=ycb e3;simp only [jd4.injEq,and_true] at h3;obtain ⟨rfl,rfl,rfl,rfl⟩:=h3;obtain ⟨y4,e4⟩:=hf 4 t4 rfl;rw [a4,b4,show jq.cellsOf 45 = 4 by kernel_rfl] at e4;replace e4:DataW.trod enc jq w base (fun _=>true) held n 45 [c7,c8,c9,c10] = some y4:=e4;obtain ⟨N4,q4,h4⟩:=ycb e4;simp only [jd4.injEq,and_true] at h4;obtain ⟨rfl,rfl,rfl,rfl⟩:=h4;obtain ⟨y5,e5⟩:=hf 5 t5 rfl;rw [a5,b5,show jq.cellsOf 22 = 1 by kernel_rfl] at e5;replace e5:DataW.trod enc jq w base (fun _=>true) held n 22 [c11] = some y5:=e5;obtain ⟨k5,h5,_,w5⟩:=DataW.trod_int jb3 e5;simp only [jd4.injEq,and_true] at h5;subst h5;obtain ⟨z5,rfl⟩:=jez (ycc w5).1;have q5:=(ycc w5).2;obtain ⟨y6,e6⟩:=hf 6 t6 rfl;rw [a6,b6,show jq.cellsOf 9 = 1 by kernel_rfl] at e6;replace e6:DataW.trod enc jq w base (fun _=>true) held n 9 [c12] = some y6:=e6;obtain ⟨s6,h6,_⟩:=DataW.trod_string jb8 e6;simp only [jd4.injEq,and_true] at h6;subst h6;obtain ⟨y7,e7⟩:=hf 7 t7 rfl;rw [a7,b7,show jq.cellsOf 45 = 4 by kernel_rfl] at e7;replace e7:DataW.trod enc jq w base (fun _=>true) held n 45 [c13,c14,c15,c16] = some y7:=e7;obtain ⟨N7,q7,h7⟩:=ycb e7;simp only [jd4.injEq,and_true] at h7;obtain ⟨rfl,rfl,rfl,rfl⟩:=h7;obtain ⟨y8,e8⟩:=hf 8 t8 rfl;rw [a8,b8,show jq.cellsOf 9 = 1 by kernel_rfl] at e8;replace e8:DataW.trod enc jq w base (fun _=>true) held n 9 [c17] = some y8:=e8;obtain ⟨s8,h8,_⟩:=DataW.trod_string jb8 e8;simp only [jd4.injEq,and_true] at h8;subst h8;obtain ⟨y9,e9⟩:=hf 9 t9 rfl;rw [a9,b9,show jq.cellsOf 46 = 1 by kernel_rfl] at e9;replace e9:DataW.trod enc jq w base (fun _=>true) held n 46 [c18] = some y9:=e9;obtain ⟨A9,n9,x9,l9,rfl,r9,m9⟩:=yhO e9;obtain ⟨y10,e10⟩:=hf 10 t10 rfl;rw [a10,b10,show jq.cellsOf 47 = 1 by kernel_rfl] at e10;replace e10:DataW.trod enc jq w base (fun _=>true) held n 47 [c19] = some y10:=e10;obtain ⟨A10,n10,x10,l10,rfl,r10,o10,m10⟩:=yhN e10;obtain ⟨y11,e11⟩:=hf 11 t11 rfl;rw [a11,b11,show jq.cellsOf 22 = 1 by kernel_rfl] at e11;replace e11:DataW.trod enc jq w base (fun _=>true) held n 22 [c20] = some y11:=e11;obtain ⟨k11,h11,_,w11⟩:=DataW.trod_int jb3 e11;simp only [jd4.injEq,and_true] at h11;subst h11;obtain ⟨z11,rfl⟩:=jez (ycc w11).1;have q11:=(ycc w11).2;obtain ⟨y12,e12⟩:=hf 12 t12 rfl;rw [a12,b12,show jq.cellsOf 45 = 4 by kernel_rfl] at e12;replace e12:DataW.trod enc jq w base (fun _=>true) held n 45 [c21,c22,c23,c24] = some y12:=e12;obtain ⟨N12,q12,h12⟩:=ycb e12;simp only [jd4.injEq,and_true] at h12;obtain ⟨rfl,rfl,rfl,rfl⟩:=h12;obtain ⟨y13,e13⟩:=hf 13 t13 rfl;rw [a13,b13,show jq.cellsOf 45 = 4 by kernel_rfl] at e13;replace e13:DataW.trod enc jq w base (fun _=>true) held n 45 [c25,c26,c27,c28] = some y13:=e13;obtain ⟨N13,q13,h13⟩:=ycb e13;simp only [jd4.injEq,and_true] at h13;obtain ⟨rfl,rfl,rfl,rfl⟩:=h13;obtain ⟨y14,e14⟩:=hf 14 t14 rfl;rw [a14,b14,show jq.cellsOf 9 = 1 by kernel_rfl] at e14;replace e14:DataW.trod enc jq w base (fun _=>true) held n 9 [c29] = some y14:=e14;obtain ⟨s14,h14,_⟩:=DataW.trod_string jb8 e14;simp only [jd4.injEq,and_true] at h14;subst h14;obtain ⟨y15,e15⟩:=hf 15 t15 rfl;rw [a15,b15,show jq.cellsOf 9 = 1 by kernel_rfl] at e15;replace e15:DataW.trod enc jq w base (fun _=>true) held n 9 [c30] = some y15:=e15;obtain ⟨s15,h15,_⟩:=DataW.trod_string jb8 e15;simp only [jd4.injEq,and_true] at h15;subst h15;obtain ⟨y16,e16⟩:=hf 16 t16 rfl;rw [a16,b16,show jq.cellsOf 45 = 4 by kernel_rfl] at e16;replace e16:DataW.trod enc jq w base (fun _=>true) held n 45 [c31,c32,c33,c34] = some y16:=e16;obtain ⟨N16,q16,h16⟩:=ycb e16;simp only [jd4.injEq,and_true] at h16;obtain ⟨rfl,rfl,rfl,rfl⟩:=h16;obtain ⟨y17,e17⟩:=hf 17 t17 rfl;rw [a17,b17,show jq.cellsOf 4 = 1 by kernel_rfl] at e17;replace e17:DataW.trod enc jq w base (fun _=>true) held n 4 [c35] = some y17:=e17;obtain ⟨s17,h17,_⟩:=DataW.trod_bool Tryz.underlying4 e17;simp only [jd4.injEq,and_true] at h17;subst h17;have g9:=r9.1;have g10:=r10.1;refine ⟨⟨k0,z1,z2,N3,N4,z5,s6,N7,s8,l9,l10,z11,N12,N13,s14,s15,N16,s17⟩,⟨by show z1 < _;omega,by show z2 < _;omega,q3,q4,by show z5 < _;omega,q7,by show z11 < _;omega,q12,q13,q16,o10⟩,.slice A9 n9 x9,.slice A10 n10 x10,⟨⟨A9,x9,by rw [g9],by rw [g9];exact r9⟩,⟨A10,x10,by rw [g10],by rw [g10];exact r10⟩,by show l9.length <= _;omega,by show l10.length <= _;omega⟩,fun j hj=>hat j hj⟩
  obtain ⟨ls,hll,hls⟩:=yeo len key;refine ⟨some a,len,cap,ls,hcs,⟨hll,fun h0=>?_⟩,fun t ht=>?_,by omega,hl⟩
  ·obtain ⟨_,sa0,sb0,_,hc0⟩:=hls 0 (by omega);have c00:w.cell? (a.add (0 * 36 + 0)) = some (.int .i64 (ls[0]'(by omega)).kind):=hc0 0 (by omega);have ea:a = ⟨a.block,a.off,none⟩:=ybD (a:=a) (by simpa [Addr.add] using c00);refine ⟨a.block,a.off,by rw [<- ea],?_,fun i hi'=>?_⟩
   ·have:=jd7 w _ (show w.cell? (a.add (0 * 36 + 0)) = some (.int .i64 (ls[0]'(by omega)).kind) from c00)
    rwa [ybI] at this
   ·have hg:ls.getD i TxV.zero = ls[i]'(by omega):=by rw [jg,je (by omega)];rfl
    obtain ⟨_,sa,sb,hin,hcl⟩:=hls i (by omega);rw [hg];refine ⟨sa,sb,fun j u hu=>?_,hin⟩;have hj:j < 36:=(jc6.1 hu).1;have d:=hcl j hj;rw [ea,show (⟨a.block,a.off,none⟩:Addr).add (i * 36 + j) = ⟨a.block,a.off + (i * 36 + j),none⟩ from Addr.add_mid _ _ _] at d;rw [Nat.add_assoc,d,hu]
  ·obtain ⟨i,hi',rfl⟩:=List.mem_iff_getElem.1 ht;exact (hls i hi').1
end
open Go.ChangeShapes Go.WideShapes Go.ChangeAt Go.RowKit Go.Deep Go.Joins
section
variable {H:Type} {enc:TypeId × Value -> H} {w:World} {base:Nat} {held:Bool}
theorem ypG:∃ t0 t1:Field,jq.underlying 41 = some (.struct #[t0,t1]) /\ oneCellFields jq #[t0,t1] = true /\ jq.underlying t0.type = some .bool /\ t1.type = 39 :=
 ⟨_,_,Tryz.underlying41,by kernel_rfl,Tryz.underlying4,rfl⟩
theorem yhM {fuel:Nat} {v:Value} {x:DataW H × List MemPlace} (h:DataW.trod enc jq w base (fun _=>true) held fuel 23 [v] = some x) :
  ∃ (A:Option Addr) (n c:Nat) (bs:List BkV),v = .slice A n c /\ BksR w.heap.size w bs A n /\ (∀ b ∈ bs,b.txs.length <= 9223372036854775807 /\ ∀ t ∈ b.txs,t.Ok) /\ n <= 9223372036854775807:=by
 obtain ⟨t0,t1,hu,hone,u0,u1⟩:=ypG;have hmL:maxLen = 9223372036854775807:=by decide
 rcases ycO Tryz.underlying23 hu hone (by kernel_rfl) h with ⟨hcs,_⟩ | ⟨a,len,cap,m,D,Pl,hcs,hb,hl,hm,hmm,_,hi⟩
 ·simp only [jd4.injEq,and_true] at hcs;exact ⟨none,0,0,[],hcs,⟨rfl,fun h=>by omega⟩,(fun b h=>by cases h),by omega⟩
 ·simp only [jd4.injEq,and_true] at hcs;simp only [if_true] at hmm
  have key:∀ i,i < len -> ∃ l:BkV,(l.txs.length <= 9223372036854775807 /\ ∀ t ∈ l.txs,t.Ok) /\ ∃ T k tc,(w.cell? (a.add (i * 2 + 0)) = some (.bool l.origin) /\ w.cell? (a.add (i * 2 + 1)) = some (.slice T k tc)) /\
    TxsR w.heap.size w l.txs T k:=by
   intro i hil;obtain ⟨ys,n,_,_,_,hf⟩:=hi i (by omega);obtain ⟨v0,y0,c0,_,e0⟩:=hf 0 t0 rfl;obtain ⟨v1,y1,c1,_,e1⟩:=hf 1 t1 rfl;obtain ⟨s0,hs0,_⟩:=DataW.trod_bool u0 e0;rw [u1] at e1;obtain ⟨T,k,tc,xs,rfl,hr,ok,hm,hc⟩:=yhL e1;simp only [jd4.injEq,and_true] at hs0;subst hs0;exact ⟨⟨s0,xs⟩,⟨by have:=hr.1;show xs.length <= _;omega,ok⟩,T,k,tc,⟨c0,c1⟩,hr⟩
  obtain ⟨ls,hll,hls⟩:=yeo len key;refine ⟨some a,len,cap,ls,hcs,⟨hll,fun h0=>?_⟩,fun b hb=>?_,by omega⟩
  ·obtain ⟨_,_,_,_,⟨c00,_⟩,_⟩:=hls 0 (by omega);have ea:a = ⟨a.block,a.off,none⟩:=ybD (a:=a) (by simpa [Addr.add] using c00);refine ⟨a.block,a.off,by rw [<- ea],?_,fun i hi'=>?_⟩
   ·have:=jd7 w _ c00
    rwa [ybI] at this
   ·obtain ⟨_,T,k,tc,⟨d0,d1⟩,p⟩:=hls i (by omega);rw [ea] at d0 d1;have hadd:∀ j,(⟨a.block,a.off,none⟩:Addr).add j = ⟨a.block,a.off + j,none⟩:=fun j=>Addr.add_mid _ _ _;rw [hadd] at d0 d1;have hg:ls.getD i BkV.none_ = ls[i]'(by omega):=by rw [jg,je (by omega)];rfl
    rw [hg];exact ⟨T,k,tc,d0,d1,p⟩
  ·obtain ⟨i,hi',rfl⟩:=List.mem_iff_getElem.1 hb;exact (hls i hi').1
theorem ynm:∃ t0 t1 t2 t3 t4:Field,jq.underlying 25 = some (.struct #[t0,t1,t2,t3,t4]) /\ oneCellFields jq #[t0,t1,t2,t3,t4] = true /\ jq.underlying t0.type = some (.int .u64) /\ jq.underlying t1.type = some (.int .u64) /\ jq.underlying t2.type = some .string /\ jq.underlying t3.type = some .string /\ t4.type = 23 :=
 ⟨_,_,_,_,_,ja3,by kernel_rfl,jb3,jb3,jb8,jb8,rfl⟩
theorem yp2 {r:Reach} {b0:Nat} {v:Value} {d:DataW H} {p:List MemPlace} (hv:Value.okWide jq w r b0 25 v) (h:DataW.Trod enc jq w base (fun _=>true) held 25 v d p) :
  ∃ (s:SpV) (A:Option Addr) (n c:Nat),v = .agg (spC s A n c) /\ BksR w.heap.size w s.blocks A n /\ n <= 9223372036854775807 /\ (∀ b ∈ s.blocks,b.txs.length <= 9223372036854775807) /\ s.Ok:=by
 obtain ⟨t0,t1,t2,t3,t4,hu,hone,u0,u1,u2,u3,u4⟩:=ynm;obtain ⟨v0,v1,v2,v3,v4,y0,y1,y2,y3,y4,n,rfl,_,_,e0,e1,e2,e3,e4⟩:=ylW hu hone (by kernel_rfl) hv h;obtain ⟨k0,hk0,_,hw0⟩:=DataW.trod_int u0 e0;obtain ⟨k1,hk1,_,hw1⟩:=DataW.trod_int u1 e1;obtain ⟨s2,hs2,_⟩:=DataW.trod_string u2 e2;obtain ⟨s3,hs3,_⟩:=DataW.trod_string u3 e3;rw [u4] at e4;obtain ⟨A,m,c,bs,rfl,hr,hx,hm⟩:=yhM e4;simp only [jd4.injEq,and_true] at hk0 hk1 hs2 hs3;subst hk0;subst hk1;subst hs2;subst hs3;have h0:=ycc hw0;have h1:=ycc hw1;obtain ⟨z0,rfl⟩:=jez h0.1;obtain ⟨z1,rfl⟩:=jez h1.1;refine ⟨⟨z0,z1,s2,s3,bs⟩,A,m,c,rfl,hr,hm,fun b hb=>(hx b hb).1,⟨by show z0 < _;omega,by show z1 < _;omega,fun t ht=>?_⟩⟩;obtain ⟨b,hb,hb'⟩:=List.mem_flatMap.1 ht;exact (hx b hb).2 t hb'
end
theorem ypz (S:SpV) (A:Option Addr) (n c ch:Nat) (w:World) (h:BksR w.heap.size w S.blocks A n) (hn:n <= 9223372036854775807) (hb:∀ b ∈ S.blocks,b.txs.length <= 9223372036854775807) (ok:S.Ok) (hch:ch < 18446744073709551616) :
  Calls jq 6 #[.agg (spC S A n c),.int .u64 (ch:Int)] w fun e w'=>e = .returned (.bool true) /\ w.grownBy w' none:=by
 have hb0:SpBx (w.alloc (.cells (spC S A n c) 25)) w.heap.size S:=by
  have hg:=yaa (jr w none) (.cells (spC S A n c) 25);exact ⟨A,n,c,Blk.new w _ _,(h.grown hg (jle _)).more hg.size,hn⟩
 have HG:=jh (yaa (jr w none) (.cells (spC S A n c) 25));have HN:=jh hn;have HBL:=jh hb;have HOK:=jh ok;have HCH:=jh hch;clear h hn hb ok hch;go_enter Tryz.func6,Tryz.ntmps6
 go_upto_region 1 with (fail)
 generalize w.alloc (.cells (spC S A n c) 25) = w1 at *;obtain ⟨b1,hb1⟩:∃ x,w.heap.size = x:=⟨_,rfl⟩;rw [hb1] at hb0 ⊢;have H1:=jh hb0;clear hb0 hb1;refine jwl ?_;have hc:=ydL w1;refine yah rfl 7 #[] (ydC _ rfl (jeo Tryz.func7 (by kernel_rfl) rfl _ _)) (hc.mono ?_);clear hc;rintro e w2 ⟨rfl,hg⟩;have HG:=jh (yab HG.out hg (by simp));have H1:=jh (H1.out.kept hg);clear hg;refine ⟨_,rfl,?_⟩;simp only [jp,jb,jz,js];refine zg (.bool true) ?_;simp only [jp,jb,jz,js];refine jwn ?_;go_upto_region 4 with (fail)
 refine jwl ?_;obtain ⟨AA,nA,cA,hxA,hrA,hnA⟩:=H1.out;refine wpList_load_row rfl 25 (.tmp 2) rfl b1 rfl 25 (spC S AA nA cA) (0,0) _ hxA ja3 rfl (by kernel_rfl) ?_;simp only [jp,jb,jz,js];have hc:=yin S _ AA nA cA w2 hrA (jle _) hnA HBL.out;refine yah rfl 8 #[.agg (spC S AA nA cA)] (yam _ (.tmp 16) _ rfl _ rfl (jeo Tryz.func8 (by kernel_rfl) rfl _ _)) (hc.mono ?_);clear hc;rintro e w3 ⟨⟨fb,rfl,hf⟩,hg⟩;have HG:=jh (yab HG.out hg (by simp));have H1:=jh (H1.out.kept hg);clear hg;refine ⟨_,rfl,?_⟩;simp only [jp,jb,jz,js];clear hxA hrA hnA;refine zg (.bool fb) ?_;simp only [jp,jb,jz,js];refine jwn ?_;cases fb with
 | false =>
  clear hf;go_wp2_with fail
  go_ret
  exact ⟨rfl,HG.out⟩
 | true =>
 have HF:=jh (hf rfl);clear hf;go_upto_region 7 with (fail)
 refine jwl ?_;obtain ⟨AA,nA,cA,hxA,hrA,hnA⟩:=H1.out;refine wpList_load_row rfl 25 (.tmp 2) rfl b1 rfl 25 (spC S AA nA cA) (0,0) _ hxA ja3 rfl (by kernel_rfl) ?_;simp only [jp,jb,jz,js];refine zm 1 (.int .u64 (ch:Int)) rfl ?_;simp only [jp,jb,jz,js];obtain ⟨E,hE⟩:∃ E,ybt S ch = E:=⟨_,rfl⟩;obtain ⟨B,hB⟩:∃ B:ByteArray,(⟨(ydG S ch).toArray⟩:ByteArray) = B:=⟨_,rfl⟩;have hc:=ycM S _ AA nA cA ch w3 hrA (jle _) hnA (by have:=HF.out.2.2.2;omega) HOK.out;rw [hE,hB] at hc;refine yah rfl 11 #[.agg (spC S AA nA cA),.int .u64 (ch:Int)] (yao _ (.tmp 22) (.tmp 23) _ rfl _ _ rfl rfl (jeo Tryz.func11 (by kernel_rfl) rfl _ _)) (hc.mono ?_);clear hc;rintro e w4 ⟨rfl,hg⟩;have HG:=jh (yab HG.out hg (by simp));have H1:=jh (H1.out.kept hg);clear hg;refine ⟨_,rfl,?_⟩;simp only [jp,jb,jz,js];clear hxA hrA hnA;have HE:=jh hE;have HB:=jh hB;clear hE hB;refine zm 24 (.tuple #[.string B,.int .i64 E]) rfl ?_;simp only [jp,jb,jz,js];refine zg (.string B) ?_;simp only [jp,jb,jz,js];refine zg (.int .i64 E) ?_;simp only [jp,jb,jz,js];refine zg (.string B) ?_;simp only [jp,jb,jz,js];refine zg (.int .i64 E) ?_;simp only [jp,jb,jz,js];refine jwn ?_;by_cases h0:E = 0
 rotate_left
 ·have q1:(E != 0) = true:=by simpa using h0
  clear h0;go_wp2_with fail
  go_ret
  exact ⟨rfl,HG.out⟩
 subst h0;have hp:B.data.toList = spL S:=by rw [<- HB.out];show ydG S ch = _;exact ydr HE.out
 obtain ⟨_,_,_,hn16,hcol⟩:=ycU HE.out;obtain ⟨C,hC⟩:∃ C:ByteArray,(⟨(yd0 S.all).toArray⟩:ByteArray) = C:=⟨_,rfl⟩;have hCl:C.data.toList = yd0 S.all:=by rw [<- hC]
 obtain ⟨pre,hpre⟩:∃ pre,spL S = pre ++ yd0 S.all:=by
  unfold spL;simp only [<- List.append_assoc];exact ⟨_,rfl⟩
 have hCB:C.size <= B.size:=by rw [<- yan,<- yan,hCl,hp,hpre,jla];omega
 have hBz:B.size <= 10000000000:=by rw [<- yan,hp];exact yl4 HE.out HOK.out
 obtain ⟨D,hD⟩:∃ D,B.size - C.size = D:=⟨_,rfl⟩
 have hcut:B.extract D B.size = C:=by
  refine ycW ?_;have e:=ybj B D (B.size - D);rw [show D + (B.size - D) = B.size by omega] at e
  have hz:pre.length = D:=by
   have h1:=congrArg List.length hpre;rw [<- hp,<- hCl,jla,yan,yan] at h1;omega
  rw [e,hp,hpre,<- hz,List.drop_left,hCl];refine jtl ?_;rw [<- hCl,yan];omega
 have HCOL:=jh hcol;have HCC:=jh hC;have HCB:=jh hCB;have HBZ:=jh hBz;have HDD:=jh hD;have HCUT:=jh hcut;have HP9:=jh hn16;clear hp hcol hC hCl hpre hCB hBz hD hcut hn16;go_upto_region 11 with (fail)
 obtain ⟨AA,nA,cA,hxA,hrA,hnA⟩:=H1.out;obtain ⟨rs,hM,hR⟩:=yeC hrA (jle _);have hl:rs.flatten.length = S.all.length:=hR.1;have HM:=jh hM;have HR:=jh hR.mem;have HRR:=jh hR;have HL:=jh hl;have HLN:=jh hM.len;have HBC:=jh (hxA.cell 4);have HNA:=jh hnA;clear hM hR hl hxA hrA hnA;go_wp2_with fail
 go_loopw [9,10] (fun v i wr=>∃ k:Nat,i = .int .i64 (k:Int) /\ k <= nA /\ wr.ownsRow w4.heap.size 49 36 v (offS rs k) (rs.take k).flatten.flatten /\ w4.grownBy wr none) (fun _ i _=>nA - (intOf i).toNat)
 case atStart=>exact ⟨0,rfl,by omega,jon _ _ _ _,jr _ _⟩
 case round =>
  obtain ⟨k,rfl,hk,hown,hg⟩:=hrel;obtain ⟨A',cc,rfl⟩:=yb4 hown;have HGG:=jh hg;have hbc:wr.cell? ⟨b1,4,none⟩ = some (.slice AA nA cA):=hg.cell HBC.out (by simp);by_cases hlt:k < nA
  ·have q1:(k:Int) < (nA:Int):=by omega
   have hkr:k < rs.length:=by rw [HLN.out];exact hlt
   obtain ⟨g,off,T,tc,oo,rfl,hgD,_,hc1,hrow⟩:=HM.out.at_ k hlt;have c1:=hg.cell hc1 (by simp);have hmemf:∀ x ∈ rs.getD k [],x ∈ rs.flatten:=fun x hx=>List.mem_flatten.2 ⟨_,(by rw [jg,je hkr];exact jc1 hkr),hx⟩;have h36:∀ x ∈ rs.getD k [],x.length = 36:=fun x hx=>(HR.out x (hmemf x hx)).1;have hsucc:=yf1 rs k hkr
   have htk:(rs.take (k + 1)).flatten.flatten = (rs.take k).flatten.flatten ++ (rs.getD k []).flatten:=by
    rw [jtk hkr,List.flatten_append,List.flatten_append,jg,je hkr]
    simp
   have hle:offS rs k + (rs.getD k []).length <= 10000:=by
    rw [<- hsucc];unfold offS;have e:=congrArg List.length (congrArg List.flatten (jd0 (k + 1) rs));rw [List.flatten_append,jla] at e;have:=HF.out.2.2.2;have:=HL.out;omega
   obtain ⟨v',w5,hrun,hown',hgrow⟩:=ypI hown T (rs.getD k []).length tc (rs.getD k []).flatten (ydA _ h36) (fun hm=>by
     obtain ⟨g',off',rfl,_,_,_,_⟩:=hrow 0 hm;refine ⟨g',off',rfl,fun j u hu=>?_⟩
     have hj:j < (rs.getD k []).length * 36:=by
      rw [<- ydA _ h36];exact (jc6.1 hu).1
     obtain ⟨g2,off2,e,hg2,hra,_,_⟩:=hrow (j / 36) (by omega);cases e;have hf:=yjP (rs.getD k []) (j / 36) (j % 36) h36 (by omega) (by omega);rw [show j / 36 * 36 + j % 36 = j by omega,hu] at hf;have:=hra (j % 36) u hf.symm;rw [show off' + j / 36 * 36 + j % 36 = off' + j by omega] at this;exact hg.cell this (by simp)) (fun u hu=>by
     obtain ⟨r,hr,hu2⟩:=List.mem_flatten.1 hu;exact (Array.all_eq_true_iff_forall_mem.1 (HR.out r (hmemf r hr)).2.1) u (by simpa using hu2)) hle hg.size
   rw [<- hsucc,<- htk] at hown';have HG5:=jh (yab HGG.out hgrow (fun j hj=>.inr (yeJ hown hj)));obtain ⟨m,hm⟩:∃ m,(rs.getD k []).length = m:=⟨_,rfl⟩;rw [hm] at c1 hrun;have HO5:=jh hown';clear hc1 hrow hmemf h36 hsucc htk hle hown hgrow hg hown' hm;go_wp2_with (at_builtin;refine yac rfl v' (yaw (.tmp 37) (.tmp 43) 39 rfl _ _ _ rfl rfl hrun) ?_)
   go_roundw
   all_goals have hw9:wrap64 ((k:Int) + 1) = ((k + 1:Nat):Int):=by have:=HNA.out;unfold wrap64;omega
   case rel=>exact ⟨k + 1,congrArg (je3 .i64) hw9,by omega,HO5.out,HG5.out⟩
   case measure=>rw [hw9];simp [intOf];omega
  ·have q1:¬ (k:Int) < (nA:Int):=by omega
   have hkn:k = rs.length:=by rw [HLN.out];omega
   subst hkn;rw [yeX,List.take_length] at hown;obtain ⟨A9,c9,hv9,htx⟩:=ygp hown (HRR.out.grown hg (jle _)) hg.size;replace hv9:A' = A9 /\ cc = c9:=by injection hv9 with e1 e2 e3;exact ⟨e1,e3⟩
   obtain ⟨rfl,rfl⟩:=hv9;have e2:=HL.out;rw [yeX,e2];replace htx:TxsR wr.heap.size wr S.all A' S.all.length:=htx;have HT:=jh htx;have BHT:=jh (jle wr.heap.size);have H1:=jh (H1.out.kept hg);have HG:=jh (yab HG.out hg (by simp));obtain ⟨m,hm⟩:∃ m,S.all.length = m:=⟨_,rfl⟩;have HM9:=jh hm;clear hown htx hg e2 hlt hk HGG;go_upto_region 15 with (fail)
   clear q1 hbc;rw [hm];clear hm;refine jwl ?_;refine zm 9 (.slice A' m cc) rfl ?_;refine zm 1 (.int .u64 (ch:Int)) rfl ?_;simp only [jp,jb,jz,js];have hc:=yis _ A' m cc S.all ch wr (by have:=HT.out;rw [HM9.out] at this;exact this) BHT.out (by have:=HF.out.2.2.2;have:=HM9.out;omega) HOK.out.txs;have hpc:ycZ S.all ch = yd0 S.all:=by unfold ycZ;rw [if_pos HCOL.out]
   rw [hpc,HCC.out,HCOL.out] at hc;refine yah rfl 18 #[.slice A' m cc,.int .u64 (ch:Int)] (yao _ (.tmp 46) (.tmp 47) _ rfl _ _ rfl rfl (jeo Tryz.func18 (by kernel_rfl) rfl _ _)) (hc.mono ?_);clear hc hpc;rintro e w5 ⟨rfl,hg⟩;have HG:=jh (yab HG.out hg (by simp));have H1:=jh (H1.out.kept hg);clear hg;refine ⟨_,rfl,?_⟩;simp only [jp,jb,jz,js];refine zm 48 (.tuple #[.string C,.int .i64 0]) rfl ?_;simp only [jp,jb,jz,js];refine zg (.string C) ?_;simp only [jp,jb,jz,js];refine zg (.int .i64 0) ?_;simp only [jp,jb,jz,js];refine zg (.string C) ?_;simp only [jp,jb,jz,js];refine zg (.int .i64 0) ?_;simp only [jp,jb,jz,js];refine jwn ?_;go_upto_region 16 with (fail)
   refine jwl ?_;refine zm 5 (.bool true) rfl ?_;refine zm 51 (.bool true) rfl ?_;simp only [jp,jb,jz,js];refine yad rfl (.int .i64 0) (yaq (.tmp 12) rfl _ rfl) ?_;simp only [jp,jb,jz,js];refine yad rfl (.bool true) (by go_simp <;> rfl) ?_;simp only [jp,jb,jz,js];refine yac rfl (.bool true) (yax (.tmp 52) (.tmp 54) _ rfl true rfl _ rfl) ?_;simp only [jp,jb,jz,js];refine zm 55 (.bool true) rfl ?_;simp only [jp,jb,jz,js];refine yad rfl (.string C) (yaq (.tmp 11) rfl _ rfl) ?_;simp only [jp,jb,jz,js];refine yad rfl (.int .i64 (C.size:Int)) (by go_simp <;> rfl) ?_;simp only [jp,jb,jz,js];refine yad rfl (.string B) (yaq (.tmp 7) rfl _ rfl) ?_;simp only [jp,jb,jz,js];refine yad rfl (.int .i64 (B.size:Int)) (by go_simp <;> rfl) ?_;simp only [jp,jb,jz,js];have d1:decide ((C.size:Int) <= (B.size:Int)) = true:=decide_eq_true (by have:=HCB.out;omega);have d2:C.size <= B.size:=HCB.out;refine yad rfl (.bool true) (by go_simp <;> first | rfl | simp [d2] | omega) ?_;simp only [jp,jb,jz,js];refine yac rfl (.bool true) (yax (.tmp 56) (.tmp 61) _ rfl true rfl _ rfl) ?_;simp only [jp,jb,jz,js];refine zm 62 (.bool true) rfl ?_;simp only [jp,jb,jz,js];refine yad rfl (.string B) (yaq (.tmp 7) rfl _ rfl) ?_;simp only [jp,jb,jz,js];refine yad rfl (.string B) (yaq (.tmp 7) rfl _ rfl) ?_;simp only [jp,jb,jz,js];refine yad rfl (.int .i64 (B.size:Int)) (by go_simp <;> rfl) ?_;simp only [jp,jb,jz,js];refine yad rfl (.string C) (yaq (.tmp 11) rfl _ rfl) ?_;simp only [jp,jb,jz,js];refine yad rfl (.int .i64 (C.size:Int)) (by go_simp <;> rfl) ?_;simp only [jp,jb,jz,js]
   have z6:IntKind.i64.wrap ((B.size:Int) - (C.size:Int)) = (D:Int):=by
    have h1:=HDD.out;have h2:=HBZ.out;rw [show (B.size:Int) - (C.size:Int) = (D:Int) by omega];exact ya5 (by omega)
   have z7:=HCUT.out;have z8:D <= B.size:=by have h1:=HDD.out;omega
   refine yad rfl (.int .i64 (D:Int)) (by go_simp <;> first | rfl | (rw [z6]) | exact z6) ?_;simp only [jp,jb,jz,js];refine yad rfl (.string C) (by go_simp <;> first | rfl | (simp [z7];done) | (rw [z7]) | omega) ?_;simp only [jp,jb,jz,js];refine yad rfl (.string C) (yaq (.tmp 11) rfl _ rfl) ?_;simp only [jp,jb,jz,js];refine yad rfl (.bool true) (by go_simp <;> first | rfl | simp) ?_;simp only [jp,jb,jz,js];refine yac rfl (.bool true) (yax (.tmp 63) (.tmp 72) _ rfl true rfl _ rfl) ?_;simp only [jp,jb,jz,js];refine zm 73 (.bool true) rfl ?_;simp only [jp,jb,jz,js];refine yad rfl (.slice A' m cc) (yaq (.tmp 9) rfl _ rfl) ?_;simp only [jp,jb,jz,js];refine yad rfl (.int .i64 (m:Int)) (by go_simp <;> rfl) ?_;simp only [jp,jb,jz,js];obtain ⟨AA,nA,cA,hxA,hrA,hnA⟩:=H1.out;refine yad rfl (.agg (spC S AA nA cA)) (yai rfl rfl 25 _ _ hxA ja3 rfl (by kernel_rfl)) ?_;simp only [jp,jb,jz,js];have hc:=yd8 S _ AA nA cA w5 hrA (jle _) hnA (by have:=HF.out.2.2.2;omega);rw [HM9.out] at hc;refine yaG rfl 15 #[.agg (spC S AA nA cA)] (yam _ (.tmp 77) _ rfl _ rfl (jeo Tryz.func15 (by kernel_rfl) rfl _ _)) (hc.mono ?_);clear hc;rintro e w6 ⟨rfl,hg⟩;have HG:=jh (yab HG.out hg (by simp));have H1:=jh (H1.out.kept hg);clear hg;refine ⟨_,rfl,?_⟩;simp only [jp,jb,jz,js];clear hxA hrA hnA;refine yad rfl (.bool true) (by go_simp <;> first | rfl | simp) ?_;simp only [jp,jb,jz,js];refine yac rfl (.bool true) (yax (.tmp 74) (.tmp 79) _ rfl true rfl _ rfl) ?_;simp only [jp,jb,jz,js];refine zg (.bool true) ?_;simp only [jp,jb,jz,js];refine jwn ?_;clear d1 d2 z6 z7 z8;go_wp2_with fail
   go_ret
   exact ⟨rfl,HG.out⟩
end Go.Proofs.YtmaggfokhlodnaaGreatDoor
