/- Merged: UnrG, UnrH, UnrI, UnrK, UnrL, UnrJ, UnrM, UnrN, UnrO, Set5, CoA, CoB, TxA, TxB, TxC, CoC. -/
import Derived.Test.YtgclnikdkfpflaaGreatDoorMv1
import Derived.Test.YtgclnikdkfpflaaGreatDoorMv2
import Derived.Maps.AppendAt
import Derived.Laws.EntriesVeiled
import Derived.Deep.DeepCutAuto
import Derived.Deep.MidRow
import Derived.Laws.StructEq
import Derived.Deep.WholeRow
namespace Go.Proofs.YtgclnikdkfpflaaGreatDoor
open Go.RowKit Go.Shelf
open List renaming set_cons_zero → jz, set_cons_succ → js, setIfInBounds_toArray → jb
set_option linter.unusedVariables false
set_option linter.unusedSimpArgs false
set_option maxRecDepth 100000
set_option maxHeartbeats 16000000
open Lib renaming hid → jh
open Act renaming put → jp
open World.grownBy renaming refl → jr
open _root_.List renaming getD_eq_getElem?_getD → jg, getElem?_eq_getElem → je, getElem?_cons_zero → jcz, getElem?_cons_succ → jcs, getElem?_toArray → jta, getElem?_append_right → jar, getElem?_append_left → jal, length_cons → jlc, setIfInBounds_toArray → jb2, size_toArray → jd9, set_cons_zero → je0, cons → je5
open _root_.Array renaming getElem?_eq_some_iff → jes, getElem?_eq_getElem → jb4
open World renaming size_alloc → jsa, ownsRow_nil → jon, setCell → jd5
open KeepsOthers renaming setCell → jks
open Below renaming heap_setCell → jhs, refl → jc5
open IntWalk renaming i64_in → jii
open _root_.Nat renaming le_trans → jlt, le_refl → jle
open _root_.Go.Proofs.Tryz renaming prog → jq, underlying104 → ja7
open Go renaming wp_region_list → jwl, bodyPost_ret → jbr, wpAnyH_done → jwd, wp_region_held → jwh, setRow_other → jso, run_append_own_at → jra
open _root_.Go.Proofs renaming enters_of → jeo
open Value renaming oneCell' → ja2, slice → ja4, string → ja8, ownBlock → jc2
theorem ynp (r B8 B4 B7 base k:Nat) (s:ByteArray) (p:Int) (v:Value) (cells:List Value) (Post:Bool -> ByteArray -> Value -> Int -> World -> Prop) (W:World)
  (b8:Boxed W B8 195 (.func (.func 154) #[.pointer (some ⟨r,0,none⟩)] #[])) (b4:Boxed W B4 9 (.string s)) (b7:Blk W B7 106 #[.bool true,.string .empty,v])
  (hown:W.ownsRow base 106 3 v k cells) (hr:r < base) (hB7:B7 < base) (hr7:r ≠ B7) (hbase:base <= W.heap.size) (hk:k <= 1000)
  (hit:Calls jq 154 #[.pointer (some ⟨r,0,none⟩),.string s,.int .i64 p] W fun e W1=>∃ l b sA sn sc tz,e = .returned (.tuple #[.agg #[.bool l,.string b,.slice sA sn sc],.int .i64 tz]) /\ W.grownBy W1 (some r) /\ Post l b (.slice sA sn sc) tz W1) :
  Calls jq 191 #[.int .i64 p,.pointer (some ⟨B8,0,none⟩),.pointer (some ⟨B4,0,none⟩),.pointer (some ⟨B7,0,none⟩)] W fun e W'=>∃ l b sv tz W1 v',e = .returned (.int .i64 tz) /\ Post l b sv tz W1 /\ W.grownBy W1 (some r) /\
   KeepsW (fun j=>j < W1.heap.size /\ j ≠ B7 /\ v.ownBlock ≠ some j) W1 W' /\ Blk W' B7 106 #[.bool true,.string .empty,v'] /\ W'.ownsRow base 106 3 v' (k + 1) (cells ++ [.bool l,.string b,sv]) /\ (v'.ownBlock = v.ownBlock \/ ∃ g,v'.ownBlock = some g /\ W1.heap.size <= g):=by
 have c8:=b8.cell;have c4:=b4.cell;go_enter Tryz.func191,Tryz.ntmps191
 go_wp2_with fail
 refine hit.mono ?_;rintro e W1 ⟨l,b,sA,sn,sc,tz,rfl,hg,hpost⟩;have d7:=b7.grown hg (by simp;omega);have down:=hown.kept hg (.inr (by intro e;have:=yaj hown e;omega));have hz1:=hg.size;obtain ⟨vA,vc,rfl⟩:=yaK hown;have hcl:cells.length = k * 3:=hown.1;have HP:=jh hpost;clear c8 c4 b8 b4 b7 hown hit hpost;go_wp2_with fail
 have bx:=Blk.new W1 106 #[.bool l,.string b,.slice sA sn sc];have e7:=d7.alloc (.cells #[.bool l,.string b,.slice sA sn sc] 106);have hnb:=ynu down;have eown:=down.kept (yaa (jr W1 none) (.cells #[.bool l,.string b,.slice sA sn sc] 106)) (by cases vA;exact .inl rfl;exact .inr (by simp [jc2]));have hbw:Below W1.heap.size W1 (W1.alloc (.cells #[.bool l,.string b,.slice sA sn sc] 106)):=(jc5 _ _).alloc (jle _) _;have hz2:(W1.alloc (.cells #[.bool l,.string b,.slice sA sn sc] 106)).heap.size = W1.heap.size + 1:=by simp
 have hlt:∀ g,(ja4 vA k vc).ownBlock = some g -> base <= g /\ g < W1.heap.size:=fun g e=>⟨yaj down e,ycH down e⟩;generalize W1.alloc (.cells #[.bool l,.string b,.slice sA sn sc] 106) = W2 at *;refine jwh (S:=fun W=>Blk W W1.heap.size 106 #[.bool l,.string b,.slice sA sn sc]) (by kernel_rfl) ?_;change wpAnyH _ _ _ _ _ _ _ _ W2.drew;replace bx:Blk W2.drew W1.heap.size 106 #[.bool l,.string b,.slice sA sn sc]:=bx;replace e7:Blk W2.drew B7 106 #[.bool true,.string .empty,.slice vA k vc]:=e7;replace eown:W2.drew.ownsRow base 106 3 (.slice vA k vc) k cells:=eown;replace hbw:Below W1.heap.size W1 W2.drew:=⟨hbw.os,hbw.tape,hbw.output,hbw.size,hbw.block⟩;replace hz2:W2.drew.heap.size = W1.heap.size + 1:=hz2;generalize W2.drew = u0 at *;clear d7 down;obtain ⟨N1,hN1⟩:∃ N,W1.heap.size = N:=⟨_,rfl⟩;rw [hN1] at bx hbw hz2 hnb hlt ⊢;refine zt 0 (.pointer (some ⟨B7,2,none⟩)) (some 15) rfl (fun W hW=>by go_simp) bx ?_;simp only [jp,jb,jz,js];refine zt 2 (.agg #[.bool l,.string b,.slice sA sn sc]) (some 17) rfl (fun W hW=>ykP (.tmp 6) rfl rfl (Blk.cell hW 0) (Blk.cell hW 1) (Blk.cell hW 2)) bx ?_;simp only [jp,jb,jz,js];obtain ⟨i0,hi,hz0,hzs,hzb⟩:=info_parts ybr;refine yc5 (i:=1) (j:=4) (by kernel_rfl) ?_ ?_
 ·refine yal (some 16) rfl rfl (.slice vA k vc) (ybI 104 (.tmp 15) rfl _ rfl _ _ ja7 rfl (e7.cell 2)) rfl bx ?_;simp only [jp,jb,jz,js];refine zt 3 (.int .i64 (k:Int)) (some 18) rfl (fun W hW=>by go_simp) bx ?_;simp only [jp,jb,jz,js];refine yam (i:=4) (by kernel_rfl) ?_;refine yal (some 19) rfl rfl (.slice (some ⟨u0.heap.size,0,none⟩) 1 1) (by go_simp <;> rfl) rfl (bx.alloc (.cells #[.bool false,.string ⟨#[]⟩,.slice none 0 0] 106)) ?_;simp only [jp,jb,jz,js];have by_:=bx.alloc (.cells #[.bool false,.string ⟨#[]⟩,.slice none 0 0] 106);have ey:=e7.alloc (.cells #[.bool false,.string ⟨#[]⟩,.slice none 0 0] 106);obtain ⟨v',u2,hrun,hown',hgrow,hiff,hob⟩:=jra (P:=jq) (u0.alloc (.cells #[.bool false,.string ⟨#[]⟩,.slice none 0 0] 106)) base 104 104 106 i0 _ 3 48 ja7 hi hz0 hzs hzb rfl (by decide) (.slice vA k vc) k cells (eown.kept (yaa (jr u0 none) _) (by cases vA;exact .inl rfl;exact .inr (by simp [jc2]))) ⟨u0.heap.size,0,none⟩ 1 1 [.bool false,.string ⟨#[]⟩,.slice none 0 0] rfl (yaJ _ _ _ _ _) (by simp [ja2]) (by simp only [maxLen];omega) (by omega) (by simp;omega);obtain ⟨g',cap',rfl⟩:=ownsRow_succ hown';obtain ⟨cur,hcur,hcs,hlast⟩:=yeT (.bool l) (.string b) (.slice sA sn sc) hcl hown';refine yam (i:=5) (by kernel_rfl) ?_;have hb2:Blk u2 N1 106 #[.bool l,.string b,.slice sA sn sc]:=by_.grown hgrow (by intro e;exact hnb e.symm);refine yal (some 20) rfl rfl (.slice (some ⟨g',0,none⟩) (k + 1) cap') (ya7 (.tmp 16) (.tmp 19) 104 rfl _ _ _ rfl rfl hrun) rfl hb2 ?_;simp only [jp,jb,jz,js];refine zt 8 (.pointer (some ⟨B7,2,none⟩)) (some 22) rfl (fun W hW=>by go_simp) hb2 ?_;simp only [jp,jb,jz,js];refine zt 6 (.pointer (some ⟨g',k * 3,none⟩)) (some 21) rfl (fun W hW=>by go_simp;intro hle;omega) hb2 ?_;simp only [jp,jb,jz,js];have hgb:base <= g':=yaj hown' rfl
  have hgN:g' ≠ N1:=by
   rcases hob with e | e
   ·intro e2;exact hnb (e.symm.trans (by simp [jc2,e2]))
   ·simp [jc2] at e;omega
  have hob2:(ja4 (some ⟨g',0,none⟩) (k + 1) cap').ownBlock = (ja4 vA k vc).ownBlock \/ ∃ q,(ja4 (some ⟨g',0,none⟩) (k + 1) cap').ownBlock = some q /\ N1 <= q:=by
   rcases hob with e | e
   ·exact .inl e
   ·refine .inr ⟨_,e,?_⟩
    simp;omega
  have e7u:Blk u2 B7 106 #[.bool true,.string .empty,.slice vA k vc]:=ey.grown hgrow (by intro e;have:=(hlt _ e.symm).1;omega)
  have hkw:KeepsW (fun j=>j < N1 /\ j ≠ B7 /\ (ja4 vA k vc).ownBlock ≠ some j) W1 u2:=by
   refine ⟨hgrow.os.trans hbw.os,hgrow.tape.trans hbw.tape,hgrow.output.trans hbw.output,?_,fun j hj=>?_⟩
   ·have:=hgrow.size;simp at this;omega
   ·rw [hgrow.block j (by simp;omega) (fun e=>hj.2.2 e.symm),Below.heap_alloc _ _ _ (by omega)];exact hbw.block j hj.1
  have hgS:¬ (g' < N1 /\ g' ≠ B7 /\ (ja4 vA k vc).ownBlock ≠ some g'):=by
   rintro ⟨a1,a2,a3⟩;rcases hob with e | e
   ·exact a3 (e.symm.trans rfl)
   ·simp [jc2] at e;omega
  refine yc5 (i:=7) (j:=9) (by kernel_rfl) ?_ ?_
  ·refine yaO rfl rfl (ycK (.tmp 21) (.tmp 17) rfl rfl rfl hcur hcs) (((hb2.far (p:=⟨g',k * 3,none⟩) (Ne.symm hgN) _).far (p:=⟨g',k * 3 + 1,none⟩) (Ne.symm hgN) _).far (p:=⟨g',k * 3 + 2,none⟩) (Ne.symm hgN) _) ?_;simp only [jp,jb,jz,js];have e7v:=((e7u.far (p:=⟨g',k * 3,none⟩) (by show B7 ≠ g';omega) (.bool l)).far (p:=⟨g',k * 3 + 1,none⟩) (by show B7 ≠ g';omega) (.string b)).far (p:=⟨g',k * 3 + 2,none⟩) (by show B7 ≠ g';omega) (.slice sA sn sc);have hb3:=((hb2.far (p:=⟨g',k * 3,none⟩) (Ne.symm hgN) (.bool l)).far (p:=⟨g',k * 3 + 1,none⟩) (Ne.symm hgN) (.string b)).far (p:=⟨g',k * 3 + 2,none⟩) (Ne.symm hgN) (.slice sA sn sc);have hk3:=((hkw.set (p:=⟨g',k * 3,none⟩) hgS (.bool l)).set (p:=⟨g',k * 3 + 1,none⟩) hgS (.string b)).set (p:=⟨g',k * 3 + 2,none⟩) hgS (.slice sA sn sc);have hk4:=hk3.set (p:=⟨B7,2,none⟩) (by rintro ⟨_,h,_⟩;exact h rfl) (.slice (some ⟨g',0,none⟩) (k + 1) cap');have e7w:=e7v.set_ 2 (.slice (some ⟨g',0,none⟩) (k + 1) cap');simp only [jb2,je0,List.set_cons_succ] at e7w;have hl2:=yda hlast (p:=⟨B7,2,none⟩) (by show g' ≠ B7;omega) (.slice (some ⟨g',0,none⟩) (k + 1) cap');refine yam (i:=9) (by kernel_rfl) ?_;refine yaO rfl rfl (yaG (.tmp 22) (.tmp 20) rfl rfl rfl e7v (by simp)) (hb3.far (p:=⟨B7,2,none⟩) (by show N1 ≠ B7;omega) _) ?_;simp only [jp,jb,jz,js];refine jwd (by kernel_rfl) ?_ _;clear e7v hb3 hk3 hlast e7u hkw hown' hrun hgrow bx e7 eown hbw;go_wp2_with fail
   go_ret
   exact ⟨l,b,.slice sA sn sc,tz,W1,_,rfl,HP.out,hg,by rw [hN1];exact hk4,e7w,hl2,by rw [hN1];exact hob2⟩
  ·have hown2:=yda hown' (p:=⟨B7,2,none⟩) (by show g' ≠ B7;omega) (.slice (some ⟨g',0,none⟩) (k + 1) cap');have e7w:=e7u.set_ 2 (.slice (some ⟨g',0,none⟩) (k + 1) cap');simp only [jb2,je0,List.set_cons_succ] at e7w;have hb3:=hb2.far (p:=⟨B7,2,none⟩) (by show N1 ≠ B7;omega) (.slice (some ⟨g',0,none⟩) (k + 1) cap');have hk3:=hkw.set (p:=⟨B7,2,none⟩) (by rintro ⟨_,h,_⟩;exact h rfl) (.slice (some ⟨g',0,none⟩) (k + 1) cap');obtain ⟨cur2,hcur2,hcs2,hlast2⟩:=yeT (.bool l) (.string b) (.slice sA sn sc) hcl hown2;refine yaO rfl rfl (yaG (.tmp 22) (.tmp 20) rfl rfl rfl e7u (by simp)) hb3 ?_;simp only [jp,jb,jz,js];refine yam (i:=7) (by kernel_rfl) ?_;have e7x:=((e7w.far (p:=⟨g',k * 3,none⟩) (by show B7 ≠ g';omega) (.bool l)).far (p:=⟨g',k * 3 + 1,none⟩) (by show B7 ≠ g';omega) (.string b)).far (p:=⟨g',k * 3 + 2,none⟩) (by show B7 ≠ g';omega) (.slice sA sn sc);have hk4:=((hk3.set (p:=⟨g',k * 3,none⟩) hgS (.bool l)).set (p:=⟨g',k * 3 + 1,none⟩) hgS (.string b)).set (p:=⟨g',k * 3 + 2,none⟩) hgS (.slice sA sn sc);refine yaO rfl rfl (ycK (.tmp 21) (.tmp 17) rfl rfl rfl hcur2 hcs2) (((hb3.far (p:=⟨g',k * 3,none⟩) (Ne.symm hgN) _).far (p:=⟨g',k * 3 + 1,none⟩) (Ne.symm hgN) _).far (p:=⟨g',k * 3 + 2,none⟩) (Ne.symm hgN) _) ?_;simp only [jp,jb,jz,js];refine jwd (by kernel_rfl) ?_ _;clear hb3 hk3 hlast e7u hkw hown' hown2 hrun hgrow bx e7 eown hbw;go_wp2_with fail
   go_ret
   exact ⟨l,b,.slice sA sn sc,tz,W1,_,rfl,HP.out,hg,by rw [hN1];exact hk4,e7x,hlast2,by rw [hN1];exact hob2⟩
 ·refine yal (some 19) rfl rfl (.slice (some ⟨u0.heap.size,0,none⟩) 1 1) (by go_simp <;> rfl) rfl (bx.alloc (.cells #[.bool false,.string ⟨#[]⟩,.slice none 0 0] 106)) ?_;simp only [jp,jb,jz,js];refine yam (i:=1) (by kernel_rfl) ?_;refine yal (some 16) rfl rfl (.slice vA k vc) (ybI 104 (.tmp 15) rfl _ rfl _ _ ja7 rfl ((e7.alloc _).cell 2)) rfl (bx.alloc _) ?_;simp only [jp,jb,jz,js];refine zt 3 (.int .i64 (k:Int)) (some 18) rfl (fun W hW=>by go_simp) (bx.alloc _) ?_;simp only [jp,jb,jz,js];have by_:=bx.alloc (.cells #[.bool false,.string ⟨#[]⟩,.slice none 0 0] 106);have ey:=e7.alloc (.cells #[.bool false,.string ⟨#[]⟩,.slice none 0 0] 106);obtain ⟨v',u2,hrun,hown',hgrow,hiff,hob⟩:=jra (P:=jq) (u0.alloc (.cells #[.bool false,.string ⟨#[]⟩,.slice none 0 0] 106)) base 104 104 106 i0 _ 3 48 ja7 hi hz0 hzs hzb rfl (by decide) (.slice vA k vc) k cells (eown.kept (yaa (jr u0 none) _) (by cases vA;exact .inl rfl;exact .inr (by simp [jc2]))) ⟨u0.heap.size,0,none⟩ 1 1 [.bool false,.string ⟨#[]⟩,.slice none 0 0] rfl (yaJ _ _ _ _ _) (by simp [ja2]) (by simp only [maxLen];omega) (by omega) (by simp;omega);obtain ⟨g',cap',rfl⟩:=ownsRow_succ hown';obtain ⟨cur,hcur,hcs,hlast⟩:=yeT (.bool l) (.string b) (.slice sA sn sc) hcl hown';refine yam (i:=5) (by kernel_rfl) ?_;have hb2:Blk u2 N1 106 #[.bool l,.string b,.slice sA sn sc]:=by_.grown hgrow (by intro e;exact hnb e.symm);refine yal (some 20) rfl rfl (.slice (some ⟨g',0,none⟩) (k + 1) cap') (ya7 (.tmp 16) (.tmp 19) 104 rfl _ _ _ rfl rfl hrun) rfl hb2 ?_;simp only [jp,jb,jz,js];refine zt 8 (.pointer (some ⟨B7,2,none⟩)) (some 22) rfl (fun W hW=>by go_simp) hb2 ?_;simp only [jp,jb,jz,js];refine zt 6 (.pointer (some ⟨g',k * 3,none⟩)) (some 21) rfl (fun W hW=>by go_simp;intro hle;omega) hb2 ?_;simp only [jp,jb,jz,js];have hgb:base <= g':=yaj hown' rfl
  have hgN:g' ≠ N1:=by
   rcases hob with e | e
   ·intro e2;exact hnb (e.symm.trans (by simp [jc2,e2]))
   ·simp [jc2] at e;omega
  have hob2:(ja4 (some ⟨g',0,none⟩) (k + 1) cap').ownBlock = (ja4 vA k vc).ownBlock \/ ∃ q,(ja4 (some ⟨g',0,none⟩) (k + 1) cap').ownBlock = some q /\ N1 <= q:=by
   rcases hob with e | e
   ·exact .inl e
   ·refine .inr ⟨_,e,?_⟩
    simp;omega
  have e7u:Blk u2 B7 106 #[.bool true,.string .empty,.slice vA k vc]:=ey.grown hgrow (by intro e;have:=(hlt _ e.symm).1;omega)
  have hkw:KeepsW (fun j=>j < N1 /\ j ≠ B7 /\ (ja4 vA k vc).ownBlock ≠ some j) W1 u2:=by
   refine ⟨hgrow.os.trans hbw.os,hgrow.tape.trans hbw.tape,hgrow.output.trans hbw.output,?_,fun j hj=>?_⟩
   ·have:=hgrow.size;simp at this;omega
   ·rw [hgrow.block j (by simp;omega) (fun e=>hj.2.2 e.symm),Below.heap_alloc _ _ _ (by omega)];exact hbw.block j hj.1
  have hgS:¬ (g' < N1 /\ g' ≠ B7 /\ (ja4 vA k vc).ownBlock ≠ some g'):=by
   rintro ⟨a1,a2,a3⟩;rcases hob with e | e
   ·exact a3 (e.symm.trans rfl)
   ·simp [jc2] at e;omega
  refine yc5 (i:=7) (j:=9) (by kernel_rfl) ?_ ?_
  ·refine yaO rfl rfl (ycK (.tmp 21) (.tmp 17) rfl rfl rfl hcur hcs) (((hb2.far (p:=⟨g',k * 3,none⟩) (Ne.symm hgN) _).far (p:=⟨g',k * 3 + 1,none⟩) (Ne.symm hgN) _).far (p:=⟨g',k * 3 + 2,none⟩) (Ne.symm hgN) _) ?_;simp only [jp,jb,jz,js];have e7v:=((e7u.far (p:=⟨g',k * 3,none⟩) (by show B7 ≠ g';omega) (.bool l)).far (p:=⟨g',k * 3 + 1,none⟩) (by show B7 ≠ g';omega) (.string b)).far (p:=⟨g',k * 3 + 2,none⟩) (by show B7 ≠ g';omega) (.slice sA sn sc);have hb3:=((hb2.far (p:=⟨g',k * 3,none⟩) (Ne.symm hgN) (.bool l)).far (p:=⟨g',k * 3 + 1,none⟩) (Ne.symm hgN) (.string b)).far (p:=⟨g',k * 3 + 2,none⟩) (Ne.symm hgN) (.slice sA sn sc);have hk3:=((hkw.set (p:=⟨g',k * 3,none⟩) hgS (.bool l)).set (p:=⟨g',k * 3 + 1,none⟩) hgS (.string b)).set (p:=⟨g',k * 3 + 2,none⟩) hgS (.slice sA sn sc);have hk4:=hk3.set (p:=⟨B7,2,none⟩) (by rintro ⟨_,h,_⟩;exact h rfl) (.slice (some ⟨g',0,none⟩) (k + 1) cap');have e7w:=e7v.set_ 2 (.slice (some ⟨g',0,none⟩) (k + 1) cap');simp only [jb2,je0,List.set_cons_succ] at e7w;have hl2:=yda hlast (p:=⟨B7,2,none⟩) (by show g' ≠ B7;omega) (.slice (some ⟨g',0,none⟩) (k + 1) cap');refine yam (i:=9) (by kernel_rfl) ?_;refine yaO rfl rfl (yaG (.tmp 22) (.tmp 20) rfl rfl rfl e7v (by simp)) (hb3.far (p:=⟨B7,2,none⟩) (by show N1 ≠ B7;omega) _) ?_;simp only [jp,jb,jz,js];refine jwd (by kernel_rfl) ?_ _;clear e7v hb3 hk3 hlast e7u hkw hown' hrun hgrow bx e7 eown hbw;go_wp2_with fail
   go_ret
   exact ⟨l,b,.slice sA sn sc,tz,W1,_,rfl,HP.out,hg,by rw [hN1];exact hk4,e7w,hl2,by rw [hN1];exact hob2⟩
  ·have hown2:=yda hown' (p:=⟨B7,2,none⟩) (by show g' ≠ B7;omega) (.slice (some ⟨g',0,none⟩) (k + 1) cap');have e7w:=e7u.set_ 2 (.slice (some ⟨g',0,none⟩) (k + 1) cap');simp only [jb2,je0,List.set_cons_succ] at e7w;have hb3:=hb2.far (p:=⟨B7,2,none⟩) (by show N1 ≠ B7;omega) (.slice (some ⟨g',0,none⟩) (k + 1) cap');have hk3:=hkw.set (p:=⟨B7,2,none⟩) (by rintro ⟨_,h,_⟩;exact h rfl) (.slice (some ⟨g',0,none⟩) (k + 1) cap');obtain ⟨cur2,hcur2,hcs2,hlast2⟩:=yeT (.bool l) (.string b) (.slice sA sn sc) hcl hown2;refine yaO rfl rfl (yaG (.tmp 22) (.tmp 20) rfl rfl rfl e7u (by simp)) hb3 ?_;simp only [jp,jb,jz,js];refine yam (i:=7) (by kernel_rfl) ?_;have e7x:=((e7w.far (p:=⟨g',k * 3,none⟩) (by show B7 ≠ g';omega) (.bool l)).far (p:=⟨g',k * 3 + 1,none⟩) (by show B7 ≠ g';omega) (.string b)).far (p:=⟨g',k * 3 + 2,none⟩) (by show B7 ≠ g';omega) (.slice sA sn sc);have hk4:=((hk3.set (p:=⟨g',k * 3,none⟩) hgS (.bool l)).set (p:=⟨g',k * 3 + 1,none⟩) hgS (.string b)).set (p:=⟨g',k * 3 + 2,none⟩) hgS (.slice sA sn sc);refine yaO rfl rfl (ycK (.tmp 21) (.tmp 17) rfl rfl rfl hcur2 hcs2) (((hb3.far (p:=⟨g',k * 3,none⟩) (Ne.symm hgN) _).far (p:=⟨g',k * 3 + 1,none⟩) (Ne.symm hgN) _).far (p:=⟨g',k * 3 + 2,none⟩) (Ne.symm hgN) _) ?_;simp only [jp,jb,jz,js];refine jwd (by kernel_rfl) ?_ _;clear hb3 hk3 hlast e7u hkw hown' hown2 hrun hgrow bx e7 eown hbw;go_wp2_with fail
   go_ret
   exact ⟨l,b,.slice sA sn sc,tz,W1,_,rfl,HP.out,hg,by rw [hN1];exact hk4,e7x,hlast2,by rw [hN1];exact hob2⟩
attribute [local go_sem] Oper.semAt_some
def yc9 (k:Nat) (l:List UInt8) (a r:Nat) (W:World) (lst:Bool) (b:ByteArray) (sv:Value) (tz:Int) (W1:World):Prop :=
 (∃ x to',ybx k l a = .ok (x,to') /\ tz = (to':Int) /\ lst = x.list /\ b = x.bytes /\ Blk W1 r 193 #[.int .i64 ((12 - k:Nat):Int),.int .i64 0] /\ SubV (fun g=>W.heap.size <= g) W1 x.items sv) \/
 (∃ E,ybx k l a = .error E /\ E ≠ 0 /\ Blk W1 r 193 #[.int .i64 ((12 - k:Nat):Int),.int .i64 E])
def yom (k:Nat):Prop:=∀ (s:ByteArray) (a r:Nat) (W:World),s.size <= 65536 -> a <= s.size -> Blk W r 193 #[.int .i64 ((12 - k:Nat):Int),.int .i64 0] ->
 Calls jq 154 #[.pointer (some ⟨r,0,none⟩),.string s,.int .i64 (a:Int)] W fun e W1=>∃ l b sA sn sc tz,e = .returned (.tuple #[.agg #[.bool l,.string b,.slice sA sn sc],.int .i64 tz]) /\ W.grownBy W1 (some r) /\ yc9 k s.data.toList a r W l b (.slice sA sn sc) tz W1
theorem yk2 (F en:Int) (x0 x1 x2:Value) (w:World):Calls jq 192 #[.int .i64 F,.int .i64 en,.func (.func 191) #[] #[x0,x1,x2]] w fun e w'=>e = .returned (.func (.func 201) #[] #[.pointer (some ⟨w.heap.size,0,none⟩),.pointer (some ⟨w.heap.size + 1,0,none⟩),.pointer (some ⟨w.heap.size + 1 + 1,0,none⟩)]) /\
  w' = ((w.alloc (.cells #[.int .i64 F] 3)).alloc (.cells #[.int .i64 en] 3)).alloc (.cells #[.func (.func 191) #[] #[x0,x1,x2]] 92):=by
 go_enter Tryz.func192,Tryz.ntmps192
 go_wp2_with fail
 go_ret
 exact ⟨rfl,rfl⟩
def Stays (X:Nat -> Prop) (W W':World):Prop:=∀ (g:Nat) (o:Obj),W.heap[g]? = some o -> o.isCells = true -> ¬ X g -> W'.heap[g]? = some o
theorem Stays.of_grown {W W':World} {row:Option Nat} (hg:W.grownBy W' row) (hr:∀ r,row = some r -> ∃ o:Obj,W.heap[r]? = some o /\ o.isCells = false):Stays (fun _=>False) W W':=by
 intro g o ho hc _;refine (hg.block g (jes.1 ho).1 (fun e=>?_)).trans ho;obtain ⟨o',h1,h2⟩:=hr g e.symm;rw [ho] at h1;injection h1 with h1;rw [h1] at hc;rw [hc] at h2;cases h2
theorem Stays.blk {X:Nat -> Prop} {W W':World} (h:Stays X W W') {g:Nat} {t:TypeId} {cs:Array Value} (hb:Blk W g t cs) (hx:¬ X g):Blk W' g t cs:=h g _ hb rfl hx
theorem Stays.boxed {X:Nat -> Prop} {W W':World} (h:Stays X W W') {g:Nat} {t:TypeId} {v:Value} (hb:Boxed W g t v) (hx:¬ X g):Boxed W' g t v:=h g _ hb rfl hx
theorem Stays.cell {X:Nat -> Prop} {W W':World} (h:Stays X W W') {p:Addr} {u:Value} (hc:W.cell? p = some u) (hx:¬ X p.block):W'.cell? p = some u:=by
 obtain ⟨o,ho,hoc⟩:=cells_of_cell hc;have:=h p.block o ho hoc hx;rw [<- hc];exact World.cell?_of_block (w:=W) (this.trans ho.symm)
theorem Stays.sub {X:Nat -> Prop} {W W':World} (h:Stays X W W') {S:Nat -> Prop} {xs:List Itm} {v:Value} (hs:SubV S W xs v) (hx:∀ g,S g -> ¬ X g):SubV S W' xs v:=hs.keep fun _ hp _ hu=>h.cell hu (hx _ hp)
theorem Stays.own {X:Nat -> Prop} {W W':World} (h:Stays X W W') {base:Nat} {e:TypeId} {size:Nat} {v:Value} {n:Nat} {xs:List Value} (ho:W.ownsRow base e size v n xs) (hx:∀ g,v.ownBlock = some g -> ¬ X g):W'.ownsRow base e size v n xs:=by
 refine ⟨ho.1,?_⟩;rcases ho.2 with h1 | ⟨g,cap,cur,rfl,hb,hh,rest⟩
 ·exact .inl h1
 ·exact .inr ⟨g,cap,cur,rfl,hb,h g _ hh rfl (hx g rfl),rest⟩
structure IB (w:World) (b r:Nat) (s:ByteArray) (W:World):Prop where
 hg:w.grownBy W (some r)
 q0:Boxed W b 191 (.pointer (some ⟨r,0,none⟩))
 q1:Boxed W (b + 1) 9 (.string s)
 q2:Blk W (b + 2) 106 #[.bool false,.string ⟨#[]⟩,.slice none 0 0]
 q4:Boxed W (b + 4) 195 (.func (.func 154) #[.pointer (some ⟨r,0,none⟩)] #[])
 q6:Boxed W (b + 6) 3 (.int .i64 (s.size:Int))
 q7:Boxed W (b + 7) 92 (.func (.func 191) #[] #[.pointer (some ⟨b + 4,0,none⟩),.pointer (some ⟨b + 1,0,none⟩),.pointer (some ⟨b + 3,0,none⟩)])
def yfX (xs:List Itm):Except Int (List Itm) -> Except Int (List Itm)
 | .error e=>.error e
 | .ok ys=>.ok (xs ++ ys)
def IOk (rd:Nat -> Except Int (Itm × Nat)) (en F b:Nat) (v:Value) (i:Nat) (p:Int) (W:World):Prop :=
 ∃ (p':Nat) (xs:List Itm) (vs:List Value),p = (p':Int) /\ xs.length = i /\ vs.length = i /\ W.ownsRow (b + 8) 106 3 v i (yb2 xs vs) /\ (∀ j,j < i -> SubV (fun g=>b + 8 <= g /\ v.ownBlock ≠ some g) W (xs.getD j Itm.none_).items (vs.getD j undef)) /\
  ya9 rd en 513 0 F = yfX xs (ya9 rd en (513 - i) i p')
def II (w:World) (b r:Nat) (s:ByteArray) (k F:Nat) (i:Nat) (p:Int) (W:World):Prop :=
 IB w b r s W /\ Boxed W (b + 5) 3 (.int .i64 p) /\ i <= 512 /\ ∃ (E:Int) (A:Option Addr) (n c:Nat),Blk W (b + 3) 106 #[.bool true,.string ⟨#[]⟩,.slice A n c] /\ Blk W r 193 #[.int .i64 ((12 - k:Nat):Int),.int .i64 E] /\
  ((E = 0 /\ IOk (ybx k s.data.toList) s.size F b (.slice A n c) i p W) \/ (E ≠ 0 /\ ya9 (ybx k s.data.toList) s.size 513 0 F = .error E))
def II2 (w:World) (b r:Nat) (s:ByteArray) (k F:Nat) (i:Nat) (p:Int) (W:World):Prop :=
 IB w b r s W /\ Boxed W (b + 5) 3 (.int .i64 p) /\ i < 512 /\ p < (s.size:Int) /\ ∃ (A:Option Addr) (n c:Nat),Blk W (b + 3) 106 #[.bool true,.string ⟨#[]⟩,.slice A n c] /\ Blk W r 193 #[.int .i64 ((12 - k:Nat):Int),.int .i64 0] /\
  IOk (ybx k s.data.toList) s.size F b (.slice A n c) i p W
def IX (w:World) (b r:Nat) (s:ByteArray) (k F ex:Nat) (c:Code) (W:World):Prop :=
 c = .exit ex /\ IB w b r s W /\ ∃ (E:Int) (A:Option Addr) (n cp:Nat),E ≠ 0 /\ Blk W (b + 3) 106 #[.bool true,.string ⟨#[]⟩,.slice A n cp] /\ Blk W r 193 #[.int .i64 ((12 - k:Nat):Int),.int .i64 E] /\
  ya9 (ybx k s.data.toList) s.size 513 0 F = .error E
theorem IB.stays {w:World} {b r:Nat} {s:ByteArray} {W W':World} (h:IB w b r s W) {X:Nat -> Prop} (hs:Stays X W W') (hg:w.grownBy W' (some r)) (hx:∀ g,b <= g -> g <= b + 7 -> g ≠ b + 3 -> g ≠ b + 5 -> ¬ X g):IB w b r s W' :=
 ⟨hg,hs.boxed h.q0 (hx _ (by omega) (by omega) (by omega) (by omega)),hs.boxed h.q1 (hx _ (by omega) (by omega) (by omega) (by omega)),hs.blk h.q2 (hx _ (by omega) (by omega) (by omega) (by omega)),hs.boxed h.q4 (hx _ (by omega) (by omega) (by omega) (by omega)),hs.boxed h.q6 (hx _ (by omega) (by omega) (by omega) (by omega)),hs.boxed h.q7 (hx _ (by omega) (by omega) (by omega) (by omega))⟩
theorem IOk.stays {rd:Nat -> Except Int (Itm × Nat)} {en F b:Nat} {v:Value} {i:Nat} {p:Int} {W W':World} (h:IOk rd en F b v i p W) (hs:Stays (fun _=>False) W W'):IOk rd en F b v i p W':=by
 obtain ⟨p',xs,vs,h1,h2,h3,h4,h5,h6⟩:=h;exact ⟨p',xs,vs,h1,h2,h3,hs.own h4 (fun _ _=>id),fun j hj=>hs.sub (h5 j hj) (fun _ _=>id),h6⟩
theorem yft {w:World} {r B:Nat} (hB:w.heap.size <= B) {W W':World} {row:Option Nat} (h:w.grownBy W (some r)) (hg:W.grownBy W' row) (hr:∀ q,row = some q -> B <= q /\ ∃ o:Obj,W.heap[q]? = some o /\ o.isCells = false):Stays (fun _=>False) W W' /\ w.grownBy W' (some r) :=
 ⟨Stays.of_grown hg (fun q e=>(hr q e).2),yab h hg (fun q e=>.inr (jlt hB (hr q e).1))⟩
theorem II.own {w:World} {b r:Nat} {s:ByteArray} {k F B:Nat} (hB:w.heap.size <= B):OwnFrom B (fun x:Nat × Int=>II w b r s k F x.1 x.2):=by
 rintro ⟨i,p⟩ W W' row ⟨h1,h2,h3,E,A,n,c,h4,h5,h6⟩ hg hr;obtain ⟨hs,hw⟩:=yft hB h1.hg hg hr;refine ⟨h1.stays hs hw (fun _ _ _ _ _=>id),hs.boxed h2 id,h3,E,A,n,c,hs.blk h4 id,hs.blk h5 id,?_⟩;rcases h6 with ⟨e,h6⟩ | h6
 ·exact .inl ⟨e,h6.stays hs⟩
 ·exact .inr h6
theorem II2.own {w:World} {b r:Nat} {s:ByteArray} {k F B:Nat} (hB:w.heap.size <= B):OwnFrom B (fun x:Nat × Int=>II2 w b r s k F x.1 x.2):=by
 rintro ⟨i,p⟩ W W' row ⟨h1,h2,h3,h3',A,n,c,h4,h5,h6⟩ hg hr;obtain ⟨hs,hw⟩:=yft hB h1.hg hg hr;exact ⟨h1.stays hs hw (fun _ _ _ _ _=>id),hs.boxed h2 id,h3,h3',A,n,c,hs.blk h4 id,hs.blk h5 id,h6.stays hs⟩
theorem IX.own {w:World} {b r:Nat} {s:ByteArray} {k F ex B:Nat} (hB:w.heap.size <= B) (c:Code):OwnFrom B (fun _:Unit=>IX w b r s k F ex c):=by
 rintro _ W W' row ⟨h0,h1,E,A,n,cp,hE,h4,h5,h6⟩ hg hr;obtain ⟨hs,hw⟩:=yft hB h1.hg hg hr;exact ⟨h0,h1.stays hs hw (fun _ _ _ _ _=>id),E,A,n,cp,hE,hs.blk h4 id,hs.blk h5 id,h6⟩
theorem ykH {rd:Nat -> Except Int (Itm × Nat)} {en F i p:Nat} {xs:List Itm} {E:Int} (hi:i < 512) (hp:p < en) (h:ya9 rd en 513 0 F = yfX xs (ya9 rd en (513 - i) i p)) (he:rd p = .error E):ya9 rd en 513 0 F = .error E:=by
 rw [h,show 513 - i = (512 - i) + 1 by omega,ya9,if_pos hp,if_neg (by omega),he];rfl
theorem ymm {rd:Nat -> Except Int (Itm × Nat)} {en F i p q:Nat} {xs:List Itm} {x:Itm} (hi:i < 512) (hp:p < en) (h:ya9 rd en 513 0 F = yfX xs (ya9 rd en (513 - i) i p)) (he:rd p = .ok (x,q)):ya9 rd en 513 0 F = yfX (xs ++ [x]) (ya9 rd en (513 - (i + 1)) (i + 1) q):=by
 rw [h,show 513 - i = (513 - (i + 1)) + 1 by omega,ya9,if_pos hp,if_neg (by omega),he];show yfX xs (match ya9 rd en (513 - (i + 1)) (i + 1) q with | .error e=>.error e | .ok ys=>.ok (x :: ys)) = _;cases ya9 rd en (513 - (i + 1)) (i + 1) q with
 | error e=>rfl
 | ok ys=>simp [yfX]
theorem yiX {rd:Nat -> Except Int (Itm × Nat)} {en F p:Nat} {xs:List Itm} (hp:p < en) (h:ya9 rd en 513 0 F = yfX xs (ya9 rd en (513 - 512) 512 p)):ya9 rd en 513 0 F = .error 5:=by
 rw [h,show 513 - 512 = 0 + 1 from rfl,ya9,if_pos hp,if_pos (by omega)];rfl
theorem ykI {rd:Nat -> Except Int (Itm × Nat)} {en F i p:Nat} {xs:List Itm} (hi:i <= 512) (hp:¬ p < en) (h:ya9 rd en 513 0 F = yfX xs (ya9 rd en (513 - i) i p)):ya9 rd en 513 0 F = .ok xs:=by
 rw [h,show 513 - i = (512 - i) + 1 by omega,ya9,if_neg hp];simp [yfX]
theorem ylI {w:World} {b r:Nat} {s:ByteArray} {k F i:Nat} {p:Int} {W:World} (hC:yom k) (hs:s.size <= 65536) (hb:w.heap.size = b) (hrb:r < b) (d:Nat) (h:II2 w b r s k F i p W) :
  Calls jq 191 #[.int .i64 p,.pointer (some ⟨b + 4,0,none⟩),.pointer (some ⟨b + 1,0,none⟩),.pointer (some ⟨b + 3,0,none⟩)] W fun e W'=>∃ p',e = .returned (.int .i64 p') /\ Boxed W' (b + 5) 3 (.int .i64 p) /\ KeepsFrom d W W' /\ II w b r s k F (i + 1) p' (W'.setCell ⟨b + 5,0,none⟩ (.int .i64 p')):=by
 obtain ⟨h1,h2,h3,h3',A,n,c,h4,h5,p',xs,vs,rfl,hx,hv,hown,hsub,hspec⟩:=h;have hsz:b + 7 < W.heap.size:=h1.q7.lt;have hpe:p' < s.size:=by omega
 have hown':=hown;obtain ⟨A',c',hsl⟩:=yaK hown;obtain ⟨rfl,rfl,rfl⟩:A = A' /\ n = i /\ c = c':=by simpa using hsl
 have hlt:∀ g,(ja4 A n c).ownBlock = some g -> b + 8 <= g /\ g < W.heap.size:=fun g e=>⟨yaj hown e,ycH hown e⟩;refine (ynp r (b + 4) (b + 1) (b + 3) (b + 8) n s (p':Int) (.slice A n c) (yb2 xs vs) (yc9 k s.data.toList p' r W) W h1.q4 h1.q1 h4 hown (by omega) (by omega) (by omega) (by omega) (by omega) (hC s p' r W hs (by omega) h5)).mono ?_;rintro e W' ⟨l,b',sv,tz,W1,v',rfl,hpost,hg,hkw,hB7,hown2,hob⟩;have hz1:=hg.size;obtain ⟨g',cap',rfl⟩:=ownsRow_succ hown2;have hgb:b + 8 <= g':=yaj hown2 rfl
 have keep:∀ g,g < W.heap.size -> g ≠ r -> g ≠ b + 3 -> (ja4 A n c).ownBlock ≠ some g -> W'.heap[g]? = W.heap[g]?:=fun g hg1 hg2 hg3 hg4 =>
  (hkw.block g ⟨by omega,hg3,hg4⟩).trans (hg.block g hg1 (by simpa using hg2))
 have hbx:Boxed W' (b + 5) 3 (.int .i64 (p':Int)):=(keep (b + 5) (by omega) (by omega) (by omega) (fun e=>by have:=(hlt _ e).1;omega)).trans h2;refine ⟨tz,rfl,hbx,⟨jlt hz1 hkw.size,fun g o _ ho hc=>?_⟩,?_⟩
 ·refine (keep g (jes.1 ho).1 ?_ ?_ ?_).trans ho
  ·rintro rfl;rw [show W.heap[g]? = _ from h5] at ho;cases ho;cases hc
  ·rintro rfl;rw [show W.heap[b + 3]? = _ from h4] at ho;cases ho;cases hc
  ·intro e;rcases hown.2 with ⟨hv1,_⟩ | ⟨q,cap,cur,hv1,_,hh,_⟩
   ·rw [hv1] at e;cases e
   ·rw [hv1] at e;have:q = g:=by simpa [jc2] using e
    subst this;rw [hh] at ho;cases ho;cases hc
 have hst:Stays (fun g=>g = r \/ g = b + 3 \/ g = b + 5 \/ (ja4 A n c).ownBlock = some g) W (W'.setCell ⟨b + 5,0,none⟩ (.int .i64 tz)):=by
  intro g o ho _ hx;have hx':g ≠ r /\ g ≠ b + 3 /\ g ≠ b + 5 /\ (ja4 A n c).ownBlock ≠ some g:=⟨fun e=>hx (.inl e),fun e=>hx (.inr (.inl e)),fun e=>hx (.inr (.inr (.inl e))),fun e=>hx (.inr (.inr (.inr e)))⟩;exact (jhs W' ⟨b + 5,0,none⟩ _ g (by show g ≠ b + 5;exact hx'.2.2.1)).trans ((keep g (jes.1 ho).1 hx'.1 hx'.2.1 hx'.2.2.2).trans ho)
 have hst1:Stays (fun g=>g = b + 3 \/ g = b + 5 \/ (ja4 A n c).ownBlock = some g) W1 (W'.setCell ⟨b + 5,0,none⟩ (.int .i64 tz)):=by
  intro g o ho _ hx;have hx':g ≠ b + 3 /\ g ≠ b + 5 /\ (ja4 A n c).ownBlock ≠ some g:=⟨fun e=>hx (.inl e),fun e=>hx (.inr (.inl e)),fun e=>hx (.inr (.inr e))⟩;exact (jhs W' ⟨b + 5,0,none⟩ _ g (by show g ≠ b + 5;exact hx'.2.1)).trans ((hkw.block g ⟨(jes.1 ho).1,hx'.1,hx'.2.2⟩).trans ho)
 have hgw:w.grownBy (W'.setCell ⟨b + 5,0,none⟩ (.int .i64 tz)) (some r):=by
  have h0:=h1.hg;refine ⟨(hkw.os.trans hg.os).trans h0.os,(hkw.tape.trans hg.tape).trans h0.tape,(hkw.output.trans hg.output).trans h0.output,?_,fun g hg1 hg2=>?_⟩
  ·have:=h0.size;have:=hkw.size;simp [jd5];omega
  ·have hgr:g ≠ r:=by simpa using hg2
   exact (jhs W' ⟨b + 5,0,none⟩ _ g (by show g ≠ b + 5;omega)).trans ((keep g (by omega) hgr (by omega) (fun e=>by have:=(hlt _ e).1;omega)).trans (h0.block g hg1 hg2))
 have hown3:=yda hown2 (p:=⟨b + 5,0,none⟩) (by show g' ≠ b + 5;omega) (.int .i64 tz);have hb7:=hB7.far (p:=⟨b + 5,0,none⟩) (by show b + 3 ≠ b + 5;omega) (.int .i64 tz)
 have hIB:=h1.stays hst hgw (fun g g1 g2 g3 g4=>by
  rintro (e | e | e | e)
  ·omega
  ·exact g3 e
  ·exact g4 e
  ·have:=(hlt _ e).1;omega)
 have hnr:¬ (r = b + 3 \/ r = b + 5 \/ (ja4 A n c).ownBlock = some r):=by
  rintro (e | e | e)
  ·omega
  ·omega
  ·have:=(hlt _ e).1;omega
 rcases hpost with ⟨x,q,hi,rfl,rfl,rfl,hbr,hxs⟩ | ⟨E,hi,hE,hbr⟩
 ·refine ⟨hIB,hbx.set _,by omega,0,_,_,_,hb7,hst1.blk hbr hnr,.inl ⟨rfl,q,xs ++ [x],vs ++ [sv],rfl,by simp [hx],by simp [hv],?_,fun j hj=>?_,ymm h3 hpe hspec hi⟩⟩
  ·rw [yf5 xs vs (by omega)];exact hown3
  ·have hvo:∀ g,g < W1.heap.size -> (ja4 A n c).ownBlock ≠ some g -> (ja4 (some ⟨g',0,none⟩) (n + 1) cap').ownBlock ≠ some g:=by
    intro g hg1 hg2 e;rcases hob with e2 | ⟨y,e2,hy⟩
    ·exact hg2 (e2.symm.trans e)
    ·rw [e2] at e;injection e with e;omega
   by_cases hjn:j < n
   ·rw [jg,jal (by omega),<- jg,jg (l:=vs ++ [sv]),jal (by omega),<- jg];refine (hst.sub (hsub j hjn).lt (fun g hS=>?_)).weak fun g hS=>⟨hS.1.1,hvo g (by omega) hS.1.2⟩;rintro (e | e | e | e)
    ·omega
    ·omega
    ·omega
    ·exact hS.1.2 e
   ·obtain rfl:j = n:=by omega
    rw [jg,jar (by omega),jg (l:=vs ++ [sv]),jar (by omega),hx,hv,Nat.sub_self];have hno:∀ g,W.heap.size <= g -> (ja4 A j c).ownBlock ≠ some g:=fun g hg1 e=>by have:=(hlt _ e).2;omega
    refine (hst1.sub hxs.lt (fun g hS=>?_)).weak fun g hS=>⟨by omega,hvo g hS.2 (hno g hS.1)⟩;rintro (e | e | e)
    ·omega
    ·omega
    ·exact hno g hS.1 e
 ·exact ⟨hIB,hbx.set _,by omega,E,_,_,_,hb7,hst1.blk hbr hnr,.inr ⟨hE,ykH h3 hpe hspec hi⟩⟩
attribute [local go_sem] Oper.semAt_some
theorem ycd {w:World} {g:Nat} {a b c:Value} (hg:Blk w g 106 #[a,b,c]):(loadVar 106 ⟨g,0,none⟩).run jq w = .ok (.agg #[a,b,c]) w :=
 run_loadVar_row w g 106 106 _ (0,0) _ hg Tryz.underlying106 rfl (by kernel_rfl)
theorem ymA (n:Nat) (u:FrameMode) (W:World) (b r k:Nat) (E:Int) (hk:k <= 11) (q0:Boxed W b 191 (.pointer (some ⟨r,0,none⟩))) (hr:Blk W r 193 #[.int .i64 ((12 - k:Nat):Int),.int .i64 E]) :
  CallsDIn Fence.wide n jq 190 #[.pointer (some ⟨b,0,none⟩)] u W fun e u' W'=>u' = u /\ (∃ v,e = .returned v) /\ W' = W.setCell ⟨r,0,none⟩ (.int .i64 ((11 - k:Nat):Int)):=by
 refine callsDIn_of_wp (R:=fun e W'=>(∃ v,e = .returned v) /\ W' = W.setCell ⟨r,0,none⟩ (.int .i64 ((11 - k:Nat):Int))) Tryz.func190 rfl trivial ?_ rfl;simp only [Tryz.ntmps190,jd9,jlc,List.length_nil,Nat.reduceAdd,Nat.reduceSub,Array.replicate_succ,Array.replicate_zero,List.push_toArray,List.append_toArray,List.nil_append,List.cons_append];have c0:=q0.cell;have c1:=hr.cell 0;have f1:=hr.frozen 0;simp only [jta,jcz] at c1;have v1:IntKind.i64.wrap (((12 - k:Nat):Int) - 1) = ((11 - k:Nat):Int):=by rw [jii _ (by omega)];omega
 have v2:((12 - k:Nat):Int) - 1 = ((11 - k:Nat):Int):=by omega
 gi_wp2_with fail
 go_end0
 exact ⟨⟨_,rfl⟩,rfl⟩
theorem yf3 {R:Ending -> World -> Prop} {W:World} {tmps:Array Value} {D b r k:Nat} {E:Int} {A:Option Addr} {n c:Nat} (hk:k <= 11) (hrb:r < b) (hD:b + 8 <= D) (htm:tmps.getD 6 undef = .pointer (some ⟨b + 2,0,none⟩))
  (q0:Boxed W b 191 (.pointer (some ⟨r,0,none⟩))) (q2:Blk W (b + 2) 106 #[.bool true,.string ⟨#[]⟩,.slice A n c]) (hr:Blk W r 193 #[.int .i64 ((12 - k:Nat):Int),.int .i64 E]) (hK:W.heap[D]? = some (.deferred (some [])))
  (hR:∀ W',Blk W' r 193 #[.int .i64 ((11 - k:Nat):Int),.int .i64 E] -> KeepsW (fun j=>j ≠ r /\ j ≠ D) W W' -> R (.returned (.agg #[.bool true,.string ⟨#[]⟩,.slice A n c])) W') :
  LeavesInM Fence.wide 6 jq Tryz.f174 tmps R [{ target:=.collected D,args:=#[] },{ target:=.fn (.func 190) #[.pointer (some ⟨b,0,none⟩)],args:=#[] }] .returning W:=by
 refine ⟨by simp,.inl ⟨_,_,rfl,run_takeDeferred hK,?_⟩⟩;obtain ⟨V,hV⟩:∃ V,W.putObj D (.deferred none) = V:=⟨_,rfl⟩;have hg:W.grownBy V (some D):=by rw [<- hV];exact grownBy_putObj' W D _
 have hne:∀ g,g < D -> some g ≠ some D:=fun g h e=>by injection e with e;omega
 have q0':Boxed V b 191 (.pointer (some ⟨r,0,none⟩)):=q0.kept hg (by simp;omega);have q2':=q2.grown hg (hne (b + 2) (by omega));have hr':=hr.grown hg (hne r (by omega));rw [hV];refine ⟨by simp,.inr ⟨fun _=>by omega,.func 190,#[.pointer (some ⟨b,0,none⟩)],190,#[.pointer (some ⟨b,0,none⟩)],rfl,?_,fun _ _=>trivial,?_⟩⟩
 ·simp [invoke,go_sem]
 ·refine (ymA (6 - 1) .returning V b r k E hk q0' hr').mono ?_;rintro e u' W' ⟨rfl,⟨v,rfl⟩,rfl⟩;have q2w:=q2'.far (p:=⟨r,0,none⟩) (by show b + 2 ≠ r;omega) (.int .i64 ((11 - k:Nat):Int));have hrw:=hr'.set_ 0 (.int .i64 ((11 - k:Nat):Int));simp only [jb2,je0] at hrw;refine ⟨_,yaw rfl _ _ _ _ htm (ycd q2w),hR _ hrw ⟨hg.os,hg.tape,hg.output,by simpa [jd5] using hg.size,fun j hj=>?_⟩⟩;exact (jhs V ⟨r,0,none⟩ _ j hj.1).trans (by rw [<- hV];exact World.putObj_heap_other hj.2)
theorem yf4 {w:World} {b r:Nat} {s:ByteArray} {k F i D:Nat} {p E:Int} {W W':World} {A:Option Addr} {n c:Nat} (hb:w.heap.size = b) (hrb:r < b) (hD:b + 8 <= D) (h1:IB w b r s W) (hdo:W.heap[D]? = some (.deferred (some [])))
  (hE:(E = 0 /\ IOk (ybx k s.data.toList) s.size F b (.slice A n c) i p W /\ i <= 512 /\ (s.size:Int) <= p) \/ (E ≠ 0 /\ ya9 (ybx k s.data.toList) s.size 513 0 F = .error E))
  (hkw:KeepsW (fun j=>j ≠ r /\ j ≠ D /\ j ≠ b + 2) W W') (hbr:Blk W' r 193 #[.int .i64 ((11 - k:Nat):Int),.int .i64 E]) :
  ∃ sA sn sc,Ending.returned (.agg #[.bool true,.string ⟨#[]⟩,.slice A n c]) = Ending.returned (.agg #[.bool true,.string .empty,.slice sA sn sc]) /\ w.grownBy W' (some r) /\
   ((∃ xs,ya9 (ybx k s.data.toList) s.size 513 0 F = .ok xs /\ Blk W' r 193 #[.int .i64 ((11 - k:Nat):Int),.int .i64 0] /\ SubV (fun g=>w.heap.size <= g) W' xs (.slice sA sn sc)) \/
    (∃ E,ya9 (ybx k s.data.toList) s.size 513 0 F = .error E /\ E ≠ 0 /\ Blk W' r 193 #[.int .i64 ((11 - k:Nat):Int),.int .i64 E])):=by
 have h0:=h1.hg;refine ⟨A,n,c,rfl,⟨hkw.os.trans h0.os,hkw.tape.trans h0.tape,hkw.output.trans h0.output,jlt h0.size hkw.size,fun g g1 g2=>(hkw.block g ⟨by simpa using g2,by omega,by omega⟩).trans (h0.block g g1 g2)⟩,?_⟩;rcases hE with ⟨rfl,⟨p',xs,vs,rfl,hx,hv,hown,hsub,hspec⟩,hi,hp⟩ | ⟨hE,hspec⟩
 ·refine .inl ⟨xs,ykI hi (by omega) hspec,hbr,?_⟩
  have hst:Stays (fun g=>g = r \/ g = b + 2) W W':=by
   intro g o ho hc hxx;refine (hkw.block g ⟨fun e=>hxx (.inl e),?_,fun e=>hxx (.inr e)⟩).trans ho;rintro rfl;rw [hdo] at ho;cases ho;cases hc
  obtain ⟨A',c',hsl⟩:=yaK hown;obtain ⟨rfl,rfl,rfl⟩:A = A' /\ n = i /\ c = c':=by simpa using hsl
  subst hx;refine SubV.of_own (base:=b + 8) (by omega) (hst.own hown fun g hg=>?_) (fun j hj=>(hst.sub (hsub j hj) fun g hS=>?_).weak fun g hS=>?_) fun g hg=>?_
  ·have:=yaj hown hg;rintro (e | e) <;> omega
  ·rintro (e | e) <;> omega
  ·omega
  ·have:=yaj hown hg;omega
 ·exact .inr ⟨E,hspec,hE,hbr⟩
set_option linter.unnecessarySimpa false
attribute [local go_sem] Oper.semAt_some
theorem ypx (w:World) (r:Nat) (s:ByteArray) (d e:Int) (hr:Blk w r 193 #[.int .i64 d,.int .i64 e]) :
  Blk (((((w.alloc (.cells #[.pointer (some ⟨r,0,none⟩)] 191)).alloc (.cells #[.string s] 9)).alloc (.cells #[.bool false,.string ⟨#[]⟩,.slice none 0 0] 106)).alloc (.cells #[.bool true,.string ⟨#[]⟩,.slice none 0 0] 106)).alloc (.cells #[(.func (.func 154) #[.pointer (some ⟨r,0,none⟩)] #[])] 195)) r 193 #[.int .i64 d,.int .i64 e] /\ Boxed (((((w.alloc (.cells #[.pointer (some ⟨r,0,none⟩)] 191)).alloc (.cells #[.string s] 9)).alloc (.cells #[.bool false,.string ⟨#[]⟩,.slice none 0 0] 106)).alloc (.cells #[.bool true,.string ⟨#[]⟩,.slice none 0 0] 106)).alloc (.cells #[(.func (.func 154) #[.pointer (some ⟨r,0,none⟩)] #[])] 195)) w.heap.size 191 (.pointer (some ⟨r,0,none⟩)) /\ Boxed (((((w.alloc (.cells #[.pointer (some ⟨r,0,none⟩)] 191)).alloc (.cells #[.string s] 9)).alloc (.cells #[.bool false,.string ⟨#[]⟩,.slice none 0 0] 106)).alloc (.cells #[.bool true,.string ⟨#[]⟩,.slice none 0 0] 106)).alloc (.cells #[(.func (.func 154) #[.pointer (some ⟨r,0,none⟩)] #[])] 195)) (w.heap.size + 1) 9 (.string s) /\ Blk (((((w.alloc (.cells #[.pointer (some ⟨r,0,none⟩)] 191)).alloc (.cells #[.string s] 9)).alloc (.cells #[.bool false,.string ⟨#[]⟩,.slice none 0 0] 106)).alloc (.cells #[.bool true,.string ⟨#[]⟩,.slice none 0 0] 106)).alloc (.cells #[(.func (.func 154) #[.pointer (some ⟨r,0,none⟩)] #[])] 195)) (w.heap.size + 1 + 1) 106 #[.bool false,.string ⟨#[]⟩,.slice none 0 0] /\
  Blk (((((w.alloc (.cells #[.pointer (some ⟨r,0,none⟩)] 191)).alloc (.cells #[.string s] 9)).alloc (.cells #[.bool false,.string ⟨#[]⟩,.slice none 0 0] 106)).alloc (.cells #[.bool true,.string ⟨#[]⟩,.slice none 0 0] 106)).alloc (.cells #[(.func (.func 154) #[.pointer (some ⟨r,0,none⟩)] #[])] 195)) (w.heap.size + 1 + 1 + 1) 106 #[.bool true,.string ⟨#[]⟩,.slice none 0 0] /\ Boxed (((((w.alloc (.cells #[.pointer (some ⟨r,0,none⟩)] 191)).alloc (.cells #[.string s] 9)).alloc (.cells #[.bool false,.string ⟨#[]⟩,.slice none 0 0] 106)).alloc (.cells #[.bool true,.string ⟨#[]⟩,.slice none 0 0] 106)).alloc (.cells #[(.func (.func 154) #[.pointer (some ⟨r,0,none⟩)] #[])] 195)) (w.heap.size + 1 + 1 + 1 + 1) 195 (.func (.func 154) #[.pointer (some ⟨r,0,none⟩)] #[]) /\ w.grownBy (((((w.alloc (.cells #[.pointer (some ⟨r,0,none⟩)] 191)).alloc (.cells #[.string s] 9)).alloc (.cells #[.bool false,.string ⟨#[]⟩,.slice none 0 0] 106)).alloc (.cells #[.bool true,.string ⟨#[]⟩,.slice none 0 0] 106)).alloc (.cells #[(.func (.func 154) #[.pointer (some ⟨r,0,none⟩)] #[])] 195)) none /\ (((((w.alloc (.cells #[.pointer (some ⟨r,0,none⟩)] 191)).alloc (.cells #[.string s] 9)).alloc (.cells #[.bool false,.string ⟨#[]⟩,.slice none 0 0] 106)).alloc (.cells #[.bool true,.string ⟨#[]⟩,.slice none 0 0] 106)).alloc (.cells #[(.func (.func 154) #[.pointer (some ⟨r,0,none⟩)] #[])] 195)).heap.size = w.heap.size + 5:=by
 have h0:=Boxed.new w 191 (.pointer (some ⟨r,0,none⟩));have h1:=Boxed.new (w.alloc (.cells #[.pointer (some ⟨r,0,none⟩)] 191)) 9 (.string s);have h2:=Blk.new ((w.alloc (.cells #[.pointer (some ⟨r,0,none⟩)] 191)).alloc (.cells #[.string s] 9)) 106 #[.bool false,.string ⟨#[]⟩,.slice none 0 0];have h3:=Blk.new (((w.alloc (.cells #[.pointer (some ⟨r,0,none⟩)] 191)).alloc (.cells #[.string s] 9)).alloc (.cells #[.bool false,.string ⟨#[]⟩,.slice none 0 0] 106)) 106 #[.bool true,.string ⟨#[]⟩,.slice none 0 0];have h4:=Boxed.new ((((w.alloc (.cells #[.pointer (some ⟨r,0,none⟩)] 191)).alloc (.cells #[.string s] 9)).alloc (.cells #[.bool false,.string ⟨#[]⟩,.slice none 0 0] 106)).alloc (.cells #[.bool true,.string ⟨#[]⟩,.slice none 0 0] 106)) 195 (.func (.func 154) #[.pointer (some ⟨r,0,none⟩)] #[]);simp only [jsa] at h1 h2 h3 h4;exact ⟨(((((hr.alloc _).alloc _).alloc _).alloc _).alloc _),(((h0.alloc _).alloc _).alloc _).alloc _,((h1.alloc _).alloc _).alloc _,(h2.alloc _).alloc _,h3.alloc _,h4,yaa (yaa (yaa (yaa (yaa (jr _ _) _) _) _) _) _,by simp⟩
theorem yml (k:Nat) (hk:k <= 11) (hC:yom k) (s:ByteArray) (F r:Nat) (w:World) (hs:s.size <= 65536) (hr:Blk w r 193 #[.int .i64 ((11 - k:Nat):Int),.int .i64 0]) :
  Calls jq 174 #[.pointer (some ⟨r,0,none⟩),.string s,.int .i64 (F:Int)] w fun e w'=>∃ sA sn sc,e = .returned (.agg #[.bool true,.string .empty,.slice sA sn sc]) /\ w.grownBy w' (some r) /\
   ((∃ xs,ya9 (ybx k s.data.toList) s.size 513 0 F = .ok xs /\ Blk w' r 193 #[.int .i64 ((11 - k:Nat):Int),.int .i64 0] /\ SubV (fun g=>w.heap.size <= g) w' xs (.slice sA sn sc)) \/
    (∃ E,ya9 (ybx k s.data.toList) s.size 513 0 F = .error E /\ E ≠ 0 /\ Blk w' r 193 #[.int .i64 ((11 - k:Nat):Int),.int .i64 E])):=by
 refine (callsIn_wide (n:=6)).1 ?_;refine callsIn_of_wp_marks Tryz.func174 rfl trivial ?_ rfl;simp only [Tryz.ntmps174,jd9,jlc,List.length_nil,Nat.reduceAdd,Nat.reduceSub,Array.replicate_succ,Array.replicate_zero,List.push_toArray,List.append_toArray,List.nil_append,List.cons_append];obtain ⟨q,q0,q1,q2,q3,q4,hg5,hz5⟩:=ypx w r s ((11 - k:Nat):Int) 0 hr;have hrl:=hr.lt;have p:=q.set_ 0 (.int .i64 ((12 - k:Nat):Int));simp only [jb2,je0] at p;have p0:=q0.other (B':=r) (by omega) (.int .i64 ((12 - k:Nat):Int));have p1:=q1.other (B':=r) (by omega) (.int .i64 ((12 - k:Nat):Int));have p2:=q2.far (p:=⟨r,0,none⟩) (by show w.heap.size + 1 + 1 ≠ r;omega) (.int .i64 ((12 - k:Nat):Int));have p3:=q3.far (p:=⟨r,0,none⟩) (by show w.heap.size + 1 + 1 + 1 ≠ r;omega) (.int .i64 ((12 - k:Nat):Int));have p4:=q4.other (B':=r) (by omega) (.int .i64 ((12 - k:Nat):Int));have c0:=q.cell 0;have f0:=q.frozen 0;have c1:=p0.cell;have c2:=p1.cell;simp only [jta,jcz] at c0;have v1:IntKind.i64.wrap (((11 - k:Nat):Int) + 1) = ((12 - k:Nat):Int):=by rw [jii _ (by omega)];omega
 have v2:((11 - k:Nat):Int) + 1 = ((12 - k:Nat):Int):=by omega
 gi_wp2_with fail
 refine ⟨trivial,callsIn_wide.2 ((yk2 _ _ _ _ _ _).mono ?_)⟩;have hg6:w.grownBy ((((((w.alloc (.cells #[.pointer (some ⟨r,0,none⟩)] 191)).alloc (.cells #[.string s] 9)).alloc (.cells #[.bool false,.string ⟨#[]⟩,.slice none 0 0] 106)).alloc (.cells #[.bool true,.string ⟨#[]⟩,.slice none 0 0] 106)).alloc (.cells #[(.func (.func 154) #[.pointer (some ⟨r,0,none⟩)] #[])] 195)).setCell ⟨r,0,none⟩ (.int .i64 ((12 - k:Nat):Int))) (some r):=⟨hg5.os,hg5.tape,hg5.output,by simpa [jd5] using hg5.size,fun g h1 h2=>(jhs _ ⟨r,0,none⟩ _ g (by simpa using h2)).trans (hg5.block g h1 (by simp))⟩;have hz6:((((((w.alloc (.cells #[.pointer (some ⟨r,0,none⟩)] 191)).alloc (.cells #[.string s] 9)).alloc (.cells #[.bool false,.string ⟨#[]⟩,.slice none 0 0] 106)).alloc (.cells #[.bool true,.string ⟨#[]⟩,.slice none 0 0] 106)).alloc (.cells #[(.func (.func 154) #[.pointer (some ⟨r,0,none⟩)] #[])] 195)).setCell ⟨r,0,none⟩ (.int .i64 ((12 - k:Nat):Int))).heap.size = w.heap.size + 5:=by simpa [jd5] using hz5
 generalize ((((((w.alloc (.cells #[.pointer (some ⟨r,0,none⟩)] 191)).alloc (.cells #[.string s] 9)).alloc (.cells #[.bool false,.string ⟨#[]⟩,.slice none 0 0] 106)).alloc (.cells #[.bool true,.string ⟨#[]⟩,.slice none 0 0] 106)).alloc (.cells #[(.func (.func 154) #[.pointer (some ⟨r,0,none⟩)] #[])] 195)).setCell ⟨r,0,none⟩ (.int .i64 ((12 - k:Nat):Int))) = w6 at *;clear c0 c1 c2 f0 q q0 q1 q2 q3 q4 hg5 hz5;rintro e w7 ⟨rfl,hw7⟩;rw [hz6];obtain ⟨b,hb⟩:∃ b,w.heap.size = b:=⟨_,rfl⟩;rw [hb] at p0 p1 p2 p3 p4 hz6 hrl ⊢;have z1:(w6.alloc (.cells #[.int .i64 (F:Int)] 3)).heap.size = b + 6:=by simp [hz6]
 have z2:((w6.alloc (.cells #[.int .i64 (F:Int)] 3)).alloc (.cells #[.int .i64 (s.size:Int)] 3)).heap.size = b + 7:=by simp [hz6]
 have n5:=Boxed.new w6 3 (.int .i64 (F:Int));have n6:=Boxed.new (w6.alloc (.cells #[.int .i64 (F:Int)] 3)) 3 (.int .i64 (s.size:Int));have n7:=Boxed.new ((w6.alloc (.cells #[.int .i64 (F:Int)] 3)).alloc (.cells #[.int .i64 (s.size:Int)] 3)) 92 (.func (.func 191) #[] #[.pointer (some ⟨b + 4,0,none⟩),.pointer (some ⟨b + 1,0,none⟩),.pointer (some ⟨b + 3,0,none⟩)]);rw [hz6] at n5;rw [z1] at n6;rw [z2] at n7;have m5:=(n5.alloc (.cells #[.int .i64 (s.size:Int)] 3)).alloc (.cells #[.func (.func 191) #[] #[.pointer (some ⟨b + 4,0,none⟩),.pointer (some ⟨b + 1,0,none⟩),.pointer (some ⟨b + 3,0,none⟩)]] 92);have m6:=n6.alloc (.cells #[.func (.func 191) #[] #[.pointer (some ⟨b + 4,0,none⟩),.pointer (some ⟨b + 1,0,none⟩),.pointer (some ⟨b + 3,0,none⟩)]] 92);rw [hb] at hw7;rw [show b + 1 + 1 + 1 + 1 = b + 4 from rfl,show b + 1 + 1 + 1 = b + 3 from rfl] at hw7;rw [<- hw7] at m5 m6 n7;have hg7:w.grownBy w7 (some r):=by rw [hw7];exact yaa (yaa (yaa hg6 _) _) _
 have hz7:w7.heap.size = b + 8:=by rw [hw7];simp [hz6]
 have hIB:IB w b r s w7:=⟨hg7,by rw [hw7];exact ((p0.alloc _).alloc _).alloc _,by rw [hw7];exact ((p1.alloc _).alloc _).alloc _,by rw [hw7];exact ((p2.alloc _).alloc _).alloc _,by rw [hw7];exact ((p4.alloc _).alloc _).alloc _,m6,n7⟩;have h3:Blk w7 (b + 3) 106 #[.bool true,.string ⟨#[]⟩,.slice none 0 0]:=by rw [hw7];exact ((p3.alloc _).alloc _).alloc _
 have hrd:Blk w7 r 193 #[.int .i64 ((12 - k:Nat):Int),.int .i64 0]:=by rw [hw7];exact ((p.alloc _).alloc _).alloc _
 have hI0:II w b r s k F 0 (F:Int) w7:=⟨hIB,m5,by omega,0,none,0,0,h3,hrd,.inl ⟨rfl,F,[],[],rfl,rfl,rfl,jon _ _ _ _,fun j hj=>absurd hj (by omega),by show _ = yfX [] (ya9 (ybx k s.data.toList) s.size 513 0 F);cases ya9 (ybx k s.data.toList) s.size 513 0 F <;> rfl⟩⟩;clear m5 m6 n5 n6 n7 z1 z2 hw7 p0 p1 p2 p3 p4 p hg6 hz6 hIB h3 hrd hg7;gi_wp2_with fail
 have HZ:=jh hz7;have HB:=jh hb;clear hb
 refine yhO (b + 5) (b + 6) (b + 7) 191 #[.pointer (some ⟨b + 4,0,none⟩),.pointer (some ⟨b + 1,0,none⟩),.pointer (some ⟨b + 3,0,none⟩)] (s.size:Int) (F:Int) 512 (by omega) (by omega) rfl
  (jeo Tryz.func201 (by kernel_rfl) rfl) (jeo Tryz.func191 (by kernel_rfl) rfl) rfl
  (II w b r s k F) (II2 w b r s k F) (IX w b r s k F 0) (by omega) (II.own (by rw [HB.out];omega)) (II2.own (by rw [HB.out];omega)) (IX.own (by rw [HB.out];omega))
  (fun i p W h=>⟨⟨h.2.1,h.1.q6,h.1.q7⟩,h.2.2.1⟩) (fun i p W h=>⟨⟨h.2.1,h.1.q6,h.1.q7⟩,h.2.2.1⟩) hI0
  (fun i p a'=>a' = { tmps:=#[.pointer (some ⟨r,0,none⟩),.string s,.int .i64 (F:Int),.pointer (some ⟨b,0,none⟩),.pointer (some ⟨b + 1,0,none⟩),undef,.pointer (some ⟨b + 1 + 1,0,none⟩),.pointer (some ⟨b + 1 + 1 + 1,0,none⟩),.pointer (some ⟨b + 1 + 1 + 1 + 1,0,none⟩),.func (.func 191) #[] #[.pointer (some ⟨b + 1 + 1 + 1 + 1,0,none⟩),.pointer (some ⟨b + 1,0,none⟩),.pointer (some ⟨b + 1 + 1 + 1,0,none⟩)],.int .i64 (i:Int),.agg #[.bool true,.string ⟨#[]⟩,.slice none 0 0],.pointer (some ⟨r,0,none⟩),(.func (.func 154) #[.pointer (some ⟨r,0,none⟩)] #[]),.pointer (some ⟨r,0,none⟩),.pointer (some ⟨r,0,none⟩),.pointer (some ⟨r,0,none⟩),.int .i64 ((11 - k:Nat):Int),.int .i64 ((12 - k:Nat):Int),.pointer (some ⟨r,0,none⟩),.pointer (some ⟨r,0,none⟩),.func (.func 190) #[] #[.pointer (some ⟨b,0,none⟩)],.func (.func 191) #[] #[.pointer (some ⟨b + 1 + 1 + 1 + 1,0,none⟩),.pointer (some ⟨b + 1,0,none⟩),.pointer (some ⟨b + 1 + 1 + 1,0,none⟩)],.int .i64 (F:Int),.string s,.int .i64 (s.size:Int),.func (.func 191) #[] #[.pointer (some ⟨b + 1 + 1 + 1 + 1,0,none⟩),.pointer (some ⟨b + 1,0,none⟩),.pointer (some ⟨b + 1 + 1 + 1,0,none⟩)],.func (.func 201) #[] #[.pointer (some ⟨b + 5,0,none⟩),.pointer (some ⟨b + 5 + 1,0,none⟩),.pointer (some ⟨b + 5 + 1 + 1,0,none⟩)],.int .i64 (i:Int),.int .i64 p,undef,undef,undef,undef,undef,undef,undef,undef,undef,undef,undef,undef,undef,undef,undef,undef,undef,undef],defers:=[] }) ?assign ?body (fun i p W h=>callsIn_wide.2 (ylI hC hs HB.out hrl w7.heap.size h)) ?done ?stop
 case assign =>
  intro l i p W K hi hK;have hK':=hK _ rfl;have HK:=jh hK';clear hK hK';gi_wp2
  exact HK.out
 case body =>
  rintro l i p a' W ⟨h1,h2,h3,E,A,n,c,h4,h5,h6⟩ hlt rfl;have c0:=h1.q0.cell;have c1:=h5.cell 1;have f1:=h5.frozen 1;simp only [jta,jcz,jcs] at c1;rcases h6 with ⟨rfl,h6⟩ | ⟨hE,h6⟩
  ·by_cases hi:i = 512
   ·subst hi;have hd:decide ((512:Int) <= ((512:Nat):Int)) = true:=by simp
    obtain ⟨p',xs,vs,rfl,_,_,_,_,hspec⟩:=h6;have hsp:=yiX (by omega) hspec;have HSP:=jh hsp;clear hspec hsp;have hst:Stays (fun g=>g = r) W (W.setCell ⟨r,1,none⟩ (.int .i64 5)):=fun g o ho _ hx=>(jhs W ⟨r,1,none⟩ _ g hx).trans ho;have hgw:w.grownBy (W.setCell ⟨r,1,none⟩ (.int .i64 5)) (some r):=⟨h1.hg.os,h1.hg.tape,h1.hg.output,by simpa [jd5] using h1.hg.size,fun g g1 g2=>(jhs W ⟨r,1,none⟩ _ g (by simpa using g2)).trans (h1.hg.block g g1 g2)⟩;have h5':=h5.set_ 1 (.int .i64 5);simp only [jb2,je0,List.set_cons_succ] at h5';have k1:=h5'.cell 1;have k0:=(h1.q0.other (B':=r) (by omega) (.int .i64 5)).cell;simp only [jta,jcz,jcs] at k1;have HX:Hid (IX w b r s k F 0 (.exit 0) (W.setCell ⟨r,1,none⟩ (.int .i64 5))):=⟨rfl,h1.stays hst hgw (fun g g1 _ _ _=>by omega),5,A,n,c,by decide,hst.blk h4 (by omega),h5',HSP.out⟩;have HKF:Hid (KeepsFrom w7.heap.size W (W.setCell ⟨r,1,none⟩ (.int .i64 5))):=jh ((jks W ⟨r,1,none⟩ (.int .i64 5)).from _);clear h1 h2 h4 h5 h5' hst hgw hI0;gi_wp2
    exact ⟨HKF.out,HX.out⟩
   ·have hd:decide ((512:Int) <= (i:Int)) = false:=decide_eq_false (by omega);have hd':decide (512 <= i) = false:=decide_eq_false (by omega);have HX:Hid (II2 w b r s k F i p W):=⟨h1,h2,by omega,hlt,A,n,c,h4,h5,h6⟩;clear h1 h2 h4 h5 h6 hI0;gi_wp2
    exact ⟨KeepsFrom.refl _ _,HX.out⟩
  ·have he:(E == 0) = false:=by simpa using hE
   have he':(E != 0) = true:=by simpa using hE
   have HX:Hid (IX w b r s k F 0 (.exit 0) W):=⟨rfl,h1,E,A,n,c,hE,h4,h5,h6⟩;clear h1 h2 h4 h5 h6 hI0 hE;gi_wp2
   exact ⟨KeepsFrom.refl _ _,HX.out⟩
 case done =>
  rintro D i p W hD hlt ⟨h1,h2,h3,E,A,n,c,h4,h5,h6⟩ hK
  have HEE:(E = 0 /\ IOk (ybx k s.data.toList) s.size F b (.slice A n c) i p W /\ i <= 512 /\ (s.size:Int) <= p) \/ (E ≠ 0 /\ ya9 (ybx k s.data.toList) s.size 513 0 F = .error E):=by
   rcases h6 with ⟨e,h6⟩ | h6
   ·exact .inl ⟨e,h6,h3,by omega⟩
   ·exact .inr h6
  have c0:=h4.cell 0;have c1:=h4.cell 1;have c2:=h4.cell 2;have d0:=h1.q2.cell 0;have d1:=h1.q2.cell 1;have d2:=h1.q2.cell 2;have f0:=h1.q2.frozen 0;have f1:=h1.q2.frozen 1;have f2:=h1.q2.frozen 2;simp only [jta,jcz,jcs] at c0 c1 c2 d0 d1 d2;have hDW:b + 8 <= D:=by have:=HZ.out;omega
  have HD:=jh hDW;have H1:=jh h1;have H5:=jh h5;have HE:=jh HEE;have HK:=jh hK;have q2':=ybK h1.q2 (.bool true) (.string ⟨#[]⟩) (.slice A n c);have q0':=((h1.q0.other (B':=b + 2) (by omega) (.bool true)));clear h4 h5 h1 hK hI0 hD hDW h6 h2 hlt;gi_wp2
  have q0w:Boxed (((W.setCell ⟨b + 2,0,none⟩ (.bool true)).setCell ⟨b + 2,1,none⟩ (.string ⟨#[]⟩)).setCell ⟨b + 2,2,none⟩ (.slice A n c)) b 191 (.pointer (some ⟨r,0,none⟩)):=(jhs _ ⟨b + 2,2,none⟩ _ b (by show b ≠ b + 2;omega)).trans ((jhs _ ⟨b + 2,1,none⟩ _ b (by show b ≠ b + 2;omega)).trans q0');have h5w:=((H5.out.far (p:=⟨b + 2,0,none⟩) (by show r ≠ b + 2;omega) (.bool true)).far (p:=⟨b + 2,1,none⟩) (by show r ≠ b + 2;omega) (.string ⟨#[]⟩)).far (p:=⟨b + 2,2,none⟩) (by show r ≠ b + 2;omega) (.slice A n c);have hKw:=((((jks W ⟨b + 2,0,none⟩ (.bool true)).trans (jks _ ⟨b + 2,1,none⟩ (.string ⟨#[]⟩))).trans (jks _ ⟨b + 2,2,none⟩ (.slice A n c))).same D _ HK.out rfl);refine yf3 hk hrl HD.out rfl q0w q2' h5w hKw fun W' hbr hkw=>?_;refine yf4 HB.out hrl HD.out H1.out HK.out HE.out ⟨hkw.os,hkw.tape,hkw.output,by simpa [jd5] using hkw.size,fun j hj=>(hkw.block j ⟨hj.1,hj.2.1⟩).trans ?_⟩ hbr;exact (jhs _ ⟨b + 2,2,none⟩ _ j hj.2.2).trans ((jhs _ ⟨b + 2,1,none⟩ _ j hj.2.2).trans (jhs _ ⟨b + 2,0,none⟩ _ j hj.2.2))
 case stop =>
  rintro D cd W hD ⟨rfl,h1,E,A,n,c,hE,h4,h5,h6⟩ hK;have HEE:(E = 0 /\ IOk (ybx k s.data.toList) s.size F b (.slice A n c) 0 0 W /\ 0 <= 512 /\ (s.size:Int) <= 0) \/ (E ≠ 0 /\ ya9 (ybx k s.data.toList) s.size 513 0 F = .error E):=.inr ⟨hE,h6⟩;have c0:=h4.cell 0;have c1:=h4.cell 1;have c2:=h4.cell 2;have d0:=h1.q2.cell 0;have d1:=h1.q2.cell 1;have d2:=h1.q2.cell 2;have f0:=h1.q2.frozen 0;have f1:=h1.q2.frozen 1;have f2:=h1.q2.frozen 2;simp only [jta,jcz,jcs] at c0 c1 c2 d0 d1 d2;have hDW:b + 8 <= D:=by have:=HZ.out;omega
  have HD:=jh hDW;have H1:=jh h1;have H5:=jh h5;have HE:=jh HEE;have HK:=jh hK;have q2':=ybK h1.q2 (.bool true) (.string ⟨#[]⟩) (.slice A n c);have q0':=((h1.q0.other (B':=b + 2) (by omega) (.bool true)));clear h4 h5 h1 hK hI0 hD hDW h6 hE;gi_wp2
  have q0w:Boxed (((W.setCell ⟨b + 2,0,none⟩ (.bool true)).setCell ⟨b + 2,1,none⟩ (.string ⟨#[]⟩)).setCell ⟨b + 2,2,none⟩ (.slice A n c)) b 191 (.pointer (some ⟨r,0,none⟩)):=(jhs _ ⟨b + 2,2,none⟩ _ b (by show b ≠ b + 2;omega)).trans ((jhs _ ⟨b + 2,1,none⟩ _ b (by show b ≠ b + 2;omega)).trans q0');have h5w:=((H5.out.far (p:=⟨b + 2,0,none⟩) (by show r ≠ b + 2;omega) (.bool true)).far (p:=⟨b + 2,1,none⟩) (by show r ≠ b + 2;omega) (.string ⟨#[]⟩)).far (p:=⟨b + 2,2,none⟩) (by show r ≠ b + 2;omega) (.slice A n c);have hKw:=((((jks W ⟨b + 2,0,none⟩ (.bool true)).trans (jks _ ⟨b + 2,1,none⟩ (.string ⟨#[]⟩))).trans (jks _ ⟨b + 2,2,none⟩ (.slice A n c))).same D _ HK.out rfl);refine yf3 hk hrl HD.out rfl q0w q2' h5w hKw fun W' hbr hkw=>?_;refine yf4 HB.out hrl HD.out H1.out HK.out HE.out ⟨hkw.os,hkw.tape,hkw.output,by simpa [jd5] using hkw.size,fun j hj=>(hkw.block j ⟨hj.1,hj.2.1⟩).trans ?_⟩ hbr;exact (jhs _ ⟨b + 2,2,none⟩ _ j hj.2.2).trans ((jhs _ ⟨b + 2,1,none⟩ _ j hj.2.2).trans (jhs _ ⟨b + 2,0,none⟩ _ j hj.2.2))
theorem yn9 {k:Nat} {l:List UInt8} {a:Nat} (h1:¬ (a < l.length /\ 192 <= ya1 l a /\ k = 0)) (he:yaV l (a:Int) ≠ 0):ybx k l a = .error (yaV l (a:Int)):=by
 cases k with
 | zero=>show ydg none l a = _;unfold ydg;rw [if_neg (by rintro ⟨x,y,_⟩;exact h1 ⟨x,y,rfl⟩),if_pos he]
 | succ k'=>show ydg (some (ybx k')) l a = _;unfold ydg;rw [if_neg (by rintro ⟨_,_,x⟩;cases x),if_pos he]
theorem ycl {k:Nat} {l:List UInt8} {a:Nat} (h1:¬ (a < l.length /\ 192 <= ya1 l a /\ k = 0)) (he:yaV l (a:Int) = 0) (hl:ybW l (a:Int) = false):ybx k l a = .ok (.mk false ⟨((l.drop (yag l a)).take (ya5 l a)).toArray⟩ [],yag l a + ya5 l a):=by
 cases k with
 | zero=>show ydg none l a = _;unfold ydg;rw [if_neg (by rintro ⟨x,y,_⟩;exact h1 ⟨x,y,rfl⟩),if_neg (by simpa using he),if_pos hl]
 | succ k'=>show ydg (some (ybx k')) l a = _;unfold ydg;rw [if_neg (by rintro ⟨_,_,x⟩;cases x),if_neg (by simpa using he),if_pos hl]
theorem yd6 {k:Nat} {l:List UInt8} {a:Nat} (he:yaV l (a:Int) = 0) (hl:ybW l (a:Int) = true):ybx (k + 1) l a = match ya9 (ybx k (l.take (yag l a + ya5 l a))) (yag l a + ya5 l a) 513 0 (yag l a) with
  | .error e=>.error e
  | .ok xs=>.ok (.mk true .empty xs,yag l a + ya5 l a):=by
 show ydg (some (ybx k)) l a = _;unfold ydg;rw [if_neg (by rintro ⟨_,_,x⟩;cases x),if_neg (by simpa using he),if_neg (by rw [hl];decide)];rfl
theorem yhJ (W:World) (r i:Nat) (v:Value):W.grownBy (W.setCell ⟨r,i,none⟩ v) (some r) :=
 ⟨rfl,rfl,rfl,by simp [jd5],fun g _ h=>jhs W ⟨r,i,none⟩ v g (by simpa using h)⟩
theorem yhi {s:ByteArray} {a k:Nat} (ha:a <= s.size) (h:¬ (a < s.size /\ 192 <= ya1 s.data.toList a /\ k = 0)) :
  (decide ((a:Int) < (s.size:Int)) = false /\ decide (a < s.size) = false) \/
  (((a:Int) < (s.size:Int)) /\ (∀ V,(Instr.index 9 (.string s) (.int .i64 (a:Int))).run jq V = .ok (.int .u8 ((ya1 s.data.toList a:Nat):Int)) V) /\ decide ((192:Int) <= ((ya1 s.data.toList a:Nat):Int)) = false) \/
  (((a:Int) < (s.size:Int)) /\ (∀ V,(Instr.index 9 (.string s) (.int .i64 (a:Int))).run jq V = .ok (.int .u8 ((ya1 s.data.toList a:Nat):Int)) V) /\ decide ((192:Int) <= ((ya1 s.data.toList a:Nat):Int)) = true /\ decide ((12:Int) <= ((12 - k:Nat):Int)) = false):=by
 have hlz:s.data.toList.length = s.size:=yar s;by_cases h1:a < s.size
 ·have hid:=fun V=>ydb s a (s.data.toList.getD a 0) (ydB 0 (by omega)) V;change ∀ V,(Instr.index 9 (.string s) (.int .i64 (a:Int))).run jq V = .ok (.int .u8 ((ya1 s.data.toList a:Nat):Int)) V at hid;by_cases h2:192 <= ya1 s.data.toList a
  ·exact .inr (.inr ⟨by omega,hid,decide_eq_true (by omega),decide_eq_false (by omega)⟩)
  ·exact .inr (.inl ⟨by omega,hid,decide_eq_false (by omega)⟩)
 ·exact .inl ⟨decide_eq_false (by omega),decide_eq_false h1⟩
theorem yjQ (k:Nat) (s:ByteArray) (a r:Nat) (W:World) (hs:s.size <= 65536) (ha:a <= s.size) (hr:Blk W r 193 #[.int .i64 ((12 - k:Nat):Int),.int .i64 0])
  (h1:¬ (a < s.size /\ 192 <= ya1 s.data.toList a /\ k = 0)) (he:yaV s.data.toList (a:Int) ≠ 0) :
  Calls jq 154 #[.pointer (some ⟨r,0,none⟩),.string s,.int .i64 (a:Int)] W fun e W1=>∃ l b sA sn sc tq,e = .returned (.tuple #[.agg #[.bool l,.string b,.slice sA sn sc],.int .i64 tq]) /\ W.grownBy W1 (some r) /\ yc9 k s.data.toList a r W l b (.slice sA sn sc) tq W1:=by
 have hlz:s.data.toList.length = s.size:=yar s;have hlk:=fun V=>yeU s (a:Int) (by omega) V;have hrl:=hr.lt;have hG:=yhi ha h1;have hi:=yn9 (k:=k) (by rw [hlz];exact h1) he;obtain ⟨b1,b2,b3⟩:=yeo rfl he;rw [b1,b2,b3] at hlk;have HI:=jh hi;have hxA:=Blk.new W 106 #[.bool false,.string ⟨#[]⟩,.slice none 0 0];have hrA:=hr.alloc (.cells #[.bool false,.string ⟨#[]⟩,.slice none 0 0] 106);have hGA:W.grownBy (W.alloc (.cells #[.bool false,.string ⟨#[]⟩,.slice none 0 0] 106)) none:=yaa (jr _ _) _;have k1:=(hr.alloc (.cells #[.bool false,.string ⟨#[]⟩,.slice none 0 0] 106)).cell 0;simp only [jta,jcz] at k1;clear hi b1 b2 b3 h1 hlz;generalize yaV s.data.toList (a:Int) = E at *;generalize ya1 s.data.toList a = c at *;have e1:(E != 0) = true:=by simpa using he
 have HE:=jh he;clear he;rcases hG with ⟨d1,d1'⟩ | ⟨d1,hid,d2⟩ | ⟨d1,hid,d2,d3⟩
 all_goals
  go_enter Tryz.func154,Tryz.ntmps154
  go_wp2_with fail
  refine (hlk _).mono ?_;rintro e w2 ⟨rfl,hg⟩;have y0:=hxA.grown hg (by simp);have y1:=hrA.grown hg (by simp);have hG2:=yem (yab hGA hg (by simp)) (some r);have z0:=y0.alloc (.cells #[.int .i64 0,.int .i64 0,.bool false] 188);have z1:=y1.alloc (.cells #[.int .i64 0,.int .i64 0,.bool false] 188);have hG3:=yaa hG2 (.cells #[.int .i64 0,.int .i64 0,.bool false] 188);clear hxA hrA hGA hg hlk hG2 y0 y1 k1 hr;go_upto_region 6 with (fail)
  generalize w2.alloc (.cells #[.int .i64 0,.int .i64 0,.bool false] 188) = w3 at *;have r1:=z1.cell 1;have rf:=z1.frozen 1;have t0:=z0.far (p:=⟨r,1,none⟩) (by show W.heap.size ≠ r;omega) (.int .i64 E);have t1:=z1.set_ 1 (.int .i64 E);have tG:W.grownBy (w3.setCell ⟨r,1,none⟩ (.int .i64 E)) (some r):=yab hG3 (yhJ w3 r 1 (.int .i64 E)) (fun q e=>.inl e);simp only [jb2,je0,List.set_cons_succ,jta,jcz,jcs] at t1 r1;clear z0 z1 hG3;go_upto_region 7 with (fail)
  clear r1 rf;generalize w3.setCell ⟨r,1,none⟩ (.int .i64 E) = w4 at *;have c0:=t0.cell 0;have c1:=t0.cell 1;have c2:=t0.cell 2;have f0:=t0.frozen 0;have f1:=t0.frozen 1;have f2:=t0.frozen 2;simp only [jta,jcz,jcs] at c0 c1 c2;have t2:=ybK t0 (.bool false) (.string ⟨#[]⟩) (.slice none 0 0);have t3:=((t1.far (p:=⟨W.heap.size,0,none⟩) (by show r ≠ W.heap.size;omega) (.bool false)).far (p:=⟨W.heap.size,1,none⟩) (by show r ≠ W.heap.size;omega) (.string ⟨#[]⟩)).far (p:=⟨W.heap.size,2,none⟩) (by show r ≠ W.heap.size;omega) (.slice none 0 0);have t4:=yb0 tG (g:=W.heap.size) (jle _) (.bool false) (.string ⟨#[]⟩) (.slice none 0 0);have T2:=jh t2;have T3:=jh t3;have T4:=jh t4;clear t0 t1 t2 t3 t4 tG;go_wp2_with fail
  refine jbr (ya3 (fn:=Tryz.f154) rfl _ _ _ _ rfl (ycd T2.out)) rfl ?_;exact ⟨false,⟨#[]⟩,none,0,0,(a:Int),rfl,T4.out,.inr ⟨E,HI.out,HE.out,T3.out⟩⟩
theorem ymn (s:ByteArray) (a r:Nat) (W:World) (hs:s.size <= 65536) (h2:a < s.size) (h3:192 <= ya1 s.data.toList a) (hr:Blk W r 193 #[.int .i64 ((12 - 0:Nat):Int),.int .i64 0]) :
  Calls jq 154 #[.pointer (some ⟨r,0,none⟩),.string s,.int .i64 (a:Int)] W fun e W1=>∃ l b sA sn sc tq,e = .returned (.tuple #[.agg #[.bool l,.string b,.slice sA sn sc],.int .i64 tq]) /\ W.grownBy W1 (some r) /\ yc9 0 s.data.toList a r W l b (.slice sA sn sc) tq W1:=by
 have hlz:s.data.toList.length = s.size:=yar s;have hr0:=hr.cell 0;have hr1:=hr.cell 1;have hf1:=hr.frozen 1;simp only [jta,jcz,jcs] at hr0 hr1;have hrl:=hr.lt
 have hi:ybx 0 s.data.toList a = .error 7:=by
  show ydg none s.data.toList a = .error 7;unfold ydg;rw [if_pos ⟨by omega,h3,rfl⟩]
 have hid:=fun V=>ydb s a (s.data.toList.getD a 0) (ydB 0 (by omega)) V;change ∀ V,(Instr.index 9 (.string s) (.int .i64 (a:Int))).run jq V = .ok (.int .u8 ((ya1 s.data.toList a:Nat):Int)) V at hid;have HI:=jh hi;generalize ya1 s.data.toList a = c at *;have d1:(a:Int) < (s.size:Int):=by omega
 have d2:(192:Int) <= (c:Int):=by omega
 clear hi;go_enter Tryz.func154,Tryz.ntmps154
 go_wp2_with fail
 have hxb:=Blk.new (W.setCell ⟨r,1,none⟩ (.int .i64 7)) 106 #[.bool false,.string ⟨#[]⟩,.slice none 0 0];rw [show (W.setCell ⟨r,1,none⟩ (.int .i64 7)).heap.size = W.heap.size by simp [jd5]] at hxb;have hrx:=(hr.set_ 1 (.int .i64 7)).alloc (.cells #[.bool false,.string ⟨#[]⟩,.slice none 0 0] 106);simp only [jb2,je0,List.set_cons_succ] at hrx;have hgx:=yaa (yhJ W r 1 (.int .i64 7)) (.cells #[.bool false,.string ⟨#[]⟩,.slice none 0 0] 106);refine jbr (ya3 (fn:=Tryz.f154) rfl _ _ _ _ rfl (ycd hxb)) rfl ?_;exact ⟨false,⟨#[]⟩,none,0,0,(a:Int),rfl,hgx,.inr ⟨7,HI.out,by decide,hrx⟩⟩
theorem yoZ {s:ByteArray} {F N:Nat}:s.extract F (F + N) = ⟨((s.data.toList.drop F).take N).toArray⟩:=by
 apply ByteArray.ext;apply Array.ext';rw [Lib.extract_data]
 simp
theorem ynz (S:Nat -> Prop) (W:World) (c:Nat):SubV S W [] (.slice none 0 c):=.mk [] none c [] (fun h=>by cases h) (fun i h=>by cases h)
theorem yjP (k:Nat) (s:ByteArray) (a r:Nat) (W:World) (hs:s.size <= 65536) (ha:a <= s.size) (hr:Blk W r 193 #[.int .i64 ((12 - k:Nat):Int),.int .i64 0])
  (h1:¬ (a < s.size /\ 192 <= ya1 s.data.toList a /\ k = 0)) (he:yaV s.data.toList (a:Int) = 0) (hl:ybW s.data.toList (a:Int) = false) :
  Calls jq 154 #[.pointer (some ⟨r,0,none⟩),.string s,.int .i64 (a:Int)] W fun e W1=>∃ l b sA sn sc tq,e = .returned (.tuple #[.agg #[.bool l,.string b,.slice sA sn sc],.int .i64 tq]) /\ W.grownBy W1 (some r) /\ yc9 k s.data.toList a r W l b (.slice sA sn sc) tq W1:=by
 have hlz:s.data.toList.length = s.size:=yar s;have hlk:=fun V=>yeU s (a:Int) (by omega) V;have hrl:=hr.lt;have hG:=yhi ha h1;have hi:=ycl (k:=k) (by rw [hlz];exact h1) he hl;obtain ⟨b0,b1,_⟩:=ybN he;rw [hl,he] at hlk;have HI:=jh hi;have hxA:=Blk.new W 106 #[.bool false,.string ⟨#[]⟩,.slice none 0 0];have hrA:=hr.alloc (.cells #[.bool false,.string ⟨#[]⟩,.slice none 0 0] 106);have hGA:W.grownBy (W.alloc (.cells #[.bool false,.string ⟨#[]⟩,.slice none 0 0] 106)) none:=yaa (jr _ _) _;have k1:=(hr.alloc (.cells #[.bool false,.string ⟨#[]⟩,.slice none 0 0] 106)).cell 0;simp only [jta,jcz] at k1;rw [hlz] at b1;clear hi h1 hlz he hl;generalize yag s.data.toList (a:Int) = F at *;generalize ya5 s.data.toList (a:Int) = N at *;generalize ya1 s.data.toList a = c at *;have v1:IntKind.i64.wrap ((F:Int) + (N:Int)) = (F:Int) + (N:Int):=jii _ (by omega);rcases hG with ⟨d1,d1'⟩ | ⟨d1,hid,d2⟩ | ⟨d1,hid,d2,d3⟩
 all_goals
  go_enter Tryz.func154,Tryz.ntmps154
  go_wp2_with fail
  refine (hlk _).mono ?_;rintro e w2 ⟨rfl,hg⟩;have y0:=hxA.grown hg (by simp);have y1:=hrA.grown hg (by simp);have hG2:=yem (yab hGA hg (by simp)) (some r);have z0:=y0.alloc (.cells #[.int .i64 (F:Int),.int .i64 (N:Int),.bool false] 188);have z1:=y1.alloc (.cells #[.int .i64 (F:Int),.int .i64 (N:Int),.bool false] 188);have z2:=Blk.new w2 188 #[.int .i64 (F:Int),.int .i64 (N:Int),.bool false];have hG3:=yaa hG2 (.cells #[.int .i64 (F:Int),.int .i64 (N:Int),.bool false] 188);clear hxA hrA hGA hg hlk hG2 y0 y1 k1 hr;go_upto_region 8 with (fail)
  generalize w2.alloc (.cells #[.int .i64 (F:Int),.int .i64 (N:Int),.bool false] 188) = w3 at *;have r0:=z2.cell 0;have r1:=z2.cell 1;have r2:=z2.cell 2;have c0:=z0.cell 0;have c1:=z0.cell 1;have c2:=z0.cell 2;have f0:=z0.frozen 0;have f1:=z0.frozen 1;have f2:=z0.frozen 2;simp only [jta,jcz,jcs] at r0 r1 r2 c0 c1 c2;have t2:=ybK z0 (.bool false) (.string (s.extract F (F + N))) (.slice none 0 0);have t3:=((z1.far (p:=⟨W.heap.size,0,none⟩) (by show r ≠ W.heap.size;omega) (.bool false)).far (p:=⟨W.heap.size,1,none⟩) (by show r ≠ W.heap.size;omega) (.string (s.extract F (F + N)))).far (p:=⟨W.heap.size,2,none⟩) (by show r ≠ W.heap.size;omega) (.slice none 0 0);have t4:=yb0 hG3 (g:=W.heap.size) (jle _) (.bool false) (.string (s.extract F (F + N))) (.slice none 0 0);have T2:=jh t2;have T3:=jh t3;have T4:=jh t4;clear z0 z1 z2 hG3 t2 t3 t4;go_wp2_with fail
  refine jbr (ya3 (fn:=Tryz.f154) rfl _ _ _ _ rfl (ycd T2.out)) rfl ?_;exact ⟨false,s.extract F (F + N),none,0,0,((F:Int) + (N:Int)),rfl,T4.out,.inl ⟨_,_,HI.out,by simp,rfl,by rw [yoZ];rfl,T3.out,ynz _ _ _⟩⟩
theorem ynh {s:ByteArray} (h:s ≠ ⟨#[]⟩):∃ g0:0 < s.size,s.data.toList ≠ [] /\ (s.toList == []) = false /\ s.toList.isEmpty = false /\ s.data.toList.getD 0 0 = s[0]'g0:=by
 have hl0:s.data.toList ≠ []:=fun e=>h (by cases s;simp_all)
 have g0:0 < s.size:=by
  have:=yar s;cases hh:s.data.toList with
  | nil=>exact absurd hh hl0
  | cons a b=>rw [hh] at this;simp at this;omega
 refine ⟨g0,hl0,by rw [beq_eq_false_iff_ne,Lib.toList_data];exact hl0,by rw [Lib.toList_data];cases hh:s.data.toList with | nil=>exact absurd hh hl0 | cons a b=>rfl,?_⟩;have e2:s.data[0]? = some (s[0]'g0):=jb4 g0;rw [jg,Array.getElem?_toList,e2];rfl
structure AccV where
 addr:ByteArray
 keys:List ByteArray
deriving DecidableEq
def AccV.none_:AccV:=⟨⟨#[]⟩,[]⟩
structure AutV where
 chain:Nat
 addr:ByteArray
 nonce:Nat
 y:Nat
 r:Nat
 s:Nat
deriving DecidableEq
def AutV.none_:AutV:=⟨0,⟨#[]⟩,0,0,0,0⟩
structure AutV.Ok (t:AutV):Prop where
 chain:t.chain < 18446744073709551616
 nonce:t.nonce < 18446744073709551616
 y:t.y < 18446744073709551616
 r:t.r < 115792089237316195423570985008687907853269984665640564039457584007913129639936
 s:t.s < 115792089237316195423570985008687907853269984665640564039457584007913129639936
def autL (t:AutV):List Value :=
 [.int .u64 (t.chain:Int),.string t.addr,.int .u64 (t.nonce:Int),.int .u64 (t.y:Int),
  .int .u64 (wp t.r 0:Nat),.int .u64 (wp t.r 1:Nat),.int .u64 (wp t.r 2:Nat),.int .u64 (wp t.r 3:Nat),
  .int .u64 (wp t.s 0:Nat),.int .u64 (wp t.s 1:Nat),.int .u64 (wp t.s 2:Nat),.int .u64 (wp t.s 3:Nat)]
structure TxV where
 kind:Int
 chain:Nat
 nonce:Nat
 tip:Nat
 price:Nat
 gas:Nat
 dst:ByteArray
 value:Nat
 data:ByteArray
 acc:List AccV
 auths:List AutV
 y:Nat
 r:Nat
 s:Nat
 source:ByteArray
 frm:ByteArray
 mint:Nat
 system:Bool
deriving DecidableEq
def TxV.zero:TxV:=⟨0,0,0,0,0,0,⟨#[]⟩,0,⟨#[]⟩,[],[],0,0,0,⟨#[]⟩,⟨#[]⟩,0,false⟩
structure TxV.Ok (t:TxV):Prop where
 chain:t.chain < 18446744073709551616
 nonce:t.nonce < 18446744073709551616
 tip:t.tip < 115792089237316195423570985008687907853269984665640564039457584007913129639936
 price:t.price < 115792089237316195423570985008687907853269984665640564039457584007913129639936
 gas:t.gas < 18446744073709551616
 value:t.value < 115792089237316195423570985008687907853269984665640564039457584007913129639936
 y:t.y < 18446744073709551616
 r:t.r < 115792089237316195423570985008687907853269984665640564039457584007913129639936
 s:t.s < 115792089237316195423570985008687907853269984665640564039457584007913129639936
 mint:t.mint < 115792089237316195423570985008687907853269984665640564039457584007913129639936
 auths:∀ a ∈ t.auths,a.Ok
def txL (t:TxV) (sa sb:Value):List Value :=
 [.int .i64 t.kind,.int .u64 (t.chain:Int),.int .u64 (t.nonce:Int),
  .int .u64 (wp t.tip 0:Nat),.int .u64 (wp t.tip 1:Nat),.int .u64 (wp t.tip 2:Nat),.int .u64 (wp t.tip 3:Nat),
  .int .u64 (wp t.price 0:Nat),.int .u64 (wp t.price 1:Nat),.int .u64 (wp t.price 2:Nat),.int .u64 (wp t.price 3:Nat),
  .int .u64 (t.gas:Int),.string t.dst,
  .int .u64 (wp t.value 0:Nat),.int .u64 (wp t.value 1:Nat),.int .u64 (wp t.value 2:Nat),.int .u64 (wp t.value 3:Nat),
  .string t.data,sa,sb,.int .u64 (t.y:Int),
  .int .u64 (wp t.r 0:Nat),.int .u64 (wp t.r 1:Nat),.int .u64 (wp t.r 2:Nat),.int .u64 (wp t.r 3:Nat),
  .int .u64 (wp t.s 0:Nat),.int .u64 (wp t.s 1:Nat),.int .u64 (wp t.s 2:Nat),.int .u64 (wp t.s 3:Nat),
  .string t.source,.string t.frm,
  .int .u64 (wp t.mint 0:Nat),.int .u64 (wp t.mint 1:Nat),.int .u64 (wp t.mint 2:Nat),.int .u64 (wp t.mint 3:Nat),
  .bool t.system]
def txC (t:TxV) (sa sb:Value):Array Value:=(txL t sa sb).toArray
theorem ygS (t:TxV) (A A':Option Addr) (n c n' c':Nat):((txC t (.slice A n c) (.slice A' n' c')).all fun x=>x.oneCell') = true:=by unfold txC txL;simp [ja2]
def AccR (B:Nat) (W:World) (ls:List AccV) (A:Option Addr) (n:Nat):Prop :=
 ls.length = n /\ (0 < n -> ∃ g off,A = some ⟨g,off,none⟩ /\ g < B /\ ∀ i,i < n -> ∃ T tc,W.cell? ⟨g,off + i * 2,none⟩ = some (.string (ls.getD i AccV.none_).addr) /\ W.cell? ⟨g,off + i * 2 + 1,none⟩ = some (.slice T (ls.getD i AccV.none_).keys.length tc) /\
  Reads W B 1 T (ls.getD i AccV.none_).keys.length ((ls.getD i AccV.none_).keys.map ja8) /\ (ls.getD i AccV.none_).keys.length <= 9223372036854775807)
theorem AccR.grown {B:Nat} {W W':World} {ls:List AccV} {A:Option Addr} {n:Nat} (h:AccR B W ls A n) (hg:W.grownBy W' none) (hB:B <= W.heap.size):AccR B W' ls A n:=by
 refine ⟨h.1,fun h0=>?_⟩;obtain ⟨g,off,h1,h2,h3⟩:=h.2 h0;refine ⟨g,off,h1,h2,fun i hi=>?_⟩;obtain ⟨T,tc,a,b,c,d⟩:=h3 i hi;exact ⟨T,tc,hg.cell a (by simp),hg.cell b (by simp),c.grown hg hB (by simp),d⟩
theorem AccR.at_ {B:Nat} {W:World} {ls:List AccV} {A:Option Addr} {n k:Nat} (h:AccR B W ls A n) (hk:k < n):∃ g off T tc x,A = some ⟨g,off,none⟩ /\ ls.getD k AccV.none_ = x /\ x ∈ ls /\ W.cell? ⟨g,off + k * 2,none⟩ = some (.string x.addr) /\ W.cell? ⟨g,off + k * 2 + 1,none⟩ = some (.slice T x.keys.length tc) /\ Reads W B 1 T x.keys.length (x.keys.map ja8) /\ x.keys.length <= 9223372036854775807:=by
 obtain ⟨g,off,hA,_,hc⟩:=h.2 (by omega);obtain ⟨T,tc,a,b,c,d⟩:=hc k hk;refine ⟨g,off,T,tc,_,hA,rfl,?_,a,b,c,d⟩;rw [jg,je (by rw [h.1];exact hk)];exact List.getElem_mem _
theorem AccR.nil (B:Nat) (W:World) (A:Option Addr):AccR B W [] A 0:=⟨rfl,fun h=>by omega⟩
def AutR (B:Nat) (W:World) (ls:List AutV) (A:Option Addr) (n:Nat):Prop :=
 ls.length = n /\ (0 < n -> ∃ g off,A = some ⟨g,off,none⟩ /\ g < B /\ ∀ i,i < n -> W.rangeAt g (off + i * 12) (autL (ls.getD i AutV.none_)))
theorem yca {W W':World} {g o:Nat} {cs:List Value} (h:W.rangeAt g o cs) (hg:W.grownBy W' none):W'.rangeAt g o cs:=fun j v hv=>hg.cell (h j v hv) (by simp)
theorem AutR.grown {B:Nat} {W W':World} {ls:List AutV} {A:Option Addr} {n:Nat} (h:AutR B W ls A n) (hg:W.grownBy W' none):AutR B W' ls A n:=by
 refine ⟨h.1,fun h0=>?_⟩;obtain ⟨g,off,h1,h2,h3⟩:=h.2 h0;exact ⟨g,off,h1,h2,fun i hi=>yca (h3 i hi) hg⟩
theorem AutR.at_ {B:Nat} {W:World} {ls:List AutV} {A:Option Addr} {n k:Nat} (h:AutR B W ls A n) (hk:k < n):∃ g off x,A = some ⟨g,off,none⟩ /\ ls.getD k AutV.none_ = x /\ x ∈ ls /\ W.rangeAt g (off + k * 12) (autL x):=by
 obtain ⟨g,off,hA,_,hc⟩:=h.2 (by omega);refine ⟨g,off,_,hA,rfl,?_,hc k hk⟩;rw [jg,je (by rw [h.1];exact hk)];exact List.getElem_mem _
theorem AutR.nil (B:Nat) (W:World) (A:Option Addr):AutR B W [] A 0:=⟨rfl,fun h=>by omega⟩
structure TxIn (B:Nat) (W:World) (t:TxV) (sa sb:Value):Prop where
 acc:∃ A c,sa = .slice A t.acc.length c /\ AccR B W t.acc A t.acc.length
 aut:∃ A c,sb = .slice A t.auths.length c /\ AutR B W t.auths A t.auths.length
 la:t.acc.length <= 9223372036854775807
 lb:t.auths.length <= 9223372036854775807
theorem TxIn.grown {B:Nat} {W W':World} {t:TxV} {sa sb:Value} (h:TxIn B W t sa sb) (hg:W.grownBy W' none) (hB:B <= W.heap.size):TxIn B W' t sa sb:=by
 obtain ⟨⟨A,c,h1,h2⟩,⟨A',c',h3,h4⟩,h5,h6⟩:=h;exact ⟨⟨A,c,h1,h2.grown hg hB⟩,⟨A',c',h3,h4.grown hg⟩,h5,h6⟩
def TxsR (B:Nat) (W:World) (ls:List TxV) (A:Option Addr) (n:Nat):Prop :=
 ls.length = n /\ (0 < n -> ∃ g off,A = some ⟨g,off,none⟩ /\ g < B /\ ∀ i,i < n -> ∃ sa sb,W.rangeAt g (off + i * 36) (txL (ls.getD i TxV.zero) sa sb) /\ TxIn B W (ls.getD i TxV.zero) sa sb)
theorem TxsR.grown {B:Nat} {W W':World} {ls:List TxV} {A:Option Addr} {n:Nat} (h:TxsR B W ls A n) (hg:W.grownBy W' none) (hB:B <= W.heap.size):TxsR B W' ls A n:=by
 refine ⟨h.1,fun h0=>?_⟩;obtain ⟨g,off,h1,h2,h3⟩:=h.2 h0;refine ⟨g,off,h1,h2,fun i hi=>?_⟩;obtain ⟨sa,sb,a,b⟩:=h3 i hi;exact ⟨sa,sb,yca a hg,b.grown hg hB⟩
theorem TxsR.at_ {B:Nat} {W:World} {ls:List TxV} {A:Option Addr} {n k:Nat} (h:TxsR B W ls A n) (hk:k < n):∃ g off sa sb x,A = some ⟨g,off,none⟩ /\ ls.getD k TxV.zero = x /\ x ∈ ls /\ W.rangeAt g (off + k * 36) (txL x sa sb) /\ TxIn B W x sa sb:=by
 obtain ⟨g,off,hA,_,hc⟩:=h.2 (by omega);obtain ⟨sa,sb,a,b⟩:=hc k hk;refine ⟨g,off,sa,sb,_,hA,rfl,?_,a,b⟩;rw [jg,je (by rw [h.1];exact hk)];exact List.getElem_mem _
theorem yph {a b:Nat} (ha:a < 115792089237316195423570985008687907853269984665640564039457584007913129639936) (hb:b < 115792089237316195423570985008687907853269984665640564039457584007913129639936) (h:∀ q,q < 4 -> wp a q = wp b q):a = b:=by
 rw [<- yfc a (by simpa using ha),<- yfc b (by simpa using hb),h 0 (by omega),h 1 (by omega),h 2 (by omega),h 3 (by omega)]
def ybG (a:Nat):Value:=.agg #[.int .u64 (wp a 0:Nat),.int .u64 (wp a 1:Nat),.int .u64 (wp a 2:Nat),.int .u64 (wp a 3:Nat)]
theorem yc7 (d:Nat) {a b:Nat} (ha:a < 115792089237316195423570985008687907853269984665640564039457584007913129639936) (hb:b < 115792089237316195423570985008687907853269984665640564039457584007913129639936) (w:World):(Op.equalIn (d + 2) 38 (ybG a) (ybG b)).run jq w = .ok (decide (a = b)) w:=by
 have:=ye1 (P:=jq) w d 38 23 4 (by kernel_rfl) (by kernel_rfl) yl6 [wp a 0,wp a 1,wp a 2,wp a 3] [wp b 0,wp b 1,wp b 2,wp b 3] rfl rfl
 have e:([wp a 0,wp a 1,wp a 2,wp a 3] == [wp b 0,wp b 1,wp b 2,wp b 3]) = decide (a = b):=by
  by_cases h:a = b
  ·subst h;simp
  ·rw [decide_eq_false h];simp only [beq_eq_false_iff_ne,ne_eq];intro e;simp only [je5.injEq,and_true] at e;refine h (yph ha hb fun q hq=>?_)
   match q,hq with
   | 0,_=>exact e.1
   | 1,_=>exact e.2.1
   | 2,_=>exact e.2.2.1
   | 3,_=>exact e.2.2.2
 rw [e] at this;exact this
theorem yas {P : Program} {w : World} {d : Nat} {xs ys : Array Value} {f : Field} {fs : List Field} {a b : Value} {r R : Bool} (hn : f.name ≠ "_") (ha : (part f.type xs f.offset).run P w = .ok a w) (hb : (part f.type ys f.offset).run P w = .ok b w)
  (he:(Op.equalIn d f.type a b).run P w = .ok r w) (hR:(Op.eqFields d xs ys fs).run P w = .ok R w):(Op.eqFields d xs ys (f :: fs)).run P w = .ok (r && R) w:=by
 simp only [Op.eqFields,Sem.run_bind,Sem.run_ite,if_pos hn,ha,hb,he,Result.andThen_ok];cases r
 ·simp
 ·simpa using hR
theorem ydc (a b:Nat):((a:Int) == (b:Int)) = decide (a = b):=by
 by_cases h:a = b
 ·subst h;simp
 ·rw [decide_eq_false h];simp;omega
theorem ymL (a b:Int):(a == b) = decide (a = b):=by
 by_cases h:a = b
 ·subst h;simp
 ·rw [decide_eq_false h];simpa using h
theorem yec (a b:ByteArray):(a.toList == b.toList) = decide (a = b):=by
 by_cases h:a = b
 ·subst h;simp
 ·rw [decide_eq_false h];exact ygo h
theorem ymM (a b:Bool):(a == b) = decide (a = b):=by cases a <;> cases b <;> rfl
def yky (t:TxV):Array Value:=#[.int .i64 t.kind,.int .u64 (t.chain:Int),.int .u64 (t.nonce:Int),.int .u64 (t.gas:Int),.int .u64 (t.y:Int),.int .u64 (wp t.tip 0:Nat),.int .u64 (wp t.tip 1:Nat),.int .u64 (wp t.tip 2:Nat),.int .u64 (wp t.tip 3:Nat),.int .u64 (wp t.price 0:Nat),.int .u64 (wp t.price 1:Nat),.int .u64 (wp t.price 2:Nat),.int .u64 (wp t.price 3:Nat),.int .u64 (wp t.value 0:Nat),.int .u64 (wp t.value 1:Nat),.int .u64 (wp t.value 2:Nat),.int .u64 (wp t.value 3:Nat),.int .u64 (wp t.r 0:Nat),.int .u64 (wp t.r 1:Nat),.int .u64 (wp t.r 2:Nat),.int .u64 (wp t.r 3:Nat),.int .u64 (wp t.s 0:Nat),.int .u64 (wp t.s 1:Nat),.int .u64 (wp t.s 2:Nat),.int .u64 (wp t.s 3:Nat),.int .u64 (wp t.mint 0:Nat),.int .u64 (wp t.mint 1:Nat),.int .u64 (wp t.mint 2:Nat),.int .u64 (wp t.mint 3:Nat),.string t.dst,.string t.data,.string t.source,.string t.frm,.bool t.system]
def ylF (a b:TxV):Bool:=decide (a.kind = b.kind) && (decide (a.chain = b.chain) && (decide (a.nonce = b.nonce) && (decide (a.gas = b.gas) && (decide (a.y = b.y) && (decide (a.tip = b.tip) && (decide (a.price = b.price) && (decide (a.value = b.value) && (decide (a.r = b.r) && (decide (a.s = b.s) && (decide (a.mint = b.mint) && (decide (a.dst = b.dst) && (decide (a.data = b.data) && (decide (a.source = b.source) && (decide (a.frm = b.frm) && (decide (a.system = b.system) && true)))))))))))))))
theorem yoR {a b:TxV} (ha:a.Ok) (hb:b.Ok) (w:World):(Op.equalIn 10000 136 (.agg (yky a)) (.agg (yky b))).run jq w = .ok (ylF a b) w:=by
 have hS:jq.underlying 136 = some (.struct (jq.fieldsOf 136)):=by kernel_rfl
 have hp:jq.stoodInHeld 136 = false:=by kernel_rfl
 rw [show (10000:Nat) = 9999 + 1 from rfl,run_equalIn_agg w 9999 136 _ _ hS hp];simp only [Program.fieldsOf,Tryz.underlying136];unfold ylF;refine yas (a:=.int .i64 a.kind) (b:=.int .i64 b.kind) (by decide) (by kernel_rfl) (by kernel_rfl) ((run_equalIn_int w 9998 _ .i64 .i64 _ _ (by kernel_rfl)).trans (by rw [ymL])) ?_;refine yas (a:=.int .u64 (a.chain:Int)) (b:=.int .u64 (b.chain:Int)) (by decide) (by kernel_rfl) (by kernel_rfl) ((run_equalIn_int w 9998 _ .u64 .u64 _ _ (by kernel_rfl)).trans (by rw [ydc])) ?_;refine yas (a:=.int .u64 (a.nonce:Int)) (b:=.int .u64 (b.nonce:Int)) (by decide) (by kernel_rfl) (by kernel_rfl) ((run_equalIn_int w 9998 _ .u64 .u64 _ _ (by kernel_rfl)).trans (by rw [ydc])) ?_;refine yas (a:=.int .u64 (a.gas:Int)) (b:=.int .u64 (b.gas:Int)) (by decide) (by kernel_rfl) (by kernel_rfl) ((run_equalIn_int w 9998 _ .u64 .u64 _ _ (by kernel_rfl)).trans (by rw [ydc])) ?_;refine yas (a:=.int .u64 (a.y:Int)) (b:=.int .u64 (b.y:Int)) (by decide) (by kernel_rfl) (by kernel_rfl) ((run_equalIn_int w 9998 _ .u64 .u64 _ _ (by kernel_rfl)).trans (by rw [ydc])) ?_;refine yas (a:=ybG a.tip) (b:=ybG b.tip) (by decide) (by kernel_rfl) (by kernel_rfl) (yc7 9997 ha.tip hb.tip w) ?_;refine yas (a:=ybG a.price) (b:=ybG b.price) (by decide) (by kernel_rfl) (by kernel_rfl) (yc7 9997 ha.price hb.price w) ?_;refine yas (a:=ybG a.value) (b:=ybG b.value) (by decide) (by kernel_rfl) (by kernel_rfl) (yc7 9997 ha.value hb.value w) ?_;refine yas (a:=ybG a.r) (b:=ybG b.r) (by decide) (by kernel_rfl) (by kernel_rfl) (yc7 9997 ha.r hb.r w) ?_;refine yas (a:=ybG a.s) (b:=ybG b.s) (by decide) (by kernel_rfl) (by kernel_rfl) (yc7 9997 ha.s hb.s w) ?_;refine yas (a:=ybG a.mint) (b:=ybG b.mint) (by decide) (by kernel_rfl) (by kernel_rfl) (yc7 9997 ha.mint hb.mint w) ?_;refine yas (a:=.string a.dst) (b:=.string b.dst) (by decide) (by kernel_rfl) (by kernel_rfl) ((run_equalIn_string w 9998 _ _ _ (by kernel_rfl)).trans (by rw [yec])) ?_;refine yas (a:=.string a.data) (b:=.string b.data) (by decide) (by kernel_rfl) (by kernel_rfl) ((run_equalIn_string w 9998 _ _ _ (by kernel_rfl)).trans (by rw [yec])) ?_;refine yas (a:=.string a.source) (b:=.string b.source) (by decide) (by kernel_rfl) (by kernel_rfl) ((run_equalIn_string w 9998 _ _ _ (by kernel_rfl)).trans (by rw [yec])) ?_;refine yas (a:=.string a.frm) (b:=.string b.frm) (by decide) (by kernel_rfl) (by kernel_rfl) ((run_equalIn_string w 9998 _ _ _ (by kernel_rfl)).trans (by rw [yec])) ?_;refine yas (a:=.bool a.system) (b:=.bool b.system) (by decide) (by kernel_rfl) (by kernel_rfl) ((run_equalIn_bool' w 9998 _ _ _ (by kernel_rfl)).trans (by rw [ymM])) ?_;rfl
def autB (a b:AutV):Bool:=decide (a.chain = b.chain) && (decide (a.addr = b.addr) && (decide (a.nonce = b.nonce) && (decide (a.y = b.y) && (decide (a.r = b.r) && (decide (a.s = b.s) && true)))))
theorem you {a b:AutV} (ha:a.Ok) (hb:b.Ok) (w:World):(Op.equalIn 10000 89 (.agg (autL a).toArray) (.agg (autL b).toArray)).run jq w = .ok (autB a b) w:=by
 have hS:jq.underlying 89 = some (.struct (jq.fieldsOf 89)):=by kernel_rfl
 have hp:jq.stoodInHeld 89 = false:=by kernel_rfl
 rw [show (10000:Nat) = 9999 + 1 from rfl,run_equalIn_agg w 9999 89 _ _ hS hp];simp only [Program.fieldsOf,Tryz.underlying89];unfold autB;refine yas (a:=.int .u64 (a.chain:Int)) (b:=.int .u64 (b.chain:Int)) (by decide) (by kernel_rfl) (by kernel_rfl) ((run_equalIn_int w 9998 _ .u64 .u64 _ _ (by kernel_rfl)).trans (by rw [ydc])) ?_;refine yas (a:=.string a.addr) (b:=.string b.addr) (by decide) (by kernel_rfl) (by kernel_rfl) ((run_equalIn_string w 9998 _ _ _ (by kernel_rfl)).trans (by rw [yec])) ?_;refine yas (a:=.int .u64 (a.nonce:Int)) (b:=.int .u64 (b.nonce:Int)) (by decide) (by kernel_rfl) (by kernel_rfl) ((run_equalIn_int w 9998 _ .u64 .u64 _ _ (by kernel_rfl)).trans (by rw [ydc])) ?_;refine yas (a:=.int .u64 (a.y:Int)) (b:=.int .u64 (b.y:Int)) (by decide) (by kernel_rfl) (by kernel_rfl) ((run_equalIn_int w 9998 _ .u64 .u64 _ _ (by kernel_rfl)).trans (by rw [ydc])) ?_;refine yas (a:=ybG a.r) (b:=ybG b.r) (by decide) (by kernel_rfl) (by kernel_rfl) (yc7 9997 ha.r hb.r w) ?_;refine yas (a:=ybG a.s) (b:=ybG b.s) (by decide) (by kernel_rfl) (by kernel_rfl) (yc7 9997 ha.s hb.s w) ?_;rfl
theorem ymT (a b:AutV):autB a b = decide (a = b):=by
 unfold autB;by_cases h:a = b
 ·subst h;simp
 ·rw [decide_eq_false h];rw [Bool.eq_false_iff];intro hh;simp only [Bool.and_true,Bool.and_eq_true,decide_eq_true_eq] at hh;obtain ⟨h1,h2,h3,h4,h5,h6⟩:=hh;apply h;obtain ⟨a1,a2,a3,a4,a5,a6⟩:=a;obtain ⟨b1,b2,b3,b4,b5,b6⟩:=b
  simp_all
theorem ynn (a b:TxV):(decide (a.acc = b.acc) && (decide (a.auths = b.auths) && ylF a b)) = decide (a = b):=by
 unfold ylF;by_cases h:a = b
 ·subst h;simp
 ·rw [decide_eq_false h];rw [Bool.eq_false_iff];intro hh;simp only [Bool.and_true,Bool.and_eq_true,decide_eq_true_eq] at hh;obtain ⟨h1,h2,h3,h4,h5,h6,h7,h8,h9,h10,h11,h12,h13,h14,h15,h16,h17,h18⟩:=hh;apply h;obtain ⟨a1,a2,a3,a4,a5,a6,a7,a8,a9,a10,a11,a12,a13,a14,a15,a16,a17,a18⟩:=a;obtain ⟨b1,b2,b3,b4,b5,b6,b7,b8,b9,b10,b11,b12,b13,b14,b15,b16,b17,b18⟩:=b
  simp_all
theorem yaI {w:World} {g:Nat} {t:TypeId} {cs cs':Array Value} (h:Blk w g t cs):Blk (w.setRow g cs') g t cs':=setRow_heap w g cs cs' t (0,0) h
theorem yba {a w:World} {g:Nat} (h:a.grownBy w none) (hg:a.heap.size <= g) (cs:Array Value):a.grownBy (w.setRow g cs) none :=
 ⟨h.os,h.tape,h.output,by simpa using h.size,fun k hk hn=>(jso w g k cs (by omega)).trans (h.block k hk hn)⟩
theorem yaq {P:Program} {W:World} {a:Act} {o:Oper} {ty:TypeId} {x:Operand} {g:Nat} (ho:o.op = .load ty x) (hx:a.eval x = .pointer (some ⟨g,0,none⟩)) (t:TypeId) (cs:Array Value) (d:TypeDesc) (hg:Blk W g t cs)
  (hu:P.underlying ty = some d) (hd:(match d with | .struct _ | .array _ _=>true | _=>false) = true) (hi:(P.info? ty).map (·.size) = some cs.size):(execOp a.eval o).run P W = .ok (.value (.agg cs)) W:=by
 unfold execOp;simp only [ho,hx,Instr.loadAt,Instr.sureAddr,Sem.run_bind,Sem.run_pure,Result.andThen_ok,run_loadVar_row W g t ty cs (0,0) d hg hu hd hi]
theorem ycL {P:Program} {a:Act} {o:Oper} {W:World} (f:FuncId) (y x:Operand) (ts:Array TypeId) (ho:o.op = .call { callee:=.value y,args:=#[x],argTypes:=ts }) (hy:a.eval y = .func (.func f) #[] #[]) (v:Value) (hx:a.eval x = v)
  (hf:(callFunc f #[v]).run P W = .ok (.enter f #[v]) W):(execOp a.eval o).run P W = .ok (.enter f #[v]) W:=by
 unfold execOp;generalize a.eval = ev at *;simp only [ho];simp [resolve,invoke,go_sem,hx,hy,hf]
theorem ynS {a:Act} {o:Oper} {x y:Value} {r:Bool} (h:∀ w,(Op.equalIn 10000 136 x y).run jq w = .ok r w) (W:World) {p q:Operand} {u:TypeId} (ho:o.op = .binOp .eql 136 p q u) (hp:a.eval p = x) (hq:a.eval q = y) {xs ys:Array Value} (hx:x = .agg xs) (hy:y = .agg ys) :
  (execOp a.eval o).run jq W = .ok (.value (.bool r)) W:=by
 have hm:jq.eqGuardType jq.depth 136 = false:=by kernel_rfl
 subst hx;subst hy;have h1:=run_eqGuard_agg (P:=jq) W .eql 136 p q xs ys hm;have h2:=run_eql_struct (P:=jq) W 136 xs ys;rw [h W] at h2;unfold execOp;generalize a.eval = ev at *;simp only [ho,hp,hq];generalize eqGuard .eql 136 p q (.agg xs) (.agg ys) = G at *;generalize binOp .eql 136 (.agg xs) (.agg ys) = M at *;simp [go_sem,h1,h2]
theorem ydD {W:World} {g i:Nat} {t:TypeId} {cs:Array Value} {v:Value} (h:Blk W g t cs) (hv:cs[i]? = some v):W.setCell ⟨g,i,none⟩ v = W:=by
 have h:W.heap[g]? = some (.cells cs t (0,0)):=h;obtain ⟨hg,hc⟩:=jes.1 h;obtain ⟨hi,hvi⟩:=jes.1 hv
 have key:W.heap.modify g (fun
   | .cells c elem frozen=>.cells (if (none:Option Nat).isSome then c else c.setIfInBounds i v) elem frozen
   | o=>o) = W.heap:=by
  apply Array.ext
  ·simp
  ·intro j h1 h2;rw [Array.getElem_modify];split
   ·rename_i e
    subst e;rw [hc]
    have:cs.setIfInBounds i v = cs:=by
     apply Array.ext
     ·simp
     ·intro k k1 k2;rw [Array.getElem_setIfInBounds];split
      ·rename_i e;subst e;exact hvi.symm
      ·rfl
    simp [this]
   ·rfl
 have hh:(W.setCell ⟨g,i,none⟩ v).heap = W.heap:=key
 calc W.setCell ⟨g,i,none⟩ v = { W with heap:=(W.setCell ⟨g,i,none⟩ v).heap }:=rfl
  _ = W:=by rw [hh]
section
variable {P:Program} {ops:Array Oper} {C:World -> Prop} {Q:Act -> Prop} {a:Act} {o:Oper} {rest:List Oper}
end
def txA (kind:Int) (chain:Int) (nonce:Int) (tip0 tip1 tip2 tip3:Int) (price0 price1 price2 price3:Int) (gas:Int) (dst:ByteArray) (value0 value1 value2 value3:Int) (data:ByteArray) (sa:Value) (sb:Value) (y:Int) (r0 r1 r2 r3:Int) (s0 s1 s2 s3:Int) (source:ByteArray) (frm:ByteArray) (mint0 mint1 mint2 mint3:Int) (system:Bool):Array Value:=#[.int .i64 kind,.int .u64 chain,.int .u64 nonce,.int .u64 tip0,.int .u64 tip1,.int .u64 tip2,.int .u64 tip3,.int .u64 price0,.int .u64 price1,.int .u64 price2,.int .u64 price3,.int .u64 gas,.string dst,.int .u64 value0,.int .u64 value1,.int .u64 value2,.int .u64 value3,.string data,sa,sb,.int .u64 y,.int .u64 r0,.int .u64 r1,.int .u64 r2,.int .u64 r3,.int .u64 s0,.int .u64 s1,.int .u64 s2,.int .u64 s3,.string source,.string frm,.int .u64 mint0,.int .u64 mint1,.int .u64 mint2,.int .u64 mint3,.bool system]
def yfU (kind:Int) (chain:Int) (nonce:Int) (tip0 tip1 tip2 tip3:Int) (price0 price1 price2 price3:Int) (gas:Int) (dst:ByteArray) (value0 value1 value2 value3:Int) (data:ByteArray) (y:Int) (r0 r1 r2 r3:Int) (s0 s1 s2 s3:Int) (source:ByteArray) (frm:ByteArray) (mint0 mint1 mint2 mint3:Int) (system:Bool):Array Value:=#[.int .i64 kind,.int .u64 chain,.int .u64 nonce,.int .u64 gas,.int .u64 y,.int .u64 tip0,.int .u64 tip1,.int .u64 tip2,.int .u64 tip3,.int .u64 price0,.int .u64 price1,.int .u64 price2,.int .u64 price3,.int .u64 value0,.int .u64 value1,.int .u64 value2,.int .u64 value3,.int .u64 r0,.int .u64 r1,.int .u64 r2,.int .u64 r3,.int .u64 s0,.int .u64 s1,.int .u64 s2,.int .u64 s3,.int .u64 mint0,.int .u64 mint1,.int .u64 mint2,.int .u64 mint3,.string dst,.string data,.string source,.string frm,.bool system]
theorem ylu (t:TxV) (sa sb:Value):txC t sa sb = txA t.kind (t.chain:Int) (t.nonce:Int) ((wp t.tip 0:Nat):Int) ((wp t.tip 1:Nat):Int) ((wp t.tip 2:Nat):Int) ((wp t.tip 3:Nat):Int) ((wp t.price 0:Nat):Int) ((wp t.price 1:Nat):Int) ((wp t.price 2:Nat):Int) ((wp t.price 3:Nat):Int) (t.gas:Int) t.dst ((wp t.value 0:Nat):Int) ((wp t.value 1:Nat):Int) ((wp t.value 2:Nat):Int) ((wp t.value 3:Nat):Int) t.data sa sb (t.y:Int) ((wp t.r 0:Nat):Int) ((wp t.r 1:Nat):Int) ((wp t.r 2:Nat):Int) ((wp t.r 3:Nat):Int) ((wp t.s 0:Nat):Int) ((wp t.s 1:Nat):Int) ((wp t.s 2:Nat):Int) ((wp t.s 3:Nat):Int) t.source t.frm ((wp t.mint 0:Nat):Int) ((wp t.mint 1:Nat):Int) ((wp t.mint 2:Nat):Int) ((wp t.mint 3:Nat):Int) t.system:=rfl
theorem yno (t:TxV):yky t = yfU t.kind (t.chain:Int) (t.nonce:Int) ((wp t.tip 0:Nat):Int) ((wp t.tip 1:Nat):Int) ((wp t.tip 2:Nat):Int) ((wp t.tip 3:Nat):Int) ((wp t.price 0:Nat):Int) ((wp t.price 1:Nat):Int) ((wp t.price 2:Nat):Int) ((wp t.price 3:Nat):Int) (t.gas:Int) t.dst ((wp t.value 0:Nat):Int) ((wp t.value 1:Nat):Int) ((wp t.value 2:Nat):Int) ((wp t.value 3:Nat):Int) t.data (t.y:Int) ((wp t.r 0:Nat):Int) ((wp t.r 1:Nat):Int) ((wp t.r 2:Nat):Int) ((wp t.r 3:Nat):Int) ((wp t.s 0:Nat):Int) ((wp t.s 1:Nat):Int) ((wp t.s 2:Nat):Int) ((wp t.s 3:Nat):Int) t.source t.frm ((wp t.mint 0:Nat):Int) ((wp t.mint 1:Nat):Int) ((wp t.mint 2:Nat):Int) ((wp t.mint 3:Nat):Int) t.system:=rfl
theorem ylG (kind:Int) (chain:Int) (nonce:Int) (tip0 tip1 tip2 tip3:Int) (price0 price1 price2 price3:Int) (gas:Int) (dst:ByteArray) (value0 value1 value2 value3:Int) (data:ByteArray) (y:Int) (r0 r1 r2 r3:Int) (s0 s1 s2 s3:Int) (source:ByteArray) (frm:ByteArray) (mint0 mint1 mint2 mint3:Int) (system:Bool):((yfU kind chain nonce tip0 tip1 tip2 tip3 price0 price1 price2 price3 gas dst value0 value1 value2 value3 data y r0 r1 r2 r3 s0 s1 s2 s3 source frm mint0 mint1 mint2 mint3 system).all fun x=>x.oneCell') = true:=by unfold yfU;simp [ja2]
def ykt:Array Value:=yfU 0 0 0 0 0 0 0 0 0 0 0 0 ⟨#[]⟩ 0 0 0 0 ⟨#[]⟩ 0 0 0 0 0 0 0 0 0 ⟨#[]⟩ ⟨#[]⟩ 0 0 0 0 false
theorem yiD (kind:Int) (chain:Int) (nonce:Int) (tip0 tip1 tip2 tip3:Int) (price0 price1 price2 price3:Int) (gas:Int) (dst:ByteArray) (value0 value1 value2 value3:Int) (data:ByteArray) (sa:Value) (sb:Value) (y:Int) (r0 r1 r2 r3:Int) (s0 s1 s2 s3:Int) (source:ByteArray) (frm:ByteArray) (mint0 mint1 mint2 mint3:Int) (system:Bool) (w:World):Calls jq 101 #[.agg (txA kind chain nonce tip0 tip1 tip2 tip3 price0 price1 price2 price3 gas dst value0 value1 value2 value3 data sa sb y r0 r1 r2 r3 s0 s1 s2 s3 source frm mint0 mint1 mint2 mint3 system)] w fun e w'=>e = .returned (.agg (yfU kind chain nonce tip0 tip1 tip2 tip3 price0 price1 price2 price3 gas dst value0 value1 value2 value3 data y r0 r1 r2 r3 s0 s1 s2 s3 source frm mint0 mint1 mint2 mint3 system)) /\ w.grownBy w' none:=by
 have hB:=Blk.new w 42 (txA kind chain nonce tip0 tip1 tip2 tip3 price0 price1 price2 price3 gas dst value0 value1 value2 value3 data sa sb y r0 r1 r2 r3 s0 s1 s2 s3 source frm mint0 mint1 mint2 mint3 system);have hG:=yaa (jr w none) (.cells (txA kind chain nonce tip0 tip1 tip2 tip3 price0 price1 price2 price3 gas dst value0 value1 value2 value3 data sa sb y r0 r1 r2 r3 s0 s1 s2 s3 source frm mint0 mint1 mint2 mint3 system) 42);go_enter Tryz.func101,Tryz.ntmps101
 go_upto_region 1 with (fail)
 have hR:=Blk.new (w.alloc (.cells (txA kind chain nonce tip0 tip1 tip2 tip3 price0 price1 price2 price3 gas dst value0 value1 value2 value3 data sa sb y r0 r1 r2 r3 s0 s1 s2 s3 source frm mint0 mint1 mint2 mint3 system) 42)) 136 ykt;rw [jsa] at hR;have hB2:=hB.alloc (.cells ykt 136);have hG2:=yaa hG (.cells ykt 136);change Code.wp _ _ _ _ ((w.alloc (.cells (txA kind chain nonce tip0 tip1 tip2 tip3 price0 price1 price2 price3 gas dst value0 value1 value2 value3 data sa sb y r0 r1 r2 r3 s0 s1 s2 s3 source frm mint0 mint1 mint2 mint3 system) 42)).alloc (.cells ykt 136));obtain ⟨g,hg⟩:∃ g,w.heap.size = g:=⟨_,rfl⟩;have HW:=jh hg;rw [hg] at hR hB2 ⊢;clear hg hB hG;generalize (w.alloc (.cells (txA kind chain nonce tip0 tip1 tip2 tip3 price0 price1 price2 price3 gas dst value0 value1 value2 value3 data sa sb y r0 r1 r2 r3 s0 s1 s2 s3 source frm mint0 mint1 mint2 mint3 system) 42)).alloc (.cells ykt 136) = w1 at *;have c0:w1.cell? ⟨g,0,none⟩ = some (.int .i64 kind):=hB2.cell 0;have c1:w1.cell? ⟨g,1,none⟩ = some (.int .u64 chain):=hB2.cell 1;have c2:w1.cell? ⟨g,2,none⟩ = some (.int .u64 nonce):=hB2.cell 2;have c3:w1.cell? ⟨g,3,none⟩ = some (.int .u64 tip0):=hB2.cell 3;have c4:w1.cell? ⟨g,4,none⟩ = some (.int .u64 tip1):=hB2.cell 4;have c5:w1.cell? ⟨g,5,none⟩ = some (.int .u64 tip2):=hB2.cell 5;have c6:w1.cell? ⟨g,6,none⟩ = some (.int .u64 tip3):=hB2.cell 6;have c7:w1.cell? ⟨g,7,none⟩ = some (.int .u64 price0):=hB2.cell 7;have c8:w1.cell? ⟨g,8,none⟩ = some (.int .u64 price1):=hB2.cell 8;have c9:w1.cell? ⟨g,9,none⟩ = some (.int .u64 price2):=hB2.cell 9;have c10:w1.cell? ⟨g,10,none⟩ = some (.int .u64 price3):=hB2.cell 10;have c11:w1.cell? ⟨g,11,none⟩ = some (.int .u64 gas):=hB2.cell 11;have c12:w1.cell? ⟨g,12,none⟩ = some (.string dst):=hB2.cell 12;have c13:w1.cell? ⟨g,13,none⟩ = some (.int .u64 value0):=hB2.cell 13;have c14:w1.cell? ⟨g,14,none⟩ = some (.int .u64 value1):=hB2.cell 14;have c15:w1.cell? ⟨g,15,none⟩ = some (.int .u64 value2):=hB2.cell 15;have c16:w1.cell? ⟨g,16,none⟩ = some (.int .u64 value3):=hB2.cell 16;have c17:w1.cell? ⟨g,17,none⟩ = some (.string data):=hB2.cell 17;have c20:w1.cell? ⟨g,20,none⟩ = some (.int .u64 y):=hB2.cell 20;have c21:w1.cell? ⟨g,21,none⟩ = some (.int .u64 r0):=hB2.cell 21;have c22:w1.cell? ⟨g,22,none⟩ = some (.int .u64 r1):=hB2.cell 22;have c23:w1.cell? ⟨g,23,none⟩ = some (.int .u64 r2):=hB2.cell 23;have c24:w1.cell? ⟨g,24,none⟩ = some (.int .u64 r3):=hB2.cell 24;have c25:w1.cell? ⟨g,25,none⟩ = some (.int .u64 s0):=hB2.cell 25;have c26:w1.cell? ⟨g,26,none⟩ = some (.int .u64 s1):=hB2.cell 26;have c27:w1.cell? ⟨g,27,none⟩ = some (.int .u64 s2):=hB2.cell 27;have c28:w1.cell? ⟨g,28,none⟩ = some (.int .u64 s3):=hB2.cell 28;have c29:w1.cell? ⟨g,29,none⟩ = some (.string source):=hB2.cell 29;have c30:w1.cell? ⟨g,30,none⟩ = some (.string frm):=hB2.cell 30;have c31:w1.cell? ⟨g,31,none⟩ = some (.int .u64 mint0):=hB2.cell 31;have c32:w1.cell? ⟨g,32,none⟩ = some (.int .u64 mint1):=hB2.cell 32;have c33:w1.cell? ⟨g,33,none⟩ = some (.int .u64 mint2):=hB2.cell 33;have c34:w1.cell? ⟨g,34,none⟩ = some (.int .u64 mint3):=hB2.cell 34;have c35:w1.cell? ⟨g,35,none⟩ = some (.bool system):=hB2.cell 35;have HR:=jh hR;have HG2:=jh hG2;clear hB2 hR hG2;refine jwl ?_
 iterate 99 go_step
 refine wp_store_row 136 (.tmp 2) (.tmp 35) rfl (g + 1) (yfU kind chain nonce tip0 tip1 tip2 tip3 price0 price1 price2 price3 gas dst value0 value1 value2 value3 data y r0 r1 r2 r3 s0 s1 s2 s3 source frm mint0 mint1 mint2 mint3 system) rfl rfl 136 ykt HR.out (by kernel_rfl) rfl (ylG kind chain nonce tip0 tip1 tip2 tip3 price0 price1 price2 price3 gas dst value0 value1 value2 value3 data y r0 r1 r2 r3 s0 s1 s2 s3 source frm mint0 mint1 mint2 mint3 system) ?_;have hR2:Blk (w1.setRow (g + 1) (yfU kind chain nonce tip0 tip1 tip2 tip3 price0 price1 price2 price3 gas dst value0 value1 value2 value3 data y r0 r1 r2 r3 s0 s1 s2 s3 source frm mint0 mint1 mint2 mint3 system)) (g + 1) 136 (yfU kind chain nonce tip0 tip1 tip2 tip3 price0 price1 price2 price3 gas dst value0 value1 value2 value3 data y r0 r1 r2 r3 s0 s1 s2 s3 source frm mint0 mint1 mint2 mint3 system):=yaI HR.out;have hG3:w.grownBy (w1.setRow (g + 1) (yfU kind chain nonce tip0 tip1 tip2 tip3 price0 price1 price2 price3 gas dst value0 value1 value2 value3 data y r0 r1 r2 r3 s0 s1 s2 s3 source frm mint0 mint1 mint2 mint3 system)) none:=yba HG2.out (by have:=HW.out;omega) _;have HR2:=jh hR2;have HG3:=jh hG3;clear hR2 hG3 HR HG2;generalize w1.setRow (g + 1) (yfU kind chain nonce tip0 tip1 tip2 tip3 price0 price1 price2 price3 gas dst value0 value1 value2 value3 data y r0 r1 r2 r3 s0 s1 s2 s3 source frm mint0 mint1 mint2 mint3 system) = w2 at *;simp only [jp];go_wp2_with fail
 refine jbr (results_cell_row (fn:=Tryz.f101) rfl _ _ _ _ _ _ _ rfl HR2.out Tryz.underlying136 rfl (by kernel_rfl)) rfl ?_;exact ⟨rfl,HG3.out⟩
theorem yfl (t:TxV) (sa sb:Value) (w:World):Calls jq 101 #[.agg (txC t sa sb)] w fun e w'=>e = .returned (.agg (yky t)) /\ w.grownBy w' none:=by
 rw [ylu,yno];exact yiD t.kind (t.chain:Int) (t.nonce:Int) ((wp t.tip 0:Nat):Int) ((wp t.tip 1:Nat):Int) ((wp t.tip 2:Nat):Int) ((wp t.tip 3:Nat):Int) ((wp t.price 0:Nat):Int) ((wp t.price 1:Nat):Int) ((wp t.price 2:Nat):Int) ((wp t.price 3:Nat):Int) (t.gas:Int) t.dst ((wp t.value 0:Nat):Int) ((wp t.value 1:Nat):Int) ((wp t.value 2:Nat):Int) ((wp t.value 3:Nat):Int) t.data sa sb (t.y:Int) ((wp t.r 0:Nat):Int) ((wp t.r 1:Nat):Int) ((wp t.r 2:Nat):Int) ((wp t.r 3:Nat):Int) ((wp t.s 0:Nat):Int) ((wp t.s 1:Nat):Int) ((wp t.s 2:Nat):Int) ((wp t.s 3:Nat):Int) t.source t.frm ((wp t.mint 0:Nat):Int) ((wp t.mint 1:Nat):Int) ((wp t.mint 2:Nat):Int) ((wp t.mint 3:Nat):Int) t.system w
end Go.Proofs.YtgclnikdkfpflaaGreatDoor
