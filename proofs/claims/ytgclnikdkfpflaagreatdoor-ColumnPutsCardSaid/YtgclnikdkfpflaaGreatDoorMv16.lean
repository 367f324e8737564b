/- Merged: CpG, CpI, CpJ, DcJ, Open, OpenS, OpenI, OpenT. -/
import Derived.Test.YtgclnikdkfpflaaGreatDoorMv1
import Derived.Test.YtgclnikdkfpflaaGreatDoorMv2
import Derived.Test.YtgclnikdkfpflaaGreatDoorMv6
import Derived.Test.YtgclnikdkfpflaaGreatDoorMv10
import Derived.Test.YtgclnikdkfpflaaGreatDoorMv14
import Derived.Test.YtgclnikdkfpflaaGreatDoorMv15
import Derived.Deep.DeepCutAuto
import Derived.Deep.Strs
namespace Go.Proofs.YtgclnikdkfpflaaGreatDoor
open Go.RowKit Go.Shelf
open List renaming set_cons_zero → jz, set_cons_succ → js, setIfInBounds_toArray → jb
set_option linter.unusedVariables false
set_option linter.unusedSimpArgs false
set_option maxRecDepth 100000
set_option maxHeartbeats 16000000
open Lib renaming hid → jh
open Act renaming put → jp
open World.grownBy renaming refl → jr
open _root_.List renaming getD_eq_getElem?_getD → jg, getElem?_eq_getElem → je, drop_eq_getElem_cons → jdc, getElem?_map → jgm, getElem?_eq_none → jc6, getElem?_eq_some_iff → jc9, cons → je5
open _root_.Array renaming getElem?_eq_some_iff → jes, replicate → je4
open _root_.Int renaming eq_ofNat_of_zero_le → jez
open _root_.Nat renaming le_trans → jlt, le_refl → jle, mul_comm → jd2, zero_add → jd6
open _root_.Go.Proofs.Tryz renaming prog → jq, underlying42 → ja3, underlying23 → ja5, underlying9 → ja9, underlying3 → jb8, underlying38 → jd8
open Go renaming wp_region_list → jwl, wpList_nil → jwn
open _root_.Go.Proofs renaming enters_of → jeo
open Value renaming slice → ja4, string → ja8
open World renaming block_lt_of_cell? → jd0
def to20:ByteArray:=⟨je4 20 0⟩
def wk0:TxV:={ TxV.zero with nonce:=300,dst:=to20,y:=1 }
def wk1:TxV:={ TxV.zero with kind:=1,chain:=9,gas:=5,data:=⟨#[120]⟩ }
def wk2:TxV:={ TxV.zero with kind:=126 }
def wkL:List TxV:=[wk0,wk1]
theorem ypA:yat [] 9 = 0:=by decide +kernel
theorem yna:yat wkL 9 = 0:=by decide +kernel
theorem yp9:yat wkL 8 = 2:=by decide +kernel
theorem yp8:yat [] 0 = 1:=by decide +kernel
theorem yp7:yat [wk2] 9 = 9:=by decide +kernel
theorem yp4:ycb [] 9 = []:=by decide +kernel
def wkB:List UInt8:=ye9 wkL
theorem yp3:ycb wkL 9 = wkB:=by unfold ycb;rw [if_pos yna];rfl
theorem wk_len:wkB.length = 166 /\ wkB.take 2 = [2,1]:=by decide +kernel
theorem yki:∀ t ∈ wkL,t.Ok:=by
 intro t ht;have h:t = wk0 \/ t = wk1:=by simpa [wkL] using ht
 rcases h with rfl | rfl <;> exact ⟨by decide,by decide,by decide,by decide,by decide,by decide,by decide,by decide,by decide,by decide,fun a h=>by cases h⟩
theorem ypj:∀ t ∈ [wk2],t.Ok:=by
 intro t ht;have h:t = wk2:=by simpa using ht
 subst h;exact ⟨by decide,by decide,by decide,by decide,by decide,by decide,by decide,by decide,by decide,by decide,fun a h=>by cases h⟩
theorem yp6:getR ⟨([97,98] ++ wkB ++ [99]).toArray⟩ 2 2 9 = .ok (wkL,168):=by
 have h:=ynK (s:=⟨([97,98] ++ wkB ++ [99]).toArray⟩) (a:=2) yna yki ⟨[99],rfl⟩ (by rw [<- yar];simp);have e:2 + (ye9 wkL).length = 168:=by have:=wk_len.1;unfold wkB at this;omega
 rw [e] at h;exact h
theorem yp5:∃ E,E ≠ 0 /\ getR ⟨wkB.toArray⟩ 0 3 9 = .error E:=by
 have h:(match getR ⟨wkB.toArray⟩ 0 3 9 with | .error e=>e | .ok _=>0) ≠ 0:=by decide +kernel
 split at h
 ·rename_i e he;exact ⟨e,h,he⟩
 ·exact absurd rfl h
theorem ypC:getA ⟨([97,98] ++ wkB ++ [99]).toArray⟩ 2 2 9 = .ok (wkL,168):=by
 have hl:=wk_len.1;have hz:(⟨([97,98] ++ wkB ++ [99]).toArray⟩:ByteArray).size = 169:=by rw [<- yar];simp [hl]
 have hb:yd9 ⟨([97,98] ++ wkB ++ [99]).toArray⟩ 2 2 9 = false:=by unfold yd9;rw [hz];rfl
 unfold getA;rw [if_neg (by rw [hb];simp)];exact yp6
theorem ypB:∃ E,E ≠ 0 /\ getA ⟨wkB.toArray⟩ 0 3 9 = .error E:=by
 have hl:=wk_len.1;have hz:(⟨wkB.toArray⟩:ByteArray).size = 166:=by rw [<- yar];exact hl
 have hb:yd9 ⟨wkB.toArray⟩ 0 3 9 = false:=by unfold yd9;rw [hz];rfl
 obtain ⟨E,h1,h2⟩:=yp5;refine ⟨E,h1,?_⟩;unfold getA;rw [if_neg (by rw [hb];simp)];exact h2
theorem wk_k:∀ t ∈ wkL,ycp t:=by
 intro t ht;have h:t = wk0 \/ t = wk1:=by simpa [wkL] using ht
 rcases h with rfl | rfl <;> exact fun x h=>by cases h
theorem yi7 (w:World):Calls jq 8 #[] w fun e w'=>e = .returned (.bool true) /\ w.grownBy w' none:=by
 have hmk:∀ V:World,(Instr.makeSlice 43 (.int .i64 20) (.int .i64 20)).run jq V = .ok (.slice (some ⟨V.heap.size,0,none⟩) 20 20) (V.alloc (.cells (je4 20 (.int .u8 0)) 5)):=fun V=>ypF 20 (by omega) V;have hcv:(convert 43 9 (.slice (some ⟨w.heap.size,0,none⟩) 20 20)).run jq (w.alloc (.cells (je4 20 (.int .u8 0)) 5)) = .ok (.string to20) (w.alloc (.cells (je4 20 (.int .u8 0)) 5)):=yc8 (ypJ w);have hg0:=yaa (jr w none) (.cells (je4 20 (.int .u8 0)) 5);have HG0:=jh hg0;clear hg0;go_enter Tryz.func8,Tryz.ntmps8
 go_upto_region 2 with (fail)
 change Code.wp _ _ _ _ (w.alloc (.cells (je4 20 (.int .u8 0)) 5));generalize w.alloc (.cells (je4 20 (.int .u8 0)) 5) = w1 at *;clear hmk hcv;refine jwl ?_;refine zm 1 (.string to20) rfl ?_;simp only [jp,jb,jz,js];refine ydp rfl 42 _ (txC wk0 (.slice none 0 0) (.slice none 0 0)) rfl (by kernel_rfl) ?_;simp only [jp,jb,jz,js];refine ydp rfl 42 _ (txC wk1 (.slice none 0 0) (.slice none 0 0)) rfl (by kernel_rfl) ?_;simp only [jp,jb,jz,js];refine yfd rfl 2 _ rfl (by omega) (by omega) (ydz wkL).toArray (by kernel_rfl) ?_;simp only [jp,jb,jz,js];refine zg (.slice (some ⟨w1.heap.size,0,none⟩) 2 2) ?_;simp only [jp,jb,jz,js];refine jwn ?_;have hga:=yaa (jr w1 none) (.cells (ydz wkL).toArray 42);have hbl:=Blk.new w1 42 (ydz wkL).toArray;obtain ⟨g,hg⟩:∃ g,w1.heap.size = g:=⟨_,rfl⟩;rw [hg] at hbl ⊢;generalize w1.alloc (.cells (ydz wkL).toArray 42) = w2 at *
 have htx:=yoq hbl (fun t ht=>by
  have h:t = wk0 \/ t = wk1:=by simpa [wkL] using ht
  rcases h with rfl | rfl <;> exact ⟨rfl,rfl⟩)
 have HT:=jh htx;have BHT:=jh (jle w2.heap.size);have HG:=jh (yab HG0.out hga (by simp));clear hga hbl hg htx HG0;go_upto_region 3 with (fail)
 refine jwl ?_;have hc:=ydm 0 none 0 0 [] 9 w2 (yop _ _) (Nat.zero_le _) (by decide) (fun t h=>by cases h);rw [yp4,ypA] at hc;refine yai rfl 11 #[.slice none 0 0,.int .u64 9] (ya4 _ (.const (.slice none 0 0)) (.const (.int .u64 9)) _ rfl _ _ rfl rfl (jeo Tryz.func11 (by kernel_rfl) rfl _ _)) (hc.mono ?_);clear hc;rintro e w3 ⟨rfl,hg⟩;have HG:=jh (yab HG.out hg (by simp));have HT:=jh (HT.out.grown hg BHT.out);have BHT:=jh (jlt BHT.out hg.size);clear hg;refine ⟨_,rfl,?_⟩;simp only [jp,jb,jz,js];refine zm 27 (.tuple #[.string ⟨([]:List UInt8).toArray⟩,.int .i64 0]) rfl ?_;simp only [jp,jb,jz,js];refine zg (.string ⟨([]:List UInt8).toArray⟩) ?_;simp only [jp,jb,jz,js];refine zg (.int .i64 0) ?_;simp only [jp,jb,jz,js];refine zg (.string ⟨([]:List UInt8).toArray⟩) ?_;simp only [jp,jb,jz,js];refine zg (.int .i64 0) ?_;simp only [jp,jb,jz,js];refine jwn ?_;go_upto_region 4 with (fail)
 refine jwl ?_;refine zm 2 (.slice (some ⟨g,0,none⟩) 2 2) rfl ?_;simp only [jp,jb,jz,js];have hc:=ydm _ (some ⟨g,0,none⟩) 2 2 wkL 9 w3 HT.out BHT.out (by decide) yki;rw [yp3,yna] at hc;refine yai rfl 11 #[.slice (some ⟨g,0,none⟩) 2 2,.int .u64 9] (ya4 _ (.tmp 31) (.const (.int .u64 9)) _ rfl _ _ rfl rfl (jeo Tryz.func11 (by kernel_rfl) rfl _ _)) (hc.mono ?_);clear hc;rintro e w4 ⟨rfl,hg⟩;have HG:=jh (yab HG.out hg (by simp));have HT:=jh (HT.out.grown hg BHT.out);have BHT:=jh (jlt BHT.out hg.size);clear hg;refine ⟨_,rfl,?_⟩;simp only [jp,jb,jz,js];refine zm 32 (.tuple #[.string ⟨wkB.toArray⟩,.int .i64 0]) rfl ?_;simp only [jp,jb,jz,js];refine zg (.string ⟨wkB.toArray⟩) ?_;simp only [jp,jb,jz,js];refine zg (.int .i64 0) ?_;simp only [jp,jb,jz,js];refine zg (.string ⟨wkB.toArray⟩) ?_;simp only [jp,jb,jz,js];refine zg (.int .i64 0) ?_;simp only [jp,jb,jz,js];refine jwn ?_;obtain ⟨S,hS⟩:∃ S:ByteArray,(⟨wkB.toArray⟩:ByteArray) = S:=⟨_,rfl⟩;obtain ⟨S1,hS1⟩:∃ S:ByteArray,(⟨([97,98] ++ wkB ++ [99]).toArray⟩:ByteArray) = S:=⟨_,rfl⟩;have hsz:S.size = 166:=by rw [<- hS,<- yar];exact wk_len.1
 have hsz1:S1.size = 169:=by rw [<- hS1,<- yar];simp [wk_len.1]
 have ha1:=ypC;obtain ⟨EA,hea,ha2⟩:=ypB
 have happ:(⟨#[97,98]⟩:ByteArray) ++ S ++ ⟨#[99]⟩ = S1:=by
  rw [<- hS,<- hS1];refine ybM ?_;simp
 have hpre:S.extract 0 2 = ⟨#[2,1]⟩:=by
  refine ybM ?_;have:=ydu S 0 2;rw [jd6,List.drop_zero] at this;rw [this,<- hS];exact wk_len.2
 rw [hS1] at ha1;rw [hS] at ha2 ⊢;have HSZ0:=jh hsz;have HSZ1:=jh hsz1;have HA1:=jh ha1;have HA2:=jh ha2;have HAPP:=jh happ;have HPRE:=jh hpre;have HEA:=jh hea;clear hS hS1 hsz hsz1 ha1 ha2 happ hpre hea;go_upto_region 5 with (fail)
 refine jwl ?_;refine zm 5 (.string S) rfl ?_;simp only [jp,jb,jz,js];have hs1:=HAPP.out;have hs2:=HSZ0.out;have hs3:((⟨#[97,98]⟩:ByteArray) ++ S).size = 168:=by rw [ByteArray.size_append,hs2];rfl
 refine yac rfl (.string (⟨#[97,98]⟩ ++ S)) (ybi _ _ rfl _ _ _ rfl rfl (by rw [hs2];decide) rfl) ?_;simp only [jp,jb,jz,js];refine yac rfl (.string S1) (ybi _ _ rfl _ _ _ rfl rfl (by rw [hs3];decide) hs1) ?_;simp only [jp,jb,jz,js];refine yai rfl 14 #[.string S1,.int .i64 2,.int .i64 2,.int .u64 9] (ycM _ (.tmp 38) (.const (.int .i64 2)) (.const (.int .i64 2)) (.const (.int .u64 9)) _ rfl _ _ _ _ rfl rfl rfl rfl (jeo Tryz.func14 (by kernel_rfl) rfl _ _)) ((ygF S1 2 2 9 w4 (by have:=HSZ1.out;omega)).mono ?_);rintro e w5 ⟨hg,hh⟩
 have hh2:∃ gm,e = .returned (.tuple #[.slice (some ⟨gm,0,none⟩) 2 2,.int .i64 168,.int .i64 0]) /\ TxsR w5.heap.size w5 wkL (some ⟨gm,0,none⟩) 2:=by
  rcases hh with ⟨E,h1,h2,_⟩ | ⟨L,T,gm,h1,_,_,h3,_,h5,_,_⟩
  ·rw [HA1.out] at h2;cases h2
  ·rw [HA1.out] at h1;cases h1;exact ⟨gm,h3,h5⟩
 obtain ⟨gm,rfl,htm⟩:=hh2;have HTM:=jh htm;have BHTM:=jh (jle w5.heap.size);have HG:=jh (yab HG.out hg (by simp));have HT:=jh (HT.out.grown hg BHT.out);have BHT:=jh (jlt BHT.out hg.size);clear hg hh htm hs1;refine ⟨_,rfl,?_⟩;simp only [jp,jb,jz,js];refine zm 39 (.tuple #[.slice (some ⟨gm,0,none⟩) 2 2,.int .i64 168,.int .i64 0]) rfl ?_;simp only [jp,jb,jz,js];refine zg (.slice (some ⟨gm,0,none⟩) 2 2) ?_;simp only [jp,jb,jz,js];refine zg (.int .i64 168) ?_;simp only [jp,jb,jz,js];refine zg (.int .i64 0) ?_;simp only [jp,jb,jz,js];refine zg (.slice (some ⟨gm,0,none⟩) 2 2) ?_;simp only [jp,jb,jz,js];refine zg (.int .i64 168) ?_;simp only [jp,jb,jz,js];refine zg (.int .i64 0) ?_;simp only [jp,jb,jz,js];refine jwn ?_;go_upto_region 6 with (fail)
 refine jwl ?_;refine zm 5 (.string S) rfl ?_;simp only [jp,jb,jz,js];refine yai rfl 14 #[.string S,.int .i64 0,.int .i64 3,.int .u64 9] (ycM _ (.tmp 44) (.const (.int .i64 0)) (.const (.int .i64 3)) (.const (.int .u64 9)) _ rfl _ _ _ _ rfl rfl rfl rfl (jeo Tryz.func14 (by kernel_rfl) rfl _ _)) ((ygF S 0 3 9 w5 (by have:=HSZ0.out;omega)).mono ?_);rintro e w6 ⟨hg,hh⟩
 have hh2:e = .returned (.tuple #[.slice none 0 0,.int .i64 0,.int .i64 EA]):=by
  rcases hh with ⟨E,h1,h2,h3⟩ | ⟨L,T,gm,h1,_⟩
  ·rw [HA2.out] at h2;cases h2;exact h3
  ·rw [HA2.out] at h1;cases h1
 subst hh2;have HG:=jh (yab HG.out hg (by simp));have HT:=jh (HT.out.grown hg BHT.out);have BHT:=jh (jlt BHT.out hg.size);have HTM:=jh (HTM.out.grown hg BHTM.out);have BHTM:=jh (jlt BHTM.out hg.size);clear hg hh;refine ⟨_,rfl,?_⟩;simp only [jp,jb,jz,js];refine zm 45 (.tuple #[.slice none 0 0,.int .i64 0,.int .i64 EA]) rfl ?_;simp only [jp,jb,jz,js];refine zg (.slice none 0 0) ?_;simp only [jp,jb,jz,js];refine zg (.int .i64 0) ?_;simp only [jp,jb,jz,js];refine zg (.int .i64 EA) ?_;simp only [jp,jb,jz,js];refine zg (.slice none 0 0) ?_;simp only [jp,jb,jz,js];refine zg (.int .i64 0) ?_;simp only [jp,jb,jz,js];refine zg (.int .i64 EA) ?_;simp only [jp,jb,jz,js];refine jwn ?_;go_upto_region 7 with (fail)
 refine jwl ?_;refine zm 2 (.slice (some ⟨g,0,none⟩) 2 2) rfl ?_;simp only [jp,jb,jz,js];have hc:=ydm _ (some ⟨g,0,none⟩) 2 2 wkL 8 w6 HT.out BHT.out (by decide) yki;rw [yp9] at hc;refine yai rfl 11 #[.slice (some ⟨g,0,none⟩) 2 2,.int .u64 8] (ya4 _ (.tmp 50) (.const (.int .u64 8)) _ rfl _ _ rfl rfl (jeo Tryz.func11 (by kernel_rfl) rfl _ _)) (hc.mono ?_);clear hc;rintro e w7 ⟨rfl,hg⟩;have HG:=jh (yab HG.out hg (by simp));have HT:=jh (HT.out.grown hg BHT.out);have BHT:=jh (jlt BHT.out hg.size);have HTM:=jh (HTM.out.grown hg BHTM.out);have BHTM:=jh (jlt BHTM.out hg.size);clear hg;refine ⟨_,rfl,?_⟩;simp only [jp,jb,jz,js];obtain ⟨S8,hS8⟩:∃ S:ByteArray,(⟨(ycb wkL 8).toArray⟩:ByteArray) = S:=⟨_,rfl⟩;rw [hS8];clear hS8;refine zm 51 (.tuple #[.string S8,.int .i64 2]) rfl ?_;simp only [jp,jb,jz,js];refine zg (.string S8) ?_;simp only [jp,jb,jz,js];refine zg (.int .i64 2) ?_;simp only [jp,jb,jz,js];refine zg (.string S8) ?_;simp only [jp,jb,jz,js];refine zg (.int .i64 2) ?_;simp only [jp,jb,jz,js];refine jwn ?_;go_upto_region 8 with (fail)
 refine jwl ?_;have hc:=ydm 0 none 0 0 [] 0 w7 (yop _ _) (Nat.zero_le _) (by decide) (fun t h=>by cases h);rw [yp8] at hc;refine yai rfl 11 #[.slice none 0 0,.int .u64 0] (ya4 _ (.const (.slice none 0 0)) (.const (.int .u64 0)) _ rfl _ _ rfl rfl (jeo Tryz.func11 (by kernel_rfl) rfl _ _)) (hc.mono ?_);clear hc;rintro e w8 ⟨rfl,hg⟩;have HG:=jh (yab HG.out hg (by simp));have HT:=jh (HT.out.grown hg BHT.out);have BHT:=jh (jlt BHT.out hg.size);have HTM:=jh (HTM.out.grown hg BHTM.out);have BHTM:=jh (jlt BHTM.out hg.size);clear hg;refine ⟨_,rfl,?_⟩;simp only [jp,jb,jz,js];obtain ⟨S9,hS9⟩:∃ S:ByteArray,(⟨(ycb [] 0).toArray⟩:ByteArray) = S:=⟨_,rfl⟩;rw [hS9];clear hS9;refine zm 55 (.tuple #[.string S9,.int .i64 1]) rfl ?_;simp only [jp,jb,jz,js];refine zg (.string S9) ?_;simp only [jp,jb,jz,js];refine zg (.int .i64 1) ?_;simp only [jp,jb,jz,js];refine zg (.string S9) ?_;simp only [jp,jb,jz,js];refine zg (.int .i64 1) ?_;simp only [jp,jb,jz,js];refine jwn ?_;go_upto_region 9 with (fail)
 refine jwl ?_;refine ydp rfl 42 _ (txC wk2 (.slice none 0 0) (.slice none 0 0)) rfl (by kernel_rfl) ?_;simp only [jp,jb,jz,js];refine yfd rfl 1 _ rfl (by omega) (by omega) (ydz [wk2]).toArray (by kernel_rfl) ?_;simp only [jp,jb,jz,js];have hg:=yaa (jr w8 none) (.cells (ydz [wk2]).toArray 42);have hbl:=Blk.new w8 42 (ydz [wk2]).toArray;obtain ⟨g2,hg2⟩:∃ g,w8.heap.size = g:=⟨_,rfl⟩;rw [hg2] at hbl ⊢;generalize w8.alloc (.cells (ydz [wk2]).toArray 42) = w9 at *
 have htx:=yoq hbl (fun t ht=>by
  have h:t = wk2:=by simpa using ht
  subst h;exact ⟨rfl,rfl⟩)
 have HT2:=jh htx;have HG:=jh (yab HG.out hg (by simp));have HT:=jh (HT.out.grown hg BHT.out);have BHT:=jh (jlt BHT.out hg.size);have HTM:=jh (HTM.out.grown hg BHTM.out);have BHTM:=jh (jlt BHTM.out hg.size);clear hg hbl hg2 htx;have hc:=ydm _ (some ⟨g2,0,none⟩) 1 1 [wk2] 9 w9 HT2.out (jle _) (by decide) ypj;rw [yp7] at hc;refine yai rfl 11 #[.slice (some ⟨g2,0,none⟩) 1 1,.int .u64 9] (ya4 _ (.tmp 60) (.const (.int .u64 9)) _ rfl _ _ rfl rfl (jeo Tryz.func11 (by kernel_rfl) rfl _ _)) (hc.mono ?_);clear hc;rintro e w10 ⟨rfl,hg⟩;have HG:=jh (yab HG.out hg (by simp));have HT:=jh (HT.out.grown hg BHT.out);have BHT:=jh (jlt BHT.out hg.size);have HTM:=jh (HTM.out.grown hg BHTM.out);have BHTM:=jh (jlt BHTM.out hg.size);clear hg;refine ⟨_,rfl,?_⟩;simp only [jp,jb,jz,js];obtain ⟨S10,hS10⟩:∃ S:ByteArray,(⟨(ycb [wk2] 9).toArray⟩:ByteArray) = S:=⟨_,rfl⟩;rw [hS10];clear hS10;refine zm 61 (.tuple #[.string S10,.int .i64 9]) rfl ?_;simp only [jp,jb,jz,js];refine zg (.string S10) ?_;simp only [jp,jb,jz,js];refine zg (.int .i64 9) ?_;simp only [jp,jb,jz,js];refine zg (.string S10) ?_;simp only [jp,jb,jz,js];refine zg (.int .i64 9) ?_;simp only [jp,jb,jz,js];refine jwn ?_;go_upto_region 10 with (fail)
 refine jwl ?_;refine zm 2 (.slice (some ⟨g,0,none⟩) 2 2) rfl ?_;refine zm 7 (.slice (some ⟨gm,0,none⟩) 2 2) rfl ?_;simp only [jp,jb,jz,js];have hc:=yh8 _ _ (some ⟨g,0,none⟩) (some ⟨gm,0,none⟩) 2 2 2 2 wkL wkL w10 HT.out HTM.out BHT.out BHTM.out (by decide) (by decide) yki yki wk_k wk_k;rw [decide_eq_true rfl] at hc;refine yai rfl 16 #[.slice (some ⟨g,0,none⟩) 2 2,.slice (some ⟨gm,0,none⟩) 2 2] (ya4 _ (.tmp 64) (.tmp 65) _ rfl _ _ rfl rfl (jeo Tryz.func16 (by kernel_rfl) rfl _ _)) (hc.mono ?_);clear hc;rintro e w11 ⟨rfl,hg⟩;have HG:=jh (yab HG.out hg (by simp));have HT:=jh (HT.out.grown hg BHT.out);have BHT:=jh (jlt BHT.out hg.size);clear hg;refine ⟨_,rfl,?_⟩;simp only [jp,jb,jz,js];refine zg (.bool true) ?_;simp only [jp,jb,jz,js];refine jwn ?_;go_upto_region 11 with (fail)
 refine jwl ?_;refine zm 3 (.string ⟨([]:List UInt8).toArray⟩) rfl ?_;simp only [jp,jb,jz,js];refine yac rfl (.bool true) (by rw [ydK (.tmp 67) (.const (.string ⟨#[]⟩)) rfl (⟨([]:List UInt8).toArray⟩) (⟨#[]⟩) rfl rfl,decide_eq_true (rfl)]) ?_;simp only [jp,jb,jz,js];refine zm 68 (.bool true) rfl ?_;simp only [jp,jb,jz,js];refine yah rfl (.int .i64 0) (yan (.tmp 4) rfl _ rfl) ?_;simp only [jp,jb,jz,js];refine yah rfl (.bool true) (by go_simp <;> rfl) ?_;simp only [jp,jb,jz,js];refine yac rfl (.bool true) (ya6 (.tmp 69) (.tmp 71) _ rfl true rfl _ rfl) ?_;simp only [jp,jb,jz,js];refine zm 72 (.bool true) rfl ?_;simp only [jp,jb,jz,js];refine yah rfl (.string S) (yan (.tmp 5) rfl _ rfl) ?_;simp only [jp,jb,jz,js];have hs4:=HSZ0.out;refine yah rfl (.int .i64 166) (by go_simp <;> first | rfl | (rw [hs4];rfl) | simp [hs4]) ?_;simp only [jp,jb,jz,js];refine yah rfl (.bool true) (by go_simp <;> rfl) ?_;simp only [jp,jb,jz,js];refine yac rfl (.bool true) (ya6 (.tmp 73) (.tmp 76) _ rfl true rfl _ rfl) ?_;simp only [jp,jb,jz,js];refine zm 77 (.bool true) rfl ?_;simp only [jp,jb,jz,js];refine yah rfl (.string S) (yan (.tmp 5) rfl _ rfl) ?_;simp only [jp,jb,jz,js];have hs5:=HPRE.out;have hs6:2 <= S.size:=by omega
 refine yah rfl (.string (S.extract 0 2)) (by go_simp <;> first | rfl | (intro h;omega)) ?_;simp only [jp,jb,jz,js];refine yah rfl (.bool true) (by rw [ydK (.tmp 80) (.const (.string ⟨#[2,1]⟩)) rfl (S.extract 0 2) (⟨#[2,1]⟩) rfl rfl,decide_eq_true (hs5)]) ?_;simp only [jp,jb,jz,js];refine yac rfl (.bool true) (ya6 (.tmp 78) (.tmp 81) _ rfl true rfl _ rfl) ?_;simp only [jp,jb,jz,js];refine zm 82 (.bool true) rfl ?_;simp only [jp,jb,jz,js];refine yah rfl (.int .i64 0) (yan (.tmp 6) rfl _ rfl) ?_;simp only [jp,jb,jz,js];refine yah rfl (.bool true) (by go_simp <;> rfl) ?_;simp only [jp,jb,jz,js];refine yac rfl (.bool true) (ya6 (.tmp 83) (.tmp 85) _ rfl true rfl _ rfl) ?_;simp only [jp,jb,jz,js];refine zm 86 (.bool true) rfl ?_;simp only [jp,jb,jz,js];refine yah rfl (.bool true) (yan (.tmp 19) rfl _ rfl) ?_;simp only [jp,jb,jz,js];refine yac rfl (.bool true) (ya6 (.tmp 87) (.tmp 88) _ rfl true rfl _ rfl) ?_;simp only [jp,jb,jz,js];refine zm 89 (.bool true) rfl ?_;simp only [jp,jb,jz,js];refine yah rfl (.int .i64 168) (yan (.tmp 8) rfl _ rfl) ?_;simp only [jp,jb,jz,js];refine yah rfl (.bool true) (by go_simp <;> rfl) ?_;simp only [jp,jb,jz,js];refine yac rfl (.bool true) (ya6 (.tmp 90) (.tmp 92) _ rfl true rfl _ rfl) ?_;simp only [jp,jb,jz,js];refine zm 93 (.bool true) rfl ?_;simp only [jp,jb,jz,js];refine yah rfl (.int .i64 0) (yan (.tmp 9) rfl _ rfl) ?_;simp only [jp,jb,jz,js];refine yah rfl (.bool true) (by go_simp <;> rfl) ?_;simp only [jp,jb,jz,js];refine yac rfl (.bool true) (ya6 (.tmp 94) (.tmp 96) _ rfl true rfl _ rfl) ?_;simp only [jp,jb,jz,js];refine zm 97 (.bool true) rfl ?_;simp only [jp,jb,jz,js];refine yah rfl (.int .i64 EA) (yan (.tmp 12) rfl _ rfl) ?_;simp only [jp,jb,jz,js];have hs7:(EA != 0) = true:=by simpa using HEA.out
 refine yah rfl (.bool true) (by go_simp <;> first | rfl | exact hs7 | simp [hs7]) ?_;simp only [jp,jb,jz,js];refine yac rfl (.bool true) (ya6 (.tmp 98) (.tmp 100) _ rfl true rfl _ rfl) ?_;simp only [jp,jb,jz,js];refine zm 101 (.bool true) rfl ?_;simp only [jp,jb,jz,js];refine yah rfl (.int .i64 2) (yan (.tmp 14) rfl _ rfl) ?_;simp only [jp,jb,jz,js];refine yah rfl (.bool true) (by go_simp <;> rfl) ?_;simp only [jp,jb,jz,js];refine yac rfl (.bool true) (ya6 (.tmp 102) (.tmp 104) _ rfl true rfl _ rfl) ?_;simp only [jp,jb,jz,js];refine zm 105 (.bool true) rfl ?_;simp only [jp,jb,jz,js];refine yah rfl (.int .i64 1) (yan (.tmp 16) rfl _ rfl) ?_;simp only [jp,jb,jz,js];refine yah rfl (.bool true) (by go_simp <;> rfl) ?_;simp only [jp,jb,jz,js];refine yac rfl (.bool true) (ya6 (.tmp 106) (.tmp 108) _ rfl true rfl _ rfl) ?_;simp only [jp,jb,jz,js];refine zm 109 (.bool true) rfl ?_;simp only [jp,jb,jz,js];refine yah rfl (.int .i64 9) (yan (.tmp 18) rfl _ rfl) ?_;simp only [jp,jb,jz,js];refine yah rfl (.bool true) (by go_simp <;> rfl) ?_;simp only [jp,jb,jz,js];refine yac rfl (.bool true) (ya6 (.tmp 110) (.tmp 112) _ rfl true rfl _ rfl) ?_;simp only [jp,jb,jz,js];refine zm 113 (.bool true) rfl ?_;simp only [jp,jb,jz,js];refine yah rfl (.slice (some ⟨g,0,none⟩) 2 2) (yan (.tmp 2) rfl _ rfl) ?_;simp only [jp,jb,jz,js];have hc:=ycW _ (some ⟨g,0,none⟩) 2 2 wkL 9 w11 HT.out BHT.out (by decide) yki;rw [yna] at hc;refine ybX rfl 13 #[.slice (some ⟨g,0,none⟩) 2 2,.int .u64 9] (ya4 _ (.tmp 115) (.const (.int .u64 9)) _ rfl _ _ rfl rfl (jeo Tryz.func13 (by kernel_rfl) rfl _ _)) (hc.mono ?_);clear hc;rintro e w12 ⟨rfl,hg⟩;have HG:=jh (yab HG.out hg (by simp));clear hg;refine ⟨_,rfl,?_⟩;simp only [jp,jb,jz,js];refine yah rfl (.bool true) (by go_simp <;> rfl) ?_;simp only [jp,jb,jz,js];refine yac rfl (.bool true) (ya6 (.tmp 114) (.tmp 117) _ rfl true rfl _ rfl) ?_;simp only [jp,jb,jz,js];refine zg (.bool true) ?_;simp only [jp,jb,jz,js];refine jwn ?_;clear hs2 hs3 hs4 hs5 hs6 hs7;go_wp2_with fail
 go_ret
 exact ⟨rfl,HG.out⟩
theorem ykO (a:TxV) (B:Nat) (sa sb:Value) (w:World) (ha:TxIn B w a sa sb) (hB:B <= w.heap.size) :
  Calls jq 18 #[.agg (txC a sa sb)] w fun e w'=>(∃ b,e = .returned (.bool b) /\ (b = true -> ycp a)) /\ w.grownBy w' none:=by
 have hG:=yaa (jr w none) (.cells (txC a sa sb) 42);have hb1:=Blk.new w 42 (txC a sa sb);have hA:=ha.grown hG hB;have hS:=jlt hB hG.size;obtain ⟨⟨p,c,rfl,acc⟩,⟨p',c',rfl,aut⟩,la,lb⟩:=hA;obtain ⟨g,hg⟩:∃ g,w.heap.size = g:=⟨_,rfl⟩;obtain ⟨w1,hw1⟩:∃ x,w.alloc (.cells (txC a (.slice p a.acc.length c) (.slice p' a.auths.length c')) 42) = x:=⟨_,rfl⟩;rw [hg,hw1] at hb1;rw [hw1] at hG acc aut hS;have c17:w1.cell? ⟨g,17,none⟩ = some (.string a.data):=(hb1.cell 17).trans rfl;have c18:w1.cell? ⟨g,18,none⟩ = some (ja4 p a.acc.length c):=(hb1.cell 18).trans rfl;have c19:w1.cell? ⟨g,19,none⟩ = some (ja4 p' a.auths.length c'):=(hb1.cell 19).trans rfl;have c12:w1.cell? ⟨g,12,none⟩ = some (.string a.dst):=(hb1.cell 12).trans rfl;have c29:w1.cell? ⟨g,29,none⟩ = some (.string a.source):=(hb1.cell 29).trans rfl;have c30:w1.cell? ⟨g,30,none⟩ = some (.string a.frm):=(hb1.cell 30).trans rfl;generalize hca:txC a (.slice p a.acc.length c) (.slice p' a.auths.length c') = ca at *;have HACC:=jh acc;have HAUT:=jh aut;have HS:=jh hS;have HG:=jh hG;have LA:=jh la;have LB:=jh lb;have si:ca.size = 36:=by rw [<- hca];rfl
 clear hG ha hB hS acc aut la lb hca hb1;go_enter Tryz.func18,Tryz.ntmps18
 go_upto_region 1 with (fail)
 (try rw [hg]);(try rw [hw1]);clear hg hw1 si;go_cut [45] (fun v wx=>∃ b,v = .bool b /\ w1 = wx)
 case first =>
  go_wp2_with fail
  all_goals (try go_meet)
  all_goals exact ⟨_,rfl,rfl⟩
 case rest =>
  obtain ⟨b,rfl,rfl⟩:=hcut;cases b with
  | true =>
   go_wp2_with fail
   go_ret
   exact ⟨⟨false,rfl,fun h=>by cases h⟩,HG.out⟩
  | false =>
   obtain ⟨N,hN⟩:∃ N,a.acc.length = N:=⟨_,rfl⟩;obtain ⟨M,hM⟩:∃ N,a.auths.length = N:=⟨_,rfl⟩;have HNA:=jh hN;rw [hN] at c18 HACC LA;rw [hM] at c19 HAUT LB;clear hN hM c17 c12 c29 c30;go_wp2_with fail
   go_loopw [3] (fun v wr=>∃ k:Nat,v = .int .i64 k /\ k <= N /\ w1 = wr /\ Hid (∀ i,i < k -> (a.acc.getD i AccV.none_).keys.length <= 20)) (fun v _=>N - (intOf v).toNat)
   case atStart=>exact ⟨0,rfl,Nat.zero_le _,rfl,jh fun i hi=>by omega⟩
   case round =>
    obtain ⟨k,rfl,hk,rfl,hf⟩:=hrel;have HF:=jh hf.out;clear hf;by_cases hlt:k < N
    ·obtain ⟨g1,off,T,tc,x,rfl,hx,_,c0,c1,hT,hTn⟩:=HACC.out.at_ hlt;have q1:(k:Int) < (N:Int):=by omega
     obtain ⟨K,hK⟩:∃ K,x.keys.length = K:=⟨_,rfl⟩;rw [hK] at c1 hT hTn;have HT:=jh hT;have HTN:=jh hTn;have HKK:=jh hK;have HX:=jh hx;clear hx hT hTn hK;by_cases hbig:20 < K
     ·have q5:(20:Int) < (K:Int):=by omega
      clear hbig;go_upto_region 6 with (fail)
      go_cut [70] (fun v wx=>v = .bool true /\ w1 = wx)
      case first =>
       go_wp2_with fail
       all_goals (try go_meet)
       all_goals exact ⟨rfl,rfl⟩
      case rest =>
       obtain ⟨rfl,rfl⟩:=hcut;go_wp2_with fail
       go_ret
       exact ⟨⟨false,rfl,fun h=>by cases h⟩,HG.out⟩
     have q5:decide ((20:Int) < (K:Int)) = false:=decide_eq_false (by omega);have HK20:=jh (show K <= 20 by omega);clear hbig;go_upto_region 6 with (fail)
     go_cut [70] (fun v wx=>∃ b,v = .bool b /\ w1 = wx)
     case first =>
      go_wp2_with fail
      all_goals (try go_meet)
      all_goals exact ⟨_,rfl,rfl⟩
     case rest =>
      obtain ⟨b,rfl,rfl⟩:=hcut;cases b with
      | true =>
       go_wp2_with fail
       go_ret
       exact ⟨⟨false,rfl,fun h=>by cases h⟩,HG.out⟩
      | false =>
       go_wp2_with fail
       go_loopw [4] (fun v wr=>∃ j:Nat,v = .int .i64 j /\ j <= K /\ w1 = wr) (fun v _=>K - (intOf v).toNat)
       case atStart=>exact ⟨0,rfl,Nat.zero_le _,rfl⟩
       case round =>
        obtain ⟨j,rfl,hj,rfl⟩:=hrel;by_cases hjl:j < K
        ·have q2:(j:Int) < (K:Int):=by omega
         obtain ⟨gk,ok,hT,hgk,hck⟩:=Reads.vals ja8 .empty HT.out hjl;have d0:=hck j hjl;obtain ⟨y,hy⟩:∃ y,x.keys.getD j .empty = y:=⟨_,rfl⟩;rw [hy] at d0;subst hT;clear hck hgk hy;by_cases hl:100 < y.size
         ·have q3:(100:Int) < (y.size:Int):=by omega
          clear hl;go_wp2_with fail
          go_ret
          exact ⟨⟨false,rfl,fun h=>by cases h⟩,HG.out⟩
         ·have q3:decide ((100:Int) < (y.size:Int)) = false:=decide_eq_false (by omega);have q4:(y.size:Int) <= 100:=by omega
          have hwj:IntKind.i64.wrap ((j:Int) + 1) = ((j + 1:Nat):Int):=yaM (k:=j + 1) (by have:=HTN.out;omega);clear hl;go_wp2_with fail
          go_roundw
          case rel=>exact ⟨j + 1,by go_num,by omega,trivial⟩
          case measure=>simp [intOf];omega
        ·have q2:¬ ((j:Int) < (K:Int)):=by omega
         have hwk:IntKind.i64.wrap ((k:Int) + 1) = ((k + 1:Nat):Int):=yaM (k:=k + 1) (by have:=LA.out;omega);clear hj hjl;go_wp2_with fail
         go_roundw
         case rel =>
          refine ⟨k + 1,by go_num,by omega,trivial,jh fun i hi=>?_⟩;by_cases hik:i = k
          ·rw [hik,HX.out,HKK.out];exact HK20.out
          ·exact HF.out i (by omega)
         case measure=>simp [intOf];omega
    ·have q1:¬ ((k:Int) < (N:Int)):=by omega
     have hkf:ycp a:=fun x hx=>by
      obtain ⟨i,hi,e⟩:=List.mem_iff_getElem.1 hx;have h1:=HF.out i (by have:=HNA.out;omega);rw [jg,je hi] at h1;have h2:x.keys.length <= 20:=by rw [<- e];exact h1
      omega
     have HKF:=jh hkf;clear hk hlt hkf;go_wp2_with fail
     go_loopw [5] (fun v wr=>∃ k:Nat,v = .int .i64 k /\ k <= M /\ w1 = wr) (fun v _=>M - (intOf v).toNat)
     case atStart=>exact ⟨0,rfl,Nat.zero_le _,rfl⟩
     case round =>
      obtain ⟨k2,rfl,hk2,rfl⟩:=hrel;by_cases hlt2:k2 < M
      ·obtain ⟨g1,off,x,rfl,hx,_,hcx⟩:=HAUT.out.at_ hlt2;have q2:(k2:Int) < (M:Int):=by omega
       have d0:w1.cell? ⟨g1,off + k2 * 12 + 1,none⟩ = some (.string x.addr):=hcx 1 _ rfl;obtain ⟨y,hy⟩:∃ y,x.addr = y:=⟨_,rfl⟩;rw [hy] at d0;clear hcx hx hy;by_cases hl:100 < y.size
       ·have q3:(100:Int) < (y.size:Int):=by omega
        clear hl;go_wp2_with fail
        go_ret
        exact ⟨⟨false,rfl,fun h=>by cases h⟩,HG.out⟩
       ·have q3:decide ((100:Int) < (y.size:Int)) = false:=decide_eq_false (by omega);have q4:(y.size:Int) <= 100:=by omega
        have hwk:IntKind.i64.wrap ((k2:Int) + 1) = ((k2 + 1:Nat):Int):=yaM (k:=k2 + 1) (by have:=LB.out;omega);clear hl;go_wp2_with fail
        go_roundw
        case rel=>exact ⟨k2 + 1,by go_num,by omega,trivial⟩
        case measure=>simp [intOf];omega
      ·have q2:¬ ((k2:Int) < (M:Int)):=by omega
       clear hk2 hlt2;go_wp2_with fail
       go_ret
       exact ⟨.inr ⟨rfl,HKF.out⟩,HG.out⟩
def FewEnd (n:Nat) (w:World) (e:Ending) (w':World):Prop:=(∃ b,e = .returned (.bool b) /\ (b = true -> n <= 12)) /\ w.grownBy w' none
theorem FewEnd.t {n:Nat} {w w':World} (h:n <= 12) (hg:w.grownBy w' none):FewEnd n w (.returned (.bool true)) w':=⟨⟨_,rfl,fun _=>h⟩,hg⟩
theorem FewEnd.f {n:Nat} {w w':World} (hg:w.grownBy w' none):FewEnd n w (.returned (.bool false)) w':=⟨⟨_,rfl,fun h=>by cases h⟩,hg⟩
def FewEndK (n:Nat) (ls:List TxV) (w:World) (e:Ending) (w':World):Prop:=(∃ b,e = .returned (.bool b) /\ (b = true -> n <= 12 /\ ∀ t ∈ ls,ycp t)) /\ w.grownBy w' none
theorem FewEndK.f {n:Nat} {ls:List TxV} {w w':World} (hg:w.grownBy w' none):FewEndK n ls w (.returned (.bool false)) w':=⟨⟨_,rfl,fun h=>by cases h⟩,hg⟩
theorem FewEndK.t {n:Nat} {ls:List TxV} {w w':World} (h:n <= 12) (hk:∀ t ∈ ls,ycp t) (hg:w.grownBy w' none):FewEndK n ls w (.returned (.bool true)) w':=⟨⟨_,rfl,fun _=>⟨h,hk⟩⟩,hg⟩
theorem yjd (B:Nat) (A:Option Addr) (n c:Nat) (ls:List TxV) (w:World) (h:TxsR B w ls A n) (hB:B <= w.heap.size) (hn:n <= 9223372036854775807) :
  Calls jq 9 #[.slice A n c] w (FewEndK n ls w):=by
 have HH:=jh h;have HB:=jh hB;have HN:=jh hn;clear h hB hn;go_enter Tryz.func9,Tryz.ntmps9
 go_wp2_with fail
 go_loopw [3] (fun v wr=>∃ k:Nat,v = .int .i64 k /\ k <= n /\ w.grownBy wr none /\ Hid (∀ i,i < k -> ycp (ls.getD i TxV.zero))) (fun v _=>n - (intOf v).toNat)
 case atStart=>exact ⟨0,rfl,Nat.zero_le _,jr _ _,jh fun i hi=>by omega⟩
 case round =>
  obtain ⟨k,rfl,hk,hg,hf⟩:=hrel;have HF:=jh hf.out;clear hf;have HG:=jh hg;by_cases hlt:k < n /\ k <= 12
  ·obtain ⟨h1,h2⟩:=hlt;obtain ⟨g,off,sa,sb,x,rfl,hx,_,hcx,hix⟩:=(HH.out.grown hg HB.out).at_ h1;have q1:(k:Int) < (n:Int):=by omega
   have q2:(k:Int) <= 12:=by omega
   have HC:=jh (ykO x B sa sb wr hix (jlt HB.out hg.size));have hw:IntKind.i64.wrap ((k:Int) + 1) = ((k + 1:Nat):Int):=yaM (k:=k + 1) (by omega);have HW:=jh hw;obtain ⟨cx,hcx2⟩:∃ z,txC x sa sb = z:=⟨_,rfl⟩;have ex:txL x sa sb = cx.toList:=by rw [<- hcx2];rfl
   rw [hcx2] at HC;rw [ex] at hcx;have zx:cx.toList.length = 36:=by rw [<- ex];rfl
   have HCX:=jh hcx;have HZX:=jh zx;clear hcx hix hw hcx2 ex zx hg;go_upto_region 4 with (fail)
   refine jwl ?_;refine zm 0 (.slice (some ⟨g,off,none⟩) n c) rfl ?_;refine zm 3 (.int .i64 (k:Int)) rfl ?_;simp only [jp,jb,jz,js];refine yac rfl (.pointer (some ⟨g,off + k * 36,none⟩)) (by go_simp <;> first | rfl | simp [jd2]) ?_;simp only [jp,jb,jz,js];refine yac rfl (.agg cx) (yax rfl rfl cx.toList HCX.out _ ja3 rfl (by rw [HZX.out];kernel_rfl)) ?_;simp only [jp,jb,jz,js];refine yai rfl 18 #[.agg cx] (yak _ (.tmp 18) _ rfl _ rfl (jeo Tryz.func18 (by kernel_rfl) rfl _ _)) (HC.out.mono ?_);rintro e w3 ⟨⟨b,rfl,hkb⟩,hg3⟩;have HKB:=jh hkb;have HX:=jh hx;clear hkb hx;have HG3:=jh (yab HG.out hg3 (by simp));clear hg3 HC HCX HZX;refine ⟨_,rfl,?_⟩;simp only [jp,jb,jz,js];refine zg (.bool b) ?_;simp only [jp,jb,jz,js];refine jwn ?_;have hw:=HW.out;cases b with
   | true =>
    go_wp2_with fail
    go_roundw
    case rel =>
     refine ⟨k + 1,by go_num,by omega,HG3.out,jh fun i hi=>?_⟩;by_cases hik:i = k
     ·rw [hik,HX.out];exact HKB.out rfl
     ·exact HF.out i (by omega)
    case measure=>simp [intOf];omega
   | false =>
    go_wp2_with fail
    go_ret
    exact FewEndK.f HG3.out
  ·by_cases h1:k < n
   ·have q1:(k:Int) < (n:Int):=by omega
    have q2:decide ((k:Int) <= 12) = false:=decide_eq_false (by omega);have q4:¬ ((k:Int) <= 12):=by omega
    have q3:decide ((n:Int) <= 12) = false:=decide_eq_false (by omega);clear hlt h1 hg;go_wp2_with fail
    go_ret
    exact FewEndK.f HG.out
   ·have q1:decide ((k:Int) < (n:Int)) = false:=decide_eq_false (by omega);have q5:¬ ((k:Int) < (n:Int)):=by omega
    by_cases h3:n <= 12
    ·have q3:(n:Int) <= 12:=by omega
     have HN12:=jh h3
     have HKA:Hid (∀ t ∈ ls,ycp t):=jh fun t ht=>by
      obtain ⟨i,hi,e⟩:=List.mem_iff_getElem.1 ht;have h9:=HF.out i (by have:=HH.out.1;omega);rw [jg,je hi] at h9;rw [<- e];exact h9
     clear hlt h1 h3 hg;go_wp2_with fail
     go_ret
     exact FewEndK.t HN12.out HKA.out HG.out
    ·have q3:decide ((n:Int) <= 12) = false:=decide_eq_false (by omega);clear hlt h1 h3 hg;go_wp2_with fail
     go_ret
     exact FewEndK.f HG.out
theorem ypw (A:Option Addr) (n c:Nat) (ls:List TxV) (chain:Nat) (w:World) (h:TxsR w.heap.size w ls A n) (hn:n <= 9223372036854775807) (ok:∀ t ∈ ls,t.Ok) :
  Calls jq 3 #[.slice A n c,.int .u64 (chain:Int)] w fun e w'=>e = .returned (.bool true) /\ w.grownBy w' none:=by
 have HWK:=jh (yi7 w);have HT:=jh h;have BHT:=jh (jle w.heap.size);have HN:=jh hn;have HOK:=jh ok;clear h hn ok;go_enter Tryz.func3,Tryz.ntmps3
 go_wp2_with fail
 refine HWK.out.mono ?_;rintro e w2 ⟨rfl,hg⟩;have HG:=jh hg;have HT:=jh (HT.out.grown hg BHT.out);have BHT:=jh (jlt BHT.out hg.size);clear hg HWK;go_wp2_with fail
 refine (yjd _ A n c ls w2 HT.out BHT.out HN.out).mono ?_;rintro e w3 ⟨⟨fw,rfl,hfw⟩,hg⟩;have HG:=jh (yab HG.out hg (by simp));have HT:=jh (HT.out.grown hg BHT.out);have BHT:=jh (jlt BHT.out hg.size);clear hg;cases fw with
 | false =>
  go_wp2_with fail
  go_ret
  exact ⟨rfl,HG.out⟩
 | true =>
 have HKF:=jh (hfw rfl).2;clear hfw;go_wp2_with fail
 obtain ⟨E,hE⟩:∃ E,yat ls chain = E:=⟨_,rfl⟩;obtain ⟨S,hS⟩:∃ S:ByteArray,(⟨(ycb ls chain).toArray⟩:ByteArray) = S:=⟨_,rfl⟩;have h1:=yeu _ A n c ls chain w3 HT.out BHT.out HN.out HOK.out HKF.out;have H2:=jh fun (V:World) (hV:w3.grownBy V none)=>ydm _ A n c ls chain V (HT.out.grown hV BHT.out) (jlt BHT.out hV.size) HN.out HOK.out;have H3:=jh fun (V:World) (hV:w3.grownBy V none)=>yjq _ A n c ls chain V (HT.out.grown hV BHT.out) (jlt BHT.out hV.size) HN.out HOK.out HKF.out;have H4:=jh fun (V:World) (hV:w3.grownBy V none)=>ycW _ A n c ls chain V (HT.out.grown hV BHT.out) (jlt BHT.out hV.size) HN.out HOK.out;rw [hE] at h1 H2 H3 H4;rw [hS] at H2 H3;clear hE hS;refine h1.mono ?_;clear h1;rintro e w4 ⟨rfl,hg4⟩;have HG4:=jh hg4;clear hg4;go_wp2_with fail
 refine (H2.out _ HG4.out).mono ?_;rintro e w5 ⟨rfl,hg5⟩;have HG5:=jh (yab HG4.out hg5 (by simp));clear hg5;go_wp2_with fail
 refine (H3.out _ HG5.out).mono ?_;rintro e w6 ⟨rfl,hg6⟩;have HG6:=jh (yab HG5.out hg6 (by simp));clear hg6;have q2:(E == E) = true:=by simp
 have q3:(S.toList == S.toList) = true:=by simp
 go_wp2_with fail
 refine (H4.out _ HG6.out).mono ?_;rintro e w7 ⟨rfl,hg7⟩;have HG7:=jh (yab HG.out (yab HG6.out hg7 (by simp)) (by simp));clear hg7;go_wp2_with fail
 go_ret
 exact ⟨rfl,HG7.out⟩
open Go.ChangeShapes Go.WideShapes Go.ChangeAt Go.RowKit Go.Deep Go.Joins
section
variable {H:Type} {enc:TypeId × Value -> H} {P:Program} {w:World} {base:Nat} {spare:Nat -> Bool} {held:Bool}
theorem ye3 {t e:TypeId} {fs:Array Field} {fuel:Nat} {cs:List Value} {x:DataW H × List MemPlace} (ht:P.underlying t = some (.slice e)) (he:P.underlying e = some (.struct fs))
  (hone:oneCellFields P fs = true) (hC:P.cellsOf e = fs.size) (h:DataW.trod enc P w base spare held fuel t cs = some x) :
  (cs = [.slice none 0 0] /\ x = (.nil,[])) \/
  ∃ (a:Addr) (len cap m:Nat) (D:Nat -> DataW H) (Pl:Nat -> List MemPlace),cs = [.slice (some a) len cap] /\ base <= a.block /\ len <= cap /\ cap <= maxLen /\ m = (if spare a.block then cap else len) /\
   x = (.slice ((List.range len).map D) ((List.range (m - len)).map fun j=>D (len + j)),MemPlace.row a (m * fs.size) ++ (List.range m).flatMap Pl) /\
   ∀ i,i < m -> ∃ (ys:List (DataW H × List MemPlace)) (n:Nat),D i = .agg (ys.map (·.1)) /\ Pl i = ys.flatMap (·.2) /\ ys.length = fs.size /\
    ∀ (j:Nat) (f:Field),fs[j]? = some f -> ∃ (v:Value) (y:DataW H × List MemPlace),w.cell? (a.add (i * fs.size + j)) = some v /\ ys[j]? = some y /\ DataW.trod enc P w base spare held n f.type [v] = some y:=by
 rcases open_slice ht h with h0 | ⟨a,len,cap,m,n,D,Pl,hcs,hb,hl,hm,hmm,hx,hi⟩
 ·exact .inl h0
 ·refine .inr ⟨a,len,cap,m,D,Pl,hcs,hb,hl,hm,hmm,by rw [hC] at hx;exact hx,fun i him=>?_⟩;obtain ⟨cs',hc,ht'⟩:=hi i him;rw [hC] at hc;obtain ⟨ys,n',hn',hy,hlen,hyl,hf⟩:=DataW.trod_struct he ht';obtain ⟨_,hcl,hat⟩:=World.cells?_some hc;simp only [Prod.mk.injEq] at hy;refine ⟨ys,n',hy.1,hy.2,hyl,fun j f hj=>?_⟩;obtain ⟨ho,hk⟩:=hone_of hone j f hj;have hjl:j < fs.size:=(jes.1 hj).1;have hcell:=hat j hjl;have hv:cs'[j]? = some (cs'[j]'(by omega)):=je (by omega);have h1:=hf j f hj;rw [ho,hk] at h1
  have hone':(cs'.drop j).take 1 = [cs'[j]'(by omega)]:=by
   rw [jdc (by omega)];rfl
  rw [hone'] at h1;have hys:ys[j]? = some (ys[j]'(by omega)):=je (by omega);refine ⟨_,_,?_,hys,h1.trans hys⟩;rw [<- Go.Deep.add_add,hcell,hv]
end
section
variable {H:Type} {enc:TypeId × Value -> H} {P:Program} {w:World} {base:Nat} {spare:Nat -> Bool} {held:Bool}
end
section
variable {H:Type} {enc:TypeId × Value -> H} {P:Program}
end
section
variable {H:Type} {enc:TypeId × Value -> H} {P:Program} {w:World} {base:Nat} {spare:Nat -> Bool} {held:Bool}
theorem ycD {a:Int} (h:(Lit.int .u64 a).wf = true):0 <= a /\ a <= 18446744073709551615:=by simpa [Lit.wf,IntKind.min,IntKind.max,IntKind.signed,IntKind.bits] using h
end
section
variable {H:Type} {enc:TypeId × Value -> H} {P:Program}
theorem yeg (hl:laidOutB P = true) {W W':World} (hb:Below W.heap.size W W'):∀ {ts:List TypeId} {vs:List Value} {ds:List (DataW H)} {ps:List MemPlace},
  (ts.all fun t=>P.readableRec t && decide (t < P.types.size)) = true -> DataW.TrodAll enc P W 0 (fun _=>true) true ts vs ds ps -> DataW.TrodAll enc P W' 0 (fun b=>decide (b < W.heap.size)) true ts vs ds ps
 | [],[],[],_,_,h=>h
 | [],[],_ :: _,_,_,h=>h.elim
 | [],_ :: _,_,_,_,h=>h.elim
 | _ :: _,[],_,_,_,h=>h.elim
 | _ :: _,_ :: _,[],_,_,h=>h.elim
 | t :: ts,v :: vs,d :: ds,ps,hT,h=>by
  obtain ⟨p,q,h1,h2,e⟩:=h;simp only [List.all_cons,Bool.and_eq_true,decide_eq_true_eq] at hT;refine ⟨p,q,Below.trod hl hT.1.1 hT.1.2 h1 hb ?_,yeg hl hb (by simpa using hT.2) h2,e⟩;obtain ⟨m,hm⟩:=h1;exact DataW.trod_lt m _ _ _ hm
theorem yp2 {f:Func} {s:ChangeSpec} {W W':World} {args:Array Value} {ds gs:List (DataW H)} {before:List MemPlace} {tb:TypeId} (hv:s.vars = []) (hl:laidOutB P = true)
  (hT:(f.params.toList.all fun t=>P.readableRec t && decide (t < P.types.size)) = true) (hr:f.resultTypes = #[tb]) (hb:P.underlying tb = some .bool)
  (hs:s.fn H (ds ++ gs) = { results:=[.lit (.bool true)],args:=ds })
  (hW:DataW.Whole enc P f.params.toList s.vars false W args.toList ds gs before) (bel:Below W.heap.size W W') :
  s.post enc P f false true false false W args (.bool true) W':=by
 have hW':=hW;obtain ⟨p,q,hA,hV,he,hz,hn⟩:=hW;rw [hv] at hV;have hV':=hV;obtain rfl:gs = []:=by cases gs with | nil=>rfl | cons _ _=>exact hV.elim
 obtain rfl:q = []:=hV;refine ⟨ds,[],before,[],p,[],hW',?_,?_,?_,bel.frame _,fun h=>by cases h⟩
 ·rw [hs,hr];exact trodAll_mk1 (shut_bool hb _)
 ·rw [hs];exact yeg hl bel hT hA
 ·rw [hs,hv];rfl
end
open Go.ChangeShapes Go.WideShapes Go.ChangeAt Go.RowKit Go.Deep Go.Joins
set_option linter.constructorNameAsVariable false
section
variable {H:Type} {enc:TypeId × Value -> H} {P:Program} {w:World} {base:Nat} {held:Bool}
theorem ygZ {t e:TypeId} {fuel:Nat} {v:Value} {x:DataW H × List MemPlace} (ht:P.underlying t = some (.slice e)) (he:P.underlying e = some .string) (hc:P.cellsOf e = 1)
  (h:DataW.trod enc P w base (fun _=>true) held fuel t [v] = some x) :
  ∃ (A:Option Addr) (n c:Nat) (xs:List ByteArray),v = .slice A n c /\ Reads w w.heap.size 1 A n (xs.map ja8) /\ (∀ x ∈ xs,x.size <= 9223372036854775807) /\ n <= 9223372036854775807 /\ xs.length = n /\ n <= c:=by
 rcases open_strs ht he hc h with ⟨hcs,_⟩ | ⟨a,len,cap,m,B,hcs,_,hl,hm,hmm,_,hcell⟩
 ·simp only [je5.injEq,and_true] at hcs;exact ⟨none,0,0,[],hcs,Reads.none_,by simp,by omega,rfl,by omega⟩
 ·simp only [je5.injEq,and_true] at hcs;simp only [if_true] at hmm;have hmL:maxLen = 9223372036854775807:=by decide
  refine ⟨some a,len,cap,(List.range len).map B,hcs,⟨by simp,fun hn=>⟨a,rfl,?_,fun j u hu=>?_⟩⟩,fun x hx=>?_,by omega,by simp,hl⟩
  ·have:=jd0 w _ (hcell 0 (by omega)).1
   rwa [ycv] at this
  ·rw [jgm,jgm,Option.map_map] at hu
   have hj:j < len:=by
    rcases Nat.lt_or_ge j len with hj | hj
    ·exact hj
    ·rw [jc6 (by simpa using hj)] at hu;cases hu
   rw [List.getElem?_range hj] at hu;have:=(hcell j (by omega)).1;simp at hu;subst hu;simpa using this
  ·obtain ⟨i,hi,rfl⟩:=List.mem_map.1 hx;have:=(hcell i (by have:=List.mem_range.1 hi;omega)).2;omega
end
section
variable {H:Type} {enc:TypeId × Value -> H} {w:World} {base:Nat} {held:Bool}
end
open Go.ChangeShapes Go.WideShapes Go.RowKit Go.Deep Go.Joins
set_option linter.constructorNameAsVariable false
theorem yeV {α:Type} {R:Nat -> α -> Prop}:∀ n:Nat,(∀ i,i < n -> ∃ x,R i x) -> ∃ xs:List α,xs.length = n /\ ∀ i (h:i < xs.length),R i xs[i]
 | 0,_=>⟨[],rfl,fun i h=>absurd h (by simp)⟩
 | n + 1,h=>by
  obtain ⟨xs,hl,hx⟩:=yeV n fun i hi=>h i (by omega);obtain ⟨x,hxn⟩:=h n (by omega);refine ⟨xs ++ [x],by simp [hl],fun i hi=>?_⟩;by_cases h1:i < xs.length
  ·rw [List.getElem_append_left h1];exact hx i h1
  ·obtain rfl:i = n:=by simp at hi;omega
   rw [List.getElem_append_right (by omega)];simpa [hl] using hxn
section
variable {H:Type} {enc:TypeId × Value -> H} {w:World} {base:Nat} {held:Bool}
end
open Go.ChangeShapes Go.WideShapes Go.ChangeAt Go.RowKit Go.Deep Go.Joins
set_option linter.constructorNameAsVariable false
section
variable {H:Type} {enc:TypeId × Value -> H} {P:Program} {w:World} {base:Nat} {held:Bool}
theorem ygx (c:List Value) (n:Nat) (h:c.length = n):c = (List.range n).map fun i=>c.getD i undef:=by
 refine List.ext_getElem (by simp [h]) fun i h1 h2=>?_;rw [List.getElem_map,List.getElem_range,jg,je h1];rfl
theorem ydy {t e:TypeId} {fs:Array Field} {fuel:Nat} {cs:List Value} {x:DataW H × List MemPlace} (ht:P.underlying t = some (.slice e)) (he:P.underlying e = some (.struct fs)) {s:Nat} (hC:P.cellsOf e = s)
  (h:DataW.trod enc P w base (fun _=>true) held fuel t cs = some x) :
  cs = [.slice none 0 0] \/
  ∃ (a:Addr) (len cap:Nat),cs = [.slice (some a) len cap] /\ len <= cap /\ cap <= maxLen /\
   ∀ i,i < cap -> ∃ (c:List Value) (n:Nat),c.length = s /\ (∀ j,j < s -> w.cell? (a.add (i * s + j)) = c[j]?) /\ ∀ (j:Nat) (f:Field),fs[j]? = some f -> ∃ y,DataW.trod enc P w base (fun _=>true) held n f.type ((c.drop f.offset).take (P.cellsOf f.type)) = some y:=by
 rcases open_slice ht h with ⟨h0,_⟩ | ⟨a,len,cap,m,n,D,Pl,hcs,hb,hl,hm,hmm,hx,hi⟩
 ·exact .inl h0
 ·simp only [if_true] at hmm;refine .inr ⟨a,len,cap,hcs,hl,hm,fun i him=>?_⟩;obtain ⟨cs',hc,ht'⟩:=hi i (by omega);rw [hC] at hc;obtain ⟨ys,n',hn',hy,hlen,hyl,hf⟩:=DataW.trod_struct he ht';obtain ⟨_,hcl,hat⟩:=World.cells?_some hc;refine ⟨cs',n',by omega,fun j hj=>?_,fun j f hj=>?_⟩
  ·rw [<- Go.Deep.add_add,hat j hj]
  ·have h1:=hf j f hj;have hjl:j < fs.size:=(jes.1 hj).1;exact ⟨_,h1.trans (je (by omega))⟩
end
section
variable {H:Type} {enc:TypeId × Value -> H} {w:World} {base:Nat} {held:Bool}
theorem ycs {fuel:Nat} {c:List Value} {x:DataW H × List MemPlace} (h:DataW.trod enc jq w base (fun _=>true) held fuel 38 c = some x):∃ N:Nat,N < 115792089237316195423570985008687907853269984665640564039457584007913129639936 /\ c = [.int .u64 (wp N 0:Nat),.int .u64 (wp N 1:Nat),.int .u64 (wp N 2:Nat),.int .u64 (wp N 3:Nat)]:=by
 have ht:=jd8;have he:=ja5;have hce:jq.cellsOf 23 = 1:=by kernel_rfl
 have hct:jq.cellsOf 38 = 4:=by kernel_rfl
 obtain ⟨xs,m,_,_,hl,hxl,hat⟩:=DataW.trod_array ht h;have hcl:c.length = 4:=hl.trans hct
 have key:∀ i,i < 4 -> ∃ x:Nat,x < 18446744073709551616 /\ c[i]? = some (.int .u64 (x:Int)):=by
  intro i hi;have h1:=hat i hi
  have hone:(c.drop (i * jq.cellsOf 23)).take (jq.cellsOf 23) = [c[i]'(by omega)]:=by
   rw [hce,Nat.mul_one,jdc (by omega)];rfl
  have hx:xs[i]? = some (xs[i]'(by omega)):=je (by omega);rw [hone,hx] at h1;obtain ⟨k,hk,_,hw⟩:=DataW.trod_int he h1;have hwf:=ycD hw;obtain ⟨z,rfl⟩:=jez hwf.1;refine ⟨z,by omega,?_⟩;rw [je (by omega)];simp only [je5.injEq,and_true] at hk;rw [hk]
 obtain ⟨a0,l0,e0⟩:=key 0 (by omega);obtain ⟨a1,l1,e1⟩:=key 1 (by omega);obtain ⟨a2,l2,e2⟩:=key 2 (by omega);obtain ⟨a3,l3,e3⟩:=key 3 (by omega);obtain ⟨w0,w1,w2,w3⟩:=yo3 a0 a1 a2 a3 l0 l1 l2 l3;have hlt:=yo4 a0 a1 a2 a3 l0 l1 l2 l3;have e256:(256:Nat) ^ 32 = 115792089237316195423570985008687907853269984665640564039457584007913129639936:=by decide
 refine ⟨ycx a0 a1 a2 a3,by rw [<- e256];exact hlt,?_⟩;rw [w0,w1,w2,w3]
 match c,hcl,e0,e1,e2,e3 with
 | [c0,c1,c2,c3],_,e0,e1,e2,e3 =>
  have f0:some c0 = some _:=e0;have f1:some c1 = some _:=e1;have f2:some c2 = some _:=e2;have f3:some c3 = some _:=e3;cases f0;cases f1;cases f2;cases f3;rfl
theorem ypc:∃ t0 t1:Field,jq.underlying 82 = some (.struct #[t0,t1]) /\ oneCellFields jq #[t0,t1] = true /\ jq.underlying t0.type = some .string /\ t1.type = 57 :=
 ⟨_,_,Tryz.underlying82,by kernel_rfl,ja9,rfl⟩
theorem yhN {fuel:Nat} {v:Value} {x:DataW H × List MemPlace} (h:DataW.trod enc jq w base (fun _=>true) held fuel 39 [v] = some x) :
  ∃ (A:Option Addr) (n c:Nat) (ls:List AccV),v = .slice A n c /\ AccR w.heap.size w ls A n /\ n <= 9223372036854775807:=by
 obtain ⟨t0,t1,hu,hone,u0,u1⟩:=ypc;have hmL:maxLen = 9223372036854775807:=by decide
 rcases ye3 Tryz.underlying39 hu hone (by kernel_rfl) h with ⟨hcs,_⟩ | ⟨a,len,cap,m,D,Pl,hcs,hb,hl,hm,hmm,_,hi⟩
 ·simp only [je5.injEq,and_true] at hcs;exact ⟨none,0,0,[],hcs,AccR.nil _ _ _,by omega⟩
 ·simp only [je5.injEq,and_true] at hcs;simp only [if_true] at hmm
  have key:∀ i,i < len -> ∃ l:AccV,∃ T tc,(w.cell? (a.add (i * 2 + 0)) = some (.string l.addr) /\ w.cell? (a.add (i * 2 + 1)) = some (.slice T l.keys.length tc)) /\
    Reads w w.heap.size 1 T l.keys.length (l.keys.map ja8) /\ l.keys.length <= 9223372036854775807:=by
   intro i hil;obtain ⟨ys,n,_,_,_,hf⟩:=hi i (by omega);obtain ⟨v0,y0,c0,_,e0⟩:=hf 0 t0 rfl;obtain ⟨v1,y1,c1,_,e1⟩:=hf 1 t1 rfl;obtain ⟨s0,hs0,_⟩:=DataW.trod_string u0 e0;rw [u1] at e1;obtain ⟨T,k,tc,xs,rfl,hr,hx,hm,hxl,hc⟩:=ygZ Tryz.underlying57 ja9 (by kernel_rfl) e1;simp only [je5.injEq,and_true] at hs0;subst hs0;subst hxl;exact ⟨⟨s0,xs⟩,T,tc,⟨c0,c1⟩,hr,hm⟩
  obtain ⟨ls,hll,hls⟩:=yeV len key;refine ⟨some a,len,cap,ls,hcs,⟨hll,fun h0=>?_⟩,by omega⟩;obtain ⟨_,_,⟨c00,_⟩,_⟩:=hls 0 (by omega);have ea:a = ⟨a.block,a.off,none⟩:=yck (a:=a) (by simpa [Addr.add] using c00);refine ⟨a.block,a.off,by rw [<- ea],?_,fun i hi'=>?_⟩
  ·have:=jd0 w _ c00
   rwa [ycv] at this
  ·obtain ⟨T,tc,⟨d0,d1⟩,p,q⟩:=hls i (by omega);rw [ea] at d0 d1;have hadd:∀ j,(⟨a.block,a.off,none⟩:Addr).add j = ⟨a.block,a.off + j,none⟩:=fun j=>Addr.add_mid _ _ _;rw [hadd] at d0 d1;have hg:ls.getD i AccV.none_ = ls[i]'(by omega):=by rw [jg,je (by omega)];rfl
   rw [hg];exact ⟨T,tc,d0,d1,p,q⟩
theorem ypb:∃ t0 t1 t2 t3 t4 t5:Field,jq.underlying 89 = some (.struct #[t0,t1,t2,t3,t4,t5]) /\ t0.type = 23 /\ t0.offset = 0 /\ t1.type = 9 /\ t1.offset = 1 /\ t2.type = 23 /\ t2.offset = 2 /\ t3.type = 23 /\ t3.offset = 3 /\ t4.type = 38 /\ t4.offset = 4 /\ t5.type = 38 /\ t5.offset = 8 :=
 ⟨_,_,_,_,_,_,Tryz.underlying89,rfl,rfl,rfl,rfl,rfl,rfl,rfl,rfl,rfl,rfl,rfl,rfl⟩
theorem yhM {fuel:Nat} {v:Value} {x:DataW H × List MemPlace} (h:DataW.trod enc jq w base (fun _=>true) held fuel 40 [v] = some x) :
  ∃ (A:Option Addr) (n c:Nat) (ls:List AutV),v = .slice A n c /\ AutR w.heap.size w ls A n /\ (∀ t ∈ ls,t.Ok) /\ n <= 9223372036854775807:=by
 obtain ⟨t0,t1,t2,t3,t4,t5,hu,a0,b0,a1,b1,a2,b2,a3,b3,a4,b4,a5,b5⟩:=ypb;have hmL:maxLen = 9223372036854775807:=by decide
 rcases ydy Tryz.underlying40 hu (s:=12) (by kernel_rfl) h with hcs | ⟨a,len,cap,hcs,hl,hm,hi⟩
 ·simp only [je5.injEq,and_true] at hcs;exact ⟨none,0,0,[],hcs,AutR.nil _ _ _,(fun t h=>by cases h),by omega⟩
 ·simp only [je5.injEq,and_true] at hcs
  have key:∀ i,i < len -> ∃ l:AutV,l.Ok /\ ∀ j,j < 12 -> w.cell? (a.add (i * 12 + j)) = (autL l)[j]?:=by
   intro i hil;obtain ⟨c,n,hc,hat,hf⟩:=hi i (by omega);obtain ⟨c0,c1,c2,c3,c4,c5,c6,c7,c8,c9,c10,c11,rfl⟩:∃ c0 c1 c2 c3 c4 c5 c6 c7 c8 c9 c10 c11,c = [c0,c1,c2,c3,c4,c5,c6,c7,c8,c9,c10,c11]:=⟨_,_,_,_,_,_,_,_,_,_,_,_,ygx c 12 hc⟩;obtain ⟨y0,e0⟩:=hf 0 t0 rfl;rw [a0,b0,show jq.cellsOf 23 = 1 by kernel_rfl] at e0;replace e0:DataW.trod enc jq w base (fun _=>true) held n 23 [c0] = some y0:=e0;obtain ⟨k0,h0,_,w0⟩:=DataW.trod_int ja5 e0;simp only [je5.injEq,and_true] at h0;subst h0;obtain ⟨z0,rfl⟩:=jez (ycD w0).1;have q0:=(ycD w0).2;obtain ⟨y1,e1⟩:=hf 1 t1 rfl;rw [a1,b1,show jq.cellsOf 9 = 1 by kernel_rfl] at e1;replace e1:DataW.trod enc jq w base (fun _=>true) held n 9 [c1] = some y1:=e1;obtain ⟨s1,h1,_⟩:=DataW.trod_string ja9 e1;simp only [je5.injEq,and_true] at h1;subst h1;obtain ⟨y2,e2⟩:=hf 2 t2 rfl;rw [a2,b2,show jq.cellsOf 23 = 1 by kernel_rfl] at e2;replace e2:DataW.trod enc jq w base (fun _=>true) held n 23 [c2] = some y2:=e2;obtain ⟨k2,h2,_,w2⟩:=DataW.trod_int ja5 e2;simp only [je5.injEq,and_true] at h2;subst h2;obtain ⟨z2,rfl⟩:=jez (ycD w2).1;have q2:=(ycD w2).2;obtain ⟨y3,e3⟩:=hf 3 t3 rfl;rw [a3,b3,show jq.cellsOf 23 = 1 by kernel_rfl] at e3;replace e3:DataW.trod enc jq w base (fun _=>true) held n 23 [c3] = some y3:=e3;obtain ⟨k3,h3,_,w3⟩:=DataW.trod_int ja5 e3;simp only [je5.injEq,and_true] at h3;subst h3;obtain ⟨z3,rfl⟩:=jez (ycD w3).1;have q3:=(ycD w3).2;obtain ⟨y4,e4⟩:=hf 4 t4 rfl;rw [a4,b4,show jq.cellsOf 38 = 4 by kernel_rfl] at e4;replace e4:DataW.trod enc jq w base (fun _=>true) held n 38 [c4,c5,c6,c7] = some y4:=e4;obtain ⟨N4,q4,h4⟩:=ycs e4;simp only [je5.injEq,and_true] at h4;obtain ⟨rfl,rfl,rfl,rfl⟩:=h4;obtain ⟨y5,e5⟩:=hf 5 t5 rfl;rw [a5,b5,show jq.cellsOf 38 = 4 by kernel_rfl] at e5;replace e5:DataW.trod enc jq w base (fun _=>true) held n 38 [c8,c9,c10,c11] = some y5:=e5;obtain ⟨N5,q5,h5⟩:=ycs e5;simp only [je5.injEq,and_true] at h5;obtain ⟨rfl,rfl,rfl,rfl⟩:=h5;refine ⟨⟨z0,s1,z2,z3,N4,N5⟩,⟨by show z0 < _;omega,by show z2 < _;omega,by show z3 < _;omega,q4,q5⟩,fun j hj=>hat j hj⟩
  obtain ⟨ls,hll,hls⟩:=yeV len key;refine ⟨some a,len,cap,ls,hcs,⟨hll,fun h0=>?_⟩,fun t ht=>?_,by omega⟩
  ·have c00:w.cell? (a.add (0 * 12 + 0)) = some (.int .u64 ((ls[0]'(by omega)).chain:Int)):=(hls 0 (by omega)).2 0 (by omega);have ea:a = ⟨a.block,a.off,none⟩:=yck (a:=a) (by simpa [Addr.add] using c00);refine ⟨a.block,a.off,by rw [<- ea],?_,fun i hi' j u hu=>?_⟩
   ·have:=jd0 w _ c00
    rwa [ycv] at this
   ·have hg:ls.getD i AutV.none_ = ls[i]'(by omega):=by rw [jg,je (by omega)];rfl
    rw [hg] at hu;have hj:j < 12:=(jc9.1 hu).1;have d:=(hls i (by omega)).2 j hj;rw [ea,show (⟨a.block,a.off,none⟩:Addr).add (i * 12 + j) = ⟨a.block,a.off + (i * 12 + j),none⟩ from Addr.add_mid _ _ _] at d;rw [Nat.add_assoc,d,hu]
  ·obtain ⟨i,hi',rfl⟩:=List.mem_iff_getElem.1 ht;exact (hls i hi').1
theorem ypm:∃ t0 t1 t2 t3 t4 t5 t6 t7 t8 t9 t10 t11 t12 t13 t14 t15 t16 t17:Field,jq.underlying 42 = some (.struct #[t0,t1,t2,t3,t4,t5,t6,t7,t8,t9,t10,t11,t12,t13,t14,t15,t16,t17]) /\ t0.type = 3 /\ t0.offset = 0 /\ t1.type = 23 /\ t1.offset = 1 /\ t2.type = 23 /\ t2.offset = 2 /\ t3.type = 38 /\ t3.offset = 3 /\ t4.type = 38 /\ t4.offset = 7 /\ t5.type = 23 /\ t5.offset = 11 /\ t6.type = 9 /\ t6.offset = 12 /\ t7.type = 38 /\ t7.offset = 13 /\ t8.type = 9 /\ t8.offset = 17 /\ t9.type = 39 /\ t9.offset = 18 /\ t10.type = 40 /\ t10.offset = 19 /\ t11.type = 23 /\ t11.offset = 20 /\ t12.type = 38 /\ t12.offset = 21 /\ t13.type = 38 /\ t13.offset = 25 /\ t14.type = 9 /\ t14.offset = 29 /\ t15.type = 9 /\ t15.offset = 30 /\ t16.type = 38 /\ t16.offset = 31 /\ t17.type = 4 /\ t17.offset = 35 :=
 ⟨_,_,_,_,_,_,_,_,_,_,_,_,_,_,_,_,_,_,ja3,rfl,rfl,rfl,rfl,rfl,rfl,rfl,rfl,rfl,rfl,rfl,rfl,rfl,rfl,rfl,rfl,rfl,rfl,rfl,rfl,rfl,rfl,rfl,rfl,rfl,rfl,rfl,rfl,rfl,rfl,rfl,rfl,rfl,rfl,rfl,rfl⟩
theorem yoo {fuel:Nat} {v:Value} {x:DataW H × List MemPlace} (h:DataW.trod enc jq w base (fun _=>true) held fuel 22 [v] = some x) :
  ∃ (A:Option Addr) (n c:Nat) (ls:List TxV),v = .slice A n c /\ TxsR w.heap.size w ls A n /\ (∀ t ∈ ls,t.Ok) /\ n <= 9223372036854775807 /\ n <= c:=by
 obtain ⟨t0,t1,t2,t3,t4,t5,t6,t7,t8,t9,t10,t11,t12,t13,t14,t15,t16,t17,hu,a0,b0,a1,b1,a2,b2,a3,b3,a4,b4,a5,b5,a6,b6,a7,b7,a8,b8,a9,b9,a10,b10,a11,b11,a12,b12,a13,b13,a14,b14,a15,b15,a16,b16,a17,b17⟩:=ypm;have hmL:maxLen = 9223372036854775807:=by decide
 rcases ydy Tryz.underlying22 hu (s:=36) (by kernel_rfl) h with hcs | ⟨a,len,cap,hcs,hl,hm,hi⟩
 ·simp only [je5.injEq,and_true] at hcs;exact ⟨none,0,0,[],hcs,⟨rfl,fun h=>by omega⟩,(fun t h=>by cases h),by omega,by omega⟩
 ·simp only [je5.injEq,and_true] at hcs
  have key:∀ i,i < len -> ∃ l:TxV,l.Ok /\ ∃ sa sb,TxIn w.heap.size w l sa sb /\ ∀ j,j < 36 -> w.cell? (a.add (i * 36 + j)) = (txL l sa sb)[j]?:=by
   intro i hil;obtain ⟨c,n,hc,hat,hf⟩:=hi i (by omega);obtain ⟨c0,c1,c2,c3,c4,c5,c6,c7,c8,c9,c10,c11,c12,c13,c14,c15,c16,c17,c18,c19,c20,c21,c22,c23,c24,c25,c26,c27,c28,c29,c30,c31,c32,c33,c34,c35,rfl⟩:∃ c0 c1 c2 c3 c4 c5 c6 c7 c8 c9 c10 c11 c12 c13 c14 c15 c16 c17 c18 c19 c20 c21 c22 c23 c24 c25 c26 c27 c28 c29 c30 c31 c32 c33 c34 c35,c = [c0,c1,c2,c3,c4,c5,c6,c7,c8,c9,c10,c11,c12,c13,c14,c15,c16,c17,c18,c19,c20,c21,c22,c23,c24,c25,c26,c27,c28,c29,c30,c31,c32,c33,c34,c35]:=⟨_,_,_,_,_,_,_,_,_,_,_,_,_,_,_,_,_,_,_,_,_,_,_,_,_,_,_,_,_,_,_,_,_,_,_,_,ygx c 36 hc⟩;obtain ⟨y0,e0⟩:=hf 0 t0 rfl;rw [a0,b0,show jq.cellsOf 3 = 1 by kernel_rfl] at e0;replace e0:DataW.trod enc jq w base (fun _=>true) held n 3 [c0] = some y0:=e0;obtain ⟨k0,h0,_,w0⟩:=DataW.trod_int jb8 e0;simp only [je5.injEq,and_true] at h0;subst h0;obtain ⟨y1,e1⟩:=hf 1 t1 rfl;rw [a1,b1,show jq.cellsOf 23 = 1 by kernel_rfl] at e1;replace e1:DataW.trod enc jq w base (fun _=>true) held n 23 [c1] = some y1:=e1;obtain ⟨k1,h1,_,w1⟩:=DataW.trod_int ja5 e1;simp only [je5.injEq,and_true] at h1;subst h1;obtain ⟨z1,rfl⟩:=jez (ycD w1).1;have q1:=(ycD w1).2;obtain ⟨y2,e2⟩:=hf 2 t2 rfl;rw [a2,b2,show jq.cellsOf 23 = 1 by kernel_rfl] at e2;replace e2:DataW.trod enc jq w base (fun _=>true) held n 23 [c2] = some y2:=e2;obtain ⟨k2,h2,_,w2⟩:=DataW.trod_int ja5 e2;simp only [je5.injEq,and_true] at h2;subst h2;obtain ⟨z2,rfl⟩:=jez (ycD w2).1;have q2:=(ycD w2).2;obtain ⟨y3,e3⟩:=hf 3 t3 rfl;rw [a3,b3,show jq.cellsOf 38 = 4 by kernel_rfl] at e3;replace e3:DataW.trod enc jq w base (fun _=>true) held n 38 [c3,c4,c5,c6] = some y3:=e3;obtain ⟨N3,q3,h3⟩:=ycs e3;simp only [je5.injEq,and_true] at h3;obtain ⟨rfl,rfl,rfl,rfl⟩:=h3;obtain ⟨y4,e4⟩:=hf 4 t4 rfl;rw [a4,b4,show jq.cellsOf 38 = 4 by kernel_rfl] at e4;replace e4:DataW.trod enc jq w base (fun _=>true) held n 38 [c7,c8,c9,c10] = some y4:=e4;obtain ⟨N4,q4,h4⟩:=ycs e4;simp only [je5.injEq,and_true] at h4;obtain ⟨rfl,rfl,rfl,rfl⟩:=h4;obtain ⟨y5,e5⟩:=hf 5 t5 rfl;rw [a5,b5,show jq.cellsOf 23 = 1 by kernel_rfl] at e5;replace e5:DataW.trod enc jq w base (fun _=>true) held n 23 [c11] = some y5:=e5;obtain ⟨k5,h5,_,w5⟩:=DataW.trod_int ja5 e5;simp only [je5.injEq,and_true] at h5;subst h5;obtain ⟨z5,rfl⟩:=jez (ycD w5).1;have q5:=(ycD w5).2;obtain ⟨y6,e6⟩:=hf 6 t6 rfl;rw [a6,b6,show jq.cellsOf 9 = 1 by kernel_rfl] at e6;replace e6:DataW.trod enc jq w base (fun _=>true) held n 9 [c12] = some y6:=e6;obtain ⟨s6,h6,_⟩:=DataW.trod_string ja9 e6;simp only [je5.injEq,and_true] at h6;subst h6;obtain ⟨y7,e7⟩:=hf 7 t7 rfl;rw [a7,b7,show jq.cellsOf 38 = 4 by kernel_rfl] at e7;replace e7:DataW.trod enc jq w base (fun _=>true) held n 38 [c13,c14,c15,c16] = some y7:=e7;obtain ⟨N7,q7,h7⟩:=ycs e7;simp only [je5.injEq,and_true] at h7;obtain ⟨rfl,rfl,rfl,rfl⟩:=h7;obtain ⟨y8,e8⟩:=hf 8 t8 rfl;rw [a8,b8,show jq.cellsOf 9 = 1 by kernel_rfl] at e8;replace e8:DataW.trod enc jq w base (fun _=>true) held n 9 [c17] = some y8:=e8;obtain ⟨s8,h8,_⟩:=DataW.trod_string ja9 e8;simp only [je5.injEq,and_true] at h8;subst h8;obtain ⟨y9,e9⟩:=hf 9 t9 rfl;rw [a9,b9,show jq.cellsOf 39 = 1 by kernel_rfl] at e9;replace e9:DataW.trod enc jq w base (fun _=>true) held n 39 [c18] = some y9:=e9;obtain ⟨A9,n9,x9,l9,rfl,r9,m9⟩:=yhN e9;obtain ⟨y10,e10⟩:=hf 10 t10 rfl;rw [a10,b10,show jq.cellsOf 40 = 1 by kernel_rfl] at e10;replace e10:DataW.trod enc jq w base (fun _=>true) held n 40 [c19] = some y10:=e10;obtain ⟨A10,n10,x10,l10,rfl,r10,o10,m10⟩:=yhM e10;obtain ⟨y11,e11⟩:=hf 11 t11 rfl;rw [a11,b11,show jq.cellsOf 23 = 1 by kernel_rfl] at e11;replace e11:DataW.trod enc jq w base (fun _=>true) held n 23 [c20] = some y11:=e11;obtain ⟨k11,h11,_,w11⟩:=DataW.trod_int ja5 e11;simp only [je5.injEq,and_true] at h11;subst h11;obtain ⟨z11,rfl⟩:=jez (ycD w11).1;have q11:=(ycD w11).2;obtain ⟨y12,e12⟩:=hf 12 t12 rfl;rw [a12,b12,show jq.cellsOf 38 = 4 by kernel_rfl] at e12;replace e12:DataW.trod enc jq w base (fun _=>true) held n 38 [c21,c22,c23,c24] = some y12:=e12;obtain ⟨N12,q12,h12⟩:=ycs e12;simp only [je5.injEq,and_true] at h12;obtain ⟨rfl,rfl,rfl,rfl⟩:=h12;obtain ⟨y13,e13⟩:=hf 13 t13 rfl;rw [a13,b13,show jq.cellsOf 38 = 4 by kernel_rfl] at e13;replace e13:DataW.trod enc jq w base (fun _=>true) held n 38 [c25,c26,c27,c28] = some y13:=e13;obtain ⟨N13,q13,h13⟩:=ycs e13;simp only [je5.injEq,and_true] at h13;obtain ⟨rfl,rfl,rfl,rfl⟩:=h13;obtain ⟨y14,e14⟩:=hf 14 t14 rfl;rw [a14,b14,show jq.cellsOf 9 = 1 by kernel_rfl] at e14;replace e14:DataW.trod enc jq w base (fun _=>true) held n 9 [c29] = some y14:=e14;obtain ⟨s14,h14,_⟩:=DataW.trod_string ja9 e14;simp only [je5.injEq,and_true] at h14;subst h14;obtain ⟨y15,e15⟩:=hf 15 t15 rfl;rw [a15,b15,show jq.cellsOf 9 = 1 by kernel_rfl] at e15;replace e15:DataW.trod enc jq w base (fun _=>true) held n 9 [c30] = some y15:=e15;obtain ⟨s15,h15,_⟩:=DataW.trod_string ja9 e15;simp only [je5.injEq,and_true] at h15;subst h15;obtain ⟨y16,e16⟩:=hf 16 t16 rfl;rw [a16,b16,show jq.cellsOf 38 = 4 by kernel_rfl] at e16;replace e16:DataW.trod enc jq w base (fun _=>true) held n 38 [c31,c32,c33,c34] = some y16:=e16;obtain ⟨N16,q16,h16⟩:=ycs e16;simp only [je5.injEq,and_true] at h16;obtain ⟨rfl,rfl,rfl,rfl⟩:=h16;obtain ⟨y17,e17⟩:=hf 17 t17 rfl;rw [a17,b17,show jq.cellsOf 4 = 1 by kernel_rfl] at e17;replace e17:DataW.trod enc jq w base (fun _=>true) held n 4 [c35] = some y17:=e17;obtain ⟨s17,h17,_⟩:=DataW.trod_bool Tryz.underlying4 e17;simp only [je5.injEq,and_true] at h17;subst h17;have g9:=r9.1;have g10:=r10.1;refine ⟨⟨k0,z1,z2,N3,N4,z5,s6,N7,s8,l9,l10,z11,N12,N13,s14,s15,N16,s17⟩,⟨by show z1 < _;omega,by show z2 < _;omega,q3,q4,by show z5 < _;omega,q7,by show z11 < _;omega,q12,q13,q16,o10⟩,.slice A9 n9 x9,.slice A10 n10 x10,⟨⟨A9,x9,by rw [g9],by rw [g9];exact r9⟩,⟨A10,x10,by rw [g10],by rw [g10];exact r10⟩,by show l9.length <= _;omega,by show l10.length <= _;omega⟩,fun j hj=>hat j hj⟩
  obtain ⟨ls,hll,hls⟩:=yeV len key;refine ⟨some a,len,cap,ls,hcs,⟨hll,fun h0=>?_⟩,fun t ht=>?_,by omega,hl⟩
  ·obtain ⟨_,sa0,sb0,_,hc0⟩:=hls 0 (by omega);have c00:w.cell? (a.add (0 * 36 + 0)) = some (.int .i64 (ls[0]'(by omega)).kind):=hc0 0 (by omega);have ea:a = ⟨a.block,a.off,none⟩:=yck (a:=a) (by simpa [Addr.add] using c00);refine ⟨a.block,a.off,by rw [<- ea],?_,fun i hi'=>?_⟩
   ·have:=jd0 w _ (show w.cell? (a.add (0 * 36 + 0)) = some (.int .i64 (ls[0]'(by omega)).kind) from c00)
    rwa [ycv] at this
   ·have hg:ls.getD i TxV.zero = ls[i]'(by omega):=by rw [jg,je (by omega)];rfl
    obtain ⟨_,sa,sb,hin,hcl⟩:=hls i (by omega);rw [hg];refine ⟨sa,sb,fun j u hu=>?_,hin⟩;have hj:j < 36:=(jc9.1 hu).1;have d:=hcl j hj;rw [ea,show (⟨a.block,a.off,none⟩:Addr).add (i * 36 + j) = ⟨a.block,a.off + (i * 36 + j),none⟩ from Addr.add_mid _ _ _] at d;rw [Nat.add_assoc,d,hu]
  ·obtain ⟨i,hi',rfl⟩:=List.mem_iff_getElem.1 ht;exact (hls i hi').1
end
end Go.Proofs.YtgclnikdkfpflaaGreatDoor
