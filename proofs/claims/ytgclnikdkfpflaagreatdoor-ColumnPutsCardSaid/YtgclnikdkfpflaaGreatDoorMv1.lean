/- Merged: Base, Round, Keep, Class, Perm, Res, Bytes, MemD, Txt, NumP, BeV, FldP, UnrA, Wrd, Builder, BldF, Join, Rep. -/
import Derived.Test.YtgclnikdkfpflaaGreatDoorRows
import Derived.WalkKit
import Derived.WalkSpells
import Derived.WalkLawsBesides
import Derived.Deep.AppendLies
import Derived.Deep.Draws
import Derived.Deep.QuietTactic
import Derived.BigQuiet
import Derived.Laws.OwnMore
import Derived.Laws.Rows
import Derived.Laws.MakeOwn
import Derived.Laws.Entries
import Derived.Laws.BitsAllLaws
import Derived.Laws.BitsLemmas
import Derived.Maps.AppendAt
import Derived.RegionTactic
import Derived.OwnWalk
import Derived.Deep.OwnRows
import Derived.LaidEql
import Derived.LaidEqlPtr
import Derived.Lib.Hide
import Derived.ChangeSame
import Derived.Carry
import Derived.OpenVars
import Derived.ProofKit
import Derived.OpenShut
import Derived.Deep.Slices
import Derived.Deep.Fields
import Derived.Lib.SmallJoins
import Derived.RangeFuncNested
import Derived.RangeFuncBound
import Derived.RangeFuncCalls
import Derived.RangeFuncLeaves
import Derived.RangeFuncBox
import Derived.Shelf.Abstract
import Derived.Shelf.RegionOpen
import Derived.OwnWalkIn
import Derived.TacticsInMore
import Derived.LoopNIn
import Derived.LoopIn
import Derived.StillTailTactics
import Derived.Deep.RegionHeld3
import Derived.OrdersHeld
import Derived.Laws.Concat
import Derived.Laws.IdiomStrings
import Derived.Deep.MidRow
import Derived.Deep.DeepCutAuto
import Derived.Lib.SlBytesConst
import Derived.Shelf.Strings.Builder1
import Derived.Lib.Builder
import Derived.Lib.AppendStr
import Derived.Shelf.Strings.BuilderF
import Derived.Shelf.Strings.Builder2
import Derived.Shelf.Bits.Mul64
import Derived.Shelf.Strings.Prefix
import Derived.Lib.RepeatB
import Derived.Deep.LoopGhost
namespace Go.Proofs.YtgclnikdkfpflaaGreatDoor
open Go.RowKit Go.Shelf
open List renaming set_cons_zero → jz, set_cons_succ → js, setIfInBounds_toArray → jb
set_option linter.unusedVariables false
set_option linter.unusedSimpArgs false
set_option maxRecDepth 100000
set_option maxHeartbeats 16000000
open Lib renaming hid → jh, byteCells → ja6, IsBuilder → jd3
open World.grownBy renaming refl → jr
open _root_.List renaming getD_eq_getElem?_getD → jg, getElem?_eq_getElem → je, getElem?_toArray → jta, length_append → jla, getElem?_append_right → jar, getElem?_append_left → jal, take_succ_eq_append_getElem → jtk, take_of_length_le → jtl, drop_eq_getElem_cons → jdc, getElem?_map → jgm, eq_nil_of_length_eq_zero → jb7, replicate → jc1, getElem?_take_of_lt → jc3, getElem?_eq_none → jc6, getElem?_eq_some_iff → jc9, length_take → jd4, mem_cons → je6
open _root_.Array renaming getElem?_eq_some_iff → jes, length_toList → jb0, getElem?_eq_none → jc8, replicate → je4
open _root_.Int renaming toNat_natCast → jnc, tdiv_eq_ediv_of_nonneg → je2, tmod_eq_emod_of_nonneg → je3
open World renaming size_alloc → jsa, ownsRow_nil → jon, setCell → jd5
open Below renaming heap_setCell → jhs, refl → jc5
open IntWalk renaming i64_in → jii
open _root_.Nat renaming le_trans → jlt, le_refl → jle, lt_of_lt_of_le → jc4, mul_comm → jd2, zero_add → jd6
open _root_.Go.Proofs.Tryz renaming prog → jq, underlying23 → ja5, underlying9 → ja9, underlying3 → jb8, underlying38 → jd8
open Go renaming bodyPost_ret → jbr
open _root_.Option renaming some → ja1
open Value renaming string → ja8, ownBlock → jc2
open Region renaming wanted → jb6
open Go.RowKit
theorem ycv (a:Addr) (n:Nat):(a.add n).block = a.block:=by unfold Addr.add;split <;> rfl
def Reads (w:World) (B size:Nat) (A:Option Addr) (n:Nat) (xs:List Value):Prop :=
 xs.length = n * size /\ (0 < n -> ∃ ad,A = some ad /\ ad.block < B /\ ∀ j u,xs[j]? = some u -> w.cell? (ad.add j) = some u)
section
variable {w w':World} {B B' size n:Nat} {A:Option Addr} {xs:List Value}
theorem Reads.none_:Reads w B size A 0 []:=⟨by simp,fun h=>absurd h (by omega)⟩
theorem Reads.at_ {k:Nat} (h:Reads w B 1 A n xs) (hk:k < n):∃ ad u,A = some ad /\ ad.block < B /\ xs[k]? = some u /\ w.cell? (ad.add k) = some u:=by
 obtain ⟨ad,e,hb,hc⟩:=h.2 (by omega);have hl:k < xs.length:=by have:=h.1;omega
 exact ⟨ad,xs[k],e,hb,je hl,hc k _ (je hl)⟩
theorem Reads.keep (h:Reads w B size A n xs) (hk:∀ p:Addr,p.block < B -> w'.cell? p = w.cell? p):Reads w' B size A n xs :=
 ⟨h.1,fun hn=>by
  obtain ⟨ad,e,hb,hc⟩:=h.2 hn;exact ⟨ad,e,hb,fun j u hu=>(hk _ (by rw [ycv];exact hb)).trans (hc j u hu)⟩⟩
theorem Reads.below (h:Reads w B size A n xs) (hb:Below B w w'):Reads w' B size A n xs:=h.keep fun _ hp=>hb.cell hp
theorem Reads.drew (h:Reads w B size A n xs):Reads w.drew B size A n xs:=h
theorem Reads.drewN (h:Reads w B size A n xs) (k:Nat):Reads (w.drewN k) B size A n xs:=h
theorem Reads.alloc (h:Reads w B size A n xs) (hB:B <= w.heap.size) (o:Obj):Reads (w.alloc o) B size A n xs:=h.keep fun p hp=>World.cell?_alloc_lt w o p (by omega)
theorem Reads.setCell (h:Reads w B size A n xs) {p:Addr} (hB:B <= p.block) (u:Value):Reads (w.setCell p u) B size A n xs :=
 h.keep fun q hq=>World.cell?_setCell_other w p q u (fun e=>by subst e;omega)
theorem Reads.grown (h:Reads w B size A n xs) {row:Option Nat} (hg:w.grownBy w' row) (hB:B <= w.heap.size) (hr:∀ g,row = some g -> B <= g):Reads w' B size A n xs :=
 h.keep fun p hp=>World.cell?_of_block (hg.block p.block (by omega) (fun e=>by have:=hr _ e.symm;omega))
theorem Reads.of_own {base:Nat} {e:TypeId} {c:Nat} (h:w.ownsRow base e size (.slice A n c) n xs):Reads w w.heap.size size A n xs:=by
 refine ⟨h.1,fun hn=>?_⟩;obtain ⟨g,cap,hv,_,hlt⟩:=h.form hn;have hA:A = some ⟨g,0,none⟩:=by injection hv
 subst hA;exact ⟨_,rfl,hlt,h.cells (g:=g) rfl⟩
end
def Blk (w:World) (g:Nat) (t:TypeId) (cs:Array Value):Prop:=w.heap[g]? = some (.cells cs t (0,0))
section
variable {w w':World} {g:Nat} {t:TypeId} {cs:Array Value}
theorem Blk.lt (h:Blk w g t cs):g < w.heap.size:=by
 rcases Nat.lt_or_ge g w.heap.size with hlt | hge
 ·exact hlt
 ·unfold Blk at h;rw [jc8 hge] at h;cases h
theorem Blk.cell (h:Blk w g t cs) (i:Nat):w.cell? ⟨g,i,none⟩ = cs[i]?:=cell_of_row w g i cs t (0,0) h
theorem Blk.frozen (h:Blk w g t cs) (i:Nat):w.frozen? ⟨g,i,none⟩ = false:=by
 unfold Blk at h;simp [World.frozen?,h]
theorem Blk.new (w:World) (t:TypeId) (cs:Array Value):Blk (w.alloc (.cells cs t)) w.heap.size t cs:=heap_alloc_new w _
theorem Blk.drew (h:Blk w g t cs):Blk w.drew g t cs:=h
theorem Blk.drewN (h:Blk w g t cs) (n:Nat):Blk (w.drewN n) g t cs:=h
theorem Blk.alloc (h:Blk w g t cs) (o:Obj):Blk (w.alloc o) g t cs:=(Below.heap_alloc w o g h.lt).trans h
theorem Blk.set_ (h:Blk w g t cs) (i:Nat) (u:Value):Blk (w.setCell ⟨g,i,none⟩ u) g t (cs.setIfInBounds i u):=by
 unfold Blk at h ⊢;simp [jd5,Array.getElem?_modify,h]
theorem Blk.far (h:Blk w g t cs) {p:Addr} (hp:g ≠ p.block) (u:Value):Blk (w.setCell p u) g t cs:=(jhs w p u g hp).trans h
theorem Blk.below {B:Nat} (h:Blk w g t cs) (hb:Below B w w') (hg:g < B):Blk w' g t cs:=(hb.block g hg).trans h
theorem Blk.grown {row:Option Nat} (h:Blk w g t cs) (hb:w.grownBy w' row) (hg:some g ≠ row):Blk w' g t cs:=(hb.block g h.lt hg).trans h
end
section
variable {P:Program} (w:World)
end
theorem ybo {B:Nat} {a w:World} (h:Below B a w) (n:Nat):Below B a (w.drewN n):=⟨h.os,h.tape,h.output,h.size,h.block⟩
theorem ygu {a w:World} {row:Option Nat} (h:a.grownBy w row) (n:Nat):a.grownBy (w.drewN n) row:=⟨h.os,h.tape,h.output,h.size,h.block⟩
theorem ya2 {a w:World} {row:Option Nat} (h:a.grownBy w row):a.grownBy w.drew row:=⟨h.os,h.tape,h.output,h.size,h.block⟩
theorem yaa {a w:World} {row:Option Nat} (h:a.grownBy w row) (o:Obj):a.grownBy (w.alloc o) row :=
 ⟨h.os,h.tape,h.output,jlt h.size (by simp),fun i hi hne=>(Below.heap_alloc w o i (jc4 hi h.size)).trans (h.block i hi hne)⟩
theorem yhW {a w:World} {g:Nat} (h:a.grownBy w (some g)) {p:Addr} (hp:p.block = g \/ a.heap.size <= p.block) (u:Value):a.grownBy (w.setCell p u) (some g) :=
 ⟨h.os,h.tape,h.output,by simpa [jd5] using h.size,fun i hi hne=>(jhs w p u i (by
  rintro rfl;rcases hp with hp | hp
  ·exact hne (by rw [hp])
  ·omega)).trans (h.block i hi hne)⟩
theorem ybY {P:Program} (t e:TypeId) (i:TypeInfo) (z:Value) (ht:P.underlying t = some (.slice e)) (hi:P.info? e = some i) (hz:i.zero = some z)
  (kl kc:IntKind) (n c:Nat) (hnc:n <= c) (hbytes:i.bytes * c <= 281474976710656) (h63:c <= 9223372036854775807) (w:World) :
  (Instr.makeSlice t (.int kl (n:Int)) (.int kc (c:Int))).run P w = .ok (.slice (some ⟨w.heap.size,0,none⟩) n c) (w.alloc (.cells (madeCells z.cells (c * i.size)) e)):=by
 have hb:(i.bytes:Int) * (c:Int) <= 281474976710656:=by
  have h:((i.bytes * c:Nat):Int) <= 281474976710656:=by omega
  rwa [Int.natCast_mul] at h
 have hr:=run_make (P:=P) w t e i z ht hi hz kl kc n c (by omega) (by omega) hb (by omega);simp only [jnc] at hr;exact hr
theorem yhX (a:Nat) (ha:a < 9223372036854775808):(BitVec.ofInt 64 (a:Int)).toNat = a:=by
 rw [BitVec.ofInt_natCast,BitVec.toNat_ofNat];exact Nat.mod_eq_of_lt (by omega)
theorem ykK (a b:Nat) (ha:a < 9223372036854775808) (hb:b < 9223372036854775808):bits .or .i64 (a:Int) (b:Int) = ((a ||| b:Nat):Int):=by
 have hx:a ||| b < 2 ^ 63:=Nat.or_lt_two_pow (by omega) (by omega);show IntKind.i64.wrap ((BitVec.ofInt 64 (a:Int) ||| BitVec.ofInt 64 (b:Int)).toNat:Int) = _;rw [BitVec.toNat_or,yhX a ha,yhX b hb,IntKind.wrap_i64];omega
def yfz (ops:List Oper):Bool:=ops.all fun o=>match o.op with | .defer _=>false | _=>true
theorem yhY {ops:List Oper} (h:yfz ops = true) {o:Oper} (ho:o ∈ ops) (c:Call):o.op ≠ .defer c:=by
 intro e;have:=List.all_eq_true.1 h o ho;simp [e] at this
theorem yhK {P:Program} {n r:Nat} {row:String} {args:Array Value} {w:World} {R:Value -> World -> Prop} (h:Rows P row args w R):RowsIn (Fence.wide.inRound r) n P row args w R :=
 fun c cs _=>let ⟨v,w',q,s⟩:=h c cs;⟨v,w',q,stepsIn_wide.2 s⟩
theorem yh5 {P:Program} {n r:Nat} {o:Oper} {a:Act} {next next':Act -> World -> Prop} {Q:Exit -> Act -> World -> Prop} (hQ:∀ a w,¬ Q .outgrown a w) (hn:∀ a w,next a w -> next' a w)
  (x:Result Next) (h:o.upon P a next Q x):o.uponIn (Fence.wide.inRound r) n P a next' Q x:=by
 have hd:(Fence.wide.inRound r).depth.isSome = true -> 1 <= n:=fun hd=>by simp [Fence.wide] at hd
 cases x with
 | ok y w' =>
  cases y with
  | value v=>exact hn _ _ h
  | skip=>exact hn _ _ h
  | defer d=>exact hn _ _ h
  | enter f args =>
   have h':Calls P f args w' _:=h;refine ⟨hd,CallsIn.inRound r (callsIn_wide.2 (h'.mono fun e w'' hh=>?_))⟩;cases e with
   | returned v=>exact hn _ _ hh
   | panicked chain=>exact hh
   | outgrown =>
    obtain ⟨a',w',q⟩:LetsOut Q:=hh;exact (hQ _ _ q).elim
  | row row args =>
   have h':Rows P row args w' _:=h;exact ⟨hd,yhK (h'.mono fun v w'' hh=>hn _ _ hh)⟩
  | _=>exact h.elim
 | halt z w' =>
  cases z with
  | panic v=>exact h
  | _=>exact h.elim
theorem ygO {P:Program} {ops:Array Oper} {n r:Nat} {Q:Exit -> Act -> World -> Prop} (hd:yfz ops.toList = true) (hQ:∀ a w,¬ Q .outgrown a w) :
  ∀ (l:List Nat) (a:Act) (w:World),wpOps P ops Q l a w -> wpOpsIn (Fence.wide.inRound r) n P ops Q l a w:=by
 intro l
 induction l with
 | nil=>exact fun a w h=>h
 | cons i rest ih =>
  intro a w h;simp only [wpOps] at h;simp only [wpOpsIn];cases ho:ops[i]? with
  | none=>simp only [ho] at h ⊢;exact ih _ _ h
  | some o =>
   simp only [ho] at h ⊢;by_cases hw:jb6 o (yielded ops a.tmps) = true
   ·rw [if_pos hw] at h ⊢;rcases h with h | ⟨_,a',w',h⟩
    ·refine ⟨fun _ _=>trivial,?_⟩;rw [Oper.semAt_eq _ _ _ (yhY hd (by obtain ⟨hlt,e⟩:=jes.1 ho;rw [<- e];exact Array.getElem_mem_toList hlt))];exact yh5 hQ (fun a w h=>ih a w h) _ h
    ·exact (hQ _ _ h).elim
   ·rw [if_neg hw] at h ⊢;exact ⟨fun _ _=>trivial,ih _ _ h⟩
section
variable {P:Program} {n r id:Nat} {Q:Exit -> Act -> World -> Prop} {a:Act} {w:World} {l:List Oper} {ops:Array Oper}
theorem ycr (hm:P.follows .mixedOrders = true) (hd:yfz ops.toList = true) (hQ:∀ a w,¬ Q .outgrown a w)
  (h:wpAny P .any ops Q ops.size (je4 ops.size false) a { w with drawn:=w.drawn + 1 }):(Code.region id ops true).wpIn (Fence.wide.inRound r) n P Q a w :=
 wpIn_region_draw fun t=>by
  simp only [Region.schedule,hm,Bool.true_or,if_true];exact ygO hd hQ _ _ _ (wpAny_sound ops.size t _ a _ h)
theorem yfe (n':Nat) (hm:P.follows .mixedOrders = true) (hB:Region.lexTailB .any l.toArray n' = true) (hd:yfz l = true) (hQ:∀ a w,¬ Q .outgrown a w)
  (h:wpStill P l.toArray { w with drawn:=w.drawn + 1 } (fun a'=>wpList P l.toArray Q (l.drop n') a' { w with drawn:=w.drawn + 1 }) (l.take n') a):(Code.region id l.toArray true).wpIn (Fence.wide.inRound r) n P Q a w:=by
 simp only [Region.lexTailB,Bool.and_eq_true,decide_eq_true_eq] at hB;obtain ⟨⟨⟨⟨hsel,hn⟩,hs⟩,hc⟩,hlex⟩:=hB;have hn':n' < l.length:=by simpa using hn
 have htl:(l.take n').length = n':=by simp;omega
 have hdl:(l.drop n').length = l.toArray.size - n':=by simp
 have inv0:HeadInv .any l.toArray n' (je4 l.toArray.size false) :=
  ⟨by simp,fun j oj _ hl=>(by rw [getD_replicate_false] at hl;cases hl),fun t _ ht=>getD_in (by simpa using ht) (getD_replicate_false _ _)⟩
 have H:=wpAnyL_lex (md:=.any) (g:=l.toArray.size - n') hsel hs hc hn (l.take n') 0 _ a (fun j hj=>by
  have hj':j < n':=by rw [htl] at hj;exact hj
  simp [hj']) (by simpa using htl) inv0 (by rw [htl];exact hlex) h
 refine ycr hm (by simpa using hd) hQ ?_
 have:=wpAny_of_head (Q':=Q) (g:=l.toArray.size - n') (fun listed a' hL=>by
  have:=wpAny_of_seq (md:=.any) (Q':=Q) (l.drop n') n' listed a' { w with drawn:=w.drawn + 1 } (fun j=>by simp [List.getElem?_drop]) (by rw [hdl];exact hL.1) hL.2
  rwa [hdl] at this) _ _ _ H
 rw [htl,show n' + (l.toArray.size - n') = l.toArray.size by omega] at this;exact this
end
structure KeepS (S:Nat -> Prop) (W W':World):Prop where
 size:W.heap.size <= W'.heap.size
 block:∀ k,S k -> W'.heap[k]? = W.heap[k]?
section
variable {S:Nat -> Prop} {W W' W'':World}
theorem KeepS.refl (S:Nat -> Prop) (W:World):KeepS S W W:=⟨jle _,fun _ _=>rfl⟩
theorem KeepS.trans (h:KeepS S W W') (k:KeepS S W' W''):KeepS S W W'':=⟨jlt h.size k.size,fun i hi=>(k.block i hi).trans (h.block i hi)⟩
theorem KeepS.drewN (h:KeepS S W W') (n:Nat):KeepS S W (W'.drewN n):=⟨h.size,h.block⟩
theorem KeepS.grown (h:KeepS S W W') {row:Option Nat} (hg:W'.grownBy W'' row) (hS:∀ k,S k -> k < W'.heap.size) (hr:∀ k,row = some k -> ¬ S k):KeepS S W W'' :=
 h.trans ⟨hg.size,fun k hk=>hg.block k (hS k hk) (fun e=>hr k e.symm hk)⟩
theorem KeepS.setCell (h:KeepS S W W') {p:Addr} (hp:¬ S p.block) (u:Value):KeepS S W (W'.setCell p u) :=
 h.trans ⟨by simp [jd5],fun k hk=>jhs _ _ _ _ (fun e=>hp (e ▸ hk))⟩
theorem KeepS.alloc (h:KeepS S W W') (hS:∀ k,S k -> k < W'.heap.size) (o:Obj):KeepS S W (W'.alloc o) :=
 h.trans ⟨by simp,fun k hk=>Below.heap_alloc _ _ _ (hS k hk)⟩
theorem KeepS.cell (h:KeepS S W W') {p:Addr} (hp:S p.block):W'.cell? p = W.cell? p:=World.cell?_of_block (w:=W) (h.block p.block hp)
theorem ymi (h:KeepS S W W') (k:KeepS S W' W''):KeepS S W W'':=h.trans k
theorem ymj {w:World} (hS:∀ k,S k -> k < w.heap.size) (W:World) (l:Nat) (o o':Obj) (hl:w.heap.size <= l) (_:W.heap[l]? = some o) (_:o.isCells = false) (_:o.isWalk = false):KeepS S W (W.putObj l o') :=
 ⟨(grownBy_putObj' W l o').size,fun k hk=>World.putObj_heap_other (by have:=hS k hk;omega)⟩
theorem KeepS.appended {w1:World} {B:Nat} {v v':Value} {tmp:Obj} (hS:∀ k,S k -> k < W.heap.size) (hr:∀ g,v.ownBlock = some g -> ¬ S g) (hB:¬ S B) (hg:(W.alloc tmp).grownBy w1 v.ownBlock):KeepS S W (w1.setCell ⟨B,0,none⟩ v') :=
 (((KeepS.refl S W).alloc hS tmp).grown hg (fun k hk=>by have:=hS k hk;simp;omega) hr).setCell (p:=⟨B,0,none⟩) hB v'
theorem yaj {w:World} {base:Nat} {e:TypeId} {size:Nat} {v:Value} {k:Nat} {xs:List Value} (h:w.ownsRow base e size v k xs) {g:Nat} (hg:v.ownBlock = some g):base <= g:=by
 rcases h.2 with ⟨rfl,_⟩ | ⟨g',cap,cur,rfl,hb,_⟩
 ·simp [jc2] at hg
 ·obtain rfl:g' = g:=by simpa [jc2] using hg
  exact hb
theorem KeepS.appendedBox {w1:World} {n₀ B Bs:Nat} {ti e:TypeId} {u v v':Value} {size k:Nat} {xs:List Value} {tmp:Obj} (hn:n₀ <= W.heap.size) (hI:Boxed W Bs ti u) (hti:ti ≠ e) (hrow:W.ownsRow n₀ e size v k xs)
  (hB:n₀ <= B) (hBs:B ≠ Bs) (hg:(W.alloc tmp).grownBy w1 v.ownBlock):KeepS (fun k=>k < n₀ \/ k = Bs) W (w1.setCell ⟨B,0,none⟩ v') /\ Boxed (w1.setCell ⟨B,0,none⟩ v') Bs ti u:=by
 have hne:=hI.not_row hti hrow
 have hk:KeepS (fun k=>k < n₀ \/ k = Bs) W (w1.setCell ⟨B,0,none⟩ v'):=by
  refine KeepS.appended (fun k hk=>?_) (fun g hgb hk=>?_) (by rintro (h | h);omega;exact hBs h) hg
  ·rcases hk with hk | rfl
   ·omega
   ·exact hI.lt
  ·rcases hk with hk | rfl
   ·have:=yaj hrow hgb;omega
   ·exact hne hgb.symm
 exact ⟨hk,(hk.block Bs (.inr rfl)).trans hI⟩
end
theorem Boxed.below {W W':World} {B:Nat} {t:TypeId} {v:Value} (h:Boxed W B t v) (hb:Below W.heap.size W W'):Boxed W' B t v:=(hb.block B h.lt).trans h
theorem ylH {w:World} {b B:Nat} {t:TypeId} {cs:Array Value} {fr:Nat × Nat} (h:w.heap[b]? = some (.cells cs t fr)) (hB:b < B) (n:Nat) (hn:n = cs.size):Reads w B 1 (some ⟨b,0,none⟩) n cs.toList:=by
 refine ⟨by simp [hn],fun _=>⟨⟨b,0,none⟩,rfl,hB,fun j u hu=>?_⟩⟩
 have e:(⟨b,0,none⟩:Addr).add j = ⟨b,j,none⟩:=by
  unfold Addr.add;by_cases hj:j = 0
  ·subst hj;simp
  ·simp [hj]
 rw [e];simpa [World.cell?,h] using hu
theorem yaN {w:World} {base:Nat} {e:TypeId} {v:Value} {n:Nat} {xs:List Value} (h:w.ownsRow base e 1 v n xs):∃ A c,v = .slice A n c /\ Reads w w.heap.size 1 A n xs:=by
 rcases h.2 with ⟨rfl,h0⟩ | ⟨g,cap,cur,rfl,_⟩
 ·obtain rfl:xs = []:=jb7 (by rw [h.1,h0]);refine ⟨none,0,by rw [h0],by rw [h0];exact Reads.none_⟩
 ·exact ⟨_,_,rfl,Reads.of_own h⟩
section
variable {P:Program} {ops:Array Oper} {C:World -> Prop} {Q:Act -> Prop} {a:Act} {o:Oper} {rest:List Oper}
theorem yaC {id:Nat} {Q:Exit -> Act -> World -> Prop} {w:World} {l:List Oper} (C:World -> Prop) (hm:P.follows .mixedOrders = true) (hB:Region.lexB .any l.toArray = true) (hC:C w.drew)
  (h:wpQuiet P l.toArray C (fun a'=>∀ w',C w' -> Q .normal a' w') l a):(Code.region id l.toArray true).wp P Q a w :=
 wp_region_quiet (C:=C) hm hB hC (by simpa using h)
theorem yad (hw:jb6 o (yielded ops a.tmps) = true) (v:Value) (h:∀ W,C W -> (execOp a.eval o).run P W = .ok (.value v) W) (hk:wpQuiet P ops C Q rest (a.put o.dst v)):wpQuiet P ops C Q (o :: rest) a :=
 wpQuiet_step fun K hK=>by rw [if_pos hw];exact ⟨v,fun W hW=>by unfold Oper.quietAt;rw [h W hW];exact ⟨rfl,rfl⟩,hK _ hk⟩
theorem ybE (hw:jb6 o (yielded ops a.tmps) = true) (v:Value) (f:FuncId) (args:Array Value) (h:∀ W,C W -> (execOp a.eval o).run P W = .ok (.enter f args) W)
  (hc:∀ W,C W -> Calls P f args W fun e w''=>e = .returned v /\ C w'') (hk:wpQuiet P ops C Q rest (a.put o.dst v)):wpQuiet P ops C Q (o :: rest) a :=
 wpQuiet_step fun K hK=>by rw [if_pos hw];exact ⟨v,fun W hW=>by unfold Oper.quietAt;rw [h W hW];exact ⟨rfl,hc W hW⟩,hK _ hk⟩
theorem ycN {W:World} (h:C W) (p:Prop):(∀ w,C w -> p) ↔ p:=⟨fun k=>k W h,fun k _ _=>k⟩
theorem yak {W:World} (f:FuncId) (x:Operand) (ts:Array TypeId) (ho:o.op = .call { callee:=.value (.func f),args:=#[x],argTypes:=ts }) (v:Value) (hx:a.eval x = v)
  (hf:(callFunc f #[v]).run P W = .ok (.enter f #[v]) W):(execOp a.eval o).run P W = .ok (.enter f #[v]) W:=by
 have he:a.eval (.func f) = .func (.func f) #[] #[]:=rfl;unfold execOp;generalize a.eval = ev at *;simp only [ho];simp [resolve,invoke,go_sem,hx,he,hf]
end
section
variable {P:Program} {ops:Array Oper} {md:Region.Mode} {Q:Exit -> Act -> World -> Prop} {S:World -> Prop}
theorem ybF {i:Nat} {oi:Oper} {fuel:Nat} {listed:Array Bool} {a:Act} {w w':World} (hi:ops[i]? = some oi) (hr:Region.ready md ops listed = [i]) (hw:jb6 oi (yielded ops a.tmps) = true)
  (hrun:(execOp a.eval oi).run P w = .ok .skip w') (hS:S w') (h:wpAnyH P md ops Q S fuel (listed.setIfInBounds i true) (a.put oi.dst undef) w'):wpAnyH P md ops Q S (fuel + 1) listed a w:=by
 refine wpAnyH_all hr (by simp) fun j hj=>?_;obtain rfl:j = i:=by simpa using hj
 unfold wpOp;simp only [hi,hw,if_true];refine .inl ?_;unfold Oper.wp;rw [hrun];exact ⟨hS,h⟩
theorem ycB {n r id:Nat} {w:World} {a:Act} {l:List Oper} (S:World -> Prop) (hm:P.follows .mixedOrders = true) (hd:yfz l = true) (hQ:∀ a w,¬ Q .outgrown a w)
  (h:wpAnyH P .any l.toArray Q S l.toArray.size (je4 l.toArray.size false) a w.drew):(Code.region id l.toArray true).wpIn (Fence.wide.inRound r) n P Q a w :=
 ycr hm (by simpa using hd) hQ (wpAny_of_held _ _ _ _ h)
end
theorem ybd {w w':World} (h:w.grownBy w' none):Below w.heap.size w w':=⟨h.os,h.tape,h.output,h.size,fun i hi=>h.block i hi (by simp)⟩
theorem yae {w w':World} (h:Below w.heap.size w w'):w.grownBy w' none:=⟨h.os,h.tape,h.output,h.size,fun i hi _=>h.block i hi⟩
section
variable {P:Program} {ops:Array Oper} {md:Region.Mode} {Q:Exit -> Act -> World -> Prop} {S:World -> Prop}
abbrev yfR (P:Program) (ops:Array Oper) (md:Region.Mode) (Q:Exit -> Act -> World -> Prop) (S:World -> Prop) (fuel:Nat) (listed:Array Bool) (i:Nat):Act -> World -> Prop:=fun a' w'=>S w' /\ wpAnyH P md ops Q S fuel (listed.setIfInBounds i true) a' w'
theorem yam {i fuel:Nat} {listed:Array Bool} {a:Act} {w:World} (hr:Region.ready md ops listed = [i]) (h:wpOp P ops Q i (yfR P ops md Q S fuel listed i) a w):wpAnyH P md ops Q S (fuel + 1) listed a w :=
 wpAnyH_all hr (by simp) fun j hj=>by
  obtain rfl:j = i:=by simpa using hj
  exact h
theorem yc5 {i j fuel:Nat} {listed:Array Bool} {a:Act} {w:World} (hr:Region.ready md ops listed = [i,j]) (h:wpOp P ops Q i (yfR P ops md Q S fuel listed i) a w) (k:wpOp P ops Q j (yfR P ops md Q S fuel listed j) a w):wpAnyH P md ops Q S (fuel + 1) listed a w :=
 wpAnyH_all hr (by simp) fun l hl=>by
  rcases je6.1 hl with rfl | hl
  ·exact h
  ·obtain rfl:l = j:=by simpa using hl
   exact k
theorem yf6 {i:Nat} {oi:Oper} {v:Value} {fuel:Nat} {listed:Array Bool} {a:Act} {w:World} (d:Option Tmp) (hi:ops[i]? = some oi)
  (hs:Region.noSelect ops = true) (hf:Region.free md ops listed i = true) (hr:(Region.ready md ops listed).contains i = true)
  (hQ:∀ c a w,Q (.panic c) (a.put oi.dst v) w -> Q (.panic c) a w) (hd:oi.dst = d) (hy:YieldsIf P ops S oi v a) (hS:S w)
  (h:wpAnyH P md ops Q S fuel (listed.setIfInBounds i true) (a.put d v) w):wpAnyH P md ops Q S (fuel + 1) listed a w:=by
 subst hd;exact wpAnyH_take hi hs hf hr hQ hy hS h
theorem yal (d:Option Tmp) {i fuel:Nat} {listed:Array Bool} {oi:Oper} {a:Act} {w w':World} (hi:ops[i]? = some oi) (hw:jb6 oi (yielded ops a.tmps) = true) (v:Value) (hrun:(execOp a.eval oi).run P w = .ok (.value v) w') (hd:oi.dst = d) (hS:S w')
  (h:wpAnyH P md ops Q S fuel (listed.setIfInBounds i true) (a.put d v) w'):wpOp P ops Q i (yfR P ops md Q S fuel listed i) a w:=by
 subst hd;unfold wpOp;simp only [hi,hw,if_true];refine .inl ?_;unfold Oper.wp;rw [hrun];exact ⟨hS,h⟩
theorem ybe (d:Option Tmp) {i fuel:Nat} {listed:Array Bool} {oi:Oper} {a:Act} {w:World} (hi:ops[i]? = some oi) (hw:jb6 oi (yielded ops a.tmps) = true) (f:FuncId) (args:Array Value) (hrun:(execOp a.eval oi).run P w = .ok (.enter f args) w) (hd:oi.dst = d)
  (h:Calls P f args w fun e w'=>∃ v,e = .returned v /\ S w' /\ wpAnyH P md ops Q S fuel (listed.setIfInBounds i true) (a.put d v) w'):wpOp P ops Q i (yfR P ops md Q S fuel listed i) a w:=by
 subst hd;unfold wpOp;simp only [hi,hw,if_true];refine .inl ?_;unfold Oper.wp;rw [hrun];refine h.mono fun e w' he=>?_;obtain ⟨v,rfl,hS,h⟩:=he;exact ⟨hS,h⟩
theorem ya4 {a:Act} {o:Oper} {W:World} (f:FuncId) (x y:Operand) (ts:Array TypeId) (ho:o.op = .call { callee:=.value (.func f),args:=#[x,y],argTypes:=ts }) (v u:Value) (hx:a.eval x = v) (hy:a.eval y = u)
  (hf:(callFunc f #[v,u]).run P W = .ok (.enter f #[v,u]) W):(execOp a.eval o).run P W = .ok (.enter f #[v,u]) W:=by
 have he:a.eval (.func f) = .func (.func f) #[] #[]:=rfl;unfold execOp;generalize a.eval = ev at *;simp only [ho];simp [resolve,invoke,go_sem,hx,hy,he,hf]
theorem yjh {a:Act} {o:Oper} {W:World} (t u:TypeId) (x y:Operand) (ho:o.op = .binOp .add t x y u) (p q:ByteArray) (hx:a.eval x = .string p) (hy:a.eval y = .string q) (hl:p.size + q.size <= 9223372036854775807) :
  (execOp a.eval o).run P W = .ok (.value (.string (p ++ q))) W:=by
 have h1:=run_string_add_sum (P:=P) W p q hl;unfold execOp;generalize a.eval = ev at *;simp only [ho];simp [go_sem,hx,hy,h1,binOp]
end
theorem zt {P:Program} {ops:Array Oper} {md:Region.Mode} {Q:Exit -> Act -> World -> Prop} {S:World -> Prop} {oi:Oper} {fuel:Nat} {listed:Array Bool} {a:Act} {w:World} (i:Nat) (v:Value) (d:Option Tmp) (hi:ops[i]? = some oi) (hy:∀ W,S W -> (execOp a.eval oi).run P W = .ok (.value v) W) (hS:S w)
 (h:wpAnyH P md ops Q S fuel (listed.setIfInBounds i true) (a.put d v) w) (hs:Region.noSelect ops = true:=by kernel_rfl) (hf:Region.free md ops listed i = true:=by kernel_rfl) (hr:(Region.ready md ops listed).contains i = true:=by kernel_rfl)
 (hQ:∀ c a w,Q (.panic c) (a.put oi.dst v) w -> Q (.panic c) a w:=by exact fun _ _ _ h=>h) (hd:oi.dst = d:=by rfl) (hw:jb6 oi (yielded ops a.tmps) = true:=by rfl):wpAnyH P md ops Q S (fuel + 1) listed a w :=
 yf6 (i:=i) (v:=v) d hi hs hf hr hQ hd (Or.inl ⟨hw,hy⟩) hS h
section
variable {P:Program}
theorem ya8 {w:World} {a:Addr} {v:Value} {t:TypeId} {d:TypeDesc} (ht:P.underlying t = some d) (hd:(match d with | .struct _ | .array _ _=>true | _=>false) = false) (hc:w.cell? a = some v):(loadVar t a).run P w = .ok v w:=by
 have hagg:(isAgg t).run P w = .ok false w:=by
  unfold isAgg;rw [Sem.run_bind,run_underlying ht w];cases d <;> simp_all
 simp [loadVar,Sem.run_bind,hagg,hc,go_sem]
theorem yaw {fn:Func} {p:Tmp} {t:TypeId} (h:fn.results = #[.cell p t]) (tmps:Array Value) (w:World) (a:Addr) (x:Value) (hp:tmps.getD p undef = .pointer (some a)) (hx:(loadVar t a).run P w = .ok x w):(results fn tmps).run P w = .ok x w:=by
 have hp':tmps[p]?.getD undef = .pointer (some a):=by simpa using hp
 simp [results,h,hp',asAddr,hx]
theorem ybZ {fn:Func} {p q:Tmp} {t u:TypeId} (h:fn.results = #[.cell p t,.cell q u]) (tmps:Array Value) (w:World) (a b:Addr) (x y:Value) (hp:tmps.getD p undef = .pointer (some a)) (hq:tmps.getD q undef = .pointer (some b))
  (hx:(loadVar t a).run P w = .ok x w) (hy:(loadVar u b).run P w = .ok y w):(results fn tmps).run P w = .ok (.tuple #[x,y]) w:=by
 have hp':tmps[p]?.getD undef = .pointer (some a):=by simpa using hp
 have hq':tmps[q]?.getD undef = .pointer (some b):=by simpa using hq
 simp [results,h,hp',hq',asAddr,hx,hy]
theorem yc3 {fn:Func} {p q r:Tmp} {t u s:TypeId} (h:fn.results = #[.cell p t,.cell q u,.cell r s]) (tmps:Array Value) (w:World) (a b c:Addr) (x y z:Value) (hp:tmps.getD p undef = .pointer (some a)) (hq:tmps.getD q undef = .pointer (some b)) (hr:tmps.getD r undef = .pointer (some c))
  (hx:(loadVar t a).run P w = .ok x w) (hy:(loadVar u b).run P w = .ok y w) (hz:(loadVar s c).run P w = .ok z w):(results fn tmps).run P w = .ok (.tuple #[x,y,z]) w:=by
 have hp':tmps[p]?.getD undef = .pointer (some a):=by simpa using hp
 have hq':tmps[q]?.getD undef = .pointer (some b):=by simpa using hq
 have hr':tmps[r]?.getD undef = .pointer (some c):=by simpa using hr
 simp [results,h,hp',hq',hr',asAddr,hx,hy,hz]
end
theorem box3 (w:World) (a b c:Value) (t u s:TypeId):Boxed (((w.alloc (.cells #[a] t)).alloc (.cells #[b] u)).alloc (.cells #[c] s)) w.heap.size t a /\ Boxed (((w.alloc (.cells #[a] t)).alloc (.cells #[b] u)).alloc (.cells #[c] s)) (w.heap.size + 1) u b /\
  Boxed (((w.alloc (.cells #[a] t)).alloc (.cells #[b] u)).alloc (.cells #[c] s)) (w.heap.size + 1 + 1) s c /\ Below w.heap.size w (((w.alloc (.cells #[a] t)).alloc (.cells #[b] u)).alloc (.cells #[c] s)) /\ (((w.alloc (.cells #[a] t)).alloc (.cells #[b] u)).alloc (.cells #[c] s)).heap.size = w.heap.size + 3:=by
 have h2:=(Boxed.new (w.alloc (.cells #[a] t)) u b).alloc (.cells #[c] s);have h3:=Boxed.new ((w.alloc (.cells #[a] t)).alloc (.cells #[b] u)) s c;rw [jsa] at h2;rw [jsa,jsa] at h3;exact ⟨((Boxed.new w t a).alloc _).alloc _,h2,h3,(((jc5 _ w).alloc (jle _) _).alloc (by simp) _).alloc (by simp;omega) _,by simp⟩
theorem box4 (w:World) (a b c d:Value) (t u s r:TypeId):Boxed ((((w.alloc (.cells #[a] t)).alloc (.cells #[b] u)).alloc (.cells #[c] s)).alloc (.cells #[d] r)) w.heap.size t a /\ Boxed ((((w.alloc (.cells #[a] t)).alloc (.cells #[b] u)).alloc (.cells #[c] s)).alloc (.cells #[d] r)) (w.heap.size + 1) u b /\
  Boxed ((((w.alloc (.cells #[a] t)).alloc (.cells #[b] u)).alloc (.cells #[c] s)).alloc (.cells #[d] r)) (w.heap.size + 1 + 1) s c /\ Boxed ((((w.alloc (.cells #[a] t)).alloc (.cells #[b] u)).alloc (.cells #[c] s)).alloc (.cells #[d] r)) (w.heap.size + 1 + 1 + 1) r d /\
  Below w.heap.size w ((((w.alloc (.cells #[a] t)).alloc (.cells #[b] u)).alloc (.cells #[c] s)).alloc (.cells #[d] r)) /\ ((((w.alloc (.cells #[a] t)).alloc (.cells #[b] u)).alloc (.cells #[c] s)).alloc (.cells #[d] r)).heap.size = w.heap.size + 4:=by
 obtain ⟨h1,h2,h3,h4,h5⟩:=box3 w a b c t u s;have h6:=Boxed.new (((w.alloc (.cells #[a] t)).alloc (.cells #[b] u)).alloc (.cells #[c] s)) r d;rw [h5] at h6;exact ⟨h1.alloc _,h2.alloc _,h3.alloc _,h6,h4.alloc (by omega) _,by simp [h5]⟩
theorem yap {a w:World} {row:Option Nat} (h:a.grownBy w row) {p:Addr} (hp:a.heap.size <= p.block) (u:Value):a.grownBy (w.setCell p u) row :=
 ⟨h.os,h.tape,h.output,by simpa [jd5] using h.size,fun i hi hne=>(jhs w p u i (by omega)).trans (h.block i hi hne)⟩
theorem yab {a w w':World} {row:Option Nat} (h:a.grownBy w row) {r:Option Nat} (hg:w.grownBy w' r) (hr:∀ k,r = some k -> row = some k \/ a.heap.size <= k):a.grownBy w' row :=
 ⟨hg.os.trans h.os,hg.tape.trans h.tape,hg.output.trans h.output,jlt h.size hg.size,fun k hk hne =>
  (hg.block k (jc4 hk h.size) (fun e=>by rcases hr k e.symm with e2 | e2;exact hne e2.symm;omega)).trans (h.block k hk hne)⟩
def ybL (l:List UInt8):Array Value:=(l.map fun b=>Value.int .u8 (b.toNat:Int)).toArray
theorem ycn {w:World} {g:Nat} {t:TypeId} {l:List UInt8} (h:Blk w g t (ybL l)) (i:Nat) (hi:i < l.length):w.cell? ⟨g,i,none⟩ = some (.int .u8 ((l.getD i 0).toNat:Int)):=by
 rw [Blk.cell h i];unfold ybL;simp only [jta,jgm,je hi,jg];rfl
theorem yea (l:List UInt8) (i:Nat) (x:UInt8):(ybL l).setIfInBounds i (.int .u8 (x.toNat:Int)) = ybL (l.set i x):=by
 unfold ybL;rw [List.map_set]
 simp
theorem yiT (m:Nat) (hm:m <= 1000000) (w:World):(Instr.makeSlice 43 (.int .i64 (m:Int)) (.int .i64 (m:Int))).run jq w =
  .ok (.slice (some ⟨w.heap.size,0,none⟩) m m) (w.alloc (.cells (ybL (jc1 m 0)) 5)):=by
 have hs:(jq.info? 5).isSome = true:=by kernel_rfl
 obtain ⟨i,hi⟩:=Option.isSome_iff_exists.1 hs;have hb:(jq.info? 5).map (·.bytes) = some 1:=by kernel_rfl
 have hsz:(jq.info? 5).map (·.size) = some 1:=by kernel_rfl
 have hz:(jq.info? 5).bind (·.zero) = some (.int .u8 0):=by kernel_rfl
 rw [hi] at hb hsz hz;simp only [Option.map_some,ja1.injEq,Option.bind_some] at hb hsz hz;have hmk:=ybY (P:=jq) 43 5 i _ (by kernel_rfl) hi hz .i64 .i64 m m (jle _) (by rw [hb];omega) (by omega) w;rw [hmk,hsz];congr 3;refine Array.ext_getElem? fun j=>?_;by_cases hj:j < m
 ·simp [madeCells,ybL,hj,Value.cells,Nat.mod_one]
 ·rw [jc8 (by simp [madeCells];omega),jc8 (by simp [ybL];omega)]
def u8s (l:List UInt8):List Value:=l.map fun b=>Value.int .u8 (b.toNat:Int)
theorem yfJ:∃ i z,jq.info? 5 = some i /\ i.zero = some z /\ i.size = 1 /\ i.bytes = 1 /\ z.cells.size = 1:=by
 have hs:(jq.info? 5).isSome = true:=by kernel_rfl
 obtain ⟨i,hi⟩:=Option.isSome_iff_exists.1 hs;have hb:(jq.info? 5).map (·.bytes) = some 1:=by kernel_rfl
 have hsz:(jq.info? 5).map (·.size) = some 1:=by kernel_rfl
 have hz:(jq.info? 5).bind (·.zero) = some (.int .u8 0):=by kernel_rfl
 rw [hi] at hb hsz hz;simp only [Option.map_some,ja1.injEq,Option.bind_some] at hb hsz hz;exact ⟨i,_,hi,hz,hsz,hb,rfl⟩
theorem yhb (w:World) (b:UInt8):(w.alloc (.cells #[.int .u8 (b.toNat:Int)] 5)).ownsRow w.heap.size 5 1 (.slice (some ⟨w.heap.size,0,none⟩) 1 1) 1 (u8s [b]) :=
 ⟨rfl,.inr ⟨w.heap.size,1,_,rfl,jle _,heap_alloc_new w _,jle _,by simp only [maxLen];omega,rfl,rfl⟩⟩
theorem yek {w:World} {base:Nat} {e:TypeId} {size:Nat} {v:Value} {k:Nat} {xs:List Value} (h:w.ownsRow base e size v k xs) {g:Nat} (hg:v.ownBlock = some g):base <= g:=by
 rcases h.2 with ⟨rfl,_⟩ | ⟨g',cap,cur,rfl,hb,_⟩
 ·cases hg
 ·cases hg;exact hb
theorem ynv {w:World} {base g cap n:Nat} {e:TypeId} {l:List UInt8} (h:w.ownsRow base e 1 (.slice (some ⟨g,0,none⟩) n cap) n (u8s l)) (j:Nat) (hj:j < n):w.cell? ⟨g,j,none⟩ = some (.int .u8 ((l.getD j 0).toNat:Int)):=by
 obtain ⟨hl,h⟩:=h;rcases h with ⟨h,_⟩ | ⟨g',cap',cur,hv,hb,hg,hn,hc,hs,ht⟩
 ·cases h
 ·cases hv;have hlen:l.length = n:=by simpa [u8s] using hl
  rw [cell_of_row w g j cur e (0,0) hg];have h2:(cur.toList.take (n * 1))[j]? = (u8s l)[j]?:=by rw [ht]
  rw [jc3 (by omega)] at h2;rw [<- Array.getElem?_toList,h2];simp [u8s,jg,je (show j < l.length by omega)]
theorem yll (k:Nat) (h:k < 64):IntKind.u64.wrap (k:Int) = (k:Int):=by
 simp [IntKind.wrap,IntKind.bits,IntKind.signed];omega
theorem ydb (s:ByteArray) (i:Nat) (c:UInt8) (h:s.data.toList[i]? = some c) (w:World):(Instr.index 9 (.string s) (.int .i64 (i:Int))).run jq w = .ok (.int .u8 (c.toNat:Int)) w:=by
 have hi:i < s.data.size:=by
  obtain ⟨hi,_⟩:=jc9.1 h;simpa using hi
 have hc:s.data[i] = c:=by
  rw [je (by simpa using hi)] at h;injection h with h
 have hs:i < s.size:=hi;have:=run_index_string (P:=jq) (w:=w) 9 s .i64 (i:Int) (by kernel_rfl);rw [this,dif_pos ⟨by omega,by omega⟩];simp only [jnc];rw [<- hc];rfl
theorem ycg (a b:ByteArray):(a ++ b).data.toList = a.data.toList ++ b.data.toList:=by simp
theorem yar (s:ByteArray):s.data.toList.length = s.size:=jb0
theorem yc8 {w:World} {base n:Nat} {v:Value} {l:List UInt8} (h:w.ownsRow base 5 1 v n (u8s l)):(convert 43 9 v).run jq w = .ok (.string ⟨l.toArray⟩) w:=by
 have hl:l.length = n:=by have:=h.1;simpa [u8s] using this
 rcases h.2 with ⟨rfl,h0⟩ | ⟨g,cap,cur,rfl,hb,hg,hn,hc,hs,ht⟩
 ·subst h0;obtain rfl:l = []:=jb7 hl;rw [run_convert_bytes_string w 43 9 5 none 0 0 (by kernel_rfl) (by kernel_rfl) (by kernel_rfl)];simp [Conv.bytesToString];rfl
 ·have:=run_convert_bytes_back (P:=jq) w 43 9 5 ⟨g,0,none⟩ cap l (by kernel_rfl) (by kernel_rfl) (by kernel_rfl) (fun j hj=>by
   have:=ynv h j (by omega);rw [Addr.add_mid,jd6,this,jg,je hj];rfl)
  rw [hl] at this;exact this
theorem yck {w:World} {a:Addr} {u:Value} (h:w.cell? a = some u):a = ⟨a.block,a.off,none⟩:=by
 obtain ⟨b,o,s⟩:=a;cases s with
 | none=>rfl
 | some x=>exfalso;unfold World.cell? at h;split at h <;> simp at h
theorem Reads.ints {w:World} {B n k:Nat} {A:Option Addr} {kd:IntKind} {xs:List Int} (h:Reads w B 1 A n (xs.map (Value.int kd))) (hk:k < n) :
  ∃ b off,A = some ⟨b,off,none⟩ /\ b < B /\ ∀ j,j < n -> w.cell? ⟨b,off + j,none⟩ = some (.int kd (xs.getD j 0)):=by
 have hl:=h.1;simp at hl
 have key:∀ j,j < n -> (xs.map (Value.int kd))[j]? = some (.int kd (xs.getD j 0)):=by
  intro j hj;rw [jgm,je (by omega),jg,je (by omega)];rfl
 obtain ⟨ad,rfl,hb,hc⟩:=h.2 (by omega);have h0:=hc 0 _ (key 0 (by omega));have e:ad = ⟨ad.block,ad.off,none⟩:=yck (a:=ad) (by simpa [Addr.add] using h0);refine ⟨ad.block,ad.off,by rw [<- e],hb,fun j hj=>?_⟩;have:=hc j _ (key j hj);rw [e] at this;unfold Addr.add at this;by_cases hj0:j = 0
 ·subst hj0;simpa using this
 ·simpa [hj0] using this
section
variable {P:Program} {ops:Array Oper} {Q:Act -> Prop} {a:Act} {o:Oper} {rest:List Oper} {W1:World}
theorem ybw (v:Value) (f:FuncId) (args:Array Value) (hw:jb6 o (yielded ops a.tmps) = true) (hrun:∀ V,(execOp a.eval o).run P V = .ok (.enter f args) V)
  (hc:∀ V,Below W1.heap.size W1 V -> Calls P f args V fun e w'=>e = .returned v /\ V.grownBy w' none) (hk:wpQuiet P ops (fun V=>Below W1.heap.size W1 V) Q rest (a.put o.dst v)):wpQuiet P ops (fun V=>Below W1.heap.size W1 V) Q (o :: rest) a :=
 ybE hw v f args (fun V _=>hrun V) (fun V hV=>(hc V hV).mono fun e w' ⟨he,hgg⟩=>⟨he,ybd (yab (yae hV) hgg (by simp))⟩) hk
end
section
variable {P:Program} {ops:Array Oper} {C:World -> Prop} {Q:Act -> Prop} {a:Act} {o:Oper} {rest:List Oper}
end
open Go.RowKit
theorem ybM {a b:ByteArray} (h:a.data.toList = b.data.toList):a = b:=by
 obtain ⟨a⟩:=a;obtain ⟨b⟩:=b;congr 1;exact Array.toList_inj.1 h
theorem ygo {a b:ByteArray} (h:a ≠ b):(a.toList == b.toList) = false:=by
 rw [beq_eq_false_iff_ne];intro e;apply h;exact ybM (by rw [<- Lib.toList_data,<- Lib.toList_data,e])
open Go.RowKit
def yc0:Nat -> Nat -> List UInt8
 | 0,_=>[]
 | k + 1,n=>yc0 k (n / 256) ++ [UInt8.ofNat (n % 256)]
def yd0 (c:UInt8) (l:List UInt8):List UInt8:=l.dropWhile (· == c)
abbrev ycZ (l:List UInt8):List UInt8:=yd0 0 l
def beN (n:Nat):List UInt8:=ycZ (yc0 32 n)
theorem ycP (k n:Nat):(yc0 k n).length = k:=by
 induction k generalizing n with
 | zero=>rfl
 | succ k ih=>simp [yc0,ih]
theorem ymR (k n i:Nat) (h:i < k):(yc0 k n)[i]? = some (UInt8.ofNat (n / 256 ^ (k - 1 - i) % 256)):=by
 induction k generalizing n with
 | zero=>omega
 | succ k ih =>
  unfold yc0;by_cases hi:i < k
  ·rw [jal (by rw [ycP];exact hi),ih _ hi,Nat.div_div_eq_div_mul,show k + 1 - 1 - i = (k - 1 - i) + 1 by omega,Nat.pow_succ,jd2]
  ·rw [jar (by rw [ycP];omega),ycP,show i - k = 0 by omega,show k + 1 - 1 - i = 0 by omega]
   simp
theorem ygl (c:UInt8) (l:List UInt8) (x:UInt8):yd0 c (l ++ [x]) = if yd0 c l = [] then (if x == c then [] else [x]) else yd0 c l ++ [x]:=by
 unfold yd0
 induction l with
 | nil=>by_cases h:(x == c) = true <;> simp [List.dropWhile,h]
 | cons a l ih =>
  by_cases h:(a == c) = true
  ·simp only [List.cons_append,List.dropWhile_cons,h,if_true];exact ih
  ·simp [List.dropWhile_cons,h]
theorem ynd (k n:Nat) (h:n < 256 ^ k):ycZ (yc0 (k + 1) n) = ycZ (yc0 k n):=by
 induction k generalizing n with
 | zero =>
  obtain rfl:n = 0:=by simpa using h
  decide
 | succ k ih =>
  rw [show ycZ (yc0 (k + 1 + 1) n) = yd0 0 (yc0 (k + 1) (n / 256) ++ [UInt8.ofNat (n % 256)]) from rfl,show ycZ (yc0 (k + 1) n) = yd0 0 (yc0 k (n / 256) ++ [UInt8.ofNat (n % 256)]) from rfl];rw [ygl,ygl];have:=ih (n / 256) (by rw [Nat.pow_succ] at h;exact Nat.div_lt_of_lt_mul (by rw [jd2];exact h));have e:yd0 0 (yc0 (k + 1) (n / 256)) = yd0 0 (yc0 k (n / 256)):=this;rw [e]
theorem yj0 (k n:Nat) (hk:k <= 32) (h:n < 256 ^ k):beN n = ycZ (yc0 k n):=by
 obtain ⟨d,hd⟩:∃ d,32 = k + d:=⟨32 - k,by omega⟩;unfold beN;rw [hd];clear hd hk
 induction d with
 | zero=>rfl
 | succ d ih =>
  rw [<- Nat.add_assoc,ynd (k + d) n (jc4 h (Nat.pow_le_pow_right (by omega) (by omega)))];exact ih
def ycx (a0 a1 a2 a3:Nat):Nat:=a0 + a1 * 18446744073709551616 + a2 * 340282366920938463463374607431768211456 + a3 * 6277101735386680763835789423207666416102355444464034512896
def yeN (a:List Nat) (j:Nat):UInt8:=UInt8.ofNat (a.getD (j / 8) 0 / 2 ^ (j % 8 * 8) % 256)
def fixL (a:List Nat):List UInt8:=(List.range 32).map fun i=>yeN a (31 - i)
theorem yhm (x R r:Nat) (hr:r < 8):(x + 18446744073709551616 * R) / 256 ^ r % 256 = x / 2 ^ (r * 8) % 256:=by
 have h:r = 0 \/ r = 1 \/ r = 2 \/ r = 3 \/ r = 4 \/ r = 5 \/ r = 6 \/ r = 7:=by omega
 rcases h with rfl | rfl | rfl | rfl | rfl | rfl | rfl | rfl <;> simp only [Nat.reducePow,Nat.reduceMul] <;> omega
theorem yke (a0 a1 a2 a3 j:Nat) (h0:a0 < 18446744073709551616) (h1:a1 < 18446744073709551616) (h2:a2 < 18446744073709551616) (h3:a3 < 18446744073709551616) (hj:j < 32) :
  ycx a0 a1 a2 a3 / 256 ^ j % 256 = [a0,a1,a2,a3].getD (j / 8) 0 / 2 ^ (j % 8 * 8) % 256:=by
 have e:(256:Nat) ^ j = 256 ^ (8 * (j / 8)) * 256 ^ (j % 8):=by rw [<- Nat.pow_add];congr 1;omega
 rw [e,<- Nat.div_div_eq_div_mul];have hq:j / 8 = 0 \/ j / 8 = 1 \/ j / 8 = 2 \/ j / 8 = 3:=by omega
 have hr:j % 8 < 8:=by omega
 generalize j % 8 = r at *;unfold ycx;rcases hq with hq | hq | hq | hq <;> rw [hq]
 ·simp only [Nat.mul_zero,Nat.pow_zero,Nat.div_one];show _ = a0 / 2 ^ (r * 8) % 256;rw [<- yhm a0 (a1 + a2 * 18446744073709551616 + a3 * 340282366920938463463374607431768211456) r hr];congr 2;omega
 ·rw [show (a0 + a1 * 18446744073709551616 + a2 * 340282366920938463463374607431768211456 + a3 * 6277101735386680763835789423207666416102355444464034512896) / 256 ^ (8 * 1) = a1 + 18446744073709551616 * (a2 + a3 * 18446744073709551616) by simp only [Nat.reduceMul,Nat.reducePow];omega,yhm _ _ r hr];rfl
 ·rw [show (a0 + a1 * 18446744073709551616 + a2 * 340282366920938463463374607431768211456 + a3 * 6277101735386680763835789423207666416102355444464034512896) / 256 ^ (8 * 2) = a2 + 18446744073709551616 * a3 by simp only [Nat.reduceMul,Nat.reducePow];omega,yhm _ _ r hr];rfl
 ·rw [show (a0 + a1 * 18446744073709551616 + a2 * 340282366920938463463374607431768211456 + a3 * 6277101735386680763835789423207666416102355444464034512896) / 256 ^ (8 * 3) = a3 + 18446744073709551616 * 0 by simp only [Nat.reduceMul,Nat.reducePow];omega,yhm _ _ r hr];rfl
theorem yjc (a0 a1 a2 a3:Nat) (h0:a0 < 18446744073709551616) (h1:a1 < 18446744073709551616) (h2:a2 < 18446744073709551616) (h3:a3 < 18446744073709551616):fixL [a0,a1,a2,a3] = yc0 32 (ycx a0 a1 a2 a3):=by
 apply List.ext_getElem?;intro i;by_cases hi:i < 32
 ·rw [ymR _ _ _ hi,yke a0 a1 a2 a3 _ h0 h1 h2 h3 (by omega)];unfold fixL;rw [jgm,List.getElem?_range hi];rfl
 ·rw [jc6 (by simp [fixL];omega),jc6 (by rw [ycP];omega)]
def outF (a:List Nat) (m:Nat):List UInt8:=(List.range 32).map fun i=>if 31 - i < m then yeN a (31 - i) else 0
theorem ynw (a:List Nat) (m:Nat):(outF a m).length = 32:=by simp [outF]
theorem ylQ (a:List Nat):outF a 0 = jc1 32 0:=by
 unfold outF
 simp;rfl
theorem ynx (a:List Nat):outF a 32 = fixL a:=by
 unfold outF fixL;apply List.map_congr_left;intro i hi;rw [if_pos (by omega)]
theorem ylR (a:List Nat) (m:Nat) (hm:m < 32):outF a (m + 1) = (outF a m).set (31 - m) (yeN a m):=by
 unfold outF;apply List.ext_getElem?;intro i;rw [List.getElem?_set];by_cases hi:i < 32
 ·rw [jgm,List.getElem?_range hi];by_cases h:31 - m = i
  ·rw [if_pos h,if_pos (by simp;omega)];simp only [Option.map_some];rw [if_pos (by omega),show 31 - i = m by omega]
  ·rw [if_neg h,jgm,List.getElem?_range hi];simp only [Option.map_some];congr 1;by_cases h2:31 - i < m
   ·rw [if_pos h2,if_pos (by omega)]
   ·rw [if_neg h2,if_neg (by omega)]
 ·rw [jc6 (by simp;omega)];split
  ·rw [if_neg (by simp;omega)]
  ·rw [jc6 (by simp;omega)]
theorem ycq (a:List Nat):(fixL a).length = 32:=by simp [fixL]
theorem ygT (c:UInt8) (l:List UInt8):(yd0 c l).length <= l.length:=List.Sublist.length_le (List.dropWhile_sublist _)
theorem ymP (n:Nat):(beN n).length <= 32:=by have:=ygT 0 (yc0 32 n);rw [ycP] at this;exact this
theorem yey (n:Nat) (h:n < 18446744073709551616):(beN n).length <= 8:=by
 rw [yj0 8 n (by omega) (by simpa using h)];have:=ygT 0 (yc0 8 n);rw [ycP] at this;exact this
open Go.RowKit
def beV (l:List UInt8):Nat:=l.foldl (fun n b=>n * 256 + b.toNat) 0
theorem yex (l:List UInt8) (b:UInt8):beV (l ++ [b]) = beV l * 256 + b.toNat:=by simp [beV]
theorem ymO (k n:Nat) (h:n < 256 ^ k):beV (yc0 k n) = n:=by
 induction k generalizing n with
 | zero=>simp at h;subst h;rfl
 | succ k ih =>
  rw [yc0,yex,ih (n / 256) (by rw [Nat.pow_succ] at h;exact Nat.div_lt_of_lt_mul (by rw [jd2];exact h)),UInt8.toNat_ofNat'];omega
theorem yka (l:List UInt8):beV (0 :: l) = beV l:=rfl
theorem yoh (l:List UInt8):beV (ycZ l) = beV l:=by
 induction l with
 | nil=>rfl
 | cons a l ih =>
  show beV (List.dropWhile _ _) = _;by_cases h:a = 0
  ·subst h;rw [List.dropWhile_cons_of_pos (by rfl),yka];exact ih
  ·rw [List.dropWhile_cons_of_neg (by simpa using h)]
theorem yht (n:Nat) (h:n < 256 ^ 32):beV (beN n) = n:=by
 unfold beN;rw [yoh,ymO 32 n h]
theorem yoX {n:Nat} (h:0 < n) (hn:n <= 1000000000):1 <= (beN n).length:=by
 rcases Nat.eq_zero_or_pos (beN n).length with h0 | h0
 ·have e:=jb7 h0;have h1:(1000000000:Nat) < 256 ^ 32:=by decide
  have:=yht n (by omega);rw [e] at this;have:(0:Nat) = n:=this;omega
 ·exact h0
theorem ymN (l:List UInt8):beV l < 256 ^ l.length:=by
 have key:∀ r:List UInt8,beV r.reverse < 256 ^ r.reverse.length:=by
  intro r
  induction r with
  | nil=>simp [beV]
  | cons b r ih =>
   rw [List.reverse_cons,yex,jla,Nat.pow_add];have:=b.toNat_lt;simp at *;omega
 have:=key l.reverse
 rwa [List.reverse_reverse] at this
theorem ym3 (t:List UInt8):yc0 t.length (beV t) = t:=by
 have key:∀ r:List UInt8,yc0 r.reverse.length (beV r.reverse) = r.reverse:=by
  intro r
  induction r with
  | nil=>rfl
  | cons b r ih =>
   have hb:=b.toNat_lt;rw [List.reverse_cons,yex,jla,List.length_singleton,yc0,show (beV r.reverse * 256 + b.toNat) / 256 = beV r.reverse by omega,show (beV r.reverse * 256 + b.toNat) % 256 = b.toNat by omega,ih,UInt8.ofNat_toNat]
 have:=key t.reverse
 rwa [List.reverse_reverse] at this
theorem ymQ (t:List UInt8) (h:t.length <= 32) (h0:t.getD 0 0 ≠ 0):beN (beV t) = t:=by
 rw [yj0 t.length _ h (ymN t),ym3];cases t with
 | nil=>rfl
 | cons a t=>exact List.dropWhile_cons_of_neg (by simpa using h0)
theorem yi1 (n:Nat):beN n = [] \/ (beN n).getD 0 0 ≠ 0:=by
 have key:∀ l:List UInt8,ycZ l = [] \/ (ycZ l).getD 0 0 ≠ 0:=by
  intro l
  induction l with
  | nil=>exact .inl rfl
  | cons a l ih =>
   by_cases h:a = 0
   ·subst h;rw [show ycZ (0 :: l) = ycZ l from List.dropWhile_cons_of_pos (by rfl)];exact ih
   ·rw [show ycZ (a :: l) = a :: l from List.dropWhile_cons_of_neg (by simpa using h)];exact .inr h
 exact key _
theorem yoj (n:Nat) (h:n < 16777216):(beN n).length <= 3:=by
 rw [yj0 3 n (by omega) (by simpa using h)];have:=ygT 0 (yc0 3 n);rw [ycP] at this;exact this
open Go.RowKit
def wp (N q:Nat):Nat:=N / 2 ^ (64 * q) % 2 ^ 64
theorem yee (N q:Nat):wp N q < 18446744073709551616:=Nat.mod_lt _ (by decide)
theorem ydU (q:Nat):wp 0 q = 0:=by unfold wp;simp
theorem ypi (N m c q:Nat) (hN:N < 2 ^ (8 * m)) (hc:c < 256):wp (N + c * 2 ^ (8 * m)) q = if q = m / 8 then wp N q + c * 2 ^ (m % 8 * 8) else wp N q:=by
 unfold wp;have hp:∀ k,0 < 2 ^ k:=fun k=>Nat.pow_pos (by omega);by_cases h:q = m / 8
 ·rw [if_pos h];have e:2 ^ (8 * m) = 2 ^ (64 * q) * 2 ^ (m % 8 * 8):=by rw [<- Nat.pow_add];congr 1;omega
  rw [e] at hN ⊢;have hx:N / 2 ^ (64 * q) < 2 ^ (m % 8 * 8):=Nat.div_lt_of_lt_mul hN
  have hle:2 ^ (m % 8 * 8) * 256 <= 2 ^ 64:=by
   rw [show (256:Nat) = 2 ^ 8 from rfl,<- Nat.pow_add];exact Nat.pow_le_pow_right (by omega) (by omega)
  rw [show N + c * (2 ^ (64 * q) * 2 ^ (m % 8 * 8)) = N + 2 ^ (64 * q) * (c * 2 ^ (m % 8 * 8)) by rw [Nat.mul_left_comm],Nat.add_mul_div_left _ _ (hp _)];generalize N / 2 ^ (64 * q) = x at *;generalize hP:2 ^ (m % 8 * 8) = P at *
  have hcP:c * P + P <= P * 256:=by
   have:(c + 1) * P <= 256 * P:=Nat.mul_le_mul_right P (by omega);rw [Nat.add_mul] at this;omega
  rw [Nat.mod_eq_of_lt (by omega),Nat.mod_eq_of_lt (by omega)]
 ·rw [if_neg h];by_cases h2:q < m / 8
  ·have e:2 ^ (8 * m) = 2 ^ (64 * q) * (2 ^ 64 * 2 ^ (8 * m - 64 * q - 64)):=by rw [<- Nat.pow_add,<- Nat.pow_add];congr 1;omega
   rw [e,show N + c * (2 ^ (64 * q) * (2 ^ 64 * 2 ^ (8 * m - 64 * q - 64))) = N + 2 ^ (64 * q) * (2 ^ 64 * (c * 2 ^ (8 * m - 64 * q - 64))) by
    rw [Nat.mul_left_comm c,Nat.mul_left_comm c],Nat.add_mul_div_left _ _ (hp _),Nat.add_mul_mod_self_left]
  ·have hle:2 ^ (8 * m) * 256 <= 2 ^ (64 * q):=by
    rw [show (256:Nat) = 2 ^ 8 from rfl,<- Nat.pow_add];exact Nat.pow_le_pow_right (by omega) (by omega)
   generalize 2 ^ (8 * m) = P at *
   have hcP:c * P + P <= P * 256:=by
    have:(c + 1) * P <= 256 * P:=Nat.mul_le_mul_right P (by omega);rw [Nat.add_mul] at this;omega
   rw [Nat.div_eq_of_lt (by omega),Nat.div_eq_of_lt (by omega)]
theorem ypg (x c s:Nat) (h:x < 2 ^ s):x ||| c * 2 ^ s = x + c * 2 ^ s:=by
 rw [Nat.or_comm,<- Nat.shiftLeft_eq,<- Nat.shiftLeft_add_eq_or_of_lt h,Nat.add_comm]
theorem ylm (N m:Nat) (hN:N < 2 ^ (8 * m)):wp N (m / 8) < 2 ^ (m % 8 * 8):=by
 unfold wp;have e:2 ^ (8 * m) = 2 ^ (64 * (m / 8)) * 2 ^ (m % 8 * 8):=by rw [<- Nat.pow_add];congr 1;omega
 rw [e] at hN;exact Nat.lt_of_le_of_lt (Nat.mod_le _ _) (Nat.div_lt_of_lt_mul hN)
def lowN (l:List UInt8) (m:Nat):Nat:=beV (l.drop (l.length - m))
theorem ymd (l:List UInt8):lowN l 0 = 0:=by unfold lowN;rw [Nat.sub_zero,List.drop_length];rfl
theorem yiU (l:List UInt8) (m:Nat):lowN l m < 2 ^ (8 * m):=by
 unfold lowN;have h:=ymN (l.drop (l.length - m));rw [show (256:Nat) = 2 ^ 8 from rfl,<- Nat.pow_mul] at h;refine jc4 h (Nat.pow_le_pow_right (by omega) ?_);rw [List.length_drop];omega
theorem yoi (b:UInt8) (l:List UInt8):beV (b :: l) = b.toNat * 256 ^ l.length + beV l:=by
 have key:∀ r:List UInt8,beV (b :: r.reverse) = b.toNat * 256 ^ r.reverse.length + beV r.reverse:=by
  intro r
  induction r with
  | nil=>simp [beV]
  | cons c r ih =>
   rw [List.reverse_cons,<- List.cons_append,yex,ih,yex,jla,List.length_singleton,Nat.pow_succ,Nat.add_mul,<- Nat.mul_assoc,Nat.add_assoc]
 have:=key l.reverse
 rwa [List.reverse_reverse] at this
theorem yme (l:List UInt8) (m:Nat) (h:m < l.length):lowN l (m + 1) = lowN l m + (l.getD (l.length - 1 - m) 0).toNat * 2 ^ (8 * m):=by
 unfold lowN;have hi:l.length - (m + 1) < l.length:=by omega
 rw [jdc hi,yoi,List.length_drop,show l.length - (m + 1) + 1 = l.length - m by omega,show l.length - (l.length - m) = m by omega,
  show l.length - 1 - m = l.length - (m + 1) by omega,jg,je hi,show (256:Nat) = 2 ^ 8 from rfl,<- Nat.pow_mul,Nat.add_comm]
 rfl
theorem yn3 (l:List UInt8):lowN l l.length = beV l:=by unfold lowN;rw [Nat.sub_self,List.drop_zero]
theorem yhZ (l:List UInt8) (m q:Nat) (h:m < l.length):wp (lowN l (m + 1)) q = if q = m / 8 then wp (lowN l m) q ||| (l.getD (l.length - 1 - m) 0).toNat * 2 ^ (m % 8 * 8) else wp (lowN l m) q:=by
 rw [yme l m h,ypi _ _ _ _ (yiU l m) (l.getD (l.length - 1 - m) 0).toNat_lt];split
 ·rename_i e
  rw [ypg _ _ _ (by rw [e];exact ylm _ _ (yiU l m))]
 ·rfl
def ybT (l:List UInt8):Int:=if 32 < l.length then 5 else if l.head? = some 0 then 8 else 0
def ydR (l:List UInt8) (q:Nat):Nat:=if ybT l = 0 then wp (beV l) q else 0
theorem yoV (k:Nat) (l:List UInt8):beV (jc1 k 0 ++ l) = beV l:=by
 induction k with
 | zero=>rfl
 | succ k ih=>rw [List.replicate_succ,List.cons_append,yka,ih]
theorem yo3 (a0 a1 a2 a3:Nat) (h0:a0 < 18446744073709551616) (h1:a1 < 18446744073709551616) (h2:a2 < 18446744073709551616) (h3:a3 < 18446744073709551616) :
  wp (ycx a0 a1 a2 a3) 0 = a0 /\ wp (ycx a0 a1 a2 a3) 1 = a1 /\ wp (ycx a0 a1 a2 a3) 2 = a2 /\ wp (ycx a0 a1 a2 a3) 3 = a3:=by
 unfold wp ycx;simp only [Nat.reducePow,Nat.reduceMul];omega
theorem yo4 (a0 a1 a2 a3:Nat) (h0:a0 < 18446744073709551616) (h1:a1 < 18446744073709551616) (h2:a2 < 18446744073709551616) (h3:a3 < 18446744073709551616):ycx a0 a1 a2 a3 < 256 ^ 32:=by
 unfold ycx;simp only [Nat.reducePow];omega
theorem ylO (n:Nat) (h:n < 256 ^ 32):ybT (beN n) = 0 /\ ∀ q,ydR (beN n) q = wp n q:=by
 have hE:ybT (beN n) = 0:=by
  unfold ybT;rw [if_neg (by have:=ymP n;omega),if_neg];rcases yi1 n with e | e
  ·rw [e];simp
  ·intro g;cases hq:beN n with
   | nil=>rw [hq] at g;cases g
   | cons a l=>rw [hq] at g e;injection g with g;exact e g
 exact ⟨hE,fun q=>by unfold ydR;rw [if_pos hE,yht n h]⟩
theorem yfc (N:Nat) (h:N < 256 ^ 32):ycx (wp N 0) (wp N 1) (wp N 2) (wp N 3) = N:=by
 unfold wp ycx;simp only [Nat.reducePow,Nat.reduceMul] at *;omega
theorem yl3 {α:Type} (xs:List α) (k:Nat) (d:α) (hk:k < xs.length):xs.take (k + 1) = xs.take k ++ [xs.getD k d]:=by
 rw [jtk hk,jg,je hk];rfl
theorem ydB {α:Type} {xs:List α} {k:Nat} (d:α) (hk:k < xs.length):xs[k]? = some (xs.getD k d):=by
 rw [jg,je hk];rfl
def valL (l:List UInt8):Nat:=l.foldl (fun n b=>n * 256 + b.toNat) 0
theorem yh4 (l:List UInt8) (b:UInt8):valL (l ++ [b]) = valL l * 256 + b.toNat:=by simp [valL]
theorem yo6 (l:List UInt8):valL l < 256 ^ l.length:=by
 have key:∀ r:List UInt8,valL r.reverse < 256 ^ r.reverse.length:=by
  intro r
  induction r with
  | nil=>simp [valL]
  | cons b r ih =>
   rw [List.reverse_cons,yh4,jla,Nat.pow_add];have:=b.toNat_lt;simp at *;omega
 have:=key l.reverse
 rwa [List.reverse_reverse] at this
theorem ypn (n:Nat) (b:UInt8):n * 256 ||| b.toNat = n * 256 + b.toNat:=by
 have:=b.toNat_lt;rw [show n * 256 = n <<< 8 by rw [Nat.shiftLeft_eq],Nat.shiftLeft_add_eq_or_of_lt (by omega)]
def lenB (l:List UInt8) (a m:Nat):Nat:=valL ((l.drop (a + 1)).take m)
def ybn (l:List UInt8) (a m:Nat):Int:=if 3 < m then 5 else if l.length < a + 1 + m then 3 else if (l.getD (a + 1) 0).toNat = 0 \/ lenB l a m < 56 then 8 else 0
theorem yf0 (l:List UInt8) (a m:Nat) (hm:m <= 3):lenB l a m <= 16777215:=by
 unfold lenB;have h1:=yo6 ((l.drop (a + 1)).take m);have h2:((l.drop (a + 1)).take m).length <= 3:=by rw [jd4];omega
 have h3:256 ^ ((l.drop (a + 1)).take m).length <= 256 ^ 3:=Nat.pow_le_pow_right (by omega) h2;have h4:(256:Nat) ^ 3 = 16777216:=rfl;omega
theorem ymg (l:List UInt8) (a k:Nat) (h:a + 1 + k < l.length):lenB l a (k + 1) = lenB l a k * 256 + (l.getD (a + 1 + k) 0).toNat:=by
 unfold lenB;rw [yl3 _ k 0 (by rw [List.length_drop];omega),yh4];congr 2;rw [jg,List.getElem?_drop,jg]
theorem ya3 {P:Program} {fn:Func} {p q:Tmp} {t:TypeId} (h:fn.results = #[.cell p t,.tmp q]) (tmps:Array Value) (w:World) (a:Addr) (x:Value) (hp:tmps.getD p undef = .pointer (some a))
  (hx:(loadVar t a).run P w = .ok x w):(results fn tmps).run P w = .ok (.tuple #[x,tmps.getD q undef]) w:=by
 have hp':tmps[p]?.getD undef = .pointer (some a):=by simpa using hp
 simp [results,h,hp',asAddr,hx]
theorem ybl {w:World} {g:Nat} {a b c:Value} (hg:Blk w g 188 #[a,b,c]):(loadVar 188 ⟨g,0,none⟩).run jq w = .ok (.agg #[a,b,c]) w :=
 run_loadVar_row w g 188 188 _ (0,0) _ hg Tryz.underlying188 rfl (by kernel_rfl)
theorem ykA (s:ByteArray) (a m:Nat) (ha:a < s.size) (hs:s.size <= 9223372036854775807) (hm:1 <= m) (hm8:m <= 8) (w:World) :
  Calls jq 173 #[.string s,.int .i64 (a:Int),.int .i64 (m:Int)] w fun e w'=>e = .returned (.tuple #[.agg #[.int .i64 (if ybn s.data.toList a m = 0 then ((a + 1 + m:Nat):Int) else 0),.int .i64 (if ybn s.data.toList a m = 0 then ((lenB s.data.toList a m:Nat):Int) else 0),.bool false],.int .i64 (ybn s.data.toList a m)]) /\ w.grownBy w' none:=by
 obtain ⟨l,hl⟩:∃ l,s.data.toList = l:=⟨_,rfl⟩;have hlz:l.length = s.size:=by rw [<- hl,yar]
 rw [hl];have HS:=jh hl;have HZ:=jh hlz;clear hl hlz;have hw0:=Blk.new w 188 #[.int .i64 0,.int .i64 0,.bool false];have hG0:w.grownBy (w.alloc (.cells #[.int .i64 0,.int .i64 0,.bool false] 188)) none:=yaa (jr _ _) _;by_cases h1:3 < m
 ·have hE:ybn l a m = 5:=by unfold ybn;rw [if_pos h1]
  rw [hE];have d1:decide ((3:Int) < (m:Int)) = true:=decide_eq_true (by omega);have d1':decide (3 < m) = true:=decide_eq_true h1;clear hE;go_enter Tryz.func173,Tryz.ntmps173
  go_wp2_with fail
  refine jbr (ya3 (fn:=Tryz.f173) rfl _ _ _ _ rfl (ybl hw0)) rfl ?_;exact ⟨by simp,hG0⟩
 have d1:decide ((3:Int) < (m:Int)) = false:=decide_eq_false (by omega);have d1':decide (3 < m) = false:=decide_eq_false h1;have v1:IntKind.i64.wrap ((s.size:Int) - (a:Int)) = (s.size:Int) - (a:Int):=jii _ (by omega);have v2:IntKind.i64.wrap ((s.size:Int) - (a:Int) - 1) = (s.size:Int) - (a:Int) - 1:=jii _ (by omega);by_cases h2:s.size < a + 1 + m
 ·have hE:ybn l a m = 3:=by unfold ybn;rw [if_neg h1,if_pos (by have:=HZ.out;omega)]
  rw [hE];have d2:decide ((s.size:Int) - (a:Int) - 1 < (m:Int)) = true:=decide_eq_true (by omega);have d2':(s.size:Int) - (a:Int) - 1 < (m:Int):=by omega
  clear hE;go_enter Tryz.func173,Tryz.ntmps173
  go_wp2_with fail
  refine jbr (ya3 (fn:=Tryz.f173) rfl _ _ _ _ rfl (ybl hw0)) rfl ?_;exact ⟨by simp,hG0⟩
 have d2:decide ((s.size:Int) - (a:Int) - 1 < (m:Int)) = false:=decide_eq_false (by omega);have d2':¬ ((s.size:Int) - (a:Int) - 1 < (m:Int)):=by omega
 have hE0:ybn l a m = if (l.getD (a + 1) 0).toNat = 0 \/ lenB l a m < 56 then 8 else 0:=by unfold ybn;rw [if_neg h1,if_neg (by have:=HZ.out;omega)]
 have hl1:a + 1 < l.length:=by have:=HZ.out;omega
 have hid1:∀ W,(Instr.index 9 (.string s) (.int .i64 ((a:Int) + 1))).run jq W = .ok (.int .u8 ((l.getD (a + 1) 0).toNat:Int)) W:=fun W=>by
  have:=ydb s (a + 1) (l.getD (a + 1) 0) (by rw [HS.out];exact ydB 0 hl1) W;simpa using this
 have hv:=yf0 l a m (by omega);have hcl:=(l.getD (a + 1) 0).toNat_lt;obtain ⟨c,hc⟩:∃ c,(l.getD (a + 1) 0).toNat = c:=⟨_,rfl⟩;obtain ⟨V,hV⟩:∃ v,lenB l a m = v:=⟨_,rfl⟩;rw [hc] at hE0 hcl hid1;rw [hV] at hE0 hv ⊢;obtain ⟨E,hE⟩:∃ e,ybn l a m = e:=⟨_,rfl⟩;rw [hE] at hE0 ⊢;have HE0:=jh hE0;have HV:=jh hV;clear hE0 hE hV hc;have e1:IntKind.i64.wrap ((a:Int) + 1) = (a:Int) + 1:=jii _ (by omega);have e3:IntKind.i64.wrap ((a:Int) + 1 + (m:Int)) = (a:Int) + 1 + (m:Int):=jii _ (by omega);go_enter Tryz.func173,Tryz.ntmps173
 go_wp2_with fail
 go_loopw [8,22] (fun n i wr=>∃ k:Nat,i = .int .i64 (k:Int) /\ k <= m /\ n = .int .i64 (lenB l a k:Nat) /\ wr = w.alloc (.cells #[.int .i64 0,.int .i64 0,.bool false] 188)) (fun _ i _=>m - (intOf i).toNat)
 case atStart=>exact ⟨0,rfl,by omega,by simp [lenB,valL],by first | rfl | trivial⟩
 case round =>
  obtain ⟨k,rfl,hk,rfl,rfl⟩:=hrel;by_cases hlt:k < m
  ·have hl1:a + 1 + k < l.length:=by have:=HZ.out;omega
   have hsn:=ymg l a k hl1
   have hid:∀ W,(Instr.index 9 (.string s) (.int .i64 ((a:Int) + 1 + (k:Int)))).run jq W = .ok (.int .u8 ((l.getD (a + 1 + k) 0).toNat:Int)) W:=fun W=>by
    have:=ydb s (a + 1 + k) (l.getD (a + 1 + k) 0) (by rw [HS.out];exact ydB 0 hl1) W;simpa using this
   have hv:=yf0 l a k (by omega);have hv2:=yf0 l a (k + 1) (by omega);have hor:=ypn (lenB l a k) (l.getD (a + 1 + k) 0);generalize l.getD (a + 1 + k) 0 = c at *;have hcl:=c.toNat_lt;obtain ⟨V1,hV1⟩:∃ v,lenB l a (k + 1) = v:=⟨_,rfl⟩;rw [hV1] at hsn hv2;have HV:=jh hV1;clear hV1 hl1;generalize lenB l a k = V at *
   have hb:bits .or .i64 ((V:Int) * 256) (c.toNat:Int) = (V1:Int):=by
    have:=ykK (V * 256) c.toNat (by omega) (by omega)
    rw [hor,<- hsn] at this;rw [<- this];simp
   have HBT:=jh hb;have e2:IntKind.i64.wrap ((a:Int) + 1 + (k:Int)) = (a:Int) + 1 + (k:Int):=jii _ (by omega);clear hb hor hid1;go_wp2_with fail
   exact ⟨⟨k + 1,by simp,by omega,by rw [HBT.out,HV.out],by first | rfl | trivial⟩,by simp [intOf];omega⟩
  ·obtain rfl:k = m:=by omega
   have q1:decide ((k:Int) < (k:Int)) = false:=by simp
   rw [HV.out];have hE1:=HE0.out;clear HE0;by_cases h3:c = 0
   ·rw [if_pos (.inl h3)] at hE1;subst hE1;subst h3;go_wp2_with fail
    refine jbr (ya3 (fn:=Tryz.f173) rfl _ _ _ _ rfl (ybl hw0)) rfl ?_;exact ⟨by simp,hG0⟩
   ·have d3:((c:Int) == 0) = false:=by simp;omega
    by_cases h4:V < 56
    ·rw [if_pos (.inr h4)] at hE1;subst hE1;have d4:decide ((V:Int) < 56) = true:=decide_eq_true (by omega);have d4':decide (V < 56) = true:=decide_eq_true h4;clear h3;go_wp2_with fail
     refine jbr (ya3 (fn:=Tryz.f173) rfl _ _ _ _ rfl (ybl hw0)) rfl ?_;exact ⟨by simp,hG0⟩
    ·rw [if_neg (by omega)] at hE1;subst hE1;have d4:decide ((V:Int) < 56) = false:=decide_eq_false (by omega);have d4':decide (V < 56) = false:=decide_eq_false h4;clear h3;go_wp2_with fail
     refine jbr (ya3 (fn:=Tryz.f173) rfl _ _ _ _ rfl (ybl (Blk.new w _ _))) rfl ?_;exact ⟨by simp,yaa (jr _ _) _⟩
theorem ykN (v r:Nat):IntKind.u8.wrap ((v:Int) / 2 ^ r) = ((UInt8.ofNat (v / 2 ^ r % 256)).toNat:Int):=by
 have e:(v:Int) / 2 ^ r = ((v / 2 ^ r:Nat):Int):=by simp
 rw [e];generalize v / 2 ^ r = n;simp [IntKind.wrap,IntKind.bits,IntKind.signed]
theorem yh2 {w:World} {g:Nat} {t:TypeId} {a0 a1 a2 a3:Nat} (h:Blk w g t #[.int .u64 (a0:Int),.int .u64 (a1:Int),.int .u64 (a2:Int),.int .u64 (a3:Int)]) (q:Nat) (hq:q < 4):w.cell? ⟨g,q,none⟩ = some (.int .u64 (([a0,a1,a2,a3].getD q 0:Nat):Int)):=by
 rw [h.cell];have:q = 0 \/ q = 1 \/ q = 2 \/ q = 3:=by omega
 rcases this with rfl | rfl | rfl | rfl <;> rfl
theorem yim (a0 a1 a2 a3:Nat) (w:World) :
  Calls jq 35 #[.agg #[.int .u64 (a0:Int),.int .u64 (a1:Int),.int .u64 (a2:Int),.int .u64 (a3:Int)]] w fun e w'=>e = .returned (.string ⟨(fixL [a0,a1,a2,a3]).toArray⟩) /\ w.grownBy w' none:=by
 have hB:=Blk.new w 38 #[.int .u64 (a0:Int),.int .u64 (a1:Int),.int .u64 (a2:Int),.int .u64 (a3:Int)];have hG:=yaa (jr w none) (.cells #[.int .u64 (a0:Int),.int .u64 (a1:Int),.int .u64 (a2:Int),.int .u64 (a3:Int)] 38);have hZ:(w.alloc (.cells #[.int .u64 (a0:Int),.int .u64 (a1:Int),.int .u64 (a2:Int),.int .u64 (a3:Int)] 38)).heap.size = w.heap.size + 1:=by simp
 go_enter Tryz.func35,Tryz.ntmps35
 go_upto_region 1 with (fail)
 generalize w.alloc (.cells #[.int .u64 (a0:Int),.int .u64 (a1:Int),.int .u64 (a2:Int),.int .u64 (a3:Int)] 38) = W at *;have hmk:(Instr.makeSlice 43 (.int .i64 32) (.int .i64 32)).run jq W = .ok (.slice (some ⟨W.heap.size,0,none⟩) 32 32) (W.alloc (.cells (ybL (jc1 32 0)) 5)):=yiT 32 (by omega) W;rw [hZ] at hmk;have hB:=hB.alloc (.cells (ybL (jc1 32 0)) 5);have hO:=Blk.new W 5 (ybL (jc1 32 0));rw [hZ] at hO;have hG:=yaa hG (.cells (ybL (jc1 32 0)) 5);obtain ⟨b,hb⟩:∃ b,w.heap.size = b:=⟨_,rfl⟩;rw [hb] at hB hO hmk ⊢;generalize W.alloc (.cells (ybL (jc1 32 0)) 5) = W1 at *;go_wp2_with fail
 go_loopw [6] (fun i wr=>∃ m:Nat,i = .int .i64 (m:Int) /\ m <= 32 /\ Blk wr (b + 1) 5 (ybL (outF [a0,a1,a2,a3] m)) /\ Blk wr b 38 #[.int .u64 (a0:Int),.int .u64 (a1:Int),.int .u64 (a2:Int),.int .u64 (a3:Int)] /\ w.grownBy wr none) (fun i _=>32 - (intOf i).toNat)
 case atStart=>exact ⟨0,rfl,by omega,by rw [ylQ];exact hO,hB,hG⟩
 case round =>
  clear hO hB hG hmk hZ;obtain ⟨m,rfl,hm,hO,hB,hG⟩:=hrel;by_cases hlt:m < 32
  ·obtain ⟨q,hq⟩:∃ q,m / 8 = q:=⟨_,rfl⟩;obtain ⟨r8,hr8⟩:∃ r,m % 8 = r:=⟨_,rfl⟩;obtain ⟨r,hr⟩:∃ r,r8 * 8 = r:=⟨_,rfl⟩;obtain ⟨p,hp⟩:∃ p,31 - m = p:=⟨_,rfl⟩;have f2:=yh2 hB q (by omega);obtain ⟨v,hv⟩:∃ v,[a0,a1,a2,a3].getD q 0 = v:=⟨_,rfl⟩;obtain ⟨z,hz⟩:∃ z,yeN [a0,a1,a2,a3] m = z:=⟨_,rfl⟩
   have hzz:z = UInt8.ofNat (v / 2 ^ r % 256):=by
    rw [<- hz];unfold yeN;rw [hq,hr8,hr,hv]
   have hst:outF [a0,a1,a2,a3] (m + 1) = (outF [a0,a1,a2,a3] m).set p z:=by rw [<- hz,<- hp];exact ylR _ m hlt
   rw [hv] at f2;have f3:=hO.frozen p;have f4:wr.cell? ⟨b + 1,p,none⟩ = some (.int .u8 (((outF [a0,a1,a2,a3] m).getD p 0).toNat:Int)):=ycn hO p (by rw [ynw];omega);have p1:(m:Int).tdiv 8 = (q:Int):=by rw [je2 (by omega)];omega
   have p2:IntKind.i64.wrap (q:Int) = (q:Int):=jii _ (by omega);have p3:(m:Int).tmod 8 = (r8:Int):=by rw [je3 (by omega)];omega
   have p4:IntKind.i64.wrap ((r8:Int) * 8) = (r:Int):=by rw [jii _ (by omega)];omega
   have p5:IntKind.u8.wrap ((v:Int) / 2 ^ r) = (z.toNat:Int):=by rw [hzz];exact ykN v r
   have p6:IntKind.i64.wrap (31 - (m:Int)) = (p:Int):=by rw [jii _ (by omega)];omega
   have p7:31 - (m:Int) = (p:Int):=by omega
   have q1:(q:Int) < 4:=by omega
   have q2:(m:Int) < 32:=by omega
   have q3:r < 64:=by omega
   have q4:(p:Int) < 32:=by omega
   have HS:=jh hst;generalize (outF [a0,a1,a2,a3] m).getD p 0 = z0 at f4;generalize [a0,a1,a2,a3].getD q 0 = v' at hv;clear hq hr8 hr hv hz hzz hst hp;go_wp2_with fail
   refine ⟨⟨m + 1,by go_num,by omega,?_,hB.far (p:=⟨b + 1,p,none⟩) (by show b ≠ b + 1;omega) _,yap hG (p:=⟨b + 1,p,none⟩) (by show w.heap.size <= b + 1;omega) _⟩,by simp [intOf];omega⟩;rw [HS.out,<- yea];exact hO.set_ p _
  ·have e32:outF [a0,a1,a2,a3] m = fixL [a0,a1,a2,a3]:=by rw [show m = 32 by omega,ynx]
   rw [e32] at hO;have hfin:decide ((m:Int) < 32) = false:=by simp;omega
   have hcv:=run_convert_bytes_back (P:=jq) wr 43 9 5 ⟨b + 1,0,none⟩ 32 (fixL [a0,a1,a2,a3]) (by kernel_rfl) (by kernel_rfl) (by kernel_rfl) (fun j hj=>by
    have:=ycn hO j hj;rw [Addr.add_mid,jd6,this,jg,je hj];rfl)
   rw [ycq] at hcv;obtain ⟨qq,hqq⟩:∃ x,fixL [a0,a1,a2,a3] = x:=⟨_,rfl⟩;rw [hqq] at hcv;have HQ:=jh hqq;clear e32 hqq;go_wp2_with fail
   go_ret
   exact ⟨by rw [HQ.out];rfl,hG⟩
theorem yeJ {t:ByteArray} {c:UInt8} {r:List UInt8} (h:t.data.toList = c :: r):(t.extract 1 t.size).data.toList = r:=by
 rw [Lib.extract_data,h]
 simp;rw [jtl];have:=congrArg List.length h;rw [jb0] at this;simp at this;show r.length <= t.size - 1;have:t.size = r.length + 1:=this;omega
theorem yhH {t:ByteArray} {c:UInt8} {r:List UInt8} (h:t.data.toList = c :: r):t.size = r.length + 1:=by
 have:=congrArg List.length h;rw [jb0] at this;exact this
def yl5:Value -> Nat
 | .string s=>s.size
 | _=>0
theorem yhE (s:ByteArray) (c:UInt8) (w:World) (hs:s.size <= 9223372036854775807) :
  Calls jq 166 #[.string s,.int .u8 (c.toNat:Int)] w fun e w'=>e = .returned (.string ⟨(yd0 c s.data.toList).toArray⟩) /\ w' = w:=by
 go_enter Tryz.func166,Tryz.ntmps166
 go_wp2_with fail
 go_loop [0] (fun v=>∃ t:ByteArray,v = .string t /\ t.size <= s.size /\ Hid (yd0 c t.data.toList = yd0 c s.data.toList)) (fun v=>yl5 v)
 case atStart=>exact ⟨s,rfl,jle _,jh rfl⟩
 case round =>
  obtain ⟨t,rfl,ht,hT⟩:=hrel;have HT:=jh hT.out;clear hT;cases hl:t.data.toList with
  | nil =>
   have hz:t.size = 0:=by have:=congrArg List.length hl;rw [jb0] at this;exact this
   have d1:decide (0 < t.size) = false:=decide_eq_false (by omega);have d2:decide ((0:Int) < (t.size:Int)) = false:=decide_eq_false (by omega);have he:t = ⟨#[]⟩:=ybM hl;have HE:Hid (yd0 c s.data.toList = []):=jh (by rw [<- HT.out,hl];rfl);subst he;clear hl hz HT;go_wp2_with fail
   go_ret
   exact ⟨by rw [HE.out];rfl,rfl⟩
  | cons x r =>
   have hz:=yhH hl;have d1:0 < t.size:=by omega
   have hx:t[0]'d1 = x:=by
    have e:t.data.toList[0]? = some x:=by rw [hl];rfl
    have e2:t.data[0]? = some x:=by simpa using e
    obtain ⟨_,e3⟩:=jes.1 e2;exact e3
   have HZ:=jh hz;clear hz;have d2:(0:Int) < (t.size:Int):=by omega
   have d3:(1:Int) <= (t.size:Int):=by omega
   have d4:1 <= t.size:=by omega
   by_cases hxc:x = c
   ·have e1:((x.toNat:Int) == (c.toNat:Int)) = true:=by rw [hxc];simp
    have HN:Hid (yd0 c (t.extract 1 t.size).data.toList = yd0 c s.data.toList):=jh (by
     rw [yeJ hl,<- HT.out,hl];show _ = List.dropWhile _ _;rw [List.dropWhile_cons_of_pos (by simp [hxc])];rfl)
    have HSZ:Hid ((t.extract 1 t.size).size = t.size - 1):=jh (by simp);clear hl HT hxc;go_wp2_with fail
    exact ⟨⟨_,rfl,by have:=HSZ.out;omega,HN⟩,by show (t.extract 1 t.size).size < t.size;have:=HSZ.out;omega⟩
   ·have e1:((x.toNat:Int) == (c.toNat:Int)) = false:=by
     rw [beq_eq_false_iff_ne];intro e;exact hxc (UInt8.toNat_inj.1 (by omega))
    have HN:Hid (yd0 c s.data.toList = t.data.toList):=jh (by
     rw [<- HT.out,hl];show List.dropWhile _ _ = _;rw [List.dropWhile_cons_of_neg (by simp [hxc])])
    clear hl HT hxc;go_wp2_with fail
    go_ret
    exact ⟨by rw [HN.out];rfl,rfl⟩
theorem yne (s:ByteArray) (w:World) (h0:0 < s.size) (hs:s.size <= 9223372036854775807) :
  Calls jq 142 #[.string s,.string ⟨#[0]⟩] w fun e w'=>e = .returned (.string ⟨(ycZ s.data.toList).toArray⟩) /\ w' = w:=by
 have hb:=fun W=>yhE s 0 W hs
 have e1:(s.toList == []) = false:=by
  have:=ygo (a:=s) (b:=⟨#[]⟩) (by rintro rfl;cases h0);simpa using this
 have e2:s.toList.isEmpty = false:=by simpa using e1
 have HB:=jh hb;clear hb;go_enter Tryz.func142,Tryz.ntmps142
 go_wp2_with fail
 refine (HB.out _).mono ?_;rintro e w2 ⟨rfl,rfl⟩;go_wp2_with fail
 go_ret
 exact ⟨rfl,rfl⟩
theorem yef (a0 a1 a2 a3:Nat) (h0:a0 < 18446744073709551616) (h1:a1 < 18446744073709551616) (h2:a2 < 18446744073709551616) (h3:a3 < 18446744073709551616) (w:World) :
  Calls jq 110 #[.agg #[.int .u64 (a0:Int),.int .u64 (a1:Int),.int .u64 (a2:Int),.int .u64 (a3:Int)]] w fun e w'=>e = .returned (.string ⟨(beN (ycx a0 a1 a2 a3)).toArray⟩) /\ w.grownBy w' none:=by
 have hB:=Blk.new w 38 #[.int .u64 (a0:Int),.int .u64 (a1:Int),.int .u64 (a2:Int),.int .u64 (a3:Int)];have hG:=yaa (jr w none) (.cells #[.int .u64 (a0:Int),.int .u64 (a1:Int),.int .u64 (a2:Int),.int .u64 (a3:Int)] 38);have HF:=jh (fun V=>yim a0 a1 a2 a3 V);have ht:=fun V=>yne ⟨(fixL [a0,a1,a2,a3]).toArray⟩ V (by show 0 < ((fixL [a0,a1,a2,a3]).toArray).size;simp [ycq]) (by show ((fixL [a0,a1,a2,a3]).toArray).size <= _;simp [ycq]);have HT:=jh ht;have HE:Hid (ycZ (fixL [a0,a1,a2,a3]) = beN (ycx a0 a1 a2 a3)):=jh (by rw [yjc _ _ _ _ h0 h1 h2 h3];rfl);clear ht;go_enter Tryz.func110,Tryz.ntmps110
 go_wp2_with fail
 refine (HF.out _).mono ?_;rintro e w2 ⟨rfl,hg⟩;have hG:=jh (yab hG hg (by simp));clear hg hB;go_wp2_with fail
 refine (HT.out _).mono ?_;rintro e w3 ⟨rfl,rfl⟩;go_wp2_with fail
 go_ret
 exact ⟨by rw [<- HE.out];rfl,hG.out⟩
theorem ybB {w:World} {g:Nat} {a b c d:Value} (hg:Blk w g 38 #[a,b,c,d]):(loadVar 38 ⟨g,0,none⟩).run jq w = .ok (.agg #[a,b,c,d]) w :=
 run_loadVar_row w g 38 38 _ (0,0) _ hg jd8 rfl (by kernel_rfl)
theorem ypo (n:Nat) (w:World) :
  Calls jq 200 #[.int .u64 (n:Int)] w fun e w'=>e = .returned (.agg #[.int .u64 (n:Int),.int .u64 ((0:Nat):Int),.int .u64 ((0:Nat):Int),.int .u64 ((0:Nat):Int)]) /\ w.grownBy w' none:=by
 have hB:=Blk.new w 38 #[.int .u64 (n:Int),.int .u64 0,.int .u64 0,.int .u64 0];have hG:=yaa (jr w none) (.cells #[.int .u64 (n:Int),.int .u64 0,.int .u64 0,.int .u64 0] 38);go_enter Tryz.func200,Tryz.ntmps200
 go_wp2_with fail
 refine jbr (yaw (fn:=Tryz.f200) rfl _ _ _ _ rfl (ybB hB)) rfl ?_;exact ⟨rfl,hG⟩
theorem ypy (n:Nat) (hn:n < 18446744073709551616) (w:World) :
  Calls jq 189 #[.int .u64 (n:Int)] w fun e w'=>e = .returned (.string ⟨(beN n).toArray⟩) /\ w.grownBy w' none:=by
 have hb:=fun V=>yef n 0 0 0 hn (by omega) (by omega) (by omega) V;rw [show ycx n 0 0 0 = n by unfold ycx;omega] at hb;have HB:=jh hb;have HO:=jh (fun V=>ypo n V);clear hb;go_enter Tryz.func189,Tryz.ntmps189
 go_wp2_with fail
 refine (HO.out _).mono ?_;rintro e w2 ⟨rfl,hg⟩;have hG:=jh hg;clear hg;go_wp2_with fail
 refine (HB.out _).mono ?_;rintro e w3 ⟨rfl,hg⟩;have hG:=jh (yab hG.out hg (by simp));clear hg;go_wp2_with fail
 go_ret
 exact ⟨rfl,hG.out⟩
theorem yos:(jq.info? 5).map (fun i=>(i.zero,i.size,i.bytes)) = some (some (.int .u8 0),1,1):=by kernel_rfl
theorem yeK (b:Nat) (w:World) (h0:w.cell? ⟨b,0,none⟩ = some (.pointer (some ⟨b,0,none⟩))) :
  Calls jq 108 #[.pointer (some ⟨b,0,none⟩)] w fun e w'=>e = .returned (.tuple #[]) /\ w' = w:=by
 have hs:(jq.info? 96).isSome = true:=by kernel_rfl
 obtain ⟨j,hj⟩:=Option.isSome_iff_exists.1 hs;go_enter Tryz.func108,Tryz.ntmps108
 go_wp2
 rw [Lib.run_neq_ptr_same w _ Tryz.underlying94 hj];go_wp2
 go_end0
 exact ⟨rfl,rfl⟩
theorem yds (b:Nat) (w:World) (h0:w.cell? ⟨b,0,none⟩ = some (.pointer none)) (hsh:w.shape? b = some (96,2)) (hfz:w.frozen? ⟨b,0,none⟩ = false) :
  Calls jq 108 #[.pointer (some ⟨b,0,none⟩)] w fun e w'=>e = .returned (.tuple #[]) /\ w' = w.setCell ⟨b,0,none⟩ (.pointer (some ⟨b,0,none⟩)):=by
 have hs:(jq.info? 96).isSome = true:=by kernel_rfl
 obtain ⟨j,hj⟩:=Option.isSome_iff_exists.1 hs;have hz:(jq.info? 96).map (·.size) = some 2:=by kernel_rfl
 have hjs:j.size = 2:=by simpa [hj] using hz
 go_enter Tryz.func108,Tryz.ntmps108
 go_wp2
 rw [Lib.run_to_unsafe w ⟨b,0,none⟩ Tryz.underlying94 Tryz.underlying173 hj (by rw [hjs];decide) hsh (Nat.zero_lt_succ 1)];simp only [Result.andThen];rw [Oper.upon_value];go_wp2
 rw [run_callFunc_extern Tryz.func140 (by kernel_rfl) (by kernel_rfl) (by kernel_rfl) (e:=Extern.AbiNoEscape.same) (by kernel_rfl)];rw [Lib.run_noEscape];simp only [Result.andThen];rw [Oper.upon_value];go_wp2
 rw [Lib.run_from_unsafe w ⟨b,0,none⟩ Tryz.underlying173 Tryz.underlying94 hj hsh (by kernel_rfl)];simp only [Result.andThen];rw [Oper.upon_value];go_wp2
 go_end0
 exact ⟨rfl,rfl⟩
theorem yhn (B b:Nat) (bs:List Value) (w:World) (h:jd3 96 5 B b bs w) :
  Calls jq 108 #[.pointer (some ⟨b,0,none⟩)] w fun e w'=>e = .returned (.tuple #[]) /\ (Lib.BuilderAt 96 5 B b (.pointer (some ⟨b,0,none⟩)) bs w' /\ Below B w w'):=by
 rcases h with h | h
 ·refine (yds b w h.cell0 h.shape h.frozen0).mono ?_;rintro e w' ⟨rfl,rfl⟩;exact ⟨rfl,h.used _,(jc5 B w).setCell (p:=⟨b,0,none⟩) h.1 _⟩
 ·refine (yeK b w h.cell0).mono ?_;rintro e w' ⟨rfl,rfl⟩;exact ⟨rfl,h,jc5 B _⟩
theorem ybf (B b:Nat) (bs:List Value) (s:ByteArray) (w:World) (h:jd3 96 5 B b bs w) (hlen:bs.length + s.size <= 140737488355328) (hBw:B <= w.heap.size) :
  Calls jq 68 #[.pointer (some ⟨b,0,none⟩),.string s] w fun e w'=>e = .returned (.tuple #[.int .i64 s.size,.nilIface]) /\ (jd3 96 5 B b (bs ++ Lib.strCells s) w' /\ Below B w w'):=by
 obtain ⟨i0,hi,hz0,hz1,hz2⟩:=info_parts yos;go_enter Tryz.func68,Tryz.ntmps68
 go_wp2_with fail
 refine (yhn B b bs _ h).mono ?_;rintro e w1 ⟨rfl,h1,hb1⟩;obtain ⟨hB,v,hbk,hown,hne⟩:=h1;have c0:w1.cell? ⟨b,0,none⟩ = some (.pointer (some ⟨b,0,none⟩)):=by rw [Lib.cell_of_heap hbk];rfl
 have c1:w1.cell? ⟨b,1,none⟩ = some v:=by rw [Lib.cell_of_heap hbk];rfl
 go_wp2_with (at_builtin;refine Lib.wpList_append_own_string _ rfl _ _ 43 9 rfl B 5 i0 Tryz.underlying43 ja9 hi hz0 hz1 hz2 _ _ _ rfl hown s rfl ?c3 ?c4 ?c5 ?_)
 case c3=>unfold maxLen;omega
 case c4=>omega
 case c5=>have:=hb1.size;omega
 intro v' w2 hown' hgrow _
 have hlt:b < w1.heap.size:=by
  rcases Nat.lt_or_ge b w1.heap.size with h' | h'
  ·exact h'
  ·simp [jc8 h'] at hbk
 have hb2:w2.heap[b]? = some (.cells #[.pointer (some ⟨b,0,none⟩),v] 96 (0,0)):=by
  rw [hgrow.block b hlt (fun e=>hne e.symm)];exact hbk
 have d0:w2.cell? ⟨b,0,none⟩ = some (.pointer (some ⟨b,0,none⟩)):=by rw [Lib.cell_of_heap hb2];rfl
 have d1:w2.cell? ⟨b,1,none⟩ = some v:=by rw [Lib.cell_of_heap hb2];rfl
 have f1:w2.frozen? ⟨b,1,none⟩ = false:=Lib.frozen_of_heap hb2 1
 obtain ⟨ao,n',cap,rfl⟩:∃ ao n' cap,v' = .slice ao n' cap:=by
  rcases hown'.2 with ⟨hv,_⟩ | ⟨g,cap,cur,hv,_⟩
  ·exact ⟨_,_,_,hv⟩
  ·exact ⟨_,_,_,hv⟩
 go_wp2
 go_ret2
 refine ⟨rfl,.inr ?_,?_⟩
 ·exact Lib.BuilderAt.put hB hb2 (bs':=bs ++ Lib.strCells s) (by simpa [Lib.strCells_length] using hown') (by decide)
 ·exact (hb1.grown hgrow (by have:=hb1.size;omega) (fun k hk=>(hown.lt k hk).1)).setCell (p:=⟨b,1,none⟩) hB _
def yhF:Go.Shelf.Ren:=⟨fun | 169=>70 | n=>n,fun | 70=>94 | 9=>9 | 0=>0 | 72=>96 | 37=>43 | 127=>144 | 3=>3 | 5=>5 | n=>n,fun | n=>n⟩
theorem ygn:Go.Proofs.Lays.n169 jq yhF:={
 mixed:=by kernel_rfl
 f169:=Tryz.func70.trans (congrArg some (by kernel_rfl))
 t0:=Tryz.underlying0
 a0:=Tryz.isAgg0
 z0:=Tryz.sizeOf0
 v0:=Tryz.zeroValue0
 t3:=jb8
 a3:=Tryz.isAgg3
 z3:=Tryz.sizeOf3
 v3:=Tryz.zeroValue3
 t9:=ja9
 a9:=Tryz.isAgg9
 z9:=Tryz.sizeOf9
 v9:=Tryz.zeroValue9
 t37:=Tryz.underlying43
 a37:=Tryz.isAgg43
 z37:=Tryz.sizeOf43
 v37:=Tryz.zeroValue43
 t70:=Tryz.underlying94
 a70:=Tryz.isAgg94
 z70:=Tryz.sizeOf94
 v70:=Tryz.zeroValue94
 t72:=Tryz.underlying96
 a72:=Tryz.isAgg96
 z72:=Tryz.sizeOf96
 v72:=Tryz.zeroValue96
 t127:=Tryz.underlying144
 a127:=Tryz.isAgg144
 z127:=Tryz.sizeOf144
 v127:=Tryz.zeroValue144 }
theorem yfr:Builder.Extra jq yhF:={
 sizeBuilder:=by kernel_rfl
 liesBuilder:=by kernel_rfl
 t5:=Tryz.underlying5
 a5:=Tryz.isAgg5
 z5:=Tryz.sizeOf5
 v5:=Tryz.zeroValue5
 infoByte:=by kernel_rfl
 cellsByte:=by kernel_rfl
 sizeByte:=by kernel_rfl
 neB5:=by decide }
theorem ybJ (B b:Nat) (l:List UInt8) (w:World) (h:jd3 96 5 B b (ja6 l) w) (hBw:B <= w.heap.size) :
  Calls jq 70 #[.pointer (some ⟨b,0,none⟩)] w fun e w'=>e = .returned (.string ⟨l.toArray⟩) /\ Below B w w':=Any.Builder_String_any ygn yfr B b l w h hBw
theorem yb9 (s:ByteArray):Lib.strCells s = ja6 s.data.toList:=by
 simp [Lib.strCells,ja6]
theorem ybk (a b:List UInt8):ja6 (a ++ b) = ja6 a ++ ja6 b:=by simp [ja6]
theorem yeb (w:World):jd3 96 5 w.heap.size w.heap.size [] (w.alloc (.cells #[.pointer none,.slice none 0 0] 96)) :=
 .inl ⟨jle _,.slice none 0 0,heap_alloc_new w _,jon _ _ _ _,by simp [jc2]⟩
abbrev IsB (B b:Nat) (bs:List Value) (w:World):Prop:=Lib.IsBuilderF 96 5 B b bs w
theorem yga (B b:Nat) (bs:List Value) (w:World) (h:IsB B b bs w) :
  Calls jq 108 #[.pointer (some ⟨b,0,none⟩)] w fun e w'=>e = .returned (.tuple #[]) /\ (Lib.BuilderAtF 96 5 B b (.pointer (some ⟨b,0,none⟩)) bs w' /\ Below B w w'):=by
 rcases h with h | h
 ·refine (yds b w h.cell0 h.shape h.frozen0).mono ?_;rintro e w' ⟨rfl,rfl⟩;exact ⟨rfl,h.used _,(jc5 B w).setCell (p:=⟨b,0,none⟩) h.1 _⟩
 ·refine (yeK b w h.cell0).mono ?_;rintro e w' ⟨rfl,rfl⟩;exact ⟨rfl,h,jc5 B _⟩
theorem yn5 (B b:Nat) (bs:List Value) (w:World) (h:IsB B b bs w) :
  Calls jq 177 #[.pointer (some ⟨b,0,none⟩)] w fun e w'=>e = .returned (.int .i64 bs.length) /\ w' = w:=by
 obtain ⟨p,hB,v,hbk,hown,hne⟩:∃ p,Lib.BuilderAtF 96 5 B b p bs w:=by
  rcases h with h | h
  ·exact ⟨_,h⟩
  ·exact ⟨_,h⟩
 obtain ⟨ao,cap,rfl⟩:∃ ao cap,v = .slice ao bs.length cap:=by
  rcases hown.2 with ⟨hv,h0⟩ | ⟨g,cap,cur,fz,hv,_⟩
  ·exact ⟨none,0,by rw [hv,h0]⟩
  ·exact ⟨_,_,hv⟩
 have c1:w.cell? ⟨b,1,none⟩ = some (.slice ao bs.length cap):=by rw [Lib.cell_of_heap hbk];rfl
 go_enter Tryz.func177,Tryz.ntmps177
 go_wp2
 go_ret
 exact ⟨rfl,rfl⟩
theorem ydv (B b:Nat) (bs:List Value) (s:ByteArray) (w:World) (h:IsB B b bs w) (hlen:bs.length + s.size <= 140737488355328) (hBw:B <= w.heap.size) :
  Calls jq 68 #[.pointer (some ⟨b,0,none⟩),.string s] w fun e w'=>e = .returned (.tuple #[.int .i64 s.size,.nilIface]) /\ (IsB B b (bs ++ Lib.strCells s) w' /\ Below B w w'):=by
 obtain ⟨i0,hi,hz0,hz1,hz2⟩:=info_parts yos;go_enter Tryz.func68,Tryz.ntmps68
 go_wp2_with fail
 refine (yga B b bs _ h).mono ?_;rintro e w1 ⟨rfl,h1,hb1⟩;obtain ⟨hB,v,hbk,hown,hne⟩:=h1;have c0:w1.cell? ⟨b,0,none⟩ = some (.pointer (some ⟨b,0,none⟩)):=by rw [Lib.cell_of_heap hbk];rfl
 have c1:w1.cell? ⟨b,1,none⟩ = some v:=by rw [Lib.cell_of_heap hbk];rfl
 go_wp2_with (at_builtin;refine Lib.wpList_append_own_stringF _ rfl _ _ 43 9 rfl B 5 i0 Tryz.underlying43 ja9 hi hz0 hz1 hz2 _ _ _ rfl hown s rfl ?c3 ?c4 ?c5 ?_)
 case c3=>unfold maxLen;omega
 case c4=>omega
 case c5=>have:=hb1.size;omega
 intro v' w2 hown' hgrow _
 have hlt:b < w1.heap.size:=by
  rcases Nat.lt_or_ge b w1.heap.size with h' | h'
  ·exact h'
  ·simp [jc8 h'] at hbk
 have hb2:w2.heap[b]? = some (.cells #[.pointer (some ⟨b,0,none⟩),v] 96 (0,0)):=by
  rw [hgrow.block b hlt (fun e=>hne e.symm)];exact hbk
 have d0:w2.cell? ⟨b,0,none⟩ = some (.pointer (some ⟨b,0,none⟩)):=by rw [Lib.cell_of_heap hb2];rfl
 have d1:w2.cell? ⟨b,1,none⟩ = some v:=by rw [Lib.cell_of_heap hb2];rfl
 have f1:w2.frozen? ⟨b,1,none⟩ = false:=Lib.frozen_of_heap hb2 1
 obtain ⟨ao,n',cap,rfl⟩:∃ ao n' cap,v' = .slice ao n' cap:=by
  rcases hown'.2 with ⟨hv,_⟩ | ⟨g,cap,cur,fz,hv,_⟩
  ·exact ⟨_,_,_,hv⟩
  ·exact ⟨_,_,_,hv⟩
 go_wp2
 go_ret2
 refine ⟨rfl,.inr ?_,?_⟩
 ·exact Lib.BuilderAtF.put (T:=96) (e:=5) hB hb2 (bs':=bs ++ Lib.strCells s) (by simpa [Lib.strCells_length] using hown') (by decide)
 ·exact (hb1.grown hgrow (by have:=hb1.size;omega) (fun k hk=>(hown.lt k hk).1)).setCell (p:=⟨b,1,none⟩) hB _
theorem yiG (B b:Nat) (l:List UInt8) (w:World) (h:IsB B b (ja6 l) w) (hBw:B <= w.heap.size) :
  Calls jq 70 #[.pointer (some ⟨b,0,none⟩)] w fun e w'=>e = .returned (.string ⟨l.toArray⟩) /\ (IsB B b (ja6 l) w' /\ Below B w w'):=Any.Builder_String_any_f ygn yfr B b l w h hBw
def ymt:Go.Shelf.Ren:=⟨fun | 241=>109 | 277=>141 | n=>n,fun | 70=>94 | 9=>9 | 0=>0 | 72=>96 | 37=>43 | 127=>144 | 3=>3 | 5=>5 | n=>n,fun | n=>n⟩
theorem ynG:Go.Proofs.Lays.n241 jq ymt:={
 mixed:=by kernel_rfl
 f241:=Tryz.func109.trans (congrArg some (by kernel_rfl))
 f277:=Tryz.func141.trans (congrArg some (by kernel_rfl))
 t0:=Tryz.underlying0
 a0:=Tryz.isAgg0
 z0:=Tryz.sizeOf0
 v0:=Tryz.zeroValue0
 t3:=jb8
 a3:=Tryz.isAgg3
 z3:=Tryz.sizeOf3
 v3:=Tryz.zeroValue3
 t37:=Tryz.underlying43
 a37:=Tryz.isAgg43
 z37:=Tryz.sizeOf43
 v37:=Tryz.zeroValue43
 t70:=Tryz.underlying94
 a70:=Tryz.isAgg94
 z70:=Tryz.sizeOf94
 v70:=Tryz.zeroValue94
 t72:=Tryz.underlying96
 a72:=Tryz.isAgg96
 z72:=Tryz.sizeOf96
 v72:=Tryz.zeroValue96 }
theorem ymu:Builder.Extra jq ymt:={
 sizeBuilder:=by kernel_rfl
 liesBuilder:=by kernel_rfl
 t5:=Tryz.underlying5
 a5:=Tryz.isAgg5
 z5:=Tryz.sizeOf5
 v5:=Tryz.zeroValue5
 infoByte:=by kernel_rfl
 cellsByte:=by kernel_rfl
 sizeByte:=by kernel_rfl
 neB5:=by decide }
abbrev BAt (B b:Nat) (p:Value) (bs:List Value) (w:World):Prop:=Lib.BuilderAt 96 5 B b p bs w
theorem yhj (B b n:Nat) (w:World) (hB:B <= b) (hbk:w.heap[b]? = some (.cells #[.pointer (some ⟨b,0,none⟩),.slice none 0 0] 96 (0,0))) (hBw:B <= w.heap.size) (hn:n <= 281474976710656) :
  Calls jq 109 #[.pointer (some ⟨b,0,none⟩),.int .i64 n] w fun e w'=>e = .returned (.tuple #[]) /\ (BAt B b (.pointer (some ⟨b,0,none⟩)) [] w' /\ Below B w w'):=Any.Builder_grow_fresh ynG ymu B b n w hB hbk hBw hn
theorem yjS (b n:Nat) (w:World) (hbk:w.heap[b]? = some (.cells #[.pointer none,.slice none 0 0] 96 (0,0))) (hn:n <= 281474976710656) :
  Calls jq 71 #[.pointer (some ⟨b,0,none⟩),.int .i64 n] w fun e w'=>e = .returned (.tuple #[]) /\ (BAt b b (.pointer (some ⟨b,0,none⟩)) [] w' /\ Below b w w'):=by
 have hlt:b < w.heap.size:=(jes.1 hbk).1;go_enter Tryz.func71,Tryz.ntmps71
 go_wp2_with fail
 refine (yds b w (by rw [Lib.cell_of_heap hbk];rfl) (by simp [World.shape?,hbk]) (Lib.frozen_of_heap hbk 0)).mono ?_;rintro e w1 ⟨rfl,hw1⟩
 have hbk1:w1.heap[b]? = some (.cells #[.pointer (some ⟨b,0,none⟩),.slice none 0 0] 96 (0,0)):=by
  rw [hw1];simp [jd5,Array.getElem?_modify,hbk]
 have hb1:Below b w w1:=by rw [hw1];exact (jc5 b w).setCell (p:=⟨b,0,none⟩) (jle _) _
 have hz1:b <= w1.heap.size:=by have:=hb1.size;omega
 have c1:w1.cell? ⟨b,1,none⟩ = some (.slice none 0 0):=by rw [Lib.cell_of_heap hbk1];rfl
 have hd:=fun q=>yhj b b n (w1.drewN q) (jle _) hbk1 hz1 hn;clear hw1 hbk;by_cases h0:0 < n
 ·have d1:decide ((0:Int) < (n:Int)) = true:=by simpa using h0
  go_wp2_with fail
  go_quiet (fail)
  have hd2:=hd nq;clear hd;go_wp2_with fail
  refine hd2.mono ?_;rintro e w2 ⟨rfl,h2,hb2⟩;go_wp2_with fail
  go_end0
  exact ⟨rfl,h2,(ybo hb1 nq).trans hb2⟩
 ·have hn0:n = 0:=by omega
  subst hn0;go_wp2_with fail
  go_quiet (fail)
  go_wp2_with fail
  go_end0
  exact ⟨rfl,⟨jle _,.slice none 0 0,hbk1,jon _ _ _ _,by simp [jc2]⟩,ybo hb1 nq⟩
theorem Reads.vals {α:Type} (f:α -> Value) (d:α) {w:World} {B n k:Nat} {A:Option Addr} {xs:List α} (h:Reads w B 1 A n (xs.map f)) (hk:k < n) :
  ∃ b off,A = some ⟨b,off,none⟩ /\ b < B /\ ∀ j,j < n -> w.cell? ⟨b,off + j,none⟩ = some (f (xs.getD j d)):=by
 have hl:=h.1;simp at hl
 have key:∀ j,j < n -> (xs.map f)[j]? = some (f (xs.getD j d)):=by
  intro j hj;rw [jgm,je (by omega),jg,je (by omega)];rfl
 obtain ⟨ad,rfl,hb,hc⟩:=h.2 (by omega);have h0:=hc 0 _ (key 0 (by omega));have e:ad = ⟨ad.block,ad.off,none⟩:=yck (a:=ad) (by simpa [Addr.add] using h0);refine ⟨ad.block,ad.off,by rw [<- e],hb,fun j hj=>?_⟩;have:=hc j _ (key j hj);rw [e] at this;unfold Addr.add at this;by_cases hj0:j = 0
 ·subst hj0;simpa using this
 ·simpa [hj0] using this
def catB (xs:List ByteArray):List UInt8:=xs.flatMap (·.data.toList)
theorem yd8 (xs:List ByteArray) (x:ByteArray):catB (xs ++ [x]) = catB xs ++ x.data.toList:=by simp [catB]
theorem yfH (xs:List ByteArray) (k:Nat) (hk:k < xs.length):catB (xs.take (k + 1)) = catB (xs.take k) ++ (xs.getD k .empty).data.toList:=by
 rw [jtk hk,yd8,jg,je hk];rfl
theorem yjr (xs:List ByteArray) (k:Nat):(catB (xs.take k)).length <= (catB xs).length:=by
 have h:catB xs = catB (xs.take k) ++ catB (xs.drop k):=by unfold catB;rw [<- List.flatMap_append,List.take_append_drop]
 rw [h,jla];omega
theorem yie (B:Nat) (A:Option Addr) (n c:Nat) (xs:List ByteArray) (w:World) (hB:B <= w.heap.size) (h:Reads w B 1 A n (xs.map ja8)) (h2:2 <= n) (hnm:n <= 1000000) (hnc:n <= c) (hlen:(catB xs).length <= 140737488355328) :
  Calls jq 27 #[.slice A n c,.string .empty] w fun e w'=>e = .returned (.string ⟨(catB xs).toArray⟩) /\ Below w.heap.size w w':=by
 have hl:xs.length = n:=by simpa using h.1
 obtain ⟨b,off,rfl,hbb,hc⟩:=h.vals ja8 .empty (k:=0) (by omega);have hne0:((n:Int) == 0) = false:=beq_eq_false_iff_ne.2 (by omega);have hne1:((n:Int) == 1) = false:=beq_eq_false_iff_ne.2 (by omega);have HL:=jh hl;clear hl h;have HC:=jh hc;clear hc;have HLEN:=jh hlen;clear hlen;go_enter Tryz.func27,Tryz.ntmps27
 go_wp2_with fail
 go_loop [5,41] (fun s i=>∃ k:Nat,k <= n /\ i = .int .i64 (k:Int) /\ s = .int .i64 ((catB (xs.take k)).length:Int)) (fun _ i=>n - (intOf i).toNat)
 case atStart=>exact ⟨0,Nat.zero_le _,rfl,rfl⟩
 case round =>
  obtain ⟨k,hk,rfl,rfl⟩:=hrel;by_cases hlt:k < n
  ·have hck:=HC.out k hlt;have hst:=yfH xs k (by have:=HL.out;omega);have hle:=yjr xs (k + 1);have hst2:(catB (xs.take (k + 1))).length = (catB (xs.take k)).length + (xs.getD k .empty).size:=by rw [hst,jla,yar]
   clear hst;obtain ⟨x,hx⟩:∃ x,xs.getD k .empty = x:=⟨_,rfl⟩;rw [hx] at hck hst2;have hlen:=HLEN.out;obtain ⟨S1,hS1⟩:∃ q,(catB (xs.take (k + 1))).length = q:=⟨_,rfl⟩;rw [hS1] at hle hst2;have HS1:=jh hS1;clear hS1 hx;generalize (catB (xs.take k)).length = S at *;generalize (catB xs).length = T at *;go_wp2_with fail
   go_round
   case rel=>exact ⟨k + 1,by omega,by simp,by rw [HS1.out,hst2];simp⟩
   case measure=>simp [intOf];omega
  ·have hk2:k = n:=by omega
   have ht:xs.take k = xs:=jtl (by have:=HL.out;omega);rw [ht];have hfin:decide ((k:Int) < (n:Int)) = false:=by simp;omega
   have hfin2:decide (k < n) = false:=by simp;omega
   clear ht hk2 hlt hk;obtain ⟨T,hT⟩:∃ q,(catB xs).length = q:=⟨_,rfl⟩;have hTl:T <= 140737488355328:=by rw [<- hT];exact HLEN.out
   rw [hT];clear hT;have hn0:w.heap[w.heap.size]? = none:=by simp
   have hb0:Below w.heap.size w (w.alloc (.cells #[.pointer none,.slice none 0 0] 96)):=(jc5 _ w).alloc (jle _) _;have hbk0:=heap_alloc_new w (.cells #[.pointer none,.slice none 0 0] 96);go_wp2_with fail
   generalize w.alloc (.cells #[.pointer none,.slice none 0 0] 96) = w1 at *;refine (yjS w.heap.size T w1 hbk0 (by omega)).mono ?_;rintro e w2 ⟨rfl,h2b,hb2⟩;have hb2':=hb0.trans hb2;clear hb2 hb0 hbk0
   have hc0:w2.cell? ⟨b,off,none⟩ = some (.string (xs.getD 0 .empty)):=by
    rw [hb2'.cell (p:=⟨b,off,none⟩) (by show b < w.heap.size;omega)];exact HC.out 0 (by omega)
   obtain ⟨x0,hx0⟩:∃ x,xs.getD 0 .empty = x:=⟨_,rfl⟩;rw [hx0] at hc0;have hs1:catB (xs.take 1) = x0.data.toList:=by rw [yfH xs 0 (by have:=HL.out;omega),hx0];simp [catB]
   have hs1l:=yjr xs 1;rw [hs1,yar] at hs1l;have HS1:=jh hs1;clear hs1 hx0;have hx0l:x0.size <= 140737488355328:=by have:=HLEN.out;omega
   clear hs1l;have hc1:¬ c = 1:=by omega
   go_wp2_with fail
   refine (ybf w.heap.size w.heap.size [] x0 w2 (.inr h2b) (by simpa using hx0l) hb2'.size).mono ?_;rintro e w3 ⟨rfl,h3b,hb3⟩;have hb3':=hb2'.trans hb3;rw [List.nil_append,yb9,<- HS1.out] at h3b;clear h2b hb2' hb3 hc0;go_wp2_with fail
   go_loopw [65] (fun i wr=>∃ k:Nat,k <= n - 1 /\ i = .int .i64 (k:Int) /\ jd3 96 5 w.heap.size w.heap.size (ja6 (catB (xs.take (k + 1)))) wr /\ Below w.heap.size w wr) (fun i _=>n - 1 - (intOf i).toNat)
   case atStart=>exact ⟨0,Nat.zero_le _,rfl,h3b,hb3'⟩
   case round =>
    clear h3b hb3' hx0l;obtain ⟨k,hk,rfl,hb,hbel⟩:=hrel;have hsz:=hbel.size;by_cases hlt:k < n - 1
    ·have hck:wr.cell? ⟨b,off + 1 + k,none⟩ = some (.string (xs.getD (k + 1) .empty)):=by
      rw [hbel.cell (p:=⟨b,off + 1 + k,none⟩) (by show b < w.heap.size;omega),show off + 1 + k = off + (k + 1) by omega];exact HC.out (k + 1) (by omega)
     have hst:=yfH xs (k + 1) (by have:=HL.out;omega);have hle:=yjr xs (k + 1 + 1);have hlen:=HLEN.out;obtain ⟨x,hx⟩:∃ x,xs.getD (k + 1) .empty = x:=⟨_,rfl⟩;rw [hx] at hck hst;have hst2:(catB (xs.take (k + 1))).length + x.size <= 140737488355328:=by rw [hst,jla,yar] at hle;omega
     have hst3:ja6 (catB (xs.take (k + 1 + 1))) = ja6 (catB (xs.take (k + 1))) ++ Lib.strCells x:=by rw [hst,ybk,yb9]
     have HS:=jh hst3;clear hst hst3 hle hlen hx;have hz0:(ja6 (catB (xs.take (k + 1)))).length + (ByteArray.empty).size <= 140737488355328:=by rw [Lib.byteCells_length];show _ + 0 <= _;omega
     have hz1:(ja6 (catB (xs.take (k + 1)))).length + x.size <= 140737488355328:=by rw [Lib.byteCells_length];omega
     go_wp2_with fail
     refine (ybf w.heap.size w.heap.size _ .empty wr hb hz0 hsz).mono ?_;rintro e w4 ⟨rfl,h4,hb4⟩;have hbel4:=hbel.trans hb4;have he0:Lib.strCells .empty = []:=rfl;rw [he0,List.append_nil] at h4;have hck4:w4.cell? ⟨b,off + 1 + k,none⟩ = some (.string x):=(hb4.cell (p:=⟨b,off + 1 + k,none⟩) (by show b < w.heap.size;omega)).trans hck;clear hb hbel hck hb4 hz0;go_wp2_with fail
     refine (ybf w.heap.size w.heap.size _ x w4 h4 hz1 hbel4.size).mono ?_;rintro e w5 ⟨rfl,h5,hb5⟩;have hbel5:=hbel4.trans hb5;rw [<- HS.out] at h5;clear h4 hbel4 hb5 hck4;go_wp2_with fail
     go_roundw
     case rel=>exact ⟨k + 1,by omega,by simp,h5,hbel5⟩
     case measure=>simp [intOf];omega
    ·have hk2:k + 1 = n:=by omega
     have ht:xs.take (k + 1) = xs:=jtl (by have:=HL.out;omega);rw [ht] at hb;have hfin3:decide ((k:Int) < (n:Int) - 1) = false:=by simp;omega
     clear ht hk2;go_wp2_with fail
     refine (ybJ w.heap.size w.heap.size _ wr hb (by omega)).mono ?_;rintro e w4 ⟨rfl,hb4⟩;go_wp2_with fail
     go_ret
     exact ⟨rfl,hbel.trans hb4⟩
theorem yid (A:Option Addr) (c:Nat) (w:World) :
  Calls jq 27 #[.slice A 0 c,.string .empty] w fun e w'=>e = .returned (.string ⟨#[]⟩) /\ Below w.heap.size w w':=by
 go_enter Tryz.func27,Tryz.ntmps27
 go_wp2_with fail
 go_ret
 exact ⟨rfl,jc5 _ _⟩
theorem yiV (B:Nat) (A:Option Addr) (c:Nat) (x:ByteArray) (w:World) (h:Reads w B 1 A 1 [.string x]) :
  Calls jq 27 #[.slice A 1 c,.string .empty] w fun e w'=>e = .returned (.string x) /\ Below w.heap.size w w':=by
 obtain ⟨b,off,rfl,hbb,hc⟩:=Reads.vals (xs:=[x]) ja8 .empty h (k:=0) (by omega);have hck:w.cell? ⟨b,off,none⟩ = some (.string x):=hc 0 (by omega);clear hc;go_enter Tryz.func27,Tryz.ntmps27
 go_wp2_with fail
 go_ret
 exact ⟨rfl,jc5 _ _⟩
theorem yjO (B:Nat) (A:Option Addr) (n c:Nat) (xs:List ByteArray) (w:World) (hB:B <= w.heap.size) (h:Reads w B 1 A n (xs.map ja8)) (hnm:n <= 1000000) (hnc:n <= c) (hlen:(catB xs).length <= 140737488355328) :
  Calls jq 27 #[.slice A n c,.string .empty] w fun e w'=>e = .returned (.string ⟨(catB xs).toArray⟩) /\ Below w.heap.size w w':=by
 have hl:xs.length = n:=by simpa using h.1
 match xs,hl with
 | [],hl=>subst hl;exact yid A c w
 | [x],hl =>
  subst hl;refine (yiV B A c x w h).mono fun e w' ⟨he,hb⟩=>⟨?_,hb⟩;rw [he];exact congrArg _ (congrArg _ (ybM (by simp [catB])))
 | x :: y :: r,hl=>exact yie B A n c _ w hB h (by simp at hl;omega) hnm hnc hlen
def ylJ:Go.Shelf.Ren:=⟨fun | 99=>155 | 206=>175 | n=>n,fun | 3=>3 | 4=>4 | 9=>9 | n=>n,fun | n=>n⟩
theorem yk1:Go.Proofs.Lays.n99 jq ylJ:={
 mixed:=by kernel_rfl
 f99:=Tryz.func155.trans (congrArg some (by kernel_rfl))
 f206:=Tryz.func175.trans (congrArg some (by kernel_rfl))
 t3:=jb8
 a3:=Tryz.isAgg3
 z3:=Tryz.sizeOf3
 v3:=Tryz.zeroValue3
 t4:=Tryz.underlying4
 a4:=Tryz.isAgg4
 z4:=Tryz.sizeOf4
 v4:=Tryz.zeroValue4
 t9:=ja9
 a9:=Tryz.isAgg9
 z9:=Tryz.sizeOf9
 v9:=Tryz.zeroValue9 }
theorem yhh (s p:ByteArray) (w:World) :
  Calls jq 155 #[.string s,.string p] w fun e w'=>e = .returned (.bool (Lib.hasPrefix s.data.toList p.data.toList)) /\ w' = w:=Any.strings_HasPrefix yk1 s p w
def ypp:Go.Shelf.Ren:=⟨fun | 212=>176 | 263=>193 | 264=>194 | n=>n,fun | 46=>143 | 51=>235 | 53=>23 | 146=>236 | 148=>238 | n=>n,fun | n=>n⟩
theorem yoH:Go.Proofs.Lays.n212 jq ypp:={
 mixed:=by kernel_rfl
 f212:=Tryz.func176.trans (congrArg some (by kernel_rfl))
 f263:=Tryz.func193.trans (congrArg some (by kernel_rfl))
 f264:=Tryz.func194.trans (congrArg some (by kernel_rfl))
 t46:=Tryz.underlying143
 a46:=Tryz.isAgg143
 z46:=Tryz.sizeOf143
 v46:=Tryz.zeroValue143
 t51:=Tryz.underlying235
 a51:=Tryz.isAgg235
 z51:=Tryz.sizeOf235
 v51:=Tryz.zeroValue235
 t53:=ja5
 a53:=Tryz.isAgg23
 z53:=Tryz.sizeOf23
 v53:=Tryz.zeroValue23
 t146:=Tryz.underlying236
 a146:=Tryz.isAgg236
 z146:=Tryz.sizeOf236
 v146:=Tryz.zeroValue236
 t148:=Tryz.underlying238
 a148:=Tryz.isAgg238
 z148:=Tryz.sizeOf238
 v148:=Tryz.zeroValue238 }
theorem yoG (x y:Nat) (hxy:x * y < 18446744073709551616) (hx:x < 18446744073709551616) (hy:y < 18446744073709551616) (w:World) :
  Calls jq 176 #[.int .u64 (x:Int),.int .u64 (y:Int)] w fun e w'=>e = .returned (.tuple #[.int .u64 0,.int .u64 ((x * y:Nat):Int)]) /\ w' = w:=by
 refine (Any.bits_Mul yoH x y hx hy w).mono ?_;rintro e w' ⟨he,hw⟩;rw [Nat.div_eq_of_lt hxy,Nat.mod_eq_of_lt hxy] at he;exact ⟨he,hw⟩
theorem yn1 {P:Program} {w:World} (ts:Array TypeId) (t:TypeId) (x y z:Int) :
  (Builtin.min_ ts t #[.int .i64 x,.int .i64 y,.int .i64 z]).run P w = .ok (.int .i64 (if z < (if y < x then y else x) then z else (if y < x then y else x))) w:=by
 simp [Builtin.min_,Builtin.min2]
abbrev zs (c:Nat):List UInt8:=jc1 c 0
theorem yfW (S:ByteArray) (hS:S.data.toList = [0]) (c:Nat) (w:World) (hc2:2 <= c) (hc:c <= 32) :
  Calls jq 156 #[.string S,.int .i64 (c:Int)] w fun e w'=>e = .returned (.string ⟨(zs c).toArray⟩) /\ Below w.heap.size w w':=by
 have hz:S.size = 1:=by have:=congrArg List.length hS;rw [jb0] at this;exact this
 have g0:0 < S.size:=by omega
 have g2:((S[0]'g0).toNat:Int) = 0:=by
  have e2:S.data[0]? = some 0:=by
   have:S.data.toList[0]? = some 0:=by rw [hS];rfl
   simpa using this
  obtain ⟨_,e3⟩:=jes.1 e2;have:S[0]'g0 = 0:=e3;rw [this];rfl
 have hMul:=yoG 1 c (by omega) (by omega) (by omega) w;rw [Nat.one_mul] at hMul;have HM:Hid (Calls jq 176 #[.int .u64 1,.int .u64 (c:Int)] w fun e w'=>e = .returned (.tuple #[.int .u64 0,.int .u64 (c:Int)]) /\ w' = w):=jh hMul;have hzi:(S.size:Int) = 1:=by omega
 have e0:((c:Int) == 0) = false:=by rw [beq_eq_false_iff_ne];omega
 have e1:((c:Int) == 1) = false:=by rw [beq_eq_false_iff_ne];omega
 have d0:decide ((c:Int) < 0) = false:=decide_eq_false (by omega);have d1:decide ((9223372036854775807:Int) < (c:Int)) = false:=decide_eq_false (by omega);have d1':decide (9223372036854775807 < c) = false:=decide_eq_false (by omega);have d2:decide ((8192:Int) < (c:Int)) = false:=decide_eq_false (by omega);have d2':decide (8192 < c) = false:=decide_eq_false (by omega);have v1:IntKind.u64.wrap (c:Int) = (c:Int):=by rw [show (c:Int) = ((c:Nat):Int) from rfl];simp [IntKind.wrap,IntKind.bits,IntKind.signed];omega
 have v1':IntKind.u64.wrap (1:Int) = 1:=by decide
 have v2:IntKind.i64.wrap (c:Int) = (c:Int):=jii _ (by omega);have b0:Below w.heap.size w (w.alloc (.cells #[.pointer none,.slice none 0 0] 96)):=(jc5 _ w).alloc (jle _) _;have HG:=jh (yjS w.heap.size c (w.alloc (.cells #[.pointer none,.slice none 0 0] 96)) (heap_alloc_new w _) (by omega));have HB0:=jh b0;have HSS:=jh hS;clear hS hMul b0;go_enter Tryz.func156,Tryz.ntmps156
 go_wp2_with fail
 refine HM.out.mono ?_;rintro e w' ⟨rfl,hw⟩;rw [hw];clear hw HM;go_wp2_with fail
 refine HG.out.mono ?_;rintro e W1 ⟨rfl,h1,b1⟩;have b01:=jh (HB0.out.trans b1);have H1:=jh h1;clear h1 b1 HG HB0;go_wp2_with fail
 refine (ydv w.heap.size w.heap.size [] S W1 (Lib.IsBuilderF.of (Or.inr H1.out)) (by simp;omega) b01.out.size).mono ?_;rintro e W2 ⟨rfl,h2,b2⟩
 have H2:IsB w.heap.size w.heap.size (ja6 (zs 1)) W2:=by
  rw [List.nil_append,yb9,HSS.out] at h2;exact h2
 have b02:=b01.out.trans b2;clear h2 b2 b01 H1;go_wp2_with fail
 go_loopg [] (c - 1) (fun g wx=>∃ q:Nat,1 <= q /\ q + g = c /\ IsB w.heap.size w.heap.size (ja6 (zs q)) wx /\ Below w.heap.size w wx)
 case atStart=>exact ⟨1,jle _,by omega,H2,b02⟩
 case round =>
  obtain ⟨q,hq1,hqg,hB,hbx⟩:=hrel;have hlq:(ja6 (zs q)).length = q:=by rw [Lib.byteCells_length,List.length_replicate]
  have cLen:=yn5 w.heap.size w.heap.size _ wr hB;rw [hlq] at cLen;have HL:=jh cLen;have cStr:=yiG w.heap.size w.heap.size (zs q) wr hB hbx.size;obtain ⟨R,hR⟩:∃ R:ByteArray,(⟨(zs q).toArray⟩:ByteArray) = R:=⟨_,rfl⟩;have hRd:R.data.toList = zs q:=by rw [<- hR]
  have hRz:R.size = q:=by have:=congrArg List.length hRd;rw [jb0,List.length_replicate] at this;exact this
  rw [hR] at cStr;have HT:=jh cStr;have HRd:=jh hRd;have HR:=jh hR;have HBX:=jh hbx;have HLQ:=jh hlq;clear cLen cStr hRd hB hbx hlq H2 b02 hR;cases gk with
  | zero =>
   obtain rfl:q = c:=by omega
   have hQn:decide ((q:Int) < (q:Int)) = false:=by simp
   go_wp2_with fail
   refine HL.out.mono ?_;rintro e w' ⟨rfl,hw⟩;rw [hw];clear hw;go_wp2_with fail
   refine HT.out.mono ?_;rintro e W3 ⟨rfl,h3,b3⟩;have HB3:=jh (HBX.out.trans b3);clear h3 b3;go_wp2_with fail
   go_ret
   exact ⟨by rw [HR.out];rfl,HB3.out⟩
  | succ g =>
   have hQn:(q:Int) < (c:Int):=by omega
   obtain ⟨k,hk⟩:∃ k,min (c - q) q = k:=⟨_,rfl⟩
   have hmin3:∀ (ts:Array TypeId) (t:TypeId) (W:World),(Builtin.min_ ts t #[.int .i64 ((c:Int) - (q:Int)),.int .i64 (q:Int),.int .i64 (c:Int)]).run jq W = .ok (.int .i64 (k:Int)) W:=fun ts t W=>by
    rw [yn1];congr 2;omega
   have v3:IntKind.i64.wrap ((c:Int) - (q:Int)) = (c:Int) - (q:Int):=jii _ (by omega);have f1:(k:Int) <= (R.size:Int):=by omega
   have f2:k <= R.size:=by omega
   have HK:Hid (min (c - q) q = k):=jh hk;clear hk;go_wp2_with fail
   refine HL.out.mono ?_;rintro e w' ⟨rfl,hw⟩;rw [hw];clear hw;go_wp2_with fail
   refine HL.out.mono ?_;rintro e w' ⟨rfl,hw⟩;rw [hw];clear hw;go_wp2_with fail
   refine HL.out.mono ?_;rintro e w' ⟨rfl,hw⟩;rw [hw];clear hw;go_wp2_with fail
   refine HT.out.mono ?_;rintro e W3 ⟨rfl,h3,b3⟩;have hb3:=HBX.out.trans b3
   have HX:Hid ((R.extract 0 k).data.toList = zs k):=jh (by
    rw [Lib.extract_data,HRd.out];simp only [List.drop_zero,Nat.sub_zero,List.take_replicate];rw [Nat.min_eq_left (by have:=HK.out;omega)])
   have hxz:(R.extract 0 k).size = k:=by have:=congrArg List.length HX.out;rw [jb0,List.length_replicate] at this;exact this
   have HW:=jh (ydv w.heap.size w.heap.size _ (R.extract 0 k) W3 h3 (by rw [HLQ.out];omega) hb3.size);have HB3:=jh hb3;clear h3 b3 hb3 hxz;go_wp2_with fail
   refine HW.out.mono ?_;rintro e W4 ⟨rfl,h4,b4⟩;have hb4:=HB3.out.trans b4
   have h5:IsB w.heap.size w.heap.size (ja6 (zs (q + k))) W4:=by
    rw [yb9,<- ybk,HX.out,List.replicate_append_replicate] at h4;exact h4
   clear h4 b4;go_wp2_with fail
   go_roundg (c - (q + k))
   case measure=>have:=HK.out;omega
   case rel=>exact ⟨q + k,by omega,by have:=HK.out;omega,h5,hb4⟩
theorem yfV (S:ByteArray) (w:World) :
  Calls jq 156 #[.string S,.int .i64 0] w fun e w'=>e = .returned (.string ⟨#[]⟩) /\ w' = w:=by
 go_enter Tryz.func156,Tryz.ntmps156
 go_wp2_with fail
 go_ret
 exact ⟨rfl,rfl⟩
theorem ygY (S:ByteArray) (w:World) :
  Calls jq 156 #[.string S,.int .i64 1] w fun e w'=>e = .returned (.string S) /\ w' = w:=by
 go_enter Tryz.func156,Tryz.ntmps156
 go_wp2_with fail
 go_ret
 exact ⟨rfl,rfl⟩
theorem yk0 (S:ByteArray) (hS:S.data.toList = [0]) (c:Nat) (w:World) (hc:c <= 32) :
  Calls jq 156 #[.string S,.int .i64 (c:Int)] w fun e w'=>e = .returned (.string ⟨(zs c).toArray⟩) /\ Below w.heap.size w w':=by
 match c,hc with
 | 0,_=>exact (yfV S w).mono fun e w' ⟨he,hw⟩=>⟨he,hw ▸ jc5 _ _⟩
 | 1,_=>exact (ygY S w).mono fun e w' ⟨he,hw⟩=>⟨by rw [he];congr 2;exact ybM hS,hw ▸ jc5 _ _⟩
 | c + 2,hc=>exact yfW S hS (c + 2) w (by omega) hc
end Go.Proofs.YtgclnikdkfpflaaGreatDoor
