/- Merged: Base, Round, Keep, Class, Perm, Res, Bytes, MemD, Txt, NumP, BeV, FldP. -/
import Derived.Test.YtgclnikdkfpflaaGreatDoorRows
import Derived.WalkKit
import Derived.WalkSpells
import Derived.WalkLawsBesides
import Derived.Deep.AppendLies
import Derived.Deep.Draws
import Derived.Deep.QuietTactic
import Derived.BigQuiet
import Derived.Laws.OwnMore
import Derived.Laws.Rows
import Derived.Laws.MakeOwn
import Derived.Laws.Entries
import Derived.Laws.BitsAllLaws
import Derived.Laws.BitsLemmas
import Derived.Maps.AppendAt
import Derived.RegionTactic
import Derived.OwnWalk
import Derived.Deep.OwnRows
import Derived.LaidEql
import Derived.LaidEqlPtr
import Derived.Lib.Hide
import Derived.ChangeSame
import Derived.Carry
import Derived.OpenVars
import Derived.ProofKit
import Derived.OpenShut
import Derived.Deep.Slices
import Derived.Deep.Fields
import Derived.Lib.SmallJoins
import Derived.RangeFuncNested
import Derived.RangeFuncBound
import Derived.RangeFuncCalls
import Derived.RangeFuncLeaves
import Derived.RangeFuncBox
import Derived.Shelf.Abstract
import Derived.Shelf.RegionOpen
import Derived.OwnWalkIn
import Derived.TacticsInMore
import Derived.LoopNIn
import Derived.LoopIn
import Derived.StillTailTactics
import Derived.Deep.RegionHeld3
import Derived.OrdersHeld
import Derived.Laws.Concat
import Derived.Laws.IdiomStrings
import Derived.Deep.MidRow
import Derived.Deep.DeepCutAuto
import Derived.Lib.SlBytesConst
namespace Go.Proofs.YtgclnikdkfpflaaGreatDoor
open Go.RowKit Go.Shelf
open List renaming set_cons_zero → jz, set_cons_succ → js, setIfInBounds_toArray → jb
set_option linter.unusedVariables false
set_option linter.unusedSimpArgs false
set_option maxRecDepth 100000
set_option maxHeartbeats 16000000
open Go.RowKit
theorem block_of_add (a : Addr) (n : Nat) : (a.add n).block = a.block := by unfold Addr.add; split <;> rfl
def Reads (w : World) (B size : Nat) (A : Option Addr) (n : Nat) (xs : List Value) : Prop :=
 xs.length = n * size ∧ (0 < n → ∃ ad, A = some ad ∧ ad.block < B ∧ ∀ j u, xs[j]? = some u → w.cell? (ad.add j) = some u)
section
variable {w w' : World} {B B' size n : Nat} {A : Option Addr} {xs : List Value}
theorem Reads.none_ : Reads w B size A 0 [] := ⟨by simp, fun h => absurd h (by omega)⟩
theorem Reads.at_ {k : Nat} (h : Reads w B 1 A n xs) (hk : k < n) : ∃ ad u, A = some ad ∧ ad.block < B ∧ xs[k]? = some u ∧ w.cell? (ad.add k) = some u := by
 obtain ⟨ad, e, hb, hc⟩ := h.2 (by omega)
 have hl : k < xs.length := by have := h.1; omega
 exact ⟨ad, xs[k], e, hb, List.getElem?_eq_getElem hl, hc k _ (List.getElem?_eq_getElem hl)⟩
theorem Reads.keep (h : Reads w B size A n xs) (hk : ∀ p : Addr, p.block < B → w'.cell? p = w.cell? p) : Reads w' B size A n xs :=
 ⟨h.1, fun hn => by
  obtain ⟨ad, e, hb, hc⟩ := h.2 hn
  exact ⟨ad, e, hb, fun j u hu => (hk _ (by rw [block_of_add]; exact hb)).trans (hc j u hu)⟩⟩
theorem Reads.below (h : Reads w B size A n xs) (hb : Below B w w') : Reads w' B size A n xs := h.keep fun _ hp => hb.cell hp
theorem Reads.drew (h : Reads w B size A n xs) : Reads w.drew B size A n xs := h
theorem Reads.drewN (h : Reads w B size A n xs) (k : Nat) : Reads (w.drewN k) B size A n xs := h
theorem Reads.alloc (h : Reads w B size A n xs) (hB : B ≤ w.heap.size) (o : Obj) : Reads (w.alloc o) B size A n xs := h.keep fun p hp => World.cell?_alloc_lt w o p (by omega)
theorem Reads.setCell (h : Reads w B size A n xs) {p : Addr} (hB : B ≤ p.block) (u : Value) : Reads (w.setCell p u) B size A n xs :=
 h.keep fun q hq => World.cell?_setCell_other w p q u (fun e => by subst e; omega)
theorem Reads.grown (h : Reads w B size A n xs) {row : Option Nat} (hg : w.grownBy w' row) (hB : B ≤ w.heap.size) (hr : ∀ g, row = some g → B ≤ g) : Reads w' B size A n xs :=
 h.keep fun p hp => World.cell?_of_block (hg.block p.block (by omega) (fun e => by have := hr _ e.symm; omega))
theorem Reads.of_own {base : Nat} {e : TypeId} {c : Nat} (h : w.ownsRow base e size (.slice A n c) n xs) : Reads w w.heap.size size A n xs := by
 refine ⟨h.1, fun hn => ?_⟩
 obtain ⟨g, cap, hv, _, hlt⟩ := h.form hn
 have hA : A = some ⟨g, 0, none⟩ := by injection hv
 subst hA
 exact ⟨_, rfl, hlt, h.cells (g := g) rfl⟩
end
def Blk (w : World) (g : Nat) (t : TypeId) (cs : Array Value) : Prop := w.heap[g]? = some (.cells cs t (0, 0))
section
variable {w w' : World} {g : Nat} {t : TypeId} {cs : Array Value}
theorem Blk.lt (h : Blk w g t cs) : g < w.heap.size := by
 rcases Nat.lt_or_ge g w.heap.size with hlt | hge
 ·exact hlt
 ·unfold Blk at h; rw [Array.getElem?_eq_none hge] at h; cases h
theorem Blk.cell (h : Blk w g t cs) (i : Nat) : w.cell? ⟨g, i, none⟩ = cs[i]? := cell_of_row w g i cs t (0, 0) h
theorem Blk.frozen (h : Blk w g t cs) (i : Nat) : w.frozen? ⟨g, i, none⟩ = false := by
 unfold Blk at h
 simp [World.frozen?, h]
theorem Blk.new (w : World) (t : TypeId) (cs : Array Value) : Blk (w.alloc (.cells cs t)) w.heap.size t cs := heap_alloc_new w _
theorem Blk.drew (h : Blk w g t cs) : Blk w.drew g t cs := h
theorem Blk.drewN (h : Blk w g t cs) (n : Nat) : Blk (w.drewN n) g t cs := h
theorem Blk.alloc (h : Blk w g t cs) (o : Obj) : Blk (w.alloc o) g t cs := (Below.heap_alloc w o g h.lt).trans h
theorem Blk.set_ (h : Blk w g t cs) (i : Nat) (u : Value) : Blk (w.setCell ⟨g, i, none⟩ u) g t (cs.setIfInBounds i u) := by
 unfold Blk at h ⊢
 simp [World.setCell, Array.getElem?_modify, h]
theorem Blk.far (h : Blk w g t cs) {p : Addr} (hp : g ≠ p.block) (u : Value) : Blk (w.setCell p u) g t cs := (Below.heap_setCell w p u g hp).trans h
theorem Blk.below {B : Nat} (h : Blk w g t cs) (hb : Below B w w') (hg : g < B) : Blk w' g t cs := (hb.block g hg).trans h
theorem Blk.grown {row : Option Nat} (h : Blk w g t cs) (hb : w.grownBy w' row) (hg : some g ≠ row) : Blk w' g t cs := (hb.block g h.lt hg).trans h
end
section
variable {P : Program} (w : World)
end
theorem below_drewN {B : Nat} {a w : World} (h : Below B a w) (n : Nat) : Below B a (w.drewN n) := ⟨h.os, h.tape, h.output, h.size, h.block⟩
theorem only_drewN {a w : World} {row : Option Nat} (h : a.grownBy w row) (n : Nat) : a.grownBy (w.drewN n) row := ⟨h.os, h.tape, h.output, h.size, h.block⟩
theorem only_drew {a w : World} {row : Option Nat} (h : a.grownBy w row) : a.grownBy w.drew row := ⟨h.os, h.tape, h.output, h.size, h.block⟩
theorem only_alloc {a w : World} {row : Option Nat} (h : a.grownBy w row) (o : Obj) : a.grownBy (w.alloc o) row :=
 ⟨h.os, h.tape, h.output, Nat.le_trans h.size (by simp), fun i hi hne => (Below.heap_alloc w o i (Nat.lt_of_lt_of_le hi h.size)).trans (h.block i hi hne)⟩
theorem only_setCell {a w : World} {g : Nat} (h : a.grownBy w (some g)) {p : Addr} (hp : p.block = g ∨ a.heap.size ≤ p.block) (u : Value) : a.grownBy (w.setCell p u) (some g) :=
 ⟨h.os, h.tape, h.output, by simpa [World.setCell] using h.size, fun i hi hne => (Below.heap_setCell w p u i (by
  rintro rfl
  rcases hp with hp | hp
  ·exact hne (by rw [hp])
  ·omega)).trans (h.block i hi hne)⟩
theorem run_make_rowN {P : Program} (t e : TypeId) (i : TypeInfo) (z : Value) (ht : P.underlying t = some (.slice e)) (hi : P.info? e = some i) (hz : i.zero = some z)
  (kl kc : IntKind) (n c : Nat) (hnc : n ≤ c) (hbytes : i.bytes * c ≤ 281474976710656) (h63 : c ≤ 9223372036854775807) (w : World) :
  (Instr.makeSlice t (.int kl (n : Int)) (.int kc (c : Int))).run P w = .ok (.slice (some ⟨w.heap.size, 0, none⟩) n c) (w.alloc (.cells (madeCells z.cells (c * i.size)) e)) := by
 have hb : (i.bytes : Int) * (c : Int) ≤ 281474976710656 := by
  have h : ((i.bytes * c : Nat) : Int) ≤ 281474976710656 := by omega
  rwa [Int.natCast_mul] at h
 have hr := run_make (P := P) w t e i z ht hi hz kl kc n c (by omega) (by omega) hb (by omega)
 simp only [Int.toNat_natCast] at hr
 exact hr
theorem ofInt_i64 (a : Nat) (ha : a < 9223372036854775808) : (BitVec.ofInt 64 (a : Int)).toNat = a := by
 rw [BitVec.ofInt_natCast, BitVec.toNat_ofNat]; exact Nat.mod_eq_of_lt (by omega)
theorem i64_or_nat (a b : Nat) (ha : a < 9223372036854775808) (hb : b < 9223372036854775808) : bits .or .i64 (a : Int) (b : Int) = ((a ||| b : Nat) : Int) := by
 have hx : a ||| b < 2 ^ 63 := Nat.or_lt_two_pow (by omega) (by omega)
 show IntKind.i64.wrap ((BitVec.ofInt 64 (a : Int) ||| BitVec.ofInt 64 (b : Int)).toNat : Int) = _
 rw [BitVec.toNat_or, ofInt_i64 a ha, ofInt_i64 b hb, IntKind.wrap_i64]
 omega
def noDefer (ops : List Oper) : Bool := ops.all fun o => match o.op with | .defer _ => false | _ => true
theorem noDefer_spec {ops : List Oper} (h : noDefer ops = true) {o : Oper} (ho : o ∈ ops) (c : Call) : o.op ≠ .defer c := by
 intro e
 have := List.all_eq_true.1 h o ho
 simp [e] at this
theorem rowsIn_round {P : Program} {n r : Nat} {row : String} {args : Array Value} {w : World} {R : Value → World → Prop} (h : Rows P row args w R) : RowsIn (Fence.wide.inRound r) n P row args w R :=
 fun c cs _ => let ⟨v, w', q, s⟩ := h c cs; ⟨v, w', q, stepsIn_wide.2 s⟩
theorem uponIn_round {P : Program} {n r : Nat} {o : Oper} {a : Act} {next next' : Act → World → Prop} {Q : Exit → Act → World → Prop} (hQ : ∀ a w, ¬ Q .outgrown a w) (hn : ∀ a w, next a w → next' a w)
  (x : Result Next) (h : o.upon P a next Q x) : o.uponIn (Fence.wide.inRound r) n P a next' Q x := by
 have hd : (Fence.wide.inRound r).depth.isSome = true → 1 ≤ n := fun hd => by simp [Fence.wide] at hd
 cases x with
 | ok y w' =>
  cases y with
  | value v => exact hn _ _ h
  | skip => exact hn _ _ h
  | defer d => exact hn _ _ h
  | enter f args =>
   have h' : Calls P f args w' _ := h
   refine ⟨hd, CallsIn.inRound r (callsIn_wide.2 (h'.mono fun e w'' hh => ?_))⟩
   cases e with
   | returned v => exact hn _ _ hh
   | panicked chain => exact hh
   | outgrown =>
    obtain ⟨a', w', q⟩ : LetsOut Q := hh
    exact (hQ _ _ q).elim
  | row row args =>
   have h' : Rows P row args w' _ := h
   exact ⟨hd, rowsIn_round (h'.mono fun v w'' hh => hn _ _ hh)⟩
  | _ => exact h.elim
 | halt z w' =>
  cases z with
  | panic v => exact h
  | _ => exact h.elim
theorem wpOpsIn_round {P : Program} {ops : Array Oper} {n r : Nat} {Q : Exit → Act → World → Prop} (hd : noDefer ops.toList = true) (hQ : ∀ a w, ¬ Q .outgrown a w) :
  ∀ (l : List Nat) (a : Act) (w : World), wpOps P ops Q l a w → wpOpsIn (Fence.wide.inRound r) n P ops Q l a w := by
 intro l
 induction l with
 | nil => exact fun a w h => h
 | cons i rest ih =>
  intro a w h
  simp only [wpOps] at h
  simp only [wpOpsIn]
  cases ho : ops[i]? with
  | none => simp only [ho] at h ⊢; exact ih _ _ h
  | some o =>
   simp only [ho] at h ⊢
   by_cases hw : Region.wanted o (yielded ops a.tmps) = true
   ·rw [if_pos hw] at h ⊢
    rcases h with h | ⟨_, a', w', h⟩
    ·refine ⟨fun _ _ => trivial, ?_⟩
     rw [Oper.semAt_eq _ _ _ (noDefer_spec hd (by obtain ⟨hlt, e⟩ := Array.getElem?_eq_some_iff.1 ho; rw [← e]; exact Array.getElem_mem_toList hlt))]
     exact uponIn_round hQ (fun a w h => ih a w h) _ h
    ·exact (hQ _ _ h).elim
   ·rw [if_neg hw] at h ⊢
    exact ⟨fun _ _ => trivial, ih _ _ h⟩
section
variable {P : Program} {n r id : Nat} {Q : Exit → Act → World → Prop} {a : Act} {w : World} {l : List Oper} {ops : Array Oper}
theorem wpIn_region_any_round (hm : P.follows .mixedOrders = true) (hd : noDefer ops.toList = true) (hQ : ∀ a w, ¬ Q .outgrown a w)
  (h : wpAny P .any ops Q ops.size (Array.replicate ops.size false) a { w with drawn := w.drawn + 1 }) : (Code.region id ops true).wpIn (Fence.wide.inRound r) n P Q a w :=
 wpIn_region_draw fun t => by
  simp only [Region.schedule, hm, Bool.true_or, if_true]
  exact wpOpsIn_round hd hQ _ _ _ (wpAny_sound ops.size t _ a _ h)
theorem wpIn_tail_round (n' : Nat) (hm : P.follows .mixedOrders = true) (hB : Region.lexTailB .any l.toArray n' = true) (hd : noDefer l = true) (hQ : ∀ a w, ¬ Q .outgrown a w)
  (h : wpStill P l.toArray { w with drawn := w.drawn + 1 } (fun a' => wpList P l.toArray Q (l.drop n') a' { w with drawn := w.drawn + 1 }) (l.take n') a) : (Code.region id l.toArray true).wpIn (Fence.wide.inRound r) n P Q a w := by
 simp only [Region.lexTailB, Bool.and_eq_true, decide_eq_true_eq] at hB
 obtain ⟨⟨⟨⟨hsel, hn⟩, hs⟩, hc⟩, hlex⟩ := hB
 have hn' : n' < l.length := by simpa using hn
 have htl : (l.take n').length = n' := by simp; omega
 have hdl : (l.drop n').length = l.toArray.size - n' := by simp
 have inv0 : HeadInv .any l.toArray n' (Array.replicate l.toArray.size false) :=
  ⟨by simp, fun j oj _ hl => (by rw [getD_replicate_false] at hl; cases hl), fun t _ ht => getD_in (by simpa using ht) (getD_replicate_false _ _)⟩
 have H := wpAnyL_lex (md := .any) (g := l.toArray.size - n') hsel hs hc hn (l.take n') 0 _ a (fun j hj => by
  have hj' : j < n' := by rw [htl] at hj; exact hj
  simp [hj']) (by simpa using htl) inv0 (by rw [htl]; exact hlex) h
 refine wpIn_region_any_round hm (by simpa using hd) hQ ?_
 have := wpAny_of_head (Q' := Q) (g := l.toArray.size - n') (fun listed a' hL => by
  have := wpAny_of_seq (md := .any) (Q' := Q) (l.drop n') n' listed a' { w with drawn := w.drawn + 1 } (fun j => by simp [List.getElem?_drop]) (by rw [hdl]; exact hL.1) hL.2
  rwa [hdl] at this) _ _ _ H
 rw [htl, show n' + (l.toArray.size - n') = l.toArray.size by omega] at this
 exact this
end
structure KeepS (S : Nat → Prop) (W W' : World) : Prop where
 size : W.heap.size ≤ W'.heap.size
 block : ∀ k, S k → W'.heap[k]? = W.heap[k]?
section
variable {S : Nat → Prop} {W W' W'' : World}
theorem KeepS.refl (S : Nat → Prop) (W : World) : KeepS S W W := ⟨Nat.le_refl _, fun _ _ => rfl⟩
theorem KeepS.trans (h : KeepS S W W') (k : KeepS S W' W'') : KeepS S W W'' := ⟨Nat.le_trans h.size k.size, fun i hi => (k.block i hi).trans (h.block i hi)⟩
theorem KeepS.drewN (h : KeepS S W W') (n : Nat) : KeepS S W (W'.drewN n) := ⟨h.size, h.block⟩
theorem KeepS.grown (h : KeepS S W W') {row : Option Nat} (hg : W'.grownBy W'' row) (hS : ∀ k, S k → k < W'.heap.size) (hr : ∀ k, row = some k → ¬ S k) : KeepS S W W'' :=
 h.trans ⟨hg.size, fun k hk => hg.block k (hS k hk) (fun e => hr k e.symm hk)⟩
theorem KeepS.setCell (h : KeepS S W W') {p : Addr} (hp : ¬ S p.block) (u : Value) : KeepS S W (W'.setCell p u) :=
 h.trans ⟨by simp [World.setCell], fun k hk => Below.heap_setCell _ _ _ _ (fun e => hp (e ▸ hk))⟩
theorem KeepS.alloc (h : KeepS S W W') (hS : ∀ k, S k → k < W'.heap.size) (o : Obj) : KeepS S W (W'.alloc o) :=
 h.trans ⟨by simp, fun k hk => Below.heap_alloc _ _ _ (hS k hk)⟩
theorem KeepS.cell (h : KeepS S W W') {p : Addr} (hp : S p.block) : W'.cell? p = W.cell? p := World.cell?_of_block (w := W) (h.block p.block hp)
theorem keepS_t (h : KeepS S W W') (k : KeepS S W' W'') : KeepS S W W'' := h.trans k
theorem keepS_b {w : World} (hS : ∀ k, S k → k < w.heap.size) (W : World) (l : Nat) (o o' : Obj) (hl : w.heap.size ≤ l) (_ : W.heap[l]? = some o) (_ : o.isCells = false) (_ : o.isWalk = false) : KeepS S W (W.putObj l o') :=
 ⟨(grownBy_putObj' W l o').size, fun k hk => World.putObj_heap_other (by have := hS k hk; omega)⟩
theorem KeepS.appended {w1 : World} {B : Nat} {v v' : Value} {tmp : Obj} (hS : ∀ k, S k → k < W.heap.size) (hr : ∀ g, v.ownBlock = some g → ¬ S g) (hB : ¬ S B) (hg : (W.alloc tmp).grownBy w1 v.ownBlock) : KeepS S W (w1.setCell ⟨B, 0, none⟩ v') :=
 (((KeepS.refl S W).alloc hS tmp).grown hg (fun k hk => by have := hS k hk; simp; omega) hr).setCell (p := ⟨B, 0, none⟩) hB v'
theorem ownBlock_ge {w : World} {base : Nat} {e : TypeId} {size : Nat} {v : Value} {k : Nat} {xs : List Value} (h : w.ownsRow base e size v k xs) {g : Nat} (hg : v.ownBlock = some g) : base ≤ g := by
 rcases h.2 with ⟨rfl, _⟩ | ⟨g', cap, cur, rfl, hb, _⟩
 ·simp [Value.ownBlock] at hg
 ·obtain rfl : g' = g := by simpa [Value.ownBlock] using hg
  exact hb
theorem KeepS.appendedBox {w1 : World} {n₀ B Bs : Nat} {ti e : TypeId} {u v v' : Value} {size k : Nat} {xs : List Value} {tmp : Obj} (hn : n₀ ≤ W.heap.size) (hI : Boxed W Bs ti u) (hti : ti ≠ e) (hrow : W.ownsRow n₀ e size v k xs)
  (hB : n₀ ≤ B) (hBs : B ≠ Bs) (hg : (W.alloc tmp).grownBy w1 v.ownBlock) : KeepS (fun k => k < n₀ ∨ k = Bs) W (w1.setCell ⟨B, 0, none⟩ v') ∧ Boxed (w1.setCell ⟨B, 0, none⟩ v') Bs ti u := by
 have hne := hI.not_row hti hrow
 have hk : KeepS (fun k => k < n₀ ∨ k = Bs) W (w1.setCell ⟨B, 0, none⟩ v') := by
  refine KeepS.appended (fun k hk => ?_) (fun g hgb hk => ?_) (by rintro (h | h); omega; exact hBs h) hg
  ·rcases hk with hk | rfl
   ·omega
   ·exact hI.lt
  ·rcases hk with hk | rfl
   ·have := ownBlock_ge hrow hgb; omega
   ·exact hne hgb.symm
 exact ⟨hk, (hk.block Bs (.inr rfl)).trans hI⟩
end
theorem Boxed.below {W W' : World} {B : Nat} {t : TypeId} {v : Value} (h : Boxed W B t v) (hb : Below W.heap.size W W') : Boxed W' B t v := (hb.block B h.lt).trans h
theorem reads_blk {w : World} {b B : Nat} {t : TypeId} {cs : Array Value} {fr : Nat × Nat} (h : w.heap[b]? = some (.cells cs t fr)) (hB : b < B) (n : Nat) (hn : n = cs.size) : Reads w B 1 (some ⟨b, 0, none⟩) n cs.toList := by
 refine ⟨by simp [hn], fun _ => ⟨⟨b, 0, none⟩, rfl, hB, fun j u hu => ?_⟩⟩
 have e : (⟨b, 0, none⟩ : Addr).add j = ⟨b, j, none⟩ := by
  unfold Addr.add
  by_cases hj : j = 0
  ·subst hj; simp
  ·simp [hj]
 rw [e]
 simpa [World.cell?, h] using hu
theorem own_slice {w : World} {base : Nat} {e : TypeId} {v : Value} {n : Nat} {xs : List Value} (h : w.ownsRow base e 1 v n xs) : ∃ A c, v = .slice A n c ∧ Reads w w.heap.size 1 A n xs := by
 rcases h.2 with ⟨rfl, h0⟩ | ⟨g, cap, cur, rfl, _⟩
 ·obtain rfl : xs = [] := List.eq_nil_of_length_eq_zero (by rw [h.1, h0])
  refine ⟨none, 0, by rw [h0], by rw [h0]; exact Reads.none_⟩
 ·exact ⟨_, _, rfl, Reads.of_own h⟩
section
variable {P : Program} {ops : Array Oper} {C : World → Prop} {Q : Act → Prop} {a : Act} {o : Oper} {rest : List Oper}
theorem wp_region_class {id : Nat} {Q : Exit → Act → World → Prop} {w : World} {l : List Oper} (C : World → Prop) (hm : P.follows .mixedOrders = true) (hB : Region.lexB .any l.toArray = true) (hC : C w.drew)
  (h : wpQuiet P l.toArray C (fun a' => ∀ w', C w' → Q .normal a' w') l a) : (Code.region id l.toArray true).wp P Q a w :=
 wp_region_quiet (C := C) hm hB hC (by simpa using h)
theorem wpQuiet_value (hw : Region.wanted o (yielded ops a.tmps) = true) (v : Value) (h : ∀ W, C W → (execOp a.eval o).run P W = .ok (.value v) W) (hk : wpQuiet P ops C Q rest (a.put o.dst v)) : wpQuiet P ops C Q (o :: rest) a :=
 wpQuiet_step fun K hK => by rw [if_pos hw]; exact ⟨v, fun W hW => by unfold Oper.quietAt; rw [h W hW]; exact ⟨rfl, rfl⟩, hK _ hk⟩
theorem wpQuiet_enter (hw : Region.wanted o (yielded ops a.tmps) = true) (v : Value) (f : FuncId) (args : Array Value) (h : ∀ W, C W → (execOp a.eval o).run P W = .ok (.enter f args) W)
  (hc : ∀ W, C W → Calls P f args W fun e w'' => e = .returned v ∧ C w'') (hk : wpQuiet P ops C Q rest (a.put o.dst v)) : wpQuiet P ops C Q (o :: rest) a :=
 wpQuiet_step fun K hK => by rw [if_pos hw]; exact ⟨v, fun W hW => by unfold Oper.quietAt; rw [h W hW]; exact ⟨rfl, hc W hW⟩, hK _ hk⟩
theorem class_const {W : World} (h : C W) (p : Prop) : (∀ w, C w → p) ↔ p := ⟨fun k => k W h, fun k _ _ => k⟩
theorem exec_call1 {W : World} (f : FuncId) (x : Operand) (ts : Array TypeId) (ho : o.op = .call { callee := .value (.func f), args := #[x], argTypes := ts }) (v : Value) (hx : a.eval x = v)
  (hf : (callFunc f #[v]).run P W = .ok (.enter f #[v]) W) : (execOp a.eval o).run P W = .ok (.enter f #[v]) W := by
 have he : a.eval (.func f) = .func (.func f) #[] #[] := rfl
 unfold execOp
 generalize a.eval = ev at *
 simp only [ho]
 simp [resolve, invoke, go_sem, hx, he, hf]
end
section
variable {P : Program} {ops : Array Oper} {md : Region.Mode} {Q : Exit → Act → World → Prop} {S : World → Prop}
theorem wpAnyH_one {i : Nat} {oi : Oper} {fuel : Nat} {listed : Array Bool} {a : Act} {w w' : World} (hi : ops[i]? = some oi) (hr : Region.ready md ops listed = [i]) (hw : Region.wanted oi (yielded ops a.tmps) = true)
  (hrun : (execOp a.eval oi).run P w = .ok .skip w') (hS : S w') (h : wpAnyH P md ops Q S fuel (listed.setIfInBounds i true) (a.put oi.dst undef) w') : wpAnyH P md ops Q S (fuel + 1) listed a w := by
 refine wpAnyH_all hr (by simp) fun j hj => ?_
 obtain rfl : j = i := by simpa using hj
 unfold wpOp
 simp only [hi, hw, if_true]
 refine .inl ?_
 unfold Oper.wp
 rw [hrun]
 exact ⟨hS, h⟩
theorem wpIn_held_round {n r id : Nat} {w : World} {a : Act} {l : List Oper} (S : World → Prop) (hm : P.follows .mixedOrders = true) (hd : noDefer l = true) (hQ : ∀ a w, ¬ Q .outgrown a w)
  (h : wpAnyH P .any l.toArray Q S l.toArray.size (Array.replicate l.toArray.size false) a w.drew) : (Code.region id l.toArray true).wpIn (Fence.wide.inRound r) n P Q a w :=
 wpIn_region_any_round hm (by simpa using hd) hQ (wpAny_of_held _ _ _ _ h)
end
theorem below_of_grown {w w' : World} (h : w.grownBy w' none) : Below w.heap.size w w' := ⟨h.os, h.tape, h.output, h.size, fun i hi => h.block i hi (by simp)⟩
theorem grown_of_below {w w' : World} (h : Below w.heap.size w w') : w.grownBy w' none := ⟨h.os, h.tape, h.output, h.size, fun i hi _ => h.block i hi⟩
section
variable {P : Program} {ops : Array Oper} {md : Region.Mode} {Q : Exit → Act → World → Prop} {S : World → Prop}
abbrev Behind (P : Program) (ops : Array Oper) (md : Region.Mode) (Q : Exit → Act → World → Prop) (S : World → Prop) (fuel : Nat) (listed : Array Bool) (i : Nat) : Act → World → Prop := fun a' w' => S w' ∧ wpAnyH P md ops Q S fuel (listed.setIfInBounds i true) a' w'
theorem held_one {i fuel : Nat} {listed : Array Bool} {a : Act} {w : World} (hr : Region.ready md ops listed = [i]) (h : wpOp P ops Q i (Behind P ops md Q S fuel listed i) a w) : wpAnyH P md ops Q S (fuel + 1) listed a w :=
 wpAnyH_all hr (by simp) fun j hj => by
  obtain rfl : j = i := by simpa using hj
  exact h
theorem held_two {i j fuel : Nat} {listed : Array Bool} {a : Act} {w : World} (hr : Region.ready md ops listed = [i, j]) (h : wpOp P ops Q i (Behind P ops md Q S fuel listed i) a w) (k : wpOp P ops Q j (Behind P ops md Q S fuel listed j) a w) : wpAnyH P md ops Q S (fuel + 1) listed a w :=
 wpAnyH_all hr (by simp) fun l hl => by
  rcases List.mem_cons.1 hl with rfl | hl
  ·exact h
  ·obtain rfl : l = j := by simpa using hl
   exact k
theorem held_take {i : Nat} {oi : Oper} {v : Value} {fuel : Nat} {listed : Array Bool} {a : Act} {w : World} (d : Option Tmp) (hi : ops[i]? = some oi)
  (hs : Region.noSelect ops = true) (hf : Region.free md ops listed i = true) (hr : (Region.ready md ops listed).contains i = true)
  (hQ : ∀ c a w, Q (.panic c) (a.put oi.dst v) w → Q (.panic c) a w) (hd : oi.dst = d) (hy : YieldsIf P ops S oi v a) (hS : S w)
  (h : wpAnyH P md ops Q S fuel (listed.setIfInBounds i true) (a.put d v) w) : wpAnyH P md ops Q S (fuel + 1) listed a w := by
 subst hd
 exact wpAnyH_take hi hs hf hr hQ hy hS h
theorem held_value (d : Option Tmp) {i fuel : Nat} {listed : Array Bool} {oi : Oper} {a : Act} {w w' : World} (hi : ops[i]? = some oi) (hw : Region.wanted oi (yielded ops a.tmps) = true) (v : Value) (hrun : (execOp a.eval oi).run P w = .ok (.value v) w') (hd : oi.dst = d) (hS : S w')
  (h : wpAnyH P md ops Q S fuel (listed.setIfInBounds i true) (a.put d v) w') : wpOp P ops Q i (Behind P ops md Q S fuel listed i) a w := by
 subst hd
 unfold wpOp
 simp only [hi, hw, if_true]
 refine .inl ?_
 unfold Oper.wp
 rw [hrun]
 exact ⟨hS, h⟩
theorem held_enter (d : Option Tmp) {i fuel : Nat} {listed : Array Bool} {oi : Oper} {a : Act} {w : World} (hi : ops[i]? = some oi) (hw : Region.wanted oi (yielded ops a.tmps) = true) (f : FuncId) (args : Array Value) (hrun : (execOp a.eval oi).run P w = .ok (.enter f args) w) (hd : oi.dst = d)
  (h : Calls P f args w fun e w' => ∃ v, e = .returned v ∧ S w' ∧ wpAnyH P md ops Q S fuel (listed.setIfInBounds i true) (a.put d v) w') : wpOp P ops Q i (Behind P ops md Q S fuel listed i) a w := by
 subst hd
 unfold wpOp
 simp only [hi, hw, if_true]
 refine .inl ?_
 unfold Oper.wp
 rw [hrun]
 refine h.mono fun e w' he => ?_
 obtain ⟨v, rfl, hS, h⟩ := he
 exact ⟨hS, h⟩
theorem exec_call2 {a : Act} {o : Oper} {W : World} (f : FuncId) (x y : Operand) (ts : Array TypeId) (ho : o.op = .call { callee := .value (.func f), args := #[x, y], argTypes := ts }) (v u : Value) (hx : a.eval x = v) (hy : a.eval y = u)
  (hf : (callFunc f #[v, u]).run P W = .ok (.enter f #[v, u]) W) : (execOp a.eval o).run P W = .ok (.enter f #[v, u]) W := by
 have he : a.eval (.func f) = .func (.func f) #[] #[] := rfl
 unfold execOp
 generalize a.eval = ev at *
 simp only [ho]
 simp [resolve, invoke, go_sem, hx, hy, he, hf]
theorem exec_addstr {a : Act} {o : Oper} {W : World} (t u : TypeId) (x y : Operand) (ho : o.op = .binOp .add t x y u) (p q : ByteArray) (hx : a.eval x = .string p) (hy : a.eval y = .string q) (hl : p.size + q.size ≤ 9223372036854775807) :
  (execOp a.eval o).run P W = .ok (.value (.string (p ++ q))) W := by
 have h1 := run_string_add_sum (P := P) W p q hl
 unfold execOp
 generalize a.eval = ev at *
 simp only [ho]
 simp [go_sem, hx, hy, h1, binOp]
end
theorem zt {P : Program} {ops : Array Oper} {md : Region.Mode} {Q : Exit → Act → World → Prop} {S : World → Prop} {oi : Oper} {fuel : Nat} {listed : Array Bool} {a : Act} {w : World} (i : Nat) (v : Value) (d : Option Tmp) (hi : ops[i]? = some oi) (hy : ∀ W, S W → (execOp a.eval oi).run P W = .ok (.value v) W) (hS : S w)
 (h : wpAnyH P md ops Q S fuel (listed.setIfInBounds i true) (a.put d v) w) (hs : Region.noSelect ops = true := by kernel_rfl) (hf : Region.free md ops listed i = true := by kernel_rfl) (hr : (Region.ready md ops listed).contains i = true := by kernel_rfl)
 (hQ : ∀ c a w, Q (.panic c) (a.put oi.dst v) w → Q (.panic c) a w := by exact fun _ _ _ h => h) (hd : oi.dst = d := by rfl) (hw : Region.wanted oi (yielded ops a.tmps) = true := by rfl) : wpAnyH P md ops Q S (fuel + 1) listed a w :=
 held_take (i := i) (v := v) d hi hs hf hr hQ hd (Or.inl ⟨hw, hy⟩) hS h
section
variable {P : Program}
theorem load_cell {w : World} {a : Addr} {v : Value} {t : TypeId} {d : TypeDesc} (ht : P.underlying t = some d) (hd : (match d with | .struct _ | .array _ _ => true | _ => false) = false) (hc : w.cell? a = some v) : (loadVar t a).run P w = .ok v w := by
 have hagg : (isAgg t).run P w = .ok false w := by
  unfold isAgg
  rw [Sem.run_bind, run_underlying ht w]
  cases d <;> simp_all
 simp [loadVar, Sem.run_bind, hagg, hc, go_sem]
theorem results_cell1 {fn : Func} {p : Tmp} {t : TypeId} (h : fn.results = #[.cell p t]) (tmps : Array Value) (w : World) (a : Addr) (x : Value) (hp : tmps.getD p undef = .pointer (some a)) (hx : (loadVar t a).run P w = .ok x w) : (results fn tmps).run P w = .ok x w := by
 have hp' : tmps[p]?.getD undef = .pointer (some a) := by simpa using hp
 simp [results, h, hp', asAddr, hx]
theorem results_cell2 {fn : Func} {p q : Tmp} {t u : TypeId} (h : fn.results = #[.cell p t, .cell q u]) (tmps : Array Value) (w : World) (a b : Addr) (x y : Value) (hp : tmps.getD p undef = .pointer (some a)) (hq : tmps.getD q undef = .pointer (some b))
  (hx : (loadVar t a).run P w = .ok x w) (hy : (loadVar u b).run P w = .ok y w) : (results fn tmps).run P w = .ok (.tuple #[x, y]) w := by
 have hp' : tmps[p]?.getD undef = .pointer (some a) := by simpa using hp
 have hq' : tmps[q]?.getD undef = .pointer (some b) := by simpa using hq
 simp [results, h, hp', hq', asAddr, hx, hy]
theorem results_cell3 {fn : Func} {p q r : Tmp} {t u s : TypeId} (h : fn.results = #[.cell p t, .cell q u, .cell r s]) (tmps : Array Value) (w : World) (a b c : Addr) (x y z : Value) (hp : tmps.getD p undef = .pointer (some a)) (hq : tmps.getD q undef = .pointer (some b)) (hr : tmps.getD r undef = .pointer (some c))
  (hx : (loadVar t a).run P w = .ok x w) (hy : (loadVar u b).run P w = .ok y w) (hz : (loadVar s c).run P w = .ok z w) : (results fn tmps).run P w = .ok (.tuple #[x, y, z]) w := by
 have hp' : tmps[p]?.getD undef = .pointer (some a) := by simpa using hp
 have hq' : tmps[q]?.getD undef = .pointer (some b) := by simpa using hq
 have hr' : tmps[r]?.getD undef = .pointer (some c) := by simpa using hr
 simp [results, h, hp', hq', hr', asAddr, hx, hy, hz]
end
theorem box3 (w : World) (a b c : Value) (t u s : TypeId) : Boxed (((w.alloc (.cells #[a] t)).alloc (.cells #[b] u)).alloc (.cells #[c] s)) w.heap.size t a ∧ Boxed (((w.alloc (.cells #[a] t)).alloc (.cells #[b] u)).alloc (.cells #[c] s)) (w.heap.size + 1) u b ∧
  Boxed (((w.alloc (.cells #[a] t)).alloc (.cells #[b] u)).alloc (.cells #[c] s)) (w.heap.size + 1 + 1) s c ∧ Below w.heap.size w (((w.alloc (.cells #[a] t)).alloc (.cells #[b] u)).alloc (.cells #[c] s)) ∧ (((w.alloc (.cells #[a] t)).alloc (.cells #[b] u)).alloc (.cells #[c] s)).heap.size = w.heap.size + 3 := by
 have h2 := (Boxed.new (w.alloc (.cells #[a] t)) u b).alloc (.cells #[c] s)
 have h3 := Boxed.new ((w.alloc (.cells #[a] t)).alloc (.cells #[b] u)) s c
 rw [World.size_alloc] at h2
 rw [World.size_alloc, World.size_alloc] at h3
 exact ⟨((Boxed.new w t a).alloc _).alloc _, h2, h3, (((Below.refl _ w).alloc (Nat.le_refl _) _).alloc (by simp) _).alloc (by simp; omega) _, by simp⟩
theorem box4 (w : World) (a b c d : Value) (t u s r : TypeId) : Boxed ((((w.alloc (.cells #[a] t)).alloc (.cells #[b] u)).alloc (.cells #[c] s)).alloc (.cells #[d] r)) w.heap.size t a ∧ Boxed ((((w.alloc (.cells #[a] t)).alloc (.cells #[b] u)).alloc (.cells #[c] s)).alloc (.cells #[d] r)) (w.heap.size + 1) u b ∧
  Boxed ((((w.alloc (.cells #[a] t)).alloc (.cells #[b] u)).alloc (.cells #[c] s)).alloc (.cells #[d] r)) (w.heap.size + 1 + 1) s c ∧ Boxed ((((w.alloc (.cells #[a] t)).alloc (.cells #[b] u)).alloc (.cells #[c] s)).alloc (.cells #[d] r)) (w.heap.size + 1 + 1 + 1) r d ∧
  Below w.heap.size w ((((w.alloc (.cells #[a] t)).alloc (.cells #[b] u)).alloc (.cells #[c] s)).alloc (.cells #[d] r)) ∧ ((((w.alloc (.cells #[a] t)).alloc (.cells #[b] u)).alloc (.cells #[c] s)).alloc (.cells #[d] r)).heap.size = w.heap.size + 4 := by
 obtain ⟨h1, h2, h3, h4, h5⟩ := box3 w a b c t u s
 have h6 := Boxed.new (((w.alloc (.cells #[a] t)).alloc (.cells #[b] u)).alloc (.cells #[c] s)) r d
 rw [h5] at h6
 exact ⟨h1.alloc _, h2.alloc _, h3.alloc _, h6, h4.alloc (by omega) _, by simp [h5]⟩
theorem only_set {a w : World} {row : Option Nat} (h : a.grownBy w row) {p : Addr} (hp : a.heap.size ≤ p.block) (u : Value) : a.grownBy (w.setCell p u) row :=
 ⟨h.os, h.tape, h.output, by simpa [World.setCell] using h.size, fun i hi hne => (Below.heap_setCell w p u i (by omega)).trans (h.block i hi hne)⟩
theorem grown_self {a w w' : World} {row : Option Nat} (h : a.grownBy w row) {r : Option Nat} (hg : w.grownBy w' r) (hr : ∀ k, r = some k → row = some k ∨ a.heap.size ≤ k) : a.grownBy w' row :=
 ⟨hg.os.trans h.os, hg.tape.trans h.tape, hg.output.trans h.output, Nat.le_trans h.size hg.size, fun k hk hne =>
  (hg.block k (Nat.lt_of_lt_of_le hk h.size) (fun e => by rcases hr k e.symm with e2 | e2; exact hne e2.symm; omega)).trans (h.block k hk hne)⟩
def bytesC (l : List UInt8) : Array Value := (l.map fun b => Value.int .u8 (b.toNat : Int)).toArray
theorem bytesC_cell {w : World} {g : Nat} {t : TypeId} {l : List UInt8} (h : Blk w g t (bytesC l)) (i : Nat) (hi : i < l.length) : w.cell? ⟨g, i, none⟩ = some (.int .u8 ((l.getD i 0).toNat : Int)) := by
 rw [Blk.cell h i]
 unfold bytesC
 simp only [List.getElem?_toArray, List.getElem?_map, List.getElem?_eq_getElem hi, List.getD_eq_getElem?_getD]
 rfl
theorem bytesC_setI (l : List UInt8) (i : Nat) (x : UInt8) : (bytesC l).setIfInBounds i (.int .u8 (x.toNat : Int)) = bytesC (l.set i x) := by
 unfold bytesC
 rw [List.map_set]
 simp
theorem make_u8 (m : Nat) (hm : m ≤ 1000000) (w : World) : (Instr.makeSlice 43 (.int .i64 (m : Int)) (.int .i64 (m : Int))).run Tryz.prog w =
  .ok (.slice (some ⟨w.heap.size, 0, none⟩) m m) (w.alloc (.cells (bytesC (List.replicate m 0)) 5)) := by
 have hs : (Tryz.prog.info? 5).isSome = true := by kernel_rfl
 obtain ⟨i, hi⟩ := Option.isSome_iff_exists.1 hs
 have hb : (Tryz.prog.info? 5).map (·.bytes) = some 1 := by kernel_rfl
 have hsz : (Tryz.prog.info? 5).map (·.size) = some 1 := by kernel_rfl
 have hz : (Tryz.prog.info? 5).bind (·.zero) = some (.int .u8 0) := by kernel_rfl
 rw [hi] at hb hsz hz
 simp only [Option.map_some, Option.some.injEq, Option.bind_some] at hb hsz hz
 have hmk := run_make_rowN (P := Tryz.prog) 43 5 i _ (by kernel_rfl) hi hz .i64 .i64 m m (Nat.le_refl _) (by rw [hb]; omega) (by omega) w
 rw [hmk, hsz]
 congr 3
 refine Array.ext_getElem? fun j => ?_
 by_cases hj : j < m
 ·simp [madeCells, bytesC, hj, Value.cells, Nat.mod_one]
 ·rw [Array.getElem?_eq_none (by simp [madeCells]; omega), Array.getElem?_eq_none (by simp [bytesC]; omega)]
def u8s (l : List UInt8) : List Value := l.map fun b => Value.int .u8 (b.toNat : Int)
theorem byte_info : ∃ i z, Tryz.prog.info? 5 = some i ∧ i.zero = some z ∧ i.size = 1 ∧ i.bytes = 1 ∧ z.cells.size = 1 := by
 have hs : (Tryz.prog.info? 5).isSome = true := by kernel_rfl
 obtain ⟨i, hi⟩ := Option.isSome_iff_exists.1 hs
 have hb : (Tryz.prog.info? 5).map (·.bytes) = some 1 := by kernel_rfl
 have hsz : (Tryz.prog.info? 5).map (·.size) = some 1 := by kernel_rfl
 have hz : (Tryz.prog.info? 5).bind (·.zero) = some (.int .u8 0) := by kernel_rfl
 rw [hi] at hb hsz hz
 simp only [Option.map_some, Option.some.injEq, Option.bind_some] at hb hsz hz
 exact ⟨i, _, hi, hz, hsz, hb, rfl⟩
theorem own_new1 (w : World) (b : UInt8) : (w.alloc (.cells #[.int .u8 (b.toNat : Int)] 5)).ownsRow w.heap.size 5 1 (.slice (some ⟨w.heap.size, 0, none⟩) 1 1) 1 (u8s [b]) :=
 ⟨rfl, .inr ⟨w.heap.size, 1, _, rfl, Nat.le_refl _, heap_alloc_new w _, Nat.le_refl _, by simp only [maxLen]; omega, rfl, rfl⟩⟩
theorem own_ge {w : World} {base : Nat} {e : TypeId} {size : Nat} {v : Value} {k : Nat} {xs : List Value} (h : w.ownsRow base e size v k xs) {g : Nat} (hg : v.ownBlock = some g) : base ≤ g := by
 rcases h.2 with ⟨rfl, _⟩ | ⟨g', cap, cur, rfl, hb, _⟩
 ·cases hg
 ·cases hg; exact hb
theorem own_cell {w : World} {base g cap n : Nat} {e : TypeId} {l : List UInt8} (h : w.ownsRow base e 1 (.slice (some ⟨g, 0, none⟩) n cap) n (u8s l)) (j : Nat) (hj : j < n) : w.cell? ⟨g, j, none⟩ = some (.int .u8 ((l.getD j 0).toNat : Int)) := by
 obtain ⟨hl, h⟩ := h
 rcases h with ⟨h, _⟩ | ⟨g', cap', cur, hv, hb, hg, hn, hc, hs, ht⟩
 ·cases h
 ·cases hv
  have hlen : l.length = n := by simpa [u8s] using hl
  rw [cell_of_row w g j cur e (0, 0) hg]
  have h2 : (cur.toList.take (n * 1))[j]? = (u8s l)[j]? := by rw [ht]
  rw [List.getElem?_take_of_lt (by omega)] at h2
  rw [← Array.getElem?_toList, h2]
  simp [u8s, List.getD_eq_getElem?_getD, List.getElem?_eq_getElem (show j < l.length by omega)]
theorem wrap_u (k : Nat) (h : k < 64) : IntKind.u64.wrap (k : Int) = (k : Int) := by
 simp [IntKind.wrap, IntKind.bits, IntKind.signed]
 omega
theorem idx_str (s : ByteArray) (i : Nat) (c : UInt8) (h : s.data.toList[i]? = some c) (w : World) : (Instr.index 9 (.string s) (.int .i64 (i : Int))).run Tryz.prog w = .ok (.int .u8 (c.toNat : Int)) w := by
 have hi : i < s.data.size := by
  obtain ⟨hi, _⟩ := List.getElem?_eq_some_iff.1 h
  simpa using hi
 have hc : s.data[i] = c := by
  rw [List.getElem?_eq_getElem (by simpa using hi)] at h
  injection h with h
 have hs : i < s.size := hi
 have := run_index_string (P := Tryz.prog) (w := w) 9 s .i64 (i : Int) (by kernel_rfl)
 rw [this, dif_pos ⟨by omega, by omega⟩]
 simp only [Int.toNat_natCast]
 rw [← hc]
 rfl
theorem ba_toList (a b : ByteArray) : (a ++ b).data.toList = a.data.toList ++ b.data.toList := by simp
theorem ba_len (s : ByteArray) : s.data.toList.length = s.size := Array.length_toList
theorem conv_own {w : World} {base n : Nat} {v : Value} {l : List UInt8} (h : w.ownsRow base 5 1 v n (u8s l)) : (convert 43 9 v).run Tryz.prog w = .ok (.string ⟨l.toArray⟩) w := by
 have hl : l.length = n := by have := h.1; simpa [u8s] using this
 rcases h.2 with ⟨rfl, h0⟩ | ⟨g, cap, cur, rfl, hb, hg, hn, hc, hs, ht⟩
 ·subst h0
  obtain rfl : l = [] := List.eq_nil_of_length_eq_zero hl
  rw [run_convert_bytes_string w 43 9 5 none 0 0 (by kernel_rfl) (by kernel_rfl) (by kernel_rfl)]
  simp [Conv.bytesToString]; rfl
 ·have := run_convert_bytes_back (P := Tryz.prog) w 43 9 5 ⟨g, 0, none⟩ cap l (by kernel_rfl) (by kernel_rfl) (by kernel_rfl) (fun j hj => by
   have := own_cell h j (by omega)
   rw [Addr.add_mid, Nat.zero_add, this, List.getD_eq_getElem?_getD, List.getElem?_eq_getElem hj]
   rfl)
  rw [hl] at this
  exact this
theorem lit_of_cell {w : World} {a : Addr} {u : Value} (h : w.cell? a = some u) : a = ⟨a.block, a.off, none⟩ := by
 obtain ⟨b, o, s⟩ := a
 cases s with
 | none => rfl
 | some x => exfalso; unfold World.cell? at h; split at h <;> simp at h
theorem Reads.ints {w : World} {B n k : Nat} {A : Option Addr} {kd : IntKind} {xs : List Int} (h : Reads w B 1 A n (xs.map (Value.int kd))) (hk : k < n) :
  ∃ b off, A = some ⟨b, off, none⟩ ∧ b < B ∧ ∀ j, j < n → w.cell? ⟨b, off + j, none⟩ = some (.int kd (xs.getD j 0)) := by
 have hl := h.1
 simp at hl
 have key : ∀ j, j < n → (xs.map (Value.int kd))[j]? = some (.int kd (xs.getD j 0)) := by
  intro j hj
  rw [List.getElem?_map, List.getElem?_eq_getElem (by omega), List.getD_eq_getElem?_getD, List.getElem?_eq_getElem (by omega)]
  rfl
 obtain ⟨ad, rfl, hb, hc⟩ := h.2 (by omega)
 have h0 := hc 0 _ (key 0 (by omega))
 have e : ad = ⟨ad.block, ad.off, none⟩ := lit_of_cell (a := ad) (by simpa [Addr.add] using h0)
 refine ⟨ad.block, ad.off, by rw [← e], hb, fun j hj => ?_⟩
 have := hc j _ (key j hj)
 rw [e] at this
 unfold Addr.add at this
 by_cases hj0 : j = 0
 ·subst hj0; simpa using this
 ·simpa [hj0] using this
section
variable {P : Program} {ops : Array Oper} {Q : Act → Prop} {a : Act} {o : Oper} {rest : List Oper} {W1 : World}
theorem quiet_callW (v : Value) (f : FuncId) (args : Array Value) (hw : Region.wanted o (yielded ops a.tmps) = true) (hrun : ∀ V, (execOp a.eval o).run P V = .ok (.enter f args) V)
  (hc : ∀ V, Below W1.heap.size W1 V → Calls P f args V fun e w' => e = .returned v ∧ V.grownBy w' none) (hk : wpQuiet P ops (fun V => Below W1.heap.size W1 V) Q rest (a.put o.dst v)) : wpQuiet P ops (fun V => Below W1.heap.size W1 V) Q (o :: rest) a :=
 wpQuiet_enter hw v f args (fun V _ => hrun V) (fun V hV => (hc V hV).mono fun e w' ⟨he, hgg⟩ => ⟨he, below_of_grown (grown_self (grown_of_below hV) hgg (by simp))⟩) hk
end
section
variable {P : Program} {ops : Array Oper} {C : World → Prop} {Q : Act → Prop} {a : Act} {o : Oper} {rest : List Oper}
end
open Go.RowKit
theorem ba_ext {a b : ByteArray} (h : a.data.toList = b.data.toList) : a = b := by
 obtain ⟨a⟩ := a; obtain ⟨b⟩ := b
 congr 1
 exact Array.toList_inj.1 h
theorem str_ne {a b : ByteArray} (h : a ≠ b) : (a.toList == b.toList) = false := by
 rw [beq_eq_false_iff_ne]
 intro e
 apply h
 exact ba_ext (by rw [← Lib.toList_data, ← Lib.toList_data, e])
open Go.RowKit
def beFix : Nat → Nat → List UInt8
 | 0, _ => []
 | k + 1, n => beFix k (n / 256) ++ [UInt8.ofNat (n % 256)]
def trimC (c : UInt8) (l : List UInt8) : List UInt8 := l.dropWhile (· == c)
abbrev trimL (l : List UInt8) : List UInt8 := trimC 0 l
def beN (n : Nat) : List UInt8 := trimL (beFix 32 n)
theorem beFix_len (k n : Nat) : (beFix k n).length = k := by
 induction k generalizing n with
 | zero => rfl
 | succ k ih => simp [beFix, ih]
theorem beFix_get (k n i : Nat) (h : i < k) : (beFix k n)[i]? = some (UInt8.ofNat (n / 256 ^ (k - 1 - i) % 256)) := by
 induction k generalizing n with
 | zero => omega
 | succ k ih =>
  unfold beFix
  by_cases hi : i < k
  ·rw [List.getElem?_append_left (by rw [beFix_len]; exact hi), ih _ hi, Nat.div_div_eq_div_mul, show k + 1 - 1 - i = (k - 1 - i) + 1 by omega, Nat.pow_succ, Nat.mul_comm]
  ·rw [List.getElem?_append_right (by rw [beFix_len]; omega), beFix_len, show i - k = 0 by omega, show k + 1 - 1 - i = 0 by omega]
   simp
theorem trimC_snoc (c : UInt8) (l : List UInt8) (x : UInt8) : trimC c (l ++ [x]) = if trimC c l = [] then (if x == c then [] else [x]) else trimC c l ++ [x] := by
 unfold trimC
 induction l with
 | nil => by_cases h : (x == c) = true <;> simp [List.dropWhile, h]
 | cons a l ih =>
  by_cases h : (a == c) = true
  ·simp only [List.cons_append, List.dropWhile_cons, h, if_true]; exact ih
  ·simp [List.dropWhile_cons, h]
theorem trim_fix (k n : Nat) (h : n < 256 ^ k) : trimL (beFix (k + 1) n) = trimL (beFix k n) := by
 induction k generalizing n with
 | zero =>
  obtain rfl : n = 0 := by simpa using h
  decide
 | succ k ih =>
  rw [show trimL (beFix (k + 1 + 1) n) = trimC 0 (beFix (k + 1) (n / 256) ++ [UInt8.ofNat (n % 256)]) from rfl, show trimL (beFix (k + 1) n) = trimC 0 (beFix k (n / 256) ++ [UInt8.ofNat (n % 256)]) from rfl]
  rw [trimC_snoc, trimC_snoc]
  have := ih (n / 256) (by rw [Nat.pow_succ] at h; exact Nat.div_lt_of_lt_mul (by rw [Nat.mul_comm]; exact h))
  have e : trimC 0 (beFix (k + 1) (n / 256)) = trimC 0 (beFix k (n / 256)) := this
  rw [e]
theorem beN_fix (k n : Nat) (hk : k ≤ 32) (h : n < 256 ^ k) : beN n = trimL (beFix k n) := by
 obtain ⟨d, hd⟩ : ∃ d, 32 = k + d := ⟨32 - k, by omega⟩
 unfold beN
 rw [hd]
 clear hd hk
 induction d with
 | zero => rfl
 | succ d ih =>
  rw [← Nat.add_assoc, trim_fix (k + d) n (Nat.lt_of_lt_of_le h (Nat.pow_le_pow_right (by omega) (by omega)))]
  exact ih
def wordN (a0 a1 a2 a3 : Nat) : Nat := a0 + a1 * 18446744073709551616 + a2 * 340282366920938463463374607431768211456 + a3 * 6277101735386680763835789423207666416102355444464034512896
def fixAt (a : List Nat) (j : Nat) : UInt8 := UInt8.ofNat (a.getD (j / 8) 0 / 2 ^ (j % 8 * 8) % 256)
def fixL (a : List Nat) : List UInt8 := (List.range 32).map fun i => fixAt a (31 - i)
theorem div_low (x R r : Nat) (hr : r < 8) : (x + 18446744073709551616 * R) / 256 ^ r % 256 = x / 2 ^ (r * 8) % 256 := by
 have h : r = 0 ∨ r = 1 ∨ r = 2 ∨ r = 3 ∨ r = 4 ∨ r = 5 ∨ r = 6 ∨ r = 7 := by omega
 rcases h with rfl | rfl | rfl | rfl | rfl | rfl | rfl | rfl <;> simp only [Nat.reducePow, Nat.reduceMul] <;> omega
theorem word_digit (a0 a1 a2 a3 j : Nat) (h0 : a0 < 18446744073709551616) (h1 : a1 < 18446744073709551616) (h2 : a2 < 18446744073709551616) (h3 : a3 < 18446744073709551616) (hj : j < 32) :
  wordN a0 a1 a2 a3 / 256 ^ j % 256 = [a0, a1, a2, a3].getD (j / 8) 0 / 2 ^ (j % 8 * 8) % 256 := by
 have e : (256 : Nat) ^ j = 256 ^ (8 * (j / 8)) * 256 ^ (j % 8) := by rw [← Nat.pow_add]; congr 1; omega
 rw [e, ← Nat.div_div_eq_div_mul]
 have hq : j / 8 = 0 ∨ j / 8 = 1 ∨ j / 8 = 2 ∨ j / 8 = 3 := by omega
 have hr : j % 8 < 8 := by omega
 generalize j % 8 = r at *
 unfold wordN
 rcases hq with hq | hq | hq | hq <;> rw [hq]
 ·simp only [Nat.mul_zero, Nat.pow_zero, Nat.div_one]
  show _ = a0 / 2 ^ (r * 8) % 256
  rw [← div_low a0 (a1 + a2 * 18446744073709551616 + a3 * 340282366920938463463374607431768211456) r hr]
  congr 2
  omega
 ·rw [show (a0 + a1 * 18446744073709551616 + a2 * 340282366920938463463374607431768211456 + a3 * 6277101735386680763835789423207666416102355444464034512896) / 256 ^ (8 * 1) = a1 + 18446744073709551616 * (a2 + a3 * 18446744073709551616) by simp only [Nat.reduceMul, Nat.reducePow]; omega, div_low _ _ r hr]
  rfl
 ·rw [show (a0 + a1 * 18446744073709551616 + a2 * 340282366920938463463374607431768211456 + a3 * 6277101735386680763835789423207666416102355444464034512896) / 256 ^ (8 * 2) = a2 + 18446744073709551616 * a3 by simp only [Nat.reduceMul, Nat.reducePow]; omega, div_low _ _ r hr]
  rfl
 ·rw [show (a0 + a1 * 18446744073709551616 + a2 * 340282366920938463463374607431768211456 + a3 * 6277101735386680763835789423207666416102355444464034512896) / 256 ^ (8 * 3) = a3 + 18446744073709551616 * 0 by simp only [Nat.reduceMul, Nat.reducePow]; omega, div_low _ _ r hr]
  rfl
theorem fixL_be (a0 a1 a2 a3 : Nat) (h0 : a0 < 18446744073709551616) (h1 : a1 < 18446744073709551616) (h2 : a2 < 18446744073709551616) (h3 : a3 < 18446744073709551616) : fixL [a0, a1, a2, a3] = beFix 32 (wordN a0 a1 a2 a3) := by
 apply List.ext_getElem?
 intro i
 by_cases hi : i < 32
 ·rw [beFix_get _ _ _ hi, word_digit a0 a1 a2 a3 _ h0 h1 h2 h3 (by omega)]
  unfold fixL
  rw [List.getElem?_map, List.getElem?_range hi]
  rfl
 ·rw [List.getElem?_eq_none (by simp [fixL]; omega), List.getElem?_eq_none (by rw [beFix_len]; omega)]
def outF (a : List Nat) (m : Nat) : List UInt8 := (List.range 32).map fun i => if 31 - i < m then fixAt a (31 - i) else 0
theorem outF_len (a : List Nat) (m : Nat) : (outF a m).length = 32 := by simp [outF]
theorem outF_zero (a : List Nat) : outF a 0 = List.replicate 32 0 := by
 unfold outF
 simp
 rfl
theorem outF_all (a : List Nat) : outF a 32 = fixL a := by
 unfold outF fixL
 apply List.map_congr_left
 intro i hi
 rw [if_pos (by omega)]
theorem outF_succ (a : List Nat) (m : Nat) (hm : m < 32) : outF a (m + 1) = (outF a m).set (31 - m) (fixAt a m) := by
 unfold outF
 apply List.ext_getElem?
 intro i
 rw [List.getElem?_set]
 by_cases hi : i < 32
 ·rw [List.getElem?_map, List.getElem?_range hi]
  by_cases h : 31 - m = i
  ·rw [if_pos h, if_pos (by simp; omega)]
   simp only [Option.map_some]
   rw [if_pos (by omega), show 31 - i = m by omega]
  ·rw [if_neg h, List.getElem?_map, List.getElem?_range hi]
   simp only [Option.map_some]
   congr 1
   by_cases h2 : 31 - i < m
   ·rw [if_pos h2, if_pos (by omega)]
   ·rw [if_neg h2, if_neg (by omega)]
 ·rw [List.getElem?_eq_none (by simp; omega)]
  split
  ·rw [if_neg (by simp; omega)]
  ·rw [List.getElem?_eq_none (by simp; omega)]
theorem fixL_len (a : List Nat) : (fixL a).length = 32 := by simp [fixL]
theorem trim_len (c : UInt8) (l : List UInt8) : (trimC c l).length ≤ l.length := List.Sublist.length_le (List.dropWhile_sublist _)
theorem beN_len (n : Nat) : (beN n).length ≤ 32 := by have := trim_len 0 (beFix 32 n); rw [beFix_len] at this; exact this
theorem beN_len8 (n : Nat) (h : n < 18446744073709551616) : (beN n).length ≤ 8 := by
 rw [beN_fix 8 n (by omega) (by simpa using h)]
 have := trim_len 0 (beFix 8 n); rw [beFix_len] at this; exact this
open Go.RowKit
def beV (l : List UInt8) : Nat := l.foldl (fun n b => n * 256 + b.toNat) 0
theorem beV_snoc (l : List UInt8) (b : UInt8) : beV (l ++ [b]) = beV l * 256 + b.toNat := by simp [beV]
theorem beV_fix (k n : Nat) (h : n < 256 ^ k) : beV (beFix k n) = n := by
 induction k generalizing n with
 | zero => simp at h; subst h; rfl
 | succ k ih =>
  rw [beFix, beV_snoc, ih (n / 256) (by rw [Nat.pow_succ] at h; exact Nat.div_lt_of_lt_mul (by rw [Nat.mul_comm]; exact h)), UInt8.toNat_ofNat']
  omega
theorem beV_zero (l : List UInt8) : beV (0 :: l) = beV l := rfl
theorem beV_trim (l : List UInt8) : beV (trimL l) = beV l := by
 induction l with
 | nil => rfl
 | cons a l ih =>
  show beV (List.dropWhile _ _) = _
  by_cases h : a = 0
  ·subst h
   rw [List.dropWhile_cons_of_pos (by rfl), beV_zero]; exact ih
  ·rw [List.dropWhile_cons_of_neg (by simpa using h)]
theorem beV_beN (n : Nat) (h : n < 256 ^ 32) : beV (beN n) = n := by
 unfold beN; rw [beV_trim, beV_fix 32 n h]
theorem beN_pos {n : Nat} (h : 0 < n) (hn : n ≤ 1000000000) : 1 ≤ (beN n).length := by
 rcases Nat.eq_zero_or_pos (beN n).length with h0 | h0
 ·have e := List.eq_nil_of_length_eq_zero h0
  have h1 : (1000000000 : Nat) < 256 ^ 32 := by decide
  have := beV_beN n (by omega)
  rw [e] at this
  have : (0 : Nat) = n := this
  omega
 ·exact h0
theorem beV_lt (l : List UInt8) : beV l < 256 ^ l.length := by
 have key : ∀ r : List UInt8, beV r.reverse < 256 ^ r.reverse.length := by
  intro r
  induction r with
  | nil => simp [beV]
  | cons b r ih =>
   rw [List.reverse_cons, beV_snoc, List.length_append, Nat.pow_add]
   have := b.toNat_lt
   simp at *; omega
 have := key l.reverse
 rwa [List.reverse_reverse] at this
theorem fix_beV (t : List UInt8) : beFix t.length (beV t) = t := by
 have key : ∀ r : List UInt8, beFix r.reverse.length (beV r.reverse) = r.reverse := by
  intro r
  induction r with
  | nil => rfl
  | cons b r ih =>
   have hb := b.toNat_lt
   rw [List.reverse_cons, beV_snoc, List.length_append, List.length_singleton, beFix, show (beV r.reverse * 256 + b.toNat) / 256 = beV r.reverse by omega, show (beV r.reverse * 256 + b.toNat) % 256 = b.toNat by omega, ih, UInt8.ofNat_toNat]
 have := key t.reverse
 rwa [List.reverse_reverse] at this
theorem beN_beV (t : List UInt8) (h : t.length ≤ 32) (h0 : t.getD 0 0 ≠ 0) : beN (beV t) = t := by
 rw [beN_fix t.length _ h (beV_lt t), fix_beV]
 cases t with
 | nil => rfl
 | cons a t => exact List.dropWhile_cons_of_neg (by simpa using h0)
theorem beN_first (n : Nat) : beN n = [] ∨ (beN n).getD 0 0 ≠ 0 := by
 have key : ∀ l : List UInt8, trimL l = [] ∨ (trimL l).getD 0 0 ≠ 0 := by
  intro l
  induction l with
  | nil => exact .inl rfl
  | cons a l ih =>
   by_cases h : a = 0
   ·subst h
    rw [show trimL (0 :: l) = trimL l from List.dropWhile_cons_of_pos (by rfl)]; exact ih
   ·rw [show trimL (a :: l) = a :: l from List.dropWhile_cons_of_neg (by simpa using h)]; exact .inr h
 exact key _
theorem beN_len3 (n : Nat) (h : n < 16777216) : (beN n).length ≤ 3 := by
 rw [beN_fix 3 n (by omega) (by simpa using h)]
 have := trim_len 0 (beFix 3 n); rw [beFix_len] at this; exact this
open Go.RowKit
def wp (N q : Nat) : Nat := N / 2 ^ (64 * q) % 2 ^ 64
theorem wp_lt (N q : Nat) : wp N q < 18446744073709551616 := Nat.mod_lt _ (by decide)
theorem wp_zero (q : Nat) : wp 0 q = 0 := by unfold wp; simp
theorem wp_add (N m c q : Nat) (hN : N < 2 ^ (8 * m)) (hc : c < 256) : wp (N + c * 2 ^ (8 * m)) q = if q = m / 8 then wp N q + c * 2 ^ (m % 8 * 8) else wp N q := by
 unfold wp
 have hp : ∀ k, 0 < 2 ^ k := fun k => Nat.pow_pos (by omega)
 by_cases h : q = m / 8
 ·rw [if_pos h]
  have e : 2 ^ (8 * m) = 2 ^ (64 * q) * 2 ^ (m % 8 * 8) := by rw [← Nat.pow_add]; congr 1; omega
  rw [e] at hN ⊢
  have hx : N / 2 ^ (64 * q) < 2 ^ (m % 8 * 8) := Nat.div_lt_of_lt_mul hN
  have hle : 2 ^ (m % 8 * 8) * 256 ≤ 2 ^ 64 := by
   rw [show (256 : Nat) = 2 ^ 8 from rfl, ← Nat.pow_add]
   exact Nat.pow_le_pow_right (by omega) (by omega)
  rw [show N + c * (2 ^ (64 * q) * 2 ^ (m % 8 * 8)) = N + 2 ^ (64 * q) * (c * 2 ^ (m % 8 * 8)) by rw [Nat.mul_left_comm], Nat.add_mul_div_left _ _ (hp _)]
  generalize N / 2 ^ (64 * q) = x at *
  generalize hP : 2 ^ (m % 8 * 8) = P at *
  have hcP : c * P + P ≤ P * 256 := by
   have : (c + 1) * P ≤ 256 * P := Nat.mul_le_mul_right P (by omega)
   rw [Nat.add_mul] at this; omega
  rw [Nat.mod_eq_of_lt (by omega), Nat.mod_eq_of_lt (by omega)]
 ·rw [if_neg h]
  by_cases h2 : q < m / 8
  ·have e : 2 ^ (8 * m) = 2 ^ (64 * q) * (2 ^ 64 * 2 ^ (8 * m - 64 * q - 64)) := by rw [← Nat.pow_add, ← Nat.pow_add]; congr 1; omega
   rw [e, show N + c * (2 ^ (64 * q) * (2 ^ 64 * 2 ^ (8 * m - 64 * q - 64))) = N + 2 ^ (64 * q) * (2 ^ 64 * (c * 2 ^ (8 * m - 64 * q - 64))) by
    rw [Nat.mul_left_comm c, Nat.mul_left_comm c], Nat.add_mul_div_left _ _ (hp _), Nat.add_mul_mod_self_left]
  ·have hle : 2 ^ (8 * m) * 256 ≤ 2 ^ (64 * q) := by
    rw [show (256 : Nat) = 2 ^ 8 from rfl, ← Nat.pow_add]
    exact Nat.pow_le_pow_right (by omega) (by omega)
   generalize 2 ^ (8 * m) = P at *
   have hcP : c * P + P ≤ P * 256 := by
    have : (c + 1) * P ≤ 256 * P := Nat.mul_le_mul_right P (by omega)
    rw [Nat.add_mul] at this; omega
   rw [Nat.div_eq_of_lt (by omega), Nat.div_eq_of_lt (by omega)]
theorem wp_or (x c s : Nat) (h : x < 2 ^ s) : x ||| c * 2 ^ s = x + c * 2 ^ s := by
 rw [Nat.or_comm, ← Nat.shiftLeft_eq, ← Nat.shiftLeft_add_eq_or_of_lt h, Nat.add_comm]
theorem wp_room (N m : Nat) (hN : N < 2 ^ (8 * m)) : wp N (m / 8) < 2 ^ (m % 8 * 8) := by
 unfold wp
 have e : 2 ^ (8 * m) = 2 ^ (64 * (m / 8)) * 2 ^ (m % 8 * 8) := by rw [← Nat.pow_add]; congr 1; omega
 rw [e] at hN
 exact Nat.lt_of_le_of_lt (Nat.mod_le _ _) (Nat.div_lt_of_lt_mul hN)
def lowN (l : List UInt8) (m : Nat) : Nat := beV (l.drop (l.length - m))
theorem lowN_zero (l : List UInt8) : lowN l 0 = 0 := by unfold lowN; rw [Nat.sub_zero, List.drop_length]; rfl
theorem lowN_lt (l : List UInt8) (m : Nat) : lowN l m < 2 ^ (8 * m) := by
 unfold lowN
 have h := beV_lt (l.drop (l.length - m))
 rw [show (256 : Nat) = 2 ^ 8 from rfl, ← Nat.pow_mul] at h
 refine Nat.lt_of_lt_of_le h (Nat.pow_le_pow_right (by omega) ?_)
 rw [List.length_drop]; omega
theorem beV_cons (b : UInt8) (l : List UInt8) : beV (b :: l) = b.toNat * 256 ^ l.length + beV l := by
 have key : ∀ r : List UInt8, beV (b :: r.reverse) = b.toNat * 256 ^ r.reverse.length + beV r.reverse := by
  intro r
  induction r with
  | nil => simp [beV]
  | cons c r ih =>
   rw [List.reverse_cons, ← List.cons_append, beV_snoc, ih, beV_snoc, List.length_append, List.length_singleton, Nat.pow_succ, Nat.add_mul, ← Nat.mul_assoc, Nat.add_assoc]
 have := key l.reverse
 rwa [List.reverse_reverse] at this
theorem lowN_succ (l : List UInt8) (m : Nat) (h : m < l.length) : lowN l (m + 1) = lowN l m + (l.getD (l.length - 1 - m) 0).toNat * 2 ^ (8 * m) := by
 unfold lowN
 have hi : l.length - (m + 1) < l.length := by omega
 rw [List.drop_eq_getElem_cons hi, beV_cons, List.length_drop, show l.length - (m + 1) + 1 = l.length - m by omega, show l.length - (l.length - m) = m by omega,
  show l.length - 1 - m = l.length - (m + 1) by omega, List.getD_eq_getElem?_getD, List.getElem?_eq_getElem hi, show (256 : Nat) = 2 ^ 8 from rfl, ← Nat.pow_mul, Nat.add_comm]
 rfl
theorem lowN_all (l : List UInt8) : lowN l l.length = beV l := by unfold lowN; rw [Nat.sub_self, List.drop_zero]
theorem lowN_step (l : List UInt8) (m q : Nat) (h : m < l.length) : wp (lowN l (m + 1)) q = if q = m / 8 then wp (lowN l m) q ||| (l.getD (l.length - 1 - m) 0).toNat * 2 ^ (m % 8 * 8) else wp (lowN l m) q := by
 rw [lowN_succ l m h, wp_add _ _ _ _ (lowN_lt l m) (l.getD (l.length - 1 - m) 0).toNat_lt]
 split
 ·rename_i e
  rw [wp_or _ _ _ (by rw [e]; exact wp_room _ _ (lowN_lt l m))]
 ·rfl
def parseE (l : List UInt8) : Int := if 32 < l.length then 5 else if l.head? = some 0 then 8 else 0
def parseP (l : List UInt8) (q : Nat) : Nat := if parseE l = 0 then wp (beV l) q else 0
theorem beV_pad (k : Nat) (l : List UInt8) : beV (List.replicate k 0 ++ l) = beV l := by
 induction k with
 | zero => rfl
 | succ k ih => rw [List.replicate_succ, List.cons_append, beV_zero, ih]
theorem wp_word (a0 a1 a2 a3 : Nat) (h0 : a0 < 18446744073709551616) (h1 : a1 < 18446744073709551616) (h2 : a2 < 18446744073709551616) (h3 : a3 < 18446744073709551616) :
  wp (wordN a0 a1 a2 a3) 0 = a0 ∧ wp (wordN a0 a1 a2 a3) 1 = a1 ∧ wp (wordN a0 a1 a2 a3) 2 = a2 ∧ wp (wordN a0 a1 a2 a3) 3 = a3 := by
 unfold wp wordN
 simp only [Nat.reducePow, Nat.reduceMul]
 omega
theorem word_lt (a0 a1 a2 a3 : Nat) (h0 : a0 < 18446744073709551616) (h1 : a1 < 18446744073709551616) (h2 : a2 < 18446744073709551616) (h3 : a3 < 18446744073709551616) : wordN a0 a1 a2 a3 < 256 ^ 32 := by
 unfold wordN
 simp only [Nat.reducePow]
 omega
theorem parse_beN (n : Nat) (h : n < 256 ^ 32) : parseE (beN n) = 0 ∧ ∀ q, parseP (beN n) q = wp n q := by
 have hE : parseE (beN n) = 0 := by
  unfold parseE
  rw [if_neg (by have := beN_len n; omega), if_neg]
  rcases beN_first n with e | e
  ·rw [e]; simp
  ·intro g
   cases hq : beN n with
   | nil => rw [hq] at g; cases g
   | cons a l => rw [hq] at g e; injection g with g; exact e g
 exact ⟨hE, fun q => by unfold parseP; rw [if_pos hE, beV_beN n h]⟩
theorem wp_join (N : Nat) (h : N < 256 ^ 32) : wordN (wp N 0) (wp N 1) (wp N 2) (wp N 3) = N := by
 unfold wp wordN
 simp only [Nat.reducePow, Nat.reduceMul] at *
 omega
end Go.Proofs.YtgclnikdkfpflaaGreatDoor
