/- Merged: CgJ0, CgJ1, CgJ2, RlpL, UnrR, UnrS0, TSame, UnrU, UnlA0, UnlA, CgU. -/
import Derived.Test.YtgclnikdkfpflaaGreatDoorMt1
import Derived.Test.YtgclnikdkfpflaaGreatDoorMt2
import Derived.Test.YtgclnikdkfpflaaGreatDoorMt3
import Derived.Test.YtgclnikdkfpflaaGreatDoorMt4
import Derived.Test.YtgclnikdkfpflaaGreatDoorMt9
import Derived.Test.YtgclnikdkfpflaaGreatDoorMt17
import Derived.Test.YtgclnikdkfpflaaGreatDoorMt18
import Derived.Test.YtgclnikdkfpflaaGreatDoorMt20
namespace Go.Proofs.YtgclnikdkfpflaaGreatDoor
open Go.RowKit Go.Shelf
open List renaming set_cons_zero → jz, set_cons_succ → js, setIfInBounds_toArray → jb
set_option linter.unusedVariables false
set_option linter.unusedSimpArgs false
set_option maxRecDepth 100000
set_option maxHeartbeats 16000000
def itW (z : Itm) : Nat := if z.list = false ∧ parseE z.bytes.data.toList = 0 then beV z.bytes.data.toList else 0
theorem wordP_W (z : Itm) (q : Nat) : wordP z.list z.bytes q = wp (itW z) q := by
 unfold wordP itW parseP
 cases z.list
 ·by_cases h : parseE z.bytes.data.toList = 0
  ·simp [h]
  ·simp [h, wp_zero]
 ·simp [wp_zero]
theorem wCells_W (z : Itm) : wCells z = [.int .u64 (wp (itW z) 0 : Nat), .int .u64 (wp (itW z) 1 : Nat), .int .u64 (wp (itW z) 2 : Nat), .int .u64 (wp (itW z) 3 : Nat)] := by
 unfold wCells
 rw [wordP_W, wordP_W, wordP_W, wordP_W]
def Win (C : Array Value) (o : Nat) (l : List Value) : Prop := ∀ f, f < 36 → C[o + f]? = l[f]?
theorem putA_near : ∀ (vs : List Value) (o : Nat) (c : Array Value) (j : Nat), j < vs.length → o + vs.length ≤ c.size → (putA o vs c)[o + j]? = vs[j]?
 | [], _, _, j, h, _ => by simp at h
 | v :: r, o, c, 0, _, hc => by
  simp only [List.length_cons] at hc
  rw [putA, putA_far r (o + 1) _ _ (by omega)]
  simp [Array.getElem?_setIfInBounds_self_of_lt (show o < c.size by omega)]
 | v :: r, o, c, j + 1, h, hc => by
  simp only [List.length_cons] at h hc
  rw [putA, show o + (j + 1) = (o + 1) + j by omega, putA_near r (o + 1) _ j (by omega) (by simp; omega)]
  rfl
theorem Win.size {C : Array Value} {o : Nat} {l : List Value} (h : Win C o l) (hl : l.length = 36) : o + 36 ≤ C.size := by
 have := h 35 (by omega)
 rw [List.getElem?_eq_getElem (by omega)] at this
 have := (Array.getElem?_eq_some_iff.1 this).1
 omega
theorem Win.put {C : Array Value} {o f : Nat} {l vs : List Value} (h : Win C o l) (hl : l.length = 36) (hf : f + vs.length ≤ 36) : Win (putA (o + f) vs C) o (l.take f ++ (vs ++ l.drop (f + vs.length))) := by
 intro j hj
 have hz := h.size hl
 by_cases h1 : j < f
 ·rw [putA_far _ _ _ _ (.inl (by omega)), h j hj, List.getElem?_append_left (by simp; omega), List.getElem?_take_of_lt h1]
 by_cases h2 : j < f + vs.length
 ·have := putA_near vs (o + f) C (j - f) (by omega) (by omega)
  rw [show o + f + (j - f) = o + j by omega] at this
  rw [this, List.getElem?_append_right (by simp; omega), List.getElem?_append_left (by simp; omega)]
  congr 1
  simp; omega
 ·rw [putA_far _ _ _ _ (.inr (by omega)), h j hj, List.getElem?_append_right (by simp; omega), List.getElem?_append_right (by simp; omega), List.getElem?_drop]
  congr 1
  simp; omega
theorem Win.eq {C : Array Value} {o : Nat} {l l' : List Value} (h : Win C o l) (e : l = l') : Win C o l' := e ▸ h
theorem Win.out {C C' : Array Value} {o : Nat} {l : List Value} (h : Win C o l) (hk : ∀ j, o ≤ j → j < o + 36 → C'[j]? = C[j]?) : Win C' o l := fun f hf => (hk (o + f) (by omega) (by omega)).trans (h f hf)
def gotT (kd : Nat) (zs : List Itm) (y R S : Nat) (dst : ByteArray) : TxV :=
 { TxV.zero with kind := (kd : Int), value := itW (zs.getD 0 Itm.none_), tip := if kd = 2 then itW (zs.getD 1 Itm.none_) else 0, price := itW (zs.getD (if kd = 2 then 2 else 1) Itm.none_), data := dtV (zs.getD (gotN kd) Itm.none_), acc := (gotA kd zs).1, dst := dst, y := y, r := R, s := S }
def blankT (y R S : Nat) (dst : ByteArray) : TxV := { TxV.zero with dst := dst, y := y, r := R, s := S }
theorem txL_len (t : TxV) (sa sb : Value) : (txL t sa sb).length = 36 := rfl
theorem got_win (kd : Nat) (zs : List Itm) (y R S : Nat) (dst : ByteArray) (C : Array Value) (o : Nat) (sl : Value) (hk : kd = 0 ∨ kd = 1 ∨ kd = 2) (hl : zs.length = 3 + kd) (h : Win C o (txL (blankT y R S dst) (.slice none 0 0) (.slice none 0 0))) :
  Win (gotC kd o zs C sl) o (txL (gotT kd zs y R S dst) (if kd = 0 then .slice none 0 0 else sl) (.slice none 0 0)) := by
 have h0 := h.put (f := 0) (vs := [.int .i64 (kd : Int)]) rfl (by simp)
 rw [Nat.add_zero] at h0
 rcases hk with rfl | rfl | rfl
 ·match zs, hl with
  | [z0, z1, z2], _ =>
   have h1 := h0.put (f := 13) (vs := wCells z0) rfl (by simp [wCells])
   have h2 := h1.put (f := 7) (vs := wCells z1) rfl (by simp [wCells])
   have h3 := h2.put (f := 17) (vs := [.string (dtV z2)]) rfl (by simp)
   simp only [wCells_W] at h3
   have hC : gotC 0 o [z0, z1, z2] C sl = putA (o + 17) [.string (dtV z2)] (putA (o + 7) (wCells z1) (putA (o + 13) (wCells z0) (putA o [.int .i64 ((0 : Nat) : Int)] C))) := by simp [gotC, gotO, gotN, wordsC]
   simp only [hC, wCells_W]
   exact h3.eq (by simp [txL, gotT, blankT, gotN, wCells_W, TxV.zero])
 ·match zs, hl with
  | [z0, z1, z2, z3], _ =>
   have h1 := h0.put (f := 13) (vs := wCells z0) rfl (by simp [wCells])
   have h2 := h1.put (f := 7) (vs := wCells z1) rfl (by simp [wCells])
   have h3 := h2.put (f := 17) (vs := [.string (dtV z2)]) rfl (by simp)
   have h4 := h3.put (f := 18) (vs := [sl]) rfl (by simp)
   simp only [wCells_W] at h4
   have hC : gotC 1 o [z0, z1, z2, z3] C sl = putA (o + 18) [sl] (putA (o + 17) [.string (dtV z2)] (putA (o + 7) (wCells z1) (putA (o + 13) (wCells z0) (putA o [.int .i64 ((1 : Nat) : Int)] C)))) := by simp [gotC, gotO, gotN, wordsC]
   simp only [hC, wCells_W]
   exact h4.eq (by simp [txL, gotT, blankT, gotN, wCells_W, TxV.zero])
 ·match zs, hl with
  | [z0, z1, z2, z3, z4], _ =>
   have h1 := h0.put (f := 13) (vs := wCells z0) rfl (by simp [wCells])
   have h2 := h1.put (f := 3) (vs := wCells z1) rfl (by simp [wCells])
   have h3 := h2.put (f := 7) (vs := wCells z2) rfl (by simp [wCells])
   have h4 := h3.put (f := 17) (vs := [.string (dtV z3)]) rfl (by simp)
   have h5 := h4.put (f := 18) (vs := [sl]) rfl (by simp)
   simp only [wCells_W] at h5
   have hC : gotC 2 o [z0, z1, z2, z3, z4] C sl = putA (o + 18) [sl] (putA (o + 17) [.string (dtV z3)] (putA (o + 7) (wCells z2) (putA (o + 3) (wCells z1) (putA (o + 13) (wCells z0) (putA o [.int .i64 ((2 : Nat) : Int)] C))))) := by simp [gotC, gotO, gotN, wordsC]
   simp only [hC, wCells_W]
   exact h5.eq (by simp [txL, gotT, blankT, gotN, wCells_W, TxV.zero])
structure Gr3 (w u : World) (r g l : Nat) : Prop where
 os : u.os = w.os
 tape : u.tape = w.tape
 output : u.output = w.output
 size : w.heap.size ≤ u.heap.size
 block : ∀ k, k < w.heap.size → k ≠ r → k ≠ g → k ≠ l → u.heap[k]? = w.heap[k]?
theorem Gr3.refl (w : World) (r g l : Nat) : Gr3 w w r g l := ⟨rfl, rfl, rfl, Nat.le_refl _, fun _ _ _ _ _ => rfl⟩
theorem Gr3.grown {w u u' : World} {r g l : Nat} (h : Gr3 w u r g l) {row : Option Nat} (hg : u.grownBy u' row) (hr : ∀ k, row = some k → k = r ∨ k = g ∨ k = l ∨ w.heap.size ≤ k) : Gr3 w u' r g l :=
 ⟨hg.os.trans h.os, hg.tape.trans h.tape, hg.output.trans h.output, Nat.le_trans h.size hg.size, fun k hk h1 h2 h3 => (hg.block k (Nat.lt_of_lt_of_le hk h.size) (fun e => by rcases hr k e.symm with h4 | h4 | h4 | h4; exact h1 h4; exact h2 h4; exact h3 h4; omega)).trans (h.block k hk h1 h2 h3)⟩
theorem Gr3.setRow {w u : World} {r g l : Nat} (h : Gr3 w u r g l) (C : Array Value) : Gr3 w (u.setRow l C) r g l :=
 ⟨h.os, h.tape, h.output, by simpa using h.size, fun k hk h1 h2 h3 => (setRow_other u l k C h3).trans (h.block k hk h1 h2 h3)⟩
theorem Gr3.rest {w u u' : World} {r g l : Nat} (h : Gr3 w u r g l) (hg : Gr2 u u' r l) : Gr3 w u' r g l :=
 ⟨hg.os.trans h.os, hg.tape.trans h.tape, hg.output.trans h.output, Nat.le_trans h.size hg.size, fun k hk h1 h2 h3 => (hg.block k (Nat.lt_of_lt_of_le hk h.size) h1 h3).trans (h.block k hk h1 h2 h3)⟩
theorem Gr3.cell {w u : World} {r g l : Nat} (h : Gr3 w u r g l) {p : Addr} {v : Value} (hv : w.cell? p = some v) (h1 : p.block ≠ r) (h2 : p.block ≠ g) (h3 : p.block ≠ l) : u.cell? p = some v := by
 have hlt : p.block < w.heap.size := World.block_lt_of_cell? w _ hv
 rw [World.cell?_of_block (w := w) (h.block p.block hlt h1 h2 h3)]
 exact hv
theorem Gr2.cell {w u : World} {r g : Nat} (h : Gr2 w u r g) {p : Addr} {v : Value} (hv : w.cell? p = some v) (h1 : p.block ≠ r) (h2 : p.block ≠ g) : u.cell? p = some v := by
 have hlt : p.block < w.heap.size := World.block_lt_of_cell? w _ hv
 rw [World.cell?_of_block (w := w) (h.block p.block hlt h1 h2)]
 exact hv
def AccQ (o : Nat) (u : World) (ls : List AccV) (A : Option Addr) (n : Nat) : Prop :=
 ls.length = n ∧ (0 < n → ∃ g off, A = some ⟨g, off, none⟩ ∧ o ≤ g ∧ g < u.heap.size ∧ ∀ i, i < n → ∃ T tc, u.cell? ⟨g, off + i * 2, none⟩ = some (.string (ls.getD i AccV.none_).addr) ∧ u.cell? ⟨g, off + i * 2 + 1, none⟩ = some (.slice T (ls.getD i AccV.none_).keys.length tc) ∧
  KeyR (fun g => o ≤ g) u (ls.getD i AccV.none_).keys T (ls.getD i AccV.none_).keys.length ∧ (ls.getD i AccV.none_).keys.length ≤ 1000)
theorem AccQ.keep {o n : Nat} {u u' : World} {ls : List AccV} {A : Option Addr} (h : AccQ o u ls A n) (hs : u.heap.size ≤ u'.heap.size) (hc : ∀ (p : Addr) v, o ≤ p.block → u.cell? p = some v → u'.cell? p = some v) : AccQ o u' ls A n := by
 refine ⟨h.1, fun h0 => ?_⟩
 obtain ⟨g, off, h1, h2, h3, h4⟩ := h.2 h0
 refine ⟨g, off, h1, h2, Nat.lt_of_lt_of_le h3 hs, fun i hi => ?_⟩
 obtain ⟨T, tc, a, b, c, d⟩ := h4 i hi
 exact ⟨T, tc, hc _ _ h2 a, hc _ _ h2 b, c.keep fun p hp v hv => hc p v hp hv, d⟩
theorem AccQ.toR {o n : Nat} {u : World} {ls : List AccV} {A : Option Addr} (h : AccQ o u ls A n) : AccR u.heap.size u ls A n := by
 refine ⟨h.1, fun h0 => ?_⟩
 obtain ⟨g, off, h1, h2, h3, h4⟩ := h.2 h0
 refine ⟨g, off, h1, h3, fun i hi => ?_⟩
 obtain ⟨T, tc, a, b, c, d⟩ := h4 i hi
 exact ⟨T, tc, a, b, c.reads, by omega⟩
theorem AccSt.toQ {o k c : Nat} {A : Option Addr} {ls : List AccV} {vs : List (Option Addr × Nat)} {u : World} (h : AccSt o (.slice A k c) k ls vs u) : AccQ o u ls A k := by
 refine ⟨h.lx, fun h0 => ?_⟩
 rcases h.own.2 with ⟨_, h1⟩ | ⟨g, cap, cur, hv, hb, hg, hn, hc, hs, ht⟩
 ·omega
 ·cases hv
  refine ⟨g, 0, rfl, ownBlock_ge h.own rfl, (Array.getElem?_eq_some_iff.1 hg).1, fun i hi => ?_⟩
  obtain ⟨e1, e2⟩ := accCells_at ls vs (by rw [h.lx, h.lv]) i (by rw [h.lx]; exact hi)
  have hcell : ∀ j w, j < k * 2 → (accCells ls vs)[j]? = some w → u.cell? ⟨g, 0 + j, none⟩ = some w := by
   intro j w hj hw
   rw [Nat.zero_add, cell_of_row u g j cur 82 (0, 0) hg, ← Array.getElem?_toList]
   rw [← ht, List.getElem?_take_of_lt hj] at hw
   exact hw
  refine ⟨(vs.getD i (none, 0)).1, (vs.getD i (none, 0)).2, hcell _ _ (by omega) e1, ?_, (h.key i hi).weak fun g hg => hg.1, ?_⟩
  ·have := hcell (i * 2 + 1) _ (by omega) e2
   rwa [← Nat.add_assoc] at this
  ·have : (ls.getD i AccV.none_) ∈ ls := by rw [List.getD_eq_getElem?_getD, List.getElem?_eq_getElem (by rw [h.lx]; exact hi)]; exact List.getElem_mem _
   exact h.few _ this
def SlQ (o : Nat) (u : World) (t : TxV) (sl : Value) : Prop := ∃ A c, sl = .slice A t.acc.length c ∧ AccQ o u t.acc A t.acc.length
theorem SlQ.keep {o : Nat} {u u' : World} {t : TxV} {sl : Value} (h : SlQ o u t sl) (hs : u.heap.size ≤ u'.heap.size) (hc : ∀ (p : Addr) v, o ≤ p.block → u.cell? p = some v → u'.cell? p = some v) : SlQ o u' t sl := by
 obtain ⟨A, c, h1, h2⟩ := h
 exact ⟨A, c, h1, h2.keep hs hc⟩
structure GetS (wG : World) (s signs : ByteArray) (r sg l n k : Nat) (a sa : Nat) (E SE : Int) (C : Array Value) (cur : List Value) (ks : List Nat) (ts : List TxV) (u : World) : Prop where
 rd : Blk u r 67 (rdC s a E)
 sd : Blk u sg 67 (rdC signs sa SE)
 row : Blk u l 42 C
 gr : Gr3 wG u r sg l
 rl : r < wG.heap.size
 gl : sg < wG.heap.size
 ll : l < wG.heap.size
 rg : r ≠ sg
 rw : r ≠ l
 gw : sg ≠ l
 ha : a ≤ s.size
 hsa : sa ≤ signs.size
 size : C.size = 36 * n
 kn : k ≤ n
 lk : ks.length = k
 lt : E = 0 → ts.length = k
 kind : ∀ i, i < k → C[36 * i]? = some (.int .i64 ((ks.getD i 0 : Nat) : Int))
 good : E = 0 → ∀ i, i < k → ∃ sl, Win C (36 * i) (txL (ts.getD i TxV.zero) sl (.slice none 0 0)) ∧ SlQ wG.heap.size u (ts.getD i TxV.zero) sl ∧ (ts.getD i TxV.zero).kind = (ks.getD i 0 : Nat)
 cl : cur.length = 36
 win : k < n → Win C (36 * k) cur
 blank : ∀ i, k < i → i < n → Win C (36 * i) (txL TxV.zero (.slice none 0 0) (.slice none 0 0))
theorem GetS.cells {wG u u' : World} {s signs : ByteArray} {r sg l n k a sa : Nat} {E SE : Int} {C : Array Value} {cur : List Value} {ks : List Nat} {ts : List TxV} (h : GetS wG s signs r sg l n k a sa E SE C cur ks ts u) {row : Option Nat} (hg : u.grownBy u' row) (hr : ∀ j, row = some j → j < wG.heap.size) :
  ∀ (p : Addr) v, wG.heap.size ≤ p.block → u.cell? p = some v → u'.cell? p = some v := fun p v hp hv => hg.cell hv fun e => by have := hr _ e.symm; omega
theorem GetS.kept {wG u u' : World} {s signs : ByteArray} {r sg l n k a sa : Nat} {E SE : Int} {C : Array Value} {cur : List Value} {ks : List Nat} {ts : List TxV} (h : GetS wG s signs r sg l n k a sa E SE C cur ks ts u) (hg : u.grownBy u' none) : GetS wG s signs r sg l n k a sa E SE C cur ks ts u' :=
 { h with rd := h.rd.grown hg (by simp), sd := h.sd.grown hg (by simp), row := h.row.grown hg (by simp), gr := h.gr.grown hg (fun k e => by cases e),
          good := fun h0 i hi => by obtain ⟨sl, a, b, c⟩ := h.good h0 i hi; exact ⟨sl, a, b.keep hg.size (h.cells hg (by simp)), c⟩ }
theorem GetS.read {wG u u' : World} {s signs : ByteArray} {r sg l n k a sa a' : Nat} {E SE E' : Int} {C : Array Value} {cur : List Value} {ks : List Nat} {ts : List TxV} (h : GetS wG s signs r sg l n k a sa E SE C cur ks ts u) (hg : u.grownBy u' (some r)) (hr : Blk u' r 67 (rdC s a' E')) (ha : a' ≤ s.size) (hE : E' = 0 → E = 0) : GetS wG s signs r sg l n k a' sa E' SE C cur ks ts u' :=
 { h with rd := hr, sd := h.sd.grown hg (fun e => h.rg (Option.some.inj e).symm), row := h.row.grown hg (fun e => h.rw (Option.some.inj e).symm), gr := h.gr.grown hg (fun k e => .inl (Option.some.inj e).symm), ha := ha, lt := fun h0 => h.lt (hE h0),
          good := fun h0 i hi => by obtain ⟨sl, a, b, c⟩ := h.good (hE h0) i hi; exact ⟨sl, a, b.keep hg.size (h.cells hg (fun j e => by have := Option.some.inj e; have := h.rl; omega)), c⟩ }
theorem GetS.sign {wG u u' : World} {s signs : ByteArray} {r sg l n k a sa sa' : Nat} {E SE SE' : Int} {C : Array Value} {cur : List Value} {ks : List Nat} {ts : List TxV} (h : GetS wG s signs r sg l n k a sa E SE C cur ks ts u) (hg : u.grownBy u' (some sg)) (hr : Blk u' sg 67 (rdC signs sa' SE')) (ha : sa' ≤ signs.size) : GetS wG s signs r sg l n k a sa' E SE' C cur ks ts u' :=
 { h with sd := hr, rd := h.rd.grown hg (fun e => h.rg (Option.some.inj e)), row := h.row.grown hg (fun e => h.gw (Option.some.inj e).symm), gr := h.gr.grown hg (fun k e => .inr (.inl (Option.some.inj e).symm)), hsa := ha,
          good := fun h0 i hi => by obtain ⟨sl, a, b, c⟩ := h.good h0 i hi; exact ⟨sl, a, b.keep hg.size (h.cells hg (fun j e => by have := Option.some.inj e; have := h.gl; omega)), c⟩ }
theorem setRow_cell {u : World} {l : Nat} {C : Array Value} {p : Addr} {v : Value} (hp : p.block ≠ l) (hv : u.cell? p = some v) : (u.setRow l C).cell? p = some v := by
 rw [World.cell?_of_block (w := u) (setRow_other u l p.block C hp)]; exact hv
def getGo (s signs : ByteArray) (nl yl : List Bool) : Nat → Nat → Nat → ByteArray → Except Int (List TxV × Nat)
 | 0, _, a, _ => .ok ([], a)
 | m + 1, i, a, tos =>
  match restR s a 0 with
  | .error e => .error e
  | .ok (zs, T) => match getGo s signs nl yl m (i + 1) T (if nl.getD i false = false ∧ 20 ≤ tos.size then tos.extract 20 tos.size else tos) with
   | .error e => .error e
   | .ok (ts, b) => .ok (gotT (kdV s a 0) zs (if yl.getD i false then 1 else 0) (wdN signs (64 * i) 0) (wdN signs (64 * i + 32) 0) (if nl.getD i false = false ∧ 20 ≤ tos.size then tos.extract 0 20 else ⟨#[]⟩) :: ts, b)
def glueT (ts : List TxV) : Except Int (List TxV × Nat) → Except Int (List TxV × Nat)
 | .error e => .error e
 | .ok (us, b) => .ok (ts ++ us, b)
theorem glueT_nil (x : Except Int (List TxV × Nat)) : glueT [] x = x := by
 rcases x with e | ⟨us, b⟩ <;> rfl
theorem glueT_snoc (ts : List TxV) (t : TxV) (x : Except Int (List TxV × Nat)) : glueT ts (glueT [t] x) = glueT (ts ++ [t]) x := by
 rcases x with e | ⟨us, b⟩
 ·rfl
 ·simp [glueT]
theorem getGo_bad {s signs : ByteArray} {nl yl : List Bool} {m i a : Nat} {tos : ByteArray} {e : Int} (h : restR s a 0 = .error e) : getGo s signs nl yl (m + 1) i a tos = .error e := by
 rw [getGo, h]
theorem getGo_good {s signs : ByteArray} {nl yl : List Bool} {m i a T : Nat} {tos : ByteArray} {zs : List Itm} (h : restR s a 0 = .ok (zs, T)) : getGo s signs nl yl (m + 1) i a tos =
  glueT [gotT (kdV s a 0) zs (if yl.getD i false then 1 else 0) (wdN signs (64 * i) 0) (wdN signs (64 * i + 32) 0) (if nl.getD i false = false ∧ 20 ≤ tos.size then tos.extract 0 20 else ⟨#[]⟩)] (getGo s signs nl yl m (i + 1) T (if nl.getD i false = false ∧ 20 ≤ tos.size then tos.extract 20 tos.size else tos)) := by
 rw [getGo, h]
 dsimp only
 rcases getGo s signs nl yl m (i + 1) T (if nl.getD i false = false ∧ 20 ≤ tos.size then tos.extract 20 tos.size else tos) with e | ⟨us, b⟩ <;> rfl
theorem tk_two {s : ByteArray} {i n : Nat} (hs : s.size = 64 * n) (hi : i < n) : tkE s (64 * i) 32 0 = 0 ∧ tkA s (64 * i) 32 0 = 64 * i + 32 ∧ tkE s (64 * i + 32) 32 0 = 0 ∧ tkA s (64 * i + 32) 32 0 = 64 * (i + 1) := by
 have h1 : tkE s (64 * i) 32 0 = 0 := by unfold tkE; rw [if_pos rfl, if_neg (by omega)]
 have h2 : tkE s (64 * i + 32) 32 0 = 0 := by unfold tkE; rw [if_pos rfl, if_neg (by omega)]
 refine ⟨h1, ?_, h2, ?_⟩
 ·unfold tkA; rw [if_pos h1]
 ·unfold tkA; rw [if_pos h2]; omega
theorem GetS.put {wG u : World} {s signs : ByteArray} {r sg l n k a sa : Nat} {E SE : Int} {C : Array Value} {cur : List Value} {ks : List Nat} {ts : List TxV} (h : GetS wG s signs r sg l n k a sa E SE C cur ks ts u) (f : Nat) (vs : List Value) (hf : f + vs.length ≤ 36) (hk : k < n) :
  GetS wG s signs r sg l n k a sa E SE (putA (36 * k + f) vs C) (cur.take f ++ (vs ++ cur.drop (f + vs.length))) ks ts (u.setRow l (putA (36 * k + f) vs C)) :=
 { h with rd := (setRow_other u l r _ h.rw).trans h.rd, sd := (setRow_other u l sg _ h.gw).trans h.sd, row := blk_setRow h.row, gr := h.gr.setRow _, size := (putA_size _ _ _).trans h.size,
          kind := fun i hi => (putA_far _ _ _ _ (.inl (by omega))).trans (h.kind i hi),
          good := fun h0 i hi => by
           obtain ⟨sl, a, b, c⟩ := h.good h0 i hi
           exact ⟨sl, a.out fun j h1 h2 => putA_far _ _ _ _ (.inl (by omega)), b.keep (by simp) (fun p v hp hv => setRow_cell (by have := h.ll; omega) hv), c⟩
          cl := by have := h.cl; simp; omega
          win := fun _ => (h.win hk).put h.cl hf
          blank := fun i h1 h2 => (h.blank i h1 h2).out fun j h3 h4 => putA_far _ _ _ _ (.inr (by omega)) }
def blankL : List Value := txL TxV.zero (.slice none 0 0) (.slice none 0 0)
def blankC (n : Nat) : Array Value := madeCells blankL.toArray (n * 36)
theorem makeT (m : Nat) (hm : m ≤ 1000000) (w : World) : (Instr.makeSlice 22 (.int .i64 (m : Int)) (.int .i64 (m : Int))).run Tryz.prog w =
  .ok (.slice (some ⟨w.heap.size, 0, none⟩) m m) (w.alloc (.cells (blankC m) 42)) := by
 have hs : (Tryz.prog.info? 42).isSome = true := by kernel_rfl
 obtain ⟨i, hi⟩ := Option.isSome_iff_exists.1 hs
 have hb : (Tryz.prog.info? 42).map (fun i => decide (i.bytes ≤ 10000)) = some true := by kernel_rfl
 have hsz : (Tryz.prog.info? 42).map (·.size) = some 36 := by kernel_rfl
 have hz : (Tryz.prog.info? 42).bind (·.zero) = some (.agg blankL.toArray) := by kernel_rfl
 rw [hi] at hb hsz hz
 simp only [Option.map_some, Option.some.injEq, Option.bind_some] at hb hsz hz
 have hb := of_decide_eq_true hb
 have hmk := run_make_rowN (P := Tryz.prog) 22 42 i _ (by kernel_rfl) hi hz .i64 .i64 m m (Nat.le_refl _) (by have := Nat.mul_le_mul hb hm; omega) (by omega) w
 rw [hmk, hsz]
 rfl
theorem blankC_size (n : Nat) : (blankC n).size = 36 * n := by simp [blankC, madeCells]; omega
theorem blankC_win (n i : Nat) (hi : i < n) : Win (blankC n) (36 * i) (txL TxV.zero (.slice none 0 0) (.slice none 0 0)) := by
 intro f hf
 have hl : blankL.length = 36 := rfl
 have h2 : blankL[f]? = some blankL[f] := List.getElem?_eq_getElem (by omega)
 have hm : (36 * i + f) % 36 = f := by omega
 have hlt : 36 * i + f < n * 36 := by omega
 show (blankC n)[36 * i + f]? = blankL[f]?
 rw [h2]
 simp [blankC, madeCells, hlt, hl, hm, hf]
 try rfl
def badArg (s : ByteArray) (at_ n : Int) (chain : Nat) : Bool := decide (chain = 0) || decide (4611686018427387904 < chain) || decide (n < 0) || decide (512 < n) || decide (at_ < 0) || decide ((s.size : Int) < at_)
theorem getBad (s : ByteArray) (at_ n : Int) (chain : Nat) (w : World) (hs : s.size ≤ 1000000000000) (hb : badArg s at_ n chain = true) :
  Calls Tryz.prog 14 #[.string s, .int .i64 at_, .int .i64 n, .int .u64 (chain : Int)] w fun e w' => e = .returned (.tuple #[.slice none 0 0, .int .i64 0, .int .i64 1]) ∧ w.grownBy w' none := by
 have e1 : ((chain : Int) == 0) = decide (chain = 0) := beq_n chain 0
 have e2 : decide ((4611686018427387904 : Int) < (chain : Int)) = decide (4611686018427387904 < chain) := decide_eq_decide.2 (by omega)
 unfold badArg at hb
 have end_ : ∀ P : Prop, P → P := fun _ h => h
 cases h1 : decide (chain = 0)
 rotate_left
 ·rw [h1] at e1
  clear hb e2
  go_enter Tryz.func14, Tryz.ntmps14
  go_wp2_with fail
  go_ret3
  exact ⟨rfl, World.grownBy.refl _ _⟩
 rw [h1] at e1 hb
 cases h2 : decide (4611686018427387904 < chain)
 rotate_left
 ·rw [h2] at e2
  clear hb
  go_enter Tryz.func14, Tryz.ntmps14
  go_wp2_with fail
  go_ret3
  exact ⟨rfl, World.grownBy.refl _ _⟩
 rw [h2] at e2 hb
 cases h3 : decide (n < 0)
 rotate_left
 ·clear hb
  go_enter Tryz.func14, Tryz.ntmps14
  go_wp2_with fail
  go_ret3
  exact ⟨rfl, World.grownBy.refl _ _⟩
 rw [h3] at hb
 cases h4 : decide ((512 : Int) < n)
 rotate_left
 ·clear hb
  go_enter Tryz.func14, Tryz.ntmps14
  go_wp2_with fail
  go_ret3
  exact ⟨rfl, World.grownBy.refl _ _⟩
 rw [h4] at hb
 cases h5 : decide (at_ < 0)
 rotate_left
 ·clear hb
  go_enter Tryz.func14, Tryz.ntmps14
  go_wp2_with fail
  go_ret3
  exact ⟨rfl, World.grownBy.refl _ _⟩
 rw [h5] at hb
 have h6 : decide ((s.size : Int) < at_) = true := by simpa using hb
 clear hb
 go_enter Tryz.func14, Tryz.ntmps14
 go_wp2_with fail
 go_ret3
 exact ⟨rfl, World.grownBy.refl _ _⟩
theorem headL_first (n p : Nat) (hn : n ≤ 1000000000) (hp : p = 128 ∨ p = 192) : ∃ z l, headL n p = z :: l ∧ p ≤ z.toNat ∧ z.toNat < p + 64 := by
 have l1 := beN_len8 n (by omega)
 unfold headL
 split
 ·exact ⟨_, _, rfl, by rw [UInt8.toNat_ofNat']; omega, by rw [UInt8.toNat_ofNat']; omega⟩
 ·exact ⟨_, _, rfl, by rw [UInt8.toNat_ofNat']; omega, by rw [UInt8.toNat_ofNat']; omega⟩
theorem bytesT_first (b : ByteArray) (h : b.size ≤ 1000000000) : ∃ z l, bytesT b = z :: l ∧ z.toNat < 192 := by
 unfold bytesT
 split
 ·rename_i h1
  have hl : b.data.toList.length = 1 := by rw [Array.length_toList]; exact h1.1
  cases hb : b.data.toList with
  | nil => rw [hb] at hl; cases hl
  | cons z l => rw [hb] at h1; exact ⟨z, l, rfl, Nat.lt_of_lt_of_le h1.2 (by omega)⟩
 ·obtain ⟨z, l, e, h1, h2⟩ := headL_first b.size 128 h (.inl rfl)
  exact ⟨z, l ++ b.data.toList, by rw [e]; rfl, h2⟩
inductive Itm.Form : Itm → Prop
 | text (b : ByteArray) : Itm.Form (.mk false b [])
 | list (xs : List Itm) (h : ∀ x, x ∈ xs → Itm.Form x) : Itm.Form (.mk true ⟨#[]⟩ xs)
theorem size_zero {b : ByteArray} (h : b.size = 0) : b = ⟨#[]⟩ := ba_ext (by
 have : b.data.toList.length = 0 := by rw [Array.length_toList]; exact h
 exact List.eq_nil_of_length_eq_zero this)
mutual
theorem form_of : ∀ (x : Itm) (d : Nat), formF x d = 0 → x.Form
 | .mk l b xs, d, h => by
  rw [formF] at h
  split at h
  ·cases h
  rename_i h1
  cases l with
  | false =>
   have : xs = [] := List.eq_nil_of_length_eq_zero (Classical.byContradiction fun h2 => h1 (.inr ⟨rfl, h2⟩))
   subst this
   exact .text b
  | true =>
   have hb := size_zero (b := b) (Classical.byContradiction fun h2 => h1 (.inl ⟨rfl, h2⟩))
   subst hb
   rw [if_neg (by simp)] at h
   split at h
   ·cases h
   split at h
   ·cases h
   exact .list xs (form_ofL xs (d + 1) h)
theorem form_ofL : ∀ (xs : List Itm) (d : Nat), formL xs d = 0 → ∀ x, x ∈ xs → x.Form
 | [], d, _, x, hx => by cases hx
 | y :: ys, d, h, x, hx => by
  rw [formL] at h
  split at h
  ·rename_i h1; exact absurd h h1
  ·rename_i h1
   rcases List.mem_cons.1 hx with e | hx
   ·rw [e]; exact form_of y d (by simpa using h1)
   ·exact form_ofL ys d h x hx
end
theorem wt_mem {xs : List Itm} {x : Itm} (h : x ∈ xs) : wtF x ≤ wtL xs := by
 induction xs with
 | nil => cases h
 | cons y ys ih =>
  rw [wtL]
  rcases List.mem_cons.1 h with rfl | h
  ·omega
  ·have := ih h; omega
theorem bytesF_first (x : Itm) (h : wtF x ≤ 1000000000) : ∃ z l, bytesF x = z :: l ∧ (x.list = true → 192 ≤ z.toNat) ∧ (x.list = false → z.toNat < 192) := by
 have hw := wtF_eq x
 have hl := bytesL_len x.items (by omega)
 rw [bytesF_eq]
 cases hx : x.list with
 | true =>
  obtain ⟨z, l, e, h1, _⟩ := headL_first (bytesL x.items).length 192 (by omega) (.inr rfl)
  exact ⟨z, l ++ bytesL x.items, by rw [if_pos rfl, e]; rfl, fun _ => h1, (fun h => by cases h)⟩
 | false =>
  obtain ⟨z, l, e, h1⟩ := bytesT_first x.bytes (by omega)
  exact ⟨z, l, by rw [if_neg (by simp)]; exact e, (fun h => by cases h), fun _ => h1⟩
theorem check_form {x : Itm} (h : checkI x = 0) : x.Form ∧ (bytesF x).length ≤ 65536 ∧ formF x 0 = 0 := by
 unfold checkI at h
 split at h
 ·rename_i h1; exact absurd h h1
 ·rename_i h1
  have h1 : formF x 0 = 0 := by simpa using h1
  split at h
  ·cases h
  ·exact ⟨form_of x 0 h1, by omega, h1⟩

theorem item_ok {k : Nat} {l : List UInt8} {a q : Nat} {x : Itm} (h : itemF k l a = .ok (x, q)) : lookE l (a : Int) = 0 ∧ x.list = lookL l (a : Int) ∧ q = lookFrom l (a : Int) + lookN l (a : Int) := by
 have key : ∀ sub, itemG sub l a = .ok (x, q) → lookE l (a : Int) = 0 ∧ x.list = lookL l (a : Int) ∧ q = lookFrom l (a : Int) + lookN l (a : Int) := by
  intro sub h
  unfold itemG at h
  split at h
  ·cases h
  split at h
  ·cases h
  rename_i h2
  have h2 : lookE l (a : Int) = 0 := by simpa using h2
  split at h
  ·rename_i h3
   injection h with h; injection h with h4 h5
   subst h4
   exact ⟨h2, by rw [h3]; rfl, h5.symm⟩
  rename_i h3
  split at h
  ·cases h
  ·split at h
   ·cases h
   ·injection h with h; injection h with h4 h5
    subst h4
    exact ⟨h2, by rw [show lookL l (a : Int) = true by simpa using h3]; rfl, h5.symm⟩
 cases k with
 | zero => exact key none h
 | succ k => exact key _ h
theorem decode_head {l : List UInt8} {x : Itm} (h : decodeF l = .ok x) : lookE l 0 = 0 ∧ x.list = lookL l 0 ∧ lookFrom l 0 + lookN l 0 = l.length := by
 unfold decodeF at h
 split at h
 ·cases h
 ·split at h
  ·cases h
  ·rename_i y q hi
   split at h
   ·cases h
   ·rename_i hq
    injection h with h; subst h
    obtain ⟨h1, h2, h3⟩ := item_ok hi
    have h4 := (look_ok h1).2.1
    simp only [Int.ofNat_zero] at h1 h2 h3 h4
    exact ⟨h1, h2, by omega⟩
noncomputable section
open Classical
end
def Agree (l : List UInt8) (a : Nat) (l' : List UInt8) (a' n : Nat) : Prop := ∀ j, j < n → l'[a' + j]? = l[a + j]?
theorem Agree.take {l l' : List UInt8} {a a' n : Nat} (h : Agree l a l' a' n) {m1 m2 : Nat} (hm : m1 + m2 ≤ n) : (l'.drop (a' + m1)).take m2 = (l.drop (a + m1)).take m2 := by
 apply List.ext_getElem?
 intro i
 rw [List.getElem?_take, List.getElem?_take]
 split
 ·rw [List.getElem?_drop, List.getElem?_drop]
  have := h (m1 + i) (by omega)
  rw [← Nat.add_assoc, ← Nat.add_assoc] at this
  exact this
 ·rfl
theorem Agree.head {l l' : List UInt8} {a a' n : Nat} (h : Agree l a l' a' n) {m : Nat} (hm : m < n) : headC l' (a' + m) = headC l (a + m) := by
 unfold headC
 rw [List.getD_eq_getElem?_getD, List.getD_eq_getElem?_getD, h m hm]
theorem Agree.size {l l' : List UInt8} {a a' n : Nat} (h : Agree l a l' a' n) (h0 : 0 < n) (hn : a + n ≤ l.length) : a' + n ≤ l'.length := by
 have := h (n - 1) (by omega)
 rw [List.getElem?_eq_getElem (l := l) (by omega)] at this
 have := (List.getElem?_eq_some_iff.1 this).1
 omega
theorem look_shift {l l' : List UInt8} {a a' : Nat} (h : lookE l (a : Int) = 0) (hag : Agree l a l' a' (lookFrom l (a : Int) + lookN l (a : Int) - a)) :
  lookE l' (a' : Int) = 0 ∧ lookFrom l' (a' : Int) = a' + (lookFrom l (a : Int) - a) ∧ lookN l' (a' : Int) = lookN l (a : Int) ∧ lookL l' (a' : Int) = lookL l (a : Int) := by
 obtain ⟨b0, b1, b2, b3, b4, b5⟩ := look_ok h
 have e1 : lookFrom l (a : Int) = rawFrom l a := by unfold lookFrom; rw [if_pos h, Int.toNat_natCast]
 have e2 : lookN l (a : Int) = rawN l a := by unfold lookN; rw [if_pos h, Int.toNat_natCast]
 rw [e1, e2] at hag b1 b3
 rw [e1] at b2
 have hsz := hag.size (by omega) (by omega)
 have hc : headC l' a' = headC l a := hag.head (m := 0) (by omega)
 have hl : lookE l (a : Int) = 0 := h
 unfold lookE at h
 split at h
 ·cases h
 split at h
 ·cases h
 rw [Int.toNat_natCast] at h
 split at h
 ·rename_i g; exact absurd h g
 rename_i g3
 split at h
 ·cases h
 rename_i g4
 split at h
 ·cases h
 rename_i g5
 have g3 : rawE l a = 0 := by simpa using g3
 have key : rawE l' a' = 0 ∧ rawFrom l' a' = a' + (rawFrom l a - a) ∧ rawN l' a' = rawN l a := by
  unfold rawE rawFrom rawN at *
  rw [hc]
  split
  ·rename_i c1; simp only [if_pos c1] at *; exact ⟨trivial, by omega, trivial⟩
  ·rename_i c1
   simp only [if_neg c1] at *
   split
   ·rename_i c2; simp only [if_pos c2] at *; exact ⟨trivial, by omega, trivial⟩
   ·rename_i c2
    simp only [if_neg c2] at *
    generalize hm : (headC l a - 128) % 64 - 55 = m at *
    have hlB : lenB l' a' m = lenB l a m := by
     unfold lenB
     rw [hag.take (m1 := 1) (m2 := m) (by omega)]
    have hb : headC l' (a' + 1) = headC l (a + 1) := hag.head (m := 1) (by omega)
    unfold headC at hb
    refine ⟨?_, by omega, hlB⟩
    unfold lengthE at g3 ⊢
    rw [hlB, hb]
    split at g3
    ·cases g3
    rename_i q1
    split at g3
    ·cases g3
    rename_i q2
    split at g3
    ·cases g3
    rename_i q3
    rw [if_neg q1, if_neg (by omega), if_neg q3]
 obtain ⟨k1, k2, k3⟩ := key
 have hE : lookE l' (a' : Int) = 0 := by
  unfold lookE
  rw [if_neg (by omega), if_neg (by omega), Int.toNat_natCast, if_neg (by rw [k1]; simp), if_neg (by omega), if_neg]
  rintro ⟨q1, q2⟩
  rw [hc] at q1
  have hb : headC l' (a' + 1) = headC l (a + 1) := hag.head (m := 1) (by
   unfold rawFrom rawN
   rw [q1]; simp; omega)
  exact g5 ⟨q1, by rw [← hb]; exact q2⟩
 refine ⟨hE, ?_, ?_, ?_⟩
 ·unfold lookFrom; rw [if_pos hE, if_pos hl, Int.toNat_natCast, Int.toNat_natCast]; exact k2
 ·unfold lookN; rw [if_pos hE, if_pos hl, Int.toNat_natCast, Int.toNat_natCast]; exact k3
 ·unfold lookL; rw [if_pos hE, if_pos hl, Int.toNat_natCast, Int.toNat_natCast, hc]
theorem items_shift {rd rd' : Nat → Except Int (Itm × Nat)} {en d d' : Nat} (hd : d ≤ en)
  (hrd : ∀ p x q, d ≤ p → p < en → rd p = .ok (x, q) → d ≤ q ∧ rd' (p - d + d') = .ok (x, q - d + d')) (f : Nat) : ∀ (i p : Nat) (xs : List Itm), d ≤ p → itemsF rd en f i p = .ok xs → itemsF rd' (en - d + d') f i (p - d + d') = .ok xs := by
 induction f with
 | zero => intro i p xs _ h; cases h
 | succ f ih =>
  intro i p xs hp h
  unfold itemsF at h ⊢
  by_cases h1 : p < en
  ·rw [if_pos h1] at h
   rw [if_pos (by omega)]
   by_cases h2 : 512 ≤ i
   ·rw [if_pos h2] at h; cases h
   ·rw [if_neg h2] at h ⊢
    split at h
    ·cases h
    ·rename_i x q hx
     obtain ⟨hq, hx'⟩ := hrd p x q hp h1 hx
     rw [hx']
     split at h
     ·cases h
     ·rename_i ys hys
      have := ih (i + 1) q ys hq hys
      show (match itemsF rd' (en - d + d') f (i + 1) (q - d + d') with | .error e => _ | .ok ys => _) = _
      rw [this]
      exact h
  ·rw [if_neg h1] at h
   rw [if_neg (by omega)]
   exact h
theorem item_shift : ∀ (k k' : Nat), k ≤ k' → ∀ {l l' : List UInt8} {a a' q : Nat} {x : Itm}, itemF k l a = .ok (x, q) → Agree l a l' a' (q - a) → itemF k' l' a' = .ok (x, q - a + a') := by
 intro k
 induction k with
 | zero =>
  intro k' hk l l' a a' q x h hag
  obtain ⟨h1, h2, h3⟩ := item_ok h
  subst h3
  obtain ⟨b0, b1, b2, b3, b4, b5⟩ := look_ok h1
  obtain ⟨s1, s2, s3, s4⟩ := look_shift h1 hag
  have h : itemG none l a = _ := h
  unfold itemG at h
  rw [if_neg (by rintro hh; rw [if_pos hh] at h; cases h), if_neg (by simpa using h1)] at h
  split at h
  ·rename_i hl
   injection h with h; injection h with h _
   rw [item_bytes (by rintro ⟨_, g, _⟩; rw [hl] at s4; rw [(look_ok s1).2.2.2.2.2] at s4; simp at s4; omega) s1 (by rw [s4, hl]), s2, s3, ← h]
   have := hag.take (m1 := lookFrom l (a : Int) - a) (m2 := lookN l (a : Int)) (by omega)
   rw [show a + (lookFrom l (a : Int) - a) = lookFrom l (a : Int) by omega] at this
   rw [this, show a' + (lookFrom l (a : Int) - a) + lookN l (a : Int) = lookFrom l (a : Int) + lookN l (a : Int) - a + a' by omega]
  ·cases h
 | succ k ih =>
  intro k' hk l l' a a' q x h hag
  obtain ⟨k', rfl⟩ : ∃ j, k' = j + 1 := ⟨k' - 1, by omega⟩
  obtain ⟨h1, h2, h3⟩ := item_ok h
  subst h3
  obtain ⟨b0, b1, b2, b3, b4, b5⟩ := look_ok h1
  obtain ⟨s1, s2, s3, s4⟩ := look_shift h1 hag
  have hsz := hag.size (by omega) (by omega)
  cases hl : lookL l (a : Int) with
  | false =>
   rw [item_bytes (by rintro ⟨_, _, g⟩; cases g) h1 hl] at h
   injection h with h; injection h with h _
   rw [item_bytes (by rintro ⟨_, _, g⟩; cases g) s1 (by rw [s4, hl]), s2, s3, ← h]
   have := hag.take (m1 := lookFrom l (a : Int) - a) (m2 := lookN l (a : Int)) (by omega)
   rw [show a + (lookFrom l (a : Int) - a) = lookFrom l (a : Int) by omega] at this
   rw [this, show a' + (lookFrom l (a : Int) - a) + lookN l (a : Int) = lookFrom l (a : Int) + lookN l (a : Int) - a + a' by omega]
  | true =>
   rw [item_list h1 hl] at h
   rw [item_list s1 (by rw [s4, hl]), s2, s3]
   generalize lookFrom l (a : Int) = F at *
   generalize lookN l (a : Int) = N at *
   have e1 : a' + (F - a) + N = F + N - a + a' := by omega
   have e2 : a' + (F - a) = F - a + a' := by omega
   rw [e1, e2]
   split at h
   ·cases h
   ·rename_i xs hxs
    injection h with h; injection h with h _
    have := items_shift (rd := itemF k (l.take (F + N))) (rd' := itemF k' (l'.take (F + N - a + a'))) (en := F + N) (d := a) (d' := a') (by omega) (fun p y q hp hpe hy => by
     obtain ⟨g1, g2, g3⟩ := item_ok hy
     obtain ⟨c0, c1, c2, c3, _, _⟩ := look_ok g1
     rw [← g3] at c1 c3
     rw [List.length_take] at c1
     refine ⟨by omega, ?_⟩
     rw [ih k' (by omega) hy (l' := l'.take (F + N - a + a')) (a' := p - a + a') (fun j hj => ?_), show q - p + (p - a + a') = q - a + a' by omega]
     rw [List.getElem?_take_of_lt (by omega), List.getElem?_take_of_lt (by omega)]
     have := hag (p - a + j) (by omega)
     rw [show a' + (p - a + j) = p - a + a' + j by omega, show a + (p - a + j) = p + j by omega] at this
     exact this) 513 0 F xs b2 hxs
    rw [this, ← h]
theorem items_next {rd : Nat → Except Int (Itm × Nat)} {en f i p : Nat} {x : Itm} {xs : List Itm} (h : itemsF rd en f i p = .ok (x :: xs)) : p < en ∧ ∃ q, rd p = .ok (x, q) ∧ itemsF rd en (f - 1) (i + 1) q = .ok xs := by
 cases f with
 | zero => cases h
 | succ f =>
  unfold itemsF at h
  by_cases h1 : p < en
  ·rw [if_pos h1] at h
   by_cases h2 : 512 ≤ i
   ·rw [if_pos h2] at h; cases h
   ·rw [if_neg h2] at h
    split at h
    ·cases h
    ·rename_i y q hy
     split at h
     ·cases h
     ·rename_i ys hys
      injection h with h; injection h with h3 h4
      subst h3; subst h4
      exact ⟨h1, q, hy, hys⟩
  ·rw [if_neg h1] at h; injection h with h; cases h
theorem items_last {rd : Nat → Except Int (Itm × Nat)} {en f i p : Nat} (h : itemsF rd en f i p = .ok []) : ¬ p < en := by
 cases f with
 | zero => cases h
 | succ f =>
  unfold itemsF at h
  intro h1
  rw [if_pos h1] at h
  by_cases h2 : 512 ≤ i
  ·rw [if_pos h2] at h; cases h
  ·rw [if_neg h2] at h
   split at h
   ·cases h
   ·split at h
    ·cases h
    ·injection h with h; cases h
theorem raw_head (n base : Nat) (t : List UInt8) (hn : n ≤ 65536) (hb : base = 128 ∨ base = 192) :
  128 ≤ headC (headL n base ++ t) 0 ∧ (192 ≤ headC (headL n base ++ t) 0 ↔ base = 192) ∧ rawE (headL n base ++ t) 0 = 0 ∧ rawFrom (headL n base ++ t) 0 = (headL n base).length ∧ rawN (headL n base ++ t) 0 = n ∧ (headC (headL n base ++ t) 0 = 129 → base = 128 ∧ n = 1) := by
 by_cases h : n < 56
 ·rw [show headL n base = [UInt8.ofNat (base + n)] from if_pos h]
  have hc : headC ([UInt8.ofNat (base + n)] ++ t) 0 = base + n := by
   show (UInt8.ofNat (base + n)).toNat = _
   rw [UInt8.toNat_ofNat']; omega
  unfold rawE rawFrom rawN
  rw [hc]
  have q1 : ¬ base + n < 128 := by omega
  have q2 : (base + n - 128) % 64 = n := by omega
  rw [if_neg q1, if_neg q1, if_neg q1, q2, if_pos h, if_pos h, if_pos h]
  exact ⟨by omega, by omega, rfl, rfl, rfl, by omega⟩
 ·rw [show headL n base = UInt8.ofNat (base + 55 + (beN n).length) :: beN n from if_neg h]
  have hm3 := beN_len3 n (by omega)
  have hm1 := beN_pos (n := n) (by omega) (by omega)
  have hv := beV_beN n (Nat.lt_of_le_of_lt hn (by decide))
  have hf := beN_first n
  generalize beN n = r at *
  have hc : headC (UInt8.ofNat (base + 55 + r.length) :: r ++ t) 0 = base + 55 + r.length := by
   show (UInt8.ofNat (base + 55 + r.length)).toNat = _
   rw [UInt8.toNat_ofNat']; omega
  have hB : lenB (UInt8.ofNat (base + 55 + r.length) :: r ++ t) 0 r.length = n := by
   unfold lenB
   rw [show (UInt8.ofNat (base + 55 + r.length) :: r ++ t).drop (0 + 1) = r ++ t from rfl, List.take_left' rfl]; exact hv
  have hz : (UInt8.ofNat (base + 55 + r.length) :: r ++ t).getD (0 + 1) 0 = r.getD 0 0 := by
   cases r with
   | nil => simp at hm1
   | cons a r => rfl
  have hE : lengthE (UInt8.ofNat (base + 55 + r.length) :: r ++ t) 0 r.length = 0 := by
   unfold lengthE
   rw [if_neg (by omega), if_neg (by simp only [List.cons_append, List.length_cons, List.length_append]; omega), if_neg]
   rw [hz, hB]
   rintro (g | g)
   ·rcases hf with f | f
    ·rw [f] at hm1; simp at hm1
    ·exact f (UInt8.toNat_inj.1 (by rw [g]; rfl))
   ·omega
  unfold rawE rawFrom rawN
  rw [hc]
  have q1 : ¬ base + 55 + r.length < 128 := by omega
  have q2 : (base + 55 + r.length - 128) % 64 = 55 + r.length := by omega
  have q3 : ¬ 55 + r.length < 56 := by omega
  rw [if_neg q1, if_neg q1, if_neg q1, q2, if_neg q3, if_neg q3, if_neg q3, show 55 + r.length - 55 = r.length by omega, hE, hB]
  exact ⟨by omega, by omega, rfl, by simp; omega, rfl, by omega⟩
theorem headL_pos (n base : Nat) : 1 ≤ (headL n base).length := by unfold headL; split <;> simp
theorem look_head (n base : Nat) (t : List UInt8) (hn : n ≤ 65536) (hb : base = 128 ∨ base = 192) (ht : n ≤ t.length) (h1 : ¬ (base = 128 ∧ n = 1 ∧ (t.getD 0 0).toNat < 128)) :
  lookE (headL n base ++ t) ((0 : Nat) : Int) = 0 ∧ lookFrom (headL n base ++ t) ((0 : Nat) : Int) = (headL n base).length ∧ lookN (headL n base ++ t) ((0 : Nat) : Int) = n ∧ lookL (headL n base ++ t) ((0 : Nat) : Int) = decide (base = 192) := by
 obtain ⟨r1, r2, r3, r4, r5, r6⟩ := raw_head n base t hn hb
 have hp := headL_pos n base
 have hl : (headL n base ++ t).length = (headL n base).length + t.length := List.length_append
 have hE : lookE (headL n base ++ t) ((0 : Nat) : Int) = 0 := by
  unfold lookE
  rw [if_neg (by omega), if_neg (by omega), Int.toNat_natCast, if_neg (by rw [r3]; simp), if_neg (by omega), if_neg]
  rintro ⟨g1, g2⟩
  obtain ⟨e1, e2⟩ := r6 g1
  subst e1; subst e2
  exact h1 ⟨rfl, rfl, by cases t with
   | nil => exact g2
   | cons a t => exact g2⟩
 refine ⟨hE, ?_, ?_, ?_⟩
 ·unfold lookFrom; rw [if_pos hE, Int.toNat_natCast, r4]
 ·unfold lookN; rw [if_pos hE, Int.toNat_natCast, r5]
 ·unfold lookL; rw [if_pos hE, Int.toNat_natCast]; exact decide_eq_decide.2 r2
theorem bytesT_pos (b : ByteArray) : 1 ≤ (bytesT b).length := by
 have h2 : b.data.toList.length = b.size := Array.length_toList
 unfold bytesT
 split
 ·omega
 ·rw [List.length_append]; have := headL_pos b.size 128; omega
theorem bytesF_pos (x : Itm) : 1 ≤ (bytesF x).length := by
 rw [bytesF_eq]
 split
 ·rw [List.length_append]; have := headL_pos (bytesL x.items).length 192; omega
 ·exact bytesT_pos _
theorem head_only {l : List UInt8} {a : Nat} (h : lookE l (a : Int) = 0) (hc : 128 ≤ headC l a) : (l.drop a).take (lookFrom l (a : Int) - a) = headL (lookN l (a : Int)) (if 192 ≤ headC l a then 192 else 128) := by
 obtain ⟨b0, b1, b2, b3, b4, b5⟩ := look_ok h
 have e1 : lookFrom l (a : Int) = rawFrom l a := by unfold lookFrom; rw [if_pos h, Int.toNat_natCast]
 have e2 : lookN l (a : Int) = rawN l a := by unfold lookN; rw [if_pos h, Int.toNat_natCast]
 rw [e1] at b1 b2 b3 b4 ⊢
 rw [e2] at b1 b3 ⊢
 unfold lookE at h
 rw [if_neg (by omega), if_neg (by omega), Int.toNat_natCast] at h
 split at h
 ·rename_i g; exact absurd h g
 rename_i g
 have g : rawE l a = 0 := by simpa using g
 clear h b5 e1 e2
 have hd : l.drop a = UInt8.ofNat (headC l a) :: l.drop (a + 1) := by
  rw [List.drop_eq_getElem_cons b0]
  unfold headC
  rw [UInt8.ofNat_toNat, List.getD_eq_getElem?_getD, List.getElem?_eq_getElem b0]; rfl
 have hlt := headC_lt l a
 unfold rawE at g
 unfold rawFrom rawN at *
 have n1 : ¬ headC l a < 128 := by omega
 simp only [if_neg n1] at *
 by_cases h2 : (headC l a - 128) % 64 < 56
 ·simp only [if_pos h2] at *
  rw [show a + 1 - a = 1 by omega, hd]
  unfold headL
  rw [if_pos h2, show (if 192 ≤ headC l a then 192 else 128) + (headC l a - 128) % 64 = headC l a by split <;> omega]
  rfl
 ·simp only [if_neg h2] at *
  generalize hm : (headC l a - 128) % 64 - 55 = m at *
  unfold lengthE at g
  split at g
  ·cases g
  rename_i g1
  split at g
  ·cases g
  rename_i g2
  split at g
  ·cases g
  rename_i g3
  have hlen : ((l.drop (a + 1)).take m).length = m := by rw [List.length_take, List.length_drop]; omega
  have hbe : beN (lenB l a m) = (l.drop (a + 1)).take m := by
   show beN (beV _) = _
   refine beN_beV _ (by omega) ?_
   rw [List.getD_eq_getElem?_getD, List.getElem?_take_of_lt (by omega), List.getElem?_drop, Nat.add_zero, ← List.getD_eq_getElem?_getD]
   intro e
   exact g3 (.inl (by rw [e]; rfl))
  unfold headL
  rw [if_neg (by omega), hbe, hlen, show a + 1 + m - a = m + 1 by omega, hd, List.take_succ_cons, show (if 192 ≤ headC l a then 192 else 128) + 55 + m = headC l a by split <;> omega]
theorem text_back (b : ByteArray) (k : Nat) (h : (bytesT b).length ≤ 65536) : itemF k (bytesT b) 0 = .ok (.mk false b [], (bytesT b).length) := by
 have h2 : b.data.toList.length = b.size := Array.length_toList
 unfold bytesT at h ⊢
 by_cases h1 : b.size = 1 ∧ (b.data.toList.getD 0 0).toNat < 128
 ·rw [if_pos h1] at h ⊢
  cases hb : b.data.toList with
  | nil => rw [hb] at h2; simp at h2; omega
  | cons z r =>
   rw [hb] at h2 h1
   obtain rfl : r = [] := List.eq_nil_of_length_eq_zero (by simp at h2; omega)
   have hz : headC [z] 0 < 128 := h1.2
   have e1 : rawE [z] 0 = 0 := if_pos hz
   have e2 : rawFrom [z] 0 = 0 := if_pos hz
   have e3 : rawN [z] 0 = 1 := if_pos hz
   have hE : lookE [z] ((0 : Nat) : Int) = 0 := by
    unfold lookE
    rw [if_neg (by simp), if_neg (by simp), Int.toNat_natCast, if_neg (by rw [e1]; simp), if_neg (by rw [e2, e3]; simp), if_neg (by omega)]
   have hF : lookFrom [z] ((0 : Nat) : Int) = 0 := by unfold lookFrom; rw [if_pos hE, Int.toNat_natCast, e2]
   have hN : lookN [z] ((0 : Nat) : Int) = 1 := by unfold lookN; rw [if_pos hE, Int.toNat_natCast, e3]
   have hL : lookL [z] ((0 : Nat) : Int) = false := by unfold lookL; rw [if_pos hE, Int.toNat_natCast]; exact decide_eq_false (by omega)
   rw [item_bytes (by omega) hE hL, hF, hN]
   have : b = ⟨#[z]⟩ := ba_ext (by rw [hb])
   rw [this]; rfl
 ·rw [if_neg h1] at h ⊢
  rw [List.length_append, h2] at h
  obtain ⟨q1, q2, q3, q4⟩ := look_head b.size 128 b.data.toList (by omega) (.inl rfl) (by omega) (by rintro ⟨_, g1, g2⟩; exact h1 ⟨g1, g2⟩)
  have q4 : lookL (headL b.size 128 ++ b.data.toList) ((0 : Nat) : Int) = false := q4
  have q5 := (look_ok q1).2.2.2.2.2
  rw [q4] at q5
  have q5 : ¬ 192 ≤ headC (headL b.size 128 ++ b.data.toList) 0 := of_decide_eq_false q5.symm
  rw [item_bytes (fun g => q5 g.2.1) q1 q4, q2, q3, List.drop_left' rfl, List.take_of_length_le (by omega), List.length_append, h2]
mutual
theorem back_item : ∀ (x : Itm) (k : Nat), k ≤ 12 → formF x (12 - k) = 0 → (bytesF x).length ≤ 65536 → itemF k (bytesF x) 0 = .ok (x, (bytesF x).length)
 | .mk l b xs, k, hk, hf, hl => by
  rw [formF] at hf
  rw [bytesF] at hl ⊢
  split at hf
  ·cases hf
  rename_i h1
  cases l with
  | false =>
   have : xs = [] := List.eq_nil_of_length_eq_zero (Classical.byContradiction fun h2 => h1 (.inr ⟨rfl, h2⟩))
   subst this
   exact text_back b k hl
  | true =>
   have hb := size_zero (b := b) (Classical.byContradiction fun h2 => h1 (.inl ⟨rfl, h2⟩))
   subst hb
   rw [if_neg (by simp)] at hf
   split at hf
   ·cases hf
   rename_i h3
   split at hf
   ·cases hf
   rename_i h4
   obtain ⟨j, rfl⟩ : ∃ j, k = j + 1 := ⟨k - 1, by omega⟩
   rw [show 12 - (j + 1) + 1 = 12 - j by omega] at hf
   rw [if_pos rfl] at hl ⊢
   have hl2 := hl
   rw [List.length_append] at hl2
   obtain ⟨q1, q2, q3, q4⟩ := look_head (bytesL xs).length 192 (bytesL xs) (by omega) (.inr rfl) (by omega) (by omega)
   rw [item_list q1 (by rw [q4]; rfl), q2, q3, ← List.length_append, List.take_length,
    back_items xs j (by omega) hf (headL (bytesL xs).length 192 ++ bytesL xs) (headL (bytesL xs).length 192).length 0 513 hl (by rw [List.drop_left' rfl]) (by rw [List.length_append]) (by omega) (by omega)]
   rfl
theorem back_items : ∀ (xs : List Itm) (k : Nat), k ≤ 12 → formL xs (12 - k) = 0 → ∀ (L : List UInt8) (p i f : Nat), L.length ≤ 65536 → L.drop p = bytesL xs → p + (bytesL xs).length = L.length → xs.length + i ≤ 512 → xs.length < f → itemsF (itemF k L) L.length f i p = .ok xs
 | [], k, hk, hf, L, p, i, f, hL, hd, hp, hi, hff => by
  obtain ⟨f, rfl⟩ : ∃ j, f = j + 1 := ⟨f - 1, by simp at hff; omega⟩
  unfold itemsF
  rw [bytesL] at hp
  rw [if_neg (by simp at hp; omega)]
 | x :: xs, k, hk, hf, L, p, i, f, hL, hd, hp, hi, hff => by
  obtain ⟨f, rfl⟩ : ∃ j, f = j + 1 := ⟨f - 1, by simp at hff; omega⟩
  rw [formL] at hf
  split at hf
  ·rename_i h1; exact absurd hf h1
  rename_i h1
  have h1 : formF x (12 - k) = 0 := by simpa using h1
  rw [bytesL] at hd hp
  rw [List.length_append] at hp
  rw [List.length_cons] at hi hff
  have hx := back_item x k hk h1 (by omega)
  have hs := item_shift k k (Nat.le_refl _) hx (l' := L) (a' := p) (fun j hj => by
   have := congrArg (fun l => l[j]?) hd
   simp only [List.getElem?_drop] at this
   rw [this, List.getElem?_append_left (by omega), Nat.zero_add])
  have hpos := bytesF_pos x
  rw [Nat.sub_zero] at hs
  have hr := back_items xs k hk hf L ((bytesF x).length + p) (i + 1) f hL (by
   rw [Nat.add_comm, ← List.drop_drop, hd, List.drop_left' rfl]) (by omega) (by omega) (by omega)
  unfold itemsF
  rw [if_pos (by omega), if_neg (by omega), hs]
  show (match itemsF (itemF k L) L.length f (i + 1) ((bytesF x).length + p) with | .error e => Except.error e | .ok ys => .ok (x :: ys)) = _
  rw [hr]
end
theorem decode_back {x : Itm} (h : checkI x = 0) : decodeF (bytesF x) = .ok x := by
 obtain ⟨h1, h2, h3⟩ := check_form h
 unfold decodeF
 rw [if_neg (by omega), back_item x 12 (by omega) h3 h2]
 exact if_neg (by omega)
theorem items_only {l : List UInt8} {rd : Nat → Except Int (Itm × Nat)} {en d : Nat} (hen : en ≤ l.length)
  (hrd : ∀ p y q, rd p = .ok (y, q) → p < q ∧ q ≤ en ∧ bytesF y = (l.drop p).take (q - p) ∧ formF y d = 0 ∧ wtF y ≤ 11 * (q - p)) (f : Nat) :
  ∀ (i p : Nat) (xs : List Itm), p ≤ en → i ≤ 512 → itemsF rd en f i p = .ok xs → bytesL xs = (l.drop p).take (en - p) ∧ formL xs d = 0 ∧ wtL xs ≤ 11 * (en - p) ∧ xs.length + i ≤ 512 := by
 induction f with
 | zero => intro i p xs _ _ h; cases h
 | succ f ih =>
  intro i p xs hp hi h
  cases xs with
  | nil =>
   have := items_last h
   obtain rfl : p = en := by omega
   rw [Nat.sub_self, List.take_zero]
   exact ⟨rfl, rfl, by simp [wtL], by simp; omega⟩
  | cons x xs =>
   obtain ⟨h1, q, h2, h3⟩ := items_next h
   have hi2 : i < 512 := by
    unfold itemsF at h
    rw [if_pos h1] at h
    by_cases g : 512 ≤ i
    ·rw [if_pos g] at h; cases h
    ·omega
   obtain ⟨r1, r2, r3, r4, r5⟩ := hrd _ _ _ h2
   obtain ⟨s1, s2, s3, s4⟩ := ih (i + 1) q xs r2 (by omega) h3
   refine ⟨?_, ?_, ?_, ?_⟩
   ·rw [bytesL, r3, s1, show en - p = (q - p) + (en - q) by omega, List.take_add, List.drop_drop, show p + (q - p) = q by omega]
   ·rw [formL, if_neg (by rw [r4]; simp)]; exact s2
   ·rw [wtL]; omega
   ·rw [List.length_cons]; omega
theorem only_item : ∀ (k : Nat), k ≤ 12 → ∀ {l : List UInt8} {a q : Nat} {x : Itm}, itemF k l a = .ok (x, q) → bytesF x = (l.drop a).take (q - a) ∧ formF x (12 - k) = 0 ∧ wtF x ≤ 11 * (q - a) := by
 have text : ∀ {l : List UInt8} {a d : Nat}, lookE l (a : Int) = 0 → lookL l (a : Int) = false → bytesF (.mk false ⟨((l.drop (lookFrom l a)).take (lookN l a)).toArray⟩ []) = (l.drop a).take (lookFrom l a + lookN l a - a) ∧ formF (.mk false ⟨((l.drop (lookFrom l a)).take (lookN l a)).toArray⟩ []) d = 0 ∧ wtF (.mk false ⟨((l.drop (lookFrom l a)).take (lookN l a)).toArray⟩ []) ≤ 11 * (lookFrom l a + lookN l a - a) := by
  intro l a d h hL
  obtain ⟨b0, b1, b2, b3, b4, b5⟩ := look_ok h
  rw [hL] at b5
  have b5 : ¬ 192 ≤ headC l a := of_decide_eq_false b5.symm
  have hz : ((l.drop (lookFrom l a)).take (lookN l a)).length = lookN l a := by rw [List.length_take, List.length_drop]; omega
  refine ⟨?_, ?_, ?_⟩
  ·rw [bytesF, if_neg (by simp)]
   unfold bytesT
   have hsz : (ByteArray.mk ((l.drop (lookFrom l a)).take (lookN l a)).toArray).size = lookN l a := by
    show (List.toArray _).size = _
    rw [List.size_toArray, hz]
   rw [hsz]
   show (if _ ∧ ((((l.drop (lookFrom l a)).take (lookN l a))).getD 0 0).toNat < 128 then (l.drop (lookFrom l a)).take (lookN l a) else _ ++ (l.drop (lookFrom l a)).take (lookN l a)) = _
   have hg : 0 < lookN l a → (((l.drop (lookFrom l a)).take (lookN l a)).getD 0 0).toNat = headC l (lookFrom l a) := by
    intro h0
    unfold headC
    rw [List.getD_eq_getElem?_getD, List.getElem?_take_of_lt h0, List.getElem?_drop, Nat.add_zero, ← List.getD_eq_getElem?_getD]
   by_cases hc : headC l a < 128
   ·have e1 : lookFrom l (a : Int) = a := by unfold lookFrom; rw [if_pos h, Int.toNat_natCast]; exact if_pos hc
    have e2 : lookN l (a : Int) = 1 := by unfold lookN; rw [if_pos h, Int.toNat_natCast]; exact if_pos hc
    rw [if_pos ⟨e2, by rw [hg (by omega), e1]; exact hc⟩, e1, e2, show a + 1 - a = 1 by omega]
   ·have hh := head_only h (by omega)
    rw [if_neg b5] at hh
    rw [if_neg, ← hh]
    ·conv => rhs; rw [show lookFrom l (a : Int) + lookN l (a : Int) - a = (lookFrom l (a : Int) - a) + lookN l (a : Int) by omega, List.take_add, List.drop_drop, show a + (lookFrom l (a : Int) - a) = lookFrom l (a : Int) by omega]
    ·rintro ⟨g1, g2⟩
     rw [hg (by omega)] at g2
     have e1 : lookFrom l (a : Int) = rawFrom l a := by unfold lookFrom; rw [if_pos h, Int.toNat_natCast]
     have e2 : lookN l (a : Int) = rawN l a := by unfold lookN; rw [if_pos h, Int.toNat_natCast]
     rw [e2] at g1
     rw [e1] at g2
     have h' := h
     unfold lookE at h'
     rw [if_neg (by omega), if_neg (by omega), Int.toNat_natCast] at h'
     split at h'
     ·rename_i g; exact absurd h' g
     rename_i gE
     have gE : rawE l a = 0 := by simpa using gE
     split at h'
     ·cases h'
     split at h'
     ·cases h'
     rename_i g4
     unfold rawE at gE
     unfold rawN at g1
     unfold rawFrom at g2
     rw [if_neg hc] at gE g1 g2
     have hlt := headC_lt l a
     split at g1
     ·rename_i g5
      rw [if_pos g5] at g2
      exact g4 ⟨by omega, g2⟩
     ·rename_i g5
      rw [if_neg g5] at gE
      unfold lengthE at gE
      split at gE
      ·cases gE
      split at gE
      ·cases gE
      split at gE
      ·cases gE
      rename_i g6
      exact g6 (.inr (by omega))
  ·rw [formF, if_neg (by simp), if_pos rfl]
  ·rw [wtF]
   show 10 + (List.toArray _).size + wtL [] ≤ _
   rw [List.size_toArray, hz, wtL]
   omega
 intro k
 induction k with
 | zero =>
  intro hk l a q x h
  obtain ⟨h1, h2, h3⟩ := item_ok h
  subst h3
  have hg : itemG none l a = _ := h
  unfold itemG at hg
  rw [if_neg (by rintro hh; rw [if_pos hh] at hg; cases hg), if_neg (by simpa using h1)] at hg
  clear h
  split at hg
  ·rename_i hL
   injection hg with h; injection h with h _
   rw [← h]
   exact text h1 hL
  ·cases hg
 | succ k ih =>
  intro hk l a q x h
  obtain ⟨h1, h2, h3⟩ := item_ok h
  cases hL : lookL l (a : Int) with
  | false =>
   rw [item_bytes (by rintro ⟨_, _, g⟩; cases g) h1 hL] at h
   injection h with h; injection h with h _
   subst h3
   rw [← h]
   exact text h1 hL
  | true =>
   obtain ⟨b0, b1, b2, b3, b4, b5⟩ := look_ok h1
   rw [hL] at b5
   have b5 : 192 ≤ headC l a := of_decide_eq_true b5.symm
   have hh := head_only h1 (by omega)
   rw [if_pos b5] at hh
   have hFa : a < lookFrom l (a : Int) := by
    have e := congrArg List.length hh
    have := headL_pos (lookN l (a : Int)) 192
    rw [List.length_take] at e
    omega
   rw [item_list h1 hL] at h
   subst h3
   split at h
   ·cases h
   ·rename_i xs hxs
    injection h with h; injection h with h _
    rw [← h]
    obtain ⟨r1, r2, r3, r4⟩ := items_only (l := l) (d := 12 - k) b1 (fun p y q hy => by
     obtain ⟨s1, s2, s3⟩ := item_ok hy
     obtain ⟨c0, c1, c2, c3, _, _⟩ := look_ok s1
     rw [← s3] at c1 c3
     obtain ⟨t1, t2, t3⟩ := ih (by omega) hy
     rw [List.length_take] at c1
     refine ⟨c3, by omega, ?_, t2, t3⟩
     rw [t1, List.drop_take, List.take_take, Nat.min_eq_left (by omega)]) 513 0 _ xs (by omega) (by omega) hxs
    rw [show lookFrom l (a : Int) + lookN l (a : Int) - lookFrom l (a : Int) = lookN l (a : Int) by omega] at r1 r3
    have hbl : (bytesL xs).length = lookN l (a : Int) := by rw [r1, List.length_take, List.length_drop]; omega
    refine ⟨?_, ?_, ?_⟩
    ·rw [bytesF, if_pos rfl, hbl, ← hh, r1]
     conv => rhs; rw [show lookFrom l (a : Int) + lookN l (a : Int) - a = (lookFrom l (a : Int) - a) + lookN l (a : Int) by omega, List.take_add, List.drop_drop, show a + (lookFrom l (a : Int) - a) = lookFrom l (a : Int) by omega]
    ·rw [formF, if_neg (by simp), if_neg (by simp), if_neg (by omega), if_neg (by omega), show 12 - (k + 1) + 1 = 12 - k by omega]
     exact r2
    ·rw [wtF, show ByteArray.empty.size = 0 from rfl]
     omega
theorem decode_only {l : List UInt8} {x : Itm} (h : decodeF l = .ok x) : checkI x = 0 ∧ bytesF x = l ∧ wtF x ≤ 11 * l.length := by
 obtain ⟨g1, g2, g3⟩ := decode_head h
 unfold decodeF at h
 split at h
 ·cases h
 rename_i hl
 split at h
 ·cases h
 ·rename_i y q hi
  split at h
  ·cases h
  ·rename_i hq
   injection h with h; subst h
   obtain ⟨_, _, e⟩ := item_ok hi
   have e : q = l.length := by rw [← g3, e]; rfl
   obtain ⟨r1, r2, r3⟩ := only_item 12 (by omega) hi
   rw [e, Nat.sub_zero, List.drop_zero, List.take_length] at r1
   rw [e] at r3
   refine ⟨?_, r1, by omega⟩
   unfold checkI
   rw [if_neg (by rw [show (0 : Nat) = 12 - 12 from rfl, r2]; simp), if_neg (by rw [r1]; omega)]
theorem itR_zb {l : List UInt8} {a T : Nat} {y : Itm} (h : itR l a = .ok (y, T)) (hl : l.length ≤ 1000000000000) : ∀ z ∈ y.items, z.bytes.size ≤ 9223372036854775807 := by
 unfold itR at h
 split at h
 ·cases h
 ·split at h
  ·cases h
  ·rename_i x hx
   cases h
   obtain ⟨_, _, hw⟩ := decode_only hx
   intro z hz
   have h1 := wt_mem hz
   have h2 := wtF_eq y
   have h3 := wtF_eq z
   have h4 : ((l.drop a).take (lookFrom l a + lookN l a - a)).length ≤ l.length := by simp; omega
   omega
end Go.Proofs.YtgclnikdkfpflaaGreatDoor
