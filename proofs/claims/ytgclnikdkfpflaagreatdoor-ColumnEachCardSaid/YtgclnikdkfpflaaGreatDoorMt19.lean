/- Merged: CgH, CgI0. -/
import Derived.Test.YtgclnikdkfpflaaGreatDoorMt1
import Derived.Test.YtgclnikdkfpflaaGreatDoorMt18
namespace Go.Proofs.YtgclnikdkfpflaaGreatDoor
open Go.RowKit Go.Shelf
open List renaming set_cons_zero → jz, set_cons_succ → js, setIfInBounds_toArray → jb
set_option linter.unusedVariables false
set_option linter.unusedSimpArgs false
set_option maxRecDepth 100000
set_option maxHeartbeats 16000000
theorem SubV.tailC {S : Nat → Prop} {W : World} {x : Itm} {xs : List Itm} {b off c : Nat} (h : SubV S W (x :: xs) (.slice (some ⟨b, off, none⟩) (xs.length + 1) c)) : SubV S W xs (.slice (some ⟨b, off + 3, none⟩) xs.length (c - 1)) := by
 have hc := h.cap
 obtain ⟨_, vs, hx, hr⟩ := h.row
 refine .mk xs _ (c - 1) vs.tail (fun h0 => ?_) (fun i hi => ?_) (by omega)
 ·obtain ⟨b', off', hA, hb, hcell⟩ := hr (by simp)
  cases hA
  refine ⟨b, off + 3, rfl, hb, fun i hi => ?_⟩
  have := hcell (i + 1) (by simp; omega)
  rw [show off + (i + 1) * 3 = off + 3 + i * 3 by omega] at this
  have e : vs.getD (i + 1) undef = vs.tail.getD i undef := by cases vs <;> rfl
  rw [e] at this
  exact this
 ·have := hx (i + 1) (by simp; omega)
  have e : vs.getD (i + 1) undef = vs.tail.getD i undef := by cases vs <;> rfl
  rw [e] at this
  exact this
theorem sub_keepP {S : Nat → Prop} {w w' : World} {l : List Itm} {v : Value} {p : Nat} (h : SubV S w l v) (hg : w.grownBy w' (some p)) (hp : ¬ S p) : SubV S w' l v :=
 h.keep fun q hq u hu => hg.cell hu fun e => by have := Option.some.inj e; exact hp (this ▸ hq)
def NextEnd (S : Nat → Prop) (p : Nat) (y : Itm) (ys : List Itm) (w : World) (e : Ending) (w' : World) : Prop :=
 ∃ sA sc A' c', e = .returned (.agg #[.bool y.list, .string y.bytes, .slice sA y.items.length sc]) ∧ SubV S w' y.items (.slice sA y.items.length sc) ∧ Boxed w' p 104 (.slice A' ys.length c') ∧ SubV S w' ys (.slice A' ys.length c') ∧ w.grownBy w' (some p)
theorem nextC_any (S : Nat → Prop) (p : Nat) (y : Itm) (ys : List Itm) (A : Option Addr) (c : Nat) (w : World) (hp : Boxed w p 104 (.slice A (ys.length + 1) c)) (hs : SubV S w (y :: ys) (.slice A (ys.length + 1) c)) (hSp : ¬ S p) (hSg : ¬ S w.heap.size) :
  Calls Tryz.prog 88 #[.pointer (some ⟨p, 0, none⟩)] w (NextEnd S p y ys w) := by
 obtain ⟨b, off, sA, sc, rfl, hSb, i0, i1, i2, hsub⟩ := hs.item (k := 0) (by simp)
 simp only [Nat.zero_mul, Nat.add_zero, List.getD_cons_zero] at i0 i1 i2 hsub
 have hst := hs.tailC
 have hcap : ys.length + 1 ≤ c := hs.cap
 have hlt := hp.lt
 unfold NextEnd
 obtain ⟨m, hm⟩ : ∃ m, ys.length = m := ⟨_, rfl⟩
 obtain ⟨ny, hny⟩ : ∃ m, y.items.length = m := ⟨_, rfl⟩
 have hst2 : SubV S w ys (.slice (if c = 1 then some ⟨b, off, none⟩ else some ⟨b, off + 3, none⟩) ys.length (c - 1)) := by
  by_cases h1 : c = 1
  ·have h0 : ys = [] := List.length_eq_zero_iff.1 (by omega)
   subst h0
   exact .mk [] _ _ [] (fun h => by cases h) (fun i h => by cases h)
  ·rw [if_neg h1]; exact hst
 clear hst
 obtain ⟨A', hA'⟩ : ∃ A', (if c = 1 then some ⟨b, off, none⟩ else some ⟨b, off + 3, none⟩ : Option Addr) = A' := ⟨_, rfl⟩
 rw [hA'] at hst2
 rw [hm] at hp hst2 hcap ⊢
 rw [hny] at i2 hsub ⊢
 have hg0 := only_alloc (World.grownBy.refl w none) (.cells #[.bool false, .string ⟨#[]⟩, .slice none 0 0] 106)
 have hx1 := Blk.new w 106 #[.bool false, .string ⟨#[]⟩, .slice none 0 0]
 have hp1 := hp.alloc (.cells #[.bool false, .string ⟨#[]⟩, .slice none 0 0] 106)
 have HSUB := Lib.hid (hsub.grown hg0); have HST := Lib.hid (hst2.grown hg0); have HG0 := Lib.hid (grown_rowC hg0 (some p)); have HLT := Lib.hid hlt
 replace i0 := hg0.cell i0 (by simp); replace i1 := hg0.cell i1 (by simp); replace i2 := hg0.cell i2 (by simp)
 have q0 : (0 : Int) < ((m + 1 : Nat) : Int) := by omega
 have HA' := Lib.hid hA'
 clear hA' hsub hst2 hs hg0 hm hny hp hlt hSb
 go_enter Tryz.func88, Tryz.ntmps88
 go_upto_region 1 with (fail)
 obtain ⟨g, hg⟩ : ∃ g, w.heap.size = g := ⟨_, rfl⟩
 have HW := Lib.hid hg
 have hz : (w.alloc (.cells #[.bool false, .string ⟨#[]⟩, .slice none 0 0] 106)).heap.size = g + 1 := by simp [hg]
 rw [hg] at hx1 hSg ⊢
 clear hg
 generalize w.alloc (.cells #[.bool false, .string ⟨#[]⟩, .slice none 0 0] 106) = W1 at *
 have c0 := hp1.cell
 have hga := only_alloc (World.grownBy.refl W1 none) (.cells #[.bool y.list, .string y.bytes, .slice sA ny sc] 106)
 have hx2 := Blk.new W1 106 #[.bool y.list, .string y.bytes, .slice sA ny sc]
 have hp2 := hp1.alloc (.cells #[.bool y.list, .string y.bytes, .slice sA ny sc] 106)
 rw [hz] at hx2
 have HX1 := Lib.hid (hx1.grown hga (by simp)); have HSUB := Lib.hid (HSUB.out.grown hga); have HST := Lib.hid (HST.out.grown hga); have HG1 := Lib.hid (grown_self HG0.out hga (by simp))
 go_upto_region 2 with (fail)
 (try rw [hz])
 clear hga hz hx1 hp1 i0 i1 i2 c0
 generalize W1.alloc (.cells #[.bool y.list, .string y.bytes, .slice sA ny sc] 106) = W2 at *
 have c0 := hp2.cell
 have f0 := hp2.frozen
 have HX2 := Lib.hid hx2; have HP2 := Lib.hid hp2
 clear hx2 hp2
 go_upto_region 3 with (fail)
 rw [HA'.out]
 have hwg : w.heap.size ≤ g := by have := HW.out; omega
 have hpg : p ≠ g ∧ p ≠ g + 1 := by have := HLT.out; have := HW.out; omega
 have HP3 : Hid (Boxed (W2.setCell ⟨p, 0, none⟩ (.slice A' m (c - 1))) p 104 (.slice A' m (c - 1))) := Lib.hid (HP2.out.set _)
 have HG3 := Lib.hid (only_setC HG1.out 0 (.slice A' m (c - 1)))
 have HX13 := Lib.hid (blk_setO HX1.out (fun e => hpg.1 e.symm) 0 (.slice A' m (c - 1))); have HX23 := Lib.hid (blk_setO HX2.out (fun e => hpg.2 e.symm) 0 (.slice A' m (c - 1)))
 have hsk : ∀ l v, SubV S W2 l v → SubV S (W2.setCell ⟨p, 0, none⟩ (.slice A' m (c - 1))) l v := fun l v h => sub_keepP h (only_setC (World.grownBy.refl W2 _) 0 _) hSp
 have HSUB3 := Lib.hid (hsk _ _ HSUB.out); have HST3 := Lib.hid (hsk _ _ HST.out)
 clear c0 f0 hsk HA' HSUB HST HX1 HX2 HP2 HG1 HG0 hcap q0
 generalize W2.setCell ⟨p, 0, none⟩ (.slice A' m (c - 1)) = W3 at *
 have x0 := HX23.out.cell 0; have x1 := HX23.out.cell 1; have x2 := HX23.out.cell 2
 have y0 := HX13.out.cell 0; have y1 := HX13.out.cell 1; have y2 := HX13.out.cell 2
 have d0 := HX13.out.frozen 0; have d1 := HX13.out.frozen 1; have d2 := HX13.out.frozen 2
 simp only [List.getElem?_toArray, List.getElem?_cons_zero, List.getElem?_cons_succ] at x0 x1 x2 y0 y1 y2
 have hgS : ∀ l v, SubV S W3 l v → SubV (fun q => S q ∧ q < W3.heap.size) W3 l v := fun l v h => h.lt
 have HR4 := Lib.hid (((HX13.out.set_ 0 (.bool y.list)).set_ 1 (.string y.bytes)).set_ 2 (.slice sA ny sc))
 have HG4 := Lib.hid (only_set (only_set (only_set HG3.out (p := ⟨g, 0, none⟩) hwg (.bool y.list)) (p := ⟨g, 1, none⟩) hwg (.string y.bytes)) (p := ⟨g, 2, none⟩) hwg (.slice sA ny sc))
 have HP4 : Hid (Boxed (((W3.setCell ⟨g, 0, none⟩ (.bool y.list)).setCell ⟨g, 1, none⟩ (.string y.bytes)).setCell ⟨g, 2, none⟩ (.slice sA ny sc)) p 104 (.slice A' m (c - 1))) := Lib.hid (blk_setO (blk_setO (blk_setO (show Blk W3 p 104 #[.slice A' m (c - 1)] from HP3.out) hpg.1 0 _) hpg.1 1 _) hpg.1 2 _)
 have HSUB4 := Lib.hid (sub_set3 (g := g) HSUB3.out hSg (.bool y.list) (.string y.bytes) (.slice sA ny sc)); have HST4 := Lib.hid (sub_set3 (g := g) HST3.out hSg (.bool y.list) (.string y.bytes) (.slice sA ny sc))
 clear hwg hpg hgS HSUB3 HST3 HP3 HG3
 go_wp2_with fail
 refine bodyPost_ret (results_cell1 (fn := Tryz.f88) rfl _ _ _ _ rfl (load_itemF HR4.out)) rfl ?_
 exact ⟨sA, sc, A', c - 1, rfl, HSUB4.out, HP4.out, HST4.out, HG4.out⟩
structure Gr2 (w u : World) (r g : Nat) : Prop where
 os : u.os = w.os
 tape : u.tape = w.tape
 output : u.output = w.output
 size : w.heap.size ≤ u.heap.size
 block : ∀ k, k < w.heap.size → k ≠ r → k ≠ g → u.heap[k]? = w.heap[k]?
theorem Gr2.refl (w : World) (r g : Nat) : Gr2 w w r g := ⟨rfl, rfl, rfl, Nat.le_refl _, fun _ _ _ _ => rfl⟩
theorem Gr2.grown {w u u' : World} {r g : Nat} (h : Gr2 w u r g) {row : Option Nat} (hg : u.grownBy u' row) (hr : ∀ k, row = some k → k = r ∨ k = g ∨ w.heap.size ≤ k) : Gr2 w u' r g :=
 ⟨hg.os.trans h.os, hg.tape.trans h.tape, hg.output.trans h.output, Nat.le_trans h.size hg.size, fun k hk h1 h2 => (hg.block k (Nat.lt_of_lt_of_le hk h.size) (fun e => by rcases hr k e.symm with h3 | h3 | h3; exact h1 h3; exact h2 h3; omega)).trans (h.block k hk h1 h2)⟩
theorem Gr2.setRow {w u : World} {r g : Nat} (h : Gr2 w u r g) (C : Array Value) : Gr2 w (u.setRow g C) r g :=
 ⟨h.os, h.tape, h.output, by simpa using h.size, fun k hk h1 h2 => (setRow_other u g k C h2).trans (h.block k hk h1 h2)⟩
def wCells (z : Itm) : List Value := [.int .u64 (wordP z.list z.bytes 0 : Nat), .int .u64 (wordP z.list z.bytes 1 : Nat), .int .u64 (wordP z.list z.bytes 2 : Nat), .int .u64 (wordP z.list z.bytes 3 : Nat)]
def wordsC (o : Nat) : List Nat → List Itm → Array Value → Array Value
 | f :: fs, z :: zs, C => wordsC o fs zs (putA (o + f) (wCells z) C)
 | _, _, C => C
def wordsE : List Itm → Int → Int
 | [], E => E
 | z :: zs, E => wordsE zs (kE E (wordE z.list z.bytes))
def dtE (d : Itm) : Int := if d.list then 2 else textE d.bytes.size 0 4096
def dtV (d : Itm) : ByteArray := if d.list = false ∧ textE d.bytes.size 0 4096 = 0 then d.bytes else ⟨#[]⟩
theorem putA_far : ∀ (vs : List Value) (o : Nat) (c : Array Value) (j : Nat), j < o ∨ o + vs.length ≤ j → (putA o vs c)[j]? = c[j]?
 | [], _, _, _, _ => rfl
 | v :: r, o, c, j, h => by
  simp only [List.length_cons] at h
  rw [putA, putA_far r (o + 1) _ j (by omega), Array.getElem?_setIfInBounds_ne (by omega)]
structure RsA (w : World) (s : ByteArray) (r gl o : Nat) (K : Int) (a : Nat) (E : Int) (C : Array Value) (p b : Nat) (zs : List Itm) (u : World) : Prop where
 rd : Blk u r 67 (rdC s a E)
 row : Blk u gl 42 C
 sl : ∃ A c, Boxed u p 104 (.slice A zs.length c) ∧ SubV (fun g => w.heap.size ≤ g ∧ g ≠ p ∧ g < b) u zs (.slice A zs.length c)
 gr : Gr2 w u r gl
 op : w.heap.size ≤ p
 pb : p < b
 bd : b ≤ u.heap.size
 rl : r < w.heap.size
 ll : gl < w.heap.size
 ne : r ≠ gl
 fit : o + 36 ≤ C.size
 kd : C[o]? = some (.int .i64 K)
theorem RsA.kept {w u u' : World} {s : ByteArray} {r gl o a p b : Nat} {K E : Int} {C : Array Value} {zs : List Itm} (h : RsA w s r gl o K a E C p b zs u) (hg : u.grownBy u' none) : RsA w s r gl o K a E C p b zs u' := by
 obtain ⟨A, c, hp, hs⟩ := h.sl
 exact ⟨h.rd.grown hg (by simp), h.row.grown hg (by simp), ⟨A, c, hp.kept hg (by simp), hs.grown hg⟩, h.gr.grown hg (fun k e => by cases e), h.op, h.pb, Nat.le_trans h.bd hg.size, h.rl, h.ll, h.ne, h.fit, h.kd⟩
theorem RsA.read {w u u' : World} {s : ByteArray} {r gl o a p b a' : Nat} {K E E' : Int} {C : Array Value} {zs : List Itm} (h : RsA w s r gl o K a E C p b zs u) (hg : u.grownBy u' (some r)) (hr : Blk u' r 67 (rdC s a' E')) : RsA w s r gl o K a' E' C p b zs u' := by
 obtain ⟨A, c, hp, hs⟩ := h.sl
 have h1 := h.rl; have h2 := h.op; have h3 := h.ne
 refine ⟨hr, h.row.grown hg (fun e => h3 (Option.some.inj e).symm), ⟨A, c, hp.kept hg (fun e => by have := Option.some.inj e; omega), hs.keep fun q hq v hv => hg.cell hv fun e => by have := Option.some.inj e; have := hq.1; omega⟩, h.gr.grown hg (fun k e => .inl (Option.some.inj e).symm), h.op, h.pb, Nat.le_trans h.bd hg.size, h.rl, h.ll, h.ne, h.fit, h.kd⟩
theorem RsA.put {w u : World} {s : ByteArray} {r gl o a p b : Nat} {K E : Int} {C C' : Array Value} {zs : List Itm} (h : RsA w s r gl o K a E C p b zs u) (hz : C'.size = C.size) (hk : C'[o]? = C[o]?) : RsA w s r gl o K a E C' p b zs (u.setRow gl C') := by
 obtain ⟨A, c, hp, hs⟩ := h.sl
 have h1 := h.ll; have h2 := h.op; have h3 := h.ne
 have hcell : ∀ (q : Addr) v, q.block ≠ gl → u.cell? q = some v → (u.setRow gl C').cell? q = some v := fun q v hq hv => by
  rw [World.cell?_of_block (w := u) (setRow_other u gl q.block C' hq)]; exact hv
 refine ⟨(setRow_other u gl r C' h3).trans h.rd, blk_setRow h.row, ⟨A, c, (setRow_other u gl p C' (by omega)).trans hp, hs.keep fun q hq v hv => hcell q v (by have := hq.1; omega) hv⟩, h.gr.setRow C', h.op, h.pb, by simpa using h.bd, h.rl, h.ll, h.ne, by rw [hz]; exact h.fit, hk.trans h.kd⟩
theorem RsA.far {w u : World} {s : ByteArray} {r gl o a p b g : Nat} {K E : Int} {C D : Array Value} {zs : List Itm} (h : RsA w s r gl o K a E C p b zs u) (hg : b ≤ g) : RsA w s r gl o K a E C p b zs (u.setRow g D) := by
 obtain ⟨A, c, hp, hs⟩ := h.sl
 have h1 := h.ll; have h2 := h.op; have h3 := h.pb; have h4 := h.rl
 have hcell : ∀ (q : Addr) v, q.block ≠ g → u.cell? q = some v → (u.setRow g D).cell? q = some v := fun q v hq hv => by
  rw [World.cell?_of_block (w := u) (setRow_other u g q.block D hq)]; exact hv
 refine ⟨(setRow_other u g r D (by omega)).trans h.rd, (setRow_other u g gl D (by omega)).trans h.row, ⟨A, c, (setRow_other u g p D (by omega)).trans hp, hs.keep fun q hq v hv => hcell q v (by have := hq.2.2; omega) hv⟩, ?_, h.op, h.pb, by simpa using h.bd, h.rl, h.ll, h.ne, h.fit, h.kd⟩
 exact ⟨h.gr.os, h.gr.tape, h.gr.output, by simpa using h.gr.size, fun k hk e1 e2 => (setRow_other u g k D (by omega)).trans (h.gr.block k hk e1 e2)⟩
theorem RsA.next {w u : World} {s : ByteArray} {r gl o a p b : Nat} {K E : Int} {C : Array Value} {z : Itm} {zs : List Itm} (h : RsA w s r gl o K a E C p b (z :: zs) u) :
  Calls Tryz.prog 88 #[.pointer (some ⟨p, 0, none⟩)] u fun e u' => ∃ sA sc, e = .returned (.agg #[.bool z.list, .string z.bytes, .slice sA z.items.length sc]) ∧ SubV (fun g => w.heap.size ≤ g ∧ g ≠ p ∧ g < b) u' z.items (.slice sA z.items.length sc) ∧ RsA w s r gl o K a E C p b zs u' ∧ u.grownBy u' (some p) := by
 obtain ⟨A, c, hp, hs⟩ := h.sl
 have h1 := h.ll; have h2 := h.op; have h3 := h.ne; have h4 := h.rl; have h5 := h.bd
 refine (nextC_any (fun g => w.heap.size ≤ g ∧ g ≠ p ∧ g < b) p z zs A c u hp hs (fun hh => hh.2.1 rfl) (fun hh => by have := hh.2.2; omega)).mono ?_
 rintro e u' ⟨sA, sc, A', c', rfl, hsub, hp', hs', hg⟩
 refine ⟨sA, sc, rfl, hsub, ⟨h.rd.grown hg (fun e => by have := Option.some.inj e; omega), h.row.grown hg (fun e => by have := Option.some.inj e; omega), ⟨A', c', hp', hs'⟩, h.gr.grown hg (fun k e => .inr (.inr (by have := Option.some.inj e; omega))), h.op, h.pb, Nat.le_trans h.bd hg.size, h.rl, h.ll, h.ne, h.fit, h.kd⟩, hg⟩
def gotN (kd : Nat) : Nat := if kd = 2 then 3 else 2
def gotO (kd : Nat) : List Nat := if kd = 2 then [13, 3, 7] else [13, 7]
def gotE1 (kd : Nat) (zs : List Itm) : Int := kE (wordsE (zs.take (gotN kd)) 0) (dtE (zs.getD (gotN kd) Itm.none_))
def gotA (kd : Nat) (zs : List Itm) : List AccV × Int := if kd = 0 then ([], gotE1 kd zs) else accX (zs.getD (gotN kd + 1) Itm.none_) (gotE1 kd zs)
def gotC (kd o : Nat) (zs : List Itm) (C : Array Value) (sl : Value) : Array Value :=
 if kd = 0 then putA (o + 17) [.string (dtV (zs.getD (gotN kd) Itm.none_))] (wordsC o (gotO kd) (zs.take (gotN kd)) (putA o [.int .i64 (kd : Int)] C))
 else putA (o + 18) [sl] (putA (o + 17) [.string (dtV (zs.getD (gotN kd) Itm.none_))] (wordsC o (gotO kd) (zs.take (gotN kd)) (putA o [.int .i64 (kd : Int)] C)))
def restR (s : ByteArray) (a : Nat) (E : Int) : Except Int (List Itm × Nat) :=
 if kdE s a E ≠ 0 then .error (kdE s a E) else match itR s.data.toList (kdA s a) with
  | .error e => .error e
  | .ok (y, T) => if rwF (3 + (kdV s a E : Nat)) (3 + (kdV s a E : Nat)) y 0 ≠ 0 then .error (rwF (3 + (kdV s a E : Nat)) (3 + (kdV s a E : Nat)) y 0) else
   if (gotA (kdV s a E) y.items).2 ≠ 0 then .error (gotA (kdV s a E) y.items).2 else .ok (y.items, T)
end Go.Proofs.YtgclnikdkfpflaaGreatDoor
