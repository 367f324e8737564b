/- Merged: Bytes, Res, BoxLoop, Perm, Txt, Join, BldF, Tree, TSame. -/
import Derived.Test.YtagjpbcmhaekpaaGreatDoorMg1
import Derived.Laws.IdiomStrings
import Derived.Deep.MidRow
import Derived.Laws.Concat
import Derived.Lib.SlBytesConst
import Derived.Shelf.Strings.Builder2
import Derived.Shelf.Strings.BuilderF
/- Rows of bytes, texts, and small lemmas for the walks over them. -/
namespace Go.Proofs.YtagjpbcmhaekpaaGreatDoor
open Go.RowKit Go.Shelf

theorem only_set {a w : World} {row : Option Nat} (h : a.grownBy w row) {p : Addr} (hp : a.heap.size ≤ p.block) (u : Value) : a.grownBy (w.setCell p u) row :=
  ⟨h.os, h.tape, h.output, by simpa [World.setCell] using h.size, fun i hi hne => (Below.heap_setCell w p u i (by omega)).trans (h.block i hi hne)⟩

theorem ownFrom_grown {β : Type} {B : Nat} {w₀ : World} {row : Option Nat} (hB : w₀.heap.size ≤ B) : OwnFrom B (fun (_ : β) W => w₀.grownBy W row) := fun _ X Y r hs hg hr =>
  ⟨hg.os.trans hs.os, hg.tape.trans hs.tape, hg.output.trans hs.output, Nat.le_trans hs.size hg.size, fun k hk hne =>
    (hg.block k (Nat.lt_of_lt_of_le hk hs.size) (fun e => by have := (hr k e.symm).1; omega)).trans (hs.block k hk hne)⟩
theorem grown_self {a w w' : World} {row : Option Nat} (h : a.grownBy w row) {r : Option Nat} (hg : w.grownBy w' r) (hr : ∀ k, r = some k → row = some k ∨ a.heap.size ≤ k) : a.grownBy w' row :=
  ⟨hg.os.trans h.os, hg.tape.trans h.tape, hg.output.trans h.output, Nat.le_trans h.size hg.size, fun k hk hne =>
    (hg.block k (Nat.lt_of_lt_of_le hk h.size) (fun e => by rcases hr k e.symm with e2 | e2; exact hne e2.symm; omega)).trans (h.block k hk hne)⟩

theorem ownFrom_obj {β : Type} {B D : Nat} (hD : D < B) (o : Obj) : OwnFrom B (fun (_ : β) W => W.heap[D]? = some o) := fun _ X Y r hs hg hr =>
  (hg.block D (Array.getElem?_eq_some_iff.1 hs).1 (fun e => by have := (hr D e.symm).1; omega)).trans hs

/-- bytes as a row of cells -/
def bytesC (l : List UInt8) : Array Value := (l.map fun b => Value.int .u8 (b.toNat : Int)).toArray
theorem bytesC_cell {w : World} {g : Nat} {t : TypeId} {l : List UInt8} (h : Blk w g t (bytesC l)) (i : Nat) (hi : i < l.length) : w.cell? ⟨g, i, none⟩ = some (.int .u8 ((l.getD i 0).toNat : Int)) := by
  rw [Blk.cell h i]
  unfold bytesC
  simp only [List.getElem?_toArray, List.getElem?_map, List.getElem?_eq_getElem hi, List.getD_eq_getElem?_getD]
  rfl
theorem bytesC_set {w : World} {g : Nat} {t : TypeId} {l : List UInt8} (h : Blk w g t (bytesC l)) (i : Nat) (x : UInt8) : Blk (w.setCell ⟨g, i, none⟩ (.int .u8 (x.toNat : Int))) g t (bytesC (l.set i x)) := by
  have := Blk.set_ h i (.int .u8 (x.toNat : Int))
  unfold bytesC at this ⊢
  rw [List.map_set]
  simpa using this
theorem bytesC_setI (l : List UInt8) (i : Nat) (x : UInt8) : (bytesC l).setIfInBounds i (.int .u8 (x.toNat : Int)) = bytesC (l.set i x) := by
  unfold bytesC
  rw [List.map_set]
  simp
theorem bytesC_get (l : List UInt8) (i : Nat) (hi : i < l.length) : (bytesC l)[i]? = some (.int .u8 ((l.getD i 0).toNat : Int)) := by
  unfold bytesC
  simp only [List.getElem?_toArray, List.getElem?_map, List.getElem?_eq_getElem hi, List.getD_eq_getElem?_getD]
  rfl
set_option maxRecDepth 100000 in
theorem make_u8 (m : Nat) (hm : m ≤ 1000000) (w : World) : (Instr.makeSlice 36 (.int .i64 (m : Int)) (.int .i64 (m : Int))).run Tryz.prog w =
    .ok (.slice (some ⟨w.heap.size, 0, none⟩) m m) (w.alloc (.cells (bytesC (List.replicate m 0)) 5)) := by
  have hs : (Tryz.prog.info? 5).isSome = true := by kernel_rfl
  obtain ⟨i, hi⟩ := Option.isSome_iff_exists.1 hs
  have hb : (Tryz.prog.info? 5).map (·.bytes) = some 1 := by kernel_rfl
  have hsz : (Tryz.prog.info? 5).map (·.size) = some 1 := by kernel_rfl
  have hz : (Tryz.prog.info? 5).bind (·.zero) = some (.int .u8 0) := by kernel_rfl
  rw [hi] at hb hsz hz
  simp only [Option.map_some, Option.some.injEq, Option.bind_some] at hb hsz hz
  have hmk := run_make_rowN (P := Tryz.prog) 36 5 i _ (by kernel_rfl) hi hz .i64 .i64 m m (Nat.le_refl _) (by rw [hb]; omega) (by omega) w
  rw [hmk, hsz]
  congr 3
  refine Array.ext_getElem? fun j => ?_
  by_cases hj : j < m
  · simp [madeCells, bytesC, hj, Value.cells, Nat.mod_one]
  · rw [Array.getElem?_eq_none (by simp [madeCells]; omega), Array.getElem?_eq_none (by simp [bytesC]; omega)]

/-- bytes as values -/
def u8s (l : List UInt8) : List Value := l.map fun b => Value.int .u8 (b.toNat : Int)
theorem u8s_one (l : List UInt8) : ∀ u ∈ u8s l, u.oneCell' = true := by
  intro u hu
  obtain ⟨b, _, rfl⟩ := List.mem_map.1 hu
  rfl
/-- a byte's type, as the program knows it -/
theorem byte_info : ∃ i z, Tryz.prog.info? 5 = some i ∧ i.zero = some z ∧ i.size = 1 ∧ i.bytes = 1 ∧ z.cells.size = 1 := by
  have hs : (Tryz.prog.info? 5).isSome = true := by kernel_rfl
  obtain ⟨i, hi⟩ := Option.isSome_iff_exists.1 hs
  have hb : (Tryz.prog.info? 5).map (·.bytes) = some 1 := by kernel_rfl
  have hsz : (Tryz.prog.info? 5).map (·.size) = some 1 := by kernel_rfl
  have hz : (Tryz.prog.info? 5).bind (·.zero) = some (.int .u8 0) := by kernel_rfl
  rw [hi] at hb hsz hz
  simp only [Option.map_some, Option.some.injEq, Option.bind_some] at hb hsz hz
  exact ⟨i, _, hi, hz, hsz, hb, rfl⟩
theorem own_new1 (w : World) (b : UInt8) : (w.alloc (.cells #[.int .u8 (b.toNat : Int)] 5)).ownsRow w.heap.size 5 1 (.slice (some ⟨w.heap.size, 0, none⟩) 1 1) 1 (u8s [b]) :=
  ⟨rfl, .inr ⟨w.heap.size, 1, _, rfl, Nat.le_refl _, heap_alloc_new w _, Nat.le_refl _, by simp only [maxLen]; omega, rfl, rfl⟩⟩

theorem own_ge {w : World} {base : Nat} {e : TypeId} {size : Nat} {v : Value} {k : Nat} {xs : List Value} (h : w.ownsRow base e size v k xs) {g : Nat} (hg : v.ownBlock = some g) : base ≤ g := by
  rcases h.2 with ⟨rfl, _⟩ | ⟨g', cap, cur, rfl, hb, _⟩
  · cases hg
  · cases hg; exact hb
theorem own_cell {w : World} {base g cap n : Nat} {e : TypeId} {l : List UInt8} (h : w.ownsRow base e 1 (.slice (some ⟨g, 0, none⟩) n cap) n (u8s l)) (j : Nat) (hj : j < n) : w.cell? ⟨g, j, none⟩ = some (.int .u8 ((l.getD j 0).toNat : Int)) := by
  obtain ⟨hl, h⟩ := h
  rcases h with ⟨h, _⟩ | ⟨g', cap', cur, hv, hb, hg, hn, hc, hs, ht⟩
  · cases h
  · cases hv
    have hlen : l.length = n := by simpa [u8s] using hl
    rw [cell_of_row w g j cur e (0, 0) hg]
    have h2 : (cur.toList.take (n * 1))[j]? = (u8s l)[j]? := by rw [ht]
    rw [List.getElem?_take_of_lt (by omega)] at h2
    rw [← Array.getElem?_toList, h2]
    simp [u8s, List.getD_eq_getElem?_getD, List.getElem?_eq_getElem (show j < l.length by omega)]
theorem own_frozen {w : World} {base g cap n : Nat} {e : TypeId} {xs : List Value} (h : w.ownsRow base e 1 (.slice (some ⟨g, 0, none⟩) n cap) n xs) (j : Nat) : w.frozen? ⟨g, j, none⟩ = false := by
  rcases h.2 with ⟨h, _⟩ | ⟨g', cap', cur, hv, hb, hg, hn, hc, hs, ht⟩
  · cases h
  · cases hv; exact frozen_of_row w g j cur e hg

theorem wrap_u (k : Nat) (h : k < 64) : IntKind.u64.wrap (k : Int) = (k : Int) := by
  simp [IntKind.wrap, IntKind.bits, IntKind.signed]
  omega
theorem idx_str (s : ByteArray) (i : Nat) (c : UInt8) (h : s.data.toList[i]? = some c) (w : World) : (Instr.index 9 (.string s) (.int .i64 (i : Int))).run Tryz.prog w = .ok (.int .u8 (c.toNat : Int)) w := by
  have hi : i < s.data.size := by
    obtain ⟨hi, _⟩ := List.getElem?_eq_some_iff.1 h
    simpa using hi
  have hc : s.data[i] = c := by
    rw [List.getElem?_eq_getElem (by simpa using hi)] at h
    injection h with h
  have hs : i < s.size := hi
  have := run_index_string (P := Tryz.prog) (w := w) 9 s .i64 (i : Int) (by kernel_rfl)
  rw [this, dif_pos ⟨by omega, by omega⟩]
  simp only [Int.toNat_natCast]
  rw [← hc]
  rfl

theorem ba_toList (a b : ByteArray) : (a ++ b).data.toList = a.data.toList ++ b.data.toList := by simp
theorem ba_len (s : ByteArray) : s.data.toList.length = s.size := Array.length_toList
structure Veil (p : Prop) : Prop where
  out : p
theorem veiled {p : Prop} (h : Veil p) : p := h.out
/-- 'string(b)' of a row that the call owns -/
theorem conv_own {w : World} {base n : Nat} {v : Value} {l : List UInt8} (h : w.ownsRow base 5 1 v n (u8s l)) : (convert 36 9 v).run Tryz.prog w = .ok (.string ⟨l.toArray⟩) w := by
  have hl : l.length = n := by have := h.1; simpa [u8s] using this
  rcases h.2 with ⟨rfl, h0⟩ | ⟨g, cap, cur, rfl, hb, hg, hn, hc, hs, ht⟩
  · subst h0
    obtain rfl : l = [] := List.eq_nil_of_length_eq_zero hl
    rw [run_convert_bytes_string w 36 9 5 none 0 0 (by kernel_rfl) (by kernel_rfl) (by kernel_rfl)]
    simp [Conv.bytesToString]; rfl
  · have := run_convert_bytes_back (P := Tryz.prog) w 36 9 5 ⟨g, 0, none⟩ cap l (by kernel_rfl) (by kernel_rfl) (by kernel_rfl) (fun j hj => by
      have := own_cell h j (by omega)
      rw [Addr.add_mid, Nat.zero_add, this, List.getD_eq_getElem?_getD, List.getElem?_eq_getElem hj]
      rfl)
    rw [hl] at this
    exact this
theorem lit_of_cell {w : World} {a : Addr} {u : Value} (h : w.cell? a = some u) : a = ⟨a.block, a.off, none⟩ := by
  obtain ⟨b, o, s⟩ := a
  cases s with
  | none => rfl
  | some x => exfalso; unfold World.cell? at h; split at h <;> simp at h

theorem Reads.ints {w : World} {B n k : Nat} {A : Option Addr} {kd : IntKind} {xs : List Int} (h : Reads w B 1 A n (xs.map (Value.int kd))) (hk : k < n) :
    ∃ b off, A = some ⟨b, off, none⟩ ∧ b < B ∧ ∀ j, j < n → w.cell? ⟨b, off + j, none⟩ = some (.int kd (xs.getD j 0)) := by
  have hl := h.1
  simp at hl
  have key : ∀ j, j < n → (xs.map (Value.int kd))[j]? = some (.int kd (xs.getD j 0)) := by
    intro j hj
    rw [List.getElem?_map, List.getElem?_eq_getElem (by omega), List.getD_eq_getElem?_getD, List.getElem?_eq_getElem (by omega)]
    rfl
  obtain ⟨ad, rfl, hb, hc⟩ := h.2 (by omega)
  have h0 := hc 0 _ (key 0 (by omega))
  have e : ad = ⟨ad.block, ad.off, none⟩ := lit_of_cell (a := ad) (by simpa [Addr.add] using h0)
  refine ⟨ad.block, ad.off, by rw [← e], hb, fun j hj => ?_⟩
  have := hc j _ (key j hj)
  rw [e] at this
  unfold Addr.add at this
  by_cases hj0 : j = 0
  · subst hj0; simpa using this
  · simpa [hj0] using this

end Go.Proofs.YtagjpbcmhaekpaaGreatDoor
/- Results that lie in cells. Of whatever program. -/
namespace Go.Proofs.YtagjpbcmhaekpaaGreatDoor
open Go.RowKit Go.Shelf

section
variable {P : Program}
theorem load_cell {w : World} {a : Addr} {v : Value} {t : TypeId} {d : TypeDesc} (ht : P.underlying t = some d) (hd : (match d with | .struct _ | .array _ _ => true | _ => false) = false) (hc : w.cell? a = some v) : (loadVar t a).run P w = .ok v w := by
  have hagg : (isAgg t).run P w = .ok false w := by
    unfold isAgg
    rw [Sem.run_bind, run_underlying ht w]
    cases d <;> simp_all
  simp [loadVar, Sem.run_bind, hagg, hc, go_sem]
theorem results_cell1 {fn : Func} {p : Tmp} {t : TypeId} (h : fn.results = #[.cell p t]) (tmps : Array Value) (w : World) (a : Addr) (x : Value) (hp : tmps.getD p undef = .pointer (some a)) (hx : (loadVar t a).run P w = .ok x w) : (results fn tmps).run P w = .ok x w := by
  have hp' : tmps[p]?.getD undef = .pointer (some a) := by simpa using hp
  simp [results, h, hp', asAddr, hx]
theorem results_cell2 {fn : Func} {p q : Tmp} {t u : TypeId} (h : fn.results = #[.cell p t, .cell q u]) (tmps : Array Value) (w : World) (a b : Addr) (x y : Value) (hp : tmps.getD p undef = .pointer (some a)) (hq : tmps.getD q undef = .pointer (some b))
    (hx : (loadVar t a).run P w = .ok x w) (hy : (loadVar u b).run P w = .ok y w) : (results fn tmps).run P w = .ok (.tuple #[x, y]) w := by
  have hp' : tmps[p]?.getD undef = .pointer (some a) := by simpa using hp
  have hq' : tmps[q]?.getD undef = .pointer (some b) := by simpa using hq
  simp [results, h, hp', hq', asAddr, hx, hy]
theorem results_cell3 {fn : Func} {p q r : Tmp} {t u s : TypeId} (h : fn.results = #[.cell p t, .cell q u, .cell r s]) (tmps : Array Value) (w : World) (a b c : Addr) (x y z : Value) (hp : tmps.getD p undef = .pointer (some a)) (hq : tmps.getD q undef = .pointer (some b)) (hr : tmps.getD r undef = .pointer (some c))
    (hx : (loadVar t a).run P w = .ok x w) (hy : (loadVar u b).run P w = .ok y w) (hz : (loadVar s c).run P w = .ok z w) : (results fn tmps).run P w = .ok (.tuple #[x, y, z]) w := by
  have hp' : tmps[p]?.getD undef = .pointer (some a) := by simpa using hp
  have hq' : tmps[q]?.getD undef = .pointer (some b) := by simpa using hq
  have hr' : tmps[r]?.getD undef = .pointer (some c) := by simpa using hr
  simp [results, h, hp', hq', hr', asAddr, hx, hy, hz]
end
theorem box3 (w : World) (a b c : Value) (t u s : TypeId) : Boxed (((w.alloc (.cells #[a] t)).alloc (.cells #[b] u)).alloc (.cells #[c] s)) w.heap.size t a ∧ Boxed (((w.alloc (.cells #[a] t)).alloc (.cells #[b] u)).alloc (.cells #[c] s)) (w.heap.size + 1) u b ∧
    Boxed (((w.alloc (.cells #[a] t)).alloc (.cells #[b] u)).alloc (.cells #[c] s)) (w.heap.size + 1 + 1) s c ∧ Below w.heap.size w (((w.alloc (.cells #[a] t)).alloc (.cells #[b] u)).alloc (.cells #[c] s)) ∧ (((w.alloc (.cells #[a] t)).alloc (.cells #[b] u)).alloc (.cells #[c] s)).heap.size = w.heap.size + 3 := by
  have h2 := (Boxed.new (w.alloc (.cells #[a] t)) u b).alloc (.cells #[c] s)
  have h3 := Boxed.new ((w.alloc (.cells #[a] t)).alloc (.cells #[b] u)) s c
  rw [World.size_alloc] at h2
  rw [World.size_alloc, World.size_alloc] at h3
  exact ⟨((Boxed.new w t a).alloc _).alloc _, h2, h3, (((Below.refl _ w).alloc (Nat.le_refl _) _).alloc (by simp) _).alloc (by simp; omega) _, by simp⟩
theorem box4 (w : World) (a b c d : Value) (t u s r : TypeId) : Boxed ((((w.alloc (.cells #[a] t)).alloc (.cells #[b] u)).alloc (.cells #[c] s)).alloc (.cells #[d] r)) w.heap.size t a ∧ Boxed ((((w.alloc (.cells #[a] t)).alloc (.cells #[b] u)).alloc (.cells #[c] s)).alloc (.cells #[d] r)) (w.heap.size + 1) u b ∧
    Boxed ((((w.alloc (.cells #[a] t)).alloc (.cells #[b] u)).alloc (.cells #[c] s)).alloc (.cells #[d] r)) (w.heap.size + 1 + 1) s c ∧ Boxed ((((w.alloc (.cells #[a] t)).alloc (.cells #[b] u)).alloc (.cells #[c] s)).alloc (.cells #[d] r)) (w.heap.size + 1 + 1 + 1) r d ∧
    Below w.heap.size w ((((w.alloc (.cells #[a] t)).alloc (.cells #[b] u)).alloc (.cells #[c] s)).alloc (.cells #[d] r)) ∧ ((((w.alloc (.cells #[a] t)).alloc (.cells #[b] u)).alloc (.cells #[c] s)).alloc (.cells #[d] r)).heap.size = w.heap.size + 4 := by
  obtain ⟨h1, h2, h3, h4, h5⟩ := box3 w a b c t u s
  have h6 := Boxed.new (((w.alloc (.cells #[a] t)).alloc (.cells #[b] u)).alloc (.cells #[c] s)) r d
  rw [h5] at h6
  exact ⟨h1.alloc _, h2.alloc _, h3.alloc _, h6, h4.alloc (by omega) _, by simp [h5]⟩
end Go.Proofs.YtagjpbcmhaekpaaGreatDoor
/- A range over a function whose iterator writes a box of its own (it lies ahead of the loop). Of whatever program. -/
namespace Go.Proofs.YtagjpbcmhaekpaaGreatDoor
open Go.RowKit Go.Shelf
section
variable {F : Fence} {n : Nat} {P : Program} {α : Type}
/-- kept whatever the box at D holds, and by new memory -/
structure BoxFree (D : Nat) (J : List α → World → Prop) : Prop where
  grown : ∀ pre W W', J pre W → W.grownBy W' none → J pre W'
  set : ∀ pre W v, J pre W → J pre (W.setCell ⟨D, 0, none⟩ v)
/-- the iterator's word: as the library's SeqStopsK, where what is asked is kept by the box at D too -/
def SeqBox (F : Fence) (n : Nat) (P : Program) (g : Nat) (lb : Array Value) (encs : α → Array Value) (Kp : World → World → Prop) (S Sp : List α → Prop) (N : Nat) (w : World) (D : Nat) : Prop :=
  ∀ (l : Nat) (J Jx : List α → World → Prop) (W : World), Below w.heap.size w W → BoxFree D J →
    (∀ pre x W1, J pre W1 → pre.length < N → YieldAt F (n - 1) P l (encs x) W1 fun e W' => (e = .returned (.bool true) ∧ J (pre ++ [x]) W' ∧ Kp W1 W') ∨ (e = .returned (.bool false) ∧ Jx (pre ++ [x]) W')) →
    J [] W → CallsIn F n P g (#[.func (.yield l) #[] #[]] ++ lb) W fun e W' => (∃ v, e = .returned v) ∧ ((∃ xs, S xs ∧ J xs W') ∨ (∃ pre, Sp pre ∧ Jx pre W'))

theorem range_box {g : Operand} {ps : Array Tmp} {assign body : Code} {Q : Exit → Act → World → Prop} {a : Act} {w : World} (D : Nat) (hD : D < w.heap.size)
    (hro : F.round = none) (h1 : 1 ≤ n) {gf : Nat} {lb : Array Value} (hg : a.eval g = .func (.func gf) #[] lb) (hFg : F.fn gf) (eg : ∀ args w, (callFunc gf args).run P w = .ok (.enter gf args) w)
    {encs : α → Array Value} {Kp : World → World → Prop} {S Sp : List α → Prop} {N : Nat} (hseq : SeqBox F (n - 1) P gf lb encs Kp S Sp N w D)
    (hKt : ∀ {A B C : World}, Kp A B → Kp B C → Kp A C) (hKb : ∀ (W : World) (l : Nat) (o o' : Obj), w.heap.size ≤ l → W.heap[l]? = some o → o.isCells = false → o.isWalk = false → Kp W (W.putObj l o')) (hps : ∀ x, (encs x).size = ps.size)
    (I : List α → World → Prop) (Ix : Code → List α → World → Prop) (hI : OwnFrom w.heap.size I) (hID : BoxFree D I) (hIx : ∀ c, OwnFrom w.heap.size (Ix c)) (h0 : I [] w) (Ax : α → Act → World → Prop) (hAx : ∀ x a', OwnFrom w.heap.size (fun (_ : Unit) W => Ax x a' W))
    (hassign : ∀ (l : Nat) (pre : List α) (x : α) (W : World) (K : Act → World → Prop), I pre W → (∀ a' W', KeepsFrom w.heap.size W W' → Kp W W' → I pre W' → Ax x a' W' → K a' W') → assign.wpIn (F.inRound l) (n - 1 - 1) P (Exit.then K (fun _ _ _ => False)) { tmps := (ps.zip (encs x)).foldl (fun t (p, v) => t.setIfInBounds p v) a.tmps, defers := [] } W)
    (hbody : ∀ (l : Nat) (pre : List α) (x : α) (a' : Act) (W : World), I pre W → Ax x a' W → pre.length < N → body.wpIn (F.inRound l) (n - 1 - 1) P (ownPostG w.heap.size Kp I Ix (pre ++ [x]) W) a' W)
    (hdone : ∀ (E : Nat) (xs : List α) (W : World), w.heap.size ≤ E → S xs → I xs W → W.heap[E]? = some (.deferred (some [])) → Q .normal { a with defers := { target := .collected E, args := #[] } :: a.defers } W)
    (hstop : ∀ (E : Nat) (c : Code) (pre : List α) (W : World), w.heap.size ≤ E → Sp pre → Ix c pre W → W.heap[E]? = some (.deferred (some [])) → c.wpIn F n P Q { a with defers := { target := .collected E, args := #[] } :: a.defers } W) :
    (Code.rangeFunc g ps assign body).wpIn F n P Q a w := by
  refine wpIn_rangeFunc fun fn hfn => ?_
  rw [hro]
  generalize hd : w.heap.size = d at *
  obtain ⟨R, hR⟩ : ∃ R : LoopState → Option Code → Loop, R = fun st pe => { state := st, pending := pe, fn, tmps := a.tmps, params := ps, assign, body, defers := d } := ⟨_, rfl⟩
  obtain ⟨V, hV⟩ : ∃ V, (w.alloc (.deferred (some []))).alloc (.loop (R .ready none)) = V := ⟨_, rfl⟩
  have vL : V.heap[d + 1]? = some (.loop (R .ready none)) := by
    have := World.alloc_heap_new (w.alloc (.deferred (some []))) (.loop (R .ready none))
    rw [World.size_alloc, hd] at this
    rw [← hV]; exact this
  have vD : V.heap[d]? = some (.deferred (some [])) := by
    have := World.alloc_heap_new w (.deferred (some []))
    rw [hd] at this
    rw [← hV]; exact (Below.heap_alloc _ _ _ (by simp [hd])).trans this
  have vI : I [] V := by rw [← hV]; exact hI.alloc _ (hI.alloc _ h0)
  have vB : Below d w V := by rw [← hV]; exact ((Below.refl d w).alloc (by omega) _).alloc (by simp [hd]) _
  refine ⟨d + 1, [{ target := .collected d, args := #[] }], V, { target := .fn (.func gf) lb, args := #[.func (.yield (d + 1)) #[] #[]] }, V, gf, #[.func (.yield (d + 1)) #[] #[]] ++ lb, V, ?_, ?_, ?_, ?_, fun _ => h1, ?_⟩
  · rw [← hV, hR, ← hd]; exact run_enterLoop_outer _ _ _ _ _
  · simp only [resolve, hg]
    simp [go_sem]
  · intro f' hf'; simp [Target.leads] at hf'; subst hf'; exact hFg
  · simp [invoke, go_sem, eg]
  have free : BoxFree D (fun pre W => I pre W ∧ W.heap[d + 1]? = some (.loop (R .ready none)) ∧ W.heap[d]? = some (.deferred (some []))) := by
    constructor
    · rintro pre A B ⟨k1, k2, k3⟩ hAB
      exact ⟨hID.grown pre A B k1 hAB, (hAB.block (d + 1) (Array.getElem?_eq_some_iff.1 k2).1 (by simp)).trans k2, (hAB.block d (Array.getElem?_eq_some_iff.1 k3).1 (by simp)).trans k3⟩
    · rintro pre A v ⟨k1, k2, k3⟩
      exact ⟨hID.set pre A v k1, (Below.heap_setCell A ⟨D, 0, none⟩ v (d + 1) (by show d + 1 ≠ D; omega)).trans k2, (Below.heap_setCell A ⟨D, 0, none⟩ v d (by show d ≠ D; omega)).trans k3⟩
  have hs := hseq (d + 1) _ (fun pre W => ∃ c, Ix c pre W ∧ W.heap[d + 1]? = some (.loop (R .done (some c))) ∧ W.heap[d]? = some (.deferred (some []))) V (by rw [hd]; exact vB) free
  refine (hs ?_ ⟨vI, vL, vD⟩).mono ?_
  · rintro pre x W0 ⟨hi0, hl0, hk0⟩ hlen
    have hy := run_yield (P := P) (args := encs x) hl0 (by rw [hR]; exact hps x)
    rw [hR] at hy
    refine ⟨fn, _, assign, body, hy, roundIn_of_wpIn hfn (hassign _ pre x W0 _ hi0 fun a' W k1 k2 hi hax => ?_)⟩
    have hl := k1.same _ _ (by omega) hl0 rfl
    have hk := k1.same _ _ (Nat.le_refl _) hk0 rfl
    have hlt : d + 1 < W.heap.size := (Array.getElem?_eq_some_iff.1 hl).1
    refine ⟨_, run_beginRound hl (by rw [hR]), ?_⟩
    obtain ⟨X, hX⟩ : ∃ X, W.putObj (d + 1) (.loop { R .ready none with state := .busy }) = X := ⟨_, rfl⟩
    have xL : X.heap[d + 1]? = some (.loop { R .ready none with state := .busy }) := by rw [← hX]; exact World.putObj_heap_same hlt
    have xD : X.heap[d]? = some (.deferred (some [])) := by rw [← hX]; exact (World.putObj_heap_other (by omega)).trans hk
    have xK : Kp W X := by rw [← hX]; exact hKb _ _ _ _ (by omega) hl rfl rfl
    have xI : I pre X := by rw [← hX]; exact hI.putObj _ hi (by omega) hl rfl
    rw [hX]
    have close : ∀ (j : Option Code) (Y : World), KeepsFrom d X Y → ∃ Z, Z = Y.putObj (d + 1) (.loop (R (if j.isNone then .ready else .done) j)) ∧ (Instr.endRound (d + 1) j).run P Y = .ok (.bool j.isNone) Z ∧ Y.heap[d + 1]? = some (.loop { R .ready none with state := .busy }) ∧
        Z.heap[d + 1]? = some (.loop (R (if j.isNone then .ready else .done) j)) ∧ Z.heap[d]? = some (.deferred (some [])) := by
      intro j Y hXY
      have yL := hXY.same _ _ (by omega) xL rfl
      have yD := hXY.same _ _ (Nat.le_refl _) xD rfl
      have he := run_endRound (P := P) j yL
      refine ⟨_, rfl, ?_, yL, World.putObj_heap_same (Array.getElem?_eq_some_iff.1 yL).1, (World.putObj_heap_other (by omega)).trans yD⟩
      rw [hR] at he ⊢
      exact he
    have xA : Ax x a' X := by rw [← hX]; exact (hAx x a').putObj (s := ()) _ hax (by omega) hl rfl
    refine wpIn_mono (hbody _ pre x a' X xI xA hlen) ?_
    have jump : ∀ (c : Code) (Y : World), KeepsFrom d X Y → Ix c (pre ++ [x]) Y → ∃ v Z, (Instr.endRound (d + 1) (some c)).run P Y = .ok v Z ∧
        ((Ending.returned v = .returned (.bool true) ∧ (I (pre ++ [x]) Z ∧ Z.heap[d + 1]? = some (.loop (R .ready none)) ∧ Z.heap[d]? = some (.deferred (some []))) ∧ Kp W0 Z) ∨
          (Ending.returned v = .returned (.bool false) ∧ ∃ c, Ix c (pre ++ [x]) Z ∧ Z.heap[d + 1]? = some (.loop (R .done (some c))) ∧ Z.heap[d]? = some (.deferred (some [])))) := by
      intro c Y hXY hc
      obtain ⟨Z, hZ, z1, z2, z3, z4⟩ := close (some c) Y hXY
      exact ⟨_, Z, z1, .inr ⟨rfl, c, by rw [hZ]; exact (hIx c).putObj _ hc (by omega) z2 rfl, z3, z4⟩⟩
    intro e a3 Y hp
    cases e with
    | normal =>
      obtain ⟨p1, p2, p3⟩ := hp
      obtain ⟨Z, hZ, z1, z2, z3, z4⟩ := close none Y p1
      exact ⟨_, Z, z1, .inl ⟨rfl, ⟨by rw [hZ]; exact hI.putObj _ p3 (by omega) z2 rfl, z3, z4⟩, hKt (hKt (hKt k2 xK) p2) (by rw [hZ]; exact hKb _ _ _ _ (by omega) z2 rfl rfl)⟩⟩
    | ret => exact jump .ret Y hp.1 hp.2
    | exit id => exact jump (.exit id) Y hp.1 hp.2
    | goto t => exact jump (.goto t) Y hp.1 hp.2
    | panic ch => exact hp.elim
    | outgrown => exact hp.elim
  · rintro e Y ⟨⟨v, rfl⟩, (⟨xs, hS, y1, y2, y3⟩ | ⟨pre, hSp, c, y1, y2, y3⟩)⟩
    · have e := run_endLoop (P := P) y2 (by rw [hR]; simp)
      rw [hR] at e
      exact ⟨none, _, e, hdone d xs _ (by omega) hS (hI.putObj _ y1 (by omega) y2 rfl) ((World.putObj_heap_other (by omega)).trans y3)⟩
    · have e := run_endLoop (P := P) y2 (by rw [hR]; simp)
      rw [hR] at e
      exact ⟨some c, _, e, hstop d c pre _ (by omega) hSp ((hIx c).putObj _ y1 (by omega) y2 rfl) ((World.putObj_heap_other (by omega)).trans y3)⟩
end
end Go.Proofs.YtagjpbcmhaekpaaGreatDoor
/- A drawn region taken by hand: two operations that may come up next, a call, a value. Of whatever program. -/
namespace Go.Proofs.YtagjpbcmhaekpaaGreatDoor
open Go.RowKit Go.Shelf
section
variable {P : Program} {ops : Array Oper} {md : Region.Mode} {Q : Exit → Act → World → Prop} {S : World → Prop}
/-- what follows behind an operation -/
abbrev Behind (P : Program) (ops : Array Oper) (md : Region.Mode) (Q : Exit → Act → World → Prop) (S : World → Prop) (fuel : Nat) (listed : Array Bool) (i : Nat) : Act → World → Prop := fun a' w' => S w' ∧ wpAnyH P md ops Q S fuel (listed.setIfInBounds i true) a' w'
theorem held_one {i fuel : Nat} {listed : Array Bool} {a : Act} {w : World} (hr : Region.ready md ops listed = [i]) (h : wpOp P ops Q i (Behind P ops md Q S fuel listed i) a w) : wpAnyH P md ops Q S (fuel + 1) listed a w :=
  wpAnyH_all hr (by simp) fun j hj => by
    obtain rfl : j = i := by simpa using hj
    exact h
theorem held_two {i j fuel : Nat} {listed : Array Bool} {a : Act} {w : World} (hr : Region.ready md ops listed = [i, j]) (h : wpOp P ops Q i (Behind P ops md Q S fuel listed i) a w) (k : wpOp P ops Q j (Behind P ops md Q S fuel listed j) a w) : wpAnyH P md ops Q S (fuel + 1) listed a w :=
  wpAnyH_all hr (by simp) fun l hl => by
    rcases List.mem_cons.1 hl with rfl | hl
    · exact h
    · obtain rfl : l = j := by simpa using hl
      exact k
theorem held_take {i : Nat} {oi : Oper} {v : Value} {fuel : Nat} {listed : Array Bool} {a : Act} {w : World} (d : Option Tmp) (hi : ops[i]? = some oi)
    (hs : Region.noSelect ops = true) (hf : Region.free md ops listed i = true) (hr : (Region.ready md ops listed).contains i = true)
    (hQ : ∀ c a w, Q (.panic c) (a.put oi.dst v) w → Q (.panic c) a w) (hd : oi.dst = d) (hy : YieldsIf P ops S oi v a) (hS : S w)
    (h : wpAnyH P md ops Q S fuel (listed.setIfInBounds i true) (a.put d v) w) : wpAnyH P md ops Q S (fuel + 1) listed a w := by
  subst hd
  exact wpAnyH_take hi hs hf hr hQ hy hS h
theorem held_value (d : Option Tmp) {i fuel : Nat} {listed : Array Bool} {oi : Oper} {a : Act} {w w' : World} (hi : ops[i]? = some oi) (hw : Region.wanted oi (yielded ops a.tmps) = true) (v : Value) (hrun : (execOp a.eval oi).run P w = .ok (.value v) w') (hd : oi.dst = d) (hS : S w')
    (h : wpAnyH P md ops Q S fuel (listed.setIfInBounds i true) (a.put d v) w') : wpOp P ops Q i (Behind P ops md Q S fuel listed i) a w := by
  subst hd
  unfold wpOp
  simp only [hi, hw, if_true]
  refine .inl ?_
  unfold Oper.wp
  rw [hrun]
  exact ⟨hS, h⟩
theorem held_enter (d : Option Tmp) {i fuel : Nat} {listed : Array Bool} {oi : Oper} {a : Act} {w : World} (hi : ops[i]? = some oi) (hw : Region.wanted oi (yielded ops a.tmps) = true) (f : FuncId) (args : Array Value) (hrun : (execOp a.eval oi).run P w = .ok (.enter f args) w) (hd : oi.dst = d)
    (h : Calls P f args w fun e w' => ∃ v, e = .returned v ∧ S w' ∧ wpAnyH P md ops Q S fuel (listed.setIfInBounds i true) (a.put d v) w') : wpOp P ops Q i (Behind P ops md Q S fuel listed i) a w := by
  subst hd
  unfold wpOp
  simp only [hi, hw, if_true]
  refine .inl ?_
  unfold Oper.wp
  rw [hrun]
  refine h.mono fun e w' he => ?_
  obtain ⟨v, rfl, hS, h⟩ := he
  exact ⟨hS, h⟩
theorem exec_call2 {a : Act} {o : Oper} {W : World} (f : FuncId) (x y : Operand) (ts : Array TypeId) (ho : o.op = .call { callee := .value (.func f), args := #[x, y], argTypes := ts }) (v u : Value) (hx : a.eval x = v) (hy : a.eval y = u)
    (hf : (callFunc f #[v, u]).run P W = .ok (.enter f #[v, u]) W) : (execOp a.eval o).run P W = .ok (.enter f #[v, u]) W := by
  have he : a.eval (.func f) = .func (.func f) #[] #[] := rfl
  unfold execOp
  generalize a.eval = ev at *
  simp only [ho]
  simp [resolve, invoke, go_sem, hx, hy, he, hf]
theorem exec_addstr {a : Act} {o : Oper} {W : World} (t u : TypeId) (x y : Operand) (ho : o.op = .binOp .add t x y u) (p q : ByteArray) (hx : a.eval x = .string p) (hy : a.eval y = .string q) (hl : p.size + q.size ≤ 9223372036854775807) :
    (execOp a.eval o).run P W = .ok (.value (.string (p ++ q))) W := by
  have h1 := run_string_add_sum (P := P) W p q hl
  unfold execOp
  generalize a.eval = ev at *
  simp only [ho]
  simp [go_sem, hx, hy, h1, binOp]
end
end Go.Proofs.YtagjpbcmhaekpaaGreatDoor
/- Texts that are alike. -/
namespace Go.Proofs.YtagjpbcmhaekpaaGreatDoor
open Go.RowKit
theorem ba_ext {a b : ByteArray} (h : a.data.toList = b.data.toList) : a = b := by
  obtain ⟨a⟩ := a; obtain ⟨b⟩ := b
  congr 1
  exact Array.toList_inj.1 h
theorem str_ne {a b : ByteArray} (h : a ≠ b) : (a.toList == b.toList) = false := by
  rw [beq_eq_false_iff_ne]
  intro e
  apply h
  exact ba_ext (by rw [← Lib.toList_data, ← Lib.toList_data, e])
end Go.Proofs.YtagjpbcmhaekpaaGreatDoor
/- strings.Join with nothing between. -/
namespace Go.Proofs.YtagjpbcmhaekpaaGreatDoor
open Go.RowKit Go.Shelf

def growRen : Go.Shelf.Ren := ⟨fun | 241 => 111 | 277 => 114 | n => n, fun | 70 => 92 | 9 => 9 | 0 => 0 | 72 => 94 | 37 => 36 | 127 => 118 | 3 => 3 | 5 => 5 | n => n, fun | n => n⟩
theorem growLays : Go.Proofs.Lays.n241 Tryz.prog growRen := {
  mixed := by kernel_rfl
  f241 := Tryz.func111.trans (congrArg some (by kernel_rfl))
  f277 := Tryz.func114.trans (congrArg some (by kernel_rfl))
  t0 := Tryz.underlying0
  a0 := Tryz.isAgg0
  z0 := Tryz.sizeOf0
  v0 := Tryz.zeroValue0
  t3 := Tryz.underlying3
  a3 := Tryz.isAgg3
  z3 := Tryz.sizeOf3
  v3 := Tryz.zeroValue3
  t37 := Tryz.underlying36
  a37 := Tryz.isAgg36
  z37 := Tryz.sizeOf36
  v37 := Tryz.zeroValue36
  t70 := Tryz.underlying92
  a70 := Tryz.isAgg92
  z70 := Tryz.sizeOf92
  v70 := Tryz.zeroValue92
  t72 := Tryz.underlying94
  a72 := Tryz.isAgg94
  z72 := Tryz.sizeOf94
  v72 := Tryz.zeroValue94 }
theorem growExtra : Builder.Extra Tryz.prog growRen := {
  sizeBuilder := by kernel_rfl
  liesBuilder := by kernel_rfl
  t5 := Tryz.underlying5
  a5 := Tryz.isAgg5
  z5 := Tryz.sizeOf5
  v5 := Tryz.zeroValue5
  infoByte := by kernel_rfl
  cellsByte := by kernel_rfl
  sizeByte := by kernel_rfl
  neB5 := by decide }

abbrev BAt (B b : Nat) (p : Value) (bs : List Value) (w : World) : Prop := Lib.BuilderAt 94 5 B b p bs w

theorem growInner_any (B b n : Nat) (w : World) (hB : B ≤ b) (hbk : w.heap[b]? = some (.cells #[.pointer (some ⟨b, 0, none⟩), .slice none 0 0] 94 (0, 0))) (hBw : B ≤ w.heap.size) (hn : n ≤ 281474976710656) :
    Calls Tryz.prog 111 #[.pointer (some ⟨b, 0, none⟩), .int .i64 n] w fun e w' => e = .returned (.tuple #[]) ∧ (BAt B b (.pointer (some ⟨b, 0, none⟩)) [] w' ∧ Below B w w') := Any.Builder_grow_fresh growLays growExtra B b n w hB hbk hBw hn

set_option maxRecDepth 100000 in
set_option maxHeartbeats 1000000 in
theorem grow_any (b n : Nat) (w : World) (hbk : w.heap[b]? = some (.cells #[.pointer none, .slice none 0 0] 94 (0, 0))) (hn : n ≤ 281474976710656) :
    Calls Tryz.prog 102 #[.pointer (some ⟨b, 0, none⟩), .int .i64 n] w fun e w' => e = .returned (.tuple #[]) ∧ (BAt b b (.pointer (some ⟨b, 0, none⟩)) [] w' ∧ Below b w w') := by
  have hlt : b < w.heap.size := (Array.getElem?_eq_some_iff.1 hbk).1
  go_enter Tryz.func102, Tryz.ntmps102
  go_wp2_with fail
  refine (copyFresh_any b w (by rw [Lib.cell_of_heap hbk]; rfl) (by simp [World.shape?, hbk]) (Lib.frozen_of_heap hbk 0)).mono ?_
  rintro e w1 ⟨rfl, hw1⟩
  have hbk1 : w1.heap[b]? = some (.cells #[.pointer (some ⟨b, 0, none⟩), .slice none 0 0] 94 (0, 0)) := by
    rw [hw1]; simp [World.setCell, Array.getElem?_modify, hbk]
  have hb1 : Below b w w1 := by rw [hw1]; exact (Below.refl b w).setCell (p := ⟨b, 0, none⟩) (Nat.le_refl _) _
  have hz1 : b ≤ w1.heap.size := by have := hb1.size; omega
  have c1 : w1.cell? ⟨b, 1, none⟩ = some (.slice none 0 0) := by rw [Lib.cell_of_heap hbk1]; rfl
  have hd := fun q => growInner_any b b n (w1.drewN q) (Nat.le_refl _) hbk1 hz1 hn
  clear hw1 hbk
  by_cases h0 : 0 < n
  · have d1 : decide ((0 : Int) < (n : Int)) = true := by simpa using h0
    go_wp2_with fail
    go_quiet (fail)
    have hd2 := hd nq
    clear hd
    go_wp2_with fail
    refine hd2.mono ?_
    rintro e w2 ⟨rfl, h2, hb2⟩
    go_wp2_with fail
    go_end0
    exact ⟨rfl, h2, (below_drewN hb1 nq).trans hb2⟩
  · have hn0 : n = 0 := by omega
    subst hn0
    go_wp2_with fail
    go_quiet (fail)
    go_wp2_with fail
    go_end0
    exact ⟨rfl, ⟨Nat.le_refl _, .slice none 0 0, hbk1, World.ownsRow_nil _ _ _ _, by simp [Value.ownBlock]⟩, below_drewN hb1 nq⟩

theorem Reads.vals {α : Type} (f : α → Value) (d : α) {w : World} {B n k : Nat} {A : Option Addr} {xs : List α} (h : Reads w B 1 A n (xs.map f)) (hk : k < n) :
    ∃ b off, A = some ⟨b, off, none⟩ ∧ b < B ∧ ∀ j, j < n → w.cell? ⟨b, off + j, none⟩ = some (f (xs.getD j d)) := by
  have hl := h.1
  simp at hl
  have key : ∀ j, j < n → (xs.map f)[j]? = some (f (xs.getD j d)) := by
    intro j hj
    rw [List.getElem?_map, List.getElem?_eq_getElem (by omega), List.getD_eq_getElem?_getD, List.getElem?_eq_getElem (by omega)]
    rfl
  obtain ⟨ad, rfl, hb, hc⟩ := h.2 (by omega)
  have h0 := hc 0 _ (key 0 (by omega))
  have e : ad = ⟨ad.block, ad.off, none⟩ := lit_of_cell (a := ad) (by simpa [Addr.add] using h0)
  refine ⟨ad.block, ad.off, by rw [← e], hb, fun j hj => ?_⟩
  have := hc j _ (key j hj)
  rw [e] at this
  unfold Addr.add at this
  by_cases hj0 : j = 0
  · subst hj0; simpa using this
  · simpa [hj0] using this

/-- the texts, one behind the other -/
def catB (xs : List ByteArray) : List UInt8 := xs.flatMap (·.data.toList)
theorem catB_snoc (xs : List ByteArray) (x : ByteArray) : catB (xs ++ [x]) = catB xs ++ x.data.toList := by simp [catB]
theorem catB_take (xs : List ByteArray) (k : Nat) (hk : k < xs.length) : catB (xs.take (k + 1)) = catB (xs.take k) ++ (xs.getD k .empty).data.toList := by
  rw [List.take_succ_eq_append_getElem hk, catB_snoc, List.getD_eq_getElem?_getD, List.getElem?_eq_getElem hk]; rfl
theorem catB_le (xs : List ByteArray) (k : Nat) : (catB (xs.take k)).length ≤ (catB xs).length := by
  have h : catB xs = catB (xs.take k) ++ catB (xs.drop k) := by unfold catB; rw [← List.flatMap_append, List.take_append_drop]
  rw [h, List.length_append]; omega
theorem ba_of (s : ByteArray) : (⟨s.data.toList.toArray⟩ : ByteArray) = s := ba_ext (by simp)

set_option maxRecDepth 100000 in
set_option maxHeartbeats 1000000 in
theorem joinMany_any (B : Nat) (A : Option Addr) (n c : Nat) (xs : List ByteArray) (w : World) (hB : B ≤ w.heap.size) (h : Reads w B 1 A n (xs.map Value.string)) (h2 : 2 ≤ n) (hnm : n ≤ 1000000) (hnc : n ≤ c) (hlen : (catB xs).length ≤ 140737488355328) :
    Calls Tryz.prog 93 #[.slice A n c, .string .empty] w fun e w' => e = .returned (.string ⟨(catB xs).toArray⟩) ∧ Below w.heap.size w w' := by
  have hl : xs.length = n := by simpa using h.1
  obtain ⟨b, off, rfl, hbb, hc⟩ := h.vals Value.string .empty (k := 0) (by omega)
  have hne0 : ((n : Int) == 0) = false := beq_eq_false_iff_ne.2 (by omega)
  have hne1 : ((n : Int) == 1) = false := beq_eq_false_iff_ne.2 (by omega)
  have HL := Lib.hid hl; clear hl h
  have HC := Lib.hid hc; clear hc
  have HLEN := Lib.hid hlen; clear hlen
  go_enter Tryz.func93, Tryz.ntmps93
  go_wp2_with fail
  go_loop [5, 41] (fun s i => ∃ k : Nat, k ≤ n ∧ i = .int .i64 (k : Int) ∧ s = .int .i64 ((catB (xs.take k)).length : Int)) (fun _ i => n - (intOf i).toNat)
  case atStart => exact ⟨0, Nat.zero_le _, rfl, rfl⟩
  case round =>
    obtain ⟨k, hk, rfl, rfl⟩ := hrel
    by_cases hlt : k < n
    · have hck := HC.out k hlt
      have hst := catB_take xs k (by have := HL.out; omega)
      have hle := catB_le xs (k + 1)
      have hst2 : (catB (xs.take (k + 1))).length = (catB (xs.take k)).length + (xs.getD k .empty).size := by rw [hst, List.length_append, ba_len]
      clear hst
      obtain ⟨x, hx⟩ : ∃ x, xs.getD k .empty = x := ⟨_, rfl⟩
      rw [hx] at hck hst2
      have hlen := HLEN.out
      obtain ⟨S1, hS1⟩ : ∃ q, (catB (xs.take (k + 1))).length = q := ⟨_, rfl⟩
      rw [hS1] at hle hst2
      have HS1 := Lib.hid hS1
      clear hS1 hx
      generalize (catB (xs.take k)).length = S at *
      generalize (catB xs).length = T at *
      go_wp2_with fail
      go_round
      case rel => exact ⟨k + 1, by omega, by simp, by rw [HS1.out, hst2]; simp⟩
      case measure => simp [intOf]; omega
    · have hk2 : k = n := by omega
      have ht : xs.take k = xs := List.take_of_length_le (by have := HL.out; omega)
      rw [ht]
      have hfin : decide ((k : Int) < (n : Int)) = false := by simp; omega
      have hfin2 : decide (k < n) = false := by simp; omega
      clear ht hk2 hlt hk
      obtain ⟨T, hT⟩ : ∃ q, (catB xs).length = q := ⟨_, rfl⟩
      have hTl : T ≤ 140737488355328 := by rw [← hT]; exact HLEN.out
      rw [hT]
      clear hT
      have hn0 : w.heap[w.heap.size]? = none := by simp
      have hb0 : Below w.heap.size w (w.alloc (.cells #[.pointer none, .slice none 0 0] 94)) := (Below.refl _ w).alloc (Nat.le_refl _) _
      have hbk0 := heap_alloc_new w (.cells #[.pointer none, .slice none 0 0] 94)
      go_wp2_with fail
      generalize w.alloc (.cells #[.pointer none, .slice none 0 0] 94) = w1 at *
      refine (grow_any w.heap.size T w1 hbk0 (by omega)).mono ?_
      rintro e w2 ⟨rfl, h2b, hb2⟩
      have hb2' := hb0.trans hb2
      clear hb2 hb0 hbk0
      have hc0 : w2.cell? ⟨b, off, none⟩ = some (.string (xs.getD 0 .empty)) := by
        rw [hb2'.cell (p := ⟨b, off, none⟩) (by show b < w.heap.size; omega)]
        exact HC.out 0 (by omega)
      obtain ⟨x0, hx0⟩ : ∃ x, xs.getD 0 .empty = x := ⟨_, rfl⟩
      rw [hx0] at hc0
      have hs1 : catB (xs.take 1) = x0.data.toList := by rw [catB_take xs 0 (by have := HL.out; omega), hx0]; simp [catB]
      have hs1l := catB_le xs 1
      rw [hs1, ba_len] at hs1l
      have HS1 := Lib.hid hs1; clear hs1 hx0
      have hx0l : x0.size ≤ 140737488355328 := by have := HLEN.out; omega
      clear hs1l
      have hc1 : ¬ c = 1 := by omega
      go_wp2_with fail
      refine (writeString_any w.heap.size w.heap.size [] x0 w2 (.inr h2b) (by simpa using hx0l) hb2'.size).mono ?_
      rintro e w3 ⟨rfl, h3b, hb3⟩
      have hb3' := hb2'.trans hb3
      rw [List.nil_append, strCells_eq, ← HS1.out] at h3b
      clear h2b hb2' hb3 hc0
      go_wp2_with fail
      go_loopw [65] (fun i wr => ∃ k : Nat, k ≤ n - 1 ∧ i = .int .i64 (k : Int) ∧ Lib.IsBuilder 94 5 w.heap.size w.heap.size (Lib.byteCells (catB (xs.take (k + 1)))) wr ∧ Below w.heap.size w wr) (fun i _ => n - 1 - (intOf i).toNat)
      case atStart => exact ⟨0, Nat.zero_le _, rfl, h3b, hb3'⟩
      case round =>
        clear h3b hb3' hx0l
        obtain ⟨k, hk, rfl, hb, hbel⟩ := hrel
        have hsz := hbel.size
        by_cases hlt : k < n - 1
        · have hck : wr.cell? ⟨b, off + 1 + k, none⟩ = some (.string (xs.getD (k + 1) .empty)) := by
            rw [hbel.cell (p := ⟨b, off + 1 + k, none⟩) (by show b < w.heap.size; omega), show off + 1 + k = off + (k + 1) by omega]
            exact HC.out (k + 1) (by omega)
          have hst := catB_take xs (k + 1) (by have := HL.out; omega)
          have hle := catB_le xs (k + 1 + 1)
          have hlen := HLEN.out
          obtain ⟨x, hx⟩ : ∃ x, xs.getD (k + 1) .empty = x := ⟨_, rfl⟩
          rw [hx] at hck hst
          have hst2 : (catB (xs.take (k + 1))).length + x.size ≤ 140737488355328 := by rw [hst, List.length_append, ba_len] at hle; omega
          have hst3 : Lib.byteCells (catB (xs.take (k + 1 + 1))) = Lib.byteCells (catB (xs.take (k + 1))) ++ Lib.strCells x := by rw [hst, byteCells_append, strCells_eq]
          have HS := Lib.hid hst3
          clear hst hst3 hle hlen hx
          have hz0 : (Lib.byteCells (catB (xs.take (k + 1)))).length + (ByteArray.empty).size ≤ 140737488355328 := by rw [Lib.byteCells_length]; show _ + 0 ≤ _; omega
          have hz1 : (Lib.byteCells (catB (xs.take (k + 1)))).length + x.size ≤ 140737488355328 := by rw [Lib.byteCells_length]; omega
          go_wp2_with fail
          refine (writeString_any w.heap.size w.heap.size _ .empty wr hb hz0 hsz).mono ?_
          rintro e w4 ⟨rfl, h4, hb4⟩
          have hbel4 := hbel.trans hb4
          have he0 : Lib.strCells .empty = [] := rfl
          rw [he0, List.append_nil] at h4
          have hck4 : w4.cell? ⟨b, off + 1 + k, none⟩ = some (.string x) := (hb4.cell (p := ⟨b, off + 1 + k, none⟩) (by show b < w.heap.size; omega)).trans hck
          clear hb hbel hck hb4 hz0
          go_wp2_with fail
          refine (writeString_any w.heap.size w.heap.size _ x w4 h4 hz1 hbel4.size).mono ?_
          rintro e w5 ⟨rfl, h5, hb5⟩
          have hbel5 := hbel4.trans hb5
          rw [← HS.out] at h5
          clear h4 hbel4 hb5 hck4
          go_wp2_with fail
          go_roundw
          case rel => exact ⟨k + 1, by omega, by simp, h5, hbel5⟩
          case measure => simp [intOf]; omega
        · have hk2 : k + 1 = n := by omega
          have ht : xs.take (k + 1) = xs := List.take_of_length_le (by have := HL.out; omega)
          rw [ht] at hb
          have hfin3 : decide ((k : Int) < (n : Int) - 1) = false := by simp; omega
          clear ht hk2
          go_wp2_with fail
          refine (builderString_any w.heap.size w.heap.size _ wr hb (by omega)).mono ?_
          rintro e w4 ⟨rfl, hb4⟩
          go_wp2_with fail
          go_ret
          exact ⟨rfl, hbel.trans hb4⟩

set_option maxRecDepth 100000 in
theorem joinNone_any (A : Option Addr) (c : Nat) (w : World) :
    Calls Tryz.prog 93 #[.slice A 0 c, .string .empty] w fun e w' => e = .returned (.string ⟨#[]⟩) ∧ Below w.heap.size w w' := by
  go_enter Tryz.func93, Tryz.ntmps93
  go_wp2_with fail
  go_ret
  exact ⟨rfl, Below.refl _ _⟩

set_option maxRecDepth 100000 in
theorem joinOne_any (B : Nat) (A : Option Addr) (c : Nat) (x : ByteArray) (w : World) (h : Reads w B 1 A 1 [.string x]) :
    Calls Tryz.prog 93 #[.slice A 1 c, .string .empty] w fun e w' => e = .returned (.string x) ∧ Below w.heap.size w w' := by
  obtain ⟨b, off, rfl, hbb, hc⟩ := Reads.vals (xs := [x]) Value.string .empty h (k := 0) (by omega)
  have hck : w.cell? ⟨b, off, none⟩ = some (.string x) := hc 0 (by omega)
  clear hc
  go_enter Tryz.func93, Tryz.ntmps93
  go_wp2_with fail
  go_ret
  exact ⟨rfl, Below.refl _ _⟩

/-- the texts of a row, one behind the other -/
theorem join_any (B : Nat) (A : Option Addr) (n c : Nat) (xs : List ByteArray) (w : World) (hB : B ≤ w.heap.size) (h : Reads w B 1 A n (xs.map Value.string)) (hnm : n ≤ 1000000) (hnc : n ≤ c) (hlen : (catB xs).length ≤ 140737488355328) :
    Calls Tryz.prog 93 #[.slice A n c, .string .empty] w fun e w' => e = .returned (.string ⟨(catB xs).toArray⟩) ∧ Below w.heap.size w w' := by
  have hl : xs.length = n := by simpa using h.1
  match xs, hl with
  | [], hl => subst hl; exact joinNone_any A c w
  | [x], hl =>
    subst hl
    refine (joinOne_any B A c x w h).mono fun e w' ⟨he, hb⟩ => ⟨?_, hb⟩
    rw [he]; exact congrArg _ (congrArg _ (ba_ext (by simp [catB])))
  | x :: y :: r, hl => exact joinMany_any B A n c _ w hB h (by simp at hl; omega) hnm hnc hlen
end Go.Proofs.YtagjpbcmhaekpaaGreatDoor
/- strings.Builder, of a builder that String has read: Len, WriteString, String. -/
namespace Go.Proofs.YtagjpbcmhaekpaaGreatDoor
open Go.RowKit Go.Shelf
set_option linter.unusedVariables false
set_option linter.unusedSimpArgs false

abbrev IsB (B b : Nat) (bs : List Value) (w : World) : Prop := Lib.IsBuilderF 94 5 B b bs w

theorem copyCheckF_any (B b : Nat) (bs : List Value) (w : World) (h : IsB B b bs w) :
    Calls Tryz.prog 77 #[.pointer (some ⟨b, 0, none⟩)] w fun e w' => e = .returned (.tuple #[]) ∧ (Lib.BuilderAtF 94 5 B b (.pointer (some ⟨b, 0, none⟩)) bs w' ∧ Below B w w') := by
  rcases h with h | h
  · refine (copyFresh_any b w h.cell0 h.shape h.frozen0).mono ?_
    rintro e w' ⟨rfl, rfl⟩
    exact ⟨rfl, h.used _, (Below.refl B w).setCell (p := ⟨b, 0, none⟩) h.1 _⟩
  · refine (copyUsed_any b w h.cell0).mono ?_
    rintro e w' ⟨rfl, rfl⟩
    exact ⟨rfl, h, Below.refl B _⟩

set_option maxRecDepth 100000 in
set_option maxHeartbeats 1000000 in
theorem lenF_any (B b : Nat) (bs : List Value) (w : World) (h : IsB B b bs w) :
    Calls Tryz.prog 103 #[.pointer (some ⟨b, 0, none⟩)] w fun e w' => e = .returned (.int .i64 bs.length) ∧ w' = w := by
  obtain ⟨p, hB, v, hbk, hown, hne⟩ : ∃ p, Lib.BuilderAtF 94 5 B b p bs w := by
    rcases h with h | h
    · exact ⟨_, h⟩
    · exact ⟨_, h⟩
  obtain ⟨ao, cap, rfl⟩ : ∃ ao cap, v = .slice ao bs.length cap := by
    rcases hown.2 with ⟨hv, h0⟩ | ⟨g, cap, cur, fz, hv, _⟩
    · exact ⟨none, 0, by rw [hv, h0]⟩
    · exact ⟨_, _, hv⟩
  have c1 : w.cell? ⟨b, 1, none⟩ = some (.slice ao bs.length cap) := by rw [Lib.cell_of_heap hbk]; rfl
  go_enter Tryz.func103, Tryz.ntmps103
  go_wp2
  go_ret
  exact ⟨rfl, rfl⟩

set_option maxRecDepth 100000 in
set_option maxHeartbeats 1000000 in
theorem writeStringF_any (B b : Nat) (bs : List Value) (s : ByteArray) (w : World) (h : IsB B b bs w) (hlen : bs.length + s.size ≤ 140737488355328) (hBw : B ≤ w.heap.size) :
    Calls Tryz.prog 65 #[.pointer (some ⟨b, 0, none⟩), .string s] w fun e w' => e = .returned (.tuple #[.int .i64 s.size, .nilIface]) ∧ (IsB B b (bs ++ Lib.strCells s) w' ∧ Below B w w') := by
  obtain ⟨i0, hi, hz0, hz1, hz2⟩ := info_parts infoB8
  go_enter Tryz.func65, Tryz.ntmps65
  go_wp2_with fail
  refine (copyCheckF_any B b bs _ h).mono ?_
  rintro e w1 ⟨rfl, h1, hb1⟩
  obtain ⟨hB, v, hbk, hown, hne⟩ := h1
  have c0 : w1.cell? ⟨b, 0, none⟩ = some (.pointer (some ⟨b, 0, none⟩)) := by rw [Lib.cell_of_heap hbk]; rfl
  have c1 : w1.cell? ⟨b, 1, none⟩ = some v := by rw [Lib.cell_of_heap hbk]; rfl
  go_wp2_with (at_builtin; refine Lib.wpList_append_own_stringF _ rfl _ _ 36 9 rfl B 5 i0 Tryz.underlying36 Tryz.underlying9 hi hz0 hz1 hz2 _ _ _ rfl hown s rfl ?c3 ?c4 ?c5 ?_)
  case c3 => unfold maxLen; omega
  case c4 => omega
  case c5 => have := hb1.size; omega
  intro v' w2 hown' hgrow _
  have hlt : b < w1.heap.size := by
    rcases Nat.lt_or_ge b w1.heap.size with h' | h'
    · exact h'
    · simp [Array.getElem?_eq_none h'] at hbk
  have hb2 : w2.heap[b]? = some (.cells #[.pointer (some ⟨b, 0, none⟩), v] 94 (0, 0)) := by
    rw [hgrow.block b hlt (fun e => hne e.symm)]
    exact hbk
  have d0 : w2.cell? ⟨b, 0, none⟩ = some (.pointer (some ⟨b, 0, none⟩)) := by rw [Lib.cell_of_heap hb2]; rfl
  have d1 : w2.cell? ⟨b, 1, none⟩ = some v := by rw [Lib.cell_of_heap hb2]; rfl
  have f1 : w2.frozen? ⟨b, 1, none⟩ = false := Lib.frozen_of_heap hb2 1
  obtain ⟨ao, n', cap, rfl⟩ : ∃ ao n' cap, v' = .slice ao n' cap := by
    rcases hown'.2 with ⟨hv, _⟩ | ⟨g, cap, cur, fz, hv, _⟩
    · exact ⟨_, _, _, hv⟩
    · exact ⟨_, _, _, hv⟩
  go_wp2
  go_ret2
  refine ⟨rfl, .inr ?_, ?_⟩
  · exact Lib.BuilderAtF.put (T := 94) (e := 5) hB hb2 (bs' := bs ++ Lib.strCells s) (by simpa [Lib.strCells_length] using hown') (by decide)
  · exact (hb1.grown hgrow (by have := hb1.size; omega) (fun k hk => (hown.lt k hk).1)).setCell (p := ⟨b, 1, none⟩) hB _
theorem stringF_any (B b : Nat) (l : List UInt8) (w : World) (h : IsB B b (Lib.byteCells l) w) (hBw : B ≤ w.heap.size) :
    Calls Tryz.prog 67 #[.pointer (some ⟨b, 0, none⟩)] w fun e w' => e = .returned (.string ⟨l.toArray⟩) ∧ (IsB B b (Lib.byteCells l) w' ∧ Below B w w') := Any.Builder_String_any_f stringLays stringExtra B b l w h hBw
end Go.Proofs.YtagjpbcmhaekpaaGreatDoor
/- Items as trees; how a tree lies in memory. -/
namespace Go.Proofs.YtagjpbcmhaekpaaGreatDoor
open Go.RowKit Go.Shelf
set_option linter.unusedVariables false

inductive Itm where
  | mk (list : Bool) (bytes : ByteArray) (items : List Itm)
def Itm.list : Itm → Bool | .mk l _ _ => l
def Itm.bytes : Itm → ByteArray | .mk _ b _ => b
def Itm.items : Itm → List Itm | .mk _ _ xs => xs
def Itm.none_ : Itm := .mk false .empty []

/-- a row of items in memory, in blocks of a set -/
inductive SubV (S : Nat → Prop) (W : World) : List Itm → Value → Prop
  | mk (xs : List Itm) (A : Option Addr) (c : Nat) (vs : List Value)
      (hr : 0 < xs.length → ∃ b off, A = some ⟨b, off, none⟩ ∧ S b ∧ ∀ i, i < xs.length → W.cell? ⟨b, off + i * 3, none⟩ = some (.bool (xs.getD i Itm.none_).list) ∧ W.cell? ⟨b, off + i * 3 + 1, none⟩ = some (.string (xs.getD i Itm.none_).bytes) ∧ W.cell? ⟨b, off + i * 3 + 2, none⟩ = some (vs.getD i undef))
      (hx : ∀ i, i < xs.length → SubV S W (xs.getD i Itm.none_).items (vs.getD i undef)) : SubV S W xs (.slice A xs.length c)
theorem SubV.keep {S : Nat → Prop} {W W' : World} {xs : List Itm} {v : Value} (h : SubV S W xs v) (hk : ∀ p : Addr, S p.block → ∀ u, W.cell? p = some u → W'.cell? p = some u) : SubV S W' xs v := by
  induction h with
  | mk xs A c vs hr hx ih =>
    refine .mk xs A c vs (fun h0 => ?_) ih
    obtain ⟨b, off, hA, hb, hc⟩ := hr h0
    exact ⟨b, off, hA, hb, fun i hi => ⟨hk ⟨b, _, none⟩ hb _ (hc i hi).1, hk ⟨b, _, none⟩ hb _ (hc i hi).2.1, hk ⟨b, _, none⟩ hb _ (hc i hi).2.2⟩⟩
theorem SubV.weak {S S' : Nat → Prop} {W : World} {xs : List Itm} {v : Value} (h : SubV S W xs v) (hs : ∀ b, S b → S' b) : SubV S' W xs v := by
  induction h with
  | mk xs A c vs hr hx ih =>
    refine .mk xs A c vs (fun h0 => ?_) ih
    obtain ⟨b, off, hA, hb, hc⟩ := hr h0
    exact ⟨b, off, hA, hs b hb, hc⟩
theorem SubV.slice {S : Nat → Prop} {W : World} {xs : List Itm} {v : Value} (h : SubV S W xs v) : ∃ A c, v = .slice A xs.length c := by cases h; exact ⟨_, _, rfl⟩
theorem SubV.one {S : Nat → Prop} {W : World} {xs : List Itm} {v : Value} (h : SubV S W xs v) : v.oneCell' = true := by obtain ⟨A, c, rfl⟩ := h.slice; rfl
/-- blocks that lie in a world now: bounded -/
theorem SubV.lt {S : Nat → Prop} {W : World} {xs : List Itm} {v : Value} (h : SubV S W xs v) : SubV (fun b => S b ∧ b < W.heap.size) W xs v := by
  induction h with
  | mk xs A c vs hr hx ih =>
    refine .mk xs A c vs (fun h0 => ?_) ih
    obtain ⟨b, off, hA, hb, hc⟩ := hr h0
    refine ⟨b, off, hA, ⟨hb, ?_⟩, hc⟩
    have := (hc 0 h0).1
    rcases Nat.lt_or_ge b W.heap.size with h1 | h1
    · exact h1
    · unfold World.cell? at this
      rw [Array.getElem?_eq_none h1] at this
      cases this

/-- a row of items as cells -/
def itemsV (xs : List Itm) (vs : List Value) : List Value := (xs.zip vs).flatMap fun p => [.bool p.1.list, .string p.1.bytes, p.2]
theorem itemsV_snoc (xs : List Itm) (vs : List Value) (h : xs.length = vs.length) (x : Itm) (v : Value) : itemsV (xs ++ [x]) (vs ++ [v]) = itemsV xs vs ++ [.bool x.list, .string x.bytes, v] := by
  unfold itemsV
  rw [List.zip_append h, List.flatMap_append]
  rfl
theorem itemsV_len (xs : List Itm) (vs : List Value) (h : xs.length = vs.length) : (itemsV xs vs).length = xs.length * 3 := by
  induction xs generalizing vs with
  | nil => rfl
  | cons x xs ih =>
    cases vs with
    | nil => cases h
    | cons v vs =>
      have := ih vs (by simpa using h)
      unfold itemsV at this ⊢
      rw [List.zip_cons_cons, List.flatMap_cons, List.length_append, this]
      simp; omega
theorem itemsV_get (xs : List Itm) (vs : List Value) (h : xs.length = vs.length) (i : Nat) (hi : i < xs.length) (q : Nat) (hq : q < 3) : (itemsV xs vs)[i * 3 + q]? = [Value.bool (xs.getD i Itm.none_).list, .string (xs.getD i Itm.none_).bytes, vs.getD i undef][q]? := by
  induction xs generalizing vs i with
  | nil => cases hi
  | cons x xs ih =>
    cases vs with
    | nil => cases h
    | cons v vs =>
      have e : itemsV (x :: xs) (v :: vs) = [.bool x.list, .string x.bytes, v] ++ itemsV xs vs := rfl
      rw [e]
      cases i with
      | zero => rw [Nat.zero_mul, Nat.zero_add, List.getElem?_append_left (by simpa using hq)]; rfl
      | succ i =>
        rw [List.getElem?_append_right (by simp; omega), show (i + 1) * 3 + q - [Value.bool x.list, .string x.bytes, v].length = i * 3 + q by simp; omega, ih vs (by simpa using h) i (by simpa using hi)]
        rfl
/-- an owned row of items, in memory -/
theorem SubV.of_own {S : Nat → Prop} {W : World} {base c : Nat} {A : Option Addr} {xs : List Itm} {vs : List Value} (hl : xs.length = vs.length) (h : W.ownsRow base 40 3 (.slice A xs.length c) xs.length (itemsV xs vs))
    (hx : ∀ i, i < xs.length → SubV S W (xs.getD i Itm.none_).items (vs.getD i undef)) (hS : ∀ g, (Value.slice A xs.length c).ownBlock = some g → S g) : SubV S W xs (.slice A xs.length c) := by
  refine .mk xs A c vs (fun h0 => ?_) hx
  rcases h.2 with ⟨_, h1⟩ | ⟨g, cap, cur, hv, _, hg, _, _, _, ht⟩
  · omega
  · injection hv with hA
    subst hA
    refine ⟨g, 0, rfl, hS g rfl, fun i hi => ?_⟩
    have key : ∀ q, q < 3 → W.cell? ⟨g, 0 + i * 3 + q, none⟩ = (itemsV xs vs)[i * 3 + q]? := by
      intro q hq
      rw [Nat.zero_add, cell_of_row W g (i * 3 + q) cur 40 (0, 0) hg, ← ht, List.getElem?_take_of_lt (by omega)]
      simp
    refine ⟨?_, ?_, ?_⟩
    · have := key 0 (by omega); rw [itemsV_get xs vs hl i hi 0 (by omega)] at this; exact this
    · have := key 1 (by omega); rw [itemsV_get xs vs hl i hi 1 (by omega)] at this; exact this
    · have := key 2 (by omega); rw [itemsV_get xs vs hl i hi 2 (by omega)] at this; exact this
theorem Itm.ext_ {x y : Itm} (h1 : x.list = y.list) (h2 : x.bytes = y.bytes) (h3 : x.items = y.items) : x = y := by
  cases x; cases y
  simp only [Itm.list, Itm.bytes, Itm.items] at h1 h2 h3
  rw [h1, h2, h3]
theorem Itm.size_get {x : Itm} {i : Nat} (h : i < x.items.length) : SizeOf.sizeOf (x.items.getD i Itm.none_) < SizeOf.sizeOf x := by
  obtain ⟨l, b, xs⟩ := x
  have h : i < xs.length := h
  have : xs.getD i Itm.none_ ∈ xs := by
    rw [List.getD_eq_getElem?_getD, List.getElem?_eq_getElem h]
    exact List.getElem_mem h
  have := List.sizeOf_lt_of_mem this
  simp only [Itm.items, Itm.mk.sizeOf_spec]
  omega
theorem items_ext {xs ys : List Itm} (hl : xs.length = ys.length) (h : ∀ i, i < xs.length → xs.getD i Itm.none_ = ys.getD i Itm.none_) : xs = ys := by
  apply List.ext_getElem hl
  intro i hi hi'
  have := h i hi
  rw [List.getD_eq_getElem?_getD, List.getD_eq_getElem?_getD, List.getElem?_eq_getElem hi, List.getElem?_eq_getElem hi'] at this
  exact this

/-- what a tree's row of items lies as, in blocks of a world -/
abbrev SubW (W : World) (xs : List Itm) (v : Value) : Prop := SubV (fun g => g < W.heap.size) W xs v
theorem SubW.grown {W W' : World} {xs : List Itm} {v : Value} (h : SubW W xs v) (hg : W.grownBy W' none) : SubW W' xs v :=
  (h.keep fun p hp u hu => by rw [World.cell?_of_block (w := W) (hg.block p.block hp (by simp))]; exact hu).weak fun g h1 => by have := hg.size; omega
theorem SubV.here {S : Nat → Prop} {W : World} {xs : List Itm} {v : Value} (h : SubV S W xs v) : SubW W xs v := h.lt.weak fun _ h => h.2
/-- the items of a row -/
theorem SubV.row {S : Nat → Prop} {W : World} {xs : List Itm} {A : Option Addr} {n c : Nat} (h : SubV S W xs (.slice A n c)) : n = xs.length ∧ ∃ vs : List Value, (∀ i, i < xs.length → SubV S W (xs.getD i Itm.none_).items (vs.getD i undef)) ∧
    (0 < xs.length → ∃ b off, A = some ⟨b, off, none⟩ ∧ S b ∧ ∀ i, i < xs.length → W.cell? ⟨b, off + i * 3, none⟩ = some (.bool (xs.getD i Itm.none_).list) ∧ W.cell? ⟨b, off + i * 3 + 1, none⟩ = some (.string (xs.getD i Itm.none_).bytes) ∧ W.cell? ⟨b, off + i * 3 + 2, none⟩ = some (vs.getD i undef)) := by
  cases h with
  | mk xs A c vs hr hx => exact ⟨rfl, vs, hx, hr⟩

/-- no list is longer than may be, nor any bytes -/
inductive Itm.Ok : Itm → Prop
  | mk (l : Bool) (b : ByteArray) (xs : List Itm) (hb : b.size ≤ 9223372036854775807) (hn : xs.length ≤ 9223372036854775807) (h : ∀ i, i < xs.length → Itm.Ok (xs.getD i Itm.none_)) : Itm.Ok (.mk l b xs)
theorem Itm.Ok.bytes {x : Itm} (h : x.Ok) : x.bytes.size ≤ 9223372036854775807 := by cases h; assumption
theorem Itm.Ok.items {x : Itm} (h : x.Ok) : x.items.length ≤ 9223372036854775807 := by cases h; assumption
theorem Itm.Ok.get {x : Itm} (h : x.Ok) : ∀ i, i < x.items.length → (x.items.getD i Itm.none_).Ok := by cases h; assumption
end Go.Proofs.YtagjpbcmhaekpaaGreatDoor
/- Two items compared (rlp.Same). -/
namespace Go.Proofs.YtagjpbcmhaekpaaGreatDoor
open Go.RowKit Go.Shelf
set_option linter.unusedVariables false
set_option linter.unusedSimpArgs false

noncomputable section
open Classical

end
end Go.Proofs.YtagjpbcmhaekpaaGreatDoor
