/- Rows of bytes, texts, and small lemmas for the walks over them. -/
import Derived.Test.YtdflihfecfmpfaaDoorClass
import Derived.Laws.IdiomStrings
import Derived.Deep.MidRow
namespace Go.Proofs.YtdflihfecfmpfaaDoor
open Go.RowKit Go.Shelf

theorem only_set {a w : World} {row : Option Nat} (h : a.grownBy w row) {p : Addr} (hp : a.heap.size ≤ p.block) (u : Value) : a.grownBy (w.setCell p u) row :=
  ⟨h.os, h.tape, h.output, by simpa [World.setCell] using h.size, fun i hi hne => (Below.heap_setCell w p u i (by omega)).trans (h.block i hi hne)⟩

theorem ownFrom_grown {β : Type} {B : Nat} {w₀ : World} {row : Option Nat} (hB : w₀.heap.size ≤ B) : OwnFrom B (fun (_ : β) W => w₀.grownBy W row) := fun _ X Y r hs hg hr =>
  ⟨hg.os.trans hs.os, hg.tape.trans hs.tape, hg.output.trans hs.output, Nat.le_trans hs.size hg.size, fun k hk hne =>
    (hg.block k (Nat.lt_of_lt_of_le hk hs.size) (fun e => by have := (hr k e.symm).1; omega)).trans (hs.block k hk hne)⟩
theorem grown_self {a w w' : World} {row : Option Nat} (h : a.grownBy w row) {r : Option Nat} (hg : w.grownBy w' r) (hr : ∀ k, r = some k → row = some k ∨ a.heap.size ≤ k) : a.grownBy w' row :=
  ⟨hg.os.trans h.os, hg.tape.trans h.tape, hg.output.trans h.output, Nat.le_trans h.size hg.size, fun k hk hne =>
    (hg.block k (Nat.lt_of_lt_of_le hk h.size) (fun e => by rcases hr k e.symm with e2 | e2; exact hne e2.symm; omega)).trans (h.block k hk hne)⟩

theorem ownFrom_obj {β : Type} {B D : Nat} (hD : D < B) (o : Obj) : OwnFrom B (fun (_ : β) W => W.heap[D]? = some o) := fun _ X Y r hs hg hr =>
  (hg.block D (Array.getElem?_eq_some_iff.1 hs).1 (fun e => by have := (hr D e.symm).1; omega)).trans hs

/-- bytes as a row of cells -/
def bytesC (l : List UInt8) : Array Value := (l.map fun b => Value.int .u8 (b.toNat : Int)).toArray
theorem bytesC_cell {w : World} {g : Nat} {t : TypeId} {l : List UInt8} (h : Blk w g t (bytesC l)) (i : Nat) (hi : i < l.length) : w.cell? ⟨g, i, none⟩ = some (.int .u8 ((l.getD i 0).toNat : Int)) := by
  rw [Blk.cell h i]
  unfold bytesC
  simp only [List.getElem?_toArray, List.getElem?_map, List.getElem?_eq_getElem hi, List.getD_eq_getElem?_getD]
  rfl
theorem bytesC_set {w : World} {g : Nat} {t : TypeId} {l : List UInt8} (h : Blk w g t (bytesC l)) (i : Nat) (x : UInt8) : Blk (w.setCell ⟨g, i, none⟩ (.int .u8 (x.toNat : Int))) g t (bytesC (l.set i x)) := by
  have := Blk.set_ h i (.int .u8 (x.toNat : Int))
  unfold bytesC at this ⊢
  rw [List.map_set]
  simpa using this
theorem bytesC_setI (l : List UInt8) (i : Nat) (x : UInt8) : (bytesC l).setIfInBounds i (.int .u8 (x.toNat : Int)) = bytesC (l.set i x) := by
  unfold bytesC
  rw [List.map_set]
  simp
theorem bytesC_get (l : List UInt8) (i : Nat) (hi : i < l.length) : (bytesC l)[i]? = some (.int .u8 ((l.getD i 0).toNat : Int)) := by
  unfold bytesC
  simp only [List.getElem?_toArray, List.getElem?_map, List.getElem?_eq_getElem hi, List.getD_eq_getElem?_getD]
  rfl
set_option maxRecDepth 100000 in
theorem make_u8 (m : Nat) (hm : m ≤ 1000000) (w : World) : (Instr.makeSlice 38 (.int .i64 (m : Int)) (.int .i64 (m : Int))).run Tryd.prog w =
    .ok (.slice (some ⟨w.heap.size, 0, none⟩) m m) (w.alloc (.cells (bytesC (List.replicate m 0)) 5)) := by
  have hs : (Tryd.prog.info? 5).isSome = true := by kernel_rfl
  obtain ⟨i, hi⟩ := Option.isSome_iff_exists.1 hs
  have hb : (Tryd.prog.info? 5).map (·.bytes) = some 1 := by kernel_rfl
  have hsz : (Tryd.prog.info? 5).map (·.size) = some 1 := by kernel_rfl
  have hz : (Tryd.prog.info? 5).bind (·.zero) = some (.int .u8 0) := by kernel_rfl
  rw [hi] at hb hsz hz
  simp only [Option.map_some, Option.some.injEq, Option.bind_some] at hb hsz hz
  have hmk := run_make_rowN (P := Tryd.prog) 38 5 i _ (by kernel_rfl) hi hz .i64 .i64 m m (Nat.le_refl _) (by rw [hb]; omega) (by omega) w
  rw [hmk, hsz]
  congr 3
  refine Array.ext_getElem? fun j => ?_
  by_cases hj : j < m
  · simp [madeCells, bytesC, hj, Value.cells, Nat.mod_one]
  · rw [Array.getElem?_eq_none (by simp [madeCells]; omega), Array.getElem?_eq_none (by simp [bytesC]; omega)]

/-- bytes as values -/
def u8s (l : List UInt8) : List Value := l.map fun b => Value.int .u8 (b.toNat : Int)
theorem u8s_one (l : List UInt8) : ∀ u ∈ u8s l, u.oneCell' = true := by
  intro u hu
  obtain ⟨b, _, rfl⟩ := List.mem_map.1 hu
  rfl
/-- a byte's type, as the program knows it -/
theorem byte_info : ∃ i z, Tryd.prog.info? 5 = some i ∧ i.zero = some z ∧ i.size = 1 ∧ i.bytes = 1 ∧ z.cells.size = 1 := by
  have hs : (Tryd.prog.info? 5).isSome = true := by kernel_rfl
  obtain ⟨i, hi⟩ := Option.isSome_iff_exists.1 hs
  have hb : (Tryd.prog.info? 5).map (·.bytes) = some 1 := by kernel_rfl
  have hsz : (Tryd.prog.info? 5).map (·.size) = some 1 := by kernel_rfl
  have hz : (Tryd.prog.info? 5).bind (·.zero) = some (.int .u8 0) := by kernel_rfl
  rw [hi] at hb hsz hz
  simp only [Option.map_some, Option.some.injEq, Option.bind_some] at hb hsz hz
  exact ⟨i, _, hi, hz, hsz, hb, rfl⟩
theorem own_new1 (w : World) (b : UInt8) : (w.alloc (.cells #[.int .u8 (b.toNat : Int)] 5)).ownsRow w.heap.size 5 1 (.slice (some ⟨w.heap.size, 0, none⟩) 1 1) 1 (u8s [b]) :=
  ⟨rfl, .inr ⟨w.heap.size, 1, _, rfl, Nat.le_refl _, heap_alloc_new w _, Nat.le_refl _, by simp only [maxLen]; omega, rfl, rfl⟩⟩

theorem own_ge {w : World} {base : Nat} {e : TypeId} {size : Nat} {v : Value} {k : Nat} {xs : List Value} (h : w.ownsRow base e size v k xs) {g : Nat} (hg : v.ownBlock = some g) : base ≤ g := by
  rcases h.2 with ⟨rfl, _⟩ | ⟨g', cap, cur, rfl, hb, _⟩
  · cases hg
  · cases hg; exact hb
theorem own_cell {w : World} {base g cap n : Nat} {e : TypeId} {l : List UInt8} (h : w.ownsRow base e 1 (.slice (some ⟨g, 0, none⟩) n cap) n (u8s l)) (j : Nat) (hj : j < n) : w.cell? ⟨g, j, none⟩ = some (.int .u8 ((l.getD j 0).toNat : Int)) := by
  obtain ⟨hl, h⟩ := h
  rcases h with ⟨h, _⟩ | ⟨g', cap', cur, hv, hb, hg, hn, hc, hs, ht⟩
  · cases h
  · cases hv
    have hlen : l.length = n := by simpa [u8s] using hl
    rw [cell_of_row w g j cur e (0, 0) hg]
    have h2 : (cur.toList.take (n * 1))[j]? = (u8s l)[j]? := by rw [ht]
    rw [List.getElem?_take_of_lt (by omega)] at h2
    rw [← Array.getElem?_toList, h2]
    simp [u8s, List.getD_eq_getElem?_getD, List.getElem?_eq_getElem (show j < l.length by omega)]
theorem own_frozen {w : World} {base g cap n : Nat} {e : TypeId} {xs : List Value} (h : w.ownsRow base e 1 (.slice (some ⟨g, 0, none⟩) n cap) n xs) (j : Nat) : w.frozen? ⟨g, j, none⟩ = false := by
  rcases h.2 with ⟨h, _⟩ | ⟨g', cap', cur, hv, hb, hg, hn, hc, hs, ht⟩
  · cases h
  · cases hv; exact frozen_of_row w g j cur e hg

theorem wrap_u (k : Nat) (h : k < 64) : IntKind.u64.wrap (k : Int) = (k : Int) := by
  simp [IntKind.wrap, IntKind.bits, IntKind.signed]
  omega
theorem idx_str (s : ByteArray) (i : Nat) (c : UInt8) (h : s.data.toList[i]? = some c) (w : World) : (Instr.index 9 (.string s) (.int .i64 (i : Int))).run Tryd.prog w = .ok (.int .u8 (c.toNat : Int)) w := by
  have hi : i < s.data.size := by
    obtain ⟨hi, _⟩ := List.getElem?_eq_some_iff.1 h
    simpa using hi
  have hc : s.data[i] = c := by
    rw [List.getElem?_eq_getElem (by simpa using hi)] at h
    injection h with h
  have hs : i < s.size := hi
  have := run_index_string (P := Tryd.prog) (w := w) 9 s .i64 (i : Int) (by kernel_rfl)
  rw [this, dif_pos ⟨by omega, by omega⟩]
  simp only [Int.toNat_natCast]
  rw [← hc]
  rfl

theorem ba_toList (a b : ByteArray) : (a ++ b).data.toList = a.data.toList ++ b.data.toList := by simp
theorem ba_len (s : ByteArray) : s.data.toList.length = s.size := Array.length_toList
structure Veil (p : Prop) : Prop where
  out : p
theorem veiled {p : Prop} (h : Veil p) : p := h.out
/-- 'string(b)' of a row that the call owns -/
theorem conv_own {w : World} {base n : Nat} {v : Value} {l : List UInt8} (h : w.ownsRow base 5 1 v n (u8s l)) : (convert 38 9 v).run Tryd.prog w = .ok (.string ⟨l.toArray⟩) w := by
  have hl : l.length = n := by have := h.1; simpa [u8s] using this
  rcases h.2 with ⟨rfl, h0⟩ | ⟨g, cap, cur, rfl, hb, hg, hn, hc, hs, ht⟩
  · subst h0
    obtain rfl : l = [] := List.eq_nil_of_length_eq_zero hl
    rw [run_convert_bytes_string w 38 9 5 none 0 0 (by kernel_rfl) (by kernel_rfl) (by kernel_rfl)]
    simp [Conv.bytesToString]; rfl
  · have := run_convert_bytes_back (P := Tryd.prog) w 38 9 5 ⟨g, 0, none⟩ cap l (by kernel_rfl) (by kernel_rfl) (by kernel_rfl) (fun j hj => by
      have := own_cell h j (by omega)
      rw [Addr.add_mid, Nat.zero_add, this, List.getD_eq_getElem?_getD, List.getElem?_eq_getElem hj]
      rfl)
    rw [hl] at this
    exact this
theorem lit_of_cell {w : World} {a : Addr} {u : Value} (h : w.cell? a = some u) : a = ⟨a.block, a.off, none⟩ := by
  obtain ⟨b, o, s⟩ := a
  cases s with
  | none => rfl
  | some x => exfalso; unfold World.cell? at h; split at h <;> simp at h

theorem Reads.ints {w : World} {B n k : Nat} {A : Option Addr} {kd : IntKind} {xs : List Int} (h : Reads w B 1 A n (xs.map (Value.int kd))) (hk : k < n) :
    ∃ b off, A = some ⟨b, off, none⟩ ∧ b < B ∧ ∀ j, j < n → w.cell? ⟨b, off + j, none⟩ = some (.int kd (xs.getD j 0)) := by
  have hl := h.1
  simp at hl
  have key : ∀ j, j < n → (xs.map (Value.int kd))[j]? = some (.int kd (xs.getD j 0)) := by
    intro j hj
    rw [List.getElem?_map, List.getElem?_eq_getElem (by omega), List.getD_eq_getElem?_getD, List.getElem?_eq_getElem (by omega)]
    rfl
  obtain ⟨ad, rfl, hb, hc⟩ := h.2 (by omega)
  have h0 := hc 0 _ (key 0 (by omega))
  have e : ad = ⟨ad.block, ad.off, none⟩ := lit_of_cell (a := ad) (by simpa [Addr.add] using h0)
  refine ⟨ad.block, ad.off, by rw [← e], hb, fun j hj => ?_⟩
  have := hc j _ (key j hj)
  rw [e] at this
  unfold Addr.add at this
  by_cases hj0 : j = 0
  · subst hj0; simpa using this
  · simpa [hj0] using this

end Go.Proofs.YtdflihfecfmpfaaDoor
