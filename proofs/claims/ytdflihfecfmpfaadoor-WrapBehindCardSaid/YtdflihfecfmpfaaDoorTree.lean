/- Items as trees; how a tree lies in memory. -/
import Derived.Test.YtdflihfecfmpfaaDoorTxt
import Derived.Test.YtdflihfecfmpfaaDoorKeep
namespace Go.Proofs.YtdflihfecfmpfaaDoor
open Go.RowKit Go.Shelf
set_option linter.unusedVariables false

inductive Itm where
  | mk (list : Bool) (bytes : ByteArray) (items : List Itm)
def Itm.list : Itm → Bool | .mk l _ _ => l
def Itm.bytes : Itm → ByteArray | .mk _ b _ => b
def Itm.items : Itm → List Itm | .mk _ _ xs => xs
def Itm.none_ : Itm := .mk false .empty []

/-- a row of items in memory, in blocks of a set -/
inductive SubV (S : Nat → Prop) (W : World) : List Itm → Value → Prop
  | mk (xs : List Itm) (A : Option Addr) (c : Nat) (vs : List Value)
      (hr : 0 < xs.length → ∃ b off, A = some ⟨b, off, none⟩ ∧ S b ∧ ∀ i, i < xs.length → W.cell? ⟨b, off + i * 3, none⟩ = some (.bool (xs.getD i Itm.none_).list) ∧ W.cell? ⟨b, off + i * 3 + 1, none⟩ = some (.string (xs.getD i Itm.none_).bytes) ∧ W.cell? ⟨b, off + i * 3 + 2, none⟩ = some (vs.getD i undef))
      (hx : ∀ i, i < xs.length → SubV S W (xs.getD i Itm.none_).items (vs.getD i undef)) : SubV S W xs (.slice A xs.length c)
theorem SubV.keep {S : Nat → Prop} {W W' : World} {xs : List Itm} {v : Value} (h : SubV S W xs v) (hk : ∀ p : Addr, S p.block → ∀ u, W.cell? p = some u → W'.cell? p = some u) : SubV S W' xs v := by
  induction h with
  | mk xs A c vs hr hx ih =>
    refine .mk xs A c vs (fun h0 => ?_) ih
    obtain ⟨b, off, hA, hb, hc⟩ := hr h0
    exact ⟨b, off, hA, hb, fun i hi => ⟨hk ⟨b, _, none⟩ hb _ (hc i hi).1, hk ⟨b, _, none⟩ hb _ (hc i hi).2.1, hk ⟨b, _, none⟩ hb _ (hc i hi).2.2⟩⟩
theorem SubV.weak {S S' : Nat → Prop} {W : World} {xs : List Itm} {v : Value} (h : SubV S W xs v) (hs : ∀ b, S b → S' b) : SubV S' W xs v := by
  induction h with
  | mk xs A c vs hr hx ih =>
    refine .mk xs A c vs (fun h0 => ?_) ih
    obtain ⟨b, off, hA, hb, hc⟩ := hr h0
    exact ⟨b, off, hA, hs b hb, hc⟩
theorem SubV.slice {S : Nat → Prop} {W : World} {xs : List Itm} {v : Value} (h : SubV S W xs v) : ∃ A c, v = .slice A xs.length c := by cases h; exact ⟨_, _, rfl⟩
theorem SubV.one {S : Nat → Prop} {W : World} {xs : List Itm} {v : Value} (h : SubV S W xs v) : v.oneCell' = true := by obtain ⟨A, c, rfl⟩ := h.slice; rfl
/-- blocks that lie in a world now: bounded -/
theorem SubV.lt {S : Nat → Prop} {W : World} {xs : List Itm} {v : Value} (h : SubV S W xs v) : SubV (fun b => S b ∧ b < W.heap.size) W xs v := by
  induction h with
  | mk xs A c vs hr hx ih =>
    refine .mk xs A c vs (fun h0 => ?_) ih
    obtain ⟨b, off, hA, hb, hc⟩ := hr h0
    refine ⟨b, off, hA, ⟨hb, ?_⟩, hc⟩
    have := (hc 0 h0).1
    rcases Nat.lt_or_ge b W.heap.size with h1 | h1
    · exact h1
    · unfold World.cell? at this
      rw [Array.getElem?_eq_none h1] at this
      cases this

/-- a row of items as cells -/
def itemsV (xs : List Itm) (vs : List Value) : List Value := (xs.zip vs).flatMap fun p => [.bool p.1.list, .string p.1.bytes, p.2]
theorem itemsV_snoc (xs : List Itm) (vs : List Value) (h : xs.length = vs.length) (x : Itm) (v : Value) : itemsV (xs ++ [x]) (vs ++ [v]) = itemsV xs vs ++ [.bool x.list, .string x.bytes, v] := by
  unfold itemsV
  rw [List.zip_append h, List.flatMap_append]
  rfl
theorem itemsV_len (xs : List Itm) (vs : List Value) (h : xs.length = vs.length) : (itemsV xs vs).length = xs.length * 3 := by
  induction xs generalizing vs with
  | nil => rfl
  | cons x xs ih =>
    cases vs with
    | nil => cases h
    | cons v vs =>
      have := ih vs (by simpa using h)
      unfold itemsV at this ⊢
      rw [List.zip_cons_cons, List.flatMap_cons, List.length_append, this]
      simp; omega
theorem itemsV_get (xs : List Itm) (vs : List Value) (h : xs.length = vs.length) (i : Nat) (hi : i < xs.length) (q : Nat) (hq : q < 3) : (itemsV xs vs)[i * 3 + q]? = [Value.bool (xs.getD i Itm.none_).list, .string (xs.getD i Itm.none_).bytes, vs.getD i undef][q]? := by
  induction xs generalizing vs i with
  | nil => cases hi
  | cons x xs ih =>
    cases vs with
    | nil => cases h
    | cons v vs =>
      have e : itemsV (x :: xs) (v :: vs) = [.bool x.list, .string x.bytes, v] ++ itemsV xs vs := rfl
      rw [e]
      cases i with
      | zero => rw [Nat.zero_mul, Nat.zero_add, List.getElem?_append_left (by simpa using hq)]; rfl
      | succ i =>
        rw [List.getElem?_append_right (by simp; omega), show (i + 1) * 3 + q - [Value.bool x.list, .string x.bytes, v].length = i * 3 + q by simp; omega, ih vs (by simpa using h) i (by simpa using hi)]
        rfl
/-- an owned row of items, in memory -/
theorem SubV.of_own {S : Nat → Prop} {W : World} {base c : Nat} {A : Option Addr} {xs : List Itm} {vs : List Value} (hl : xs.length = vs.length) (h : W.ownsRow base 51 3 (.slice A xs.length c) xs.length (itemsV xs vs))
    (hx : ∀ i, i < xs.length → SubV S W (xs.getD i Itm.none_).items (vs.getD i undef)) (hS : ∀ g, (Value.slice A xs.length c).ownBlock = some g → S g) : SubV S W xs (.slice A xs.length c) := by
  refine .mk xs A c vs (fun h0 => ?_) hx
  rcases h.2 with ⟨_, h1⟩ | ⟨g, cap, cur, hv, _, hg, _, _, _, ht⟩
  · omega
  · injection hv with hA
    subst hA
    refine ⟨g, 0, rfl, hS g rfl, fun i hi => ?_⟩
    have key : ∀ q, q < 3 → W.cell? ⟨g, 0 + i * 3 + q, none⟩ = (itemsV xs vs)[i * 3 + q]? := by
      intro q hq
      rw [Nat.zero_add, cell_of_row W g (i * 3 + q) cur 51 (0, 0) hg, ← ht, List.getElem?_take_of_lt (by omega)]
      simp
    refine ⟨?_, ?_, ?_⟩
    · have := key 0 (by omega); rw [itemsV_get xs vs hl i hi 0 (by omega)] at this; exact this
    · have := key 1 (by omega); rw [itemsV_get xs vs hl i hi 1 (by omega)] at this; exact this
    · have := key 2 (by omega); rw [itemsV_get xs vs hl i hi 2 (by omega)] at this; exact this
theorem Itm.ext_ {x y : Itm} (h1 : x.list = y.list) (h2 : x.bytes = y.bytes) (h3 : x.items = y.items) : x = y := by
  cases x; cases y
  simp only [Itm.list, Itm.bytes, Itm.items] at h1 h2 h3
  rw [h1, h2, h3]
theorem Itm.size_get {x : Itm} {i : Nat} (h : i < x.items.length) : SizeOf.sizeOf (x.items.getD i Itm.none_) < SizeOf.sizeOf x := by
  obtain ⟨l, b, xs⟩ := x
  have h : i < xs.length := h
  have : xs.getD i Itm.none_ ∈ xs := by
    rw [List.getD_eq_getElem?_getD, List.getElem?_eq_getElem h]
    exact List.getElem_mem h
  have := List.sizeOf_lt_of_mem this
  simp only [Itm.items, Itm.mk.sizeOf_spec]
  omega
theorem items_ext {xs ys : List Itm} (hl : xs.length = ys.length) (h : ∀ i, i < xs.length → xs.getD i Itm.none_ = ys.getD i Itm.none_) : xs = ys := by
  apply List.ext_getElem hl
  intro i hi hi'
  have := h i hi
  rw [List.getD_eq_getElem?_getD, List.getD_eq_getElem?_getD, List.getElem?_eq_getElem hi, List.getElem?_eq_getElem hi'] at this
  exact this

/-- what a tree's row of items lies as, in blocks of a world -/
abbrev SubW (W : World) (xs : List Itm) (v : Value) : Prop := SubV (fun g => g < W.heap.size) W xs v
theorem SubW.grown {W W' : World} {xs : List Itm} {v : Value} (h : SubW W xs v) (hg : W.grownBy W' none) : SubW W' xs v :=
  (h.keep fun p hp u hu => by rw [World.cell?_of_block (w := W) (hg.block p.block hp (by simp))]; exact hu).weak fun g h1 => by have := hg.size; omega
theorem SubV.here {S : Nat → Prop} {W : World} {xs : List Itm} {v : Value} (h : SubV S W xs v) : SubW W xs v := h.lt.weak fun _ h => h.2
/-- the items of a row -/
theorem SubV.row {S : Nat → Prop} {W : World} {xs : List Itm} {A : Option Addr} {n c : Nat} (h : SubV S W xs (.slice A n c)) : n = xs.length ∧ ∃ vs : List Value, (∀ i, i < xs.length → SubV S W (xs.getD i Itm.none_).items (vs.getD i undef)) ∧
    (0 < xs.length → ∃ b off, A = some ⟨b, off, none⟩ ∧ S b ∧ ∀ i, i < xs.length → W.cell? ⟨b, off + i * 3, none⟩ = some (.bool (xs.getD i Itm.none_).list) ∧ W.cell? ⟨b, off + i * 3 + 1, none⟩ = some (.string (xs.getD i Itm.none_).bytes) ∧ W.cell? ⟨b, off + i * 3 + 2, none⟩ = some (vs.getD i undef)) := by
  cases h with
  | mk xs A c vs hr hx => exact ⟨rfl, vs, hx, hr⟩

/-- no list is longer than may be, nor any bytes -/
inductive Itm.Ok : Itm → Prop
  | mk (l : Bool) (b : ByteArray) (xs : List Itm) (hb : b.size ≤ 9223372036854775807) (hn : xs.length ≤ 9223372036854775807) (h : ∀ i, i < xs.length → Itm.Ok (xs.getD i Itm.none_)) : Itm.Ok (.mk l b xs)
theorem Itm.Ok.bytes {x : Itm} (h : x.Ok) : x.bytes.size ≤ 9223372036854775807 := by cases h; assumption
theorem Itm.Ok.items {x : Itm} (h : x.Ok) : x.items.length ≤ 9223372036854775807 := by cases h; assumption
theorem Itm.Ok.get {x : Itm} (h : x.Ok) : ∀ i, i < x.items.length → (x.items.getD i Itm.none_).Ok := by cases h; assumption
end Go.Proofs.YtdflihfecfmpfaaDoor
