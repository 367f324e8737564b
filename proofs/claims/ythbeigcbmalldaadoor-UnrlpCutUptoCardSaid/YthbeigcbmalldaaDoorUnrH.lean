/- What an item's reader answers; places; what stays. -/
import Derived.Test.YthbeigcbmalldaaDoorUnrG
namespace Go.Proofs.YthbeigcbmalldaaDoor
open Go.RowKit Go.Shelf
attribute [local go_sem] Oper.semAt_some

/-- what is said of an item that was read -/
def ItemTail (k : Nat) (l : List UInt8) (a r : Nat) (W : World) (lst : Bool) (b : ByteArray) (sv : Value) (to : Int) (W1 : World) : Prop :=
  (∃ x to', itemF k l a = .ok (x, to') ∧ to = (to' : Int) ∧ lst = x.list ∧ b = x.bytes ∧ Blk W1 r 45 #[.int .i64 ((12 - k : Nat) : Int), .int .i64 0] ∧ SubV (fun g => W.heap.size ≤ g) W1 x.items sv) ∨
  (∃ E, itemF k l a = .error E ∧ E ≠ 0 ∧ Blk W1 r 45 #[.int .i64 ((12 - k : Nat) : Int), .int .i64 E])
/-- the reader's contract, so many lists deep -/
def ItemC (k : Nat) : Prop := ∀ (s : ByteArray) (a r : Nat) (W : World), s.size ≤ 65536 → a ≤ s.size → Blk W r 45 #[.int .i64 ((12 - k : Nat) : Int), .int .i64 0] →
  Calls Tryd.prog 17 #[.pointer (some ⟨r, 0, none⟩), .string s, .int .i64 (a : Int)] W fun e W1 => ∃ l b sA sn sc to, e = .returned (.tuple #[.agg #[.bool l, .string b, .slice sA sn sc], .int .i64 to]) ∧ W.grownBy W1 (some r) ∧ ItemTail k s.data.toList a r W l b (.slice sA sn sc) to W1

theorem places_any (F en : Int) (x0 x1 x2 : Value) (w : World) : Calls Tryd.prog 34 #[.int .i64 F, .int .i64 en, .func (.func 33) #[] #[x0, x1, x2]] w fun e w' => e = .returned (.func (.func 38) #[] #[.pointer (some ⟨w.heap.size, 0, none⟩), .pointer (some ⟨w.heap.size + 1, 0, none⟩), .pointer (some ⟨w.heap.size + 1 + 1, 0, none⟩)]) ∧
    w' = ((w.alloc (.cells #[.int .i64 F] 3)).alloc (.cells #[.int .i64 en] 3)).alloc (.cells #[.func (.func 33) #[] #[x0, x1, x2]] 74) := by
  go_enter Tryd.func34, Tryd.ntmps34
  go_wp2_with fail
  go_ret
  exact ⟨rfl, rfl⟩

/-- cells stay where they lay -/
def Stays (X : Nat → Prop) (W W' : World) : Prop := ∀ (g : Nat) (o : Obj), W.heap[g]? = some o → o.isCells = true → ¬ X g → W'.heap[g]? = some o
theorem Stays.of_grown {W W' : World} {row : Option Nat} (hg : W.grownBy W' row) (hr : ∀ r, row = some r → ∃ o : Obj, W.heap[r]? = some o ∧ o.isCells = false) : Stays (fun _ => False) W W' := by
  intro g o ho hc _
  refine (hg.block g (Array.getElem?_eq_some_iff.1 ho).1 (fun e => ?_)).trans ho
  obtain ⟨o', h1, h2⟩ := hr g e.symm
  rw [ho] at h1
  injection h1 with h1
  rw [h1] at hc
  rw [hc] at h2
  cases h2
theorem Stays.blk {X : Nat → Prop} {W W' : World} (h : Stays X W W') {g : Nat} {t : TypeId} {cs : Array Value} (hb : Blk W g t cs) (hx : ¬ X g) : Blk W' g t cs := h g _ hb rfl hx
theorem Stays.boxed {X : Nat → Prop} {W W' : World} (h : Stays X W W') {g : Nat} {t : TypeId} {v : Value} (hb : Boxed W g t v) (hx : ¬ X g) : Boxed W' g t v := h g _ hb rfl hx
theorem Stays.cell {X : Nat → Prop} {W W' : World} (h : Stays X W W') {p : Addr} {u : Value} (hc : W.cell? p = some u) (hx : ¬ X p.block) : W'.cell? p = some u := by
  obtain ⟨o, ho, hoc⟩ := cells_of_cell hc
  have := h p.block o ho hoc hx
  rw [← hc]
  exact World.cell?_of_block (w := W) (this.trans ho.symm)
theorem Stays.sub {X : Nat → Prop} {W W' : World} (h : Stays X W W') {S : Nat → Prop} {xs : List Itm} {v : Value} (hs : SubV S W xs v) (hx : ∀ g, S g → ¬ X g) : SubV S W' xs v := hs.keep fun _ hp _ hu => h.cell hu (hx _ hp)
theorem Stays.own {X : Nat → Prop} {W W' : World} (h : Stays X W W') {base : Nat} {e : TypeId} {size : Nat} {v : Value} {n : Nat} {xs : List Value} (ho : W.ownsRow base e size v n xs) (hx : ∀ g, v.ownBlock = some g → ¬ X g) : W'.ownsRow base e size v n xs := by
  refine ⟨ho.1, ?_⟩
  rcases ho.2 with h1 | ⟨g, cap, cur, rfl, hb, hh, rest⟩
  · exact .inl h1
  · exact .inr ⟨g, cap, cur, rfl, hb, h g _ hh rfl (hx g rfl), rest⟩
end Go.Proofs.YthbeigcbmalldaaDoor
