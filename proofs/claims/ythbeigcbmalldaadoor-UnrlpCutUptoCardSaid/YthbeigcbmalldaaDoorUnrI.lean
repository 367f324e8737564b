/- What stands between two rounds of items. -/
import Derived.Test.YthbeigcbmalldaaDoorUnrH
namespace Go.Proofs.YthbeigcbmalldaaDoor
open Go.RowKit Go.Shelf

/-- the boxes that items and its iterator lay -/
structure IB (w : World) (b r : Nat) (s : ByteArray) (W : World) : Prop where
  hg : w.grownBy W (some r)
  q0 : Boxed W b 43 (.pointer (some ⟨r, 0, none⟩))
  q1 : Boxed W (b + 1) 9 (.string s)
  q2 : Blk W (b + 2) 24 #[.bool false, .string ⟨#[]⟩, .slice none 0 0]
  q4 : Boxed W (b + 4) 47 (.func (.func 17) #[.pointer (some ⟨r, 0, none⟩)] #[])
  q6 : Boxed W (b + 6) 3 (.int .i64 (s.size : Int))
  q7 : Boxed W (b + 7) 74 (.func (.func 33) #[] #[.pointer (some ⟨b + 4, 0, none⟩), .pointer (some ⟨b + 1, 0, none⟩), .pointer (some ⟨b + 3, 0, none⟩)])
def prepR (xs : List Itm) : Except Int (List Itm) → Except Int (List Itm)
  | .error e => .error e
  | .ok ys => .ok (xs ++ ys)
/-- the items so far -/
def IOk (rd : Nat → Except Int (Itm × Nat)) (en F b : Nat) (v : Value) (i : Nat) (p : Int) (W : World) : Prop :=
  ∃ (p' : Nat) (xs : List Itm) (vs : List Value), p = (p' : Int) ∧ xs.length = i ∧ vs.length = i ∧ W.ownsRow (b + 8) 24 3 v i (itemsV xs vs) ∧ (∀ j, j < i → SubV (fun g => b + 8 ≤ g ∧ v.ownBlock ≠ some g) W (xs.getD j Itm.none_).items (vs.getD j undef)) ∧
    itemsF rd en 513 0 F = prepR xs (itemsF rd en (513 - i) i p')
def II (w : World) (b r : Nat) (s : ByteArray) (k F : Nat) (i : Nat) (p : Int) (W : World) : Prop :=
  IB w b r s W ∧ Boxed W (b + 5) 3 (.int .i64 p) ∧ i ≤ 512 ∧ ∃ (E : Int) (A : Option Addr) (n c : Nat), Blk W (b + 3) 24 #[.bool true, .string ⟨#[]⟩, .slice A n c] ∧ Blk W r 45 #[.int .i64 ((12 - k : Nat) : Int), .int .i64 E] ∧
    ((E = 0 ∧ IOk (itemF k s.data.toList) s.size F b (.slice A n c) i p W) ∨ (E ≠ 0 ∧ itemsF (itemF k s.data.toList) s.size 513 0 F = .error E))
def II2 (w : World) (b r : Nat) (s : ByteArray) (k F : Nat) (i : Nat) (p : Int) (W : World) : Prop :=
  IB w b r s W ∧ Boxed W (b + 5) 3 (.int .i64 p) ∧ i < 512 ∧ p < (s.size : Int) ∧ ∃ (A : Option Addr) (n c : Nat), Blk W (b + 3) 24 #[.bool true, .string ⟨#[]⟩, .slice A n c] ∧ Blk W r 45 #[.int .i64 ((12 - k : Nat) : Int), .int .i64 0] ∧
    IOk (itemF k s.data.toList) s.size F b (.slice A n c) i p W
def IX (w : World) (b r : Nat) (s : ByteArray) (k F ex : Nat) (c : Code) (W : World) : Prop :=
  c = .exit ex ∧ IB w b r s W ∧ ∃ (E : Int) (A : Option Addr) (n cp : Nat), E ≠ 0 ∧ Blk W (b + 3) 24 #[.bool true, .string ⟨#[]⟩, .slice A n cp] ∧ Blk W r 45 #[.int .i64 ((12 - k : Nat) : Int), .int .i64 E] ∧
    itemsF (itemF k s.data.toList) s.size 513 0 F = .error E

theorem IB.stays {w : World} {b r : Nat} {s : ByteArray} {W W' : World} (h : IB w b r s W) {X : Nat → Prop} (hs : Stays X W W') (hg : w.grownBy W' (some r)) (hx : ∀ g, b ≤ g → g ≤ b + 7 → g ≠ b + 3 → g ≠ b + 5 → ¬ X g) : IB w b r s W' :=
  ⟨hg, hs.boxed h.q0 (hx _ (by omega) (by omega) (by omega) (by omega)), hs.boxed h.q1 (hx _ (by omega) (by omega) (by omega) (by omega)), hs.blk h.q2 (hx _ (by omega) (by omega) (by omega) (by omega)), hs.boxed h.q4 (hx _ (by omega) (by omega) (by omega) (by omega)), hs.boxed h.q6 (hx _ (by omega) (by omega) (by omega) (by omega)), hs.boxed h.q7 (hx _ (by omega) (by omega) (by omega) (by omega))⟩
theorem IOk.stays {rd : Nat → Except Int (Itm × Nat)} {en F b : Nat} {v : Value} {i : Nat} {p : Int} {W W' : World} (h : IOk rd en F b v i p W) (hs : Stays (fun _ => False) W W') : IOk rd en F b v i p W' := by
  obtain ⟨p', xs, vs, h1, h2, h3, h4, h5, h6⟩ := h
  exact ⟨p', xs, vs, h1, h2, h3, hs.own h4 (fun _ _ => id), fun j hj => hs.sub (h5 j hj) (fun _ _ => id), h6⟩
theorem stays_own {w : World} {r B : Nat} (hB : w.heap.size ≤ B) {W W' : World} {row : Option Nat} (h : w.grownBy W (some r)) (hg : W.grownBy W' row) (hr : ∀ q, row = some q → B ≤ q ∧ ∃ o : Obj, W.heap[q]? = some o ∧ o.isCells = false) : Stays (fun _ => False) W W' ∧ w.grownBy W' (some r) :=
  ⟨Stays.of_grown hg (fun q e => (hr q e).2), grown_self h hg (fun q e => .inr (Nat.le_trans hB (hr q e).1))⟩
theorem II.own {w : World} {b r : Nat} {s : ByteArray} {k F B : Nat} (hB : w.heap.size ≤ B) : OwnFrom B (fun x : Nat × Int => II w b r s k F x.1 x.2) := by
  rintro ⟨i, p⟩ W W' row ⟨h1, h2, h3, E, A, n, c, h4, h5, h6⟩ hg hr
  obtain ⟨hs, hw⟩ := stays_own hB h1.hg hg hr
  refine ⟨h1.stays hs hw (fun _ _ _ _ _ => id), hs.boxed h2 id, h3, E, A, n, c, hs.blk h4 id, hs.blk h5 id, ?_⟩
  rcases h6 with ⟨e, h6⟩ | h6
  · exact .inl ⟨e, h6.stays hs⟩
  · exact .inr h6
theorem II2.own {w : World} {b r : Nat} {s : ByteArray} {k F B : Nat} (hB : w.heap.size ≤ B) : OwnFrom B (fun x : Nat × Int => II2 w b r s k F x.1 x.2) := by
  rintro ⟨i, p⟩ W W' row ⟨h1, h2, h3, h3', A, n, c, h4, h5, h6⟩ hg hr
  obtain ⟨hs, hw⟩ := stays_own hB h1.hg hg hr
  exact ⟨h1.stays hs hw (fun _ _ _ _ _ => id), hs.boxed h2 id, h3, h3', A, n, c, hs.blk h4 id, hs.blk h5 id, h6.stays hs⟩
theorem IX.own {w : World} {b r : Nat} {s : ByteArray} {k F ex B : Nat} (hB : w.heap.size ≤ B) (c : Code) : OwnFrom B (fun _ : Unit => IX w b r s k F ex c) := by
  rintro _ W W' row ⟨h0, h1, E, A, n, cp, hE, h4, h5, h6⟩ hg hr
  obtain ⟨hs, hw⟩ := stays_own hB h1.hg hg hr
  exact ⟨h0, h1.stays hs hw (fun _ _ _ _ _ => id), E, A, n, cp, hE, hs.blk h4 id, hs.blk h5 id, h6⟩

/-- one item more -/
theorem itemsF_err {rd : Nat → Except Int (Itm × Nat)} {en F i p : Nat} {xs : List Itm} {E : Int} (hi : i < 512) (hp : p < en) (h : itemsF rd en 513 0 F = prepR xs (itemsF rd en (513 - i) i p)) (he : rd p = .error E) : itemsF rd en 513 0 F = .error E := by
  rw [h, show 513 - i = (512 - i) + 1 by omega, itemsF, if_pos hp, if_neg (by omega), he]
  rfl
theorem itemsF_ok {rd : Nat → Except Int (Itm × Nat)} {en F i p q : Nat} {xs : List Itm} {x : Itm} (hi : i < 512) (hp : p < en) (h : itemsF rd en 513 0 F = prepR xs (itemsF rd en (513 - i) i p)) (he : rd p = .ok (x, q)) : itemsF rd en 513 0 F = prepR (xs ++ [x]) (itemsF rd en (513 - (i + 1)) (i + 1) q) := by
  rw [h, show 513 - i = (513 - (i + 1)) + 1 by omega, itemsF, if_pos hp, if_neg (by omega), he]
  show prepR xs (match itemsF rd en (513 - (i + 1)) (i + 1) q with | .error e => .error e | .ok ys => .ok (x :: ys)) = _
  cases itemsF rd en (513 - (i + 1)) (i + 1) q with
  | error e => rfl
  | ok ys => simp [prepR]
theorem itemsF_many {rd : Nat → Except Int (Itm × Nat)} {en F p : Nat} {xs : List Itm} (hp : p < en) (h : itemsF rd en 513 0 F = prepR xs (itemsF rd en (513 - 512) 512 p)) : itemsF rd en 513 0 F = .error 5 := by
  rw [h, show 513 - 512 = 0 + 1 from rfl, itemsF, if_pos hp, if_pos (by omega)]
  rfl
theorem itemsF_end {rd : Nat → Except Int (Itm × Nat)} {en F i p : Nat} {xs : List Itm} (hi : i ≤ 512) (hp : ¬ p < en) (h : itemsF rd en 513 0 F = prepR xs (itemsF rd en (513 - i) i p)) : itemsF rd en 513 0 F = .ok xs := by
  rw [h, show 513 - i = (512 - i) + 1 by omega, itemsF, if_neg hp]
  simp [prepR]
end Go.Proofs.YthbeigcbmalldaaDoor
