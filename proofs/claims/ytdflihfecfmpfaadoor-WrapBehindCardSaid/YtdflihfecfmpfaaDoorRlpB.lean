/- An item's bytes, depth, form: plain words. -/
import Derived.Test.YtdflihfecfmpfaaDoorRlpA
import Derived.Test.YtdflihfecfmpfaaDoorTree
namespace Go.Proofs.YtdflihfecfmpfaaDoor
open Go.RowKit Go.Shelf
set_option linter.unusedVariables false
set_option linter.unusedSimpArgs false

/-- bytes, as an item -/
def bytesT (b : ByteArray) : List UInt8 := if b.size = 1 ∧ (b.data.toList.getD 0 0).toNat < 128 then b.data.toList else headL b.size 128 ++ b.data.toList
mutual
/-- an item's bytes -/
def bytesF : Itm → List UInt8
  | .mk l b xs => if l then headL (bytesL xs).length 192 ++ bytesL xs else bytesT b
def bytesL : List Itm → List UInt8
  | [] => []
  | x :: xs => bytesF x ++ bytesL xs
end
mutual
/-- how deep -/
def deepF : Itm → Nat
  | .mk l b xs => if l then deepL xs + 1 else 0
def deepL : List Itm → Nat
  | [] => 0
  | x :: xs => max (deepF x) (deepL xs)
end
mutual
/-- what is wrong with it, in so many lists -/
def formF : Itm → Nat → Int
  | .mk l b xs, d => if (l = true ∧ b.size ≠ 0) ∨ (l = false ∧ xs.length ≠ 0) then 2 else if l = false then 0 else if 12 ≤ d then 7 else if 512 < xs.length then 5 else formL xs (d + 1)
def formL : List Itm → Nat → Int
  | [], _ => 0
  | x :: xs, d => if formF x d ≠ 0 then formF x d else formL xs d
end
mutual
/-- how much there is in it -/
def wtF : Itm → Nat
  | .mk l b xs => 10 + b.size + wtL xs
def wtL : List Itm → Nat
  | [] => 0
  | x :: xs => wtF x + wtL xs
end
theorem bytesF_eq (x : Itm) : bytesF x = if x.list then headL (bytesL x.items).length 192 ++ bytesL x.items else bytesT x.bytes := by cases x; rw [bytesF]; rfl
theorem deepF_eq (x : Itm) : deepF x = if x.list then deepL x.items + 1 else 0 := by cases x; rw [deepF]; rfl
theorem formF_eq (x : Itm) (d : Nat) : formF x d = if (x.list = true ∧ x.bytes.size ≠ 0) ∨ (x.list = false ∧ x.items.length ≠ 0) then 2 else if x.list = false then 0 else if 12 ≤ d then 7 else if 512 < x.items.length then 5 else formL x.items (d + 1) := by cases x; rw [formF]; rfl
theorem wtF_eq (x : Itm) : wtF x = 10 + x.bytes.size + wtL x.items := by cases x; rw [wtF]; rfl
theorem bytesL_snoc (xs : List Itm) (x : Itm) : bytesL (xs ++ [x]) = bytesL xs ++ bytesF x := by
  induction xs with
  | nil => simp [bytesL]
  | cons y xs ih => simp [bytesL, ih]
theorem bytesL_append (xs ys : List Itm) : bytesL (xs ++ ys) = bytesL xs ++ bytesL ys := by
  induction xs with
  | nil => simp [bytesL]
  | cons y xs ih => simp [bytesL, ih]
theorem deepL_snoc (xs : List Itm) (x : Itm) : deepL (xs ++ [x]) = max (deepL xs) (deepF x) := by
  induction xs with
  | nil => simp [deepL]
  | cons y xs ih => simp [deepL, ih]
theorem wtL_append (xs ys : List Itm) : wtL (xs ++ ys) = wtL xs + wtL ys := by
  induction xs with
  | nil => simp [wtL]
  | cons y xs ih => simp [wtL, ih]; omega
theorem take_item {xs : List Itm} {k : Nat} (h : k < xs.length) : xs.take (k + 1) = xs.take k ++ [xs.getD k Itm.none_] := by
  rw [List.take_succ_eq_append_getElem h, List.getD_eq_getElem?_getD, List.getElem?_eq_getElem h]; rfl
theorem item_cut {xs : List Itm} {k : Nat} (h : k < xs.length) : xs = xs.take k ++ xs.getD k Itm.none_ :: xs.drop (k + 1) := by
  have : xs.drop k = xs.getD k Itm.none_ :: xs.drop (k + 1) := by
    rw [List.drop_eq_getElem_cons h, List.getD_eq_getElem?_getD, List.getElem?_eq_getElem h]; rfl
  rw [← this, List.take_append_drop]
theorem wtL_get {xs : List Itm} {k : Nat} (h : k < xs.length) : wtF (xs.getD k Itm.none_) + wtL (xs.take k) ≤ wtL xs := by
  have e := congrArg wtL (item_cut h)
  rw [wtL_append, wtL] at e
  omega
theorem headL_len (n base : Nat) (h : n ≤ 1000000000) : (headL n base).length ≤ 9 ∧ 1 ≤ (headL n base).length := by
  unfold headL
  have := beN_len8 n (by omega)
  split <;> simp <;> omega
theorem bytesT_len (b : ByteArray) (h : b.size ≤ 1000000000) : (bytesT b).length ≤ 9 + b.size := by
  unfold bytesT
  have h2 : b.data.toList.length = b.size := Array.length_toList
  split
  · omega
  · rw [List.length_append]; have := (headL_len b.size 128 h).1; omega
mutual
theorem bytesF_len : ∀ x : Itm, wtF x ≤ 1000000000 → (bytesF x).length + 1 ≤ wtF x
  | .mk l b xs, h => by
    rw [wtF] at h ⊢
    rw [bytesF]
    have h1 := bytesL_len xs (by omega)
    split
    · rw [List.length_append]; have := (headL_len (bytesL xs).length 192 (by omega)).1; omega
    · have := bytesT_len b (by omega); omega
theorem bytesL_len : ∀ xs : List Itm, wtL xs ≤ 1000000000 → (bytesL xs).length ≤ wtL xs
  | [], _ => by simp [bytesL]
  | x :: xs, h => by
    rw [wtL] at h ⊢
    rw [bytesL, List.length_append]
    have := bytesF_len x (by omega)
    have := bytesL_len xs (by omega)
    omega
end
theorem wt_get {x : Itm} {k : Nat} (h : k < x.items.length) : wtF (x.items.getD k Itm.none_) ≤ wtF x := by
  have := wtL_get h; rw [wtF_eq x]; omega
theorem wtL_take (xs : List Itm) (k : Nat) : wtL (xs.take k) ≤ wtL xs := by
  have := congrArg wtL (List.take_append_drop k xs)
  rw [wtL_append] at this
  omega
theorem wtL_len (xs : List Itm) : 10 * xs.length ≤ wtL xs := by
  induction xs with
  | nil => simp [wtL]
  | cons x xs ih => rw [wtL, wtF_eq]; simp; omega
/-- what is so light may be walked -/
theorem ok_of_wt (x : Itm) (h : wtF x ≤ 1000000000) : x.Ok := by
  generalize hn : SizeOf.sizeOf x = n
  induction n using Nat.strongRecOn generalizing x with
  | _ n ih =>
    subst hn
    cases x with
    | mk l b xs =>
      have h' := h
      rw [wtF] at h'
      have := wtL_len xs
      exact .mk l b xs (by omega) (by omega) fun i hi => ih _ (Itm.size_get (x := .mk l b xs) hi) _ (Nat.le_trans (wt_get (x := .mk l b xs) hi) h) rfl

theorem BuilderAt.grown_' {T e : TypeId} {B b : Nat} {p : Value} {bs : List Value} {w w' : World} (h : Lib.BuilderAt T e B b p bs w) (hg : w.grownBy w' none) : Lib.BuilderAt T e B b p bs w' := by
  obtain ⟨h1, v, h2, h3, h4⟩ := h
  refine ⟨h1, v, (hg.block b (Array.getElem?_eq_some_iff.1 h2).1 (by simp)).trans h2, h3.kept hg ?_, h4⟩
  rcases h3.2 with ⟨rfl, _⟩ | ⟨g, cap, cur, rfl, _⟩
  · exact .inl rfl
  · exact .inr (by simp [Value.ownBlock])
theorem builder_grown {T e : TypeId} {B b : Nat} {bs : List Value} {w w' : World} (h : Lib.IsBuilder T e B b bs w) (hg : w.grownBy w' none) : Lib.IsBuilder T e B b bs w' := h.elim (fun h => .inl (BuilderAt.grown_' h hg)) (fun h => .inr (BuilderAt.grown_' h hg))
theorem builder_lt {T e : TypeId} {B b : Nat} {bs : List Value} {w : World} (h : Lib.IsBuilder T e B b bs w) : b < w.heap.size ∧ B ≤ b := h.elim (fun h => ⟨h.lt, h.1⟩) (fun h => ⟨h.lt, h.1⟩)
end Go.Proofs.YtdflihfecfmpfaaDoor
