/- One item (item): the contract at every depth. -/
import Derived.Test.YthbeigcbmalldaaDoorUnrJ
namespace Go.Proofs.YthbeigcbmalldaaDoor
open Go.RowKit Go.Shelf

theorem look_ok {l : List UInt8} {a : Nat} (h : lookE l (a : Int) = 0) : a < l.length ∧ lookFrom l (a : Int) + lookN l (a : Int) ≤ l.length ∧ a ≤ lookFrom l (a : Int) ∧ a < lookFrom l (a : Int) + lookN l (a : Int) ∧ lookFrom l (a : Int) ≤ a + 4 ∧ lookL l (a : Int) = decide (192 ≤ headC l a) := by
  have h1 : lookFrom l (a : Int) = rawFrom l a := by unfold lookFrom; rw [if_pos h, Int.toNat_natCast]
  have h2 : lookN l (a : Int) = rawN l a := by unfold lookN; rw [if_pos h, Int.toNat_natCast]
  have h3 : lookL l (a : Int) = decide (192 ≤ headC l a) := by unfold lookL; rw [if_pos h, Int.toNat_natCast]
  rw [h1, h2, h3]
  unfold lookE at h
  split at h
  · cases h
  rename_i g1
  split at h
  · cases h
  rename_i g2
  rw [Int.toNat_natCast] at h
  split at h
  · rename_i g3; exact absurd h g3
  rename_i g3
  split at h
  · cases h
  have := rawFrom_le (l := l) (a := a) (by omega) (by omega)
  exact ⟨by omega, by omega, by omega, by omega, by omega, rfl⟩

theorem item_err {k : Nat} {l : List UInt8} {a : Nat} (h1 : ¬ (a < l.length ∧ 192 ≤ headC l a ∧ k = 0)) (he : lookE l (a : Int) ≠ 0) : itemF k l a = .error (lookE l (a : Int)) := by
  cases k with
  | zero => show itemG none l a = _; unfold itemG; rw [if_neg (by rintro ⟨x, y, _⟩; exact h1 ⟨x, y, rfl⟩), if_pos he]
  | succ k' => show itemG (some (itemF k')) l a = _; unfold itemG; rw [if_neg (by rintro ⟨_, _, x⟩; cases x), if_pos he]
theorem item_bytes {k : Nat} {l : List UInt8} {a : Nat} (h1 : ¬ (a < l.length ∧ 192 ≤ headC l a ∧ k = 0)) (he : lookE l (a : Int) = 0) (hl : lookL l (a : Int) = false) : itemF k l a = .ok (.mk false ⟨((l.drop (lookFrom l a)).take (lookN l a)).toArray⟩ [], lookFrom l a + lookN l a) := by
  cases k with
  | zero => show itemG none l a = _; unfold itemG; rw [if_neg (by rintro ⟨x, y, _⟩; exact h1 ⟨x, y, rfl⟩), if_neg (by simpa using he), if_pos hl]
  | succ k' => show itemG (some (itemF k')) l a = _; unfold itemG; rw [if_neg (by rintro ⟨_, _, x⟩; cases x), if_neg (by simpa using he), if_pos hl]
theorem item_list {k : Nat} {l : List UInt8} {a : Nat} (he : lookE l (a : Int) = 0) (hl : lookL l (a : Int) = true) : itemF (k + 1) l a = match itemsF (itemF k (l.take (lookFrom l a + lookN l a))) (lookFrom l a + lookN l a) 513 0 (lookFrom l a) with
    | .error e => .error e
    | .ok xs => .ok (.mk true .empty xs, lookFrom l a + lookN l a) := by
  show itemG (some (itemF k)) l a = _; unfold itemG; rw [if_neg (by rintro ⟨_, _, x⟩; cases x), if_neg (by simpa using he), if_neg (by rw [hl]; decide)]
  rfl
theorem set_grown (W : World) (r i : Nat) (v : Value) : W.grownBy (W.setCell ⟨r, i, none⟩ v) (some r) :=
  ⟨rfl, rfl, rfl, by simp [World.setCell], fun g _ h => Below.heap_setCell W ⟨r, i, none⟩ v g (by simpa using h)⟩
end Go.Proofs.YthbeigcbmalldaaDoor
