/- What is read without fault begins with a head: plain laws. -/
import Derived.Test.YthbeigcbmalldaaDoorUnrR
namespace Go.Proofs.YthbeigcbmalldaaDoor
open Go.RowKit Go.Shelf
set_option linter.unusedVariables false
set_option linter.unusedSimpArgs false

theorem item_ok {k : Nat} {l : List UInt8} {a q : Nat} {x : Itm} (h : itemF k l a = .ok (x, q)) : lookE l (a : Int) = 0 ∧ x.list = lookL l (a : Int) ∧ q = lookFrom l (a : Int) + lookN l (a : Int) := by
  have key : ∀ sub, itemG sub l a = .ok (x, q) → lookE l (a : Int) = 0 ∧ x.list = lookL l (a : Int) ∧ q = lookFrom l (a : Int) + lookN l (a : Int) := by
    intro sub h
    unfold itemG at h
    split at h
    · cases h
    split at h
    · cases h
    rename_i h2
    have h2 : lookE l (a : Int) = 0 := by simpa using h2
    split at h
    · rename_i h3
      injection h with h; injection h with h4 h5
      subst h4
      exact ⟨h2, by rw [h3]; rfl, h5.symm⟩
    rename_i h3
    split at h
    · cases h
    · split at h
      · cases h
      · injection h with h; injection h with h4 h5
        subst h4
        exact ⟨h2, by rw [show lookL l (a : Int) = true by simpa using h3]; rfl, h5.symm⟩
  cases k with
  | zero => exact key none h
  | succ k => exact key _ h
theorem decode_head {l : List UInt8} {x : Itm} (h : decodeF l = .ok x) : lookE l 0 = 0 ∧ x.list = lookL l 0 ∧ lookFrom l 0 + lookN l 0 = l.length := by
  unfold decodeF at h
  split at h
  · cases h
  · split at h
    · cases h
    · rename_i y q hi
      split at h
      · cases h
      · rename_i hq
        injection h with h; subst h
        obtain ⟨h1, h2, h3⟩ := item_ok hi
        have h4 := (look_ok h1).2.1
        simp only [Int.ofNat_zero] at h1 h2 h3 h4
        exact ⟨h1, h2, by omega⟩
theorem look_nonneg {l : List UInt8} {i : Int} (h : lookE l i = 0) : 0 ≤ i := by
  unfold lookE at h
  split at h
  · cases h
  · omega
end Go.Proofs.YthbeigcbmalldaaDoor
