/- A frame more: what it answers; plain laws. -/
import Derived.Test.YtdkijdedfpfbnaaChaH
import Derived.Test.YtdkijdedfpfbnaaPerm
namespace Go.Proofs.Ytdkijdedfpfbnaa
open Go.RowKit Go.Shelf

def twiceF (xs : List Frm) (m : Int) : Bool := xs.any fun g => decide (g.num = m)
def orderF (xs : List Frm) (f : Frm) : Bool := xs.any fun g => (g.last && decide (g.num < f.num)) || (f.last && decide (f.num < g.num))
/-- what is wrong with a frame more -/
def addE (xs : List Frm) (f : Frm) : Int :=
  if checkF f ≠ 0 then checkF f else if heardF xs = false then 2 else if 0 < xs.length ∧ (xs.getD 0 Frm.none_).id ≠ f.id then 1 else
  if twiceF xs f.num = true then 13 else if orderF xs f = true then 11 else if 31 < f.num then 5 else 0
def posN (xs : List Frm) (m : Int) : Nat := xs.findIdx fun g => decide (m < g.num)
/-- frames with one more -/
def addL (xs : List Frm) (f : Frm) : List Frm := if addE xs f = 0 then xs.take (posN xs f.num) ++ f :: xs.drop (posN xs f.num) else xs

theorem getD_mem (xs : List Frm) (t : Nat) (h : t < xs.length) : xs.getD t Frm.none_ ∈ xs := by
  rw [List.getD_eq_getElem?_getD, List.getElem?_eq_getElem h]; exact List.getElem_mem h
theorem mem_getD (xs : List Frm) (g : Frm) (h : g ∈ xs) : ∃ t, t < xs.length ∧ xs.getD t Frm.none_ = g := by
  obtain ⟨t, ht, rfl⟩ := List.mem_iff_getElem.1 h
  exact ⟨t, ht, by rw [List.getD_eq_getElem?_getD, List.getElem?_eq_getElem ht]; rfl⟩
theorem twice_at {xs : List Frm} {m : Int} {p : Nat} (hs : Sorted xs) (h : IsAt xs m p) : twiceF xs m = (decide (p < xs.length) && decide ((xs.getD p Frm.none_).num = m)) := by
  rw [Bool.eq_iff_iff]
  simp only [twiceF, List.any_eq_true, Bool.and_eq_true, decide_eq_true_eq]
  constructor
  · rintro ⟨g, hg, he⟩
    obtain ⟨t, ht, rfl⟩ := mem_getD xs g hg
    have htp : p ≤ t := by
      rcases Nat.lt_or_ge t p with h1 | h1
      · have := h.lo t h1; omega
      · exact h1
    have h1 := hs p t htp ht
    have h2 := h.hi p (Nat.le_refl _) (by omega)
    exact ⟨by omega, by omega⟩
  · rintro ⟨h1, h2⟩
    exact ⟨_, getD_mem xs p h1, h2⟩
theorem no_last {xs : List Frm} (h : heardF xs = true) (t : Nat) (ht : t + 1 < xs.length) : (xs.getD t Frm.none_).last = false := by
  have h2 := heard_at h ht
  unfold okAt at h2
  simp only [Bool.and_eq_true, Bool.or_eq_true, decide_eq_true_eq, Nat.add_sub_cancel, Bool.not_eq_true'] at h2
  obtain ⟨_, _, (h3 | h3)⟩ := h2
  · omega
  · exact h3.1
theorem order_at {xs : List Frm} {f : Frm} {p : Nat} (hh : heardF xs = true) (h : IsAt xs f.num p) (hno : twiceF xs f.num = false) :
    orderF xs f = ((decide (0 < p) && (xs.getD (p - 1) Frm.none_).last) || (f.last && decide (p < xs.length))) := by
  have hne : ∀ t, t < xs.length → (xs.getD t Frm.none_).num ≠ f.num := by
    intro t ht e
    have : twiceF xs f.num = true := List.any_eq_true.2 ⟨_, getD_mem xs t ht, by simpa using e⟩
    rw [hno] at this; cases this
  rw [Bool.eq_iff_iff]
  simp only [orderF, List.any_eq_true, Bool.or_eq_true, Bool.and_eq_true, decide_eq_true_eq]
  constructor
  · rintro ⟨g, hg, (⟨h1, h2⟩ | ⟨h1, h2⟩)⟩
    · obtain ⟨t, ht, rfl⟩ := mem_getD xs g hg
      have htp : t < p := by
        rcases Nat.lt_or_ge t p with h3 | h3
        · exact h3
        · have := h.hi t h3 ht; omega
      have htn : t + 1 = xs.length := by
        rcases Nat.lt_or_ge (t + 1) xs.length with h3 | h3
        · rw [no_last hh t h3] at h1; cases h1
        · omega
      have := h.le
      obtain rfl : p = t + 1 := by omega
      exact .inl ⟨by omega, h1⟩
    · obtain ⟨t, ht, rfl⟩ := mem_getD xs g hg
      refine .inr ⟨h1, ?_⟩
      rcases Nat.lt_or_ge t p with h3 | h3
      · have := h.lo t h3; omega
      · omega
  · rintro (⟨h1, h2⟩ | ⟨h1, h2⟩)
    · have := h.le
      exact ⟨_, getD_mem xs (p - 1) (by omega), .inl ⟨h2, h.lo _ (by omega)⟩⟩
    · have h3 := h.hi p (Nat.le_refl _) h2
      have h4 := hne p h2
      exact ⟨_, getD_mem xs p h2, .inr ⟨h1, by omega⟩⟩
theorem pos_at {xs : List Frm} {m : Int} {p : Nat} (h : IsAt xs m p) (hno : twiceF xs m = false) : posN xs m = p := by
  have hne : ∀ t, t < xs.length → (xs.getD t Frm.none_).num ≠ m := by
    intro t ht e
    have : twiceF xs m = true := List.any_eq_true.2 ⟨_, getD_mem xs t ht, by simpa using e⟩
    rw [hno] at this; cases this
  unfold posN
  rcases Nat.lt_or_ge p xs.length with hp | hp
  · rw [List.findIdx_eq hp]
    have e : ∀ t (ht : t < xs.length), xs.getD t Frm.none_ = xs[t] := fun t ht => by rw [List.getD_eq_getElem?_getD, List.getElem?_eq_getElem ht]; rfl
    refine ⟨?_, fun j hj => ?_⟩
    · have h3 := h.hi p (Nat.le_refl _) hp
      have h4 := hne p hp
      rw [e p hp] at h3 h4
      simp; omega
    · have h3 := h.lo j hj
      rw [e j (by omega)] at h3
      simp; omega
  · have := h.le
    obtain rfl : p = xs.length := by omega
    rw [List.findIdx_eq_length]
    intro g hg
    obtain ⟨t, ht, rfl⟩ := mem_getD xs g hg
    have := h.lo t ht
    exact decide_eq_false (by omega)
theorem pos_le (xs : List Frm) (m : Int) : posN xs m ≤ xs.length := List.findIdx_le_length
end Go.Proofs.Ytdkijdedfpfbnaa
