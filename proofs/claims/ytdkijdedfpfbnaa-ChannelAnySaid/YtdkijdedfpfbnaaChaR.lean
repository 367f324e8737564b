/- Heard frames as a pairwise law, and what Add does to them. -/
import Derived.Test.YtdkijdedfpfbnaaChaQ
namespace Go.Proofs.Ytdkijdedfpfbnaa
open Go.RowKit Go.Shelf

/-- one frame ahead of another -/
def Ahead (a b : Frm) : Prop := a.num < b.num ∧ a.last = false ∧ a.id = b.id
structure HeardP (xs : List Frm) : Prop where
  pw : xs.Pairwise Ahead
  ok : ∀ f ∈ xs, checkF f = 0
theorem getD_get {xs : List Frm} {i : Nat} (h : i < xs.length) : xs.getD i Frm.none_ = xs[i] := by
  rw [List.getD_eq_getElem?_getD, List.getElem?_eq_getElem h]; rfl
theorem heardP_of {xs : List Frm} (h : heardF xs = true) : HeardP xs := by
  have hs := heard_sorted h
  have hat : ∀ k, k < xs.length → checkF (xs.getD k Frm.none_) = 0 ∧ (xs.getD k Frm.none_).id = (xs.getD 0 Frm.none_).id ∧ (k = 0 ∨ ((xs.getD (k - 1) Frm.none_).last = false ∧ (xs.getD (k - 1) Frm.none_).num < (xs.getD k Frm.none_).num)) := by
    intro k hk
    have := heard_at h hk
    unfold okAt at this
    simpa only [Bool.and_eq_true, Bool.or_eq_true, decide_eq_true_eq, Bool.not_eq_true'] using this
  refine ⟨List.pairwise_iff_getElem.2 fun i j hi hj hij => ?_, fun f hf => ?_⟩
  · rw [← getD_get hi, ← getD_get hj]
    have a := hat i hi
    have b := hat j hj
    have c := hat (i + 1) (by omega)
    rw [Nat.add_sub_cancel] at c
    have e : ¬ (i + 1 = 0) := by omega
    have c2 := c.2.2.resolve_left e
    have d := hs (i + 1) j (by omega) hj
    exact ⟨by omega, c2.1, by rw [a.2.1, b.2.1]⟩
  · obtain ⟨t, ht, rfl⟩ := mem_getD xs f hf
    exact (hat t ht).1
theorem heard_of {xs : List Frm} (h : HeardP xs) : heardF xs = true := by
  refine heard_yes fun k hk => ?_
  have hp := List.pairwise_iff_getElem.1 h.pw
  have hid : (xs.getD k Frm.none_).id = (xs.getD 0 Frm.none_).id := by
    by_cases h0 : k = 0
    · rw [h0]
    · rw [getD_get hk, getD_get (by omega)]
      exact ((hp 0 k (by omega) hk (by omega)).2.2).symm
  have hck := h.ok _ (getD_mem xs k hk)
  have hor : k = 0 ∨ ((xs.getD (k - 1) Frm.none_).last = false ∧ (xs.getD (k - 1) Frm.none_).num < (xs.getD k Frm.none_).num) := by
    by_cases h0 : k = 0
    · exact .inl h0
    · have := hp (k - 1) k (by omega) hk (by omega)
      rw [← getD_get (by omega), ← getD_get hk] at this
      exact .inr ⟨this.2.1, this.1⟩
  unfold okAt
  simpa only [Bool.and_eq_true, Bool.or_eq_true, decide_eq_true_eq, Bool.not_eq_true'] using ⟨hck, hid, hor⟩
theorem HeardP.sub {xs ys : List Frm} (h : HeardP xs) (hs : ys.Sublist xs) : HeardP ys := ⟨h.pw.sublist hs, fun f hf => h.ok f (hs.subset hf)⟩
theorem addE_ok {xs : List Frm} {f : Frm} (h : addE xs f = 0) : checkF f = 0 ∧ HeardP xs ∧ (∀ g ∈ xs, g.id = f.id) ∧ (∀ g ∈ xs, g.num ≠ f.num) ∧ (∀ g ∈ xs, g.num < f.num → g.last = false) ∧ (∀ g ∈ xs, f.num < g.num → f.last = false) ∧ f.num ≤ 31 := by
  unfold addE at h
  split at h
  · rename_i h1; exact absurd h h1
  rename_i h1
  split at h
  · cases h
  rename_i h2
  split at h
  · cases h
  rename_i h3
  split at h
  · cases h
  rename_i h4
  split at h
  · cases h
  rename_i h5
  split at h
  · cases h
  rename_i h6
  have hh : HeardP xs := heardP_of (by simpa using h2)
  refine ⟨by omega, hh, fun g hg => ?_, fun g hg he => h4 ?_, fun g hg hlt => ?_, fun g hg hlt => ?_, by omega⟩
  · obtain ⟨t, ht, rfl⟩ := mem_getD xs g hg
    have h0 : 0 < xs.length := by omega
    have hb := heard_at (by simpa using h2) ht
    unfold okAt at hb
    simp only [Bool.and_eq_true, decide_eq_true_eq] at hb
    rw [hb.2.1]
    exact Classical.byContradiction fun hne => h3 ⟨h0, hne⟩
  · exact List.any_eq_true.2 ⟨g, hg, by simpa using he⟩
  · cases hl : g.last
    · rfl
    · exfalso
      refine h5 (List.any_eq_true.2 ⟨g, hg, ?_⟩)
      rw [hl, decide_eq_true hlt]; rfl
  · cases hl : f.last
    · rfl
    · exfalso
      refine h5 (List.any_eq_true.2 ⟨g, hg, ?_⟩)
      rw [hl, decide_eq_true hlt]; simp
/-- where a number belongs in frames told in order -/
theorem posN_app {l1 l2 : List Frm} {m : Int} (h1 : ∀ g ∈ l1, ¬ m < g.num) (h2 : ∀ g ∈ l2, m < g.num) : posN (l1 ++ l2) m = l1.length := by
  unfold posN
  induction l1 with
  | nil =>
    cases l2 with
    | nil => rfl
    | cons g l2 =>
      rw [List.nil_append, List.findIdx_cons, decide_eq_true (h2 g (by simp))]
      rfl
  | cons g l1 ih =>
    rw [List.cons_append, List.findIdx_cons, decide_eq_false (h1 g (by simp)), ih fun g hg => h1 g (by simp [hg])]
    rfl
theorem addL_app {l1 l2 : List Frm} {f : Frm} (h1 : ∀ g ∈ l1, ¬ f.num < g.num) (h2 : ∀ g ∈ l2, f.num < g.num) (hE : addE (l1 ++ l2) f = 0) : addL (l1 ++ l2) f = l1 ++ f :: l2 := by
  unfold addL
  rw [if_pos hE, posN_app h1 h2, List.take_left, List.drop_left]
/-- heard frames, parted at a number -/
theorem heard_part {xs : List Frm} (h : HeardP xs) (m : Int) (hno : ∀ g ∈ xs, g.num ≠ m) : (∀ g ∈ xs.take (posN xs m), g.num < m) ∧ (∀ g ∈ xs.drop (posN xs m), m < g.num) := by
  have hp := List.pairwise_iff_getElem.1 h.pw
  constructor
  · intro g hg
    obtain ⟨i, hi, rfl⟩ := List.mem_iff_getElem.1 hg
    rw [List.length_take] at hi
    rw [List.getElem_take]
    have := List.not_of_lt_findIdx (p := fun g : Frm => decide (m < g.num)) (xs := xs) (show i < xs.findIdx _ by unfold posN at hi; omega)
    have h2 := hno xs[i] (List.getElem_mem _)
    simp only [decide_eq_false_iff_not] at this
    omega
  · intro g hg
    obtain ⟨i, hi, rfl⟩ := List.mem_iff_getElem.1 hg
    rw [List.length_drop] at hi
    rw [List.getElem_drop]
    have hlt : posN xs m < xs.length := by omega
    have h0 := List.findIdx_getElem (p := fun g : Frm => decide (m < g.num)) (xs := xs) (w := hlt)
    have h1 : m < (xs[posN xs m]).num := of_decide_eq_true h0
    by_cases hi0 : i = 0
    · subst hi0; simpa using h1
    · have := (hp (posN xs m) (posN xs m + i) hlt (by omega) (by omega)).1
      omega
/-- what Add adds is heard again -/
theorem addL_heard {xs : List Frm} {f : Frm} (h : addE xs f = 0) : HeardP (addL xs f) := by
  obtain ⟨hc, hh, hid, hno, hl1, hl2, _⟩ := addE_ok h
  obtain ⟨p1, p2⟩ := heard_part hh f.num hno
  unfold addL
  rw [if_pos h]
  have hx : xs.take (posN xs f.num) ++ xs.drop (posN xs f.num) = xs := List.take_append_drop _ _
  generalize xs.take (posN xs f.num) = l1 at *
  generalize xs.drop (posN xs f.num) = l2 at *
  subst hx
  refine ⟨?_, fun g hg => ?_⟩
  · have := List.pairwise_append.1 hh.pw
    refine List.pairwise_append.2 ⟨this.1, List.pairwise_cons.2 ⟨fun g hg => ⟨p2 g hg, hl2 g (by simp [hg]) (p2 g hg), (hid g (by simp [hg])).symm⟩, this.2.1⟩, fun a ha b hb => ?_⟩
    rcases List.mem_cons.1 hb with rfl | hb
    · exact ⟨p1 a ha, hl1 a (by simp [ha]) (p1 a ha), hid a (by simp [ha])⟩
    · exact this.2.2 a ha b hb
  · rw [List.mem_append, List.mem_cons] at hg
    rcases hg with hg | rfl | hg
    · exact hh.ok g (by simp [hg])
    · exact hc
    · exact hh.ok g (by simp [hg])
theorem addL_mem {xs : List Frm} {f : Frm} (h : addE xs f = 0) : f ∈ addL xs f := by unfold addL; rw [if_pos h]; simp
theorem HeardP.id_eq {xs : List Frm} (h : HeardP xs) {a b : Frm} (ha : a ∈ xs) (hb : b ∈ xs) : a.id = b.id := by
  obtain ⟨i, hi, rfl⟩ := List.mem_iff_getElem.1 ha
  obtain ⟨j, hj, rfl⟩ := List.mem_iff_getElem.1 hb
  have hp := List.pairwise_iff_getElem.1 h.pw
  rcases Nat.lt_trichotomy i j with h1 | rfl | h1
  · exact (hp i j hi hj h1).2.2
  · rfl
  · exact ((hp j i hj hi h1).2.2).symm
theorem HeardP.num_eq {xs : List Frm} (h : HeardP xs) {a b : Frm} (ha : a ∈ xs) (hb : b ∈ xs) (hab : a.num = b.num) : a = b := by
  obtain ⟨i, hi, rfl⟩ := List.mem_iff_getElem.1 ha
  obtain ⟨j, hj, rfl⟩ := List.mem_iff_getElem.1 hb
  have hp := List.pairwise_iff_getElem.1 h.pw
  rcases Nat.lt_trichotomy i j with h1 | rfl | h1
  · have := (hp i j hi hj h1).1; omega
  · rfl
  · have := (hp j i hj hi h1).1; omega
theorem HeardP.lt_last {xs : List Frm} (h : HeardP xs) {a b : Frm} (ha : a ∈ xs) (hb : b ∈ xs) (hab : a.num < b.num) : a.last = false := by
  obtain ⟨i, hi, rfl⟩ := List.mem_iff_getElem.1 ha
  obtain ⟨j, hj, rfl⟩ := List.mem_iff_getElem.1 hb
  have hp := List.pairwise_iff_getElem.1 h.pw
  rcases Nat.lt_trichotomy i j with h1 | rfl | h1
  · exact (hp i j hi hj h1).2.1
  · omega
  · have := (hp j i hj hi h1).1; omega
/-- a frame of a row once more -/
theorem addE_twice {xs : List Frm} {f : Frm} (h : HeardP xs) (hf : f ∈ xs) : addE xs f = 13 := by
  have hl : 0 < xs.length := List.length_pos_of_mem hf
  unfold addE
  rw [if_neg (by rw [h.ok f hf]; simp), if_neg (by rw [heard_of h]; simp), if_neg (fun e => e.2 (h.id_eq (getD_mem xs 0 hl) hf)), if_pos (show twiceF xs f.num = true from List.any_eq_true.2 ⟨f, hf, by simp⟩)]
/-- a frame of a heard row that holds this one, not in this one yet -/
theorem addE_new {xs l : List Frm} {f : Frm} (h : HeardP l) (hs : xs.Sublist l) (hf : f ∈ l) (hno : f ∉ xs) (h31 : f.num ≤ 31) : addE xs f = 0 := by
  have hx := h.sub hs
  unfold addE
  rw [if_neg (by rw [h.ok f hf]; simp), if_neg (by rw [heard_of hx]; simp), if_neg (fun e => e.2 (h.id_eq (hs.subset (getD_mem xs 0 e.1)) hf)), if_neg, if_neg, if_neg (by omega)]
  · unfold orderF
    rw [List.any_eq_true]
    rintro ⟨g, hg, he⟩
    have hgl := hs.subset hg
    simp only [Bool.or_eq_true, Bool.and_eq_true, decide_eq_true_eq] at he
    rcases he with ⟨h1, h2⟩ | ⟨h1, h2⟩
    · rw [h.lt_last hgl hf h2] at h1; cases h1
    · rw [h.lt_last hf hgl h2] at h1; cases h1
  · unfold twiceF
    rw [List.any_eq_true]
    rintro ⟨g, hg, he⟩
    simp only [decide_eq_true_eq] at he
    exact hno (by rw [← h.num_eq (hs.subset hg) hf he]; exact hg)
/-- what Keeps looks at -/
theorem keeps_at {xs : List Frm} {f : Frm} (h : addE xs f = 0) : ∃ p, p ≤ xs.length ∧ (addL xs f).length = xs.length + 1 ∧ (addL xs f).getD p Frm.none_ = f ∧ (∀ i, i < p → (addL xs f).getD i Frm.none_ = xs.getD i Frm.none_ ∧ xs.getD i Frm.none_ ≠ f) ∧ (∀ i, p < i → i ≤ xs.length → (addL xs f).getD i Frm.none_ = xs.getD (i - 1) Frm.none_ ∧ xs.getD (i - 1) Frm.none_ ≠ f) := by
  obtain ⟨_, _, _, hno, _⟩ := addE_ok h
  have hne : ∀ i, i < xs.length → xs.getD i Frm.none_ ≠ f := fun i hi e => hno _ (getD_mem xs i hi) (by rw [e])
  have hp : posN xs f.num ≤ xs.length := pos_le xs f.num
  unfold addL
  rw [if_pos h]
  generalize posN xs f.num = p at *
  have ht : (xs.take p).length = p := by rw [List.length_take]; omega
  refine ⟨p, hp, ?_, ?_, fun i hi => ⟨?_, hne i (by omega)⟩, fun i hi hi2 => ⟨?_, hne (i - 1) (by omega)⟩⟩
  · rw [List.length_append, List.length_cons, ht, List.length_drop]; omega
  · rw [List.getD_eq_getElem?_getD, List.getElem?_append_right (by omega), ht, Nat.sub_self]; rfl
  · rw [List.getD_eq_getElem?_getD, List.getElem?_append_left (by omega), List.getElem?_take, if_pos hi, List.getD_eq_getElem?_getD]
  · rw [List.getD_eq_getElem?_getD, List.getElem?_append_right (by omega), ht, List.getD_eq_getElem?_getD]
    obtain ⟨j, rfl⟩ : ∃ j, i = p + 1 + j := ⟨i - (p + 1), by omega⟩
    rw [show p + 1 + j - p = j + 1 by omega, List.getElem?_cons_succ, List.getElem?_drop, show p + 1 + j - 1 = p + j by omega]
end Go.Proofs.Ytdkijdedfpfbnaa
