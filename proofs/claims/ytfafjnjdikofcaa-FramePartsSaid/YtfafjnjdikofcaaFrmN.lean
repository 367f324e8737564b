/- Frames: what is put is got; what is got is put; what is cut: plain law. -/
import Derived.Test.YtfafjnjdikofcaaFrmL
namespace Go.Proofs.Ytfafjnjdikofcaa

def cutAt : List Frm → Nat
  | [] => 0
  | f :: r => (bytesF f).length + cutAt r
theorem flat_len (xs : List Frm) : (xs.flatMap bytesF).length = cutAt xs := by
  induction xs with
  | nil => rfl
  | cons f r ih => rw [List.flatMap_cons, List.length_append, ih]; rfl
theorem firstBad_all (xs : List Frm) (h : firstBad xs = 0) : ∀ f ∈ xs, checkF f = 0 := by
  intro f hf
  unfold firstBad at h
  cases hx : xs.find? (fun f => checkF f != 0) with
  | some g =>
    rw [hx] at h
    have := List.find?_some hx
    simp [h] at this
  | none =>
    have := List.find?_eq_none.1 hx f hf
    simpa using this
theorem all_firstBad (xs : List Frm) (h : ∀ f ∈ xs, checkF f = 0) : firstBad xs = 0 := by
  unfold firstBad
  rw [List.find?_eq_none.2 (by intro f hf; simp [h f hf])]
theorem put_ok (xs : List Frm) (h : putE xs = 0) : (∀ f ∈ xs, checkF f = 0) ∧ 1 ≤ xs.length ∧ xs.length ≤ 32 ∧ putL xs = 0 :: xs.flatMap bytesF := by
  have hp : putL xs = 0 :: xs.flatMap bytesF := by unfold putL; rw [if_pos h]
  unfold putE at h
  split at h
  · cases h
  · split at h
    · cases h
    · exact ⟨firstBad_all xs h, by omega, by omega, hp⟩
theorem ok_put (xs : List Frm) (h : ∀ f ∈ xs, checkF f = 0) (h1 : 1 ≤ xs.length) (h2 : xs.length ≤ 32) : putE xs = 0 := by
  unfold putE
  rw [if_neg (by omega), if_neg (by omega), all_firstBad xs h]
theorem put_bad (xs : List Frm) (h : putE xs ≠ 0) : putL xs = [] := by unfold putL; rw [if_neg h]
theorem bytesF_pos (f : Frm) : 1 ≤ (bytesF f).length := by simp only [bytesF, List.length_append, List.length_singleton]; omega
theorem cutAt_le (xs : List Frm) (h : ∀ f ∈ xs, checkF f = 0) : xs.length ≤ cutAt xs ∧ cutAt xs ≤ 4119 * xs.length := by
  induction xs with
  | nil => exact ⟨Nat.le_refl _, Nat.le_refl _⟩
  | cons f r ih =>
    have h1 := ih fun g hg => h g (List.mem_cons_of_mem _ hg)
    have h2 := bytesF_len f (h f (by simp))
    have h3 := check_ok (h f (by simp))
    simp only [cutAt, List.length_cons]
    omega
theorem putL_len (xs : List Frm) : (putL xs).length ≤ 131809 := by
  by_cases h : putE xs = 0
  · obtain ⟨h1, _, h2, h3⟩ := put_ok xs h
    rw [h3, List.length_cons, flat_len]
    have := cutAt_le xs h1
    omega
  · rw [put_bad xs h]; simp

/-- frames, one behind the other, then something: they are told -/
theorem tells_more (r : List UInt8) : ∀ (xs : List Frm) (pre : List UInt8) (fu : Nat), (∀ f ∈ xs, checkF f = 0) → cutAt xs ≤ fu →
    tellsL (pre ++ xs.flatMap bytesF ++ r) fu pre.length = xs.map (fun f => (f, 0)) ++ tellsL (pre ++ xs.flatMap bytesF ++ r) (fu - xs.length) (pre.length + cutAt xs)
  | [], pre, fu, _, _ => by simp [cutAt]
  | f :: xs, pre, fu, h, hf => by
    have hb := bytesF_pos f
    have hc : cutAt (f :: xs) = (bytesF f).length + cutAt xs := rfl
    have hcl := (cutAt_le xs fun g hg => h g (List.mem_cons_of_mem _ hg)).1
    obtain ⟨fu, rfl⟩ : ∃ q, fu = q + 1 := ⟨fu - 1, by omega⟩
    have e1 : pre ++ (f :: xs).flatMap bytesF ++ r = pre ++ (bytesF f ++ (xs.flatMap bytesF ++ r)) := by simp
    have e2 : pre ++ (f :: xs).flatMap bytesF ++ r = (pre ++ bytesF f) ++ xs.flatMap bytesF ++ r := by simp
    have hd : (pre ++ (f :: xs).flatMap bytesF ++ r).drop pre.length = bytesF f ++ (xs.flatMap bytesF ++ r) := by rw [e1, List.drop_left]
    have hn := nextT_back f (xs.flatMap bytesF ++ r) (h f (by simp))
    rw [tellsL, if_pos (by rw [e1]; simp; omega), hd, hn]
    simp only [if_true]
    have ih := tells_more r xs (pre ++ bytesF f) fu (fun g hg => h g (List.mem_cons_of_mem _ hg)) (by omega)
    rw [List.length_append, ← e2] at ih
    rw [ih, List.map_cons, List.cons_append, hc, Nat.add_assoc, List.length_cons, show fu + 1 - (xs.length + 1) = fu - xs.length by omega]
theorem tells_end (l : List UInt8) (fu a : Nat) (h : l.length ≤ a) : tellsL l fu a = [] := by
  cases fu with
  | zero => rfl
  | succ fu => rw [tellsL, if_neg (by omega)]
theorem gather_map (xs : List Frm) (h : xs.length ≤ 32) : gatherL (xs.map fun f => (f, 0)) [] = (xs, 0) := by
  have := gather_go [] (xs.map fun f => (f, (0 : Int))) [] (by intro p hp; obtain ⟨f, _, rfl⟩ := List.mem_map.1 hp; rfl) (by simpa using h)
  rw [List.append_nil] at this
  rw [this]
  simp [gatherL, Function.comp_def]
/-- the frames that bytes begin with, where they end with the bytes -/
theorem getS_some (xs : List Frm) (h : ∀ f ∈ xs, checkF f = 0) (h1 : 1 ≤ xs.length) (h2 : xs.length ≤ 32) : getS (0 :: xs.flatMap bytesF) = (xs, 0) := by
  have hc := cutAt_le xs h
  have hl : (0 :: xs.flatMap bytesF).length = 1 + cutAt xs := by rw [List.length_cons, flat_len]; omega
  unfold getS
  rw [if_neg (by simp), if_neg (by simp), if_neg (by omega), hl]
  have := tells_more [] xs [0] (1 + cutAt xs + 1) h (by omega)
  rw [List.append_nil] at this
  have e : ([0] ++ xs.flatMap bytesF : List UInt8) = 0 :: xs.flatMap bytesF := rfl
  rw [e, show ([0] : List UInt8).length = 1 from rfl] at this
  rw [this, tells_end _ _ _ (by omega), List.append_nil, gather_map xs h2]
theorem getS_put (xs : List Frm) (h : putE xs = 0) : getS (putL xs) = (xs, 0) := by
  obtain ⟨h1, h2, h3, h4⟩ := put_ok xs h
  rw [h4]
  exact getS_some xs h1 h2 h3

/-- an error goes with no frames -/
theorem gather_bad : ∀ (T : List (Frm × Int)) (acc : List Frm), (gatherL T acc).2 ≠ 0 → (gatherL T acc).1 = []
  | [], acc, h => absurd rfl h
  | p :: r, acc, h => by
    rw [gatherL] at h ⊢
    split
    · rfl
    · rename_i h1
      rw [if_neg h1] at h
      split
      · rfl
      · rename_i h2
        rw [if_neg h2] at h
        exact gather_bad r _ h
theorem getS_bad (l : List UInt8) (h : (getS l).2 ≠ 0) : (getS l).1 = [] := by
  unfold getS at h ⊢
  split
  · rfl
  · rename_i h1
    rw [if_neg h1] at h
    split
    · rfl
    · rename_i h2
      rw [if_neg h2] at h
      split
      · rfl
      · rename_i h3
        rw [if_neg h3] at h
        exact gather_bad _ _ h
theorem gather_only : ∀ (T : List (Frm × Int)) (acc : List Frm) (xs : List Frm), gatherL T acc = (xs, 0) → acc.length ≤ 32 → (∀ p ∈ T, p.2 = 0) ∧ xs = acc ++ T.map (·.1) ∧ xs.length ≤ 32
  | [], acc, xs, h, ha => by
    simp only [gatherL, Prod.mk.injEq, and_true] at h
    subst h
    simp [ha]
  | p :: r, acc, xs, h, ha => by
    rw [gatherL] at h
    split at h
    · simp at h
    · rename_i h1
      split at h
      · rename_i h2
        simp only [Prod.mk.injEq] at h
        exact absurd h.2 h2
      · rename_i h2
        have h2 : p.2 = 0 := Classical.not_not.1 h2
        obtain ⟨i1, i2, i3⟩ := gather_only r (acc ++ [p.1]) xs h (by simp; omega)
        refine ⟨?_, by rw [i2]; simp, i3⟩
        intro q hq
        rcases List.mem_cons.1 hq with rfl | hq
        · exact h2
        · exact i1 q hq
theorem tells_only (l : List UInt8) : ∀ (fu a : Nat), a ≤ l.length → l.length < fu + a → (∀ p ∈ tellsL l fu a, p.2 = 0) →
    l.drop a = ((tellsL l fu a).map (·.1)).flatMap bytesF ∧ ∀ f ∈ (tellsL l fu a).map (·.1), checkF f = 0
  | 0, a, h1, h2, _ => by omega
  | fu + 1, a, h1, h2, h => by
    rw [tellsL] at h ⊢
    split
    · rename_i hlt
      rw [if_pos hlt] at h
      obtain ⟨f, n, e, hR⟩ : ∃ f n e, nextT (l.drop a) = (f, n, e) := ⟨_, _, _, rfl⟩
      rw [hR] at h ⊢
      simp only at h ⊢
      split
      · rename_i he
        subst he
        rw [if_pos rfl] at h
        obtain ⟨k1, k2, k3, k4⟩ := nextT_only _ _ _ hR
        rw [List.length_drop] at k3
        have hb := bytesF_pos f
        obtain ⟨i1, i2⟩ := tells_only l fu (a + n) (by omega) (by omega) (fun p hp => h p (by simp [hp]))
        refine ⟨?_, ?_⟩
        · rw [List.map_cons, List.flatMap_cons, ← i1, ← k4, ← List.drop_drop]
          exact (List.take_append_drop n (l.drop a)).symm
        · intro g hg
          rcases List.mem_cons.1 hg with rfl | hg
          · exact k1
          · exact i2 g hg
      · rename_i he
        rw [if_neg he] at h
        exact absurd (h (f, e) (by simp)) he
    · rename_i hlt
      rw [List.drop_eq_nil_of_le (by omega)]
      simp
/-- what is got is put just so -/
theorem getS_only (l : List UInt8) (xs : List Frm) (h : getS l = (xs, 0)) : putE xs = 0 ∧ putL xs = l ∧ 1 ≤ xs.length ∧ xs.length ≤ 32 := by
  unfold getS at h
  split at h
  · simp at h
  · rename_i h1
    split at h
    · simp at h
    · rename_i h2
      split at h
      · simp at h
      · rename_i h3
        obtain ⟨c, r, rfl⟩ := List.exists_cons_of_ne_nil h1
        have hc : c = 0 := by simpa using h2
        subst hc
        obtain ⟨i1, i2, i3⟩ := gather_only _ _ _ h (by simp)
        obtain ⟨k1, k2⟩ := tells_only _ _ 1 (by simp) (by omega) i1
        rw [List.nil_append] at i2
        rw [← i2] at k1 k2
        have k1 : r = xs.flatMap bytesF := k1
        have hx : 1 ≤ xs.length := by
          rcases Nat.eq_zero_or_pos xs.length with h0 | h0
          · rw [List.eq_nil_of_length_eq_zero h0] at k1
            simp at k1
            exact absurd (by rw [k1]; rfl) h3
          · exact h0
        have hp := ok_put xs k2 hx i3
        refine ⟨hp, ?_, hx, i3⟩
        rw [(put_ok xs hp).2.2.2, k1]

/-- a part of a frame is none -/
theorem nextT_cut (f : Frm) (t r : List UInt8) (h : checkF f = 0) (he : t ++ r = bytesF f) (hr : r ≠ []) : (nextT t).2.2 = 3 := by
  have hb := nextT_back f [] h
  rw [List.append_nil, ← he] at hb
  have hl := bytesF_len f h
  have hd := check_ok h
  rw [← he, List.length_append] at hl
  have hr1 : 1 ≤ r.length := List.length_pos_iff.2 hr
  by_cases h22 : t.length < 22
  · unfold nextT; rw [if_pos h22]
  · have hz : ((t ++ r).drop 18).take 4 = (t.drop 18).take 4 := by
      rw [List.drop_append_of_le_length (by omega), List.take_append_of_le_length (by rw [List.length_drop]; omega)]
    have hv : valL ((t.drop 18).take 4) = f.data.size := by
      unfold nextT at hb
      rw [hz] at hb
      split at hb
      · simp at hb
      · split at hb
        · simp at hb
        · split at hb
          · simp at hb
          · split at hb
            · simp at hb
            · simp only [Prod.mk.injEq, List.length_append, and_true] at hb
              omega
    unfold nextT
    rw [if_neg h22, hv, if_neg (by omega), if_pos (by omega)]
/-- frames that are cut within one -/
theorem getS_cut (xs ys : List Frm) (f : Frm) (t r : List UInt8) (h : ∀ g ∈ xs ++ f :: ys, checkF g = 0) (hn : xs.length < 32) (he : t ++ r = bytesF f) (hr : r ≠ []) (ht : t ≠ []) :
    getS (0 :: (xs.flatMap bytesF ++ t)) = ([], 3) := by
  have hx : ∀ g ∈ xs, checkF g = 0 := fun g hg => h g (by simp [hg])
  have hf : checkF f = 0 := h f (by simp)
  have hc := cutAt_le xs hx
  have ht1 : 1 ≤ t.length := List.length_pos_iff.2 ht
  have hl : (0 :: (xs.flatMap bytesF ++ t)).length = 1 + cutAt xs + t.length := by rw [List.length_cons, List.length_append, flat_len]; omega
  unfold getS
  rw [if_neg (by simp), if_neg (by simp), if_neg (by omega), hl]
  have := tells_more t xs [0] (1 + cutAt xs + t.length + 1) hx (by omega)
  have e : ([0] ++ xs.flatMap bytesF ++ t : List UInt8) = 0 :: (xs.flatMap bytesF ++ t) := by simp
  rw [e, show ([0] : List UInt8).length = 1 from rfl] at this
  rw [this]
  have hd : (0 :: (xs.flatMap bytesF ++ t)).drop (1 + cutAt xs) = t := by
    rw [← flat_len, Nat.add_comm, List.drop_succ_cons, List.drop_left]
  have hcut := nextT_cut f t r hf he hr
  have htl : tellsL (0 :: (xs.flatMap bytesF ++ t)) (1 + cutAt xs + t.length + 1 - xs.length) (1 + cutAt xs) = [((nextT t).1, 3)] := by
    obtain ⟨q, hq⟩ : ∃ q, 1 + cutAt xs + t.length + 1 - xs.length = q + 1 := ⟨cutAt xs + t.length + 1 - xs.length, by omega⟩
    rw [hq, tellsL, if_pos (by omega), hd, hcut]
    rfl
  rw [htl, gather_go _ _ _ (by intro p hp; obtain ⟨f, _, rfl⟩ := List.mem_map.1 hp; rfl) (by simp; omega), gatherL, if_neg (by simp; omega), if_pos (by show (3 : Int) ≠ 0; decide)]
end Go.Proofs.Ytfafjnjdikofcaa
