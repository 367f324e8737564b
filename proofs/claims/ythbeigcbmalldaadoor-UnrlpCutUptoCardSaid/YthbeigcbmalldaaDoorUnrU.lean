/- What is read at a place hangs on its own bytes alone: plain laws. -/
import Derived.Test.YthbeigcbmalldaaDoorUnrS0
import Derived.Test.YthbeigcbmalldaaDoorTSame
namespace Go.Proofs.YthbeigcbmalldaaDoor
open Go.RowKit Go.Shelf
set_option linter.unusedVariables false
set_option linter.unusedSimpArgs false

def Agree (l : List UInt8) (a : Nat) (l' : List UInt8) (a' n : Nat) : Prop := ∀ j, j < n → l'[a' + j]? = l[a + j]?
theorem Agree.take {l l' : List UInt8} {a a' n : Nat} (h : Agree l a l' a' n) {m1 m2 : Nat} (hm : m1 + m2 ≤ n) : (l'.drop (a' + m1)).take m2 = (l.drop (a + m1)).take m2 := by
  apply List.ext_getElem?
  intro i
  rw [List.getElem?_take, List.getElem?_take]
  split
  · rw [List.getElem?_drop, List.getElem?_drop]
    have := h (m1 + i) (by omega)
    rw [← Nat.add_assoc, ← Nat.add_assoc] at this
    exact this
  · rfl
theorem Agree.head {l l' : List UInt8} {a a' n : Nat} (h : Agree l a l' a' n) {m : Nat} (hm : m < n) : headC l' (a' + m) = headC l (a + m) := by
  unfold headC
  rw [List.getD_eq_getElem?_getD, List.getD_eq_getElem?_getD, h m hm]
theorem Agree.size {l l' : List UInt8} {a a' n : Nat} (h : Agree l a l' a' n) (h0 : 0 < n) (hn : a + n ≤ l.length) : a' + n ≤ l'.length := by
  have := h (n - 1) (by omega)
  rw [List.getElem?_eq_getElem (l := l) (by omega)] at this
  have := (List.getElem?_eq_some_iff.1 this).1
  omega
theorem look_shift {l l' : List UInt8} {a a' : Nat} (h : lookE l (a : Int) = 0) (hag : Agree l a l' a' (lookFrom l (a : Int) + lookN l (a : Int) - a)) :
    lookE l' (a' : Int) = 0 ∧ lookFrom l' (a' : Int) = a' + (lookFrom l (a : Int) - a) ∧ lookN l' (a' : Int) = lookN l (a : Int) ∧ lookL l' (a' : Int) = lookL l (a : Int) := by
  obtain ⟨b0, b1, b2, b3, b4, b5⟩ := look_ok h
  have e1 : lookFrom l (a : Int) = rawFrom l a := by unfold lookFrom; rw [if_pos h, Int.toNat_natCast]
  have e2 : lookN l (a : Int) = rawN l a := by unfold lookN; rw [if_pos h, Int.toNat_natCast]
  rw [e1, e2] at hag b1 b3
  rw [e1] at b2
  have hsz := hag.size (by omega) (by omega)
  have hc : headC l' a' = headC l a := hag.head (m := 0) (by omega)
  have hl : lookE l (a : Int) = 0 := h
  unfold lookE at h
  split at h
  · cases h
  split at h
  · cases h
  rw [Int.toNat_natCast] at h
  split at h
  · rename_i g; exact absurd h g
  rename_i g3
  split at h
  · cases h
  rename_i g4
  split at h
  · cases h
  rename_i g5
  have g3 : rawE l a = 0 := by simpa using g3
  have key : rawE l' a' = 0 ∧ rawFrom l' a' = a' + (rawFrom l a - a) ∧ rawN l' a' = rawN l a := by
    unfold rawE rawFrom rawN at *
    rw [hc]
    split
    · rename_i c1; simp only [if_pos c1] at *; exact ⟨trivial, by omega, trivial⟩
    · rename_i c1
      simp only [if_neg c1] at *
      split
      · rename_i c2; simp only [if_pos c2] at *; exact ⟨trivial, by omega, trivial⟩
      · rename_i c2
        simp only [if_neg c2] at *
        generalize hm : (headC l a - 128) % 64 - 55 = m at *
        have hlB : lenB l' a' m = lenB l a m := by
          unfold lenB
          rw [hag.take (m1 := 1) (m2 := m) (by omega)]
        have hb : headC l' (a' + 1) = headC l (a + 1) := hag.head (m := 1) (by omega)
        unfold headC at hb
        refine ⟨?_, by omega, hlB⟩
        unfold lengthE at g3 ⊢
        rw [hlB, hb]
        split at g3
        · cases g3
        rename_i q1
        split at g3
        · cases g3
        rename_i q2
        split at g3
        · cases g3
        rename_i q3
        rw [if_neg q1, if_neg (by omega), if_neg q3]
  obtain ⟨k1, k2, k3⟩ := key
  have hE : lookE l' (a' : Int) = 0 := by
    unfold lookE
    rw [if_neg (by omega), if_neg (by omega), Int.toNat_natCast, if_neg (by rw [k1]; simp), if_neg (by omega), if_neg]
    rintro ⟨q1, q2⟩
    rw [hc] at q1
    have hb : headC l' (a' + 1) = headC l (a + 1) := hag.head (m := 1) (by
      unfold rawFrom rawN
      rw [q1]; simp; omega)
    exact g5 ⟨q1, by rw [← hb]; exact q2⟩
  refine ⟨hE, ?_, ?_, ?_⟩
  · unfold lookFrom; rw [if_pos hE, if_pos hl, Int.toNat_natCast, Int.toNat_natCast]; exact k2
  · unfold lookN; rw [if_pos hE, if_pos hl, Int.toNat_natCast, Int.toNat_natCast]; exact k3
  · unfold lookL; rw [if_pos hE, if_pos hl, Int.toNat_natCast, Int.toNat_natCast, hc]

/-- items, moved -/
theorem items_shift {rd rd' : Nat → Except Int (Itm × Nat)} {en d d' : Nat} (hd : d ≤ en)
    (hrd : ∀ p x q, d ≤ p → p < en → rd p = .ok (x, q) → d ≤ q ∧ rd' (p - d + d') = .ok (x, q - d + d')) (f : Nat) : ∀ (i p : Nat) (xs : List Itm), d ≤ p → itemsF rd en f i p = .ok xs → itemsF rd' (en - d + d') f i (p - d + d') = .ok xs := by
  induction f with
  | zero => intro i p xs _ h; cases h
  | succ f ih =>
    intro i p xs hp h
    unfold itemsF at h ⊢
    by_cases h1 : p < en
    · rw [if_pos h1] at h
      rw [if_pos (by omega)]
      by_cases h2 : 512 ≤ i
      · rw [if_pos h2] at h; cases h
      · rw [if_neg h2] at h ⊢
        split at h
        · cases h
        · rename_i x q hx
          obtain ⟨hq, hx'⟩ := hrd p x q hp h1 hx
          rw [hx']
          split at h
          · cases h
          · rename_i ys hys
            have := ih (i + 1) q ys hq hys
            show (match itemsF rd' (en - d + d') f (i + 1) (q - d + d') with | .error e => _ | .ok ys => _) = _
            rw [this]
            exact h
    · rw [if_neg h1] at h
      rw [if_neg (by omega)]
      exact h

theorem item_shift : ∀ (k k' : Nat), k ≤ k' → ∀ {l l' : List UInt8} {a a' q : Nat} {x : Itm}, itemF k l a = .ok (x, q) → Agree l a l' a' (q - a) → itemF k' l' a' = .ok (x, q - a + a') := by
  intro k
  induction k with
  | zero =>
    intro k' hk l l' a a' q x h hag
    obtain ⟨h1, h2, h3⟩ := item_ok h
    subst h3
    obtain ⟨b0, b1, b2, b3, b4, b5⟩ := look_ok h1
    obtain ⟨s1, s2, s3, s4⟩ := look_shift h1 hag
    have h : itemG none l a = _ := h
    unfold itemG at h
    rw [if_neg (by rintro hh; rw [if_pos hh] at h; cases h), if_neg (by simpa using h1)] at h
    split at h
    · rename_i hl
      injection h with h; injection h with h _
      rw [item_bytes (by rintro ⟨_, g, _⟩; rw [hl] at s4; rw [(look_ok s1).2.2.2.2.2] at s4; simp at s4; omega) s1 (by rw [s4, hl]), s2, s3, ← h]
      have := hag.take (m1 := lookFrom l (a : Int) - a) (m2 := lookN l (a : Int)) (by omega)
      rw [show a + (lookFrom l (a : Int) - a) = lookFrom l (a : Int) by omega] at this
      rw [this, show a' + (lookFrom l (a : Int) - a) + lookN l (a : Int) = lookFrom l (a : Int) + lookN l (a : Int) - a + a' by omega]
    · cases h
  | succ k ih =>
    intro k' hk l l' a a' q x h hag
    obtain ⟨k', rfl⟩ : ∃ j, k' = j + 1 := ⟨k' - 1, by omega⟩
    obtain ⟨h1, h2, h3⟩ := item_ok h
    subst h3
    obtain ⟨b0, b1, b2, b3, b4, b5⟩ := look_ok h1
    obtain ⟨s1, s2, s3, s4⟩ := look_shift h1 hag
    have hsz := hag.size (by omega) (by omega)
    cases hl : lookL l (a : Int) with
    | false =>
      rw [item_bytes (by rintro ⟨_, _, g⟩; cases g) h1 hl] at h
      injection h with h; injection h with h _
      rw [item_bytes (by rintro ⟨_, _, g⟩; cases g) s1 (by rw [s4, hl]), s2, s3, ← h]
      have := hag.take (m1 := lookFrom l (a : Int) - a) (m2 := lookN l (a : Int)) (by omega)
      rw [show a + (lookFrom l (a : Int) - a) = lookFrom l (a : Int) by omega] at this
      rw [this, show a' + (lookFrom l (a : Int) - a) + lookN l (a : Int) = lookFrom l (a : Int) + lookN l (a : Int) - a + a' by omega]
    | true =>
      rw [item_list h1 hl] at h
      rw [item_list s1 (by rw [s4, hl]), s2, s3]
      generalize lookFrom l (a : Int) = F at *
      generalize lookN l (a : Int) = N at *
      have e1 : a' + (F - a) + N = F + N - a + a' := by omega
      have e2 : a' + (F - a) = F - a + a' := by omega
      rw [e1, e2]
      split at h
      · cases h
      · rename_i xs hxs
        injection h with h; injection h with h _
        have := items_shift (rd := itemF k (l.take (F + N))) (rd' := itemF k' (l'.take (F + N - a + a'))) (en := F + N) (d := a) (d' := a') (by omega) (fun p y q hp hpe hy => by
          obtain ⟨g1, g2, g3⟩ := item_ok hy
          obtain ⟨c0, c1, c2, c3, _, _⟩ := look_ok g1
          rw [← g3] at c1 c3
          rw [List.length_take] at c1
          refine ⟨by omega, ?_⟩
          rw [ih k' (by omega) hy (l' := l'.take (F + N - a + a')) (a' := p - a + a') (fun j hj => ?_), show q - p + (p - a + a') = q - a + a' by omega]
          rw [List.getElem?_take_of_lt (by omega), List.getElem?_take_of_lt (by omega)]
          have := hag (p - a + j) (by omega)
          rw [show a' + (p - a + j) = p - a + a' + j by omega, show a + (p - a + j) = p + j by omega] at this
          exact this) 513 0 F xs b2 hxs
        rw [this, ← h]

/-- the item's own bytes, decoded -/
theorem decode_part {l : List UInt8} {p q : Nat} {x : Itm} (hl : l.length ≤ 65536) (h : itemF 11 l p = .ok (x, q)) : decodeF ((l.drop p).take (q - p)) = .ok x := by
  obtain ⟨h1, h2, h3⟩ := item_ok h
  obtain ⟨b0, b1, b2, b3, b4, b5⟩ := look_ok h1
  rw [← h3] at b1 b3
  have hz : ((l.drop p).take (q - p)).length = q - p := by rw [List.length_take, List.length_drop]; omega
  unfold decodeF
  rw [if_neg (by rw [hz]; omega), item_shift 11 12 (by omega) h (l' := (l.drop p).take (q - p)) (a' := 0) (fun j hj => by rw [Nat.zero_add, List.getElem?_take_of_lt hj, List.getElem?_drop])]
  show (if q - p + 0 < _ then _ else _) = _
  rw [if_neg (by rw [hz]; omega)]

/-- the items of a list, one behind the other -/
theorem items_next {rd : Nat → Except Int (Itm × Nat)} {en f i p : Nat} {x : Itm} {xs : List Itm} (h : itemsF rd en f i p = .ok (x :: xs)) : p < en ∧ ∃ q, rd p = .ok (x, q) ∧ itemsF rd en (f - 1) (i + 1) q = .ok xs := by
  cases f with
  | zero => cases h
  | succ f =>
    unfold itemsF at h
    by_cases h1 : p < en
    · rw [if_pos h1] at h
      by_cases h2 : 512 ≤ i
      · rw [if_pos h2] at h; cases h
      · rw [if_neg h2] at h
        split at h
        · cases h
        · rename_i y q hy
          split at h
          · cases h
          · rename_i ys hys
            injection h with h; injection h with h3 h4
            subst h3; subst h4
            exact ⟨h1, q, hy, hys⟩
    · rw [if_neg h1] at h; injection h with h; cases h
theorem items_last {rd : Nat → Except Int (Itm × Nat)} {en f i p : Nat} (h : itemsF rd en f i p = .ok []) : ¬ p < en := by
  cases f with
  | zero => cases h
  | succ f =>
    unfold itemsF at h
    intro h1
    rw [if_pos h1] at h
    by_cases h2 : 512 ≤ i
    · rw [if_pos h2] at h; cases h
    · rw [if_neg h2] at h
      split at h
      · cases h
      · split at h
        · cases h
        · injection h with h; cases h
theorem items_len {rd : Nat → Except Int (Itm × Nat)} {en : Nat} (f : Nat) : ∀ {i p : Nat} {xs : List Itm}, itemsF rd en f i p = .ok xs → xs.length ≤ f := by
  induction f with
  | zero => intro i p xs h; cases h
  | succ f ih =>
    intro i p xs h
    cases xs with
    | nil => simp
    | cons x xs =>
      obtain ⟨_, q, _, h2⟩ := items_next h
      have := ih h2
      simp only [List.length_cons]
      omega
/-- what a list is made of -/
theorem decode_list {l : List UInt8} {x : Itm} (h : decodeF l = .ok x) (hx : x.list = true) : l.length ≤ 65536 ∧ lookE l 0 = 0 ∧ lookL l 0 = true ∧ lookFrom l 0 + lookN l 0 = l.length ∧ itemsF (itemF 11 l) l.length 513 0 (lookFrom l 0) = .ok x.items := by
  obtain ⟨h1, h2, h3⟩ := decode_head h
  rw [hx] at h2
  unfold decodeF at h
  split at h
  · cases h
  rename_i hl
  split at h
  · cases h
  · rename_i y q hi
    split at h
    · cases h
    · injection h with h; subst h
      rw [item_list (l := l) (a := 0) (by simpa using h1) (by simpa using h2.symm)] at hi
      simp only [Int.ofNat_zero, h3, List.take_length] at hi
      split at hi
      · cases hi
      · rename_i xs hxs
        injection hi with hi; injection hi with hi _
        subst hi
        exact ⟨by omega, h1, h2.symm, h3, hxs⟩

/-- what is read may be compared -/
theorem items_okF {rd : Nat → Except Int (Itm × Nat)} {en : Nat} (hrd : ∀ p x q, rd p = .ok (x, q) → x.Ok) (f : Nat) : ∀ {i p : Nat} {xs : List Itm}, itemsF rd en f i p = .ok xs → ∀ j, j < xs.length → (xs.getD j Itm.none_).Ok := by
  induction f with
  | zero => intro i p xs h; cases h
  | succ f ih =>
    intro i p xs h j hj
    cases xs with
    | nil => cases hj
    | cons x xs =>
      obtain ⟨_, q, h1, h2⟩ := items_next h
      cases j with
      | zero => exact hrd p x q h1
      | succ j => exact ih h2 j (by simpa using hj)
theorem itemF_okF : ∀ (k : Nat) {l : List UInt8} {a q : Nat} {x : Itm}, l.length ≤ 65536 → itemF k l a = .ok (x, q) → x.Ok := by
  intro k
  induction k with
  | zero =>
    intro l a q x hl h
    obtain ⟨h1, h2, h3⟩ := item_ok h
    have h : itemG none l a = _ := h
    unfold itemG at h
    rw [if_neg (by rintro hh; rw [if_pos hh] at h; cases h), if_neg (by simpa using h1)] at h
    split at h
    · injection h with h; injection h with h _
      rw [← h]
      refine .mk _ _ _ ?_ (by simp) (fun i hi => by cases hi)
      show ((l.drop _).take _).toArray.size ≤ _
      simp; omega
    · cases h
  | succ k ih =>
    intro l a q x hl h
    obtain ⟨h1, h2, h3⟩ := item_ok h
    cases hL : lookL l (a : Int) with
    | false =>
      rw [item_bytes (by rintro ⟨_, _, g⟩; cases g) h1 hL] at h
      injection h with h; injection h with h _
      rw [← h]
      refine .mk _ _ _ ?_ (by simp) (fun i hi => by cases hi)
      show ((l.drop _).take _).toArray.size ≤ _
      simp; omega
    | true =>
      rw [item_list h1 hL] at h
      split at h
      · cases h
      · rename_i xs hxs
        injection h with h; injection h with h _
        rw [← h]
        have := items_len _ hxs
        exact .mk _ _ _ (by simp) (by omega) (items_okF (fun p y q hy => ih (by rw [List.length_take]; omega) hy) _ hxs)
theorem decode_okF {l : List UInt8} {x : Itm} (h : decodeF l = .ok x) : x.Ok := by
  unfold decodeF at h
  split at h
  · cases h
  rename_i hl
  split at h
  · cases h
  · rename_i y q hi
    split at h
    · cases h
    · injection h with h; subst h
      exact itemF_okF 12 (by omega) hi
end Go.Proofs.YthbeigcbmalldaaDoor
