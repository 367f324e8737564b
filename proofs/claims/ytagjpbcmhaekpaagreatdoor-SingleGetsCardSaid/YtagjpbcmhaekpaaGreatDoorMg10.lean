/- Merged: UnrU, UnlA0, UnlA, TxtR, OpenS, SngP. -/
import Derived.Test.YtagjpbcmhaekpaaGreatDoorMg9
import Derived.Deep.Strs
/- What is read at a place hangs on its own bytes alone: plain laws. -/
namespace Go.Proofs.YtagjpbcmhaekpaaGreatDoor
open Go.RowKit Go.Shelf
set_option linter.unusedVariables false
set_option linter.unusedSimpArgs false

def Agree (l : List UInt8) (a : Nat) (l' : List UInt8) (a' n : Nat) : Prop := ∀ j, j < n → l'[a' + j]? = l[a + j]?
theorem Agree.take {l l' : List UInt8} {a a' n : Nat} (h : Agree l a l' a' n) {m1 m2 : Nat} (hm : m1 + m2 ≤ n) : (l'.drop (a' + m1)).take m2 = (l.drop (a + m1)).take m2 := by
  apply List.ext_getElem?
  intro i
  rw [List.getElem?_take, List.getElem?_take]
  split
  · rw [List.getElem?_drop, List.getElem?_drop]
    have := h (m1 + i) (by omega)
    rw [← Nat.add_assoc, ← Nat.add_assoc] at this
    exact this
  · rfl
theorem Agree.head {l l' : List UInt8} {a a' n : Nat} (h : Agree l a l' a' n) {m : Nat} (hm : m < n) : headC l' (a' + m) = headC l (a + m) := by
  unfold headC
  rw [List.getD_eq_getElem?_getD, List.getD_eq_getElem?_getD, h m hm]
theorem Agree.size {l l' : List UInt8} {a a' n : Nat} (h : Agree l a l' a' n) (h0 : 0 < n) (hn : a + n ≤ l.length) : a' + n ≤ l'.length := by
  have := h (n - 1) (by omega)
  rw [List.getElem?_eq_getElem (l := l) (by omega)] at this
  have := (List.getElem?_eq_some_iff.1 this).1
  omega
theorem look_shift {l l' : List UInt8} {a a' : Nat} (h : lookE l (a : Int) = 0) (hag : Agree l a l' a' (lookFrom l (a : Int) + lookN l (a : Int) - a)) :
    lookE l' (a' : Int) = 0 ∧ lookFrom l' (a' : Int) = a' + (lookFrom l (a : Int) - a) ∧ lookN l' (a' : Int) = lookN l (a : Int) ∧ lookL l' (a' : Int) = lookL l (a : Int) := by
  obtain ⟨b0, b1, b2, b3, b4, b5⟩ := look_ok h
  have e1 : lookFrom l (a : Int) = rawFrom l a := by unfold lookFrom; rw [if_pos h, Int.toNat_natCast]
  have e2 : lookN l (a : Int) = rawN l a := by unfold lookN; rw [if_pos h, Int.toNat_natCast]
  rw [e1, e2] at hag b1 b3
  rw [e1] at b2
  have hsz := hag.size (by omega) (by omega)
  have hc : headC l' a' = headC l a := hag.head (m := 0) (by omega)
  have hl : lookE l (a : Int) = 0 := h
  unfold lookE at h
  split at h
  · cases h
  split at h
  · cases h
  rw [Int.toNat_natCast] at h
  split at h
  · rename_i g; exact absurd h g
  rename_i g3
  split at h
  · cases h
  rename_i g4
  split at h
  · cases h
  rename_i g5
  have g3 : rawE l a = 0 := by simpa using g3
  have key : rawE l' a' = 0 ∧ rawFrom l' a' = a' + (rawFrom l a - a) ∧ rawN l' a' = rawN l a := by
    unfold rawE rawFrom rawN at *
    rw [hc]
    split
    · rename_i c1; simp only [if_pos c1] at *; exact ⟨trivial, by omega, trivial⟩
    · rename_i c1
      simp only [if_neg c1] at *
      split
      · rename_i c2; simp only [if_pos c2] at *; exact ⟨trivial, by omega, trivial⟩
      · rename_i c2
        simp only [if_neg c2] at *
        generalize hm : (headC l a - 128) % 64 - 55 = m at *
        have hlB : lenB l' a' m = lenB l a m := by
          unfold lenB
          rw [hag.take (m1 := 1) (m2 := m) (by omega)]
        have hb : headC l' (a' + 1) = headC l (a + 1) := hag.head (m := 1) (by omega)
        unfold headC at hb
        refine ⟨?_, by omega, hlB⟩
        unfold lengthE at g3 ⊢
        rw [hlB, hb]
        split at g3
        · cases g3
        rename_i q1
        split at g3
        · cases g3
        rename_i q2
        split at g3
        · cases g3
        rename_i q3
        rw [if_neg q1, if_neg (by omega), if_neg q3]
  obtain ⟨k1, k2, k3⟩ := key
  have hE : lookE l' (a' : Int) = 0 := by
    unfold lookE
    rw [if_neg (by omega), if_neg (by omega), Int.toNat_natCast, if_neg (by rw [k1]; simp), if_neg (by omega), if_neg]
    rintro ⟨q1, q2⟩
    rw [hc] at q1
    have hb : headC l' (a' + 1) = headC l (a + 1) := hag.head (m := 1) (by
      unfold rawFrom rawN
      rw [q1]; simp; omega)
    exact g5 ⟨q1, by rw [← hb]; exact q2⟩
  refine ⟨hE, ?_, ?_, ?_⟩
  · unfold lookFrom; rw [if_pos hE, if_pos hl, Int.toNat_natCast, Int.toNat_natCast]; exact k2
  · unfold lookN; rw [if_pos hE, if_pos hl, Int.toNat_natCast, Int.toNat_natCast]; exact k3
  · unfold lookL; rw [if_pos hE, if_pos hl, Int.toNat_natCast, Int.toNat_natCast, hc]

/-- items, moved -/
theorem items_shift {rd rd' : Nat → Except Int (Itm × Nat)} {en d d' : Nat} (hd : d ≤ en)
    (hrd : ∀ p x q, d ≤ p → p < en → rd p = .ok (x, q) → d ≤ q ∧ rd' (p - d + d') = .ok (x, q - d + d')) (f : Nat) : ∀ (i p : Nat) (xs : List Itm), d ≤ p → itemsF rd en f i p = .ok xs → itemsF rd' (en - d + d') f i (p - d + d') = .ok xs := by
  induction f with
  | zero => intro i p xs _ h; cases h
  | succ f ih =>
    intro i p xs hp h
    unfold itemsF at h ⊢
    by_cases h1 : p < en
    · rw [if_pos h1] at h
      rw [if_pos (by omega)]
      by_cases h2 : 512 ≤ i
      · rw [if_pos h2] at h; cases h
      · rw [if_neg h2] at h ⊢
        split at h
        · cases h
        · rename_i x q hx
          obtain ⟨hq, hx'⟩ := hrd p x q hp h1 hx
          rw [hx']
          split at h
          · cases h
          · rename_i ys hys
            have := ih (i + 1) q ys hq hys
            show (match itemsF rd' (en - d + d') f (i + 1) (q - d + d') with | .error e => _ | .ok ys => _) = _
            rw [this]
            exact h
    · rw [if_neg h1] at h
      rw [if_neg (by omega)]
      exact h

theorem item_shift : ∀ (k k' : Nat), k ≤ k' → ∀ {l l' : List UInt8} {a a' q : Nat} {x : Itm}, itemF k l a = .ok (x, q) → Agree l a l' a' (q - a) → itemF k' l' a' = .ok (x, q - a + a') := by
  intro k
  induction k with
  | zero =>
    intro k' hk l l' a a' q x h hag
    obtain ⟨h1, h2, h3⟩ := item_ok h
    subst h3
    obtain ⟨b0, b1, b2, b3, b4, b5⟩ := look_ok h1
    obtain ⟨s1, s2, s3, s4⟩ := look_shift h1 hag
    have h : itemG none l a = _ := h
    unfold itemG at h
    rw [if_neg (by rintro hh; rw [if_pos hh] at h; cases h), if_neg (by simpa using h1)] at h
    split at h
    · rename_i hl
      injection h with h; injection h with h _
      rw [item_bytes (by rintro ⟨_, g, _⟩; rw [hl] at s4; rw [(look_ok s1).2.2.2.2.2] at s4; simp at s4; omega) s1 (by rw [s4, hl]), s2, s3, ← h]
      have := hag.take (m1 := lookFrom l (a : Int) - a) (m2 := lookN l (a : Int)) (by omega)
      rw [show a + (lookFrom l (a : Int) - a) = lookFrom l (a : Int) by omega] at this
      rw [this, show a' + (lookFrom l (a : Int) - a) + lookN l (a : Int) = lookFrom l (a : Int) + lookN l (a : Int) - a + a' by omega]
    · cases h
  | succ k ih =>
    intro k' hk l l' a a' q x h hag
    obtain ⟨k', rfl⟩ : ∃ j, k' = j + 1 := ⟨k' - 1, by omega⟩
    obtain ⟨h1, h2, h3⟩ := item_ok h
    subst h3
    obtain ⟨b0, b1, b2, b3, b4, b5⟩ := look_ok h1
    obtain ⟨s1, s2, s3, s4⟩ := look_shift h1 hag
    have hsz := hag.size (by omega) (by omega)
    cases hl : lookL l (a : Int) with
    | false =>
      rw [item_bytes (by rintro ⟨_, _, g⟩; cases g) h1 hl] at h
      injection h with h; injection h with h _
      rw [item_bytes (by rintro ⟨_, _, g⟩; cases g) s1 (by rw [s4, hl]), s2, s3, ← h]
      have := hag.take (m1 := lookFrom l (a : Int) - a) (m2 := lookN l (a : Int)) (by omega)
      rw [show a + (lookFrom l (a : Int) - a) = lookFrom l (a : Int) by omega] at this
      rw [this, show a' + (lookFrom l (a : Int) - a) + lookN l (a : Int) = lookFrom l (a : Int) + lookN l (a : Int) - a + a' by omega]
    | true =>
      rw [item_list h1 hl] at h
      rw [item_list s1 (by rw [s4, hl]), s2, s3]
      generalize lookFrom l (a : Int) = F at *
      generalize lookN l (a : Int) = N at *
      have e1 : a' + (F - a) + N = F + N - a + a' := by omega
      have e2 : a' + (F - a) = F - a + a' := by omega
      rw [e1, e2]
      split at h
      · cases h
      · rename_i xs hxs
        injection h with h; injection h with h _
        have := items_shift (rd := itemF k (l.take (F + N))) (rd' := itemF k' (l'.take (F + N - a + a'))) (en := F + N) (d := a) (d' := a') (by omega) (fun p y q hp hpe hy => by
          obtain ⟨g1, g2, g3⟩ := item_ok hy
          obtain ⟨c0, c1, c2, c3, _, _⟩ := look_ok g1
          rw [← g3] at c1 c3
          rw [List.length_take] at c1
          refine ⟨by omega, ?_⟩
          rw [ih k' (by omega) hy (l' := l'.take (F + N - a + a')) (a' := p - a + a') (fun j hj => ?_), show q - p + (p - a + a') = q - a + a' by omega]
          rw [List.getElem?_take_of_lt (by omega), List.getElem?_take_of_lt (by omega)]
          have := hag (p - a + j) (by omega)
          rw [show a' + (p - a + j) = p - a + a' + j by omega, show a + (p - a + j) = p + j by omega] at this
          exact this) 513 0 F xs b2 hxs
        rw [this, ← h]

/-- the item's own bytes, decoded -/
theorem decode_part {l : List UInt8} {p q : Nat} {x : Itm} (hl : l.length ≤ 65536) (h : itemF 11 l p = .ok (x, q)) : decodeF ((l.drop p).take (q - p)) = .ok x := by
  obtain ⟨h1, h2, h3⟩ := item_ok h
  obtain ⟨b0, b1, b2, b3, b4, b5⟩ := look_ok h1
  rw [← h3] at b1 b3
  have hz : ((l.drop p).take (q - p)).length = q - p := by rw [List.length_take, List.length_drop]; omega
  unfold decodeF
  rw [if_neg (by rw [hz]; omega), item_shift 11 12 (by omega) h (l' := (l.drop p).take (q - p)) (a' := 0) (fun j hj => by rw [Nat.zero_add, List.getElem?_take_of_lt hj, List.getElem?_drop])]
  show (if q - p + 0 < _ then _ else _) = _
  rw [if_neg (by rw [hz]; omega)]

/-- the items of a list, one behind the other -/
theorem items_next {rd : Nat → Except Int (Itm × Nat)} {en f i p : Nat} {x : Itm} {xs : List Itm} (h : itemsF rd en f i p = .ok (x :: xs)) : p < en ∧ ∃ q, rd p = .ok (x, q) ∧ itemsF rd en (f - 1) (i + 1) q = .ok xs := by
  cases f with
  | zero => cases h
  | succ f =>
    unfold itemsF at h
    by_cases h1 : p < en
    · rw [if_pos h1] at h
      by_cases h2 : 512 ≤ i
      · rw [if_pos h2] at h; cases h
      · rw [if_neg h2] at h
        split at h
        · cases h
        · rename_i y q hy
          split at h
          · cases h
          · rename_i ys hys
            injection h with h; injection h with h3 h4
            subst h3; subst h4
            exact ⟨h1, q, hy, hys⟩
    · rw [if_neg h1] at h; injection h with h; cases h
theorem items_last {rd : Nat → Except Int (Itm × Nat)} {en f i p : Nat} (h : itemsF rd en f i p = .ok []) : ¬ p < en := by
  cases f with
  | zero => cases h
  | succ f =>
    unfold itemsF at h
    intro h1
    rw [if_pos h1] at h
    by_cases h2 : 512 ≤ i
    · rw [if_pos h2] at h; cases h
    · rw [if_neg h2] at h
      split at h
      · cases h
      · split at h
        · cases h
        · injection h with h; cases h
theorem items_len {rd : Nat → Except Int (Itm × Nat)} {en : Nat} (f : Nat) : ∀ {i p : Nat} {xs : List Itm}, itemsF rd en f i p = .ok xs → xs.length ≤ f := by
  induction f with
  | zero => intro i p xs h; cases h
  | succ f ih =>
    intro i p xs h
    cases xs with
    | nil => simp
    | cons x xs =>
      obtain ⟨_, q, _, h2⟩ := items_next h
      have := ih h2
      simp only [List.length_cons]
      omega
/-- what a list is made of -/
theorem decode_list {l : List UInt8} {x : Itm} (h : decodeF l = .ok x) (hx : x.list = true) : l.length ≤ 65536 ∧ lookE l 0 = 0 ∧ lookL l 0 = true ∧ lookFrom l 0 + lookN l 0 = l.length ∧ itemsF (itemF 11 l) l.length 513 0 (lookFrom l 0) = .ok x.items := by
  obtain ⟨h1, h2, h3⟩ := decode_head h
  rw [hx] at h2
  unfold decodeF at h
  split at h
  · cases h
  rename_i hl
  split at h
  · cases h
  · rename_i y q hi
    split at h
    · cases h
    · injection h with h; subst h
      rw [item_list (l := l) (a := 0) (by simpa using h1) (by simpa using h2.symm)] at hi
      simp only [Int.ofNat_zero, h3, List.take_length] at hi
      split at hi
      · cases hi
      · rename_i xs hxs
        injection hi with hi; injection hi with hi _
        subst hi
        exact ⟨by omega, h1, h2.symm, h3, hxs⟩

/-- what is read may be compared -/
theorem items_okF {rd : Nat → Except Int (Itm × Nat)} {en : Nat} (hrd : ∀ p x q, rd p = .ok (x, q) → x.Ok) (f : Nat) : ∀ {i p : Nat} {xs : List Itm}, itemsF rd en f i p = .ok xs → ∀ j, j < xs.length → (xs.getD j Itm.none_).Ok := by
  induction f with
  | zero => intro i p xs h; cases h
  | succ f ih =>
    intro i p xs h j hj
    cases xs with
    | nil => cases hj
    | cons x xs =>
      obtain ⟨_, q, h1, h2⟩ := items_next h
      cases j with
      | zero => exact hrd p x q h1
      | succ j => exact ih h2 j (by simpa using hj)
theorem itemF_okF : ∀ (k : Nat) {l : List UInt8} {a q : Nat} {x : Itm}, l.length ≤ 65536 → itemF k l a = .ok (x, q) → x.Ok := by
  intro k
  induction k with
  | zero =>
    intro l a q x hl h
    obtain ⟨h1, h2, h3⟩ := item_ok h
    have h : itemG none l a = _ := h
    unfold itemG at h
    rw [if_neg (by rintro hh; rw [if_pos hh] at h; cases h), if_neg (by simpa using h1)] at h
    split at h
    · injection h with h; injection h with h _
      rw [← h]
      refine .mk _ _ _ ?_ (by simp) (fun i hi => by cases hi)
      show ((l.drop _).take _).toArray.size ≤ _
      simp; omega
    · cases h
  | succ k ih =>
    intro l a q x hl h
    obtain ⟨h1, h2, h3⟩ := item_ok h
    cases hL : lookL l (a : Int) with
    | false =>
      rw [item_bytes (by rintro ⟨_, _, g⟩; cases g) h1 hL] at h
      injection h with h; injection h with h _
      rw [← h]
      refine .mk _ _ _ ?_ (by simp) (fun i hi => by cases hi)
      show ((l.drop _).take _).toArray.size ≤ _
      simp; omega
    | true =>
      rw [item_list h1 hL] at h
      split at h
      · cases h
      · rename_i xs hxs
        injection h with h; injection h with h _
        rw [← h]
        have := items_len _ hxs
        exact .mk _ _ _ (by simp) (by omega) (items_okF (fun p y q hy => ih (by rw [List.length_take]; omega) hy) _ hxs)
theorem decode_okF {l : List UInt8} {x : Itm} (h : decodeF l = .ok x) : x.Ok := by
  unfold decodeF at h
  split at h
  · cases h
  rename_i hl
  split at h
  · cases h
  · rename_i y q hi
    split at h
    · cases h
    · injection h with h; subst h
      exact itemF_okF 12 (by omega) hi
end Go.Proofs.YtagjpbcmhaekpaaGreatDoor
/- Heads that are written and read: plain laws. -/
namespace Go.Proofs.YtagjpbcmhaekpaaGreatDoor
open Go.RowKit Go.Shelf
set_option linter.unusedVariables false
set_option linter.unusedSimpArgs false

theorem valL_beV (l : List UInt8) : valL l = beV l := rfl
/-- a head, as it is read -/
theorem raw_head (n base : Nat) (t : List UInt8) (hn : n ≤ 65536) (hb : base = 128 ∨ base = 192) :
    128 ≤ headC (headL n base ++ t) 0 ∧ (192 ≤ headC (headL n base ++ t) 0 ↔ base = 192) ∧ rawE (headL n base ++ t) 0 = 0 ∧ rawFrom (headL n base ++ t) 0 = (headL n base).length ∧ rawN (headL n base ++ t) 0 = n ∧ (headC (headL n base ++ t) 0 = 129 → base = 128 ∧ n = 1) := by
  by_cases h : n < 56
  · rw [show headL n base = [UInt8.ofNat (base + n)] from if_pos h]
    have hc : headC ([UInt8.ofNat (base + n)] ++ t) 0 = base + n := by
      show (UInt8.ofNat (base + n)).toNat = _
      rw [UInt8.toNat_ofNat']; omega
    unfold rawE rawFrom rawN
    rw [hc]
    have q1 : ¬ base + n < 128 := by omega
    have q2 : (base + n - 128) % 64 = n := by omega
    rw [if_neg q1, if_neg q1, if_neg q1, q2, if_pos h, if_pos h, if_pos h]
    exact ⟨by omega, by omega, rfl, rfl, rfl, by omega⟩
  · rw [show headL n base = UInt8.ofNat (base + 55 + (beN n).length) :: beN n from if_neg h]
    have hm3 := beN_len3 n (by omega)
    have hm1 := beN_pos (n := n) (by omega) (by omega)
    have hv := beV_beN n (Nat.lt_of_le_of_lt hn (by decide))
    have hf := beN_first n
    generalize beN n = r at *
    have hc : headC (UInt8.ofNat (base + 55 + r.length) :: r ++ t) 0 = base + 55 + r.length := by
      show (UInt8.ofNat (base + 55 + r.length)).toNat = _
      rw [UInt8.toNat_ofNat']; omega
    have hB : lenB (UInt8.ofNat (base + 55 + r.length) :: r ++ t) 0 r.length = n := by
      unfold lenB
      rw [show (UInt8.ofNat (base + 55 + r.length) :: r ++ t).drop (0 + 1) = r ++ t from rfl, List.take_left' rfl]; exact hv
    have hz : (UInt8.ofNat (base + 55 + r.length) :: r ++ t).getD (0 + 1) 0 = r.getD 0 0 := by
      cases r with
      | nil => simp at hm1
      | cons a r => rfl
    have hE : lengthE (UInt8.ofNat (base + 55 + r.length) :: r ++ t) 0 r.length = 0 := by
      unfold lengthE
      rw [if_neg (by omega), if_neg (by simp only [List.cons_append, List.length_cons, List.length_append]; omega), if_neg]
      rw [hz, hB]
      rintro (g | g)
      · rcases hf with f | f
        · rw [f] at hm1; simp at hm1
        · exact f (UInt8.toNat_inj.1 (by rw [g]; rfl))
      · omega
    unfold rawE rawFrom rawN
    rw [hc]
    have q1 : ¬ base + 55 + r.length < 128 := by omega
    have q2 : (base + 55 + r.length - 128) % 64 = 55 + r.length := by omega
    have q3 : ¬ 55 + r.length < 56 := by omega
    rw [if_neg q1, if_neg q1, if_neg q1, q2, if_neg q3, if_neg q3, if_neg q3, show 55 + r.length - 55 = r.length by omega, hE, hB]
    exact ⟨by omega, by omega, rfl, by simp; omega, rfl, by omega⟩
theorem headL_pos (n base : Nat) : 1 ≤ (headL n base).length := by unfold headL; split <;> simp
theorem look_head (n base : Nat) (t : List UInt8) (hn : n ≤ 65536) (hb : base = 128 ∨ base = 192) (ht : n ≤ t.length) (h1 : ¬ (base = 128 ∧ n = 1 ∧ (t.getD 0 0).toNat < 128)) :
    lookE (headL n base ++ t) ((0 : Nat) : Int) = 0 ∧ lookFrom (headL n base ++ t) ((0 : Nat) : Int) = (headL n base).length ∧ lookN (headL n base ++ t) ((0 : Nat) : Int) = n ∧ lookL (headL n base ++ t) ((0 : Nat) : Int) = decide (base = 192) := by
  obtain ⟨r1, r2, r3, r4, r5, r6⟩ := raw_head n base t hn hb
  have hp := headL_pos n base
  have hl : (headL n base ++ t).length = (headL n base).length + t.length := List.length_append
  have hE : lookE (headL n base ++ t) ((0 : Nat) : Int) = 0 := by
    unfold lookE
    rw [if_neg (by omega), if_neg (by omega), Int.toNat_natCast, if_neg (by rw [r3]; simp), if_neg (by omega), if_neg]
    rintro ⟨g1, g2⟩
    obtain ⟨e1, e2⟩ := r6 g1
    subst e1; subst e2
    exact h1 ⟨rfl, rfl, by cases t with
      | nil => exact g2
      | cons a t => exact g2⟩
  refine ⟨hE, ?_, ?_, ?_⟩
  · unfold lookFrom; rw [if_pos hE, Int.toNat_natCast, r4]
  · unfold lookN; rw [if_pos hE, Int.toNat_natCast, r5]
  · unfold lookL; rw [if_pos hE, Int.toNat_natCast]; exact decide_eq_decide.2 r2
theorem look_cut (n base : Nat) (t : List UInt8) (hn : n ≤ 65536) (hb : base = 128 ∨ base = 192) (ht : n = t.length) (cut : Nat) (hc : cut < (headL n base ++ t).length) :
    lookE ((headL n base ++ t).take cut) ((0 : Nat) : Int) = 3 := by
  have hp := headL_pos n base
  have hl : (headL n base ++ t).length = (headL n base).length + t.length := List.length_append
  have hlt : ((headL n base ++ t).take cut).length = cut := by rw [List.length_take]; omega
  by_cases h0 : cut = 0
  · subst h0
    unfold lookE
    rw [hlt, if_neg (by omega), if_pos rfl]
  by_cases h1 : (headL n base).length ≤ cut
  · have e : (headL n base ++ t).take cut = headL n base ++ t.take (cut - (headL n base).length) := by
      rw [List.take_append, List.take_of_length_le h1]
    rw [e] at hlt ⊢
    obtain ⟨r1, r2, r3, r4, r5, r6⟩ := raw_head n base (t.take (cut - (headL n base).length)) hn hb
    unfold lookE
    rw [hlt, if_neg (by omega), if_neg (by omega), Int.toNat_natCast, if_neg (by rw [r3]; simp), if_pos (by omega)]
  · by_cases h : n < 56
    · rw [show headL n base = [UInt8.ofNat (base + n)] from if_pos h] at h1
      simp at h1; omega
    · have e : headL n base = UInt8.ofNat (base + 55 + (beN n).length) :: beN n := if_neg h
      have hm3 := beN_len3 n (by omega)
      have hm1 := beN_pos (n := n) (by omega) (by omega)
      rw [e] at h1 hlt ⊢
      obtain ⟨c, rfl⟩ : ∃ c, cut = c + 1 := ⟨cut - 1, by omega⟩
      generalize beN n = r at *
      rw [List.cons_append, List.take_succ_cons] at hlt ⊢
      have hcC : headC (UInt8.ofNat (base + 55 + r.length) :: (r ++ t).take c) 0 = base + 55 + r.length := by
        show (UInt8.ofNat (base + 55 + r.length)).toNat = _
        rw [UInt8.toNat_ofNat']; omega
      rw [List.length_cons] at h1
      have hE : rawE (UInt8.ofNat (base + 55 + r.length) :: (r ++ t).take c) 0 = 3 := by
        unfold rawE
        rw [hcC, if_neg (by omega), show (base + 55 + r.length - 128) % 64 = 55 + r.length by omega, if_neg (by omega), show 55 + r.length - 55 = r.length by omega]
        unfold lengthE
        rw [if_neg (by omega), if_pos (by rw [hlt]; omega)]
      unfold lookE
      rw [hlt, if_neg (by omega), if_neg (by omega), Int.toNat_natCast, if_pos (by rw [hE]; decide), hE]

theorem bytesT_pos (b : ByteArray) : 1 ≤ (bytesT b).length := by
  have h2 : b.data.toList.length = b.size := Array.length_toList
  unfold bytesT
  split
  · omega
  · rw [List.length_append]; have := headL_pos b.size 128; omega
theorem bytesF_pos (x : Itm) : 1 ≤ (bytesF x).length := by
  rw [bytesF_eq]
  split
  · rw [List.length_append]; have := headL_pos (bytesL x.items).length 192; omega
  · exact bytesT_pos _
/-- a head that is read, as it is written -/
theorem head_only {l : List UInt8} {a : Nat} (h : lookE l (a : Int) = 0) (hc : 128 ≤ headC l a) : (l.drop a).take (lookFrom l (a : Int) - a) = headL (lookN l (a : Int)) (if 192 ≤ headC l a then 192 else 128) := by
  obtain ⟨b0, b1, b2, b3, b4, b5⟩ := look_ok h
  have e1 : lookFrom l (a : Int) = rawFrom l a := by unfold lookFrom; rw [if_pos h, Int.toNat_natCast]
  have e2 : lookN l (a : Int) = rawN l a := by unfold lookN; rw [if_pos h, Int.toNat_natCast]
  rw [e1] at b1 b2 b3 b4 ⊢
  rw [e2] at b1 b3 ⊢
  unfold lookE at h
  rw [if_neg (by omega), if_neg (by omega), Int.toNat_natCast] at h
  split at h
  · rename_i g; exact absurd h g
  rename_i g
  have g : rawE l a = 0 := by simpa using g
  clear h b5 e1 e2
  have hd : l.drop a = UInt8.ofNat (headC l a) :: l.drop (a + 1) := by
    rw [List.drop_eq_getElem_cons b0]
    unfold headC
    rw [UInt8.ofNat_toNat, List.getD_eq_getElem?_getD, List.getElem?_eq_getElem b0]; rfl
  have hlt := headC_lt l a
  unfold rawE at g
  unfold rawFrom rawN at *
  have n1 : ¬ headC l a < 128 := by omega
  simp only [if_neg n1] at *
  by_cases h2 : (headC l a - 128) % 64 < 56
  · simp only [if_pos h2] at *
    rw [show a + 1 - a = 1 by omega, hd]
    unfold headL
    rw [if_pos h2, show (if 192 ≤ headC l a then 192 else 128) + (headC l a - 128) % 64 = headC l a by split <;> omega]
    rfl
  · simp only [if_neg h2] at *
    generalize hm : (headC l a - 128) % 64 - 55 = m at *
    unfold lengthE at g
    split at g
    · cases g
    rename_i g1
    split at g
    · cases g
    rename_i g2
    split at g
    · cases g
    rename_i g3
    have hlen : ((l.drop (a + 1)).take m).length = m := by rw [List.length_take, List.length_drop]; omega
    have hbe : beN (lenB l a m) = (l.drop (a + 1)).take m := by
      show beN (beV _) = _
      refine beN_beV _ (by omega) ?_
      rw [List.getD_eq_getElem?_getD, List.getElem?_take_of_lt (by omega), List.getElem?_drop, Nat.add_zero, ← List.getD_eq_getElem?_getD]
      intro e
      exact g3 (.inl (by rw [e]; rfl))
    unfold headL
    rw [if_neg (by omega), hbe, hlen, show a + 1 + m - a = m + 1 by omega, hd, List.take_succ_cons, show (if 192 ≤ headC l a then 192 else 128) + 55 + m = headC l a by split <;> omega]
end Go.Proofs.YtagjpbcmhaekpaaGreatDoor
/- What is encoded is decoded, and what is decoded is encoded just so: plain laws. -/
namespace Go.Proofs.YtagjpbcmhaekpaaGreatDoor
open Go.RowKit Go.Shelf
set_option linter.unusedVariables false
set_option linter.unusedSimpArgs false

theorem text_back (b : ByteArray) (k : Nat) (h : (bytesT b).length ≤ 65536) : itemF k (bytesT b) 0 = .ok (.mk false b [], (bytesT b).length) := by
  have h2 : b.data.toList.length = b.size := Array.length_toList
  unfold bytesT at h ⊢
  by_cases h1 : b.size = 1 ∧ (b.data.toList.getD 0 0).toNat < 128
  · rw [if_pos h1] at h ⊢
    cases hb : b.data.toList with
    | nil => rw [hb] at h2; simp at h2; omega
    | cons z r =>
      rw [hb] at h2 h1
      obtain rfl : r = [] := List.eq_nil_of_length_eq_zero (by simp at h2; omega)
      have hz : headC [z] 0 < 128 := h1.2
      have e1 : rawE [z] 0 = 0 := if_pos hz
      have e2 : rawFrom [z] 0 = 0 := if_pos hz
      have e3 : rawN [z] 0 = 1 := if_pos hz
      have hE : lookE [z] ((0 : Nat) : Int) = 0 := by
        unfold lookE
        rw [if_neg (by simp), if_neg (by simp), Int.toNat_natCast, if_neg (by rw [e1]; simp), if_neg (by rw [e2, e3]; simp), if_neg (by omega)]
      have hF : lookFrom [z] ((0 : Nat) : Int) = 0 := by unfold lookFrom; rw [if_pos hE, Int.toNat_natCast, e2]
      have hN : lookN [z] ((0 : Nat) : Int) = 1 := by unfold lookN; rw [if_pos hE, Int.toNat_natCast, e3]
      have hL : lookL [z] ((0 : Nat) : Int) = false := by unfold lookL; rw [if_pos hE, Int.toNat_natCast]; exact decide_eq_false (by omega)
      rw [item_bytes (by omega) hE hL, hF, hN]
      have : b = ⟨#[z]⟩ := ba_ext (by rw [hb])
      rw [this]; rfl
  · rw [if_neg h1] at h ⊢
    rw [List.length_append, h2] at h
    obtain ⟨q1, q2, q3, q4⟩ := look_head b.size 128 b.data.toList (by omega) (.inl rfl) (by omega) (by rintro ⟨_, g1, g2⟩; exact h1 ⟨g1, g2⟩)
    have q4 : lookL (headL b.size 128 ++ b.data.toList) ((0 : Nat) : Int) = false := q4
    have q5 := (look_ok q1).2.2.2.2.2
    rw [q4] at q5
    have q5 : ¬ 192 ≤ headC (headL b.size 128 ++ b.data.toList) 0 := of_decide_eq_false q5.symm
    rw [item_bytes (fun g => q5 g.2.1) q1 q4, q2, q3, List.drop_left' rfl, List.take_of_length_le (by omega), List.length_append, h2]
mutual
/-- WHAT IS ENCODED IS DECODED -/
theorem back_item : ∀ (x : Itm) (k : Nat), k ≤ 12 → formF x (12 - k) = 0 → (bytesF x).length ≤ 65536 → itemF k (bytesF x) 0 = .ok (x, (bytesF x).length)
  | .mk l b xs, k, hk, hf, hl => by
    rw [formF] at hf
    rw [bytesF] at hl ⊢
    split at hf
    · cases hf
    rename_i h1
    cases l with
    | false =>
      have : xs = [] := List.eq_nil_of_length_eq_zero (Classical.byContradiction fun h2 => h1 (.inr ⟨rfl, h2⟩))
      subst this
      exact text_back b k hl
    | true =>
      have hb := size_zero (b := b) (Classical.byContradiction fun h2 => h1 (.inl ⟨rfl, h2⟩))
      subst hb
      rw [if_neg (by simp)] at hf
      split at hf
      · cases hf
      rename_i h3
      split at hf
      · cases hf
      rename_i h4
      obtain ⟨j, rfl⟩ : ∃ j, k = j + 1 := ⟨k - 1, by omega⟩
      rw [show 12 - (j + 1) + 1 = 12 - j by omega] at hf
      rw [if_pos rfl] at hl ⊢
      have hl2 := hl
      rw [List.length_append] at hl2
      obtain ⟨q1, q2, q3, q4⟩ := look_head (bytesL xs).length 192 (bytesL xs) (by omega) (.inr rfl) (by omega) (by omega)
      rw [item_list q1 (by rw [q4]; rfl), q2, q3, ← List.length_append, List.take_length,
        back_items xs j (by omega) hf (headL (bytesL xs).length 192 ++ bytesL xs) (headL (bytesL xs).length 192).length 0 513 hl (by rw [List.drop_left' rfl]) (by rw [List.length_append]) (by omega) (by omega)]
      rfl
theorem back_items : ∀ (xs : List Itm) (k : Nat), k ≤ 12 → formL xs (12 - k) = 0 → ∀ (L : List UInt8) (p i f : Nat), L.length ≤ 65536 → L.drop p = bytesL xs → p + (bytesL xs).length = L.length → xs.length + i ≤ 512 → xs.length < f → itemsF (itemF k L) L.length f i p = .ok xs
  | [], k, hk, hf, L, p, i, f, hL, hd, hp, hi, hff => by
    obtain ⟨f, rfl⟩ : ∃ j, f = j + 1 := ⟨f - 1, by simp at hff; omega⟩
    unfold itemsF
    rw [bytesL] at hp
    rw [if_neg (by simp at hp; omega)]
  | x :: xs, k, hk, hf, L, p, i, f, hL, hd, hp, hi, hff => by
    obtain ⟨f, rfl⟩ : ∃ j, f = j + 1 := ⟨f - 1, by simp at hff; omega⟩
    rw [formL] at hf
    split at hf
    · rename_i h1; exact absurd hf h1
    rename_i h1
    have h1 : formF x (12 - k) = 0 := by simpa using h1
    rw [bytesL] at hd hp
    rw [List.length_append] at hp
    rw [List.length_cons] at hi hff
    have hx := back_item x k hk h1 (by omega)
    have hs := item_shift k k (Nat.le_refl _) hx (l' := L) (a' := p) (fun j hj => by
      have := congrArg (fun l => l[j]?) hd
      simp only [List.getElem?_drop] at this
      rw [this, List.getElem?_append_left (by omega), Nat.zero_add])
    have hpos := bytesF_pos x
    rw [Nat.sub_zero] at hs
    have hr := back_items xs k hk hf L ((bytesF x).length + p) (i + 1) f hL (by
      rw [Nat.add_comm, ← List.drop_drop, hd, List.drop_left' rfl]) (by omega) (by omega) (by omega)
    unfold itemsF
    rw [if_pos (by omega), if_neg (by omega), hs]
    show (match itemsF (itemF k L) L.length f (i + 1) ((bytesF x).length + p) with | .error e => Except.error e | .ok ys => .ok (x :: ys)) = _
    rw [hr]
end
theorem decode_back {x : Itm} (h : checkI x = 0) : decodeF (bytesF x) = .ok x := by
  obtain ⟨h1, h2, h3⟩ := check_form h
  unfold decodeF
  rw [if_neg (by omega), back_item x 12 (by omega) h3 h2]
  exact if_neg (by omega)
theorem decode_cut {x : Itm} (h : checkI x = 0) {cut : Nat} (hc : cut < (bytesF x).length) : decodeF ((bytesF x).take cut) = .error 3 := by
  obtain ⟨h1, h2, h3⟩ := check_form h
  have h4 : lookE ((bytesF x).take cut) ((0 : Nat) : Int) = 3 := by
    rw [bytesF_eq] at hc h2 ⊢
    have hone : ∀ l : List UInt8, cut < l.length → l.length = 1 → lookE (l.take cut) ((0 : Nat) : Int) = 3 := by
      intro l g1 g2
      obtain rfl : cut = 0 := by omega
      rfl
    split at hc
    · rename_i g
      rw [if_pos g, List.length_append] at h2
      rw [if_pos g]
      exact look_cut _ _ _ (by omega) (.inr rfl) rfl cut hc
    · rename_i g
      rw [if_neg g] at h2 ⊢
      have e : x.bytes.data.toList.length = x.bytes.size := Array.length_toList
      unfold bytesT at hc h2 ⊢
      split at hc
      · rename_i g1
        rw [if_pos g1]
        exact hone _ hc (by omega)
      · rename_i g1
        rw [if_neg g1, List.length_append] at h2
        rw [if_neg g1]
        exact look_cut _ _ _ (by omega) (.inl rfl) e.symm cut hc
  unfold decodeF
  rw [if_neg (by rw [List.length_take]; omega)]
  have : itemF 12 ((bytesF x).take cut) 0 = .error 3 := by
    show itemG (some (itemF 11)) _ 0 = _
    unfold itemG
    rw [if_neg (by rintro ⟨_, _, x⟩; cases x), if_pos (by rw [h4]; decide), h4]
  rw [this]
theorem decode_more {x : Itm} (h : checkI x = 0) {more : List UInt8} (hm : more ≠ []) : decodeF (bytesF x ++ more) = .error (if 65536 < (bytesF x).length + more.length then 5 else 4) := by
  obtain ⟨h1, h2, h3⟩ := check_form h
  have hl : 1 ≤ more.length := by cases more with
    | nil => exact absurd rfl hm
    | cons a l => simp
  unfold decodeF
  rw [List.length_append]
  split
  · rfl
  · rename_i g
    rw [item_shift 12 12 (Nat.le_refl _) (back_item x 12 (by omega) h3 h2) (l' := bytesF x ++ more) (a' := 0) (fun j hj => by
      rw [List.getElem?_append_left (by omega)])]
    exact if_pos (by omega)

/-- items that are read, as they are written -/
theorem items_only {l : List UInt8} {rd : Nat → Except Int (Itm × Nat)} {en d : Nat} (hen : en ≤ l.length)
    (hrd : ∀ p y q, rd p = .ok (y, q) → p < q ∧ q ≤ en ∧ bytesF y = (l.drop p).take (q - p) ∧ formF y d = 0 ∧ wtF y ≤ 11 * (q - p)) (f : Nat) :
    ∀ (i p : Nat) (xs : List Itm), p ≤ en → i ≤ 512 → itemsF rd en f i p = .ok xs → bytesL xs = (l.drop p).take (en - p) ∧ formL xs d = 0 ∧ wtL xs ≤ 11 * (en - p) ∧ xs.length + i ≤ 512 := by
  induction f with
  | zero => intro i p xs _ _ h; cases h
  | succ f ih =>
    intro i p xs hp hi h
    cases xs with
    | nil =>
      have := items_last h
      obtain rfl : p = en := by omega
      rw [Nat.sub_self, List.take_zero]
      exact ⟨rfl, rfl, by simp [wtL], by simp; omega⟩
    | cons x xs =>
      obtain ⟨h1, q, h2, h3⟩ := items_next h
      have hi2 : i < 512 := by
        unfold itemsF at h
        rw [if_pos h1] at h
        by_cases g : 512 ≤ i
        · rw [if_pos g] at h; cases h
        · omega
      obtain ⟨r1, r2, r3, r4, r5⟩ := hrd _ _ _ h2
      obtain ⟨s1, s2, s3, s4⟩ := ih (i + 1) q xs r2 (by omega) h3
      refine ⟨?_, ?_, ?_, ?_⟩
      · rw [bytesL, r3, s1, show en - p = (q - p) + (en - q) by omega, List.take_add, List.drop_drop, show p + (q - p) = q by omega]
      · rw [formL, if_neg (by rw [r4]; simp)]; exact s2
      · rw [wtL]; omega
      · rw [List.length_cons]; omega
/-- WHAT IS DECODED IS ENCODED JUST SO -/
theorem only_item : ∀ (k : Nat), k ≤ 12 → ∀ {l : List UInt8} {a q : Nat} {x : Itm}, itemF k l a = .ok (x, q) → bytesF x = (l.drop a).take (q - a) ∧ formF x (12 - k) = 0 ∧ wtF x ≤ 11 * (q - a) := by
  have text : ∀ {l : List UInt8} {a d : Nat}, lookE l (a : Int) = 0 → lookL l (a : Int) = false → bytesF (.mk false ⟨((l.drop (lookFrom l a)).take (lookN l a)).toArray⟩ []) = (l.drop a).take (lookFrom l a + lookN l a - a) ∧ formF (.mk false ⟨((l.drop (lookFrom l a)).take (lookN l a)).toArray⟩ []) d = 0 ∧ wtF (.mk false ⟨((l.drop (lookFrom l a)).take (lookN l a)).toArray⟩ []) ≤ 11 * (lookFrom l a + lookN l a - a) := by
    intro l a d h hL
    obtain ⟨b0, b1, b2, b3, b4, b5⟩ := look_ok h
    rw [hL] at b5
    have b5 : ¬ 192 ≤ headC l a := of_decide_eq_false b5.symm
    have hz : ((l.drop (lookFrom l a)).take (lookN l a)).length = lookN l a := by rw [List.length_take, List.length_drop]; omega
    refine ⟨?_, ?_, ?_⟩
    · rw [bytesF, if_neg (by simp)]
      unfold bytesT
      have hsz : (ByteArray.mk ((l.drop (lookFrom l a)).take (lookN l a)).toArray).size = lookN l a := by
        show (List.toArray _).size = _
        rw [List.size_toArray, hz]
      rw [hsz]
      show (if _ ∧ ((((l.drop (lookFrom l a)).take (lookN l a))).getD 0 0).toNat < 128 then (l.drop (lookFrom l a)).take (lookN l a) else _ ++ (l.drop (lookFrom l a)).take (lookN l a)) = _
      have hg : 0 < lookN l a → (((l.drop (lookFrom l a)).take (lookN l a)).getD 0 0).toNat = headC l (lookFrom l a) := by
        intro h0
        unfold headC
        rw [List.getD_eq_getElem?_getD, List.getElem?_take_of_lt h0, List.getElem?_drop, Nat.add_zero, ← List.getD_eq_getElem?_getD]
      by_cases hc : headC l a < 128
      · have e1 : lookFrom l (a : Int) = a := by unfold lookFrom; rw [if_pos h, Int.toNat_natCast]; exact if_pos hc
        have e2 : lookN l (a : Int) = 1 := by unfold lookN; rw [if_pos h, Int.toNat_natCast]; exact if_pos hc
        rw [if_pos ⟨e2, by rw [hg (by omega), e1]; exact hc⟩, e1, e2, show a + 1 - a = 1 by omega]
      · have hh := head_only h (by omega)
        rw [if_neg b5] at hh
        rw [if_neg, ← hh]
        · conv => rhs; rw [show lookFrom l (a : Int) + lookN l (a : Int) - a = (lookFrom l (a : Int) - a) + lookN l (a : Int) by omega, List.take_add, List.drop_drop, show a + (lookFrom l (a : Int) - a) = lookFrom l (a : Int) by omega]
        · rintro ⟨g1, g2⟩
          rw [hg (by omega)] at g2
          have e1 : lookFrom l (a : Int) = rawFrom l a := by unfold lookFrom; rw [if_pos h, Int.toNat_natCast]
          have e2 : lookN l (a : Int) = rawN l a := by unfold lookN; rw [if_pos h, Int.toNat_natCast]
          rw [e2] at g1
          rw [e1] at g2
          have h' := h
          unfold lookE at h'
          rw [if_neg (by omega), if_neg (by omega), Int.toNat_natCast] at h'
          split at h'
          · rename_i g; exact absurd h' g
          rename_i gE
          have gE : rawE l a = 0 := by simpa using gE
          split at h'
          · cases h'
          split at h'
          · cases h'
          rename_i g4
          unfold rawE at gE
          unfold rawN at g1
          unfold rawFrom at g2
          rw [if_neg hc] at gE g1 g2
          have hlt := headC_lt l a
          split at g1
          · rename_i g5
            rw [if_pos g5] at g2
            exact g4 ⟨by omega, g2⟩
          · rename_i g5
            rw [if_neg g5] at gE
            unfold lengthE at gE
            split at gE
            · cases gE
            split at gE
            · cases gE
            split at gE
            · cases gE
            rename_i g6
            exact g6 (.inr (by omega))
    · rw [formF, if_neg (by simp), if_pos rfl]
    · rw [wtF]
      show 10 + (List.toArray _).size + wtL [] ≤ _
      rw [List.size_toArray, hz, wtL]
      omega
  intro k
  induction k with
  | zero =>
    intro hk l a q x h
    obtain ⟨h1, h2, h3⟩ := item_ok h
    subst h3
    have hg : itemG none l a = _ := h
    unfold itemG at hg
    rw [if_neg (by rintro hh; rw [if_pos hh] at hg; cases hg), if_neg (by simpa using h1)] at hg
    clear h
    split at hg
    · rename_i hL
      injection hg with h; injection h with h _
      rw [← h]
      exact text h1 hL
    · cases hg
  | succ k ih =>
    intro hk l a q x h
    obtain ⟨h1, h2, h3⟩ := item_ok h
    cases hL : lookL l (a : Int) with
    | false =>
      rw [item_bytes (by rintro ⟨_, _, g⟩; cases g) h1 hL] at h
      injection h with h; injection h with h _
      subst h3
      rw [← h]
      exact text h1 hL
    | true =>
      obtain ⟨b0, b1, b2, b3, b4, b5⟩ := look_ok h1
      rw [hL] at b5
      have b5 : 192 ≤ headC l a := of_decide_eq_true b5.symm
      have hh := head_only h1 (by omega)
      rw [if_pos b5] at hh
      have hFa : a < lookFrom l (a : Int) := by
        have e := congrArg List.length hh
        have := headL_pos (lookN l (a : Int)) 192
        rw [List.length_take] at e
        omega
      rw [item_list h1 hL] at h
      subst h3
      split at h
      · cases h
      · rename_i xs hxs
        injection h with h; injection h with h _
        rw [← h]
        obtain ⟨r1, r2, r3, r4⟩ := items_only (l := l) (d := 12 - k) b1 (fun p y q hy => by
          obtain ⟨s1, s2, s3⟩ := item_ok hy
          obtain ⟨c0, c1, c2, c3, _, _⟩ := look_ok s1
          rw [← s3] at c1 c3
          obtain ⟨t1, t2, t3⟩ := ih (by omega) hy
          rw [List.length_take] at c1
          refine ⟨c3, by omega, ?_, t2, t3⟩
          rw [t1, List.drop_take, List.take_take, Nat.min_eq_left (by omega)]) 513 0 _ xs (by omega) (by omega) hxs
        rw [show lookFrom l (a : Int) + lookN l (a : Int) - lookFrom l (a : Int) = lookN l (a : Int) by omega] at r1 r3
        have hbl : (bytesL xs).length = lookN l (a : Int) := by rw [r1, List.length_take, List.length_drop]; omega
        refine ⟨?_, ?_, ?_⟩
        · rw [bytesF, if_pos rfl, hbl, ← hh, r1]
          conv => rhs; rw [show lookFrom l (a : Int) + lookN l (a : Int) - a = (lookFrom l (a : Int) - a) + lookN l (a : Int) by omega, List.take_add, List.drop_drop, show a + (lookFrom l (a : Int) - a) = lookFrom l (a : Int) by omega]
        · rw [formF, if_neg (by simp), if_neg (by simp), if_neg (by omega), if_neg (by omega), show 12 - (k + 1) + 1 = 12 - k by omega]
          exact r2
        · rw [wtF, show ByteArray.empty.size = 0 from rfl]
          omega
theorem decode_only {l : List UInt8} {x : Itm} (h : decodeF l = .ok x) : checkI x = 0 ∧ bytesF x = l ∧ wtF x ≤ 11 * l.length := by
  obtain ⟨g1, g2, g3⟩ := decode_head h
  unfold decodeF at h
  split at h
  · cases h
  rename_i hl
  split at h
  · cases h
  · rename_i y q hi
    split at h
    · cases h
    · rename_i hq
      injection h with h; subst h
      obtain ⟨_, _, e⟩ := item_ok hi
      have e : q = l.length := by rw [← g3, e]; rfl
      obtain ⟨r1, r2, r3⟩ := only_item 12 (by omega) hi
      rw [e, Nat.sub_zero, List.drop_zero, List.take_length] at r1
      rw [e] at r3
      refine ⟨?_, r1, by omega⟩
      unfold checkI
      rw [if_neg (by rw [show (0 : Nat) = 12 - 12 from rfl, r2]; simp), if_neg (by rw [r1]; omega)]
end Go.Proofs.YtagjpbcmhaekpaaGreatDoor
/- Two rows of texts compared (rescriptref02.Texts). -/
namespace Go.Proofs.YtagjpbcmhaekpaaGreatDoor
open Go.RowKit Go.Shelf
set_option linter.unusedVariables false
set_option linter.unusedSimpArgs false

theorem rows_ext {xs ys : List ByteArray} (h : xs.length = ys.length) (hi : ∀ i, i < xs.length → xs.getD i .empty = ys.getD i .empty) : xs = ys := by
  apply List.ext_getElem h
  intro i h1 h2
  have := hi i h1
  rwa [List.getD_eq_getElem?_getD, List.getD_eq_getElem?_getD, List.getElem?_eq_getElem h1, List.getElem?_eq_getElem h2] at this

set_option maxRecDepth 100000 in
set_option maxHeartbeats 1000000 in
theorem textsR_any (B B' : Nat) (A A' : Option Addr) (n m c d : Nat) (xs ys : List ByteArray) (w : World) (h : Reads w B 1 A n (xs.map Value.string)) (h' : Reads w B' 1 A' m (ys.map Value.string)) (hn : n ≤ 281474976710656) (hm : m ≤ 281474976710656) :
    Calls Tryz.prog 25 #[.slice A n c, .slice A' m d] w fun e w' => e = .returned (.bool (decide (xs = ys))) ∧ Below w.heap.size w w' := by
  have hl : xs.length = n := by have := h.1; simpa using this
  have hl' : ys.length = m := by have := h'.1; simpa using this
  by_cases hnm : n = m
  · subst hnm
    have HL := Lib.hid hl; have HL' := Lib.hid hl'
    clear hl hl'
    go_enter Tryz.func25, Tryz.ntmps25
    go_wp2_with fail
    go_loopw [5] (fun i wr => ∃ k : Nat, i = .int .i64 k ∧ k ≤ n ∧ (∃ q, wr = w.drewN q) ∧ Hid (∀ i : Nat, i < k → xs.getD i .empty = ys.getD i .empty)) (fun i _ => n - (intOf i).toNat)
    case atStart => exact ⟨0, rfl, by omega, ⟨0, rfl⟩, Lib.hid (by intro i h1; omega)⟩
    case round =>
      obtain ⟨k, rfl, hk, ⟨q, rfl⟩, h2⟩ := hrel
      have h2' := Lib.hid h2.out
      by_cases hlt : k < n
      · obtain ⟨g, off, rfl, hg, hc⟩ := Reads.vals Value.string .empty h hlt
        obtain ⟨g', off', rfl, hg', hc'⟩ := Reads.vals Value.string .empty h' hlt
        have c0 := hc k hlt; have d0 := hc' k hlt
        have q1 : (k : Int) < (n : Int) := by omega
        obtain ⟨x, hx⟩ : ∃ x, xs.getD k .empty = x := ⟨_, rfl⟩
        obtain ⟨y, hy⟩ : ∃ y, ys.getD k .empty = y := ⟨_, rfl⟩
        rw [hx] at c0
        rw [hy] at d0
        have HX := Lib.hid hx; have HY := Lib.hid hy
        clear h h' h2 hc hc' hx hy
        by_cases hxy : x = y
        · have heq : (x.toList == y.toList) = true := by rw [hxy]; simp
          have hne : (x.toList != y.toList) = false := by rw [bne, heq]; rfl
          have HE := Lib.hid hxy
          clear hxy
          go_wp2_with fail
          go_quiet (fail)
          go_wp2_with fail
          refine ⟨⟨k + 1, by go_num, by omega, ⟨_, rfl⟩, Lib.hid fun i hi => ?_⟩, by simp [intOf]; omega⟩
          by_cases hik : i = k
          · rw [hik, HX.out, HY.out, HE.out]
          · exact h2'.out i (by omega)
        · have heq := str_ne hxy
          have hne : (x.toList != y.toList) = true := by rw [bne, heq]; rfl
          have hf : decide (xs = ys) = false := decide_eq_false (fun e => hxy (by rw [← HX.out, ← HY.out, e]))
          have HF := Lib.hid hf
          clear hxy hf
          go_wp2_with fail
          go_quiet (fail)
          go_wp2_with fail
          go_ret
          exact ⟨by rw [HF.out]; rfl, below_drewN (below_drewN (Below.refl _ w) _) _⟩
      · obtain rfl : k = n := by omega
        have hfin : decide ((k : Int) < (k : Int)) = false := by simp
        have heq : decide (xs = ys) = true := decide_eq_true (rows_ext (by rw [HL.out, HL'.out]) fun i hi => h2'.out i (by have := HL.out; omega))
        have HF := Lib.hid heq
        clear heq
        go_wp2_with fail
        go_ret
        exact ⟨by rw [HF.out]; rfl, below_drewN (Below.refl _ w) _⟩
  · have g1 : ((n : Int) != (m : Int)) = true := by simp; omega
    have hf : decide (xs = ys) = false := decide_eq_false (fun e => hnm (by rw [← hl, ← hl', e]))
    rw [hf]
    clear hf hnm hl hl'
    go_enter Tryz.func25, Tryz.ntmps25
    go_wp2_with fail
    go_ret
    exact ⟨rfl, Below.refl _ w⟩
end Go.Proofs.YtagjpbcmhaekpaaGreatDoor
/- A slice of strings that came in, as 'Reads'; a word that came in. -/
namespace Go.Proofs.YtagjpbcmhaekpaaGreatDoor
open Go.ChangeShapes Go.WideShapes Go.ChangeAt Go.RowKit Go.Deep Go.Joins
set_option linter.constructorNameAsVariable false
section
variable {H : Type} {enc : TypeId × Value → H} {P : Program} {w : World} {base : Nat} {held : Bool}
theorem reads_of_strs {t e : TypeId} {fuel : Nat} {v : Value} {x : DataW H × List MemPlace} (ht : P.underlying t = some (.slice e)) (he : P.underlying e = some .string) (hc : P.cellsOf e = 1)
    (h : DataW.trod enc P w base (fun _ => true) held fuel t [v] = some x) :
    ∃ (A : Option Addr) (n c : Nat) (xs : List ByteArray), v = .slice A n c ∧ Reads w w.heap.size 1 A n (xs.map Value.string) ∧ (∀ x ∈ xs, x.size ≤ 9223372036854775807) ∧ n ≤ 9223372036854775807 ∧ xs.length = n ∧ n ≤ c := by
  rcases open_strs ht he hc h with ⟨hcs, _⟩ | ⟨a, len, cap, m, B, hcs, _, hl, hm, hmm, _, hcell⟩
  · simp only [List.cons.injEq, and_true] at hcs
    exact ⟨none, 0, 0, [], hcs, Reads.none_, by simp, by omega, rfl, by omega⟩
  · simp only [List.cons.injEq, and_true] at hcs
    simp only [if_true] at hmm
    have hmL : maxLen = 9223372036854775807 := by decide
    refine ⟨some a, len, cap, (List.range len).map B, hcs, ⟨by simp, fun hn => ⟨a, rfl, ?_, fun j u hu => ?_⟩⟩, fun x hx => ?_, by omega, by simp, hl⟩
    · have := World.block_lt_of_cell? w _ (hcell 0 (by omega)).1
      rwa [block_of_add] at this
    · rw [List.getElem?_map, List.getElem?_map, Option.map_map] at hu
      have hj : j < len := by
        rcases Nat.lt_or_ge j len with hj | hj
        · exact hj
        · rw [List.getElem?_eq_none (by simpa using hj)] at hu; cases hu
      rw [List.getElem?_range hj] at hu
      have := (hcell j (by omega)).1
      simp at hu
      subst hu
      simpa using this
    · obtain ⟨i, hi, rfl⟩ := List.mem_map.1 hx
      have := (hcell i (by have := List.mem_range.1 hi; omega)).2
      omega
end
section
variable {H : Type} {enc : TypeId × Value → H} {w : World} {base : Nat} {held : Bool}
theorem open_word {r : Reach} {b0 : Nat} {v : Value} {d : DataW H} {ps : List MemPlace} {spare : Nat → Bool} (hval : Value.okWide Tryz.prog w r b0 103 v) (hd : DataW.Trod enc Tryz.prog w base spare held 103 v d ps) :
    ∃ a0 a1 a2 a3 : Nat, a0 < 18446744073709551616 ∧ a1 < 18446744073709551616 ∧ a2 < 18446744073709551616 ∧ a3 < 18446744073709551616 ∧ v = .agg #[.int .u64 (a0 : Int), .int .u64 (a1 : Int), .int .u64 (a2 : Int), .int .u64 (a3 : Int)] := by
  have ht := Tryz.underlying103
  have he := Tryz.underlying22
  have hce : Tryz.prog.cellsOf 22 = 1 := by kernel_rfl
  have hct : Tryz.prog.cellsOf 103 = 4 := by kernel_rfl
  simp only [Value.okWide, ht] at hval
  obtain ⟨cs, rfl, hsz, _⟩ := hval
  obtain ⟨fuel, hf⟩ := hd
  obtain ⟨xs, m, _, _, hl, hxl, hat⟩ := DataW.trod_array ht hf
  have hcl : cs.size = 4 := hsz.trans hct
  have key : ∀ i, i < 4 → ∃ x : Nat, x < 18446744073709551616 ∧ cs[i]? = some (.int .u64 (x : Int)) := by
    intro i hi
    have h1 := hat i hi
    have hone : ((Value.agg cs).cells.toList.drop (i * Tryz.prog.cellsOf 22)).take (Tryz.prog.cellsOf 22) = [cs[i]'(by omega)] := by
      rw [hce, Nat.mul_one]
      show (cs.toList.drop i).take 1 = _
      rw [List.drop_eq_getElem_cons (by simp; omega)]
      rfl
    have hx : xs[i]? = some (xs[i]'(by omega)) := List.getElem?_eq_getElem (by omega)
    rw [hone, hx] at h1
    obtain ⟨k, hk, _, hw⟩ := DataW.trod_int he h1
    have hwf := wf_u64 hw
    obtain ⟨z, rfl⟩ := Int.eq_ofNat_of_zero_le hwf.1
    refine ⟨z, by omega, ?_⟩
    rw [Array.getElem?_eq_getElem (by omega)]
    simp only [List.cons.injEq, and_true] at hk
    rw [hk]
  obtain ⟨a0, l0, e0⟩ := key 0 (by omega)
  obtain ⟨a1, l1, e1⟩ := key 1 (by omega)
  obtain ⟨a2, l2, e2⟩ := key 2 (by omega)
  obtain ⟨a3, l3, e3⟩ := key 3 (by omega)
  have hcs : cs = #[.int .u64 (a0 : Int), .int .u64 (a1 : Int), .int .u64 (a2 : Int), .int .u64 (a3 : Int)] := by
    clear key hat l0 l1 l2 l3
    refine Array.ext_getElem? fun i => ?_
    match i with
    | 0 => rw [e0]; rfl
    | 1 => rw [e1]; rfl
    | 2 => rw [e2]; rfl
    | 3 => rw [e3]; rfl
    | i + 4 => rw [Array.getElem?_eq_none (by omega)]; rfl
  exact ⟨a0, a1, a2, a3, l0, l1, l2, l3, by rw [hcs]⟩
end
end Go.Proofs.YtagjpbcmhaekpaaGreatDoor
/- Batches of one block, plain: whether any is one, its bytes, what bytes are. -/
namespace Go.Proofs.YtagjpbcmhaekpaaGreatDoor
open Go.RowKit Go.Shelf
set_option linter.unusedVariables false
set_option linter.unusedSimpArgs false

structure Sgl where
  parent : ByteArray
  epoch : Nat
  hash : ByteArray
  time : Nat
  txs : List ByteArray
def Sgl.zero : Sgl := ⟨⟨#[]⟩, 0, ⟨#[]⟩, 0, []⟩
def Sgl.Ok (b : Sgl) : Prop := b.epoch < 18446744073709551616 ∧ b.time < 18446744073709551616
/-- what is wrong with a batch -/
def checkS (b : Sgl) : Int :=
  if b.parent.size ≠ 32 ∨ b.hash.size ≠ 32 ∨ (b.txs.any fun x => decide (x.size = 0)) = true then 2 else if 32 < b.txs.length ∨ (b.txs.any fun x => decide (4096 < x.size)) = true then 5 else 0
def numB (n : Nat) : ByteArray := ⟨(beN n).toArray⟩
/-- a batch as an item -/
def itemS (b : Sgl) : Itm := .mk true ⟨#[]⟩ [txt b.parent, txt (numB b.epoch), txt b.hash, txt (numB b.time), .mk true ⟨#[]⟩ (b.txs.map txt)]
def putSE (b : Sgl) : Int := if checkS b ≠ 0 then checkS b else checkI (itemS b)
def putSL (b : Sgl) : List UInt8 := if putSE b = 0 then 0 :: bytesF (itemS b) else []

theorem wt_txts : ∀ (xs : List ByteArray), wtL (xs.map txt) = 10 * xs.length + (catB xs).length
  | [] => by simp [catB, wtL]
  | x :: xs => by
    have h := wt_txts xs
    have h2 : x.data.toList.length = x.size := Array.length_toList
    have e2 : catB (x :: xs) = x.data.toList ++ catB xs := by simp [catB]
    rw [List.map_cons, wtL, h, wtF_eq, e2, List.length_append, List.length_cons, h2]
    show 10 + x.size + wtL [] + _ = _
    rw [wtL]; omega
theorem ba_list9 (l : List UInt8) : (⟨l.toArray⟩ : ByteArray).data.toList = l := rfl
theorem numB_list (n : Nat) : (numB n).data.toList = beN n := by unfold numB; exact ba_list9 _
theorem numB_size {n : Nat} (h : n < 18446744073709551616) : (numB n).size ≤ 8 := by
  have h1 := beN_len8 n h
  have h2 : (numB n).data.toList.length = (numB n).size := Array.length_toList
  rw [numB_list] at h2
  omega
theorem wt_item (b : Sgl) (h : b.Ok) : wtF (itemS b) ≤ 80 + b.parent.size + b.hash.size + 10 * b.txs.length + (catB b.txs).length := by
  have h1 := numB_size h.1
  have h2 := numB_size h.2
  have e : ∀ x : ByteArray, wtF (txt x) = 10 + x.size := fun x => by rw [wtF_eq]; show 10 + x.size + wtL [] = _; rw [wtL, Nat.add_zero]
  rw [wtF_eq]
  show 10 + 0 + wtL [txt b.parent, txt (numB b.epoch), txt b.hash, txt (numB b.time), .mk true ⟨#[]⟩ (b.txs.map txt)] ≤ _
  rw [wtL, wtL, wtL, wtL, wtL, wtL, e, e, e, e, wtF_eq]
  show 10 + 0 + (10 + _ + (10 + _ + (10 + _ + (10 + _ + (10 + 0 + wtL (b.txs.map txt) + 0))))) ≤ _
  rw [wt_txts]; omega
theorem form_txts (xs : List ByteArray) (d : Nat) : formL (xs.map txt) d = 0 := by
  induction xs with
  | nil => rfl
  | cons x xs ih =>
    have h : formF (txt x) d = 0 := by rw [formF_eq, if_neg (by rintro (⟨e, _⟩ | ⟨_, e⟩); cases e; exact e rfl), if_pos (show (txt x).list = false from rfl)]
    rw [List.map_cons, formL, if_neg (by rw [h]; simp), ih]
theorem form_item (b : Sgl) (h : b.txs.length ≤ 512) : formF (itemS b) 0 = 0 := by
  have ht : ∀ (x : ByteArray) (d : Nat), formF (txt x) d = 0 := fun x d => by rw [formF_eq, if_neg (by rintro (⟨e, _⟩ | ⟨_, e⟩); cases e; exact e rfl), if_pos (show (txt x).list = false from rfl)]
  have hl : formF (.mk true ⟨#[]⟩ (b.txs.map txt)) 1 = 0 := by
    rw [formF_eq, if_neg (by rintro (⟨_, e⟩ | ⟨e, _⟩); exact e rfl; cases e), if_neg (by intro e; cases e), if_neg (by decide), if_neg (by show ¬ 512 < (b.txs.map txt).length; rw [List.length_map]; omega)]
    exact form_txts _ _
  rw [formF_eq, if_neg (by rintro (⟨_, e⟩ | ⟨e, _⟩); exact e rfl; cases e), if_neg (by intro e; cases e), if_neg (by decide), if_neg (by show ¬ 512 < 5; decide)]
  show formL [txt b.parent, txt (numB b.epoch), txt b.hash, txt (numB b.time), .mk true ⟨#[]⟩ (b.txs.map txt)] 1 = 0
  rw [formL, if_neg (by rw [ht]; simp), formL, if_neg (by rw [ht]; simp), formL, if_neg (by rw [ht]; simp), formL, if_neg (by rw [ht]; simp), formL, if_neg (by rw [hl]; simp), formL]
theorem check_item (b : Sgl) (h : b.txs.length ≤ 512) : checkI (itemS b) = if 65536 < (bytesF (itemS b)).length then 5 else 0 := by
  unfold checkI; rw [if_neg (by rw [form_item b h]; simp)]

/-- what is wrong with the fields of a row of five -/
def fieldsE : List Itm → Int
  | [a, b, c, d, e] => if tE a 32 32 ≠ 0 then tE a 32 32 else if numE b.list b.bytes ≠ 0 then numE b.list b.bytes else if tE c 32 32 ≠ 0 then tE c 32 32 else if numE d.list d.bytes ≠ 0 then numE d.list d.bytes else gtE e.list e.items.length 32 1 4096 e.items
  | _ => 0
def fieldsS : List Itm → Sgl
  | [a, b, c, d, e] => ⟨a.bytes, numV b.list b.bytes, c.bytes, numV d.list d.bytes, e.items.map Itm.bytes⟩
  | _ => Sgl.zero
/-- what is wrong with bytes -/
def getSE (l : List UInt8) : Int :=
  if l = [] then 3 else if l.getD 0 0 ≠ 0 then 9 else match decodeF (l.drop 1) with
  | .error e => if e = 0 then 3 else e
  | .ok x => if (if x.list then textE x.items.length 5 5 else 2) ≠ 0 then (if x.list then textE x.items.length 5 5 else 2) else fieldsE x.items
def getSB (l : List UInt8) : Sgl := if getSE l = 0 then match decodeF (l.drop 1) with
  | .error _ => Sgl.zero
  | .ok x => fieldsS x.items else Sgl.zero
theorem checkS_0 {b : Sgl} : checkS b = 0 ↔ b.parent.size = 32 ∧ b.hash.size = 32 ∧ b.txs.length ≤ 32 ∧ ∀ x ∈ b.txs, 1 ≤ x.size ∧ x.size ≤ 4096 := by
  unfold checkS
  constructor
  · intro h
    split at h
    · cases h
    rename_i h1
    split at h
    · cases h
    rename_i h2
    simp only [not_or, List.any_eq_true, decide_eq_true_eq, not_exists, not_and, Nat.not_lt] at h1 h2
    refine ⟨by omega, by omega, by omega, fun x hx => ⟨?_, h2.2 x hx⟩⟩
    have := h1.2.2 x hx; omega
  · rintro ⟨h1, h2, h3, h4⟩
    rw [if_neg, if_neg]
    · simp only [not_or, List.any_eq_true, decide_eq_true_eq, not_exists, not_and, Nat.not_lt]
      exact ⟨h3, fun x hx => (h4 x hx).2⟩
    · simp only [not_or, List.any_eq_true, decide_eq_true_eq, not_exists, not_and]
      exact ⟨by omega, by omega, fun x hx => by have := (h4 x hx).1; omega⟩
theorem gtx_txts (xs : List ByteArray) (a b : Int) (h : ∀ x ∈ xs, a ≤ (x.size : Int) ∧ (x.size : Int) ≤ b) : gtxE (xs.map txt) a b = 0 := by
  induction xs with
  | nil => rfl
  | cons x xs ih =>
    have hx := h x (by simp)
    have hl : tE (txt x) a b = 0 := by
      unfold tE
      rw [if_neg (by intro e; cases e)]
      show textE x.size a b = 0
      unfold textE
      rw [if_neg (by omega), if_neg (by omega)]
    rw [List.map_cons, gtxE, if_neg (by rw [hl]; simp)]
    exact ih fun y hy => h y (by simp [hy])
/-- WHAT IS PUT IS GOT -/
theorem getS_back {b : Sgl} (hk : b.Ok) (h : putSE b = 0) : getSE (putSL b) = 0 ∧ getSB (putSL b) = b := by
  have hc : checkS b = 0 := by
    unfold putSE at h; split at h
    · rename_i g; exact absurd h g
    · rename_i g; simpa using g
  have hi : checkI (itemS b) = 0 := by
    unfold putSE at h; rw [if_neg (by rw [hc]; simp)] at h; exact h
  obtain ⟨c1, c2, c3, c4⟩ := checkS_0.1 hc
  have hp : putSL b = 0 :: bytesF (itemS b) := if_pos h
  have hd : decodeF ((putSL b).drop 1) = .ok (itemS b) := by rw [hp]; exact decode_back hi
  obtain ⟨n1, n2⟩ := number_back b.epoch hk.1 (numB b.epoch) (numB_list _)
  obtain ⟨n3, n4⟩ := number_back b.time hk.2 (numB b.time) (numB_list _)
  have t1 : ∀ x : ByteArray, x.size = 32 → tE (txt x) 32 32 = 0 := fun x hx => by
    show textE x.size 32 32 = 0
    rw [hx]; rfl
  have hg : gtE true (b.txs.map txt).length 32 1 4096 (b.txs.map txt) = 0 := by
    have h0 : textE (b.txs.map txt).length 0 32 = 0 := by unfold textE; rw [List.length_map, if_neg (by omega), if_neg (by omega)]
    have hy : gtYs true (b.txs.map txt).length 32 (b.txs.map txt) = b.txs.map txt := if_pos ⟨rfl, h0⟩
    unfold gtE
    rw [hy, gtx_txts _ _ _ (fun x hx => by have := c4 x hx; omega), if_neg (by simp), if_pos rfl, h0]
  have hf : fieldsE (itemS b).items = 0 := by
    show (if tE (txt b.parent) 32 32 ≠ 0 then _ else if numE false (numB b.epoch) ≠ 0 then _ else if tE (txt b.hash) 32 32 ≠ 0 then _ else if numE false (numB b.time) ≠ 0 then _ else gtE true (b.txs.map txt).length 32 1 4096 (b.txs.map txt)) = 0
    rw [if_neg (by rw [t1 _ c1]; simp), if_neg (by rw [n1]; simp), if_neg (by rw [t1 _ c2]; simp), if_neg (by rw [n3]; simp), hg]
  have hE : getSE (putSL b) = 0 := by
    unfold getSE
    rw [if_neg (by rw [hp]; simp), if_neg (by rw [hp]; simp), hd]
    show (if (if true then textE 5 5 5 else 2) ≠ 0 then _ else fieldsE (itemS b).items) = 0
    rw [if_neg (by decide), hf]
  refine ⟨hE, ?_⟩
  unfold getSB
  rw [if_pos hE, hd]
  show (⟨b.parent, numV false (numB b.epoch), b.hash, numV false (numB b.time), (b.txs.map txt).map Itm.bytes⟩ : Sgl) = b
  rw [n2, n4]
  have : (b.txs.map txt).map Itm.bytes = b.txs := by rw [List.map_map]; exact (List.map_congr_left fun x _ => rfl).trans (List.map_id _)
  rw [this]
end Go.Proofs.YtagjpbcmhaekpaaGreatDoor
