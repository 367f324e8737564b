/- Merged: UnlA, FormL, RdM, RdN. -/
import Derived.Test.YthalohloneojlaaGreatDoorMi18
import Derived.Test.YthalohloneojlaaGreatDoorMi20
import Derived.Test.YthalohloneojlaaGreatDoorMi22
import Derived.Test.YthalohloneojlaaGreatDoorMi25
import Derived.Test.YthalohloneojlaaGreatDoorMi26
/- What is encoded is decoded, and what is decoded is encoded just so: plain laws. -/
namespace Go.Proofs.YthalohloneojlaaGreatDoor
open Go.RowKit Go.Shelf
set_option linter.unusedVariables false
set_option linter.unusedSimpArgs false

theorem text_back (b : ByteArray) (k : Nat) (h : (bytesT b).length ≤ 65536) : itemF k (bytesT b) 0 = .ok (.mk false b [], (bytesT b).length) := by
  have h2 : b.data.toList.length = b.size := Array.length_toList
  unfold bytesT at h ⊢
  by_cases h1 : b.size = 1 ∧ (b.data.toList.getD 0 0).toNat < 128
  · rw [if_pos h1] at h ⊢
    cases hb : b.data.toList with
    | nil => rw [hb] at h2; simp at h2; omega
    | cons z r =>
      rw [hb] at h2 h1
      obtain rfl : r = [] := List.eq_nil_of_length_eq_zero (by simp at h2; omega)
      have hz : headC [z] 0 < 128 := h1.2
      have e1 : rawE [z] 0 = 0 := if_pos hz
      have e2 : rawFrom [z] 0 = 0 := if_pos hz
      have e3 : rawN [z] 0 = 1 := if_pos hz
      have hE : lookE [z] ((0 : Nat) : Int) = 0 := by
        unfold lookE
        rw [if_neg (by simp), if_neg (by simp), Int.toNat_natCast, if_neg (by rw [e1]; simp), if_neg (by rw [e2, e3]; simp), if_neg (by omega)]
      have hF : lookFrom [z] ((0 : Nat) : Int) = 0 := by unfold lookFrom; rw [if_pos hE, Int.toNat_natCast, e2]
      have hN : lookN [z] ((0 : Nat) : Int) = 1 := by unfold lookN; rw [if_pos hE, Int.toNat_natCast, e3]
      have hL : lookL [z] ((0 : Nat) : Int) = false := by unfold lookL; rw [if_pos hE, Int.toNat_natCast]; exact decide_eq_false (by omega)
      rw [item_bytes (by omega) hE hL, hF, hN]
      have : b = ⟨#[z]⟩ := ba_ext (by rw [hb])
      rw [this]; rfl
  · rw [if_neg h1] at h ⊢
    rw [List.length_append, h2] at h
    obtain ⟨q1, q2, q3, q4⟩ := look_head b.size 128 b.data.toList (by omega) (.inl rfl) (by omega) (by rintro ⟨_, g1, g2⟩; exact h1 ⟨g1, g2⟩)
    have q4 : lookL (headL b.size 128 ++ b.data.toList) ((0 : Nat) : Int) = false := q4
    have q5 := (look_ok q1).2.2.2.2.2
    rw [q4] at q5
    have q5 : ¬ 192 ≤ headC (headL b.size 128 ++ b.data.toList) 0 := of_decide_eq_false q5.symm
    rw [item_bytes (fun g => q5 g.2.1) q1 q4, q2, q3, List.drop_left' rfl, List.take_of_length_le (by omega), List.length_append, h2]
mutual
/-- WHAT IS ENCODED IS DECODED -/
theorem back_item : ∀ (x : Itm) (k : Nat), k ≤ 12 → formF x (12 - k) = 0 → (bytesF x).length ≤ 65536 → itemF k (bytesF x) 0 = .ok (x, (bytesF x).length)
  | .mk l b xs, k, hk, hf, hl => by
    rw [formF] at hf
    rw [bytesF] at hl ⊢
    split at hf
    · cases hf
    rename_i h1
    cases l with
    | false =>
      have : xs = [] := List.eq_nil_of_length_eq_zero (Classical.byContradiction fun h2 => h1 (.inr ⟨rfl, h2⟩))
      subst this
      exact text_back b k hl
    | true =>
      have hb := size_zero (b := b) (Classical.byContradiction fun h2 => h1 (.inl ⟨rfl, h2⟩))
      subst hb
      rw [if_neg (by simp)] at hf
      split at hf
      · cases hf
      rename_i h3
      split at hf
      · cases hf
      rename_i h4
      obtain ⟨j, rfl⟩ : ∃ j, k = j + 1 := ⟨k - 1, by omega⟩
      rw [show 12 - (j + 1) + 1 = 12 - j by omega] at hf
      rw [if_pos rfl] at hl ⊢
      have hl2 := hl
      rw [List.length_append] at hl2
      obtain ⟨q1, q2, q3, q4⟩ := look_head (bytesL xs).length 192 (bytesL xs) (by omega) (.inr rfl) (by omega) (by omega)
      rw [item_list q1 (by rw [q4]; rfl), q2, q3, ← List.length_append, List.take_length,
        back_items xs j (by omega) hf (headL (bytesL xs).length 192 ++ bytesL xs) (headL (bytesL xs).length 192).length 0 513 hl (by rw [List.drop_left' rfl]) (by rw [List.length_append]) (by omega) (by omega)]
      rfl
theorem back_items : ∀ (xs : List Itm) (k : Nat), k ≤ 12 → formL xs (12 - k) = 0 → ∀ (L : List UInt8) (p i f : Nat), L.length ≤ 65536 → L.drop p = bytesL xs → p + (bytesL xs).length = L.length → xs.length + i ≤ 512 → xs.length < f → itemsF (itemF k L) L.length f i p = .ok xs
  | [], k, hk, hf, L, p, i, f, hL, hd, hp, hi, hff => by
    obtain ⟨f, rfl⟩ : ∃ j, f = j + 1 := ⟨f - 1, by simp at hff; omega⟩
    unfold itemsF
    rw [bytesL] at hp
    rw [if_neg (by simp at hp; omega)]
  | x :: xs, k, hk, hf, L, p, i, f, hL, hd, hp, hi, hff => by
    obtain ⟨f, rfl⟩ : ∃ j, f = j + 1 := ⟨f - 1, by simp at hff; omega⟩
    rw [formL] at hf
    split at hf
    · rename_i h1; exact absurd hf h1
    rename_i h1
    have h1 : formF x (12 - k) = 0 := by simpa using h1
    rw [bytesL] at hd hp
    rw [List.length_append] at hp
    rw [List.length_cons] at hi hff
    have hx := back_item x k hk h1 (by omega)
    have hs := item_shift k k (Nat.le_refl _) hx (l' := L) (a' := p) (fun j hj => by
      have := congrArg (fun l => l[j]?) hd
      simp only [List.getElem?_drop] at this
      rw [this, List.getElem?_append_left (by omega), Nat.zero_add])
    have hpos := bytesF_pos x
    rw [Nat.sub_zero] at hs
    have hr := back_items xs k hk hf L ((bytesF x).length + p) (i + 1) f hL (by
      rw [Nat.add_comm, ← List.drop_drop, hd, List.drop_left' rfl]) (by omega) (by omega) (by omega)
    unfold itemsF
    rw [if_pos (by omega), if_neg (by omega), hs]
    show (match itemsF (itemF k L) L.length f (i + 1) ((bytesF x).length + p) with | .error e => Except.error e | .ok ys => .ok (x :: ys)) = _
    rw [hr]
end
theorem decode_back {x : Itm} (h : checkI x = 0) : decodeF (bytesF x) = .ok x := by
  obtain ⟨h1, h2, h3⟩ := check_form h
  unfold decodeF
  rw [if_neg (by omega), back_item x 12 (by omega) h3 h2]
  exact if_neg (by omega)
theorem decode_cut {x : Itm} (h : checkI x = 0) {cut : Nat} (hc : cut < (bytesF x).length) : decodeF ((bytesF x).take cut) = .error 3 := by
  obtain ⟨h1, h2, h3⟩ := check_form h
  have h4 : lookE ((bytesF x).take cut) ((0 : Nat) : Int) = 3 := by
    rw [bytesF_eq] at hc h2 ⊢
    have hone : ∀ l : List UInt8, cut < l.length → l.length = 1 → lookE (l.take cut) ((0 : Nat) : Int) = 3 := by
      intro l g1 g2
      obtain rfl : cut = 0 := by omega
      rfl
    split at hc
    · rename_i g
      rw [if_pos g, List.length_append] at h2
      rw [if_pos g]
      exact look_cut _ _ _ (by omega) (.inr rfl) rfl cut hc
    · rename_i g
      rw [if_neg g] at h2 ⊢
      have e : x.bytes.data.toList.length = x.bytes.size := Array.length_toList
      unfold bytesT at hc h2 ⊢
      split at hc
      · rename_i g1
        rw [if_pos g1]
        exact hone _ hc (by omega)
      · rename_i g1
        rw [if_neg g1, List.length_append] at h2
        rw [if_neg g1]
        exact look_cut _ _ _ (by omega) (.inl rfl) e.symm cut hc
  unfold decodeF
  rw [if_neg (by rw [List.length_take]; omega)]
  have : itemF 12 ((bytesF x).take cut) 0 = .error 3 := by
    show itemG (some (itemF 11)) _ 0 = _
    unfold itemG
    rw [if_neg (by rintro ⟨_, _, x⟩; cases x), if_pos (by rw [h4]; decide), h4]
  rw [this]
theorem decode_more {x : Itm} (h : checkI x = 0) {more : List UInt8} (hm : more ≠ []) : decodeF (bytesF x ++ more) = .error (if 65536 < (bytesF x).length + more.length then 5 else 4) := by
  obtain ⟨h1, h2, h3⟩ := check_form h
  have hl : 1 ≤ more.length := by cases more with
    | nil => exact absurd rfl hm
    | cons a l => simp
  unfold decodeF
  rw [List.length_append]
  split
  · rfl
  · rename_i g
    rw [item_shift 12 12 (Nat.le_refl _) (back_item x 12 (by omega) h3 h2) (l' := bytesF x ++ more) (a' := 0) (fun j hj => by
      rw [List.getElem?_append_left (by omega)])]
    exact if_pos (by omega)

/-- items that are read, as they are written -/
theorem items_only {l : List UInt8} {rd : Nat → Except Int (Itm × Nat)} {en d : Nat} (hen : en ≤ l.length)
    (hrd : ∀ p y q, rd p = .ok (y, q) → p < q ∧ q ≤ en ∧ bytesF y = (l.drop p).take (q - p) ∧ formF y d = 0 ∧ wtF y ≤ 11 * (q - p)) (f : Nat) :
    ∀ (i p : Nat) (xs : List Itm), p ≤ en → i ≤ 512 → itemsF rd en f i p = .ok xs → bytesL xs = (l.drop p).take (en - p) ∧ formL xs d = 0 ∧ wtL xs ≤ 11 * (en - p) ∧ xs.length + i ≤ 512 := by
  induction f with
  | zero => intro i p xs _ _ h; cases h
  | succ f ih =>
    intro i p xs hp hi h
    cases xs with
    | nil =>
      have := items_last h
      obtain rfl : p = en := by omega
      rw [Nat.sub_self, List.take_zero]
      exact ⟨rfl, rfl, by simp [wtL], by simp; omega⟩
    | cons x xs =>
      obtain ⟨h1, q, h2, h3⟩ := items_next h
      have hi2 : i < 512 := by
        unfold itemsF at h
        rw [if_pos h1] at h
        by_cases g : 512 ≤ i
        · rw [if_pos g] at h; cases h
        · omega
      obtain ⟨r1, r2, r3, r4, r5⟩ := hrd _ _ _ h2
      obtain ⟨s1, s2, s3, s4⟩ := ih (i + 1) q xs r2 (by omega) h3
      refine ⟨?_, ?_, ?_, ?_⟩
      · rw [bytesL, r3, s1, show en - p = (q - p) + (en - q) by omega, List.take_add, List.drop_drop, show p + (q - p) = q by omega]
      · rw [formL, if_neg (by rw [r4]; simp)]; exact s2
      · rw [wtL]; omega
      · rw [List.length_cons]; omega
/-- WHAT IS DECODED IS ENCODED JUST SO -/
theorem only_item : ∀ (k : Nat), k ≤ 12 → ∀ {l : List UInt8} {a q : Nat} {x : Itm}, itemF k l a = .ok (x, q) → bytesF x = (l.drop a).take (q - a) ∧ formF x (12 - k) = 0 ∧ wtF x ≤ 11 * (q - a) := by
  have text : ∀ {l : List UInt8} {a d : Nat}, lookE l (a : Int) = 0 → lookL l (a : Int) = false → bytesF (.mk false ⟨((l.drop (lookFrom l a)).take (lookN l a)).toArray⟩ []) = (l.drop a).take (lookFrom l a + lookN l a - a) ∧ formF (.mk false ⟨((l.drop (lookFrom l a)).take (lookN l a)).toArray⟩ []) d = 0 ∧ wtF (.mk false ⟨((l.drop (lookFrom l a)).take (lookN l a)).toArray⟩ []) ≤ 11 * (lookFrom l a + lookN l a - a) := by
    intro l a d h hL
    obtain ⟨b0, b1, b2, b3, b4, b5⟩ := look_ok h
    rw [hL] at b5
    have b5 : ¬ 192 ≤ headC l a := of_decide_eq_false b5.symm
    have hz : ((l.drop (lookFrom l a)).take (lookN l a)).length = lookN l a := by rw [List.length_take, List.length_drop]; omega
    refine ⟨?_, ?_, ?_⟩
    · rw [bytesF, if_neg (by simp)]
      unfold bytesT
      have hsz : (ByteArray.mk ((l.drop (lookFrom l a)).take (lookN l a)).toArray).size = lookN l a := by
        show (List.toArray _).size = _
        rw [List.size_toArray, hz]
      rw [hsz]
      show (if _ ∧ ((((l.drop (lookFrom l a)).take (lookN l a))).getD 0 0).toNat < 128 then (l.drop (lookFrom l a)).take (lookN l a) else _ ++ (l.drop (lookFrom l a)).take (lookN l a)) = _
      have hg : 0 < lookN l a → (((l.drop (lookFrom l a)).take (lookN l a)).getD 0 0).toNat = headC l (lookFrom l a) := by
        intro h0
        unfold headC
        rw [List.getD_eq_getElem?_getD, List.getElem?_take_of_lt h0, List.getElem?_drop, Nat.add_zero, ← List.getD_eq_getElem?_getD]
      by_cases hc : headC l a < 128
      · have e1 : lookFrom l (a : Int) = a := by unfold lookFrom; rw [if_pos h, Int.toNat_natCast]; exact if_pos hc
        have e2 : lookN l (a : Int) = 1 := by unfold lookN; rw [if_pos h, Int.toNat_natCast]; exact if_pos hc
        rw [if_pos ⟨e2, by rw [hg (by omega), e1]; exact hc⟩, e1, e2, show a + 1 - a = 1 by omega]
      · have hh := head_only h (by omega)
        rw [if_neg b5] at hh
        rw [if_neg, ← hh]
        · conv => rhs; rw [show lookFrom l (a : Int) + lookN l (a : Int) - a = (lookFrom l (a : Int) - a) + lookN l (a : Int) by omega, List.take_add, List.drop_drop, show a + (lookFrom l (a : Int) - a) = lookFrom l (a : Int) by omega]
        · rintro ⟨g1, g2⟩
          rw [hg (by omega)] at g2
          have e1 : lookFrom l (a : Int) = rawFrom l a := by unfold lookFrom; rw [if_pos h, Int.toNat_natCast]
          have e2 : lookN l (a : Int) = rawN l a := by unfold lookN; rw [if_pos h, Int.toNat_natCast]
          rw [e2] at g1
          rw [e1] at g2
          have h' := h
          unfold lookE at h'
          rw [if_neg (by omega), if_neg (by omega), Int.toNat_natCast] at h'
          split at h'
          · rename_i g; exact absurd h' g
          rename_i gE
          have gE : rawE l a = 0 := by simpa using gE
          split at h'
          · cases h'
          split at h'
          · cases h'
          rename_i g4
          unfold rawE at gE
          unfold rawN at g1
          unfold rawFrom at g2
          rw [if_neg hc] at gE g1 g2
          have hlt := headC_lt l a
          split at g1
          · rename_i g5
            rw [if_pos g5] at g2
            exact g4 ⟨by omega, g2⟩
          · rename_i g5
            rw [if_neg g5] at gE
            unfold lengthE at gE
            split at gE
            · cases gE
            split at gE
            · cases gE
            split at gE
            · cases gE
            rename_i g6
            exact g6 (.inr (by omega))
    · rw [formF, if_neg (by simp), if_pos rfl]
    · rw [wtF]
      show 10 + (List.toArray _).size + wtL [] ≤ _
      rw [List.size_toArray, hz, wtL]
      omega
  intro k
  induction k with
  | zero =>
    intro hk l a q x h
    obtain ⟨h1, h2, h3⟩ := item_ok h
    subst h3
    have hg : itemG none l a = _ := h
    unfold itemG at hg
    rw [if_neg (by rintro hh; rw [if_pos hh] at hg; cases hg), if_neg (by simpa using h1)] at hg
    clear h
    split at hg
    · rename_i hL
      injection hg with h; injection h with h _
      rw [← h]
      exact text h1 hL
    · cases hg
  | succ k ih =>
    intro hk l a q x h
    obtain ⟨h1, h2, h3⟩ := item_ok h
    cases hL : lookL l (a : Int) with
    | false =>
      rw [item_bytes (by rintro ⟨_, _, g⟩; cases g) h1 hL] at h
      injection h with h; injection h with h _
      subst h3
      rw [← h]
      exact text h1 hL
    | true =>
      obtain ⟨b0, b1, b2, b3, b4, b5⟩ := look_ok h1
      rw [hL] at b5
      have b5 : 192 ≤ headC l a := of_decide_eq_true b5.symm
      have hh := head_only h1 (by omega)
      rw [if_pos b5] at hh
      have hFa : a < lookFrom l (a : Int) := by
        have e := congrArg List.length hh
        have := headL_pos (lookN l (a : Int)) 192
        rw [List.length_take] at e
        omega
      rw [item_list h1 hL] at h
      subst h3
      split at h
      · cases h
      · rename_i xs hxs
        injection h with h; injection h with h _
        rw [← h]
        obtain ⟨r1, r2, r3, r4⟩ := items_only (l := l) (d := 12 - k) b1 (fun p y q hy => by
          obtain ⟨s1, s2, s3⟩ := item_ok hy
          obtain ⟨c0, c1, c2, c3, _, _⟩ := look_ok s1
          rw [← s3] at c1 c3
          obtain ⟨t1, t2, t3⟩ := ih (by omega) hy
          rw [List.length_take] at c1
          refine ⟨c3, by omega, ?_, t2, t3⟩
          rw [t1, List.drop_take, List.take_take, Nat.min_eq_left (by omega)]) 513 0 _ xs (by omega) (by omega) hxs
        rw [show lookFrom l (a : Int) + lookN l (a : Int) - lookFrom l (a : Int) = lookN l (a : Int) by omega] at r1 r3
        have hbl : (bytesL xs).length = lookN l (a : Int) := by rw [r1, List.length_take, List.length_drop]; omega
        refine ⟨?_, ?_, ?_⟩
        · rw [bytesF, if_pos rfl, hbl, ← hh, r1]
          conv => rhs; rw [show lookFrom l (a : Int) + lookN l (a : Int) - a = (lookFrom l (a : Int) - a) + lookN l (a : Int) by omega, List.take_add, List.drop_drop, show a + (lookFrom l (a : Int) - a) = lookFrom l (a : Int) by omega]
        · rw [formF, if_neg (by simp), if_neg (by simp), if_neg (by omega), if_neg (by omega), show 12 - (k + 1) + 1 = 12 - k by omega]
          exact r2
        · rw [wtF, show ByteArray.empty.size = 0 from rfl]
          omega
theorem decode_only {l : List UInt8} {x : Itm} (h : decodeF l = .ok x) : checkI x = 0 ∧ bytesF x = l ∧ wtF x ≤ 11 * l.length := by
  obtain ⟨g1, g2, g3⟩ := decode_head h
  unfold decodeF at h
  split at h
  · cases h
  rename_i hl
  split at h
  · cases h
  · rename_i y q hi
    split at h
    · cases h
    · rename_i hq
      injection h with h; subst h
      obtain ⟨_, _, e⟩ := item_ok hi
      have e : q = l.length := by rw [← g3, e]; rfl
      obtain ⟨r1, r2, r3⟩ := only_item 12 (by omega) hi
      rw [e, Nat.sub_zero, List.drop_zero, List.take_length] at r1
      rw [e] at r3
      refine ⟨?_, r1, by omega⟩
      unfold checkI
      rw [if_neg (by rw [show (0 : Nat) = 12 - 12 from rfl, r2]; simp), if_neg (by rw [r1]; omega)]
end Go.Proofs.YthalohloneojlaaGreatDoor
/- What is decoded: how many items each item has. -/
namespace Go.Proofs.YthalohloneojlaaGreatDoor
open Go.RowKit Go.Shelf
set_option linter.unusedVariables false

theorem formL_mem {xs : List Itm} {d : Nat} (h : formL xs d = 0) : ∀ y ∈ xs, formF y d = 0 := by
  induction xs with
  | nil => intro y hy; cases hy
  | cons x xs ih =>
    rw [formL] at h
    by_cases h1 : formF x d = 0
    · rw [if_neg (by simp [h1])] at h
      intro y hy
      rcases List.mem_cons.1 hy with e | e
      · exact e ▸ h1
      · exact ih h y e
    · rw [if_pos h1] at h; exact absurd h h1
theorem formF_len {y : Itm} {d : Nat} (h : formF y d = 0) : y.items.length ≤ 512 ∧ ∀ z ∈ y.items, formF z (d + 1) = 0 := by
  rw [formF_eq] at h
  split at h
  · cases h
  rename_i h5
  split at h
  · rename_i h6
    have : y.items = [] := by
      by_cases h7 : y.items.length = 0
      · exact List.length_eq_zero_iff.1 h7
      · exact absurd (.inr ⟨h6, h7⟩) h5
    rw [this]
    exact ⟨by simp, fun z hz => by cases hz⟩
  · split at h
    · cases h
    split at h
    · cases h
    exact ⟨by omega, formL_mem h⟩
theorem form_dec {l : List UInt8} {x : Itm} (hd : decodeF l = .ok x) : formF x 0 = 0 := by
  obtain ⟨d1, d2, -⟩ := decode_only hd
  unfold checkI at d1
  split at d1
  · rename_i g1; exact absurd d1 g1
  rename_i g1
  simpa using g1
theorem form_hd {l : List Itm} {d : Nat} (h : ∀ z ∈ l, formF z d = 0) : (l.headD Itm.none_).items.length ≤ 512 ∧ ∀ z ∈ (l.headD Itm.none_).items, formF z (d + 1) = 0 := by
  cases l with
  | nil => exact ⟨by decide, fun z hz => by cases hz⟩
  | cons y ys => exact formF_len (h y (by simp))
theorem form_tl {l : List Itm} {d : Nat} (h : ∀ z ∈ l, formF z d = 0) : ∀ z ∈ l.tail, formF z d = 0 := fun z hz => h z (List.mem_of_mem_tail hz)
end Go.Proofs.YthalohloneojlaaGreatDoor
/- Receipts, the document's: Decode.  Printed by wip/genRdM.py -/
namespace Go.Proofs.YthalohloneojlaaGreatDoor
open Go.RowKit Go.Shelf
set_option linter.unusedVariables false
set_option linter.unusedSimpArgs false

theorem exec_storeR {W : World} {a : Act} {o : Oper} {g : Nat} {z0 z1 z2 z3 z4 z5 z6 : Value} {kd : Int} {st fu : Bool} {ga no ve : Int} {A : Option Addr} {n c : Nat} (x y : Operand) (ho : o.op = .store 25 x y) (hx : a.eval x = .pointer (some ⟨g, 0, none⟩)) (hy : a.eval y = .agg #[.int .i64 kd, .bool st, .int .u64 ga, .slice A n c, .bool fu, .int .u64 no, .int .u64 ve])
    (hb : Blk W g 25 #[z0, z1, z2, z3, z4, z5, z6]) :
    (execOp a.eval o).run Tryz.prog W = .ok .skip (set7 W g (.int .i64 kd) (.bool st) (.int .u64 ga) (.slice A n c) (.bool fu) (.int .u64 no) (.int .u64 ve)) := by
  have hsz' := Tryz.sizeOf25
  have c0 := hb.cell 0; have c1 := hb.cell 1; have c2 := hb.cell 2; have c3 := hb.cell 3; have c4 := hb.cell 4; have c5 := hb.cell 5; have c6 := hb.cell 6
  have f0 := hb.frozen 0; have f1 := hb.frozen 1; have f2 := hb.frozen 2; have f3 := hb.frozen 3; have f4 := hb.frozen 4; have f5 := hb.frozen 5; have f6 := hb.frozen 6
  simp only [List.getElem?_toArray, List.getElem?_cons_zero, List.getElem?_cons_succ] at c0 c1 c2 c3 c4 c5 c6
  unfold execOp set7
  simp only [ho, hx, hy]
  simp [go_sem, c0, c1, c2, c3, c4, c5, c6, f0, f1, f2, f3, f4, f5, f6, hsz']
theorem cell_set7 {w : World} {b : Nat} (x0 x1 x2 x3 x4 x5 x6 : Value) {p : Addr} (hne : b ≠ p.block) : (set7 w b x0 x1 x2 x3 x4 x5 x6).cell? p = w.cell? p := by
  unfold set7
  rw [World.cell?_setCell_far _ _ _ _ hne, World.cell?_setCell_far _ _ _ _ hne, World.cell?_setCell_far _ _ _ _ hne, World.cell?_setCell_far _ _ _ _ hne, World.cell?_setCell_far _ _ _ _ hne, World.cell?_setCell_far _ _ _ _ hne, World.cell?_setCell_far _ _ _ _ hne]
set_option maxRecDepth 100000 in
set_option maxHeartbeats 1000000 in
theorem decD_none (w : World) : Calls Tryz.prog 19 #[.string ⟨#[]⟩] w (RcEnd (getR []) w) := by
  obtain ⟨G, hGG⟩ : ∃ G, getR [] = G := ⟨_, rfl⟩
  have HGG : Hid (G = (3, Rcp.zero)) := Lib.hid (by rw [← hGG]; exact if_pos rfl)
  rw [hGG]
  clear hGG
  have hB := Blk.new w 25 #[.int .i64 0, .bool false, .int .u64 0, .slice none 0 0, .bool false, .int .u64 0, .int .u64 0]
  have hG := only_alloc (World.grownBy.refl w none) (.cells #[.int .i64 0, .bool false, .int .u64 0, .slice none 0 0, .bool false, .int .u64 0, .int .u64 0] 25)
  obtain ⟨b, hb⟩ : ∃ b, w.heap.size = b := ⟨_, rfl⟩
  rw [hb] at hB
  have HB := Lib.hid hB; have HG := Lib.hid hG; have HW := Lib.hid hb
  clear hB hG
  go_enter Tryz.func19, Tryz.ntmps19
  go_upto_region 1 with (fail)
  clear hb
  generalize w.alloc (.cells #[.int .i64 0, .bool false, .int .u64 0, .slice none 0 0, .bool false, .int .u64 0, .int .u64 0] 25) = w1 at *
  obtain ⟨z0, z1, z2, z3, z4, z5, z6, hB⟩ : ∃ z0 z1 z2 z3 z4 z5 z6, Blk _ b 25 #[z0, z1, z2, z3, z4, z5, z6] := ⟨_, _, _, _, _, _, _, HB.out⟩
  have HT := Lib.hid (blk_set7 hB (.int .i64 0) (.bool false) (.int .u64 0) (.slice none 0 0) (.bool false) (.int .u64 0) (.int .u64 0))
  have HGT := Lib.hid (only_set7 HG.out (show w.heap.size ≤ b by have := HW.out; omega) (.int .i64 0) (.bool false) (.int .u64 0) (.slice none 0 0) (.bool false) (.int .u64 0) (.int .u64 0))
  have e0 := hB.cell 0; have e1 := hB.cell 1; have e2 := hB.cell 2; have e3 := hB.cell 3; have e4 := hB.cell 4; have e5 := hB.cell 5; have e6 := hB.cell 6
  have f0 := hB.frozen 0; have f1 := hB.frozen 1; have f2 := hB.frozen 2; have f3 := hB.frozen 3; have f4 := hB.frozen 4; have f5 := hB.frozen 5; have f6 := hB.frozen 6
  simp only [List.getElem?_toArray, List.getElem?_cons_zero, List.getElem?_cons_succ] at e0 e1 e2 e3 e4 e5 e6
  clear hB HB HG
  go_wp2_with fail
  have hq := HT.out
  have hr := HGT.out
  unfold set7 at hq hr
  refine bodyPost_ret (results_ct (fn := Tryz.f19) rfl _ _ _ _ rfl (load_rcF hq)) rfl ?_
  exact RcEnd.bad HGG.out hr
set_option maxRecDepth 100000 in
set_option maxHeartbeats 8000000 in
theorem decD_some (s : ByteArray) (hs : s.size ≤ 9223372036854775807) (w : World) (h : s ≠ ⟨#[]⟩) : Calls Tryz.prog 19 #[.string s] w (RcEnd (getR s.data.toList) w) := by
  obtain ⟨g0, q0, q1, q2, q3⟩ := some_str h
  obtain ⟨C, hC⟩ : ∃ C, (s[0]'g0).toNat = C := ⟨_, rfl⟩
  have hC256 : C < 256 := by rw [← hC]; exact UInt8.toNat_lt _
  have hR : getR s.data.toList = if C < 192 then (if C = 0 ∨ isKind (C : Int) = false then (9, Rcp.zero) else bodyR (C : Int) (s.extract 1 s.size).data.toList) else bodyR 0 s.data.toList := by
    unfold getR
    rw [if_neg q0, q3, hC, drop1]
  obtain ⟨G, hGG⟩ : ∃ G, getR s.data.toList = G := ⟨_, rfl⟩
  rw [hGG] at hR ⊢
  have HR := Lib.hid hR
  have hB := Blk.new w 25 #[.int .i64 0, .bool false, .int .u64 0, .slice none 0 0, .bool false, .int .u64 0, .int .u64 0]
  have hG := only_alloc (World.grownBy.refl w none) (.cells #[.int .i64 0, .bool false, .int .u64 0, .slice none 0 0, .bool false, .int .u64 0, .int .u64 0] 25)
  obtain ⟨b, hb⟩ : ∃ b, w.heap.size = b := ⟨_, rfl⟩
  rw [hb] at hB
  have HB := Lib.hid hB; have HG := Lib.hid hG; have HW := Lib.hid hb
  clear hR hGG hB hG q0 q3 h
  have hx1 : (1 : Int) ≤ (s.size : Int) := by omega
  go_enter Tryz.func19, Tryz.ntmps19
  go_upto_region 1 with (fail)
  clear hb
  generalize w.alloc (.cells #[.int .i64 0, .bool false, .int .u64 0, .slice none 0 0, .bool false, .int .u64 0, .int .u64 0] 25) = w1 at *
  obtain ⟨dd, hdd⟩ : ∃ d, decide ((C : Int) < 192) = d := ⟨_, rfl⟩
  have HDD := Lib.hid hdd
  go_upto_if 16 with (fail)
  clear hdd
  go_cut [0, 4] (fun x k wx => ∃ (T : ByteArray) (K : Int), x = .string T ∧ k = .int .i64 K ∧ Hid (G = bodyR K T.data.toList) ∧ T.size ≤ 9223372036854775807 ∧ wx = w1)
  case first =>
    have HK := Lib.hid (fun V => manyD_any (C : Int) V)
    by_cases h1 : C < 192
    · obtain rfl : dd = true := by rw [← HDD.out]; exact decide_eq_true (by omega)
      have hr := HR.out
      rw [if_pos h1] at hr
      by_cases h2 : C = 0
      · have d2 : ((C : Int) == 0) = true := by subst h2; rfl
        rw [if_pos (.inl h2)] at hr
        have HRR := Lib.hid hr
        clear hr h1 h2 HR HK
        obtain ⟨z0, z1, z2, z3, z4, z5, z6, hB⟩ : ∃ z0 z1 z2 z3 z4 z5 z6, Blk _ b 25 #[z0, z1, z2, z3, z4, z5, z6] := ⟨_, _, _, _, _, _, _, HB.out⟩
        have HT := Lib.hid (blk_set7 hB (.int .i64 0) (.bool false) (.int .u64 0) (.slice none 0 0) (.bool false) (.int .u64 0) (.int .u64 0))
        have HGT := Lib.hid (only_set7 HG.out (show w.heap.size ≤ b by have := HW.out; omega) (.int .i64 0) (.bool false) (.int .u64 0) (.slice none 0 0) (.bool false) (.int .u64 0) (.int .u64 0))
        have e0 := hB.cell 0; have e1 := hB.cell 1; have e2 := hB.cell 2; have e3 := hB.cell 3; have e4 := hB.cell 4; have e5 := hB.cell 5; have e6 := hB.cell 6
        have f0 := hB.frozen 0; have f1 := hB.frozen 1; have f2 := hB.frozen 2; have f3 := hB.frozen 3; have f4 := hB.frozen 4; have f5 := hB.frozen 5; have f6 := hB.frozen 6
        simp only [List.getElem?_toArray, List.getElem?_cons_zero, List.getElem?_cons_succ] at e0 e1 e2 e3 e4 e5 e6
        clear hB 
        go_wp2_with fail
        have hq := HT.out
        have hr := HGT.out
        unfold set7 at hq hr
        refine bodyPost_ret (results_ct (fn := Tryz.f19) rfl _ _ _ _ rfl (load_rcF hq)) rfl ?_
        exact RcEnd.bad HRR.out hr
      · have d2 : ((C : Int) == 0) = false := by simp; omega
        obtain ⟨M, hM⟩ : ∃ M, manyF (C : Int) = M := ⟨_, rfl⟩
        rw [hM] at HK
        cases h3 : isKind (C : Int) with
        | false =>
          rw [if_pos (.inr h3)] at hr
          have hM0 : M = 0 := by rw [← hM]; exact (manyF_0 _).2 h3
          have d3 : (M == 0) = true := by simp [hM0]
          have HRR := Lib.hid hr
          clear hr h1 h2 h3 HR hM0 hM
          go_wp2_with fail
          refine (HK.out _).mono ?_
          rintro e w3 ⟨rfl, rfl⟩
          obtain ⟨z0, z1, z2, z3, z4, z5, z6, hB⟩ : ∃ z0 z1 z2 z3 z4 z5 z6, Blk _ b 25 #[z0, z1, z2, z3, z4, z5, z6] := ⟨_, _, _, _, _, _, _, HB.out⟩
          have HT := Lib.hid (blk_set7 hB (.int .i64 0) (.bool false) (.int .u64 0) (.slice none 0 0) (.bool false) (.int .u64 0) (.int .u64 0))
          have HGT := Lib.hid (only_set7 HG.out (show w.heap.size ≤ b by have := HW.out; omega) (.int .i64 0) (.bool false) (.int .u64 0) (.slice none 0 0) (.bool false) (.int .u64 0) (.int .u64 0))
          have e0 := hB.cell 0; have e1 := hB.cell 1; have e2 := hB.cell 2; have e3 := hB.cell 3; have e4 := hB.cell 4; have e5 := hB.cell 5; have e6 := hB.cell 6
          have f0 := hB.frozen 0; have f1 := hB.frozen 1; have f2 := hB.frozen 2; have f3 := hB.frozen 3; have f4 := hB.frozen 4; have f5 := hB.frozen 5; have f6 := hB.frozen 6
          simp only [List.getElem?_toArray, List.getElem?_cons_zero, List.getElem?_cons_succ] at e0 e1 e2 e3 e4 e5 e6
          clear hB HK
          go_wp2_with fail
          have hq := HT.out
          have hr := HGT.out
          unfold set7 at hq hr
          refine bodyPost_ret (results_ct (fn := Tryz.f19) rfl _ _ _ _ rfl (load_rcF hq)) rfl ?_
          exact RcEnd.bad HRR.out hr
        | true =>
          have hM0 : (M == 0) = false := by
            simp only [beq_eq_false_iff_ne, ne_eq]
            intro e
            rw [← hM] at e
            rw [(manyF_0 _).1 e] at h3
            cases h3
          rw [if_neg (by rintro (e | e); exact h2 e; rw [h3] at e; cases e)] at hr
          have HRR := Lib.hid hr
          clear hr h1 h2 h3 HR hM
          go_wp2_with fail
          refine (HK.out _).mono ?_
          rintro e w3 ⟨rfl, rfl⟩
          go_wp2_with fail
          go_meet
          exact ⟨_, _, rfl, rfl, Lib.hid HRR.out, by simp; omega, rfl⟩
    · obtain rfl : dd = false := by rw [← HDD.out]; exact decide_eq_false (by omega)
      have hr := HR.out
      rw [if_neg h1] at hr
      have HRR := Lib.hid hr
      clear hr h1 HR
      go_wp2_with fail
      go_meet
      exact ⟨_, _, rfl, rfl, Lib.hid HRR.out, hs, rfl⟩
  case rest =>
    obtain ⟨t, K, rfl, rfl, hGB, hT, rfl⟩ := hcut
    have HGB := Lib.hid hGB.out
    have HD := Lib.hid (fun V => decode05_any t V hT)
    clear hGB HR HDD hx1 q1 q2
    go_wp2_with fail
    refine (HD.out _).mono ?_
    rintro e w2 ⟨lst, bb, sA, sn, sc, E', rfl, hg2, htail⟩
    cases hd : decodeF t.data.toList with
    | error E =>
      have hEE := dec_err htail hd
      subst hEE
      have hne : E' ≠ 0 := by
        rcases htail with ⟨x, k1, _⟩ | ⟨k1, k2, _⟩
        · rw [hd] at k1; cases k1
        · exact k2
      have hGE : G = (E', Rcp.zero) := by
        rw [HGB.out]
        unfold bodyR
        rw [hd]
        show ((if E' = 0 then 3 else E'), Rcp.zero) = _
        rw [if_neg hne]
      have e1 : (E' != 0) = true := by simpa using hne
      have HGE := Lib.hid hGE
      have HG2 := Lib.hid (only_alloc (grown_self HG.out hg2 (by simp)) (.cells #[.bool lst, .string bb, .slice sA sn sc] 45))
      have HB3 := Lib.hid ((HB.out.grown hg2 (by simp)).alloc (.cells #[.bool lst, .string bb, .slice sA sn sc] 45))
      clear hGE hne htail hg2 hd HD HG HB HGB
      go_upto_region 10 with (fail)
      generalize w2.alloc (.cells #[.bool lst, .string bb, .slice sA sn sc] 45) = w3 at *
      obtain ⟨z0, z1, z2, z3, z4, z5, z6, hB⟩ : ∃ z0 z1 z2 z3 z4 z5 z6, Blk _ b 25 #[z0, z1, z2, z3, z4, z5, z6] := ⟨_, _, _, _, _, _, _, HB3.out⟩
      have HT := Lib.hid (blk_set7 hB (.int .i64 0) (.bool false) (.int .u64 0) (.slice none 0 0) (.bool false) (.int .u64 0) (.int .u64 0))
      have HGT := Lib.hid (only_set7 HG2.out (show w.heap.size ≤ b by have := HW.out; omega) (.int .i64 0) (.bool false) (.int .u64 0) (.slice none 0 0) (.bool false) (.int .u64 0) (.int .u64 0))
      have e0 := hB.cell 0; have e1 := hB.cell 1; have e2 := hB.cell 2; have e3 := hB.cell 3; have e4 := hB.cell 4; have e5 := hB.cell 5; have e6 := hB.cell 6
      have f0 := hB.frozen 0; have f1 := hB.frozen 1; have f2 := hB.frozen 2; have f3 := hB.frozen 3; have f4 := hB.frozen 4; have f5 := hB.frozen 5; have f6 := hB.frozen 6
      simp only [List.getElem?_toArray, List.getElem?_cons_zero, List.getElem?_cons_succ] at e0 e1 e2 e3 e4 e5 e6
      clear hB HB3 HG2
      go_wp2_with fail
      have hq := HT.out
      have hr := HGT.out
      unfold set7 at hq hr
      refine bodyPost_ret (results_ct (fn := Tryz.f19) rfl _ _ _ _ rfl (load_rcF hq)) rfl ?_
      exact RcEnd.bad HGE.out hr
    | ok x =>
      obtain ⟨rfl, rfl, rfl, hsub⟩ := dec_ok htail hd
      have hform := form_dec hd
      have hok := decode_okF hd
      have hGX : G = itemR K x := by
        rw [HGB.out]
        unfold bodyR
        rw [hd]
      have hn : x.items.length = sn := hsub.row.1.symm
      have HG2 := Lib.hid (only_alloc (grown_self HG.out hg2 (by simp)) (.cells #[.bool x.list, .string x.bytes, .slice sA sn sc] 45))
      have HB3 := Lib.hid ((HB.out.grown hg2 (by simp)).alloc (.cells #[.bool x.list, .string x.bytes, .slice sA sn sc] 45))
      have hi := Blk.new w2 45 #[.bool x.list, .string x.bytes, .slice sA sn sc]
      have hs3 := SubW.grown hsub.here (only_alloc (World.grownBy.refl w2 none) (.cells #[.bool x.list, .string x.bytes, .slice sA sn sc] 45))
      have HS3 := Lib.hid hs3
      obtain ⟨MO, hMO⟩ : ∃ M, mostR K = M := ⟨_, rfl⟩
      have HMO := Lib.hid hMO
      have hlist := fun V => getListR_any x.list x.bytes sA sn sc 3 MO V
      have hre : (if x.list then textE sn 3 MO else 2) = rowE 3 MO x := by unfold rowE; rw [hn]
      rw [hre] at hlist
      obtain ⟨F, hF⟩ : ∃ F, rowE 3 MO x = F := ⟨_, rfl⟩
      obtain ⟨EO, hEO⟩ : ∃ E, ofE 0 (rowL 3 MO x) = E := ⟨_, rfl⟩
      have hGX2 : G = if F ≠ 0 then (F, Rcp.zero) else if EO ≠ 0 then (EO, Rcp.zero) else (0, ofX K (rowL 3 MO x)) := by
        rw [hGX, ← hF, ← hEO, ← hMO]; rfl
      have hval : F = 0 → (if x.list = true ∧ textE sn 3 MO = 0 then Value.slice sA sn sc else .slice none 0 0) = .slice sA sn sc ∧ rowL 3 MO x = x.items ∧ 3 ≤ sn ∧ sn ≤ 5 := fun h0 => by
        have h1 := rowE_0 (hF.trans h0)
        have hMO5 : MO ≤ 5 := by rw [← hMO]; unfold mostR; split <;> omega
        refine ⟨if_pos ⟨h1.1, ?_⟩, h1.2.1, by have := h1.2.2.1; omega, by have := h1.2.2.2; omega⟩
        have h2 := hre.trans (hF.trans h0)
        rw [h1.1] at h2
        exact h2
      obtain ⟨u, hu⟩ : ∃ u, (if x.list = true ∧ textE sn 3 MO = 0 then Value.slice sA sn sc else .slice none 0 0) = u := ⟨_, rfl⟩
      rw [hu] at hval hlist
      rw [hF] at hlist
      have HLI := Lib.hid hlist; have HVAL := Lib.hid hval; have HGX := Lib.hid hGX2; have HFORM := Lib.hid hform; have HOK := Lib.hid hok; have HEO := Lib.hid hEO
      clear hform hok hGX hn hMO hlist hre hF hEO hGX2 hval hu htail hsub hg2 hd HD HG HB HGB hs3
      generalize x.list = lst at *
      generalize x.bytes = bb at *
      go_upto_region 10 with (fail)
      obtain ⟨g, hg⟩ : ∃ g, w2.heap.size = g := ⟨_, rfl⟩
      rw [hg] at hi ⊢
      clear hg
      generalize w2.alloc (.cells #[.bool lst, .string bb, .slice sA sn sc] 45) = w3 at *
      have i0 := hi.cell 0; have i1 := hi.cell 1; have i2 := hi.cell 2
      simp only [List.getElem?_toArray, List.getElem?_cons_zero, List.getElem?_cons_succ] at i0 i1 i2
      clear hi
      obtain ⟨kk, hkk⟩ : ∃ d, (K == 126) = d := ⟨_, rfl⟩
      have HKK := Lib.hid hkk
      go_upto_if 40 with (fail)
      clear hkk
      go_cut [7] (fun v wx => v = .int .i64 MO ∧ wx = w3)
      case first =>
        cases kk with
        | true =>
          obtain rfl : MO = 5 := by rw [← HMO.out]; exact if_pos (by simpa using HKK.out)
          go_wp2_with fail
          go_meet
          exact ⟨rfl, rfl⟩
        | false =>
          obtain rfl : MO = 3 := by rw [← HMO.out]; exact if_neg (by simpa using HKK.out)
          go_wp2_with fail
          go_meet
          exact ⟨rfl, rfl⟩
      case rest =>
      obtain ⟨rfl, rfl⟩ := hcut
      clear HKK
      go_wp2_with fail
      refine (HLI.out _).mono ?_
      rintro e w4 ⟨rfl, hg4⟩
      have HG4 := Lib.hid (grown_self HG2.out hg4 (by simp)); have HB4 := Lib.hid (HB3.out.grown hg4 (by simp)); have HS4 := Lib.hid (SubW.grown HS3.out hg4)
      clear hg4 HG2 HB3 HS3 i0 i1 i2 HLI
      by_cases h0 : F = 0
      rotate_left
      · have e1 : (F != 0) = true := by simpa using h0
        have hGE : G = (F, Rcp.zero) := by rw [HGX.out]; exact if_pos h0
        have HGE := Lib.hid hGE
        clear hGE h0
        obtain ⟨z0, z1, z2, z3, z4, z5, z6, hB⟩ : ∃ z0 z1 z2 z3 z4 z5 z6, Blk _ b 25 #[z0, z1, z2, z3, z4, z5, z6] := ⟨_, _, _, _, _, _, _, HB4.out⟩
        have HT := Lib.hid (blk_set7 hB (.int .i64 0) (.bool false) (.int .u64 0) (.slice none 0 0) (.bool false) (.int .u64 0) (.int .u64 0))
        have HGT := Lib.hid (only_set7 HG4.out (show w.heap.size ≤ b by have := HW.out; omega) (.int .i64 0) (.bool false) (.int .u64 0) (.slice none 0 0) (.bool false) (.int .u64 0) (.int .u64 0))
        have e0 := hB.cell 0; have e1 := hB.cell 1; have e2 := hB.cell 2; have e3 := hB.cell 3; have e4 := hB.cell 4; have e5 := hB.cell 5; have e6 := hB.cell 6
        have f0 := hB.frozen 0; have f1 := hB.frozen 1; have f2 := hB.frozen 2; have f3 := hB.frozen 3; have f4 := hB.frozen 4; have f5 := hB.frozen 5; have f6 := hB.frozen 6
        simp only [List.getElem?_toArray, List.getElem?_cons_zero, List.getElem?_cons_succ] at e0 e1 e2 e3 e4 e5 e6
        clear hB HB4 HG4
        go_wp2_with fail
        have hq := HT.out
        have hr := HGT.out
        unfold set7 at hq hr
        refine bodyPost_ret (results_ct (fn := Tryz.f19) rfl _ _ _ _ rfl (load_rcF hq)) rfl ?_
        exact RcEnd.bad HGE.out hr
      subst h0
      obtain ⟨rfl, hrl, hn3, hn5⟩ := HVAL.out rfl
      have hform := formF_len HFORM.out
      have hf2 := form_hd (form_tl (form_tl hform.2))
      have hsz : ∀ y ∈ rowL 3 MO x, y.bytes.size ≤ 9223372036854775807 := rowL_sz HOK.out 3 MO
      have hof := ofD_any K (rowL 3 MO x) sA sn sc w4 (by rw [hrl]; exact HS4.out) hn3 hn5 hsz (by rw [hrl]; have := hf2.1; omega) (by rw [hrl]; exact fun z hz => by have := (form_hd (form_tl (formF_len (hf2.2 z hz)).2)).1; omega)
      obtain ⟨XX, hXX⟩ : ∃ X, ofX K (rowL 3 MO x) = X := ⟨_, rfl⟩
      have hGX := HGX.out
      rw [if_neg (by simp), hXX] at hGX
      have hkd : XX.kind = K := by rw [← hXX]; rfl
      unfold GotEnd at hof
      rw [HEO.out, hXX] at hof
      obtain ⟨xk, st, ga, ls, fu, no, ve⟩ := XX
      replace hkd : xk = K := hkd
      subst hkd
      have HOF := Lib.hid hof; have HGX3 := Lib.hid hGX
      clear hrl hn3 hn5 hform hf2 hsz hof hXX hGX HS4 HVAL HGX HFORM HOK HEO HMO
      go_wp2_with fail
      refine (HOF.out).mono ?_
      rintro e w5 ⟨A', m, c', rfl, hlg, hg5⟩
      try simp only at hlg
      have HSZ := Lib.hid hg5.size
      have HG5 := Lib.hid (grown_self HG4.out hg5 (by simp)); have HB5 := Lib.hid (HB4.out.grown hg5 (by simp))
      have hgq := Blk.new w5 75 #[.int .i64 xk, .bool st, .int .u64 (ga : Int), .slice A' m c', .bool fu, .int .u64 (no : Int), .int .u64 (ve : Int), .int .i64 EO]
      have hga := only_alloc (World.grownBy.refl w5 none) (.cells #[.int .i64 xk, .bool st, .int .u64 (ga : Int), .slice A' m c', .bool fu, .int .u64 (no : Int), .int .u64 (ve : Int), .int .i64 EO] 75)
      have HG6 := Lib.hid (grown_self HG5.out hga (by simp)); have HB6 := Lib.hid (HB5.out.grown hga (by simp))
      have HLG := Lib.hid (fun h0 => (hlg h0).keep fun p _ c hc => hga.cell hc (by simp))
      have HLB : Hid (b < w4.heap.size) := Lib.hid HB4.out.lt
      obtain ⟨gb, hgb⟩ : ∃ b, w5.heap.size = b := ⟨_, rfl⟩
      have HLT : Hid (w4.heap.size ≤ gb) := Lib.hid (by rw [← hgb]; exact HSZ.out)
      rw [hgb] at hgq
      clear hlg hg5 hga HG4 HB4 HG5 HB5 HOF
      go_upto_region 19 with (fail)
      clear hgb
      generalize w5.alloc (.cells #[.int .i64 xk, .bool st, .int .u64 (ga : Int), .slice A' m c', .bool fu, .int .u64 (no : Int), .int .u64 (ve : Int), .int .i64 EO] 75) = w6 at *
      have d0 := hgq.cell 0; have d1 := hgq.cell 1; have d2 := hgq.cell 2; have d3 := hgq.cell 3; have d4 := hgq.cell 4; have d5 := hgq.cell 5; have d6 := hgq.cell 6; have d7 := hgq.cell 7
      simp only [List.getElem?_toArray, List.getElem?_cons_zero, List.getElem?_cons_succ] at d0 d1 d2 d3 d4 d5 d6 d7
      clear hgq
      by_cases h0 : EO = 0
      · subst h0
        have hGX := HGX3.out
        rw [if_neg (by simp)] at hGX
        have HGE := Lib.hid hGX
        clear hGX HGX3
        obtain ⟨z0, z1, z2, z3, z4, z5, z6, hB⟩ : ∃ z0 z1 z2 z3 z4 z5 z6, Blk _ b 25 #[z0, z1, z2, z3, z4, z5, z6] := ⟨_, _, _, _, _, _, _, HB6.out⟩
        have HT := Lib.hid (blk_set7 hB (.int .i64 xk) (.bool st) (.int .u64 (ga : Int)) (.slice A' m c') (.bool fu) (.int .u64 (no : Int)) (.int .u64 (ve : Int)))
        have HGT := Lib.hid (only_set7 HG6.out (show w.heap.size ≤ b by have := HW.out; omega) (.int .i64 xk) (.bool st) (.int .u64 (ga : Int)) (.slice A' m c') (.bool fu) (.int .u64 (no : Int)) (.int .u64 (ve : Int)))
        have HLF := Lib.hid (((HLG.out rfl).set7 (b := b) (by have := HLB.out; omega) (.int .i64 xk) (.bool st) (.int .u64 (ga : Int)) (.slice A' m c') (.bool fu) (.int .u64 (no : Int)) (.int .u64 (ve : Int))).toR)
        have e0 := hB.cell 0; have e1 := hB.cell 1; have e2 := hB.cell 2; have e3 := hB.cell 3; have e4 := hB.cell 4; have e5 := hB.cell 5; have e6 := hB.cell 6
        have f0 := hB.frozen 0; have f1 := hB.frozen 1; have f2 := hB.frozen 2; have f3 := hB.frozen 3; have f4 := hB.frozen 4; have f5 := hB.frozen 5; have f6 := hB.frozen 6
        simp only [List.getElem?_toArray, List.getElem?_cons_zero, List.getElem?_cons_succ] at e0 e1 e2 e3 e4 e5 e6
        clear hB HB6 HG6 HLG
        go_wp2_with fail
        have hq := HT.out
        have hr := HGT.out
        have hl := HLF.out
        unfold set7 at hq hr hl
        refine bodyPost_ret (results_ct (fn := Tryz.f19) rfl _ _ _ _ rfl (load_rcF hq)) rfl ?_
        rw [HGE.out]
        exact ⟨A', m, c', rfl, hl, hr⟩
      · have hGX := HGX3.out
        rw [if_pos h0] at hGX
        have HGE := Lib.hid hGX
        have e1 : (EO != 0) = true := by simpa using h0
        clear hGX HGX3 h0 d0 d1 d2 d3 d4 d5 d6
        go_upto_region 20 with (fail)
        clear e1
        refine wp_region_held (S := fun W => W.cell? ⟨gb, 7, none⟩ = some (.int .i64 EO)) (by kernel_rfl) ?_
        change wpAnyH _ _ _ _ _ _ _ _ w6.drew
        have hw7 := only_drew (World.grownBy.refl w6 none)
        have hSS : w6.drew.cell? ⟨gb, 7, none⟩ = some (.int .i64 EO) := hw7.cell d7 (by simp)
        have HB7 := Lib.hid (HB6.out.grown hw7 (by simp)); have HG7 := Lib.hid (grown_self HG6.out hw7 (by simp))
        have HNE : Hid (b ≠ gb) := Lib.hid (by have h1 := HLB.out; have h2 := HLT.out; omega)
        clear hw7 HB6 HG6 HLG d7
        generalize w6.drew = w7 at *
        refine held_take (i := 0) (v := .agg #[.int .i64 0, .bool false, .int .u64 0, .slice none 0 0, .bool false, .int .u64 0, .int .u64 0]) (some 57) rfl (by kernel_rfl) (by kernel_rfl) (by kernel_rfl) (fun _ _ _ h => h) rfl (Or.inl ⟨by rfl, fun W hW => by go_simp⟩) hSS ?_
        simp only [Act.put, List.setIfInBounds_toArray, List.set_cons_zero, List.set_cons_succ]
        refine held_take (i := 1) (v := .pointer (some ⟨gb, 7, none⟩)) (some 58) rfl (by kernel_rfl) (by kernel_rfl) (by kernel_rfl) (fun _ _ _ h => h) rfl (Or.inl ⟨by rfl, fun W hW => by go_simp⟩) hSS ?_
        simp only [Act.put, List.setIfInBounds_toArray, List.set_cons_zero, List.set_cons_succ]
        refine held_take (i := 2) (v := .int .i64 EO) (some 59) rfl (by kernel_rfl) (by kernel_rfl) (by kernel_rfl) (fun _ _ _ h => h) rfl (Or.inl ⟨by rfl, fun W hW => by go_simp⟩) hSS ?_
        simp only [Act.put, List.setIfInBounds_toArray, List.set_cons_zero, List.set_cons_succ]
        obtain ⟨z0, z1, z2, z3, z4, z5, z6, hB⟩ : ∃ z0 z1 z2 z3 z4 z5 z6, Blk _ b 25 #[z0, z1, z2, z3, z4, z5, z6] := ⟨_, _, _, _, _, _, _, HB7.out⟩
        have HT := Lib.hid (blk_set7 hB (.int .i64 0) (.bool false) (.int .u64 0) (.slice none 0 0) (.bool false) (.int .u64 0) (.int .u64 0))
        have HGT := Lib.hid (only_set7 HG7.out (show w.heap.size ≤ b by have := HW.out; omega) (.int .i64 0) (.bool false) (.int .u64 0) (.slice none 0 0) (.bool false) (.int .u64 0) (.int .u64 0))
        refine held_one (i := 3) (by kernel_rfl) ?_
        refine held_store rfl rfl (exec_storeR (.tmp 2) (.tmp 57) rfl rfl rfl hB) ((cell_set7 (.int .i64 0) (.bool false) (.int .u64 0) (.slice none 0 0) (.bool false) (.int .u64 0) (.int .u64 0) (b := b) (p := ⟨gb, 7, none⟩) HNE.out).trans hSS) ?_
        have hS8 := (cell_set7 (.int .i64 0) (.bool false) (.int .u64 0) (.slice none 0 0) (.bool false) (.int .u64 0) (.int .u64 0) (w := w7) (b := b) (p := ⟨gb, 7, none⟩) HNE.out).trans hSS
        clear hB HB7 HG7 hSS
        generalize set7 w7 b (.int .i64 0) (.bool false) (.int .u64 0) (.slice none 0 0) (.bool false) (.int .u64 0) (.int .u64 0) = w8 at *
        simp only [Act.put, List.setIfInBounds_toArray, List.set_cons_zero, List.set_cons_succ]
        refine held_one (i := 4) (by kernel_rfl) ?_
        refine held_value (some 3) rfl rfl (.int .i64 EO) (by go_simp <;> rfl) rfl hS8 ?_
        simp only [Act.put, List.setIfInBounds_toArray, List.set_cons_zero, List.set_cons_succ]
        refine wpAnyH_done (by kernel_rfl) ?_ _
        go_wp2_with fail
        refine bodyPost_ret (results_ct (fn := Tryz.f19) rfl _ _ _ _ rfl (load_rcF HT.out)) rfl ?_
        exact RcEnd.bad HGE.out HGT.out
/-- WHAT THE DOCUMENT's Decode ANSWERS -/
theorem decodeD_any (s : ByteArray) (hs : s.size ≤ 9223372036854775807) (w : World) : Calls Tryz.prog 19 #[.string s] w (RcEnd (getR s.data.toList) w) := by
  by_cases h : s = ⟨#[]⟩
  · subst h; exact decD_none w
  · exact decD_some s hs w h
end Go.Proofs.YthalohloneojlaaGreatDoor
/- Receipts: the walk of ReceiptDecodes. -/
namespace Go.Proofs.YthalohloneojlaaGreatDoor
open Go.RowKit Go.Shelf
set_option linter.unusedVariables false
set_option linter.unusedSimpArgs false

theorem itemR_logs (k : Int) (x : Itm) : (itemR k x).2.logs.length ≤ 16 ∧ ∀ l ∈ (itemR k x).2.logs, l.topics.length ≤ 4 := by
  unfold itemR
  split
  · exact ⟨Nat.zero_le _, fun l hl => by cases hl⟩
  split
  · exact ⟨Nat.zero_le _, fun l hl => by cases hl⟩
  · constructor
    · have := rowL_le 0 16 ((rowL 3 (mostR k) x).tail.tail.headD Itm.none_)
      show ((rowL 0 16 ((rowL 3 (mostR k) x).tail.tail.headD Itm.none_)).map logL).length ≤ 16
      rw [List.length_map]
      omega
    · intro l hl
      obtain ⟨y, _, rfl⟩ := List.mem_map.1 (show l ∈ (rowL 0 16 ((rowL 3 (mostR k) x).tail.tail.headD Itm.none_)).map logL from hl)
      exact logL_topics y
theorem bodyR_logs (k : Int) (l : List UInt8) : (bodyR k l).2.logs.length ≤ 16 ∧ ∀ g ∈ (bodyR k l).2.logs, g.topics.length ≤ 4 := by
  unfold bodyR
  split
  · exact ⟨Nat.zero_le _, fun l hl => by cases hl⟩
  · exact itemR_logs _ _
theorem getR_logs (l : List UInt8) : (getR l).2.logs.length ≤ 16 ∧ ∀ g ∈ (getR l).2.logs, g.topics.length ≤ 4 := by
  unfold getR
  split
  · exact ⟨Nat.zero_le _, fun l hl => by cases hl⟩
  split
  · split
    · exact ⟨Nat.zero_le _, fun l hl => by cases hl⟩
    · exact bodyR_logs _ _
  · exact bodyR_logs _ _
set_option maxRecDepth 100000 in
set_option maxHeartbeats 4000000 in
theorem rdecodes_law (s : ByteArray) (hs : s.size ≤ 9223372036854775807) (w : World) (hv : ErrLaid w) :
    Calls Tryz.prog 4 #[.string s] w fun e w' => e = .returned (.bool true) ∧ w.grownBy w' none := by
  have HV := Lib.hid hv
  have HWK := Lib.hid (worksRc_any w hv)
  clear hv
  go_enter Tryz.func4, Tryz.ntmps4
  go_wp2_with fail
  refine HWK.out.mono ?_
  rintro e w2 ⟨rfl, hg2⟩
  have HG2 := Lib.hid hg2
  clear hg2 HWK
  by_cases hbig : 2500 < s.size
  · have q : (2500 : Int) < (s.size : Int) := by omega
    clear hbig
    go_wp2_with fail
    go_ret
    exact ⟨rfl, HG2.out⟩
  have q : decide ((2500 : Int) < (s.size : Int)) = false := decide_eq_false (by omega)
  clear hbig
  have hde := fun V (hV : w.grownBy V none) => decodeRc_any s hs V (HV.out.kept hV (by simp))
  have hdd := fun V => decodeD_any s hs V
  have hlg := getR_logs s.data.toList
  obtain ⟨G, hG⟩ : ∃ G, getR s.data.toList = G := ⟨_, rfl⟩
  rw [hG] at hde hdd hlg
  obtain ⟨E, X⟩ := G
  simp only at hlg
  have HDE := Lib.hid hde; have HDD := Lib.hid hdd; have HLG := Lib.hid hlg
  clear hde hG hdd hlg
  go_wp2_with fail
  refine (HDE.out w2 HG2.out).mono ?_
  rintro e w3 ⟨A, n, c, rfl, hl3, hg3⟩
  simp only [rcpC] at *
  have hgy := only_alloc (World.grownBy.refl w3 none) (.cells #[.int .i64 X.kind, .bool X.status, .int .u64 (X.gas : Int), .slice A n c, .bool X.full, .int .u64 (X.nonce : Int), .int .u64 (X.version : Int)] 25)
  have HG4 := Lib.hid (grown_self (grown_self HG2.out hg3 (by simp)) hgy (by simp))
  have hb := Blk.new w3 25 #[.int .i64 X.kind, .bool X.status, .int .u64 (X.gas : Int), .slice A n c, .bool X.full, .int .u64 (X.nonce : Int), .int .u64 (X.version : Int)]
  have HL4 := Lib.hid (hl3.grown hgy (Nat.le_refl _))
  obtain ⟨yb, hyb⟩ : ∃ b, w3.heap.size = b := ⟨_, rfl⟩
  rw [hyb] at hb HL4
  have HSZ : Hid (yb ≤ (w3.alloc (.cells #[.int .i64 X.kind, .bool X.status, .int .u64 (X.gas : Int), .slice A n c, .bool X.full, .int .u64 (X.nonce : Int), .int .u64 (X.version : Int)] 25)).heap.size) := Lib.hid (by simp; omega)
  have HB4 := Lib.hid hb
  clear hgy hg3 hl3 hb HG2 HDE q
  go_upto_region 7 with (fail)
  clear hyb
  generalize w3.alloc (.cells #[.int .i64 X.kind, .bool X.status, .int .u64 (X.gas : Int), .slice A n c, .bool X.full, .int .u64 (X.nonce : Int), .int .u64 (X.version : Int)] 25) = w4 at *
  go_wp2_with fail
  refine (HDD.out w4).mono ?_
  rintro e w5 ⟨A', n', c', rfl, hl5, hg5⟩
  simp only [rcpC] at *
  have hgy := only_alloc (World.grownBy.refl w5 none) (.cells #[.int .i64 X.kind, .bool X.status, .int .u64 (X.gas : Int), .slice A' n' c', .bool X.full, .int .u64 (X.nonce : Int), .int .u64 (X.version : Int)] 25)
  have h46 := grown_self hg5 hgy (by simp)
  have HG6 := Lib.hid (grown_self HG4.out h46 (by simp))
  have HL6 := Lib.hid (HL4.out.grown h46 HSZ.out); have HB6 := Lib.hid (HB4.out.grown h46 (by simp))
  have HSZ6 := Lib.hid (Nat.le_trans HSZ.out h46.size)
  have hb := Blk.new w5 25 #[.int .i64 X.kind, .bool X.status, .int .u64 (X.gas : Int), .slice A' n' c', .bool X.full, .int .u64 (X.nonce : Int), .int .u64 (X.version : Int)]
  have HM6 := Lib.hid (hl5.grown hgy (Nat.le_refl _))
  obtain ⟨zb, hzb⟩ : ∃ b, w5.heap.size = b := ⟨_, rfl⟩
  rw [hzb] at hb HM6
  have HSZ7 : Hid (zb ≤ (w5.alloc (.cells #[.int .i64 X.kind, .bool X.status, .int .u64 (X.gas : Int), .slice A' n' c', .bool X.full, .int .u64 (X.nonce : Int), .int .u64 (X.version : Int)] 25)).heap.size) := Lib.hid (by simp; omega)
  have HC6 := Lib.hid hb
  clear hgy hg5 hl5 hb HG4 HL4 HB4 HSZ h46 HDD
  go_upto_region 8 with (fail)
  clear hzb
  generalize w5.alloc (.cells #[.int .i64 X.kind, .bool X.status, .int .u64 (X.gas : Int), .slice A' n' c', .bool X.full, .int .u64 (X.nonce : Int), .int .u64 (X.version : Int)] 25) = w6 at *
  have c0 := HB6.out.cell 0; have c1 := HB6.out.cell 1; have c2 := HB6.out.cell 2; have c3 := HB6.out.cell 3; have c4 := HB6.out.cell 4; have c5 := HB6.out.cell 5; have c6 := HB6.out.cell 6
  have d0 := HC6.out.cell 0; have d1 := HC6.out.cell 1; have d2 := HC6.out.cell 2; have d3 := HC6.out.cell 3; have d4 := HC6.out.cell 4; have d5 := HC6.out.cell 5; have d6 := HC6.out.cell 6
  simp only [List.getElem?_toArray, List.getElem?_cons_zero, List.getElem?_cons_succ] at c0 c1 c2 c3 c4 c5 c6 d0 d1 d2 d3 d4 d5 d6
  have hn : n ≤ 9223372036854775807 := by have := HL6.out.1; have := HLG.out.1; omega
  have hn' : n' ≤ 9223372036854775807 := by have := HM6.out.1; have := HLG.out.1; omega
  have hsa := sameD_any X X yb zb A A' n n' c c' w6 HL6.out HM6.out HSZ6.out HSZ7.out hn hn' (fun l hl => by have := HLG.out.2 l hl; omega) (fun l hl => by have := HLG.out.2 l hl; omega)
  rw [eqB_t rfl] at hsa
  unfold rcpC at hsa
  have HSA := Lib.hid hsa
  have e1 : (E == E) = true := by simp
  clear hsa hn hn' HLG HL6 HM6 HB6 HC6 HSZ6 HSZ7
  go_wp2_with fail
  refine HSA.out.mono ?_
  rintro e w7 ⟨rfl, hg7⟩
  have HG7 := Lib.hid (grown_self HG6.out hg7 (by simp))
  clear hg7 HSA c0 c1 c2 c3 c4 c5 c6 d0 d1 d2 d3 d4 d5 d6
  go_wp2_with fail
  go_ret
  exact ⟨by simp, HG7.out⟩
end Go.Proofs.YthalohloneojlaaGreatDoor
