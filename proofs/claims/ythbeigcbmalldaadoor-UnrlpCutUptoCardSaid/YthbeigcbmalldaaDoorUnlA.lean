/- What is encoded is decoded, and what is decoded is encoded just so: plain laws. -/
import Derived.Test.YthbeigcbmalldaaDoorRlpL
import Derived.Test.YthbeigcbmalldaaDoorUnrU
namespace Go.Proofs.YthbeigcbmalldaaDoor
open Go.RowKit Go.Shelf
set_option linter.unusedVariables false
set_option linter.unusedSimpArgs false

theorem valL_beV (l : List UInt8) : valL l = beV l := rfl
theorem fix_beV (t : List UInt8) : beFix t.length (beV t) = t := by
  have key : ∀ r : List UInt8, beFix r.reverse.length (beV r.reverse) = r.reverse := by
    intro r
    induction r with
    | nil => rfl
    | cons b r ih =>
      have hb := b.toNat_lt
      rw [List.reverse_cons, beV_snoc, List.length_append, List.length_singleton, beFix, show (beV r.reverse * 256 + b.toNat) / 256 = beV r.reverse by omega, show (beV r.reverse * 256 + b.toNat) % 256 = b.toNat by omega, ih, UInt8.ofNat_toNat]
  have := key t.reverse
  rwa [List.reverse_reverse] at this
theorem beN_beV (t : List UInt8) (h : t.length ≤ 32) (h0 : t.getD 0 0 ≠ 0) : beN (beV t) = t := by
  rw [beN_fix t.length _ h (by rw [← valL_beV]; exact valL_lt t), fix_beV]
  cases t with
  | nil => rfl
  | cons a t => exact List.dropWhile_cons_of_neg (by simpa using h0)
theorem beN_first (n : Nat) : beN n = [] ∨ (beN n).getD 0 0 ≠ 0 := by
  have key : ∀ l : List UInt8, trimL l = [] ∨ (trimL l).getD 0 0 ≠ 0 := by
    intro l
    induction l with
    | nil => exact .inl rfl
    | cons a l ih =>
      by_cases h : a = 0
      · subst h
        rw [show trimL (0 :: l) = trimL l from List.dropWhile_cons_of_pos (by rfl)]; exact ih
      · rw [show trimL (a :: l) = a :: l from List.dropWhile_cons_of_neg (by simpa using h)]; exact .inr h
  exact key _
theorem beN_len3 (n : Nat) (h : n < 16777216) : (beN n).length ≤ 3 := by
  rw [beN_fix 3 n (by omega) (by simpa using h)]
  have := trim_len 0 (beFix 3 n); rw [beFix_len] at this; exact this

/-- a head, as it is read -/
theorem raw_head (n base : Nat) (t : List UInt8) (hn : n ≤ 65536) (hb : base = 128 ∨ base = 192) :
    128 ≤ headC (headL n base ++ t) 0 ∧ (192 ≤ headC (headL n base ++ t) 0 ↔ base = 192) ∧ rawE (headL n base ++ t) 0 = 0 ∧ rawFrom (headL n base ++ t) 0 = (headL n base).length ∧ rawN (headL n base ++ t) 0 = n ∧ (headC (headL n base ++ t) 0 = 129 → base = 128 ∧ n = 1) := by
  by_cases h : n < 56
  · rw [show headL n base = [UInt8.ofNat (base + n)] from if_pos h]
    have hc : headC ([UInt8.ofNat (base + n)] ++ t) 0 = base + n := by
      show (UInt8.ofNat (base + n)).toNat = _
      rw [UInt8.toNat_ofNat']; omega
    unfold rawE rawFrom rawN
    rw [hc]
    have q1 : ¬ base + n < 128 := by omega
    have q2 : (base + n - 128) % 64 = n := by omega
    rw [if_neg q1, if_neg q1, if_neg q1, q2, if_pos h, if_pos h, if_pos h]
    exact ⟨by omega, by omega, rfl, rfl, rfl, by omega⟩
  · rw [show headL n base = UInt8.ofNat (base + 55 + (beN n).length) :: beN n from if_neg h]
    have hm3 := beN_len3 n (by omega)
    have hm1 := beN_pos (n := n) (by omega) (by omega)
    have hv := beV_beN n (Nat.lt_of_le_of_lt hn (by decide))
    have hf := beN_first n
    generalize beN n = r at *
    have hc : headC (UInt8.ofNat (base + 55 + r.length) :: r ++ t) 0 = base + 55 + r.length := by
      show (UInt8.ofNat (base + 55 + r.length)).toNat = _
      rw [UInt8.toNat_ofNat']; omega
    have hB : lenB (UInt8.ofNat (base + 55 + r.length) :: r ++ t) 0 r.length = n := by
      unfold lenB
      rw [show (UInt8.ofNat (base + 55 + r.length) :: r ++ t).drop (0 + 1) = r ++ t from rfl, List.take_left' rfl]; exact hv
    have hz : (UInt8.ofNat (base + 55 + r.length) :: r ++ t).getD (0 + 1) 0 = r.getD 0 0 := by
      cases r with
      | nil => simp at hm1
      | cons a r => rfl
    have hE : lengthE (UInt8.ofNat (base + 55 + r.length) :: r ++ t) 0 r.length = 0 := by
      unfold lengthE
      rw [if_neg (by omega), if_neg (by simp only [List.cons_append, List.length_cons, List.length_append]; omega), if_neg]
      rw [hz, hB]
      rintro (g | g)
      · rcases hf with f | f
        · rw [f] at hm1; simp at hm1
        · exact f (UInt8.toNat_inj.1 (by rw [g]; rfl))
      · omega
    unfold rawE rawFrom rawN
    rw [hc]
    have q1 : ¬ base + 55 + r.length < 128 := by omega
    have q2 : (base + 55 + r.length - 128) % 64 = 55 + r.length := by omega
    have q3 : ¬ 55 + r.length < 56 := by omega
    rw [if_neg q1, if_neg q1, if_neg q1, q2, if_neg q3, if_neg q3, if_neg q3, show 55 + r.length - 55 = r.length by omega, hE, hB]
    exact ⟨by omega, by omega, rfl, by simp; omega, rfl, by omega⟩
theorem headL_pos (n base : Nat) : 1 ≤ (headL n base).length := by unfold headL; split <;> simp
theorem look_head (n base : Nat) (t : List UInt8) (hn : n ≤ 65536) (hb : base = 128 ∨ base = 192) (ht : n ≤ t.length) (h1 : ¬ (base = 128 ∧ n = 1 ∧ (t.getD 0 0).toNat < 128)) :
    lookE (headL n base ++ t) ((0 : Nat) : Int) = 0 ∧ lookFrom (headL n base ++ t) ((0 : Nat) : Int) = (headL n base).length ∧ lookN (headL n base ++ t) ((0 : Nat) : Int) = n ∧ lookL (headL n base ++ t) ((0 : Nat) : Int) = decide (base = 192) := by
  obtain ⟨r1, r2, r3, r4, r5, r6⟩ := raw_head n base t hn hb
  have hp := headL_pos n base
  have hl : (headL n base ++ t).length = (headL n base).length + t.length := List.length_append
  have hE : lookE (headL n base ++ t) ((0 : Nat) : Int) = 0 := by
    unfold lookE
    rw [if_neg (by omega), if_neg (by omega), Int.toNat_natCast, if_neg (by rw [r3]; simp), if_neg (by omega), if_neg]
    rintro ⟨g1, g2⟩
    obtain ⟨e1, e2⟩ := r6 g1
    subst e1; subst e2
    exact h1 ⟨rfl, rfl, by cases t with
      | nil => exact g2
      | cons a t => exact g2⟩
  refine ⟨hE, ?_, ?_, ?_⟩
  · unfold lookFrom; rw [if_pos hE, Int.toNat_natCast, r4]
  · unfold lookN; rw [if_pos hE, Int.toNat_natCast, r5]
  · unfold lookL; rw [if_pos hE, Int.toNat_natCast]; exact decide_eq_decide.2 r2
theorem look_cut (n base : Nat) (t : List UInt8) (hn : n ≤ 65536) (hb : base = 128 ∨ base = 192) (ht : n = t.length) (cut : Nat) (hc : cut < (headL n base ++ t).length) :
    lookE ((headL n base ++ t).take cut) ((0 : Nat) : Int) = 3 := by
  have hp := headL_pos n base
  have hl : (headL n base ++ t).length = (headL n base).length + t.length := List.length_append
  have hlt : ((headL n base ++ t).take cut).length = cut := by rw [List.length_take]; omega
  by_cases h0 : cut = 0
  · subst h0
    unfold lookE
    rw [hlt, if_neg (by omega), if_pos rfl]
  by_cases h1 : (headL n base).length ≤ cut
  · have e : (headL n base ++ t).take cut = headL n base ++ t.take (cut - (headL n base).length) := by
      rw [List.take_append, List.take_of_length_le h1]
    rw [e] at hlt ⊢
    obtain ⟨r1, r2, r3, r4, r5, r6⟩ := raw_head n base (t.take (cut - (headL n base).length)) hn hb
    unfold lookE
    rw [hlt, if_neg (by omega), if_neg (by omega), Int.toNat_natCast, if_neg (by rw [r3]; simp), if_pos (by omega)]
  · by_cases h : n < 56
    · rw [show headL n base = [UInt8.ofNat (base + n)] from if_pos h] at h1
      simp at h1; omega
    · have e : headL n base = UInt8.ofNat (base + 55 + (beN n).length) :: beN n := if_neg h
      have hm3 := beN_len3 n (by omega)
      have hm1 := beN_pos (n := n) (by omega) (by omega)
      rw [e] at h1 hlt ⊢
      obtain ⟨c, rfl⟩ : ∃ c, cut = c + 1 := ⟨cut - 1, by omega⟩
      generalize beN n = r at *
      rw [List.cons_append, List.take_succ_cons] at hlt ⊢
      have hcC : headC (UInt8.ofNat (base + 55 + r.length) :: (r ++ t).take c) 0 = base + 55 + r.length := by
        show (UInt8.ofNat (base + 55 + r.length)).toNat = _
        rw [UInt8.toNat_ofNat']; omega
      rw [List.length_cons] at h1
      have hE : rawE (UInt8.ofNat (base + 55 + r.length) :: (r ++ t).take c) 0 = 3 := by
        unfold rawE
        rw [hcC, if_neg (by omega), show (base + 55 + r.length - 128) % 64 = 55 + r.length by omega, if_neg (by omega), show 55 + r.length - 55 = r.length by omega]
        unfold lengthE
        rw [if_neg (by omega), if_pos (by rw [hlt]; omega)]
      unfold lookE
      rw [hlt, if_neg (by omega), if_neg (by omega), Int.toNat_natCast, if_pos (by rw [hE]; decide), hE]

theorem bytesT_pos (b : ByteArray) : 1 ≤ (bytesT b).length := by
  have h2 : b.data.toList.length = b.size := Array.length_toList
  unfold bytesT
  split
  · omega
  · rw [List.length_append]; have := headL_pos b.size 128; omega
theorem bytesF_pos (x : Itm) : 1 ≤ (bytesF x).length := by
  rw [bytesF_eq]
  split
  · rw [List.length_append]; have := headL_pos (bytesL x.items).length 192; omega
  · exact bytesT_pos _
theorem text_back (b : ByteArray) (k : Nat) (h : (bytesT b).length ≤ 65536) : itemF k (bytesT b) 0 = .ok (.mk false b [], (bytesT b).length) := by
  have h2 : b.data.toList.length = b.size := Array.length_toList
  unfold bytesT at h ⊢
  by_cases h1 : b.size = 1 ∧ (b.data.toList.getD 0 0).toNat < 128
  · rw [if_pos h1] at h ⊢
    cases hb : b.data.toList with
    | nil => rw [hb] at h2; simp at h2; omega
    | cons z r =>
      rw [hb] at h2 h1
      obtain rfl : r = [] := List.eq_nil_of_length_eq_zero (by simp at h2; omega)
      have hz : headC [z] 0 < 128 := h1.2
      have e1 : rawE [z] 0 = 0 := if_pos hz
      have e2 : rawFrom [z] 0 = 0 := if_pos hz
      have e3 : rawN [z] 0 = 1 := if_pos hz
      have hE : lookE [z] ((0 : Nat) : Int) = 0 := by
        unfold lookE
        rw [if_neg (by simp), if_neg (by simp), Int.toNat_natCast, if_neg (by rw [e1]; simp), if_neg (by rw [e2, e3]; simp), if_neg (by omega)]
      have hF : lookFrom [z] ((0 : Nat) : Int) = 0 := by unfold lookFrom; rw [if_pos hE, Int.toNat_natCast, e2]
      have hN : lookN [z] ((0 : Nat) : Int) = 1 := by unfold lookN; rw [if_pos hE, Int.toNat_natCast, e3]
      have hL : lookL [z] ((0 : Nat) : Int) = false := by unfold lookL; rw [if_pos hE, Int.toNat_natCast]; exact decide_eq_false (by omega)
      rw [item_bytes (by omega) hE hL, hF, hN]
      have : b = ⟨#[z]⟩ := ba_ext (by rw [hb])
      rw [this]; rfl
  · rw [if_neg h1] at h ⊢
    rw [List.length_append, h2] at h
    obtain ⟨q1, q2, q3, q4⟩ := look_head b.size 128 b.data.toList (by omega) (.inl rfl) (by omega) (by rintro ⟨_, g1, g2⟩; exact h1 ⟨g1, g2⟩)
    have q4 : lookL (headL b.size 128 ++ b.data.toList) ((0 : Nat) : Int) = false := q4
    have q5 := (look_ok q1).2.2.2.2.2
    rw [q4] at q5
    have q5 : ¬ 192 ≤ headC (headL b.size 128 ++ b.data.toList) 0 := of_decide_eq_false q5.symm
    rw [item_bytes (fun g => q5 g.2.1) q1 q4, q2, q3, List.drop_left' rfl, List.take_of_length_le (by omega), List.length_append, h2]
mutual
/-- WHAT IS ENCODED IS DECODED -/
theorem back_item : ∀ (x : Itm) (k : Nat), k ≤ 12 → formF x (12 - k) = 0 → (bytesF x).length ≤ 65536 → itemF k (bytesF x) 0 = .ok (x, (bytesF x).length)
  | .mk l b xs, k, hk, hf, hl => by
    rw [formF] at hf
    rw [bytesF] at hl ⊢
    split at hf
    · cases hf
    rename_i h1
    cases l with
    | false =>
      have : xs = [] := List.eq_nil_of_length_eq_zero (Classical.byContradiction fun h2 => h1 (.inr ⟨rfl, h2⟩))
      subst this
      exact text_back b k hl
    | true =>
      have hb := size_zero (b := b) (Classical.byContradiction fun h2 => h1 (.inl ⟨rfl, h2⟩))
      subst hb
      rw [if_neg (by simp)] at hf
      split at hf
      · cases hf
      rename_i h3
      split at hf
      · cases hf
      rename_i h4
      obtain ⟨j, rfl⟩ : ∃ j, k = j + 1 := ⟨k - 1, by omega⟩
      rw [show 12 - (j + 1) + 1 = 12 - j by omega] at hf
      rw [if_pos rfl] at hl ⊢
      have hl2 := hl
      rw [List.length_append] at hl2
      obtain ⟨q1, q2, q3, q4⟩ := look_head (bytesL xs).length 192 (bytesL xs) (by omega) (.inr rfl) (by omega) (by omega)
      rw [item_list q1 (by rw [q4]; rfl), q2, q3, ← List.length_append, List.take_length,
        back_items xs j (by omega) hf (headL (bytesL xs).length 192 ++ bytesL xs) (headL (bytesL xs).length 192).length 0 513 hl (by rw [List.drop_left' rfl]) (by rw [List.length_append]) (by omega) (by omega)]
      rfl
theorem back_items : ∀ (xs : List Itm) (k : Nat), k ≤ 12 → formL xs (12 - k) = 0 → ∀ (L : List UInt8) (p i f : Nat), L.length ≤ 65536 → L.drop p = bytesL xs → p + (bytesL xs).length = L.length → xs.length + i ≤ 512 → xs.length < f → itemsF (itemF k L) L.length f i p = .ok xs
  | [], k, hk, hf, L, p, i, f, hL, hd, hp, hi, hff => by
    obtain ⟨f, rfl⟩ : ∃ j, f = j + 1 := ⟨f - 1, by simp at hff; omega⟩
    unfold itemsF
    rw [bytesL] at hp
    rw [if_neg (by simp at hp; omega)]
  | x :: xs, k, hk, hf, L, p, i, f, hL, hd, hp, hi, hff => by
    obtain ⟨f, rfl⟩ : ∃ j, f = j + 1 := ⟨f - 1, by simp at hff; omega⟩
    rw [formL] at hf
    split at hf
    · rename_i h1; exact absurd hf h1
    rename_i h1
    have h1 : formF x (12 - k) = 0 := by simpa using h1
    rw [bytesL] at hd hp
    rw [List.length_append] at hp
    rw [List.length_cons] at hi hff
    have hx := back_item x k hk h1 (by omega)
    have hs := item_shift k k (Nat.le_refl _) hx (l' := L) (a' := p) (fun j hj => by
      have := congrArg (fun l => l[j]?) hd
      simp only [List.getElem?_drop] at this
      rw [this, List.getElem?_append_left (by omega), Nat.zero_add])
    have hpos := bytesF_pos x
    rw [Nat.sub_zero] at hs
    have hr := back_items xs k hk hf L ((bytesF x).length + p) (i + 1) f hL (by
      rw [Nat.add_comm, ← List.drop_drop, hd, List.drop_left' rfl]) (by omega) (by omega) (by omega)
    unfold itemsF
    rw [if_pos (by omega), if_neg (by omega), hs]
    show (match itemsF (itemF k L) L.length f (i + 1) ((bytesF x).length + p) with | .error e => Except.error e | .ok ys => .ok (x :: ys)) = _
    rw [hr]
end
theorem decode_back {x : Itm} (h : checkI x = 0) : decodeF (bytesF x) = .ok x := by
  obtain ⟨h1, h2, h3⟩ := check_form h
  unfold decodeF
  rw [if_neg (by omega), back_item x 12 (by omega) h3 h2]
  exact if_neg (by omega)
theorem decode_cut {x : Itm} (h : checkI x = 0) {cut : Nat} (hc : cut < (bytesF x).length) : decodeF ((bytesF x).take cut) = .error 3 := by
  obtain ⟨h1, h2, h3⟩ := check_form h
  have h4 : lookE ((bytesF x).take cut) ((0 : Nat) : Int) = 3 := by
    rw [bytesF_eq] at hc h2 ⊢
    have hone : ∀ l : List UInt8, cut < l.length → l.length = 1 → lookE (l.take cut) ((0 : Nat) : Int) = 3 := by
      intro l g1 g2
      obtain rfl : cut = 0 := by omega
      rfl
    split at hc
    · rename_i g
      rw [if_pos g, List.length_append] at h2
      rw [if_pos g]
      exact look_cut _ _ _ (by omega) (.inr rfl) rfl cut hc
    · rename_i g
      rw [if_neg g] at h2 ⊢
      have e : x.bytes.data.toList.length = x.bytes.size := Array.length_toList
      unfold bytesT at hc h2 ⊢
      split at hc
      · rename_i g1
        rw [if_pos g1]
        exact hone _ hc (by omega)
      · rename_i g1
        rw [if_neg g1, List.length_append] at h2
        rw [if_neg g1]
        exact look_cut _ _ _ (by omega) (.inl rfl) e.symm cut hc
  unfold decodeF
  rw [if_neg (by rw [List.length_take]; omega)]
  have : itemF 12 ((bytesF x).take cut) 0 = .error 3 := by
    show itemG (some (itemF 11)) _ 0 = _
    unfold itemG
    rw [if_neg (by rintro ⟨_, _, x⟩; cases x), if_pos (by rw [h4]; decide), h4]
  rw [this]
theorem decode_more {x : Itm} (h : checkI x = 0) {more : List UInt8} (hm : more ≠ []) : decodeF (bytesF x ++ more) = .error (if 65536 < (bytesF x).length + more.length then 5 else 4) := by
  obtain ⟨h1, h2, h3⟩ := check_form h
  have hl : 1 ≤ more.length := by cases more with
    | nil => exact absurd rfl hm
    | cons a l => simp
  unfold decodeF
  rw [List.length_append]
  split
  · rfl
  · rename_i g
    rw [item_shift 12 12 (Nat.le_refl _) (back_item x 12 (by omega) h3 h2) (l' := bytesF x ++ more) (a' := 0) (fun j hj => by
      rw [List.getElem?_append_left (by omega)])]
    exact if_pos (by omega)

/-- a head that is read, as it is written -/
theorem head_only {l : List UInt8} {a : Nat} (h : lookE l (a : Int) = 0) (hc : 128 ≤ headC l a) : (l.drop a).take (lookFrom l (a : Int) - a) = headL (lookN l (a : Int)) (if 192 ≤ headC l a then 192 else 128) := by
  obtain ⟨b0, b1, b2, b3, b4, b5⟩ := look_ok h
  have e1 : lookFrom l (a : Int) = rawFrom l a := by unfold lookFrom; rw [if_pos h, Int.toNat_natCast]
  have e2 : lookN l (a : Int) = rawN l a := by unfold lookN; rw [if_pos h, Int.toNat_natCast]
  rw [e1] at b1 b2 b3 b4 ⊢
  rw [e2] at b1 b3 ⊢
  unfold lookE at h
  rw [if_neg (by omega), if_neg (by omega), Int.toNat_natCast] at h
  split at h
  · rename_i g; exact absurd h g
  rename_i g
  have g : rawE l a = 0 := by simpa using g
  clear h b5 e1 e2
  have hd : l.drop a = UInt8.ofNat (headC l a) :: l.drop (a + 1) := by
    rw [List.drop_eq_getElem_cons b0]
    unfold headC
    rw [UInt8.ofNat_toNat, List.getD_eq_getElem?_getD, List.getElem?_eq_getElem b0]; rfl
  have hlt := headC_lt l a
  unfold rawE at g
  unfold rawFrom rawN at *
  have n1 : ¬ headC l a < 128 := by omega
  simp only [if_neg n1] at *
  by_cases h2 : (headC l a - 128) % 64 < 56
  · simp only [if_pos h2] at *
    rw [show a + 1 - a = 1 by omega, hd]
    unfold headL
    rw [if_pos h2, show (if 192 ≤ headC l a then 192 else 128) + (headC l a - 128) % 64 = headC l a by split <;> omega]
    rfl
  · simp only [if_neg h2] at *
    generalize hm : (headC l a - 128) % 64 - 55 = m at *
    unfold lengthE at g
    split at g
    · cases g
    rename_i g1
    split at g
    · cases g
    rename_i g2
    split at g
    · cases g
    rename_i g3
    have hlen : ((l.drop (a + 1)).take m).length = m := by rw [List.length_take, List.length_drop]; omega
    have hbe : beN (lenB l a m) = (l.drop (a + 1)).take m := by
      show beN (beV _) = _
      refine beN_beV _ (by omega) ?_
      rw [List.getD_eq_getElem?_getD, List.getElem?_take_of_lt (by omega), List.getElem?_drop, Nat.add_zero, ← List.getD_eq_getElem?_getD]
      intro e
      exact g3 (.inl (by rw [e]; rfl))
    unfold headL
    rw [if_neg (by omega), hbe, hlen, show a + 1 + m - a = m + 1 by omega, hd, List.take_succ_cons, show (if 192 ≤ headC l a then 192 else 128) + 55 + m = headC l a by split <;> omega]
/-- items that are read, as they are written -/
theorem items_only {l : List UInt8} {rd : Nat → Except Int (Itm × Nat)} {en d : Nat} (hen : en ≤ l.length)
    (hrd : ∀ p y q, rd p = .ok (y, q) → p < q ∧ q ≤ en ∧ bytesF y = (l.drop p).take (q - p) ∧ formF y d = 0 ∧ wtF y ≤ 11 * (q - p)) (f : Nat) :
    ∀ (i p : Nat) (xs : List Itm), p ≤ en → i ≤ 512 → itemsF rd en f i p = .ok xs → bytesL xs = (l.drop p).take (en - p) ∧ formL xs d = 0 ∧ wtL xs ≤ 11 * (en - p) ∧ xs.length + i ≤ 512 := by
  induction f with
  | zero => intro i p xs _ _ h; cases h
  | succ f ih =>
    intro i p xs hp hi h
    cases xs with
    | nil =>
      have := items_last h
      obtain rfl : p = en := by omega
      rw [Nat.sub_self, List.take_zero]
      exact ⟨rfl, rfl, by simp [wtL], by simp; omega⟩
    | cons x xs =>
      obtain ⟨h1, q, h2, h3⟩ := items_next h
      have hi2 : i < 512 := by
        unfold itemsF at h
        rw [if_pos h1] at h
        by_cases g : 512 ≤ i
        · rw [if_pos g] at h; cases h
        · omega
      obtain ⟨r1, r2, r3, r4, r5⟩ := hrd _ _ _ h2
      obtain ⟨s1, s2, s3, s4⟩ := ih (i + 1) q xs r2 (by omega) h3
      refine ⟨?_, ?_, ?_, ?_⟩
      · rw [bytesL, r3, s1, show en - p = (q - p) + (en - q) by omega, List.take_add, List.drop_drop, show p + (q - p) = q by omega]
      · rw [formL, if_neg (by rw [r4]; simp)]; exact s2
      · rw [wtL]; omega
      · rw [List.length_cons]; omega
/-- WHAT IS DECODED IS ENCODED JUST SO -/
theorem only_item : ∀ (k : Nat), k ≤ 12 → ∀ {l : List UInt8} {a q : Nat} {x : Itm}, itemF k l a = .ok (x, q) → bytesF x = (l.drop a).take (q - a) ∧ formF x (12 - k) = 0 ∧ wtF x ≤ 11 * (q - a) := by
  have text : ∀ {l : List UInt8} {a d : Nat}, lookE l (a : Int) = 0 → lookL l (a : Int) = false → bytesF (.mk false ⟨((l.drop (lookFrom l a)).take (lookN l a)).toArray⟩ []) = (l.drop a).take (lookFrom l a + lookN l a - a) ∧ formF (.mk false ⟨((l.drop (lookFrom l a)).take (lookN l a)).toArray⟩ []) d = 0 ∧ wtF (.mk false ⟨((l.drop (lookFrom l a)).take (lookN l a)).toArray⟩ []) ≤ 11 * (lookFrom l a + lookN l a - a) := by
    intro l a d h hL
    obtain ⟨b0, b1, b2, b3, b4, b5⟩ := look_ok h
    rw [hL] at b5
    have b5 : ¬ 192 ≤ headC l a := of_decide_eq_false b5.symm
    have hz : ((l.drop (lookFrom l a)).take (lookN l a)).length = lookN l a := by rw [List.length_take, List.length_drop]; omega
    refine ⟨?_, ?_, ?_⟩
    · rw [bytesF, if_neg (by simp)]
      unfold bytesT
      have hsz : (ByteArray.mk ((l.drop (lookFrom l a)).take (lookN l a)).toArray).size = lookN l a := by
        show (List.toArray _).size = _
        rw [List.size_toArray, hz]
      rw [hsz]
      show (if _ ∧ ((((l.drop (lookFrom l a)).take (lookN l a))).getD 0 0).toNat < 128 then (l.drop (lookFrom l a)).take (lookN l a) else _ ++ (l.drop (lookFrom l a)).take (lookN l a)) = _
      have hg : 0 < lookN l a → (((l.drop (lookFrom l a)).take (lookN l a)).getD 0 0).toNat = headC l (lookFrom l a) := by
        intro h0
        unfold headC
        rw [List.getD_eq_getElem?_getD, List.getElem?_take_of_lt h0, List.getElem?_drop, Nat.add_zero, ← List.getD_eq_getElem?_getD]
      by_cases hc : headC l a < 128
      · have e1 : lookFrom l (a : Int) = a := by unfold lookFrom; rw [if_pos h, Int.toNat_natCast]; exact if_pos hc
        have e2 : lookN l (a : Int) = 1 := by unfold lookN; rw [if_pos h, Int.toNat_natCast]; exact if_pos hc
        rw [if_pos ⟨e2, by rw [hg (by omega), e1]; exact hc⟩, e1, e2, show a + 1 - a = 1 by omega]
      · have hh := head_only h (by omega)
        rw [if_neg b5] at hh
        rw [if_neg, ← hh]
        · conv => rhs; rw [show lookFrom l (a : Int) + lookN l (a : Int) - a = (lookFrom l (a : Int) - a) + lookN l (a : Int) by omega, List.take_add, List.drop_drop, show a + (lookFrom l (a : Int) - a) = lookFrom l (a : Int) by omega]
        · rintro ⟨g1, g2⟩
          rw [hg (by omega)] at g2
          have e1 : lookFrom l (a : Int) = rawFrom l a := by unfold lookFrom; rw [if_pos h, Int.toNat_natCast]
          have e2 : lookN l (a : Int) = rawN l a := by unfold lookN; rw [if_pos h, Int.toNat_natCast]
          rw [e2] at g1
          rw [e1] at g2
          have h' := h
          unfold lookE at h'
          rw [if_neg (by omega), if_neg (by omega), Int.toNat_natCast] at h'
          split at h'
          · rename_i g; exact absurd h' g
          rename_i gE
          have gE : rawE l a = 0 := by simpa using gE
          split at h'
          · cases h'
          split at h'
          · cases h'
          rename_i g4
          unfold rawE at gE
          unfold rawN at g1
          unfold rawFrom at g2
          rw [if_neg hc] at gE g1 g2
          have hlt := headC_lt l a
          split at g1
          · rename_i g5
            rw [if_pos g5] at g2
            exact g4 ⟨by omega, g2⟩
          · rename_i g5
            rw [if_neg g5] at gE
            unfold lengthE at gE
            split at gE
            · cases gE
            split at gE
            · cases gE
            split at gE
            · cases gE
            rename_i g6
            exact g6 (.inr (by omega))
    · rw [formF, if_neg (by simp), if_pos rfl]
    · rw [wtF]
      show 10 + (List.toArray _).size + wtL [] ≤ _
      rw [List.size_toArray, hz, wtL]
      omega
  intro k
  induction k with
  | zero =>
    intro hk l a q x h
    obtain ⟨h1, h2, h3⟩ := item_ok h
    subst h3
    have hg : itemG none l a = _ := h
    unfold itemG at hg
    rw [if_neg (by rintro hh; rw [if_pos hh] at hg; cases hg), if_neg (by simpa using h1)] at hg
    clear h
    split at hg
    · rename_i hL
      injection hg with h; injection h with h _
      rw [← h]
      exact text h1 hL
    · cases hg
  | succ k ih =>
    intro hk l a q x h
    obtain ⟨h1, h2, h3⟩ := item_ok h
    cases hL : lookL l (a : Int) with
    | false =>
      rw [item_bytes (by rintro ⟨_, _, g⟩; cases g) h1 hL] at h
      injection h with h; injection h with h _
      subst h3
      rw [← h]
      exact text h1 hL
    | true =>
      obtain ⟨b0, b1, b2, b3, b4, b5⟩ := look_ok h1
      rw [hL] at b5
      have b5 : 192 ≤ headC l a := of_decide_eq_true b5.symm
      have hh := head_only h1 (by omega)
      rw [if_pos b5] at hh
      have hFa : a < lookFrom l (a : Int) := by
        have e := congrArg List.length hh
        have := headL_pos (lookN l (a : Int)) 192
        rw [List.length_take] at e
        omega
      rw [item_list h1 hL] at h
      subst h3
      split at h
      · cases h
      · rename_i xs hxs
        injection h with h; injection h with h _
        rw [← h]
        obtain ⟨r1, r2, r3, r4⟩ := items_only (l := l) (d := 12 - k) b1 (fun p y q hy => by
          obtain ⟨s1, s2, s3⟩ := item_ok hy
          obtain ⟨c0, c1, c2, c3, _, _⟩ := look_ok s1
          rw [← s3] at c1 c3
          obtain ⟨t1, t2, t3⟩ := ih (by omega) hy
          rw [List.length_take] at c1
          refine ⟨c3, by omega, ?_, t2, t3⟩
          rw [t1, List.drop_take, List.take_take, Nat.min_eq_left (by omega)]) 513 0 _ xs (by omega) (by omega) hxs
        rw [show lookFrom l (a : Int) + lookN l (a : Int) - lookFrom l (a : Int) = lookN l (a : Int) by omega] at r1 r3
        have hbl : (bytesL xs).length = lookN l (a : Int) := by rw [r1, List.length_take, List.length_drop]; omega
        refine ⟨?_, ?_, ?_⟩
        · rw [bytesF, if_pos rfl, hbl, ← hh, r1]
          conv => rhs; rw [show lookFrom l (a : Int) + lookN l (a : Int) - a = (lookFrom l (a : Int) - a) + lookN l (a : Int) by omega, List.take_add, List.drop_drop, show a + (lookFrom l (a : Int) - a) = lookFrom l (a : Int) by omega]
        · rw [formF, if_neg (by simp), if_neg (by simp), if_neg (by omega), if_neg (by omega), show 12 - (k + 1) + 1 = 12 - k by omega]
          exact r2
        · rw [wtF, show ByteArray.empty.size = 0 from rfl]
          omega
theorem decode_only {l : List UInt8} {x : Itm} (h : decodeF l = .ok x) : checkI x = 0 ∧ bytesF x = l ∧ wtF x ≤ 11 * l.length := by
  obtain ⟨g1, g2, g3⟩ := decode_head h
  unfold decodeF at h
  split at h
  · cases h
  rename_i hl
  split at h
  · cases h
  · rename_i y q hi
    split at h
    · cases h
    · rename_i hq
      injection h with h; subst h
      obtain ⟨_, _, e⟩ := item_ok hi
      have e : q = l.length := by rw [← g3, e]; rfl
      obtain ⟨r1, r2, r3⟩ := only_item 12 (by omega) hi
      rw [e, Nat.sub_zero, List.drop_zero, List.take_length] at r1
      rw [e] at r3
      refine ⟨?_, r1, by omega⟩
      unfold checkI
      rw [if_neg (by rw [show (0 : Nat) = 12 - 12 from rfl, r2]; simp), if_neg (by rw [r1]; omega)]
end Go.Proofs.YthbeigcbmalldaaDoor
