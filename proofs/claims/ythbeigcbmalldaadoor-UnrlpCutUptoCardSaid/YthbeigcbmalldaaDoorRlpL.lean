/- No two items have the same bytes, nor begin another one's: plain laws. -/
import Derived.Test.YthbeigcbmalldaaDoorRlpG
namespace Go.Proofs.YthbeigcbmalldaaDoor
open Go.RowKit Go.Shelf
set_option linter.unusedVariables false
set_option linter.unusedSimpArgs false

/-- bytes as a number -/
def beV (l : List UInt8) : Nat := l.foldl (fun n b => n * 256 + b.toNat) 0
theorem beV_snoc (l : List UInt8) (b : UInt8) : beV (l ++ [b]) = beV l * 256 + b.toNat := by simp [beV]
theorem beV_fix (k n : Nat) (h : n < 256 ^ k) : beV (beFix k n) = n := by
  induction k generalizing n with
  | zero => simp at h; subst h; rfl
  | succ k ih =>
    rw [beFix, beV_snoc, ih (n / 256) (by rw [Nat.pow_succ] at h; exact Nat.div_lt_of_lt_mul (by rw [Nat.mul_comm]; exact h)), UInt8.toNat_ofNat']
    omega
theorem beV_zero (l : List UInt8) : beV (0 :: l) = beV l := rfl
theorem beV_trim (l : List UInt8) : beV (trimL l) = beV l := by
  induction l with
  | nil => rfl
  | cons a l ih =>
    show beV (List.dropWhile _ _) = _
    by_cases h : a = 0
    · subst h
      rw [List.dropWhile_cons_of_pos (by rfl), beV_zero]; exact ih
    · rw [List.dropWhile_cons_of_neg (by simpa using h)]
theorem beV_beN (n : Nat) (h : n < 256 ^ 32) : beV (beN n) = n := by
  unfold beN; rw [beV_trim, beV_fix 32 n h]
theorem beN_inj {n m : Nat} (hn : n ≤ 1000000000) (hm : m ≤ 1000000000) (h : beN n = beN m) : n = m := by
  have h1 : (1000000000 : Nat) < 256 ^ 32 := by decide
  rw [← beV_beN n (by omega), h, beV_beN m (by omega)]
theorem u8_inj {a b : Nat} (ha : a < 256) (hb : b < 256) (h : UInt8.ofNat a = UInt8.ofNat b) : a = b := by
  have := congrArg UInt8.toNat h
  rw [UInt8.toNat_ofNat', UInt8.toNat_ofNat'] at this
  omega
theorem beN_pos {n : Nat} (h : 0 < n) (hn : n ≤ 1000000000) : 1 ≤ (beN n).length := by
  rcases Nat.eq_zero_or_pos (beN n).length with h0 | h0
  · have e := List.eq_nil_of_length_eq_zero h0
    have h1 : (1000000000 : Nat) < 256 ^ 32 := by decide
    have := beV_beN n (by omega)
    rw [e] at this
    have : (0 : Nat) = n := this
    omega
  · exact h0
/-- a head tells how much there is, and of what -/
theorem headL_inj {n m p q : Nat} {u v : List UInt8} (hn : n ≤ 1000000000) (hm : m ≤ 1000000000) (hp : p = 128 ∨ p = 192) (hq : q = 128 ∨ q = 192) (h : headL n p ++ u = headL m q ++ v) : n = m ∧ p = q ∧ u = v := by
  have l1 := beN_len8 n (by omega)
  have l2 := beN_len8 m (by omega)
  unfold headL at h
  by_cases h1 : n < 56
  · rw [if_pos h1] at h
    by_cases h2 : m < 56
    · rw [if_pos h2] at h
      injection h with h3 h4
      have := u8_inj (by omega) (by omega) h3
      exact ⟨by omega, by omega, h4⟩
    · rw [if_neg h2] at h
      injection h with h3 h4
      have := u8_inj (by omega) (by omega) h3
      have := beN_pos (n := m) (by omega) hm
      omega
  · rw [if_neg h1] at h
    have := beN_pos (n := n) (by omega) hn
    by_cases h2 : m < 56
    · rw [if_pos h2] at h
      injection h with h3 h4
      have := u8_inj (by omega) (by omega) h3
      omega
    · rw [if_neg h2] at h
      have := beN_pos (n := m) (by omega) hm
      injection h with h3 h4
      have := u8_inj (by omega) (by omega) h3
      obtain ⟨h5, h6⟩ := List.append_inj h4 (by omega)
      exact ⟨beN_inj hn hm h5, by omega, h6⟩
theorem headL_first (n p : Nat) (hn : n ≤ 1000000000) (hp : p = 128 ∨ p = 192) : ∃ z l, headL n p = z :: l ∧ p ≤ z.toNat ∧ z.toNat < p + 64 := by
  have l1 := beN_len8 n (by omega)
  unfold headL
  split
  · exact ⟨_, _, rfl, by rw [UInt8.toNat_ofNat']; omega, by rw [UInt8.toNat_ofNat']; omega⟩
  · exact ⟨_, _, rfl, by rw [UInt8.toNat_ofNat']; omega, by rw [UInt8.toNat_ofNat']; omega⟩
theorem bytesT_first (b : ByteArray) (h : b.size ≤ 1000000000) : ∃ z l, bytesT b = z :: l ∧ z.toNat < 192 := by
  unfold bytesT
  split
  · rename_i h1
    have hl : b.data.toList.length = 1 := by rw [Array.length_toList]; exact h1.1
    cases hb : b.data.toList with
    | nil => rw [hb] at hl; cases hl
    | cons z l => rw [hb] at h1; exact ⟨z, l, rfl, Nat.lt_of_lt_of_le h1.2 (by omega)⟩
  · obtain ⟨z, l, e, h1, h2⟩ := headL_first b.size 128 h (.inl rfl)
    exact ⟨z, l ++ b.data.toList, by rw [e]; rfl, h2⟩
theorem bytesT_inj {p q : ByteArray} {u v : List UInt8} (hp : p.size ≤ 1000000000) (hq : q.size ≤ 1000000000) (h : bytesT p ++ u = bytesT q ++ v) : p = q ∧ u = v := by
  have lp : p.data.toList.length = p.size := Array.length_toList
  have lq : q.data.toList.length = q.size := Array.length_toList
  unfold bytesT at h
  by_cases h1 : p.size = 1 ∧ (p.data.toList.getD 0 0).toNat < 128
  · rw [if_pos h1] at h
    by_cases h2 : q.size = 1 ∧ (q.data.toList.getD 0 0).toNat < 128
    · rw [if_pos h2] at h
      obtain ⟨h3, h4⟩ := List.append_inj h (by omega)
      exact ⟨ba_ext h3, h4⟩
    · rw [if_neg h2] at h
      obtain ⟨z, l, e, h3, _⟩ := headL_first q.size 128 hq (.inl rfl)
      rw [e] at h
      cases hb : p.data.toList with
      | nil => rw [hb] at lp; simp at lp; omega
      | cons y r =>
        rw [hb] at h h1
        injection h with h5 _
        subst h5
        have : y.toNat < 128 := h1.2
        omega
  · rw [if_neg h1] at h
    by_cases h2 : q.size = 1 ∧ (q.data.toList.getD 0 0).toNat < 128
    · rw [if_pos h2] at h
      obtain ⟨z, l, e, h3, _⟩ := headL_first p.size 128 hp (.inl rfl)
      rw [e] at h
      cases hb : q.data.toList with
      | nil => rw [hb] at lq; simp at lq; omega
      | cons y r =>
        rw [hb] at h h2
        injection h with h5 _
        subst h5
        have : z.toNat < 128 := h2.2
        omega
    · rw [if_neg h2, List.append_assoc, List.append_assoc] at h
      obtain ⟨h3, _, h4⟩ := headL_inj hp hq (.inl rfl) (.inl rfl) h
      obtain ⟨h5, h6⟩ := List.append_inj h4 (by omega)
      exact ⟨ba_ext h5, h6⟩

/-- what may be has no bytes besides its items, nor items besides its bytes -/
inductive Itm.Form : Itm → Prop
  | text (b : ByteArray) : Itm.Form (.mk false b [])
  | list (xs : List Itm) (h : ∀ x, x ∈ xs → Itm.Form x) : Itm.Form (.mk true ⟨#[]⟩ xs)
theorem size_zero {b : ByteArray} (h : b.size = 0) : b = ⟨#[]⟩ := ba_ext (by
  have : b.data.toList.length = 0 := by rw [Array.length_toList]; exact h
  exact List.eq_nil_of_length_eq_zero this)
mutual
theorem form_of : ∀ (x : Itm) (d : Nat), formF x d = 0 → x.Form
  | .mk l b xs, d, h => by
    rw [formF] at h
    split at h
    · cases h
    rename_i h1
    cases l with
    | false =>
      have : xs = [] := List.eq_nil_of_length_eq_zero (Classical.byContradiction fun h2 => h1 (.inr ⟨rfl, h2⟩))
      subst this
      exact .text b
    | true =>
      have hb := size_zero (b := b) (Classical.byContradiction fun h2 => h1 (.inl ⟨rfl, h2⟩))
      subst hb
      rw [if_neg (by simp)] at h
      split at h
      · cases h
      split at h
      · cases h
      exact .list xs (form_ofL xs (d + 1) h)
theorem form_ofL : ∀ (xs : List Itm) (d : Nat), formL xs d = 0 → ∀ x, x ∈ xs → x.Form
  | [], d, _, x, hx => by cases hx
  | y :: ys, d, h, x, hx => by
    rw [formL] at h
    split at h
    · rename_i h1; exact absurd h h1
    · rename_i h1
      rcases List.mem_cons.1 hx with e | hx
      · rw [e]; exact form_of y d (by simpa using h1)
      · exact form_ofL ys d h x hx
end
theorem wt_mem {xs : List Itm} {x : Itm} (h : x ∈ xs) : wtF x ≤ wtL xs := by
  induction xs with
  | nil => cases h
  | cons y ys ih =>
    rw [wtL]
    rcases List.mem_cons.1 h with rfl | h
    · omega
    · have := ih h; omega
theorem bytesF_first (x : Itm) (h : wtF x ≤ 1000000000) : ∃ z l, bytesF x = z :: l ∧ (x.list = true → 192 ≤ z.toNat) ∧ (x.list = false → z.toNat < 192) := by
  have hw := wtF_eq x
  have hl := bytesL_len x.items (by omega)
  rw [bytesF_eq]
  cases hx : x.list with
  | true =>
    obtain ⟨z, l, e, h1, _⟩ := headL_first (bytesL x.items).length 192 (by omega) (.inr rfl)
    exact ⟨z, l ++ bytesL x.items, by rw [if_pos rfl, e]; rfl, fun _ => h1, (fun h => by cases h)⟩
  | false =>
    obtain ⟨z, l, e, h1⟩ := bytesT_first x.bytes (by omega)
    exact ⟨z, l, by rw [if_neg (by simp)]; exact e, (fun h => by cases h), fun _ => h1⟩
theorem bytesL_inj {xs : List Itm} (hI : ∀ x, x ∈ xs → ∀ y u v, y.Form → wtF y ≤ 1000000000 → bytesF x ++ u = bytesF y ++ v → x = y ∧ u = v) (hw : ∀ x, x ∈ xs → wtF x ≤ 1000000000) :
    ∀ ys : List Itm, (∀ y, y ∈ ys → y.Form) → (∀ y, y ∈ ys → wtF y ≤ 1000000000) → bytesL xs = bytesL ys → xs = ys := by
  induction xs with
  | nil =>
    intro ys _ hy h
    cases ys with
    | nil => rfl
    | cons y ys =>
      obtain ⟨z, l, e, _⟩ := bytesF_first y (hy y (by simp))
      rw [bytesL, bytesL, e] at h
      cases h
  | cons x xs ih =>
    intro ys hF hy h
    cases ys with
    | nil =>
      obtain ⟨z, l, e, _⟩ := bytesF_first x (hw x (by simp))
      rw [bytesL, bytesL, e] at h
      cases h
    | cons y ys =>
      rw [bytesL, bytesL] at h
      obtain ⟨h1, h2⟩ := hI x (by simp) y _ _ (hF y (by simp)) (hy y (by simp)) h
      rw [h1, ih (fun x hx => hI x (by simp [hx])) (fun x hx => hw x (by simp [hx])) ys (fun y h => hF y (by simp [h])) (fun y h => hy y (by simp [h])) h2]
/-- NO ITEM'S BYTES BEGIN ANOTHER ONE'S -/
theorem bytesF_inj (x : Itm) (hx : x.Form) (hwx : wtF x ≤ 1000000000) : ∀ (y : Itm) (u v : List UInt8), y.Form → wtF y ≤ 1000000000 → bytesF x ++ u = bytesF y ++ v → x = y ∧ u = v := by
  induction hx with
  | text p =>
    intro y u v hy hwy h
    cases hy with
    | text q =>
      rw [wtF] at hwx hwy
      rw [bytesF_eq, bytesF_eq] at h
      obtain ⟨h1, h2⟩ := bytesT_inj (p := p) (q := q) (by omega) (by omega) h
      exact ⟨by rw [h1], h2⟩
    | list ys hys =>
      obtain ⟨z, l, e, _, h1⟩ := bytesF_first _ hwx
      obtain ⟨z', l', e', h2, _⟩ := bytesF_first _ hwy
      rw [e, e'] at h
      injection h with h3 _
      subst h3
      have := h1 rfl; have := h2 rfl; omega
  | list xs hxs ih =>
    intro y u v hy hwy h
    cases hy with
    | text q =>
      obtain ⟨z, l, e, h1, _⟩ := bytesF_first _ hwx
      obtain ⟨z', l', e', _, h2⟩ := bytesF_first _ hwy
      rw [e, e'] at h
      injection h with h3 _
      subst h3
      have := h1 rfl; have := h2 rfl; omega
    | list ys hys =>
      rw [wtF] at hwx hwy
      have hlx := bytesL_len xs (by omega)
      have hly := bytesL_len ys (by omega)
      rw [bytesF_eq, bytesF_eq] at h
      have h : (headL (bytesL xs).length 192 ++ bytesL xs) ++ u = (headL (bytesL ys).length 192 ++ bytesL ys) ++ v := h
      rw [List.append_assoc, List.append_assoc] at h
      obtain ⟨h1, _, h2⟩ := headL_inj (by omega) (by omega) (.inr rfl) (.inr rfl) h
      obtain ⟨h3, h4⟩ := List.append_inj h2 h1
      have hw1 : ∀ x, x ∈ xs → wtF x ≤ 1000000000 := fun x hx => by have := wt_mem hx; omega
      have hw2 : ∀ x, x ∈ ys → wtF x ≤ 1000000000 := fun x hx => by have := wt_mem hx; omega
      exact ⟨by rw [bytesL_inj (fun x hx y u v hy hwy => ih x hx (hw1 x hx) y u v hy hwy) hw1 ys hys hw2 h3], h4⟩
theorem check_form {x : Itm} (h : checkI x = 0) : x.Form ∧ (bytesF x).length ≤ 65536 ∧ formF x 0 = 0 := by
  unfold checkI at h
  split at h
  · rename_i h1; exact absurd h h1
  · rename_i h1
    have h1 : formF x 0 = 0 := by simpa using h1
    split at h
    · cases h
    · exact ⟨form_of x 0 h1, by omega, h1⟩
end Go.Proofs.YthbeigcbmalldaaDoor
