/- Heads that are written and read: plain laws. -/
import Derived.Test.YtdflihfecfmpfaaDoorRlpB
import Derived.Test.YtdflihfecfmpfaaDoorBeV
import Derived.Test.YtdflihfecfmpfaaDoorUnrB
namespace Go.Proofs.YtdflihfecfmpfaaDoor
open Go.RowKit Go.Shelf
set_option linter.unusedVariables false
set_option linter.unusedSimpArgs false

theorem valL_beV (l : List UInt8) : valL l = beV l := rfl
/-- a head, as it is read -/
theorem raw_head (n base : Nat) (t : List UInt8) (hn : n ≤ 65536) (hb : base = 128 ∨ base = 192) :
    128 ≤ headC (headL n base ++ t) 0 ∧ (192 ≤ headC (headL n base ++ t) 0 ↔ base = 192) ∧ rawE (headL n base ++ t) 0 = 0 ∧ rawFrom (headL n base ++ t) 0 = (headL n base).length ∧ rawN (headL n base ++ t) 0 = n ∧ (headC (headL n base ++ t) 0 = 129 → base = 128 ∧ n = 1) := by
  by_cases h : n < 56
  · rw [show headL n base = [UInt8.ofNat (base + n)] from if_pos h]
    have hc : headC ([UInt8.ofNat (base + n)] ++ t) 0 = base + n := by
      show (UInt8.ofNat (base + n)).toNat = _
      rw [UInt8.toNat_ofNat']; omega
    unfold rawE rawFrom rawN
    rw [hc]
    have q1 : ¬ base + n < 128 := by omega
    have q2 : (base + n - 128) % 64 = n := by omega
    rw [if_neg q1, if_neg q1, if_neg q1, q2, if_pos h, if_pos h, if_pos h]
    exact ⟨by omega, by omega, rfl, rfl, rfl, by omega⟩
  · rw [show headL n base = UInt8.ofNat (base + 55 + (beN n).length) :: beN n from if_neg h]
    have hm3 := beN_len3 n (by omega)
    have hm1 := beN_pos (n := n) (by omega) (by omega)
    have hv := beV_beN n (Nat.lt_of_le_of_lt hn (by decide))
    have hf := beN_first n
    generalize beN n = r at *
    have hc : headC (UInt8.ofNat (base + 55 + r.length) :: r ++ t) 0 = base + 55 + r.length := by
      show (UInt8.ofNat (base + 55 + r.length)).toNat = _
      rw [UInt8.toNat_ofNat']; omega
    have hB : lenB (UInt8.ofNat (base + 55 + r.length) :: r ++ t) 0 r.length = n := by
      unfold lenB
      rw [show (UInt8.ofNat (base + 55 + r.length) :: r ++ t).drop (0 + 1) = r ++ t from rfl, List.take_left' rfl]; exact hv
    have hz : (UInt8.ofNat (base + 55 + r.length) :: r ++ t).getD (0 + 1) 0 = r.getD 0 0 := by
      cases r with
      | nil => simp at hm1
      | cons a r => rfl
    have hE : lengthE (UInt8.ofNat (base + 55 + r.length) :: r ++ t) 0 r.length = 0 := by
      unfold lengthE
      rw [if_neg (by omega), if_neg (by simp only [List.cons_append, List.length_cons, List.length_append]; omega), if_neg]
      rw [hz, hB]
      rintro (g | g)
      · rcases hf with f | f
        · rw [f] at hm1; simp at hm1
        · exact f (UInt8.toNat_inj.1 (by rw [g]; rfl))
      · omega
    unfold rawE rawFrom rawN
    rw [hc]
    have q1 : ¬ base + 55 + r.length < 128 := by omega
    have q2 : (base + 55 + r.length - 128) % 64 = 55 + r.length := by omega
    have q3 : ¬ 55 + r.length < 56 := by omega
    rw [if_neg q1, if_neg q1, if_neg q1, q2, if_neg q3, if_neg q3, if_neg q3, show 55 + r.length - 55 = r.length by omega, hE, hB]
    exact ⟨by omega, by omega, rfl, by simp; omega, rfl, by omega⟩
theorem headL_pos (n base : Nat) : 1 ≤ (headL n base).length := by unfold headL; split <;> simp
theorem look_head (n base : Nat) (t : List UInt8) (hn : n ≤ 65536) (hb : base = 128 ∨ base = 192) (ht : n ≤ t.length) (h1 : ¬ (base = 128 ∧ n = 1 ∧ (t.getD 0 0).toNat < 128)) :
    lookE (headL n base ++ t) ((0 : Nat) : Int) = 0 ∧ lookFrom (headL n base ++ t) ((0 : Nat) : Int) = (headL n base).length ∧ lookN (headL n base ++ t) ((0 : Nat) : Int) = n ∧ lookL (headL n base ++ t) ((0 : Nat) : Int) = decide (base = 192) := by
  obtain ⟨r1, r2, r3, r4, r5, r6⟩ := raw_head n base t hn hb
  have hp := headL_pos n base
  have hl : (headL n base ++ t).length = (headL n base).length + t.length := List.length_append
  have hE : lookE (headL n base ++ t) ((0 : Nat) : Int) = 0 := by
    unfold lookE
    rw [if_neg (by omega), if_neg (by omega), Int.toNat_natCast, if_neg (by rw [r3]; simp), if_neg (by omega), if_neg]
    rintro ⟨g1, g2⟩
    obtain ⟨e1, e2⟩ := r6 g1
    subst e1; subst e2
    exact h1 ⟨rfl, rfl, by cases t with
      | nil => exact g2
      | cons a t => exact g2⟩
  refine ⟨hE, ?_, ?_, ?_⟩
  · unfold lookFrom; rw [if_pos hE, Int.toNat_natCast, r4]
  · unfold lookN; rw [if_pos hE, Int.toNat_natCast, r5]
  · unfold lookL; rw [if_pos hE, Int.toNat_natCast]; exact decide_eq_decide.2 r2
theorem look_cut (n base : Nat) (t : List UInt8) (hn : n ≤ 65536) (hb : base = 128 ∨ base = 192) (ht : n = t.length) (cut : Nat) (hc : cut < (headL n base ++ t).length) :
    lookE ((headL n base ++ t).take cut) ((0 : Nat) : Int) = 3 := by
  have hp := headL_pos n base
  have hl : (headL n base ++ t).length = (headL n base).length + t.length := List.length_append
  have hlt : ((headL n base ++ t).take cut).length = cut := by rw [List.length_take]; omega
  by_cases h0 : cut = 0
  · subst h0
    unfold lookE
    rw [hlt, if_neg (by omega), if_pos rfl]
  by_cases h1 : (headL n base).length ≤ cut
  · have e : (headL n base ++ t).take cut = headL n base ++ t.take (cut - (headL n base).length) := by
      rw [List.take_append, List.take_of_length_le h1]
    rw [e] at hlt ⊢
    obtain ⟨r1, r2, r3, r4, r5, r6⟩ := raw_head n base (t.take (cut - (headL n base).length)) hn hb
    unfold lookE
    rw [hlt, if_neg (by omega), if_neg (by omega), Int.toNat_natCast, if_neg (by rw [r3]; simp), if_pos (by omega)]
  · by_cases h : n < 56
    · rw [show headL n base = [UInt8.ofNat (base + n)] from if_pos h] at h1
      simp at h1; omega
    · have e : headL n base = UInt8.ofNat (base + 55 + (beN n).length) :: beN n := if_neg h
      have hm3 := beN_len3 n (by omega)
      have hm1 := beN_pos (n := n) (by omega) (by omega)
      rw [e] at h1 hlt ⊢
      obtain ⟨c, rfl⟩ : ∃ c, cut = c + 1 := ⟨cut - 1, by omega⟩
      generalize beN n = r at *
      rw [List.cons_append, List.take_succ_cons] at hlt ⊢
      have hcC : headC (UInt8.ofNat (base + 55 + r.length) :: (r ++ t).take c) 0 = base + 55 + r.length := by
        show (UInt8.ofNat (base + 55 + r.length)).toNat = _
        rw [UInt8.toNat_ofNat']; omega
      rw [List.length_cons] at h1
      have hE : rawE (UInt8.ofNat (base + 55 + r.length) :: (r ++ t).take c) 0 = 3 := by
        unfold rawE
        rw [hcC, if_neg (by omega), show (base + 55 + r.length - 128) % 64 = 55 + r.length by omega, if_neg (by omega), show 55 + r.length - 55 = r.length by omega]
        unfold lengthE
        rw [if_neg (by omega), if_pos (by rw [hlt]; omega)]
      unfold lookE
      rw [hlt, if_neg (by omega), if_neg (by omega), Int.toNat_natCast, if_pos (by rw [hE]; decide), hE]

theorem bytesT_pos (b : ByteArray) : 1 ≤ (bytesT b).length := by
  have h2 : b.data.toList.length = b.size := Array.length_toList
  unfold bytesT
  split
  · omega
  · rw [List.length_append]; have := headL_pos b.size 128; omega
theorem bytesF_pos (x : Itm) : 1 ≤ (bytesF x).length := by
  rw [bytesF_eq]
  split
  · rw [List.length_append]; have := headL_pos (bytesL x.items).length 192; omega
  · exact bytesT_pos _
/-- a head that is read, as it is written -/
theorem head_only {l : List UInt8} {a : Nat} (h : lookE l (a : Int) = 0) (hc : 128 ≤ headC l a) : (l.drop a).take (lookFrom l (a : Int) - a) = headL (lookN l (a : Int)) (if 192 ≤ headC l a then 192 else 128) := by
  obtain ⟨b0, b1, b2, b3, b4, b5⟩ := look_ok h
  have e1 : lookFrom l (a : Int) = rawFrom l a := by unfold lookFrom; rw [if_pos h, Int.toNat_natCast]
  have e2 : lookN l (a : Int) = rawN l a := by unfold lookN; rw [if_pos h, Int.toNat_natCast]
  rw [e1] at b1 b2 b3 b4 ⊢
  rw [e2] at b1 b3 ⊢
  unfold lookE at h
  rw [if_neg (by omega), if_neg (by omega), Int.toNat_natCast] at h
  split at h
  · rename_i g; exact absurd h g
  rename_i g
  have g : rawE l a = 0 := by simpa using g
  clear h b5 e1 e2
  have hd : l.drop a = UInt8.ofNat (headC l a) :: l.drop (a + 1) := by
    rw [List.drop_eq_getElem_cons b0]
    unfold headC
    rw [UInt8.ofNat_toNat, List.getD_eq_getElem?_getD, List.getElem?_eq_getElem b0]; rfl
  have hlt := headC_lt l a
  unfold rawE at g
  unfold rawFrom rawN at *
  have n1 : ¬ headC l a < 128 := by omega
  simp only [if_neg n1] at *
  by_cases h2 : (headC l a - 128) % 64 < 56
  · simp only [if_pos h2] at *
    rw [show a + 1 - a = 1 by omega, hd]
    unfold headL
    rw [if_pos h2, show (if 192 ≤ headC l a then 192 else 128) + (headC l a - 128) % 64 = headC l a by split <;> omega]
    rfl
  · simp only [if_neg h2] at *
    generalize hm : (headC l a - 128) % 64 - 55 = m at *
    unfold lengthE at g
    split at g
    · cases g
    rename_i g1
    split at g
    · cases g
    rename_i g2
    split at g
    · cases g
    rename_i g3
    have hlen : ((l.drop (a + 1)).take m).length = m := by rw [List.length_take, List.length_drop]; omega
    have hbe : beN (lenB l a m) = (l.drop (a + 1)).take m := by
      show beN (beV _) = _
      refine beN_beV _ (by omega) ?_
      rw [List.getD_eq_getElem?_getD, List.getElem?_take_of_lt (by omega), List.getElem?_drop, Nat.add_zero, ← List.getD_eq_getElem?_getD]
      intro e
      exact g3 (.inl (by rw [e]; rfl))
    unfold headL
    rw [if_neg (by omega), hbe, hlen, show a + 1 + m - a = m + 1 by omega, hd, List.take_succ_cons, show (if 192 ≤ headC l a then 192 else 128) + 55 + m = headC l a by split <;> omega]
end Go.Proofs.YtdflihfecfmpfaaDoor
