/- What is written is read again; what is read is written just so: plain laws of fields. -/
import Derived.Test.YtmlkjackopiekaaDoorFldE
namespace Go.Proofs.YtmlkjackopiekaaDoor
open Go.RowKit Go.Shelf
set_option linter.unusedVariables false
set_option linter.unusedSimpArgs false

theorem numE_false (s : ByteArray) : numE false s = unbeE s.data.toList := rfl
theorem wordE_false (s : ByteArray) : wordE false s = parseE s.data.toList := rfl
theorem wordP_false (s : ByteArray) (q : Nat) : wordP false s q = parseP s.data.toList q := rfl
theorem number_back (n : Nat) (hn : n < 18446744073709551616) (b : ByteArray) (hb : b.data.toList = beN n) : numE false b = 0 ∧ numV false b = n := by
  have hlen := beN_len8 n hn
  have h256 : n < 256 ^ 32 := Nat.lt_of_lt_of_le hn (by decide)
  obtain ⟨p1, p2⟩ := parse_beN n h256
  have p2 := p2 0
  have hw : wp n 0 = n := by
    unfold wp
    rw [Nat.mul_zero, Nat.pow_zero, Nat.div_one]
    exact Nat.mod_eq_of_lt hn
  rw [hw] at p2
  rw [← hb] at hlen p1 p2
  have h1 : numE false b = 0 := by
    rw [numE_false]; unfold unbeE; rw [if_neg (by omega), p1]
  refine ⟨h1, ?_⟩
  unfold numV
  rw [if_pos h1]
  unfold unbeN
  rw [if_neg (by omega), p2]
theorem word_back (a0 a1 a2 a3 : Nat) (h0 : a0 < 18446744073709551616) (h1 : a1 < 18446744073709551616) (h2 : a2 < 18446744073709551616) (h3 : a3 < 18446744073709551616) (b : ByteArray) (hb : b.data.toList = beN (wordN a0 a1 a2 a3)) :
    wordE false b = 0 ∧ wordP false b 0 = a0 ∧ wordP false b 1 = a1 ∧ wordP false b 2 = a2 ∧ wordP false b 3 = a3 := by
  obtain ⟨p1, p2⟩ := parse_beN _ (word_lt a0 a1 a2 a3 h0 h1 h2 h3)
  obtain ⟨w0, w1, w2, w3⟩ := wp_word a0 a1 a2 a3 h0 h1 h2 h3
  have q0 := p2 0; have q1 := p2 1; have q2 := p2 2; have q3 := p2 3
  rw [w0] at q0; rw [w1] at q1; rw [w2] at q2; rw [w3] at q3
  rw [← hb] at p1 q0 q1 q2 q3
  exact ⟨by rw [wordE_false]; exact p1, by rw [wordP_false]; exact q0, by rw [wordP_false]; exact q1, by rw [wordP_false]; exact q2, by rw [wordP_false]; exact q3⟩
theorem yes_back (v : Bool) : yesE (yesS v) = 0 ∧ yesV (yesS v) = v := by
  cases v
  · exact ⟨if_pos (.inl rfl), decide_eq_false (by intro e; injection e with e; cases e)⟩
  · exact ⟨if_pos (.inr rfl), decide_eq_true rfl⟩
theorem text_back6 (n : Nat) : textE n n n = 0 := by unfold textE; rw [if_neg (by omega), if_neg (by omega)]
theorem number_only {l : Bool} {s : ByteArray} (h : numE l s = 0) : l = false ∧ beN (numV l s) = s.data.toList := by
  cases l with
  | true => exact absurd h (by show ¬ (2 : Int) = 0; decide)
  | false =>
    refine ⟨rfl, ?_⟩
    have hV : numV false s = unbeN s.data.toList := if_pos h
    have h : unbeE s.data.toList = 0 := h
    unfold unbeE at h
    split at h
    · cases h
    rename_i h1
    have hN : unbeN s.data.toList = parseP s.data.toList 0 := if_neg h1
    have hC := parseC_short (l := s.data.toList) (by omega)
    unfold parseC at hC
    simp only [Array.mk.injEq, List.cons.injEq, Value.int.injEq, true_and, and_true] at hC
    have ho := parse_only h
    rw [show parseP s.data.toList 1 = 0 by omega, show parseP s.data.toList 2 = 0 by omega, show parseP s.data.toList 3 = 0 by omega] at ho
    rw [hV, hN]
    have e : wordN (parseP s.data.toList 0) 0 0 0 = parseP s.data.toList 0 := by unfold wordN; omega
    rw [e] at ho
    exact ho
theorem word_only {l : Bool} {s : ByteArray} (h : wordE l s = 0) : l = false ∧ beN (wordN (wordP l s 0) (wordP l s 1) (wordP l s 2) (wordP l s 3)) = s.data.toList := by
  cases l with
  | true => exact absurd h (by show ¬ (2 : Int) = 0; decide)
  | false =>
    rw [wordE_false] at h
    rw [wordP_false, wordP_false, wordP_false, wordP_false]
    exact ⟨rfl, parse_only h⟩
theorem yes_only {s : ByteArray} (h : yesE s = 0) : yesS (yesV s) = s := by
  unfold yesE at h
  split at h
  · rename_i h1
    rcases h1 with e | e
    · subst e; rw [show yesV ⟨#[]⟩ = false from decide_eq_false (by intro e; injection e with e; cases e)]; rfl
    · subst e; rw [show yesV ⟨#[1]⟩ = true from decide_eq_true rfl]; rfl
  · cases h
end Go.Proofs.YtmlkjackopiekaaDoor
