/- Wrappers, plain: what is got is put just so; two wrappers, one behind the other. -/
import Derived.Test.YtdflihfecfmpfaaDoorWrpP
namespace Go.Proofs.YtdflihfecfmpfaaDoor
open Go.RowKit Go.Shelf
set_option linter.unusedVariables false
set_option linter.unusedSimpArgs false

theorem one_told {E : Int} {xs : List ByteArray} (h : E ≠ 0) (he : [((⟨#[]⟩ : ByteArray), E)] = xs.map (fun x => (x, (0 : Int)))) : False := by
  cases xs with
  | nil => cases he
  | cons x xs => simp at he; exact h he.1.2
theorem part_size {l : List UInt8} {n : Nat} (h : n ≤ l.length) : (⟨(l.take n).toArray⟩ : ByteArray).size = n := by
  show (l.take n).toArray.size = n
  simp [h]
theorem part_list {l : List UInt8} : (⟨l.toArray⟩ : ByteArray).data.toList = l := rfl
theorem plainT_only : ∀ (f : Nat) (r : List UInt8) (many : Nat) (xs : List ByteArray), r.length < f → many ≤ 64 → plainT f r many = xs.map (fun x => (x, 0)) →
    r = xs.flatMap bytesT ∧ (∀ x ∈ xs, longE x.size = 0) ∧ many + xs.length ≤ 64
  | 0, r, many, xs, hf, _, _ => by omega
  | f + 1, r, many, xs, hf, hm, h => by
    rw [plainT] at h
    split at h
    · rename_i h1
      have : xs = [] := by cases xs with | nil => rfl | cons x xs => cases h
      subst this; subst h1
      exact ⟨rfl, by simp, by simpa using hm⟩
    rename_i h1
    split at h
    · rename_i h2; exact (one_told h2 h).elim
    rename_i h2
    have h2 : plainE r many = 0 := by simpa using h2
    obtain ⟨x, xs, rfl⟩ : ∃ x r, xs = x :: r := by cases xs with | nil => cases h | cons x r => exact ⟨x, r, rfl⟩
    rw [List.map_cons] at h
    injection h with hx ht
    have hx : x = ⟨((r.drop (lookFrom r 0)).take (lookN r 0)).toArray⟩ := (congrArg Prod.fst hx).symm
    unfold plainE at h2
    split at h2
    · cases h2
    rename_i h64
    split at h2
    · rename_i g; exact absurd h2 g
    rename_i hE
    have hE : lookE r ((0 : Nat) : Int) = 0 := by simpa using hE
    split at h2
    · cases h2
    rename_i hL
    obtain ⟨b0, b1, b2, b3, b4, b5⟩ := look_ok hE
    have hL : ¬ 192 ≤ headC r 0 := fun g => hL (b5.trans (decide_eq_true g))
    have hN := longE_0.1 h2
    have hC : 128 ≤ headC r 0 := by
      rcases Nat.lt_or_ge (headC r 0) 128 with g | g
      · have : lookN r ((0 : Nat) : Int) = 1 := by unfold lookN; rw [if_pos hE, Int.toNat_natCast]; unfold rawN; exact if_pos g
        have : lookN r 0 = 1 := this
        omega
      · exact g
    have hh := head_only hE hC
    rw [if_neg hL] at hh
    simp only [Int.natCast_zero, Int.ofNat_zero] at hh b1 b2 b3 b4
    have hsz : x.size = lookN r 0 := by rw [hx]; exact part_size (by rw [List.length_drop]; omega)
    have hbt : bytesT x = r.take (lookFrom r 0 + lookN r 0) := by
      rw [bytesT_big (by omega), hsz, ← hh, hx, part_list, List.drop_zero, Nat.sub_zero, List.take_add]
    obtain ⟨k1, k2, k3⟩ := plainT_only f _ (many + 1) xs (by rw [List.length_drop]; omega) (by omega) ht
    refine ⟨?_, ?_, ?_⟩
    · rw [List.flatMap_cons, hbt, ← k1, List.take_append_drop]
    · intro y hy
      rcases List.mem_cons.1 hy with e | e
      · rw [e, hsz]; exact h2
      · exact k2 y e
    · rw [List.length_cons]; omega
theorem countGo_only (l : List UInt8) : ∀ (k a : Nat) (xs : List ByteArray), a ≤ l.length → countGo l k a = xs.map (fun x => (x, 0)) → xs.length = k ∧ (∀ x ∈ xs, longE x.size = 0) ∧ l.drop a = xs.flatMap (partW 2)
  | 0, a, xs, ha, h => by
    rw [countGo] at h
    split at h
    · exact (one_told (by decide) h).elim
    · rename_i h1
      have : xs = [] := by cases xs with | nil => rfl | cons x xs => cases h
      subst this
      exact ⟨rfl, by simp, List.drop_eq_nil_of_le (by omega)⟩
  | k + 1, a, xs, ha, h => by
    rw [countGo] at h
    split at h
    · rename_i h2; exact (one_told h2 h).elim
    rename_i h2
    have h2 : countE l a = 0 := by simpa using h2
    obtain ⟨x, xs, rfl⟩ : ∃ x r, xs = x :: r := by cases xs with | nil => cases h | cons x r => exact ⟨x, r, rfl⟩
    rw [List.map_cons] at h
    injection h with hx ht
    have hx : x = ⟨((l.drop (unvarS l a).2.1).take (unvarS l a).1.toNat).toArray⟩ := (congrArg Prod.fst hx).symm
    unfold countE at h2
    split at h2
    · rename_i g; exact absurd h2 g
    rename_i hE
    split at h2
    · rename_i g; exact absurd h2 g
    rename_i hN
    split at h2
    · cases h2
    rename_i hF
    have hu : unvarS l a = ((unvarS l a).1, (unvarS l a).2.1, 0) := Prod.ext rfl (Prod.ext rfl (by simpa using hE))
    obtain ⟨u1, u2, u3⟩ := unvarS_only l a _ _ hu
    generalize (unvarS l a).1.toNat = n at *
    generalize (unvarS l a).2.1 = q at *
    have hsz : x.size = n := by rw [hx]; exact part_size (by rw [List.length_drop]; omega)
    have hN : longE n = 0 := by simpa using hN
    obtain ⟨k1, k2, k3⟩ := countGo_only l k (q + n) xs (by omega) ht
    refine ⟨by rw [List.length_cons, k1], ?_, ?_⟩
    · intro y hy
      rcases List.mem_cons.1 hy with e | e
      · rw [e, hsz]; exact hN
      · exact k2 y e
    · rw [List.flatMap_cons, show partW 2 x = varL x.size ++ x.data.toList from if_pos rfl, hsz, ← u3, hx, part_list, ← k3]
      have e1 : l.drop q = (l.drop q).take n ++ l.drop (q + n) := by rw [← List.drop_drop, List.take_append_drop]
      have e2 : l.drop a = (l.drop a).take (q - a) ++ l.drop q := by
        have : l.drop q = (l.drop a).drop (q - a) := by rw [List.drop_drop, show a + (q - a) = q by omega]
        rw [this, List.take_append_drop]
      rw [List.append_assoc, ← e1, ← e2]
/-- WHAT IS GOT IS PUT JUST SO -/
theorem get_only {l : List UInt8} (h : getE l = 0) : putL (getV l) (getL l) = l ∧ checkW (getV l) (getL l) = 0 := by
  have hV : getV l = verN l := if_pos h
  have hL : getL l = (gatherW (toldW l) []).1 := if_pos h
  unfold getE at h
  split at h
  · rename_i g; exact absurd h g
  rename_i hv
  split at h
  · rename_i g; exact absurd h g
  rename_i hg
  split at h
  · cases h
  rename_i hs
  have hg : gatherW (toldW l) [] = ((gatherW (toldW l) []).1, 0) := Prod.ext rfl (by simpa using hg)
  rw [← hL] at hs hg
  obtain ⟨ys, k1, k2⟩ := gatherW_only _ _ _ hg
  rw [List.nil_append] at k1
  subst k1
  generalize getL l = xs at *
  rw [hV]
  have hv : verE l = 0 := by simpa using hv
  have hne : l ≠ [] := fun e => by rw [e] at hv; exact absurd hv (by decide)
  unfold toldW at k2
  split at k2
  · rename_i hn
    have h0 : l.getD 0 0 = 2 := by
      unfold verN at hn
      split at hn
      · assumption
      · cases hn
    rw [hn]
    unfold countT at k2
    split at k2
    · rename_i g; exact (one_told g k2).elim
    rename_i hM
    have hM : manyE l = 0 := by simpa using hM
    unfold manyE at hM
    split at hM
    · cases hM
    rename_i m1
    split at hM
    · cases hM
    rename_i m2
    have hu : unvarS l ((1 : Nat) : Int) = ((unvarS l 1).1, (unvarS l 1).2.1, 0) := Prod.ext rfl (Prod.ext rfl hM)
    obtain ⟨u1, u2, u3⟩ := unvarS_only l 1 _ _ hu
    obtain ⟨k3, k4, k5⟩ := countGo_only l _ _ xs u2 k2
    have e0 : l = 2 :: l.drop 1 := by
      cases l with
      | nil => exact absurd rfl hne
      | cons a b => have h0 : a = 2 := h0; rw [h0]; rfl
    have e1 : l.drop 1 = (l.drop 1).take ((unvarS l 1).2.1 - 1) ++ l.drop (unvarS l 1).2.1 := by
      have : l.drop (unvarS l 1).2.1 = (l.drop 1).drop ((unvarS l 1).2.1 - 1) := by rw [List.drop_drop]; congr 1; omega
      rw [this, List.take_append_drop]
    refine ⟨?_, checkW_0.2 ⟨.inr rfl, fun e => m1 ⟨hM, by omega⟩, by omega, k4, by omega⟩⟩
    unfold putL
    rw [if_pos rfl, k3, ← k5, ← u3, List.cons_append, ← e1]
    exact e0.symm
  · rename_i hn
    have hn0 : verN l = 0 := by
      unfold verN at hn ⊢
      split
      · rename_i g; rw [if_pos g] at hn; exact absurd rfl hn
      · rfl
    rw [hn0]
    obtain ⟨k3, k4, k5⟩ := plainT_only _ _ _ _ (by omega) (by decide) k2
    refine ⟨k3.symm, checkW_0.2 ⟨.inl rfl, fun e => ?_, by omega, k4, by omega⟩⟩
    rw [List.length_eq_zero_iff.1 e] at k3
    exact hne k3
theorem put_both (xs ys : List ByteArray) : putL 0 xs ++ putL 0 ys = putL 0 (xs ++ ys) := by
  unfold putL
  simp
theorem gatherW_err (E : Int) (h : E ≠ 0) (xs : List ByteArray) : gatherW (xs.map (fun x => (x, 0)) ++ [(⟨#[]⟩, E)]) [] = ([], E) := by
  rw [gatherW_ok, gatherW, if_pos h]
/-- too many -/
theorem get_many {xs : List ByteArray} (h : ∀ x ∈ xs, longE x.size = 0) (hl : 64 < xs.length) : getE (putL 0 xs) = 5 := by
  have hver := ver_put [] (.inl rfl) (by omega) h
  rw [List.append_nil] at hver
  have ht : toldW (putL 0 xs) = (xs.take 64).map (fun x => (x, 0)) ++ [(⟨#[]⟩, 5)] := by
    unfold toldW
    rw [hver.2, if_neg (by decide)]
    have e : putL 0 xs = xs.flatMap bytesT := rfl
    have hlen : xs.length ≤ (xs.flatMap bytesT).length := by
      clear h hl hver e
      induction xs with
      | nil => simp
      | cons x xs ih => have := bytesT_pos x; rw [List.flatMap_cons, List.length_append, List.length_cons]; omega
    rw [e, plainT_back xs _ 0 h (by omega) (by omega), if_pos (by omega)]
  unfold getE
  rw [if_neg (by rw [hver.1]; simp), ht, gatherW_err 5 (by decide), if_pos (by simp)]
/-- something is left -/
theorem get_left {xs : List ByteArray} {more : List UInt8} (h0 : xs.length ≠ 0) (h64 : xs.length ≤ 64) (h : ∀ x ∈ xs, longE x.size = 0) (hm : more ≠ []) : getE (putL 2 xs ++ more) = 4 := by
  have hver := ver_put more (.inr rfl) h0 h
  have ht : toldW (putL 2 xs ++ more) = xs.map (fun x => (x, 0)) ++ [(⟨#[]⟩, 4)] := by
    unfold toldW
    rw [hver.2, if_pos rfl]
    have hu := unvarS_back [2] (xs.flatMap (partW 2) ++ more) xs.length (by omega)
    have e : putL 2 xs ++ more = [2] ++ varL xs.length ++ (xs.flatMap (partW 2) ++ more) := by
      unfold putL; rw [if_pos rfl]; simp [List.append_assoc]
    have hn : (BitVec.ofNat 64 xs.length).toNat = xs.length := by rw [BitVec.toNat_ofNat, Nat.mod_eq_of_lt (by omega)]
    have hu : unvarS (putL 2 xs ++ more) 1 = (BitVec.ofNat 64 xs.length, 1 + (varL xs.length).length, 0) := by rw [e]; exact hu
    have hM : manyE (putL 2 xs ++ more) = 0 := by
      unfold manyE
      rw [hu]
      dsimp only
      rw [hn, if_neg (by omega), if_neg (by omega)]
    unfold countT
    rw [if_neg (by rw [hM]; simp), hu]
    dsimp only
    rw [hn]
    have := countGo_back xs ([2] ++ varL xs.length) more h
    rw [if_neg hm] at this
    rw [e, show 1 + (varL xs.length).length = ([2] ++ varL xs.length).length by simp; omega, ← List.append_assoc]
    exact this
  unfold getE
  rw [if_neg (by rw [hver.1]; simp), ht, gatherW_err 4 (by decide), if_pos (by simp)]
theorem putL_ne {v : Int} {xs : List ByteArray} (hv : v = 0 ∨ v = 2) (h0 : xs.length ≠ 0) (h : ∀ x ∈ xs, longE x.size = 0) : putL v xs ≠ [] := fun e => by
  have := (ver_put [] hv h0 h).1
  rw [List.append_nil, e] at this
  exact absurd this (by decide)
end Go.Proofs.YtdflihfecfmpfaaDoor
