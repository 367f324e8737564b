/- No two states are the same behind the rounds: chi, rho and the whole. -/
import Derived.Test.YtihkbhogapopdaaKecL
namespace Go.Proofs.Ytihkbhogapopdaa

theorem rot_bit (x : BitVec 64) (k : Nat) (hk : k < 64) (i : Nat) (hi : i < 64) : (x.rotateLeft k).getLsbD ((i + k) % 64) = x.getLsbD i := by
  rw [BitVec.getLsbD_rotateLeft, Nat.mod_eq_of_lt hk]
  by_cases h : i + k < 64
  · have e3 : ¬ i + k < k := by omega
    rw [Nat.mod_eq_of_lt h]
    simp [h, e3]
  · have e : (i + k) % 64 = i + k - 64 := by omega
    have e2 : 64 - k + (i + k - 64) = i := by omega
    have e3 : i + k - 64 < k := by omega
    rw [e]
    simp [e2, e3]
theorem rot_inj (x y : BitVec 64) (k : Nat) (hk : k < 64) (h : x.rotateLeft k = y.rotateLeft k) : x = y := by
  refine BitVec.eq_of_getLsbD_eq fun i hi => ?_
  rw [← rot_bit x k hk i hi, ← rot_bit y k hk i hi, h]
theorem rhoAt_inj : ∀ i x : Fin 25, rhoAt i = rhoAt x → i = x := by decide +kernel
theorem rhoAt_lt : ∀ i : Fin 25, rhoAt i < 25 := by decide
theorem rho_get (by_ : List Nat) (t : List (BitVec 64)) : ∀ (l : List (Fin 25)) (b : List (BitVec 64)), b.length = 25 → ∀ i : Fin 25,
    (l.foldl (rhoStep by_ t) b).getD (rhoAt i) 0 = if i ∈ l then (t.getD i.val 0).rotateLeft (by_.getD i.val 0) else b.getD (rhoAt i) 0
  | [], b, _, i => by simp
  | x :: l, b, hb, i => by
    rw [List.foldl_cons, rho_get by_ t l _ (by simpa [rhoStep] using hb) i]
    by_cases h : i ∈ l
    · rw [if_pos h, if_pos (by simp [h])]
    · rw [if_neg h]
      unfold rhoStep
      by_cases e : i = x
      · subst e
        rw [if_pos (by simp), List.getD_eq_getElem?_getD, List.getElem?_set_self (by rw [hb]; exact rhoAt_lt i)]
        rfl
      · rw [if_neg (by simp [e, h]), List.getD_eq_getElem?_getD, List.getElem?_set_ne (fun h2 => e (rhoAt_inj i x h2.symm)), ← List.getD_eq_getElem?_getD]
theorem turns64 : ∀ i : Fin 25, turnsL.getD i.val 0 < 64 := by decide
theorem rho_inj (t t' : List (BitVec 64)) (ht : t.length = 25) (ht' : t'.length = 25) (h : rhoOf turnsL t (List.finRange 25) = rhoOf turnsL t' (List.finRange 25)) : t = t' := by
  refine ext25 ht ht' fun i => ?_
  have h1 := congrArg (fun l : List (BitVec 64) => l.getD (rhoAt i) 0) h
  simp only [rhoOf] at h1
  rw [rho_get _ _ _ _ (by simp) i, rho_get _ _ _ _ (by simp) i, if_pos (List.mem_finRange i), if_pos (List.mem_finRange i)] at h1
  exact rot_inj _ _ _ (turns64 i) h1

theorem chi5 : ∀ b0 b1 b2 b3 b4 c0 c1 c2 c3 c4 : Bool, (b0 ^^ (!b1 && b2)) = (c0 ^^ (!c1 && c2)) → (b1 ^^ (!b2 && b3)) = (c1 ^^ (!c2 && c3)) → (b2 ^^ (!b3 && b4)) = (c2 ^^ (!c3 && c4)) →
    (b3 ^^ (!b4 && b0)) = (c3 ^^ (!c4 && c0)) → (b4 ^^ (!b0 && b1)) = (c4 ^^ (!c0 && c1)) → b0 = c0 ∧ b1 = c1 ∧ b2 = c2 ∧ b3 = c3 ∧ b4 = c4 := by decide +kernel
theorem chi_inj (b b' a a' : List (BitVec 64)) (hb : b.length = 25) (hb' : b'.length = 25) (ha : a.length = 25) (ha' : a'.length = 25) (h : chiK b a = chiK b' a') : b = b' := by
  refine ext25 hb hb' fun i => ?_
  refine BitVec.eq_of_getLsbD_eq fun j hj => ?_
  have g : ∀ y r : Nat, y < 5 → r % 5 = 0 → r + y < 25 → ((b.getD (r + y) 0).getLsbD j ^^ (!(b.getD (r + (y + 1) % 5) 0).getLsbD j && (b.getD (r + (y + 2) % 5) 0).getLsbD j))
      = ((b'.getD (r + y) 0).getLsbD j ^^ (!(b'.getD (r + (y + 1) % 5) 0).getLsbD j && (b'.getD (r + (y + 2) % 5) 0).getLsbD j)) := by
    intro y r hy hr hlt
    have h1 : (chiK b a).getD (r + y) 0 = (chiK b' a').getD (r + y) 0 := by rw [h]
    have e1 := chiK_get b a ha ⟨r + y, hlt⟩
    have e2 := chiK_get b' a' ha' ⟨r + y, hlt⟩
    simp only [show (r + y) % 5 = y by omega, show r + y - y = r by omega] at e1 e2
    rw [e1, e2] at h1
    have h2 := congrArg (fun v : BitVec 64 => v.getLsbD j) h1
    simpa [BitVec.getLsbD_xor, BitVec.getLsbD_and, BitVec.getLsbD_not, hj] using h2
  obtain ⟨r, hr⟩ : ∃ r, i.val - i.val % 5 = r := ⟨_, rfl⟩
  have hi := i.isLt
  have hr5 : r % 5 = 0 := by omega
  have g0 := g 0 r (by omega) hr5 (by omega)
  have g1 := g 1 r (by omega) hr5 (by omega)
  have g2 := g 2 r (by omega) hr5 (by omega)
  have g3 := g 3 r (by omega) hr5 (by omega)
  have g4 := g 4 r (by omega) hr5 (by omega)
  simp only [Nat.reduceAdd, Nat.reduceMod, Nat.zero_add, Nat.add_zero] at g0 g1 g2 g3 g4
  obtain ⟨q0, q1, q2, q3, q4⟩ := chi5 _ _ _ _ _ _ _ _ _ _ g0 g1 g2 g3 g4
  obtain ⟨x, hx⟩ : ∃ x, i.val % 5 = x := ⟨_, rfl⟩
  have hix : i.val = r + x := by omega
  have hx5 : x < 5 := by omega
  rw [hix]
  match x, hx5 with
  | 0, _ => exact q0
  | 1, _ => exact q1
  | 2, _ => exact q2
  | 3, _ => exact q3
  | 4, _ => exact q4

theorem iota_inj (c c' : List (BitVec 64)) (n : BitVec 64) (hc : c.length = 25) (hc' : c'.length = 25) (h : c.set 0 (c.getD 0 0 ^^^ n) = c'.set 0 (c'.getD 0 0 ^^^ n)) : c = c' := by
  refine ext25 hc hc' fun i => ?_
  have h1 := congrArg (fun l : List (BitVec 64) => l.getD i.val 0) h
  by_cases e : i.val = 0
  · rw [e] at h1 ⊢
    rw [List.getD_eq_getElem?_getD, List.getElem?_set_self (by omega), List.getD_eq_getElem?_getD (l := c'.set _ _), List.getElem?_set_self (by omega)] at h1
    simp only [Option.getD_some] at h1
    have h2 := congrArg (fun v => v ^^^ n) h1
    simpa [BitVec.xor_assoc] using h2
  · rw [List.getD_eq_getElem?_getD, List.getElem?_set_ne (by omega), List.getD_eq_getElem?_getD (l := c'.set _ _), List.getElem?_set_ne (by omega), ← List.getD_eq_getElem?_getD, ← List.getD_eq_getElem?_getD] at h1
    exact h1

theorem round_inj (a a' : List (BitVec 64)) (n : BitVec 64) (ha : a.length = 25) (ha' : a'.length = 25) (h : roundK turnsL a n = roundK turnsL a' n) : a = a' := by
  have t1 : (thetaK a).length = 25 := by rw [thetaK_len]; exact ha
  have t2 : (thetaK a').length = 25 := by rw [thetaK_len]; exact ha'
  unfold roundK at h
  simp only at h
  have h1 := iota_inj _ _ n (by rw [chiK_len]; exact t1) (by rw [chiK_len]; exact t2) h
  have h2 := chi_inj _ _ _ _ (rhoOf_len _ _ _) (rhoOf_len _ _ _) t1 t2 h1
  exact theta_inj a a' ha ha' (rho_inj _ _ t1 t2 h2)
theorem fold_inj (f : List (BitVec 64) → BitVec 64 → List (BitVec 64)) (hf : ∀ a n, (f a n).length = a.length) (hi : ∀ a a' n, a.length = 25 → a'.length = 25 → f a n = f a' n → a = a') :
    ∀ (l : List (BitVec 64)) (a a' : List (BitVec 64)), a.length = 25 → a'.length = 25 → l.foldl f a = l.foldl f a' → a = a'
  | [], _, _, _, _, h => h
  | n :: l, a, a', ha, ha', h => by
    rw [List.foldl_cons, List.foldl_cons] at h
    exact hi a a' n ha ha' (fold_inj f hf hi l _ _ (by rw [hf]; exact ha) (by rw [hf]; exact ha') h)
theorem permute_inj (a a' : List (BitVec 64)) (ha : a.length = 25) (ha' : a'.length = 25) (h : permuteK a = permuteK a') : a = a' := by
  unfold permuteK at h
  exact fold_inj (roundK turnsL) (roundK_len turnsL) (fun a a' n h1 h2 => round_inj a a' n h1 h2) numsL a a' ha ha' h
end Go.Proofs.Ytihkbhogapopdaa
