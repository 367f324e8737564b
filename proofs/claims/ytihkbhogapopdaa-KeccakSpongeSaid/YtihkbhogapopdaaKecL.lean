/- No two states are the same behind the rounds: plain law. -/
import Derived.Test.YtihkbhogapopdaaKecK
namespace Go.Proofs.Ytihkbhogapopdaa

/-! Theta: what is alike behind it was alike. -/
theorem dbl (d : Fin 5 → Fin 64 → Bool) (s : Fin 5) (r : Fin 64) (h : ∀ x j, d x j = (d (x - s) j ^^ d (x + s) (j - r))) :
    ∀ x j, d x j = (d (x - (s + s)) j ^^ d (x + (s + s)) (j - (r + r))) := by
  have g1 : ∀ x s : Fin 5, x - s + s = x := by decide
  have g2 : ∀ x s : Fin 5, x + s - s = x := by decide
  have g3 : ∀ x s : Fin 5, x - s - s = x - (s + s) := by decide
  have g4 : ∀ x s : Fin 5, x + s + s = x + (s + s) := by decide
  have g5 : ∀ j r : Fin 64, j - r - r = j - (r + r) := by decide +kernel
  intro x j
  have h1 := h x j
  have h2 := h (x - s) j
  have h3 := h (x + s) (j - r)
  rw [g1, g3] at h2
  rw [g2, g4, g5] at h3
  rw [h1, h2, h3]
  generalize d (x - (s + s)) j = A
  generalize d x (j - r) = B
  generalize d (x + (s + s)) (j - (r + r)) = C
  revert A B C
  decide
theorem five : ∀ b0 b1 b2 b3 b4 : Bool, b0 = (b1 ^^ b4) → b1 = (b2 ^^ b0) → b2 = (b3 ^^ b1) → b3 = (b4 ^^ b2) → b4 = (b0 ^^ b3) → b0 = false ∧ b1 = false ∧ b2 = false ∧ b3 = false ∧ b4 = false := by decide
theorem theta_zero (d : Fin 5 → Fin 64 → Bool) (h : ∀ x j, d x j = (d (x - 1) j ^^ d (x + 1) (j - 1))) : ∀ x j, d x j = false := by
  have h6 := dbl d _ _ (dbl d _ _ (dbl d _ _ (dbl d _ _ (dbl d _ _ (dbl d _ _ h)))))
  have h7 : ∀ x j, d x j = (d (x - 4) j ^^ d (x + 4) (j - 0)) := h6
  have z : ∀ j : Fin 64, j - 0 = j := by decide
  intro x j
  have k0 := h7 0 j
  have k1 := h7 1 j
  have k2 := h7 2 j
  have k3 := h7 3 j
  have k4 := h7 4 j
  rw [z] at k0 k1 k2 k3 k4
  obtain ⟨q0, q1, q2, q3, q4⟩ := five (d 0 j) (d 1 j) (d 2 j) (d 3 j) (d 4 j) k0 k1 k2 k3 k4
  match x with
  | 0 => exact q0
  | 1 => exact q1
  | 2 => exact q2
  | 3 => exact q3
  | 4 => exact q4

/-- a column's sum -/
def colX (a : List (BitVec 64)) (x : Nat) : BitVec 64 := a.getD x 0 ^^^ a.getD (x + 5) 0 ^^^ a.getD (x + 10) 0 ^^^ a.getD (x + 15) 0 ^^^ a.getD (x + 20) 0
theorem cols_get (a : List (BitVec 64)) : ∀ (l : List (Fin 25)) (c : List (BitVec 64)), c.length = 5 → ∀ x : Fin 5,
    (l.foldl (colStep a) c).getD x.val 0 = l.foldl (fun v i => if i.val % 5 = x.val then v ^^^ a.getD i.val 0 else v) (c.getD x.val 0)
  | [], _, _, _ => rfl
  | i :: l, c, hc, x => by
    rw [List.foldl_cons, List.foldl_cons, cols_get a l _ (by simpa [colStep] using hc) x]
    congr 1
    by_cases e : i.val % 5 = x.val
    · rw [if_pos e]
      unfold colStep
      rw [e, List.getD_eq_getElem?_getD, List.getElem?_set_self (by rw [hc]; exact x.isLt)]
      rfl
    · rw [if_neg e]
      unfold colStep
      rw [List.getD_eq_getElem?_getD, List.getElem?_set_ne e, ← List.getD_eq_getElem?_getD]
theorem colsOf_get (a : List (BitVec 64)) (x : Fin 5) : (colsOf a (List.finRange 25)).getD x.val 0 = colX a x.val := by
  unfold colsOf
  rw [cols_get a _ _ rfl x]
  have hz : ∀ x : Fin 5, (List.replicate 5 (0 : BitVec 64)).getD x.val 0 = 0 := by decide
  have hf : ∀ x : Fin 5, ((List.finRange 25).filter fun i => decide (i.val % 5 = x.val)).map (·.val) = [x.val, x.val + 5, x.val + 10, x.val + 15, x.val + 20] := by decide
  have h1 : (List.finRange 25).foldl (fun v i => if i.val % 5 = x.val then v ^^^ a.getD i.val 0 else v) (0 : BitVec 64)
      = (((List.finRange 25).filter fun i => decide (i.val % 5 = x.val)).map (·.val)).foldl (fun v n => v ^^^ a.getD n 0) 0 := by
    rw [List.foldl_map, List.foldl_filter]
    simp only [decide_eq_true_eq]
  have h2 := hz x
  simp only [List.replicate_succ, List.replicate_zero] at h2
  rw [h2, h1, hf x]
  simp only [List.foldl_cons, List.foldl_nil, colX]
  rw [show (0 : BitVec 64) ^^^ a.getD x.val 0 = a.getD x.val 0 from by simp]
theorem mix_get (c : List (BitVec 64)) : ∀ (l : List (Fin 25)) (a : List (BitVec 64)), a.length = 25 → l.Nodup → ∀ i : Fin 25,
    (l.foldl (mixStep c) a).getD i.val 0 = if i ∈ l then a.getD i.val 0 ^^^ (c.getD ((i.val % 5 + 5 - 1) % 5) 0 ^^^ (c.getD ((i.val % 5 + 1) % 5) 0).rotateLeft 1) else a.getD i.val 0
  | [], a, _, _, i => by simp
  | x :: l, a, ha, hn, i => by
    rw [List.nodup_cons] at hn
    rw [List.foldl_cons, mix_get c l _ (by simpa [mixStep] using ha) hn.2 i]
    by_cases e : i = x
    · subst e
      rw [if_neg hn.1, if_pos (by simp)]
      unfold mixStep
      rw [List.getD_eq_getElem?_getD, List.getElem?_set_self (by rw [ha]; exact i.isLt)]
      rfl
    · have hne : x.val ≠ i.val := fun h2 => e (Fin.ext h2.symm)
      have hs : (mixStep c a x).getD i.val 0 = a.getD i.val 0 := by
        unfold mixStep
        rw [List.getD_eq_getElem?_getD, List.getElem?_set_ne hne, ← List.getD_eq_getElem?_getD]
      rw [hs]
      by_cases h : i ∈ l
      · rw [if_pos h, if_pos (by simp [h])]
      · rw [if_neg h, if_neg (by simp [e, h])]
theorem thetaK_get (a : List (BitVec 64)) (ha : a.length = 25) (i : Fin 25) :
    (thetaK a).getD i.val 0 = a.getD i.val 0 ^^^ (colX a ((i.val % 5 + 4) % 5) ^^^ (colX a ((i.val % 5 + 1) % 5)).rotateLeft 1) := by
  unfold thetaK
  rw [mix_get _ _ a ha (List.nodup_finRange 25) i, if_pos (List.mem_finRange i)]
  have h1 := colsOf_get a ⟨(i.val % 5 + 5 - 1) % 5, Nat.mod_lt _ (by omega)⟩
  have h2 := colsOf_get a ⟨(i.val % 5 + 1) % 5, Nat.mod_lt _ (by omega)⟩
  simp only at h1 h2
  rw [h1, h2]
  rfl

theorem rotbit (v : BitVec 64) (j : Fin 64) : (v.rotateLeft 1).getLsbD j.val = v.getLsbD (j - 1).val := by
  rw [BitVec.getLsbD_rotateLeft]
  have hj := j.isLt
  by_cases h : j.val = 0
  · have e : j = 0 := Fin.ext h
    subst e
    rfl
  · have e : (j - 1).val = j.val - 1 := by
      rw [Fin.sub_def]
      show (64 - 1 + j.val) % 64 = j.val - 1
      omega
    rw [e]
    have hne : j ≠ 0 := fun e0 => h (by rw [e0]; rfl)
    simp [hj, hne]
theorem theta_inj (a b : List (BitVec 64)) (ha : a.length = 25) (hb : b.length = 25) (h : thetaK a = thetaK b) : a = b := by
  obtain ⟨d, hd⟩ : ∃ d : Fin 5 → Fin 64 → Bool, ∀ x j, d x j = ((colX a x.val).getLsbD j.val ^^ (colX b x.val).getLsbD j.val) := ⟨_, fun _ _ => rfl⟩
  have c1 : ∀ x : Fin 5, (x - 1).val = (x.val + 4) % 5 := by decide
  have c2 : ∀ x : Fin 5, (x + 1).val = (x.val + 1) % 5 := by decide
  have he : ∀ (i : Fin 25) (x : Fin 5) (j : Fin 64), i.val % 5 = x.val → ((a.getD i.val 0).getLsbD j.val ^^ (b.getD i.val 0).getLsbD j.val) = (d (x - 1) j ^^ d (x + 1) (j - 1)) := by
    intro i x j hx
    have h1 : (thetaK a).getD i.val 0 = (thetaK b).getD i.val 0 := by rw [h]
    rw [thetaK_get a ha, thetaK_get b hb, hx] at h1
    have h2 := congrArg (fun v : BitVec 64 => v.getLsbD j.val) h1
    simp only [BitVec.getLsbD_xor, rotbit] at h2
    rw [hd, hd, c1 x, c2 x]
    revert h2
    generalize (a.getD i.val 0).getLsbD j.val = A
    generalize (b.getD i.val 0).getLsbD j.val = B
    generalize (colX a ((x.val + 4) % 5)).getLsbD j.val = C
    generalize (colX b ((x.val + 4) % 5)).getLsbD j.val = D
    generalize (colX a ((x.val + 1) % 5)).getLsbD (j - 1).val = E
    generalize (colX b ((x.val + 1) % 5)).getLsbD (j - 1).val = F
    revert A B C D E F
    decide
  have hz : ∀ x j, d x j = false := theta_zero d (by
    intro x j
    have g := fun (y : Nat) (hy : x.val + 5 * y < 25) => he ⟨x.val + 5 * y, hy⟩ x j (by show (x.val + 5 * y) % 5 = x.val; omega)
    have g0 := g 0 (by omega)
    have g1 := g 1 (by omega)
    have g2 := g 2 (by omega)
    have g3 := g 3 (by omega)
    have g4 := g 4 (by omega)
    simp only [Nat.mul_zero, Nat.add_zero, Nat.mul_one, Nat.reduceMul] at g0 g1 g2 g3 g4
    generalize (d (x - 1) j ^^ d (x + 1) (j - 1)) = R at *
    rw [hd]
    simp only [colX, BitVec.getLsbD_xor]
    revert g0 g1 g2 g3 g4
    generalize (a.getD x.val 0).getLsbD j.val = A0
    generalize (a.getD (x.val + 5) 0).getLsbD j.val = A1
    generalize (a.getD (x.val + 10) 0).getLsbD j.val = A2
    generalize (a.getD (x.val + 15) 0).getLsbD j.val = A3
    generalize (a.getD (x.val + 20) 0).getLsbD j.val = A4
    generalize (b.getD x.val 0).getLsbD j.val = B0
    generalize (b.getD (x.val + 5) 0).getLsbD j.val = B1
    generalize (b.getD (x.val + 10) 0).getLsbD j.val = B2
    generalize (b.getD (x.val + 15) 0).getLsbD j.val = B3
    generalize (b.getD (x.val + 20) 0).getLsbD j.val = B4
    clear g
    revert A0 A1 A2 A3 A4 B0 B1 B2 B3 B4
    revert R
    decide +kernel)
  refine ext25 ha hb fun i => ?_
  refine BitVec.eq_of_getLsbD_eq fun j hj => ?_
  have h1 := he i ⟨i.val % 5, Nat.mod_lt _ (by omega)⟩ ⟨j, hj⟩ rfl
  rw [hz, hz] at h1
  revert h1
  simp only
  generalize (a.getD i.val 0).getLsbD j = A
  generalize (b.getD i.val 0).getLsbD j = B
  revert A B
  decide
end Go.Proofs.Ytihkbhogapopdaa
