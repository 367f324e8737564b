/- The two Permutes are one: plain law. -/
import Derived.Test.YtihkbhogapopdaaKecJ
namespace Go.Proofs.Ytihkbhogapopdaa

theorem rot0 (x : BitVec 64) : x.rotateLeft 0 = x := by
  rw [BitVec.rotateLeft_def]
  have e4 : x >>> 64 = 0 := by
    apply BitVec.eq_of_toNat_eq
    simp [Nat.shiftRight_eq_div_pow, Nat.div_eq_of_lt x.isLt]
  show x <<< 0 ||| x >>> 64 = x
  rw [e4]; simp

/-- a list of 25, laid out -/
theorem list25 (a : List (BitVec 64)) (ha : a.length = 25) : a = (List.finRange 25).map fun i => a.getD i.val 0 := by
  apply List.ext_getElem (by simpa using ha)
  intro i h1 h2
  simp [List.getD_eq_getElem?_getD, List.getElem?_eq_getElem h1]

theorem foldl_congr_mem {α β : Type} (f g : β → α → β) (l : List α) (b : β) (h : ∀ b, ∀ x ∈ l, f b x = g b x) : l.foldl f b = l.foldl g b := by
  induction l generalizing b with
  | nil => rfl
  | cons x l ih => rw [List.foldl_cons, List.foldl_cons, h b x (by simp), ih]; intro b y hy; exact h b y (by simp [hy])

/-- where a turn is, and by how much; by how much a place is turned in a row of turns -/
def tpos (t : Nat) : Nat := (tp t).1 + 5 * (tp t).2
def tw : List Nat → Nat → Nat
  | [], _ => 0
  | t :: l, i => if tpos t = i then (t + 1) * (t + 2) / 2 % 64 else tw l i
theorem tw_out : ∀ (l : List Nat) (i : Nat), i ∉ l.map tpos → tw l i = 0
  | [], _, _ => rfl
  | t :: l, i, h => by
    simp only [List.map_cons, List.mem_cons, not_or] at h
    rw [tw, if_neg (fun e => h.1 e.symm), tw_out l i h.2]
theorem turn_get : ∀ (l : List Nat) (a : List (BitVec 64)), (l.map tpos).Nodup → (∀ t ∈ l, tpos t < a.length) → ∀ i, (l.foldl turnStep a).getD i 0 = (a.getD i 0).rotateLeft (tw l i)
  | [], a, _, _, i => by rw [List.foldl_nil, tw, rot0]
  | t :: l, a, hn, hl, i => by
    rw [List.map_cons, List.nodup_cons] at hn
    rw [List.foldl_cons, turn_get l _ hn.2 (fun q hq => by simpa [turnStep] using hl q (by simp [hq])) i]
    have hs : turnStep a t = a.set (tpos t) (rotR (a.getD (tpos t) 0) ((t + 1) * (t + 2) / 2)) := rfl
    rw [hs, tw]
    by_cases e : tpos t = i
    · subst e
      rw [tw_out l _ hn.1, rot0, if_pos rfl, List.getD_eq_getElem?_getD, List.getElem?_set_self (hl t (by simp))]
      rfl
    · rw [if_neg e, List.getD_eq_getElem?_getD, List.getElem?_set_ne e, ← List.getD_eq_getElem?_getD]
theorem tw_is : ∀ i : Fin 25, tw (List.range 24) i.val = turnsL.getD i.val 0 := by decide +kernel
theorem tpos_nodup : ((List.range 24).map tpos).Nodup := by decide +kernel
theorem tpos_lt (t : Nat) : tpos t < 25 := by
  have := tp_lt t
  unfold tpos
  omega
theorem turnR_get (a : List (BitVec 64)) (ha : a.length = 25) (i : Fin 25) : (turnR a).getD i.val 0 = (a.getD i.val 0).rotateLeft (turnsL.getD i.val 0) := by
  unfold turnR
  rw [turn_get _ a tpos_nodup (fun t _ => by rw [ha]; exact tpos_lt t) i.val, tw_is i]

theorem move_turn (t : List (BitVec 64)) (ht : t.length = 25) : moveR (turnR t) = rhoOf turnsL t (List.finRange 25) := by
  unfold moveR rhoOf
  refine foldl_congr_mem _ _ _ _ fun b i _ => ?_
  unfold moveStep rhoStep
  rw [turnR_get t ht i]

/-- a fold of sets at each place: what stands there behind it does not hang on what stood there -/
theorem chi_get (b : List (BitVec 64)) : ∀ (l : List (Fin 25)) (a : List (BitVec 64)), a.length = 25 → ∀ i : Fin 25,
    (l.foldl (chiStep b) a).getD i.val 0 = if i ∈ l then b.getD i.val 0 ^^^ (~~~ b.getD (i.val - i.val % 5 + (i.val % 5 + 1) % 5) 0 &&& b.getD (i.val - i.val % 5 + (i.val % 5 + 2) % 5) 0) else a.getD i.val 0
  | [], a, _, i => by simp
  | x :: l, a, ha, i => by
    rw [List.foldl_cons, chi_get b l _ (by simpa [chiStep] using ha) i]
    by_cases h : i ∈ l
    · rw [if_pos h, if_pos (by simp [h])]
    · rw [if_neg h]
      by_cases e : i = x
      · subst e
        rw [if_pos (by simp)]
        simp [chiStep, List.getD_eq_getElem?_getD, ha]
      · rw [if_neg (by simp [e, h])]
        have : x.val ≠ i.val := fun h2 => e (Fin.ext h2.symm)
        simp [chiStep, List.getD_eq_getElem?_getD, List.getElem?_set_ne this]
theorem chiK_get (b a : List (BitVec 64)) (ha : a.length = 25) (i : Fin 25) :
    (chiK b a).getD i.val 0 = b.getD i.val 0 ^^^ (~~~ b.getD (i.val - i.val % 5 + (i.val % 5 + 1) % 5) 0 &&& b.getD (i.val - i.val % 5 + (i.val % 5 + 2) % 5) 0) := by
  unfold chiK
  rw [chi_get b _ a ha i, if_pos (List.mem_finRange i)]
theorem chiK_len (b a : List (BitVec 64)) : (chiK b a).length = a.length := chi_len b _ a
theorem ext25 {a b : List (BitVec 64)} (ha : a.length = 25) (hb : b.length = 25) (h : ∀ i : Fin 25, a.getD i.val 0 = b.getD i.val 0) : a = b := by
  rw [list25 a ha, list25 b hb]
  exact List.map_congr_left fun i _ => h i
theorem chiK_free (b a a' : List (BitVec 64)) (ha : a.length = 25) (ha' : a'.length = 25) : chiK b a = chiK b a' :=
  ext25 (by rw [chiK_len]; exact ha) (by rw [chiK_len]; exact ha') fun i => by rw [chiK_get b a ha, chiK_get b a' ha']

theorem round_one (a : List (BitVec 64)) (ha : a.length = 25) (n : BitVec 64) : roundR a n = roundK turnsL a n := by
  have ht : (thetaK a).length = 25 := by rw [thetaK_len]; exact ha
  unfold roundR roundK
  simp only [move_turn _ ht]
  rw [chiK_free _ a (thetaK a) ha ht]
theorem folds_one : ∀ (l : List (BitVec 64)) (a : List (BitVec 64)), a.length = 25 → l.foldl roundR a = l.foldl (roundK turnsL) a
  | [], a, _ => (List.foldl_nil (f := roundR) (b := a)).trans (List.foldl_nil (f := roundK turnsL) (b := a)).symm
  | n :: l, a, ha => by rw [List.foldl_cons, List.foldl_cons, round_one a ha n, folds_one l _ (by rw [roundK_len]; exact ha)]
theorem permute_one (a : List (BitVec 64)) (ha : a.length = 25) : permuteR a = permuteK a := folds_one numsL a ha
end Go.Proofs.Ytihkbhogapopdaa
