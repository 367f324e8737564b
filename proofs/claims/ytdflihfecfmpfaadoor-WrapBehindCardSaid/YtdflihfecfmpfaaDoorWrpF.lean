/- Wrappers: Get.  Printed by wip/genWrpF.py -/
import Derived.Test.YtdflihfecfmpfaaDoorWrpE
import Derived.Test.YtdflihfecfmpfaaDoorMapF
import Derived.Test.YtdflihfecfmpfaaDoorOpenS
namespace Go.Proofs.YtdflihfecfmpfaaDoor
open Go.RowKit Go.Shelf
set_option linter.unusedVariables false
set_option linter.unusedSimpArgs false
attribute [local go_sem] Oper.semAt_some

theorem plainT_len : ∀ (f : Nat) (r : List UInt8) (m : Nat), (plainT f r m).length ≤ f
  | 0, _, _ => by simp [plainT]
  | f + 1, r, m => by
    rw [plainT]
    split
    · simp
    · split
      · simp
      · have := plainT_len f (r.drop (lookFrom r 0 + lookN r 0)) (m + 1)
        simp; omega
theorem countGo_len (l : List UInt8) : ∀ (k a : Nat), (countGo l k a).length ≤ k + 1
  | 0, a => by rw [countGo]; split <;> simp
  | k + 1, a => by
    rw [countGo]
    split
    · simp
    · have := countGo_len l k ((unvarS l a).2.1 + (unvarS l a).1.toNat)
      simp; omega
theorem told_len (l : List UInt8) : (toldW l).length ≤ l.length + 70 := by
  unfold toldW
  split
  · unfold countT
    split
    · simp
    · rename_i h
      have h : manyE l = 0 := by simpa using h
      unfold manyE at h
      split at h
      · cases h
      · split at h
        · cases h
        · have := countGo_len l (unvarS l 1).1.toNat (unvarS l 1).2.1
          omega
  · have := plainT_len (l.length + 1) l 0
    omega
theorem gatherW_go : ∀ (xs r : List (ByteArray × Int)) (acc : List ByteArray), (∀ q ∈ xs, q.2 = 0) → gatherW (xs ++ r) acc = gatherW r (acc ++ xs.map (·.1))
  | [], r, acc, _ => by simp
  | q :: xs, r, acc, h => by
    rw [List.cons_append, gatherW, if_neg (by simp [h q (by simp)]), gatherW_go xs r _ (fun q hq => h q (by simp [hq]))]
    simp
theorem told_splitW (T : List (ByteArray × Int)) (pre : List (Fin T.length)) (x : Fin T.length) (h : pre ++ [x] <+: List.finRange T.length) : ∃ r, T = pre.map (fun i => T[i]) ++ T[x] :: r := by
  obtain ⟨r, hr⟩ := h
  have key : (List.finRange T.length).map (fun i => T[i]) = T := by
    refine List.ext_getElem (by simp) fun i h1 h2 => ?_
    simp
  refine ⟨r.map (fun i => T[i]), ?_⟩
  conv => lhs; rw [← key, ← hr]
  simp
theorem gatherW_fail (T : List (ByteArray × Int)) (pre : List (Fin T.length)) (x : Fin T.length) (h : pre ++ [x] <+: List.finRange T.length) (h0 : ∀ y ∈ pre, T[y].2 = 0) (he : T[x].2 ≠ 0) : gatherW T [] = ([], T[x].2) := by
  obtain ⟨r, hr⟩ := told_splitW T pre x h
  conv => lhs; rw [hr]
  rw [gatherW_go _ _ _ (by intro p hp; obtain ⟨y, hy, rfl⟩ := List.mem_map.1 hp; exact h0 y hy), gatherW, if_pos he]
theorem gatherW_all (T : List (ByteArray × Int)) (h0 : ∀ y ∈ List.finRange T.length, T[y].2 = 0) : gatherW T [] = (T.map (·.1), 0) := by
  have key : (List.finRange T.length).map (fun i => T[i]) = T := by
    refine List.ext_getElem (by simp) fun i h1 h2 => ?_
    simp
  have := gatherW_go T [] [] (by intro p hp; rw [← key] at hp; obtain ⟨y, hy, rfl⟩ := List.mem_map.1 hp; exact h0 y hy)
  rw [List.append_nil] at this
  rw [this]; simp [gatherW]
/-- what is told whole, is batches -/
theorem told_ok {l : List UInt8} {xs : List ByteArray} (h : toldW l = xs.map (fun x => (x, 0))) : (∀ x ∈ xs, longE x.size = 0) ∧ xs.length ≤ 64 := by
  unfold toldW at h
  split at h
  · unfold countT at h
    split at h
    · rename_i g; exact (one_told g h).elim
    rename_i hM
    have hM : manyE l = 0 := by simpa using hM
    unfold manyE at hM
    split at hM
    · cases hM
    rename_i m1
    split at hM
    · cases hM
    rename_i m2
    have hu : unvarS l ((1 : Nat) : Int) = ((unvarS l 1).1, (unvarS l 1).2.1, 0) := Prod.ext rfl (Prod.ext rfl hM)
    obtain ⟨u1, u2, u3⟩ := unvarS_only l 1 _ _ hu
    obtain ⟨k3, k4, k5⟩ := countGo_only l _ _ xs u2 h
    exact ⟨k4, by omega⟩
  · obtain ⟨k3, k4, k5⟩ := plainT_only _ _ _ _ (by omega) (by decide) h
    exact ⟨k4, by omega⟩

/-- what stands behind the batches that were told -/
def WI (w : World) (b : Nat) (T : List (ByteArray × Int)) (pre : List (Fin T.length)) (W : World) : Prop :=
  (∃ v, Boxed W (b + 4) 22 v ∧ W.ownsRow (b + 6) 9 1 v pre.length (pre.map fun x => Value.string T[x].1) ∧ (∀ x ∈ pre, T[x].2 = 0)) ∧ (Below b w W ∧ (Boxed W (b + 1) 22 (.slice none 0 0) ∧ (Boxed W (b + 2) 25 (.int .i64 0) ∧ (b + 6 ≤ W.heap.size ∧ ∃ z, Boxed W b 3 z))))
def WX (w : World) (b : Nat) (T : List (ByteArray × Int)) (c : Code) (pre : List (Fin T.length)) (W : World) : Prop :=
  c = .ret ∧ ∃ e', (pre <+: List.finRange T.length → gatherW T [] = ([], e') ∧ e' ≠ 0) ∧ (Below b w W ∧ (Boxed W b 3 (.int .i64 0) ∧ (Boxed W (b + 1) 22 (.slice none 0 0) ∧ Boxed W (b + 2) 25 (.int .i64 e'))))
theorem ownFrom_exW {β γ : Type} {B : Nat} {I : γ → β → World → Prop} (h : ∀ c, OwnFrom B (I c)) : OwnFrom B (fun s W => ∃ c, I c s W) := fun s W W' row ⟨c, hc⟩ hg hr => ⟨c, h c s W W' row hc hg hr⟩
theorem ownFrom_sizeW {β : Type} {B n : Nat} : OwnFrom B (fun (_ : β) W => n ≤ W.heap.size) := fun _ _ _ _ hs hg _ => Nat.le_trans hs hg.size
theorem own_lowerW {w : World} {base base' size n : Nat} {e : TypeId} {v : Value} {xs : List Value} (h : w.ownsRow base e size v n xs) (hb : base' ≤ base) : w.ownsRow base' e size v n xs := by
  refine ⟨h.1, ?_⟩
  rcases h.2 with h1 | ⟨g, cap, cur, hv, hg, rest⟩
  · exact .inl h1
  · exact .inr ⟨g, cap, cur, hv, by omega, rest⟩
theorem appendedW {W w1 : World} {n₀ B lo : Nat} {t e : TypeId} {size : Nat} {v v' : Value} {k m : Nat} {xs ys : List Value} {tmp : Obj}
    (hv : Boxed W B t v) (hte : t ≠ e) (hrow : W.ownsRow n₀ e size v k xs) (hlw : lo ≤ W.heap.size) (hlB : lo ≤ B) (hln : lo ≤ n₀) (hown' : w1.ownsRow n₀ e size v' m ys) (hgrow : (W.alloc tmp).grownBy w1 v.ownBlock) :
    Boxed w1 B t v ∧ Boxed (w1.setCell ⟨B, 0, none⟩ v') B t v' ∧ (w1.setCell ⟨B, 0, none⟩ v').ownsRow n₀ e size v' m ys ∧ KeepsOthers W (w1.setCell ⟨B, 0, none⟩ v') ∧ Below lo W (w1.setCell ⟨B, 0, none⟩ v') := by
  obtain ⟨h1, h2, _, h4, h5⟩ := hv.appended hte (own_lowerW hrow hln) hlw hlB (own_lowerW hown' hln) hgrow
  exact ⟨h1, h2, hown'.kept (grownBy_setCell' w1 B v') (.inr (h1.not_row hte hown').symm), h4, h5⟩
theorem WI.own {w : World} {b : Nat} {T : List (ByteArray × Int)} {B : Nat} (h1 : b ≤ w.heap.size) (h2 : b ≤ B) : OwnFrom B (WI w b T) :=
  OwnFrom.and (Own.from (holdsRow_own (b + 6) (b + 4) 22 9 1 (fun pre : List (Fin T.length) => pre.length) (fun pre => pre.map fun x => Value.string T[x].1) (fun pre _ => ∀ x ∈ pre, T[x].2 = 0)) _)
    (OwnFrom.and (ownFrom_below h1 h2) (OwnFrom.and (Own.from (boxed_own _ _ (fun _ => _)) _) (OwnFrom.and (Own.from (boxed_own _ _ (fun _ => _)) _) (OwnFrom.and ownFrom_sizeW (ownFrom_exW fun z => Own.from (boxed_own _ _ (fun _ => z)) _)))))
theorem WX.own {w : World} {b : Nat} {T : List (ByteArray × Int)} {B : Nat} (h1 : b ≤ w.heap.size) (h2 : b ≤ B) (c : Code) : OwnFrom B (WX w b T c) := by
  rintro pre W W' row ⟨hc, e', hp, hB, q0, q1, q2⟩ hg hr
  exact ⟨hc, e', hp, ownFrom_below h1 h2 () W W' row hB hg hr, Own.from (boxed_own b _ (fun _ : Unit => _)) B () W W' row q0 hg hr, Own.from (boxed_own (b + 1) _ (fun _ : Unit => _)) B () W W' row q1 hg hr, Own.from (boxed_own (b + 2) _ (fun _ : Unit => _)) B () W W' row q2 hg hr⟩
theorem WI.free {w : World} {b : Nat} {T : List (ByteArray × Int)} (hw : b ≤ w.heap.size) : BoxFree b (WI w b T) := by
  constructor
  · intro pre W W' h hg
    exact WI.own (B := b) hw (Nat.le_refl _) pre W W' none h hg (fun r e => by cases e)
  · rintro pre W u ⟨⟨v, hv, hr, hp⟩, hB, q1, q2, hz, z, q0⟩
    exact ⟨⟨v, hv.other (by omega) _, hr.kept (grownBy_setCell' W b u) (.inr (q0.not_row (by decide) hr).symm), hp⟩, hB.setCell (p := ⟨b, 0, none⟩) (Nat.le_refl _) _, q1.other (by omega) _, q2.other (by omega) _, by simpa [World.setCell] using hz, u, q0.set u⟩
end Go.Proofs.YtdflihfecfmpfaaDoor
