/- What a round of a loop over a function keeps: the blocks of a set lie as they lay. Of whatever program. -/
import Derived.Test.YtdflihfecfmpfaaDoorRound
namespace Go.Proofs.YtdflihfecfmpfaaDoor
open Go.RowKit Go.Shelf

/-! What a round keeps: the blocks of S lie as they lay. -/
structure KeepS (S : Nat → Prop) (W W' : World) : Prop where
  size : W.heap.size ≤ W'.heap.size
  block : ∀ k, S k → W'.heap[k]? = W.heap[k]?
section
variable {S : Nat → Prop} {W W' W'' : World}
theorem KeepS.refl (S : Nat → Prop) (W : World) : KeepS S W W := ⟨Nat.le_refl _, fun _ _ => rfl⟩
theorem KeepS.trans (h : KeepS S W W') (k : KeepS S W' W'') : KeepS S W W'' := ⟨Nat.le_trans h.size k.size, fun i hi => (k.block i hi).trans (h.block i hi)⟩
theorem KeepS.of_below {B : Nat} (h : Below B W W') (hS : ∀ k, S k → k < B) : KeepS S W W' := ⟨h.size, fun k hk => h.block k (hS k hk)⟩
theorem KeepS.drewN (h : KeepS S W W') (n : Nat) : KeepS S W (W'.drewN n) := ⟨h.size, h.block⟩
theorem KeepS.grown (h : KeepS S W W') {row : Option Nat} (hg : W'.grownBy W'' row) (hS : ∀ k, S k → k < W'.heap.size) (hr : ∀ k, row = some k → ¬ S k) : KeepS S W W'' :=
  h.trans ⟨hg.size, fun k hk => hg.block k (hS k hk) (fun e => hr k e.symm hk)⟩
theorem KeepS.setCell (h : KeepS S W W') {p : Addr} (hp : ¬ S p.block) (u : Value) : KeepS S W (W'.setCell p u) :=
  h.trans ⟨by simp [World.setCell], fun k hk => Below.heap_setCell _ _ _ _ (fun e => hp (e ▸ hk))⟩
theorem KeepS.alloc (h : KeepS S W W') (hS : ∀ k, S k → k < W'.heap.size) (o : Obj) : KeepS S W (W'.alloc o) :=
  h.trans ⟨by simp, fun k hk => Below.heap_alloc _ _ _ (hS k hk)⟩
theorem KeepS.cell (h : KeepS S W W') {p : Addr} (hp : S p.block) : W'.cell? p = W.cell? p := World.cell?_of_block (w := W) (h.block p.block hp)
theorem Reads.keepS {B size n : Nat} {A : Option Addr} {xs : List Value} (h : Reads W B size A n xs) (hk : KeepS S W W') (hS : ∀ k, k < B → S k) : Reads W' B size A n xs :=
  h.keep fun _ hp => hk.cell (hS _ hp)
theorem keepS_t (h : KeepS S W W') (k : KeepS S W' W'') : KeepS S W W'' := h.trans k
theorem keepS_b {w : World} (hS : ∀ k, S k → k < w.heap.size) (W : World) (l : Nat) (o o' : Obj) (hl : w.heap.size ≤ l) (_ : W.heap[l]? = some o) (_ : o.isCells = false) (_ : o.isWalk = false) : KeepS S W (W.putObj l o') :=
  ⟨(grownBy_putObj' W l o').size, fun k hk => World.putObj_heap_other (by have := hS k hk; omega)⟩
theorem KeepS.appended {w1 : World} {B : Nat} {v v' : Value} {tmp : Obj} (hS : ∀ k, S k → k < W.heap.size) (hr : ∀ g, v.ownBlock = some g → ¬ S g) (hB : ¬ S B) (hg : (W.alloc tmp).grownBy w1 v.ownBlock) : KeepS S W (w1.setCell ⟨B, 0, none⟩ v') :=
  (((KeepS.refl S W).alloc hS tmp).grown hg (fun k hk => by have := hS k hk; simp; omega) hr).setCell (p := ⟨B, 0, none⟩) hB v'
theorem ownBlock_ge {w : World} {base : Nat} {e : TypeId} {size : Nat} {v : Value} {k : Nat} {xs : List Value} (h : w.ownsRow base e size v k xs) {g : Nat} (hg : v.ownBlock = some g) : base ≤ g := by
  rcases h.2 with ⟨rfl, _⟩ | ⟨g', cap, cur, rfl, hb, _⟩
  · simp [Value.ownBlock] at hg
  · obtain rfl : g' = g := by simpa [Value.ownBlock] using hg
    exact hb
theorem KeepS.appendedBox {w1 : World} {n₀ B Bs : Nat} {ti e : TypeId} {u v v' : Value} {size k : Nat} {xs : List Value} {tmp : Obj} (hn : n₀ ≤ W.heap.size) (hI : Boxed W Bs ti u) (hti : ti ≠ e) (hrow : W.ownsRow n₀ e size v k xs)
    (hB : n₀ ≤ B) (hBs : B ≠ Bs) (hg : (W.alloc tmp).grownBy w1 v.ownBlock) : KeepS (fun k => k < n₀ ∨ k = Bs) W (w1.setCell ⟨B, 0, none⟩ v') ∧ Boxed (w1.setCell ⟨B, 0, none⟩ v') Bs ti u := by
  have hne := hI.not_row hti hrow
  have hk : KeepS (fun k => k < n₀ ∨ k = Bs) W (w1.setCell ⟨B, 0, none⟩ v') := by
    refine KeepS.appended (fun k hk => ?_) (fun g hgb hk => ?_) (by rintro (h | h); omega; exact hBs h) hg
    · rcases hk with hk | rfl
      · omega
      · exact hI.lt
    · rcases hk with hk | rfl
      · have := ownBlock_ge hrow hgb; omega
      · exact hne hgb.symm
  exact ⟨hk, (hk.block Bs (.inr rfl)).trans hI⟩
end

theorem Boxed.below {W W' : World} {B : Nat} {t : TypeId} {v : Value} (h : Boxed W B t v) (hb : Below W.heap.size W W') : Boxed W' B t v := (hb.block B h.lt).trans h
def upto {α : Type} (f : Nat → α) (k : Nat) : List α := (List.range k).map f
theorem upto_succ {α : Type} (f : Nat → α) (k : Nat) : upto f (k + 1) = upto f k ++ [f k] := by simp [upto, List.range_succ]
theorem upto_length {α : Type} (f : Nat → α) (k : Nat) : (upto f k).length = k := by simp [upto]
theorem reads_blk {w : World} {b B : Nat} {t : TypeId} {cs : Array Value} {fr : Nat × Nat} (h : w.heap[b]? = some (.cells cs t fr)) (hB : b < B) (n : Nat) (hn : n = cs.size) : Reads w B 1 (some ⟨b, 0, none⟩) n cs.toList := by
  refine ⟨by simp [hn], fun _ => ⟨⟨b, 0, none⟩, rfl, hB, fun j u hu => ?_⟩⟩
  have e : (⟨b, 0, none⟩ : Addr).add j = ⟨b, j, none⟩ := by
    unfold Addr.add
    by_cases hj : j = 0
    · subst hj; simp
    · simp [hj]
  rw [e]
  simpa [World.cell?, h] using hu
theorem own_slice {w : World} {base : Nat} {e : TypeId} {v : Value} {n : Nat} {xs : List Value} (h : w.ownsRow base e 1 v n xs) : ∃ A c, v = .slice A n c ∧ Reads w w.heap.size 1 A n xs := by
  rcases h.2 with ⟨rfl, h0⟩ | ⟨g, cap, cur, rfl, _⟩
  · obtain rfl : xs = [] := List.eq_nil_of_length_eq_zero (by rw [h.1, h0])
    refine ⟨none, 0, by rw [h0], by rw [h0]; exact Reads.none_⟩
  · exact ⟨_, _, rfl, Reads.of_own h⟩

end Go.Proofs.YtdflihfecfmpfaaDoor
