/- One call of read between two rounds of items. -/
import Derived.Test.YthbeigcbmalldaaDoorUnrI
namespace Go.Proofs.YthbeigcbmalldaaDoor
open Go.RowKit Go.Shelf

theorem read_step {w : World} {b r : Nat} {s : ByteArray} {k F i : Nat} {p : Int} {W : World} (hC : ItemC k) (hs : s.size ≤ 65536) (hb : w.heap.size = b) (hrb : r < b) (d : Nat) (h : II2 w b r s k F i p W) :
    Calls Tryd.prog 33 #[.int .i64 p, .pointer (some ⟨b + 4, 0, none⟩), .pointer (some ⟨b + 1, 0, none⟩), .pointer (some ⟨b + 3, 0, none⟩)] W fun e W' => ∃ p', e = .returned (.int .i64 p') ∧ Boxed W' (b + 5) 3 (.int .i64 p) ∧ KeepsFrom d W W' ∧ II w b r s k F (i + 1) p' (W'.setCell ⟨b + 5, 0, none⟩ (.int .i64 p')) := by
  obtain ⟨h1, h2, h3, h3', A, n, c, h4, h5, p', xs, vs, rfl, hx, hv, hown, hsub, hspec⟩ := h
  have hsz : b + 7 < W.heap.size := h1.q7.lt
  have hpe : p' < s.size := by omega
  have hown' := hown
  obtain ⟨A', c', hsl⟩ := own_slice3 hown
  obtain ⟨rfl, rfl, rfl⟩ : A = A' ∧ n = i ∧ c = c' := by simpa using hsl
  have hlt : ∀ g, (Value.slice A n c).ownBlock = some g → b + 8 ≤ g ∧ g < W.heap.size := fun g e => ⟨ownBlock_ge hown e, own_ltB hown e⟩
  refine (read_any r (b + 4) (b + 1) (b + 3) (b + 8) n s (p' : Int) (.slice A n c) (itemsV xs vs) (ItemTail k s.data.toList p' r W) W h1.q4 h1.q1 h4 hown (by omega) (by omega) (by omega) (by omega) (by omega) (hC s p' r W hs (by omega) h5)).mono ?_
  rintro e W' ⟨l, b', sv, to, W1, v', rfl, hpost, hg, hkw, hB7, hown2, hob⟩
  have hz1 := hg.size
  obtain ⟨g', cap', rfl⟩ := ownsRow_succ hown2
  have hgb : b + 8 ≤ g' := ownBlock_ge hown2 rfl
  have keep : ∀ g, g < W.heap.size → g ≠ r → g ≠ b + 3 → (Value.slice A n c).ownBlock ≠ some g → W'.heap[g]? = W.heap[g]? := fun g hg1 hg2 hg3 hg4 =>
    (hkw.block g ⟨by omega, hg3, hg4⟩).trans (hg.block g hg1 (by simpa using hg2))
  have hbx : Boxed W' (b + 5) 3 (.int .i64 (p' : Int)) := (keep (b + 5) (by omega) (by omega) (by omega) (fun e => by have := (hlt _ e).1; omega)).trans h2
  refine ⟨to, rfl, hbx, ⟨Nat.le_trans hz1 hkw.size, fun g o _ ho hc => ?_⟩, ?_⟩
  · refine (keep g (Array.getElem?_eq_some_iff.1 ho).1 ?_ ?_ ?_).trans ho
    · rintro rfl; rw [show W.heap[g]? = _ from h5] at ho; cases ho; cases hc
    · rintro rfl; rw [show W.heap[b + 3]? = _ from h4] at ho; cases ho; cases hc
    · intro e
      rcases hown.2 with ⟨hv1, _⟩ | ⟨q, cap, cur, hv1, _, hh, _⟩
      · rw [hv1] at e; cases e
      · rw [hv1] at e
        have : q = g := by simpa [Value.ownBlock] using e
        subst this
        rw [hh] at ho; cases ho; cases hc
  have hst : Stays (fun g => g = r ∨ g = b + 3 ∨ g = b + 5 ∨ (Value.slice A n c).ownBlock = some g) W (W'.setCell ⟨b + 5, 0, none⟩ (.int .i64 to)) := by
    intro g o ho _ hx
    have hx' : g ≠ r ∧ g ≠ b + 3 ∧ g ≠ b + 5 ∧ (Value.slice A n c).ownBlock ≠ some g := ⟨fun e => hx (.inl e), fun e => hx (.inr (.inl e)), fun e => hx (.inr (.inr (.inl e))), fun e => hx (.inr (.inr (.inr e)))⟩
    exact (Below.heap_setCell W' ⟨b + 5, 0, none⟩ _ g (by show g ≠ b + 5; exact hx'.2.2.1)).trans ((keep g (Array.getElem?_eq_some_iff.1 ho).1 hx'.1 hx'.2.1 hx'.2.2.2).trans ho)
  have hst1 : Stays (fun g => g = b + 3 ∨ g = b + 5 ∨ (Value.slice A n c).ownBlock = some g) W1 (W'.setCell ⟨b + 5, 0, none⟩ (.int .i64 to)) := by
    intro g o ho _ hx
    have hx' : g ≠ b + 3 ∧ g ≠ b + 5 ∧ (Value.slice A n c).ownBlock ≠ some g := ⟨fun e => hx (.inl e), fun e => hx (.inr (.inl e)), fun e => hx (.inr (.inr e))⟩
    exact (Below.heap_setCell W' ⟨b + 5, 0, none⟩ _ g (by show g ≠ b + 5; exact hx'.2.1)).trans ((hkw.block g ⟨(Array.getElem?_eq_some_iff.1 ho).1, hx'.1, hx'.2.2⟩).trans ho)
  have hgw : w.grownBy (W'.setCell ⟨b + 5, 0, none⟩ (.int .i64 to)) (some r) := by
    have h0 := h1.hg
    refine ⟨(hkw.os.trans hg.os).trans h0.os, (hkw.tape.trans hg.tape).trans h0.tape, (hkw.output.trans hg.output).trans h0.output, ?_, fun g hg1 hg2 => ?_⟩
    · have := h0.size; have := hkw.size
      simp [World.setCell]; omega
    · have hgr : g ≠ r := by simpa using hg2
      exact (Below.heap_setCell W' ⟨b + 5, 0, none⟩ _ g (by show g ≠ b + 5; omega)).trans ((keep g (by omega) hgr (by omega) (fun e => by have := (hlt _ e).1; omega)).trans (h0.block g hg1 hg2))
  have hown3 := own_far hown2 (p := ⟨b + 5, 0, none⟩) (by show g' ≠ b + 5; omega) (.int .i64 to)
  have hb7 := hB7.far (p := ⟨b + 5, 0, none⟩) (by show b + 3 ≠ b + 5; omega) (.int .i64 to)
  have hIB := h1.stays hst hgw (fun g g1 g2 g3 g4 => by
    rintro (e | e | e | e)
    · omega
    · exact g3 e
    · exact g4 e
    · have := (hlt _ e).1; omega)
  have hnr : ¬ (r = b + 3 ∨ r = b + 5 ∨ (Value.slice A n c).ownBlock = some r) := by
    rintro (e | e | e)
    · omega
    · omega
    · have := (hlt _ e).1; omega
  rcases hpost with ⟨x, q, hi, rfl, rfl, rfl, hbr, hxs⟩ | ⟨E, hi, hE, hbr⟩
  · refine ⟨hIB, hbx.set _, by omega, 0, _, _, _, hb7, hst1.blk hbr hnr, .inl ⟨rfl, q, xs ++ [x], vs ++ [sv], rfl, by simp [hx], by simp [hv], ?_, fun j hj => ?_, itemsF_ok h3 hpe hspec hi⟩⟩
    · rw [itemsV_snoc xs vs (by omega)]; exact hown3
    · have hvo : ∀ g, g < W1.heap.size → (Value.slice A n c).ownBlock ≠ some g → (Value.slice (some ⟨g', 0, none⟩) (n + 1) cap').ownBlock ≠ some g := by
        intro g hg1 hg2 e
        rcases hob with e2 | ⟨y, e2, hy⟩
        · exact hg2 (e2.symm.trans e)
        · rw [e2] at e; injection e with e; omega
      by_cases hjn : j < n
      · rw [List.getD_eq_getElem?_getD, List.getElem?_append_left (by omega), ← List.getD_eq_getElem?_getD, List.getD_eq_getElem?_getD (l := vs ++ [sv]), List.getElem?_append_left (by omega), ← List.getD_eq_getElem?_getD]
        refine (hst.sub (hsub j hjn).lt (fun g hS => ?_)).weak fun g hS => ⟨hS.1.1, hvo g (by omega) hS.1.2⟩
        rintro (e | e | e | e)
        · omega
        · omega
        · omega
        · exact hS.1.2 e
      · obtain rfl : j = n := by omega
        rw [List.getD_eq_getElem?_getD, List.getElem?_append_right (by omega), List.getD_eq_getElem?_getD (l := vs ++ [sv]), List.getElem?_append_right (by omega), hx, hv, Nat.sub_self]
        have hno : ∀ g, W.heap.size ≤ g → (Value.slice A j c).ownBlock ≠ some g := fun g hg1 e => by have := (hlt _ e).2; omega
        refine (hst1.sub hxs.lt (fun g hS => ?_)).weak fun g hS => ⟨by omega, hvo g hS.2 (hno g hS.1)⟩
        rintro (e | e | e)
        · omega
        · omega
        · exact hno g hS.1 e
  · exact ⟨hIB, hbx.set _, by omega, E, _, _, _, hb7, hst1.blk hbr hnr, .inr ⟨hE, itemsF_err h3 hpe hspec hi⟩⟩
end Go.Proofs.YthbeigcbmalldaaDoor
