/- How items leaves: the mark of its range, then the deferred 'deep--'. -/
import Derived.Test.YthbeigcbmalldaaDoorUnrK
namespace Go.Proofs.YthbeigcbmalldaaDoor
open Go.RowKit Go.Shelf
attribute [local go_sem] Oper.semAt_some

theorem load_item {w : World} {g : Nat} {a b c : Value} (hg : Blk w g 24 #[a, b, c]) : (loadVar 24 ⟨g, 0, none⟩).run Tryd.prog w = .ok (.agg #[a, b, c]) w :=
  run_loadVar_row w g 24 24 _ (0, 0) _ hg Tryd.underlying24 rfl (by kernel_rfl)

set_option maxRecDepth 100000 in
theorem deep_down (n : Nat) (u : FrameMode) (W : World) (b r k : Nat) (E : Int) (hk : k ≤ 11) (q0 : Boxed W b 43 (.pointer (some ⟨r, 0, none⟩))) (hr : Blk W r 45 #[.int .i64 ((12 - k : Nat) : Int), .int .i64 E]) :
    CallsDIn Fence.wide n Tryd.prog 32 #[.pointer (some ⟨b, 0, none⟩)] u W fun e u' W' => u' = u ∧ (∃ v, e = .returned v) ∧ W' = W.setCell ⟨r, 0, none⟩ (.int .i64 ((11 - k : Nat) : Int)) := by
  refine callsDIn_of_wp (R := fun e W' => (∃ v, e = .returned v) ∧ W' = W.setCell ⟨r, 0, none⟩ (.int .i64 ((11 - k : Nat) : Int))) Tryd.func32 rfl trivial ?_ rfl
  simp only [Tryd.ntmps32, List.size_toArray, List.length_cons, List.length_nil, Nat.reduceAdd, Nat.reduceSub, Array.replicate_succ, Array.replicate_zero, List.push_toArray, List.append_toArray, List.nil_append, List.cons_append]
  have c0 := q0.cell
  have c1 := hr.cell 0; have f1 := hr.frozen 0
  simp only [List.getElem?_toArray, List.getElem?_cons_zero] at c1
  have v1 : IntKind.i64.wrap (((12 - k : Nat) : Int) - 1) = ((11 - k : Nat) : Int) := by rw [IntWalk.i64_in _ (by omega)]; omega
  have v2 : ((12 - k : Nat) : Int) - 1 = ((11 - k : Nat) : Int) := by omega
  gi_wp2_with fail
  go_end0
  exact ⟨⟨_, rfl⟩, rfl⟩

theorem items_leave {R : Ending → World → Prop} {W : World} {tmps : Array Value} {D b r k : Nat} {E : Int} {A : Option Addr} {n c : Nat} (hk : k ≤ 11) (hrb : r < b) (hD : b + 8 ≤ D) (htm : tmps.getD 6 undef = .pointer (some ⟨b + 2, 0, none⟩))
    (q0 : Boxed W b 43 (.pointer (some ⟨r, 0, none⟩))) (q2 : Blk W (b + 2) 24 #[.bool true, .string ⟨#[]⟩, .slice A n c]) (hr : Blk W r 45 #[.int .i64 ((12 - k : Nat) : Int), .int .i64 E]) (hK : W.heap[D]? = some (.deferred (some [])))
    (hR : ∀ W', Blk W' r 45 #[.int .i64 ((11 - k : Nat) : Int), .int .i64 E] → KeepsW (fun j => j ≠ r ∧ j ≠ D) W W' → R (.returned (.agg #[.bool true, .string ⟨#[]⟩, .slice A n c])) W') :
    LeavesInM Fence.wide 6 Tryd.prog Tryd.f27 tmps R [{ target := .collected D, args := #[] }, { target := .fn (.func 32) #[.pointer (some ⟨b, 0, none⟩)], args := #[] }] .returning W := by
  refine ⟨by simp, .inl ⟨_, _, rfl, run_takeDeferred hK, ?_⟩⟩
  obtain ⟨V, hV⟩ : ∃ V, W.putObj D (.deferred none) = V := ⟨_, rfl⟩
  have hg : W.grownBy V (some D) := by rw [← hV]; exact grownBy_putObj' W D _
  have hne : ∀ g, g < D → some g ≠ some D := fun g h e => by injection e with e; omega
  have q0' : Boxed V b 43 (.pointer (some ⟨r, 0, none⟩)) := q0.kept hg (by simp; omega)
  have q2' := q2.grown hg (hne (b + 2) (by omega))
  have hr' := hr.grown hg (hne r (by omega))
  rw [hV]
  refine ⟨by simp, .inr ⟨fun _ => by omega, .func 32, #[.pointer (some ⟨b, 0, none⟩)], 32, #[.pointer (some ⟨b, 0, none⟩)], rfl, ?_, fun _ _ => trivial, ?_⟩⟩
  · simp [invoke, go_sem]
  · refine (deep_down (6 - 1) .returning V b r k E hk q0' hr').mono ?_
    rintro e u' W' ⟨rfl, ⟨v, rfl⟩, rfl⟩
    have q2w := q2'.far (p := ⟨r, 0, none⟩) (by show b + 2 ≠ r; omega) (.int .i64 ((11 - k : Nat) : Int))
    have hrw := hr'.set_ 0 (.int .i64 ((11 - k : Nat) : Int))
    simp only [List.setIfInBounds_toArray, List.set_cons_zero] at hrw
    refine ⟨_, results_cell1 rfl _ _ _ _ htm (load_item q2w), hR _ hrw ⟨hg.os, hg.tape, hg.output, by simpa [World.setCell] using hg.size, fun j hj => ?_⟩⟩
    exact (Below.heap_setCell V ⟨r, 0, none⟩ _ j hj.1).trans (by rw [← hV]; exact World.putObj_heap_other hj.2)

theorem items_close {w : World} {b r : Nat} {s : ByteArray} {k F i D : Nat} {p E : Int} {W W' : World} {A : Option Addr} {n c : Nat} (hb : w.heap.size = b) (hrb : r < b) (hD : b + 8 ≤ D) (h1 : IB w b r s W) (hdo : W.heap[D]? = some (.deferred (some [])))
    (hE : (E = 0 ∧ IOk (itemF k s.data.toList) s.size F b (.slice A n c) i p W ∧ i ≤ 512 ∧ (s.size : Int) ≤ p) ∨ (E ≠ 0 ∧ itemsF (itemF k s.data.toList) s.size 513 0 F = .error E))
    (hkw : KeepsW (fun j => j ≠ r ∧ j ≠ D ∧ j ≠ b + 2) W W') (hbr : Blk W' r 45 #[.int .i64 ((11 - k : Nat) : Int), .int .i64 E]) :
    ∃ sA sn sc, Ending.returned (.agg #[.bool true, .string ⟨#[]⟩, .slice A n c]) = Ending.returned (.agg #[.bool true, .string .empty, .slice sA sn sc]) ∧ w.grownBy W' (some r) ∧
      ((∃ xs, itemsF (itemF k s.data.toList) s.size 513 0 F = .ok xs ∧ Blk W' r 45 #[.int .i64 ((11 - k : Nat) : Int), .int .i64 0] ∧ SubV (fun g => w.heap.size ≤ g) W' xs (.slice sA sn sc)) ∨
       (∃ E, itemsF (itemF k s.data.toList) s.size 513 0 F = .error E ∧ E ≠ 0 ∧ Blk W' r 45 #[.int .i64 ((11 - k : Nat) : Int), .int .i64 E])) := by
  have h0 := h1.hg
  refine ⟨A, n, c, rfl, ⟨hkw.os.trans h0.os, hkw.tape.trans h0.tape, hkw.output.trans h0.output, Nat.le_trans h0.size hkw.size, fun g g1 g2 => (hkw.block g ⟨by simpa using g2, by omega, by omega⟩).trans (h0.block g g1 g2)⟩, ?_⟩
  rcases hE with ⟨rfl, ⟨p', xs, vs, rfl, hx, hv, hown, hsub, hspec⟩, hi, hp⟩ | ⟨hE, hspec⟩
  · refine .inl ⟨xs, itemsF_end hi (by omega) hspec, hbr, ?_⟩
    have hst : Stays (fun g => g = r ∨ g = b + 2) W W' := by
      intro g o ho hc hxx
      refine (hkw.block g ⟨fun e => hxx (.inl e), ?_, fun e => hxx (.inr e)⟩).trans ho
      rintro rfl
      rw [hdo] at ho; cases ho; cases hc
    obtain ⟨A', c', hsl⟩ := own_slice3 hown
    obtain ⟨rfl, rfl, rfl⟩ : A = A' ∧ n = i ∧ c = c' := by simpa using hsl
    subst hx
    refine SubV.of_own (base := b + 8) (by omega) (hst.own hown fun g hg => ?_) (fun j hj => (hst.sub (hsub j hj) fun g hS => ?_).weak fun g hS => ?_) fun g hg => ?_
    · have := ownBlock_ge hown hg
      rintro (e | e) <;> omega
    · rintro (e | e) <;> omega
    · omega
    · have := ownBlock_ge hown hg
      omega
  · exact .inr ⟨E, hspec, hE, hbr⟩
end Go.Proofs.YthbeigcbmalldaaDoor
