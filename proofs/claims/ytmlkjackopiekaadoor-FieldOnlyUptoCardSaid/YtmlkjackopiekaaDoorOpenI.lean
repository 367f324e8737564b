/- An item that came in, as a tree in memory; how much it weighs. -/
import Derived.Test.YtmlkjackopiekaaDoorOpen
import Derived.Test.YtmlkjackopiekaaDoorRlpB
namespace Go.Proofs.YtmlkjackopiekaaDoor
open Go.ChangeShapes Go.WideShapes Go.RowKit Go.Deep Go.Joins
set_option linter.unusedVariables false
set_option linter.constructorNameAsVariable false

theorem list_ofI {α : Type} {R : Nat → α → Prop} : ∀ n : Nat, (∀ i, i < n → ∃ x, R i x) → ∃ xs : List α, xs.length = n ∧ ∀ i (h : i < xs.length), R i xs[i]
  | 0, _ => ⟨[], rfl, fun i h => absurd h (by simp)⟩
  | n + 1, h => by
    obtain ⟨xs, hl, hx⟩ := list_ofI n fun i hi => h i (by omega)
    obtain ⟨x, hxn⟩ := h n (by omega)
    refine ⟨xs ++ [x], by simp [hl], fun i hi => ?_⟩
    by_cases h1 : i < xs.length
    · rw [List.getElem_append_left h1]; exact hx i h1
    · obtain rfl : i = n := by simp at hi; omega
      rw [List.getElem_append_right (by omega)]
      simpa [hl] using hxn
theorem bulk_sum {H : Type} : ∀ (xs : List Itm) (ds : List (DataW H)), xs.length = ds.length → (∀ i (h : i < xs.length) (h' : i < ds.length), wtF xs[i] ≤ 10 * Rows.uptoBulk ds[i]) → wtL xs ≤ 10 * Rows.uptoBulkAll ds
  | [], _, _, _ => by rw [wtL]; omega
  | x :: xs, [], h, _ => by cases h
  | x :: xs, d :: ds, h, hk => by
    rw [wtL, Rows.uptoBulkAll]
    have h0 := hk 0 (by simp) (by simp)
    have := bulk_sum xs ds (by simpa using h) (fun i h1 h2 => by have := hk (i + 1) (by simpa using h1) (by simpa using h2); simpa using this)
    simp only [List.getElem_cons_zero] at h0
    omega
theorem bulk_mem {H : Type} {d : DataW H} {l : List (DataW H)} (h : d ∈ l) : Rows.uptoBulk d ≤ Rows.uptoBulkAll l := by
  induction l with
  | nil => cases h
  | cons x r ih =>
    rw [Rows.uptoBulkAll]
    rcases List.mem_cons.1 h with rfl | h
    · omega
    · have := ih h; omega

section
variable {H : Type} {enc : TypeId × Value → H} {w : World} {base : Nat} {held : Bool}
theorem items_one : ∃ t0 t1 t2 : Field, Tryd.prog.underlying 30 = some (.struct #[t0, t1, t2]) ∧ oneCellFields Tryd.prog #[t0, t1, t2] = true ∧ Tryd.prog.underlying t0.type = some .bool ∧ Tryd.prog.underlying t1.type = some .string ∧ t2.type = 28 :=
  ⟨_, _, _, Tryd.underlying30, by kernel_rfl, Tryd.underlying4, Tryd.underlying9, rfl⟩
theorem items_of (B : Nat) : ∀ (fuel : Nat) (v : Value) (x : DataW H × List MemPlace), Rows.uptoBulk x.1 ≤ B → DataW.trod enc Tryd.prog w base (fun _ => true) held fuel 28 [v] = some x →
    ∃ xs : List Itm, SubW w xs v ∧ wtL xs ≤ 10 * Rows.uptoBulk x.1 := by
  induction B using Nat.strongRecOn with
  | _ B ih =>
    intro fuel v x hB h
    obtain ⟨t0, t1, t2, hu, hone, u0, u1, u2⟩ := items_one
    rcases open_slice_fields Tryd.underlying28 hu hone (by kernel_rfl) h with ⟨hcs, _⟩ | ⟨a, len, cap, m, D, Pl, hcs, hb, hl, hm, hmm, hx, hi⟩
    · simp only [List.cons.injEq, and_true] at hcs
      exact ⟨[], hcs ▸ .mk [] none 0 [] (fun h => by cases h) (fun i h => by cases h), by rw [wtL]; omega⟩
    · simp only [List.cons.injEq, and_true] at hcs
      simp only [if_true] at hmm
      have hx1 : x.1 = .slice ((List.range len).map D) ((List.range (m - len)).map fun j => D (len + j)) := by rw [hx]
      have hbk : Rows.uptoBulk x.1 = Rows.uptoBulkAll ((List.range len).map D) + Rows.uptoBulkAll ((List.range (m - len)).map fun j => D (len + j)) + 1 := by rw [hx1, Rows.uptoBulk]
      have key : ∀ i, i < len → ∃ p : Itm × Value, (w.cell? (a.add (i * 3 + 0)) = some (.bool p.1.list) ∧ w.cell? (a.add (i * 3 + 1)) = some (.string p.1.bytes) ∧ w.cell? (a.add (i * 3 + 2)) = some p.2) ∧ SubW w p.1.items p.2 ∧ wtF p.1 ≤ 10 * Rows.uptoBulk (D i) := by
        intro i hil
        obtain ⟨ys, n, hD, _, hyl, hf⟩ := hi i (by omega)
        obtain ⟨v0, y0, c0, g0, e0⟩ := hf 0 t0 rfl
        obtain ⟨v1, y1, c1, g1, e1⟩ := hf 1 t1 rfl
        obtain ⟨v2, y2, c2, g2, e2⟩ := hf 2 t2 rfl
        obtain ⟨s0, hs0, _⟩ := DataW.trod_bool u0 e0
        obtain ⟨s1, hs1, hy1, _⟩ := DataW.trod_string u1 e1
        simp only [List.cons.injEq, and_true] at hs0 hs1
        subst hs0; subst hs1
        have hys : ys = [y0, y1, y2] := by
          apply List.ext_getElem?
          intro j
          match j with
          | 0 => exact g0
          | 1 => exact g1
          | 2 => exact g2
          | j + 3 => rw [List.getElem?_eq_none (by have : ys.length = 3 := hyl; omega)]; rfl
        have hDi : Rows.uptoBulk (D i) = Rows.uptoBulk y0.1 + (s1.data.toList.length + 1) + Rows.uptoBulk y2.1 + 1 := by
          rw [hD, hys, hy1]
          simp only [List.map_cons, List.map_nil, Rows.uptoBulk, Rows.uptoBulkAll]
          omega
        have hmem : D i ∈ (List.range len).map D := List.mem_map.2 ⟨i, List.mem_range.2 hil, rfl⟩
        have hle := bulk_mem hmem
        rw [u2] at e2
        obtain ⟨xs, hsx, hwx⟩ := ih (Rows.uptoBulk y2.1) (by omega) n v2 y2 (Nat.le_refl _) e2
        have hlz : s1.data.toList.length = s1.size := Array.length_toList
        exact ⟨(.mk s0 s1 xs, v2), ⟨c0, c1, c2⟩, hsx, by rw [wtF]; omega⟩
      obtain ⟨ps, hpl, hp⟩ := list_ofI len key
      refine ⟨ps.map (·.1), ?_, ?_⟩
      · rw [hcs]
        have hlen : (ps.map (·.1)).length = len := by simp [hpl]
        have hgx : ∀ i (hi : i < len), (ps.map (·.1)).getD i Itm.none_ = (ps[i]'(by omega)).1 := fun i hi => by
          rw [List.getD_eq_getElem?_getD, List.getElem?_map, List.getElem?_eq_getElem (by omega)]; rfl
        have hgv : ∀ i (hi : i < len), (ps.map (·.2)).getD i undef = (ps[i]'(by omega)).2 := fun i hi => by
          rw [List.getD_eq_getElem?_getD, List.getElem?_map, List.getElem?_eq_getElem (by omega)]; rfl
        have := SubV.mk (S := fun g => g < w.heap.size) (W := w) (ps.map (·.1)) (some a) cap (ps.map (·.2)) (fun h0 => ?_) (fun i hi' => ?_)
        · rw [hlen] at this; exact this
        · rw [hlen] at h0
          have c00 := (hp 0 (by omega)).1.1
          have ea : a = ⟨a.block, a.off, none⟩ := lit_of_cell (a := a) (by simpa [Addr.add] using c00)
          refine ⟨a.block, a.off, by rw [← ea], ?_, fun i hi' => ?_⟩
          · have := World.block_lt_of_cell? w _ c00
            rwa [block_of_add] at this
          · rw [hlen] at hi'
            rw [hgx i hi', hgv i hi']
            obtain ⟨d0, d1, d2⟩ := (hp i (by omega)).1
            rw [ea] at d0 d1 d2
            have hadd : ∀ j, (⟨a.block, a.off, none⟩ : Addr).add j = ⟨a.block, a.off + j, none⟩ := fun j => Addr.add_mid _ _ _
            rw [hadd] at d0 d1 d2
            exact ⟨d0, d1, d2⟩
        · rw [hlen] at hi'
          rw [hgx i hi', hgv i hi']
          exact (hp i (by omega)).2.1
      · have hsum := bulk_sum (ps.map (·.1)) ((List.range len).map D) (by simp [hpl]) (fun i h1 h2 => by
          rw [List.getElem_map, List.getElem_map, List.getElem_range]
          exact (hp i (by simpa using h1)).2.2)
        omega
set_option maxRecDepth 100000 in
theorem open_item {r : Reach} {b0 : Nat} {v : Value} {d : DataW H} {p : List MemPlace} (hv : Value.okWide Tryd.prog w r b0 30 v) (h : DataW.Trod enc Tryd.prog w base (fun _ => true) held 30 v d p) :
    ∃ (x : Itm) (sx : Value), v = .agg #[.bool x.list, .string x.bytes, sx] ∧ SubW w x.items sx ∧ wtF x ≤ 10 * Rows.uptoBulk d := by
  obtain ⟨t0, t1, t2, hu, hone, u0, u1, u2⟩ := items_one
  obtain ⟨v0, v1, v2, y0, y1, y2, n, rfl, hd, _, e0, e1, e2⟩ := open_agg3 hu hone (by kernel_rfl) hv h
  obtain ⟨s0, hs0, _⟩ := DataW.trod_bool u0 e0
  obtain ⟨s1, hs1, hy1, _⟩ := DataW.trod_string u1 e1
  simp only [List.cons.injEq, and_true] at hs0 hs1
  subst hs0; subst hs1
  rw [u2] at e2
  obtain ⟨xs, hsx, hwx⟩ := items_of _ n v2 y2 (Nat.le_refl _) e2
  refine ⟨.mk s0 s1 xs, v2, rfl, hsx, ?_⟩
  have hlz : s1.data.toList.length = s1.size := Array.length_toList
  rw [hd, hy1, wtF]
  simp only [Rows.uptoBulk, Rows.uptoBulkAll]
  omega
end
end Go.Proofs.YtmlkjackopiekaaDoor
