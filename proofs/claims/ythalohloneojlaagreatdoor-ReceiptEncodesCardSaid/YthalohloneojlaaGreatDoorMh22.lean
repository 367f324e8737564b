/- Merged: OpenI, OpenR, ErrL, RcpQ, RcpR. -/
import Derived.Test.YthalohloneojlaaGreatDoorMh4
import Derived.Test.YthalohloneojlaaGreatDoorMh10
import Derived.Test.YthalohloneojlaaGreatDoorMh19
import Derived.Test.YthalohloneojlaaGreatDoorMh20
import Derived.Test.YthalohloneojlaaGreatDoorMh21
import Derived.Test.YthalohloneojlaaGreatDoorRows
import Derived.LaidHandle
/- An item that came in, as a tree in memory; how much it weighs. -/
namespace Go.Proofs.YthalohloneojlaaGreatDoor
open Go.ChangeShapes Go.WideShapes Go.RowKit Go.Deep Go.Joins
set_option linter.unusedVariables false
set_option linter.constructorNameAsVariable false

theorem list_ofI {α : Type} {R : Nat → α → Prop} : ∀ n : Nat, (∀ i, i < n → ∃ x, R i x) → ∃ xs : List α, xs.length = n ∧ ∀ i (h : i < xs.length), R i xs[i]
  | 0, _ => ⟨[], rfl, fun i h => absurd h (by simp)⟩
  | n + 1, h => by
    obtain ⟨xs, hl, hx⟩ := list_ofI n fun i hi => h i (by omega)
    obtain ⟨x, hxn⟩ := h n (by omega)
    refine ⟨xs ++ [x], by simp [hl], fun i hi => ?_⟩
    by_cases h1 : i < xs.length
    · rw [List.getElem_append_left h1]; exact hx i h1
    · obtain rfl : i = n := by simp at hi; omega
      rw [List.getElem_append_right (by omega)]
      simpa [hl] using hxn
theorem bulk_sum {H : Type} : ∀ (xs : List Itm) (ds : List (DataW H)), xs.length = ds.length → (∀ i (h : i < xs.length) (h' : i < ds.length), wtF xs[i] ≤ 10 * Rows.uptoBulk ds[i]) → wtL xs ≤ 10 * Rows.uptoBulkAll ds
  | [], _, _, _ => by rw [wtL]; omega
  | x :: xs, [], h, _ => by cases h
  | x :: xs, d :: ds, h, hk => by
    rw [wtL, Rows.uptoBulkAll]
    have h0 := hk 0 (by simp) (by simp)
    have := bulk_sum xs ds (by simpa using h) (fun i h1 h2 => by have := hk (i + 1) (by simpa using h1) (by simpa using h2); simpa using this)
    simp only [List.getElem_cons_zero] at h0
    omega
theorem bulk_mem {H : Type} {d : DataW H} {l : List (DataW H)} (h : d ∈ l) : Rows.uptoBulk d ≤ Rows.uptoBulkAll l := by
  induction l with
  | nil => cases h
  | cons x r ih =>
    rw [Rows.uptoBulkAll]
    rcases List.mem_cons.1 h with rfl | h
    · omega
    · have := ih h; omega

section
variable {H : Type} {enc : TypeId × Value → H} {w : World} {base : Nat} {held : Bool}
theorem items_one : ∃ t0 t1 t2 : Field, Tryz.prog.underlying 45 = some (.struct #[t0, t1, t2]) ∧ oneCellFields Tryz.prog #[t0, t1, t2] = true ∧ Tryz.prog.underlying t0.type = some .bool ∧ Tryz.prog.underlying t1.type = some .string ∧ t2.type = 43 :=
  ⟨_, _, _, Tryz.underlying45, by kernel_rfl, Tryz.underlying4, Tryz.underlying9, rfl⟩
theorem items_of (B : Nat) : ∀ (fuel : Nat) (v : Value) (x : DataW H × List MemPlace), Rows.uptoBulk x.1 ≤ B → DataW.trod enc Tryz.prog w base (fun _ => true) held fuel 43 [v] = some x →
    ∃ xs : List Itm, SubW w xs v ∧ wtL xs ≤ 10 * Rows.uptoBulk x.1 := by
  induction B using Nat.strongRecOn with
  | _ B ih =>
    intro fuel v x hB h
    obtain ⟨t0, t1, t2, hu, hone, u0, u1, u2⟩ := items_one
    rcases open_slice_fields Tryz.underlying43 hu hone (by kernel_rfl) h with ⟨hcs, _⟩ | ⟨a, len, cap, m, D, Pl, hcs, hb, hl, hm, hmm, hx, hi⟩
    · simp only [List.cons.injEq, and_true] at hcs
      exact ⟨[], hcs ▸ .mk [] none 0 [] (fun h => by cases h) (fun i h => by cases h), by rw [wtL]; omega⟩
    · simp only [List.cons.injEq, and_true] at hcs
      simp only [if_true] at hmm
      have hx1 : x.1 = .slice ((List.range len).map D) ((List.range (m - len)).map fun j => D (len + j)) := by rw [hx]
      have hbk : Rows.uptoBulk x.1 = Rows.uptoBulkAll ((List.range len).map D) + Rows.uptoBulkAll ((List.range (m - len)).map fun j => D (len + j)) + 1 := by rw [hx1, Rows.uptoBulk]
      have key : ∀ i, i < len → ∃ p : Itm × Value, (w.cell? (a.add (i * 3 + 0)) = some (.bool p.1.list) ∧ w.cell? (a.add (i * 3 + 1)) = some (.string p.1.bytes) ∧ w.cell? (a.add (i * 3 + 2)) = some p.2) ∧ SubW w p.1.items p.2 ∧ wtF p.1 ≤ 10 * Rows.uptoBulk (D i) := by
        intro i hil
        obtain ⟨ys, n, hD, _, hyl, hf⟩ := hi i (by omega)
        obtain ⟨v0, y0, c0, g0, e0⟩ := hf 0 t0 rfl
        obtain ⟨v1, y1, c1, g1, e1⟩ := hf 1 t1 rfl
        obtain ⟨v2, y2, c2, g2, e2⟩ := hf 2 t2 rfl
        obtain ⟨s0, hs0, _⟩ := DataW.trod_bool u0 e0
        obtain ⟨s1, hs1, hy1, _⟩ := DataW.trod_string u1 e1
        simp only [List.cons.injEq, and_true] at hs0 hs1
        subst hs0; subst hs1
        have hys : ys = [y0, y1, y2] := by
          apply List.ext_getElem?
          intro j
          match j with
          | 0 => exact g0
          | 1 => exact g1
          | 2 => exact g2
          | j + 3 => rw [List.getElem?_eq_none (by have : ys.length = 3 := hyl; omega)]; rfl
        have hDi : Rows.uptoBulk (D i) = Rows.uptoBulk y0.1 + (s1.data.toList.length + 1) + Rows.uptoBulk y2.1 + 1 := by
          rw [hD, hys, hy1]
          simp only [List.map_cons, List.map_nil, Rows.uptoBulk, Rows.uptoBulkAll]
          omega
        have hmem : D i ∈ (List.range len).map D := List.mem_map.2 ⟨i, List.mem_range.2 hil, rfl⟩
        have hle := bulk_mem hmem
        rw [u2] at e2
        obtain ⟨xs, hsx, hwx⟩ := ih (Rows.uptoBulk y2.1) (by omega) n v2 y2 (Nat.le_refl _) e2
        have hlz : s1.data.toList.length = s1.size := Array.length_toList
        exact ⟨(.mk s0 s1 xs, v2), ⟨c0, c1, c2⟩, hsx, by rw [wtF]; omega⟩
      obtain ⟨ps, hpl, hp⟩ := list_ofI len key
      refine ⟨ps.map (·.1), ?_, ?_⟩
      · rw [hcs]
        have hlen : (ps.map (·.1)).length = len := by simp [hpl]
        have hgx : ∀ i (hi : i < len), (ps.map (·.1)).getD i Itm.none_ = (ps[i]'(by omega)).1 := fun i hi => by
          rw [List.getD_eq_getElem?_getD, List.getElem?_map, List.getElem?_eq_getElem (by omega)]; rfl
        have hgv : ∀ i (hi : i < len), (ps.map (·.2)).getD i undef = (ps[i]'(by omega)).2 := fun i hi => by
          rw [List.getD_eq_getElem?_getD, List.getElem?_map, List.getElem?_eq_getElem (by omega)]; rfl
        have := SubV.mk (S := fun g => g < w.heap.size) (W := w) (ps.map (·.1)) (some a) cap (ps.map (·.2)) (fun h0 => ?_) (fun i hi' => ?_) (by simpa [hpl] using hl)
        · rw [hlen] at this; exact this
        · rw [hlen] at h0
          have c00 := (hp 0 (by omega)).1.1
          have ea : a = ⟨a.block, a.off, none⟩ := lit_of_cell (a := a) (by simpa [Addr.add] using c00)
          refine ⟨a.block, a.off, by rw [← ea], ?_, fun i hi' => ?_⟩
          · have := World.block_lt_of_cell? w _ c00
            rwa [block_of_add] at this
          · rw [hlen] at hi'
            rw [hgx i hi', hgv i hi']
            obtain ⟨d0, d1, d2⟩ := (hp i (by omega)).1
            rw [ea] at d0 d1 d2
            have hadd : ∀ j, (⟨a.block, a.off, none⟩ : Addr).add j = ⟨a.block, a.off + j, none⟩ := fun j => Addr.add_mid _ _ _
            rw [hadd] at d0 d1 d2
            exact ⟨d0, d1, d2⟩
        · rw [hlen] at hi'
          rw [hgx i hi', hgv i hi']
          exact (hp i (by omega)).2.1
      · have hsum := bulk_sum (ps.map (·.1)) ((List.range len).map D) (by simp [hpl]) (fun i h1 h2 => by
          rw [List.getElem_map, List.getElem_map, List.getElem_range]
          exact (hp i (by simpa using h1)).2.2)
        omega
set_option maxRecDepth 100000 in
theorem open_item {r : Reach} {b0 : Nat} {v : Value} {d : DataW H} {p : List MemPlace} (hv : Value.okWide Tryz.prog w r b0 45 v) (h : DataW.Trod enc Tryz.prog w base (fun _ => true) held 45 v d p) :
    ∃ (x : Itm) (sx : Value), v = .agg #[.bool x.list, .string x.bytes, sx] ∧ SubW w x.items sx ∧ wtF x ≤ 10 * Rows.uptoBulk d := by
  obtain ⟨t0, t1, t2, hu, hone, u0, u1, u2⟩ := items_one
  obtain ⟨v0, v1, v2, y0, y1, y2, n, rfl, hd, _, e0, e1, e2⟩ := open_agg3 hu hone (by kernel_rfl) hv h
  obtain ⟨s0, hs0, _⟩ := DataW.trod_bool u0 e0
  obtain ⟨s1, hs1, hy1, _⟩ := DataW.trod_string u1 e1
  simp only [List.cons.injEq, and_true] at hs0 hs1
  subst hs0; subst hs1
  rw [u2] at e2
  obtain ⟨xs, hsx, hwx⟩ := items_of _ n v2 y2 (Nat.le_refl _) e2
  refine ⟨.mk s0 s1 xs, v2, rfl, hsx, ?_⟩
  have hlz : s1.data.toList.length = s1.size := Array.length_toList
  rw [hd, hy1, wtF]
  simp only [Rows.uptoBulk, Rows.uptoBulkAll]
  omega
end
end Go.Proofs.YthalohloneojlaaGreatDoor
/- A receipt that came in.  Printed by wip/genOpenR.py -/
namespace Go.Proofs.YthalohloneojlaaGreatDoor
open Go.ChangeShapes Go.WideShapes Go.ChangeAt Go.RowKit Go.Deep Go.Joins
set_option linter.unusedVariables false
set_option linter.constructorNameAsVariable false

section
variable {H : Type} {enc : TypeId × Value → H} {P : Program} {w : World} {base : Nat} {spare : Nat → Bool} {held : Bool}
theorem open_agg7 {r : Reach} {b0 : Nat} {t : TypeId} {f0 f1 f2 f3 f4 f5 f6 : Field} {v : Value} {d : DataW H} {p : List MemPlace} (hs : P.underlying t = some (.struct #[f0, f1, f2, f3, f4, f5, f6])) (hone : oneCellFields P #[f0, f1, f2, f3, f4, f5, f6] = true) (hC : P.cellsOf t = 7)
    (hv : Value.okWide P w r b0 t v) (h : DataW.Trod enc P w base spare held t v d p) :
    ∃ (v0 v1 v2 v3 v4 v5 v6 : Value) (y0 y1 y2 y3 y4 y5 y6 : DataW H × List MemPlace) (n : Nat), v = .agg #[v0, v1, v2, v3, v4, v5, v6] ∧ d = .agg [y0.1, y1.1, y2.1, y3.1, y4.1, y5.1, y6.1] ∧
      DataW.trod enc P w base spare held n f0.type [v0] = some y0 ∧ DataW.trod enc P w base spare held n f1.type [v1] = some y1 ∧ DataW.trod enc P w base spare held n f2.type [v2] = some y2 ∧ DataW.trod enc P w base spare held n f3.type [v3] = some y3 ∧ DataW.trod enc P w base spare held n f4.type [v4] = some y4 ∧ DataW.trod enc P w base spare held n f5.type [v5] = some y5 ∧ DataW.trod enc P w base spare held n f6.type [v6] = some y6 := by
  obtain ⟨cs, rfl, hsz⟩ := okWide_struct hs hv
  obtain ⟨l⟩ := cs
  match l, hsz.trans hC with
  | [c0, c1, c2, c3, c4, c5, c6], _ =>
    obtain ⟨fuel, hf⟩ := h
    obtain ⟨xs, n, _, hx, _, hlen, hg⟩ := DataW.trod_struct hs hf
    obtain ⟨o0, k0⟩ := hone_of hone 0 f0 rfl
    obtain ⟨o1, k1⟩ := hone_of hone 1 f1 rfl
    obtain ⟨o2, k2⟩ := hone_of hone 2 f2 rfl
    obtain ⟨o3, k3⟩ := hone_of hone 3 f3 rfl
    obtain ⟨o4, k4⟩ := hone_of hone 4 f4 rfl
    obtain ⟨o5, k5⟩ := hone_of hone 5 f5 rfl
    obtain ⟨o6, k6⟩ := hone_of hone 6 f6 rfl
    match xs, hlen with
    | [y0, y1, y2, y3, y4, y5, y6], _ =>
      simp only [Prod.mk.injEq] at hx
      exact ⟨c0, c1, c2, c3, c4, c5, c6, y0, y1, y2, y3, y4, y5, y6, n, rfl, by simpa using hx.1, by simpa [Value.cells, o0, k0] using hg 0 f0 rfl, by simpa [Value.cells, o1, k1] using hg 1 f1 rfl, by simpa [Value.cells, o2, k2] using hg 2 f2 rfl, by simpa [Value.cells, o3, k3] using hg 3 f3 rfl, by simpa [Value.cells, o4, k4] using hg 4 f4 rfl, by simpa [Value.cells, o5, k5] using hg 5 f5 rfl, by simpa [Value.cells, o6, k6] using hg 6 f6 rfl⟩
end
section
variable {H : Type} {enc : TypeId × Value → H} {P : Program} {w : World} {base : Nat} {held : Bool}
theorem strs_nilR {t e : TypeId} {fuel : Nat} {A : Option Addr} {n c : Nat} {x : DataW H × List MemPlace} (ht : P.underlying t = some (.slice e)) (he : P.underlying e = some .string) (hc : P.cellsOf e = 1)
    (h : DataW.trod enc P w base (fun _ => true) held fuel t [.slice A n c] = some x) : A = none → n = 0 ∧ c = 0 := by
  rcases open_strs ht he hc h with ⟨hcs, _⟩ | ⟨a, len, cap, m, B, hcs, _, hl, hm, hmm, _, hcell⟩
  · simp only [List.cons.injEq, and_true] at hcs
    cases hcs
    exact fun _ => ⟨rfl, rfl⟩
  · simp only [List.cons.injEq, and_true] at hcs
    cases hcs
    intro h
    cases h
end
section
variable {H : Type} {enc : TypeId × Value → H} {w : World} {base : Nat} {held : Bool}
theorem logs_one : ∃ t0 t1 t2 : Field, Tryz.prog.underlying 40 = some (.struct #[t0, t1, t2]) ∧ oneCellFields Tryz.prog #[t0, t1, t2] = true ∧ Tryz.prog.underlying t0.type = some .string ∧ t1.type = 38 ∧ Tryz.prog.underlying t2.type = some .string :=
  ⟨_, _, _, Tryz.underlying40, by kernel_rfl, Tryz.underlying9, rfl, Tryz.underlying9⟩
theorem reads_of_logs {fuel : Nat} {v : Value} {x : DataW H × List MemPlace} (h : DataW.trod enc Tryz.prog w base (fun _ => true) held fuel 23 [v] = some x) :
    ∃ (A : Option Addr) (n c : Nat) (ls : List LogV), v = .slice A n c ∧ LogsR w.heap.size w ls A n ∧ n ≤ 9223372036854775807 := by
  obtain ⟨t0, t1, t2, hu, hone, u0, u1, u2⟩ := logs_one
  have hmL : maxLen = 9223372036854775807 := by decide
  rcases open_slice_fields Tryz.underlying23 hu hone (by kernel_rfl) h with ⟨hcs, _⟩ | ⟨a, len, cap, m, D, Pl, hcs, hb, hl, hm, hmm, _, hi⟩
  · simp only [List.cons.injEq, and_true] at hcs
    exact ⟨none, 0, 0, [], hcs, ⟨rfl, fun h => by omega⟩, by omega⟩
  · simp only [List.cons.injEq, and_true] at hcs
    simp only [if_true] at hmm
    have key : ∀ i, i < len → ∃ l : LogV, ∃ T tc, (w.cell? (a.add (i * 3 + 0)) = some (.string l.addr) ∧ w.cell? (a.add (i * 3 + 1)) = some (.slice T l.topics.length tc) ∧ w.cell? (a.add (i * 3 + 2)) = some (.string l.data)) ∧
        Reads w w.heap.size 1 T l.topics.length (l.topics.map Value.string) ∧ l.topics.length ≤ 9223372036854775807 ∧ (T = none → l.topics.length = 0 ∧ tc = 0) := by
      intro i hil
      obtain ⟨ys, n, _, _, _, hf⟩ := hi i (by omega)
      obtain ⟨v0, y0, c0, _, e0⟩ := hf 0 t0 rfl
      obtain ⟨v1, y1, c1, _, e1⟩ := hf 1 t1 rfl
      obtain ⟨v2, y2, c2, _, e2⟩ := hf 2 t2 rfl
      obtain ⟨s0, hs0, _⟩ := DataW.trod_string u0 e0
      obtain ⟨s2, hs2, _⟩ := DataW.trod_string u2 e2
      rw [u1] at e1
      obtain ⟨T, k, tc, xs, rfl, hr, hx, hm, hxl, hc⟩ := reads_of_strs Tryz.underlying38 Tryz.underlying9 (by kernel_rfl) e1
      have hnil := strs_nilR Tryz.underlying38 Tryz.underlying9 (by kernel_rfl) e1
      simp only [List.cons.injEq, and_true] at hs0 hs2
      subst hs0; subst hs2; subst hxl
      exact ⟨⟨s0, xs, s2⟩, T, tc, ⟨c0, c1, c2⟩, hr, hm, hnil⟩
    obtain ⟨ls, hll, hls⟩ := list_ofI len key
    refine ⟨some a, len, cap, ls, hcs, ⟨hll, fun h0 => ?_⟩, by omega⟩
    obtain ⟨_, _, ⟨c00, _⟩, _⟩ := hls 0 (by omega)
    have ea : a = ⟨a.block, a.off, none⟩ := lit_of_cell (a := a) (by simpa [Addr.add] using c00)
    refine ⟨a.block, a.off, by rw [← ea], ?_, fun i hi' => ?_⟩
    · have := World.block_lt_of_cell? w _ c00
      rwa [block_of_add] at this
    · obtain ⟨T, tc, ⟨d0, d1, d2⟩, p, q, r⟩ := hls i (by omega)
      rw [ea] at d0 d1 d2
      have hadd : ∀ j, (⟨a.block, a.off, none⟩ : Addr).add j = ⟨a.block, a.off + j, none⟩ := fun j => Addr.add_mid _ _ _
      rw [hadd] at d0 d1 d2
      have hg : ls.getD i LogV.none_ = ls[i]'(by omega) := by rw [List.getD_eq_getElem?_getD, List.getElem?_eq_getElem (by omega)]; rfl
      rw [hg]
      exact ⟨T, tc, d0, d1, d2, p, q, r⟩
theorem receipt_one : ∃ t0 t1 t2 t3 t4 t5 t6 : Field, Tryz.prog.underlying 25 = some (.struct #[t0, t1, t2, t3, t4, t5, t6]) ∧ oneCellFields Tryz.prog #[t0, t1, t2, t3, t4, t5, t6] = true ∧ Tryz.prog.underlying t0.type = some (.int .i64) ∧ Tryz.prog.underlying t1.type = some .bool ∧ Tryz.prog.underlying t2.type = some (.int .u64) ∧ t3.type = 23 ∧ Tryz.prog.underlying t4.type = some .bool ∧ Tryz.prog.underlying t5.type = some (.int .u64) ∧ Tryz.prog.underlying t6.type = some (.int .u64) :=
  ⟨_, _, _, _, _, _, _, Tryz.underlying25, by kernel_rfl, Tryz.underlying3, Tryz.underlying4, Tryz.underlying22, rfl, Tryz.underlying4, Tryz.underlying22, Tryz.underlying22⟩
set_option maxRecDepth 100000 in
theorem open_receipt {r : Reach} {b0 : Nat} {v : Value} {d : DataW H} {p : List MemPlace} (hv : Value.okWide Tryz.prog w r b0 25 v) (h : DataW.Trod enc Tryz.prog w base (fun _ => true) held 25 v d p) :
    ∃ (x : Rcp) (A : Option Addr) (n c : Nat), v = .agg (rcpC x (.slice A n c)) ∧ x.Ok ∧ LogsR w.heap.size w x.logs A n ∧ n ≤ 9223372036854775807 ∧ (-9223372036854775808 ≤ x.kind ∧ x.kind ≤ 9223372036854775807) := by
  obtain ⟨t0, t1, t2, t3, t4, t5, t6, hu, hone, u0, u1, u2, u3, u4, u5, u6⟩ := receipt_one
  obtain ⟨v0, v1, v2, v3, v4, v5, v6, y0, y1, y2, y3, y4, y5, y6, n, rfl, _, e0, e1, e2, e3, e4, e5, e6⟩ := open_agg7 hu hone (by kernel_rfl) hv h
  obtain ⟨k0, hk0, _, hw0⟩ := DataW.trod_int u0 e0
  obtain ⟨s1, hs1, _⟩ := DataW.trod_bool u1 e1
  obtain ⟨k2, hk2, _, hw2⟩ := DataW.trod_int u2 e2
  obtain ⟨s4, hs4, _⟩ := DataW.trod_bool u4 e4
  obtain ⟨k5, hk5, _, hw5⟩ := DataW.trod_int u5 e5
  obtain ⟨k6, hk6, _, hw6⟩ := DataW.trod_int u6 e6
  rw [u3] at e3
  obtain ⟨A, m, c, ls, rfl, hr, hm⟩ := reads_of_logs e3
  simp only [List.cons.injEq, and_true] at hk0 hs1 hk2 hs4 hk5 hk6
  subst hk0; subst hs1; subst hk2; subst hs4; subst hk5; subst hk6
  have h2 := wf_u64 hw2; have h5 := wf_u64 hw5; have h6 := wf_u64 hw6
  obtain ⟨z2, rfl⟩ := Int.eq_ofNat_of_zero_le h2.1
  obtain ⟨z5, rfl⟩ := Int.eq_ofNat_of_zero_le h5.1
  obtain ⟨z6, rfl⟩ := Int.eq_ofNat_of_zero_le h6.1
  exact ⟨⟨k0, s1, z2, ls, s4, z5, z6⟩, A, m, c, rfl, ⟨by show z2 < _; omega, by show z5 < _; omega, by show z6 < _; omega⟩, hr, hm, wf_i64 hw0⟩
end
end Go.Proofs.YthalohloneojlaaGreatDoor
/- From the row's condition to the variable's cell: errors.errorType. -/
namespace Go.Proofs.YthalohloneojlaaGreatDoor
open Go.RowKit Go.Shelf
set_option linter.unusedVariables false

theorem el_et : Tryz.prog.globalNamed "errors.errorType" = some 0 := by kernel_rfl
theorem el_rt : (Tryz.prog.cutTypes.find? (·.1 == "internal/reflectlite.rtype")).map (·.2) = some 162 := by kernel_rfl
theorem el_row : ((List.range Tryz.prog.types.size).filter fun t => Tryz.prog.rowNamed t [101, 114, 114, 111, 114]) = [65] := by kernel_rfl
theorem errLaid_of {W : World} {l : List (String × DataW Unit)} (hl : (l.filter fun x => x.2.handleName?.isSome) = [("errors.errorType", Rows.laid_errors_errorType)]) (h : laidMetH Tryz.prog l W) : ErrLaid W := by
  unfold laidMetH at h
  rw [hl] at h
  obtain ⟨name, u, ty, e1, e2, e3, e4, e5⟩ := h.2 _ (List.mem_singleton.2 rfl)
  have en : name = [101, 114, 114, 111, 114] := (Option.some.inj e1).symm
  subst en
  obtain rfl := Option.some.inj (el_rt.symm.trans e2)
  have hm : ty ∈ (List.range Tryz.prog.types.size).filter fun t => Tryz.prog.rowNamed t [101, 114, 114, 111, 114] := List.mem_filter.2 ⟨List.mem_range.2 e3, e4⟩
  rw [el_row] at hm
  obtain rfl := List.mem_singleton.1 hm
  have hh : typeHandle Tryz.prog 65 = .pointer (some ⟨4, 65, none⟩) := by kernel_rfl
  rw [hh] at e5
  simpa [ErrLaid] using World.var?_cell el_et e5 0
end Go.Proofs.YthalohloneojlaaGreatDoor
/- Receipts: the plain law: what is got is put just so. -/
namespace Go.Proofs.YthalohloneojlaaGreatDoor
open Go.RowKit Go.Shelf
set_option linter.unusedVariables false
set_option linter.unusedSimpArgs false

theorem txt_of {y : Itm} {d : Nat} (hf : formF y d = 0) (hl : y.list = false) : y = txt y.bytes := by
  obtain ⟨l, b, xs⟩ := y
  simp only [Itm.list] at hl
  subst hl
  rw [formF_eq] at hf
  split at hf
  · cases hf
  · rename_i h
    have hx : xs = [] := by
      by_cases hx : xs.length = 0
      · exact List.eq_nil_of_length_eq_zero hx
      · exact absurd (.inr ⟨rfl, hx⟩) h
    subst hx
    rfl
theorem formL_mem {xs : List Itm} {d : Nat} (h : formL xs d = 0) : ∀ x ∈ xs, formF x d = 0 := by
  induction xs with
  | nil => intro x hx; cases hx
  | cons y ys ih =>
    rw [formL] at h
    split at h
    · rename_i h1; exact absurd h h1
    · rename_i h1
      intro x hx
      rcases List.mem_cons.1 hx with rfl | hx
      · simpa using h1
      · exact ih h x hx
theorem lst_of {y : Itm} {d : Nat} (hf : formF y d = 0) (hl : y.list = true) : y = .mk true ⟨#[]⟩ y.items ∧ ∀ z ∈ y.items, formF z (d + 1) = 0 := by
  obtain ⟨l, b, xs⟩ := y
  simp only [Itm.list] at hl
  subst hl
  rw [formF_eq] at hf
  split at hf
  · cases hf
  · rename_i h
    have hb : b = ⟨#[]⟩ := by
      by_cases hb : b.size = 0
      · exact size_zero hb
      · exact absurd (.inl ⟨rfl, hb⟩) h
    subst hb
    rw [if_neg (by intro e; cases e)] at hf
    split at hf
    · cases hf
    split at hf
    · cases hf
    exact ⟨rfl, formL_mem hf⟩
theorem fst1_eq0 {E e : Int} (h : fst1 E e = 0) : E = 0 ∧ e = 0 := by
  unfold fst1 at h
  split at h
  · rename_i h1; exact ⟨h1, h⟩
  · rename_i h1; exact absurd h h1
theorem fst1_ne {E e : Int} (h : E ≠ 0) : fst1 E e ≠ 0 := by unfold fst1; rw [if_neg h]; exact h
theorem fst1_ner {E e : Int} (h : e ≠ 0) : fst1 E e ≠ 0 := by
  unfold fst1
  split
  · exact h
  · assumption
theorem exs_ne {n : Nat} : ∀ (ts : List Itm) {E : Int}, E ≠ 0 → exsE n E ts ≠ 0
  | [], _, h => h
  | t :: ts, E, h => exs_ne ts (E := fst1 E (exE n t)) (fst1_ne h)
theorem numV_lt (l : Bool) (s : ByteArray) : numV l s < 18446744073709551616 := by
  unfold numV
  split
  · by_cases g1 : 8 < s.data.toList.length
    · rw [show unbeN s.data.toList = 0 from if_pos g1]; decide
    · rw [show unbeN s.data.toList = parseP s.data.toList 0 from if_neg g1]
      by_cases g2 : parseE s.data.toList = 0
      · rw [show parseP s.data.toList 0 = wp (beV s.data.toList) 0 from if_pos g2]; exact wp_lt _ _
      · rw [show parseP s.data.toList 0 = 0 from if_neg g2]; decide
  · decide
theorem ba_listE {s : ByteArray} {l : List UInt8} (h : l = s.data.toList) : (⟨l.toArray⟩ : ByteArray) = s := by subst h; rfl
theorem num_only {y : Itm} {d : Nat} (hf : formF y d = 0) (h : numE y.list y.bytes = 0) : y = txt (numT (numV y.list y.bytes)) := by
  obtain ⟨h1, h2⟩ := number_only h
  have e : numT (numV y.list y.bytes) = y.bytes := by unfold numT; exact ba_listE h2
  rw [e]
  exact txt_of hf h1
theorem yesI_only {y : Itm} {d : Nat} (hf : formF y d = 0) (h : yesEI y = 0) : y = txt (yesS (yesVI y)) := by
  unfold yesEI at h
  split at h
  · cases h
  · rename_i hl
    have hl : y.list = false := by simpa using hl
    have e : yesVI y = yesV y.bytes := if_pos ⟨hl, h⟩
    rw [e, yes_only h]
    exact txt_of hf hl
theorem row_only {lo hi : Int} {y : Itm} {d : Nat} (hf : formF y d = 0) (h : rowE lo hi y = 0) : y = .mk true ⟨#[]⟩ (rowL lo hi y) ∧ lo ≤ ((rowL lo hi y).length : Int) ∧ ((rowL lo hi y).length : Int) ≤ hi ∧ ∀ z ∈ rowL lo hi y, formF z (d + 1) = 0 := by
  unfold rowE at h
  split at h
  · rename_i hl
    have e : rowL lo hi y = y.items := if_pos ⟨hl, h⟩
    obtain ⟨h1, h2⟩ := lst_of hf hl
    rw [e]
    refine ⟨h1, ?_, ?_, h2⟩ <;> (unfold textE at h; split at h; cases h; split at h; cases h; omega)
  · cases h
theorem exs_only {n : Nat} {E : Int} {zs : List Itm} {d : Nat} (hf : ∀ z ∈ zs, formF z d = 0) (h : exsE n E zs = 0) : E = 0 ∧ zs = (zs.map Itm.bytes).map txt ∧ ∀ t ∈ zs.map Itm.bytes, t.size = n := by
  induction zs generalizing E with
  | nil => exact ⟨h, rfl, fun t ht => by cases ht⟩
  | cons z zs ih =>
    have h' : exsE n (fst1 E (exE n z)) zs = 0 := h
    obtain ⟨a, b, c⟩ := ih (fun x hx => hf x (by simp [hx])) h'
    obtain ⟨a1, a2⟩ := fst1_eq0 a
    have hz : z.list = false ∧ z.bytes.size = n := by
      unfold exE at a2
      split at a2
      · assumption
      · cases a2
    refine ⟨a1, ?_, ?_⟩
    · rw [List.map_cons, List.map_cons, ← b, ← txt_of (hf z (by simp)) hz.1]
    · intro t ht
      rw [List.map_cons] at ht
      rcases List.mem_cons.1 ht with rfl | ht
      · exact hz.2
      · exact c t ht
theorem dat_only {y : Itm} {d : Nat} (hf : formF y d = 0) (h : datE y = 0) : y = txt (datV y) ∧ (datV y).size ≤ 4096 := by
  unfold datE at h
  split at h
  · cases h
  · rename_i hl
    have hl : y.list = false := by simpa using hl
    have e : datV y = y.bytes := if_pos ⟨hl, h⟩
    rw [e]
    refine ⟨txt_of hf hl, ?_⟩
    unfold textE at h
    split at h
    · cases h
    split at h
    · cases h
    omega
theorem three_of {l : List Itm} (h : l.length = 3) : ∃ a b c, l = [a, b, c] := by
  match l, h with
  | [a, b, c], _ => exact ⟨a, b, c, rfl⟩
theorem log_only {y : Itm} {E : Int} {d : Nat} (hf : formF y d = 0) (h : logE E y = 0) : E = 0 ∧ y = logIt (logL y) ∧ (logL y).topics.length ≤ 4 ∧ (logL y).data.size ≤ 4096 ∧ (logL y).addr.size = 20 ∧ ∀ t ∈ (logL y).topics, t.size = 32 := by
  unfold logE at h
  obtain ⟨h1, hd⟩ := fst1_eq0 h
  by_cases hr0 : rowE 3 3 y = 0
  rotate_left
  · exfalso
    exact exs_ne _ (fst1_ne (fst1_ne (fst1_ner hr0))) h1
  obtain ⟨e1, e2, e3, e4⟩ := row_only hf hr0
  obtain ⟨p0, p1, p2, hp⟩ := three_of (l := rowL 3 3 y) (by omega)
  rw [hp] at h1 hd e4
  simp only [List.headD_cons, List.tail_cons] at h1 hd
  have f0 := e4 p0 (by simp); have f1 := e4 p1 (by simp); have f2 := e4 p2 (by simp)
  by_cases hr1 : rowE 0 4 p1 = 0
  rotate_left
  · exfalso
    exact exs_ne _ (fst1_ner hr1) h1
  obtain ⟨r1, r2, r3, r4⟩ := row_only f1 hr1
  obtain ⟨k1, k2, k3⟩ := exs_only r4 h1
  obtain ⟨k4, _⟩ := fst1_eq0 k1
  obtain ⟨k5, k6⟩ := fst1_eq0 k4
  obtain ⟨k7, _⟩ := fst1_eq0 k5
  have ha : p0.list = false ∧ p0.bytes.size = 20 := by
    unfold exE at k6
    split at k6
    · assumption
    · cases k6
  obtain ⟨d1, d2⟩ := dat_only f2 hd
  have hL : logL y = ⟨p0.bytes, (rowL 0 4 p1).map Itm.bytes, datV p2⟩ := by
    unfold logL
    rw [hp]
    rfl
  refine ⟨k7, ?_, ?_, ?_, ?_, ?_⟩
  · rw [hL]
    show y = .mk true ⟨#[]⟩ [txt p0.bytes, .mk true ⟨#[]⟩ (((rowL 0 4 p1).map Itm.bytes).map txt), txt (datV p2)]
    rw [← k2, ← r1, ← d1, ← txt_of f0 ha.1, ← hp]
    exact e1
  · rw [hL]; simp only [List.length_map]; omega
  · rw [hL]; exact d2
  · rw [hL]; exact ha.2
  · rw [hL]; exact k3
theorem logs_only {zs : List Itm} {E : Int} {d : Nat} (hf : ∀ z ∈ zs, formF z d = 0) (h : logsE E zs = 0) : E = 0 ∧ zs = (zs.map logL).map logIt ∧ ∀ l ∈ zs.map logL, l.topics.length ≤ 4 ∧ l.data.size ≤ 4096 ∧ l.addr.size = 20 ∧ ∀ t ∈ l.topics, t.size = 32 := by
  induction zs generalizing E with
  | nil => exact ⟨h, rfl, fun t ht => by cases ht⟩
  | cons z zs ih =>
    obtain ⟨a, b, c⟩ := ih (fun x hx => hf x (by simp [hx])) (show logsE (logE E z) zs = 0 from h)
    obtain ⟨a1, a2, a3⟩ := log_only (hf z (by simp)) a
    refine ⟨a1, ?_, ?_⟩
    · rw [List.map_cons, List.map_cons, ← b, ← a2]
    · intro t ht
      rw [List.map_cons] at ht
      rcases List.mem_cons.1 ht with rfl | ht
      · exact a3
      · exact c t ht
theorem check_make {x : Rcp} (hk : isKind x.kind = true) (h1 : x.logs.length ≤ 16) (h2 : ∀ l ∈ x.logs, l.topics.length ≤ 4 ∧ l.data.size ≤ 4096 ∧ l.addr.size = 20 ∧ ∀ t ∈ l.topics, t.size = 32) (h3 : x.full = true → x.kind = 126 ∧ x.version ≤ 1) (h4 : x.full = false → x.nonce = 0 ∧ x.version = 0) : checkRc x = 0 := by
  have ho : x.logs.any oddLog = false := by
    rw [List.any_eq_false]
    intro l hl
    obtain ⟨a, b, c, d⟩ := h2 l hl
    simp only [oddLog, Bool.or_eq_true, decide_eq_true_eq, List.any_eq_true, not_or, not_exists, not_and]
    refine ⟨fun h => h c, fun t ht => ?_⟩
    have := d t ht
    simp [oddT, this]
  have hb : x.logs.any bigLog = false := by
    rw [List.any_eq_false]
    intro l hl
    obtain ⟨a, b, c, d⟩ := h2 l hl
    simp only [bigLog, Bool.or_eq_true, decide_eq_true_eq]
    omega
  unfold checkRc
  rw [hk, ho, hb, show decide (16 < x.logs.length) = false from decide_eq_false (by omega)]
  cases hf : x.full with
  | false =>
    obtain ⟨a, b⟩ := h4 hf
    rw [a, b]
    by_cases h126 : x.kind = 126 <;> simp [chkE, h126]
  | true =>
    obtain ⟨a, b⟩ := h3 hf
    rw [show decide (x.kind ≠ 126) = false from decide_eq_false (by simp [a]), show decide (1 < x.version) = false from decide_eq_false (by omega)]
    simp [chkE]
theorem item_only {k : Int} {y : Itm} (hk : isKind k = true) (hf : formF y 0 = 0) (h : (itemR k y).1 = 0) : checkRc (itemR k y).2 = 0 ∧ itemRc (itemR k y).2 = y ∧ (itemR k y).2.Ok ∧ (itemR k y).2.kind = k := by
  unfold itemR at h ⊢
  split at h
  · rename_i h1; exact absurd h h1
  rename_i hr
  rw [if_neg hr] at ⊢
  split at h
  · rename_i h1; exact absurd h h1
  rename_i ho
  rw [if_neg ho]
  have hr : rowE 3 (mostR k) y = 0 := by simpa using hr
  have ho : ofE 0 (rowL 3 (mostR k) y) = 0 := by simpa using ho
  obtain ⟨e1, e2, e3, e4⟩ := row_only hf hr
  generalize rowL 3 (mostR k) y = l at *
  obtain ⟨a, b, c, tl, rfl⟩ : ∃ a b c tl, l = a :: b :: c :: tl := by
    match l, e2 with
    | a :: b :: c :: tl, _ => exact ⟨a, b, c, tl, rfl⟩
    | [], h => simp at h
    | [_], h => simp at h
    | [_, _], h => simp at h
  have fa := e4 a (by simp); have fb := e4 b (by simp); have fc := e4 c (by simp)
  have ft : ∀ z ∈ tl, formF z 1 = 0 := fun z hz => e4 z (by simp [hz])
  unfold ofE at ho
  simp only [List.headD_cons, List.tail_cons] at ho
  have ho1 : ofE1 (logsE (fst1 (fst1 (fst1 0 (yesEI a)) (numE b.list b.bytes)) (rowE 0 16 c)) (rowL 0 16 c)) tl = 0 := by
    unfold ofE2 at ho
    split at ho
    · exact ho
    split at ho
    · exact (fst1_eq0 ho).1
    · exact absurd (fst1_eq0 ho).2 (by decide)
  have ho0 : logsE (fst1 (fst1 (fst1 0 (yesEI a)) (numE b.list b.bytes)) (rowE 0 16 c)) (rowL 0 16 c) = 0 := by
    unfold ofE1 at ho1
    split at ho1
    · exact ho1
    · exact (fst1_eq0 ho1).1
  have hrc : rowE 0 16 c = 0 := by
    by_cases hrc : rowE 0 16 c = 0
    · exact hrc
    · exfalso
      have hn : rowL 0 16 c = [] := by
        unfold rowL
        rw [if_neg]
        rintro ⟨q1, q2⟩
        exact hrc (by unfold rowE; rw [if_pos q1]; exact q2)
      rw [hn] at ho0
      exact hrc (fst1_eq0 (show fst1 _ (rowE 0 16 c) = 0 from ho0)).2
  obtain ⟨c1, c2, c3, c4⟩ := row_only fc hrc
  obtain ⟨l1, l2, l3⟩ := logs_only c4 ho0
  obtain ⟨m1, _⟩ := fst1_eq0 l1
  obtain ⟨m2, m3⟩ := fst1_eq0 m1
  obtain ⟨_, m4⟩ := fst1_eq0 m2
  have ga := yesI_only fa m4
  have gb := num_only fb m3
  have hX : ofX k (a :: b :: c :: tl) = ⟨k, yesVI a, numV b.list b.bytes, (rowL 0 16 c).map logL, !tl.isEmpty, ofN tl, ofN tl.tail⟩ := rfl
  rw [hX]
  have hlog : ((rowL 0 16 c).map logL).length ≤ 16 := by rw [List.length_map]; omega
  have hgc : c = .mk true ⟨#[]⟩ (((rowL 0 16 c).map logL).map logIt) := by rw [← l2]; exact c1
  have hmost : (tl.length : Int) + 3 ≤ mostR k := by simp only [List.length_cons] at e3; omega
  have hny : ∀ full nonce version (tl' : List Itm), tl' = [txt (numT nonce), txt (numT version)].take (formRc ⟨k, yesVI a, numV b.list b.bytes, (rowL 0 16 c).map logL, full, nonce, version⟩).toNat → tl = tl' → itemRc ⟨k, yesVI a, numV b.list b.bytes, (rowL 0 16 c).map logL, full, nonce, version⟩ = y := by
    intro full nonce version tl' h1 h2
    rw [e1]
    unfold itemRc
    simp only
    rw [← h1, ← h2, ← ga, ← gb, ← hgc]
    rfl
  have hOk : ∀ full n m, n < 18446744073709551616 → m < 18446744073709551616 → Rcp.Ok ⟨k, yesVI a, numV b.list b.bytes, (rowL 0 16 c).map logL, full, n, m⟩ := fun full n m hn hm => ⟨numV_lt _ _, hn, hm⟩
  match tl, ft, ho, ho1, hmost, hny with
  | [], ft, ho, ho1, hmost, hny =>
    refine ⟨check_make hk hlog l3 (fun h => by cases h) (fun _ => ⟨rfl, rfl⟩), hny false 0 0 [] ?_ rfl, hOk _ _ _ (by decide) (by decide), rfl⟩
    rw [show formRc ⟨k, yesVI a, numV b.list b.bytes, (rowL 0 16 c).map logL, false, 0, 0⟩ = 0 from if_pos rfl]
    exact List.take_zero.symm
  | [n], ft, ho, ho1, hmost, hny =>
    have hk126 : k = 126 := by
      unfold mostR at hmost
      split at hmost
      · assumption
      · simp at hmost
    have hn := (fst1_eq0 (show fst1 _ (numE n.list n.bytes) = 0 from ho1)).2
    have gn := num_only (ft n (by simp)) hn
    refine ⟨check_make hk hlog l3 (fun _ => ⟨hk126, by show (0 : Nat) ≤ 1; omega⟩) (fun h => by cases h), hny true (numV n.list n.bytes) 0 [n] ?_ rfl, hOk _ _ _ (numV_lt _ _) (show (0 : Nat) < 18446744073709551616 by decide), rfl⟩
    rw [show formRc ⟨k, yesVI a, numV b.list b.bytes, (rowL 0 16 c).map logL, true, numV n.list n.bytes, 0⟩ = 1 by unfold formRc; rw [if_neg (by simp), if_pos rfl], ← gn]
    generalize txt (numT 0) = q
    rfl
  | n :: v :: more, ft, ho, ho1, hmost, hny =>
    have hk126 : k = 126 := by
      unfold mostR at hmost
      split at hmost
      · assumption
      · simp at hmost; omega
    have hmore : more = [] := by
      rw [hk126] at hmost
      have : mostR 126 = 5 := rfl
      rw [this] at hmost
      simp only [List.length_cons] at hmost
      exact List.eq_nil_of_length_eq_zero (by omega)
    subst hmore
    have hn := (fst1_eq0 (show fst1 _ (numE n.list n.bytes) = 0 from ho1)).2
    have gn := num_only (ft n (by simp)) hn
    have hv : numV v.list v.bytes = 1 ∧ numE v.list v.bytes = 0 := by
      have ho' : (if numV v.list v.bytes = 1 then fst1 _ (numE v.list v.bytes) else fst1 (fst1 _ (numE v.list v.bytes)) 2) = 0 := ho
      split at ho'
      · rename_i q; exact ⟨q, (fst1_eq0 ho').2⟩
      · exact absurd (fst1_eq0 ho').2 (by decide)
    have gv := num_only (ft v (by simp)) hv.2
    have hX2 : (⟨k, yesVI a, numV b.list b.bytes, (rowL 0 16 c).map logL, !(n :: [v]).isEmpty, ofN (n :: [v]), ofN (n :: [v]).tail⟩ : Rcp) = ⟨k, yesVI a, numV b.list b.bytes, (rowL 0 16 c).map logL, true, numV n.list n.bytes, 1⟩ := by
      show Rcp.mk _ _ _ _ _ (numV n.list n.bytes) (numV v.list v.bytes) = _
      rw [hv.1]
      rfl
    rw [hX2]
    refine ⟨check_make hk hlog l3 (fun _ => ⟨hk126, by show (1 : Nat) ≤ 1; omega⟩) (fun h => by cases h), hny true (numV n.list n.bytes) 1 [n, v] ?_ rfl, hOk _ _ _ (numV_lt _ _) (by decide), rfl⟩
    rw [show formRc ⟨k, yesVI a, numV b.list b.bytes, (rowL 0 16 c).map logL, true, numV n.list n.bytes, 1⟩ = 2 by unfold formRc; rw [if_neg (by simp), if_neg (by simp)], ← gn]
    rw [hv.1] at gv
    rw [← gv]
    rfl
theorem get_only {l : List UInt8} (h : (getR l).1 = 0) : checkRc (getR l).2 = 0 ∧ putRcE (getR l).2 = 0 ∧ putRcL (getR l).2 = l ∧ (getR l).2.Ok := by
  have key : ∀ (k : Int) (t : List UInt8), isKind k = true → (bodyR k t).1 = 0 → checkRc (bodyR k t).2 = 0 ∧ putRcE (bodyR k t).2 = 0 ∧ putRcL (bodyR k t).2 = (if k = 0 then [] else [UInt8.ofNat k.toNat]) ++ t ∧ (bodyR k t).2.Ok := by
    intro k t hk hb
    unfold bodyR at hb ⊢
    cases hd : decodeF t with
    | error e =>
      rw [hd] at hb
      exfalso
      have he : (if e = 0 then (3 : Int) else e) = 0 := hb
      split at he
      · cases he
      · rename_i q; exact q he
    | ok y =>
      rw [hd] at hb
      simp only at hb ⊢
      obtain ⟨d1, d2, _⟩ := decode_only hd
      have hf := (check_form d1).2.2
      obtain ⟨a, b, c, e⟩ := item_only hk hf hb
      obtain ⟨p1, p2⟩ := putRc_0 a
      rw [b, d1] at p1
      rw [b, encB_ok d1, d2, e] at p2
      exact ⟨a, p1, p2, c⟩
  unfold getR at h ⊢
  split at h
  · cases h
  rename_i hne
  rw [if_neg hne]
  split at h
  · rename_i hlt
    rw [if_pos hlt]
    split at h
    · cases h
    · rename_i hk
      rw [if_neg hk]
      simp only [not_or, Bool.not_eq_false] at hk
      obtain ⟨a, b, c, d⟩ := key _ _ hk.2 h
      refine ⟨a, b, ?_, d⟩
      rw [c, if_neg (by omega)]
      cases l with
      | nil => exact absurd rfl hne
      | cons z t => simp
  · rename_i hlt
    rw [if_neg hlt]
    obtain ⟨a, b, c, d⟩ := key 0 l (by decide) h
    refine ⟨a, b, ?_, d⟩
    rw [c, if_pos rfl, List.nil_append]
theorem get_bad {l : List UInt8} (h : (getR l).1 ≠ 0) : (getR l).2 = Rcp.zero := by
  have key : ∀ (k : Int) (t : List UInt8), (bodyR k t).1 ≠ 0 → (bodyR k t).2 = Rcp.zero := by
    intro k t hb
    unfold bodyR at hb ⊢
    split at hb
    · rfl
    · unfold itemR at hb ⊢
      split at hb
      · rename_i q; rw [if_pos q]
      · rename_i q
        rw [if_neg q]
        split at hb
        · rename_i q2; rw [if_pos q2]
        · exact absurd rfl hb
  unfold getR at h ⊢
  split at h
  · rename_i q; rw [if_pos q]
  rename_i q; rw [if_neg q]
  split at h
  · rename_i q2; rw [if_pos q2]
    split at h
    · rename_i q3; rw [if_pos q3]
    · rename_i q3; rw [if_neg q3]; exact key _ _ h
  · rename_i q2; rw [if_neg q2]; exact key _ _ h
end Go.Proofs.YthalohloneojlaaGreatDoor
/- Receipts: the law: what is decoded is encoded just so. -/
namespace Go.Proofs.YthalohloneojlaaGreatDoor
open Go.RowKit Go.Shelf
set_option linter.unusedVariables false
set_option linter.unusedSimpArgs false

set_option maxRecDepth 100000 in
set_option maxHeartbeats 4000000 in
theorem ronly_law (s : ByteArray) (hs : s.size ≤ 9223372036854775807) (w : World) (hv : ErrLaid w) :
    Calls Tryz.prog 6 #[.string s] w fun e w' => e = .returned (.bool true) ∧ w.grownBy w' none := by
  have HV := Lib.hid hv
  have HWK := Lib.hid (worksRc_any w hv)
  clear hv
  go_enter Tryz.func6, Tryz.ntmps6
  go_wp2_with fail
  refine HWK.out.mono ?_
  rintro e w2 ⟨rfl, hg2⟩
  have HG2 := Lib.hid hg2
  clear hg2 HWK
  by_cases hbig : 2500 < s.size
  · have q : (2500 : Int) < (s.size : Int) := by omega
    clear hbig
    go_wp2_with fail
    go_ret
    exact ⟨rfl, HG2.out⟩
  have q : decide ((2500 : Int) < (s.size : Int)) = false := decide_eq_false (by omega)
  clear hbig
  have hde := fun V (hV : w.grownBy V none) => decodeRc_any s hs V (HV.out.kept hV (by simp))
  have HONLY := Lib.hid (get_only (l := s.data.toList)); have HBAD := Lib.hid (get_bad (l := s.data.toList))
  obtain ⟨G, hG⟩ : ∃ G, getR s.data.toList = G := ⟨_, rfl⟩
  rw [hG] at hde HONLY HBAD
  obtain ⟨E, X⟩ := G
  simp only at HONLY HBAD
  have HDE := Lib.hid hde
  clear hde hG
  go_wp2_with fail
  refine (HDE.out w2 HG2.out).mono ?_
  rintro e w3 ⟨A, n, c, rfl, hl3, hg3⟩
  simp only [rcpC] at *
  have hgy := only_alloc (World.grownBy.refl w3 none) (.cells #[.int .i64 X.kind, .bool X.status, .int .u64 (X.gas : Int), .slice A n c, .bool X.full, .int .u64 (X.nonce : Int), .int .u64 (X.version : Int)] 25)
  have HG4 := Lib.hid (grown_self (grown_self HG2.out hg3 (by simp)) hgy (by simp))
  have hb := Blk.new w3 25 #[.int .i64 X.kind, .bool X.status, .int .u64 (X.gas : Int), .slice A n c, .bool X.full, .int .u64 (X.nonce : Int), .int .u64 (X.version : Int)]
  have HL4 := Lib.hid (hl3.grown hgy (Nat.le_refl _))
  obtain ⟨yb, hyb⟩ : ∃ b, w3.heap.size = b := ⟨_, rfl⟩
  rw [hyb] at hb HL4
  have HSZ : Hid (yb ≤ (w3.alloc (.cells #[.int .i64 X.kind, .bool X.status, .int .u64 (X.gas : Int), .slice A n c, .bool X.full, .int .u64 (X.nonce : Int), .int .u64 (X.version : Int)] 25)).heap.size) := Lib.hid (by simp; omega)
  have HB4 := Lib.hid hb
  clear hgy hg3 hl3 hb HG2 HDE q
  go_upto_region 7 with (fail)
  clear hyb
  generalize w3.alloc (.cells #[.int .i64 X.kind, .bool X.status, .int .u64 (X.gas : Int), .slice A n c, .bool X.full, .int .u64 (X.nonce : Int), .int .u64 (X.version : Int)] 25) = w4 at *
  have c0 := HB4.out.cell 0; have c1 := HB4.out.cell 1; have c2 := HB4.out.cell 2; have c3 := HB4.out.cell 3; have c4 := HB4.out.cell 4; have c5 := HB4.out.cell 5; have c6 := HB4.out.cell 6
  simp only [List.getElem?_toArray, List.getElem?_cons_zero, List.getElem?_cons_succ] at c0 c1 c2 c3 c4 c5 c6
  by_cases h0 : E = 0
  rotate_left
  · have q1 : (E != 0) = true := by simpa using h0
    have hX := HBAD.out h0
    subst hX
    have hnn : 0 = n := HL4.out.1
    subst hnn
    have hsa := sameRc_any Rcp.zero Rcp.zero yb 0 A none 0 0 c 0 w4 HL4.out (logs_none _ _ _) HSZ.out (Nat.zero_le _) (by decide) (by decide)
    rw [eqB_t rfl] at hsa
    have HSA := Lib.hid hsa
    simp only [rcpC_0] at HSA
    clear hsa h0 HBAD HONLY HL4 HSZ
    simp only [Rcp.zero] at c0 c1 c2 c3 c4 c5 c6
    go_wp2_with fail
    refine HSA.out.mono ?_
    rintro e w5 ⟨rfl, hg5⟩
    have HG5 := Lib.hid (grown_self HG4.out hg5 (by simp))
    clear hg5 HSA c0 c1 c2 c3 c4 c5 c6
    go_wp2_with fail
    go_ret
    exact ⟨rfl, HG5.out⟩
  · subst h0
    obtain ⟨k1, k2, k3, k4⟩ := HONLY.out rfl
    have hn16 : n ≤ 9223372036854775807 := by have := (check_0 k1).1; have := HL4.out.1; omega
    have hen := encodeRc_any X k4 yb A n c w4 HL4.out HSZ.out hn16
    rw [k2, k3, show (⟨s.data.toList.toArray⟩ : ByteArray) = s from ba_listE rfl] at hen
    have hck := fun (V : World) (hV : w4.grownBy V none) => checkRc_any X yb A n c V (HL4.out.grown hV HSZ.out) (Nat.le_trans HSZ.out hV.size) hn16
    rw [k1] at hck
    unfold rcpC at hen hck
    have HEN := Lib.hid hen; have HCK := Lib.hid hck
    have e1 : (s.toList == s.toList) = true := by simp
    clear hen hck k1 k2 k3 k4 hn16 HONLY HBAD
    go_wp2_with fail
    refine HEN.out.mono ?_
    rintro e w5 ⟨rfl, hg5⟩
    have HG5 := Lib.hid (grown_self HG4.out hg5 (by simp)); have HB5 := Lib.hid (HB4.out.grown hg5 (by simp)); have H45 := Lib.hid hg5
    have c0 := HB5.out.cell 0; have c1 := HB5.out.cell 1; have c2 := HB5.out.cell 2; have c3 := HB5.out.cell 3; have c4 := HB5.out.cell 4; have c5 := HB5.out.cell 5; have c6 := HB5.out.cell 6
    simp only [List.getElem?_toArray, List.getElem?_cons_zero, List.getElem?_cons_succ] at c0 c1 c2 c3 c4 c5 c6
    clear hg5 HEN
    go_wp2_with fail
    refine (HCK.out w5 H45.out).mono ?_
    rintro e w6 ⟨rfl, hg6⟩
    have HG6 := Lib.hid (grown_self HG5.out hg6 (by simp))
    clear hg6 HCK c0 c1 c2 c3 c4 c5 c6
    go_wp2_with fail
    go_ret
    exact ⟨rfl, HG6.out⟩
end Go.Proofs.YthalohloneojlaaGreatDoor
