/- A slice of frames that came in, as 'Reads'; a frame that came in. -/
import Derived.Test.YtdkijdedfpfbnaaOpen
import Derived.Test.YtdkijdedfpfbnaaFrmE
namespace Go.Proofs.Ytdkijdedfpfbnaa
open Go.ChangeShapes Go.WideShapes Go.RowKit Go.Deep Go.Joins

theorem list_of {α : Type} {R : Nat → α → Prop} : ∀ n : Nat, (∀ i, i < n → ∃ x, R i x) → ∃ xs : List α, xs.length = n ∧ ∀ i (h : i < xs.length), R i xs[i]
  | 0, _ => ⟨[], rfl, fun i h => absurd h (by simp)⟩
  | n + 1, h => by
    obtain ⟨xs, hl, hx⟩ := list_of n fun i hi => h i (by omega)
    obtain ⟨x, hxn⟩ := h n (by omega)
    refine ⟨xs ++ [x], by simp [hl], fun i hi => ?_⟩
    by_cases h1 : i < xs.length
    · rw [List.getElem_append_left h1]; exact hx i h1
    · obtain rfl : i = n := by simp at hi; omega
      rw [List.getElem_append_right (by omega)]
      simpa [hl] using hxn

section
variable {H : Type} {enc : TypeId × Value → H} {w : World} {base : Nat} {held : Bool}
theorem frames_one : ∃ t0 t1 t2 t3 : Field, Try.prog.underlying 30 = some (.struct #[t0, t1, t2, t3]) ∧ oneCellFields Try.prog #[t0, t1, t2, t3] = true ∧ Try.prog.underlying t0.type = some .string ∧ Try.prog.underlying t1.type = some (.int .i64) ∧ Try.prog.underlying t2.type = some .string ∧ Try.prog.underlying t3.type = some .bool :=
  ⟨_, _, _, _, Try.underlying30, by kernel_rfl, Try.underlying9, Try.underlying3, Try.underlying9, Try.underlying4⟩
theorem reads_of_frames {fuel : Nat} {v : Value} {x : DataW H × List MemPlace} (h : DataW.trod enc Try.prog w base (fun _ => true) held fuel 23 [v] = some x) :
    ∃ (A : Option Addr) (n c : Nat) (xs : List Frm), v = .slice A n c ∧ Reads w w.heap.size 4 A n (framesV xs) ∧ n ≤ maxLen ∧ xs.length = n ∧ n ≤ c := by
  obtain ⟨t0, t1, t2, t3, hu, hone, u0, u1, u2, u3⟩ := frames_one
  rcases open_slice_fields Try.underlying23 hu hone (by kernel_rfl) h with ⟨hcs, _⟩ | ⟨a, len, cap, m, D, Pl, hcs, hb, hl, hm, hmm, _, hi⟩
  · simp only [List.cons.injEq, and_true] at hcs
    exact ⟨none, 0, 0, [], hcs, Reads.none_, by simp [maxLen], rfl, by omega⟩
  · simp only [List.cons.injEq, and_true] at hcs
    simp only [if_true] at hmm
    have key : ∀ i, i < len → ∃ f : Frm, ∀ j, j < 4 → w.cell? (a.add (i * 4 + j)) = f.cells[j]? := by
      intro i hil
      obtain ⟨ys, n, _, _, _, hf⟩ := hi i (by omega)
      obtain ⟨v0, y0, c0, _, e0⟩ := hf 0 t0 rfl
      obtain ⟨v1, y1, c1, _, e1⟩ := hf 1 t1 rfl
      obtain ⟨v2, y2, c2, _, e2⟩ := hf 2 t2 rfl
      obtain ⟨v3, y3, c3, _, e3⟩ := hf 3 t3 rfl
      obtain ⟨s0, hs0, _⟩ := DataW.trod_string u0 e0
      obtain ⟨s1, hs1, _⟩ := DataW.trod_int u1 e1
      obtain ⟨s2, hs2, _⟩ := DataW.trod_string u2 e2
      obtain ⟨s3, hs3, _⟩ := DataW.trod_bool u3 e3
      simp only [List.cons.injEq, and_true] at hs0 hs1 hs2 hs3
      subst hs0; subst hs1; subst hs2; subst hs3
      refine ⟨⟨s0, s1, s2, s3⟩, fun j hj => ?_⟩
      match j, hj with
      | 0, _ => exact c0
      | 1, _ => exact c1
      | 2, _ => exact c2
      | 3, _ => exact c3
    obtain ⟨xs, hxl, hx⟩ := list_of len key
    have hget : ∀ i j, i < len → j < 4 → w.cell? (a.add (i * 4 + j)) = (framesV xs)[i * 4 + j]? := by
      intro i j hil hj
      rw [framesV_get xs i (by omega) j hj, ← hx i (by omega) j hj]
    refine ⟨some a, len, cap, xs, hcs, ⟨by rw [framesV_len, hxl], fun hn => ⟨a, rfl, ?_, fun j u hu => ?_⟩⟩, by omega, hxl, hl⟩
    · have h0 := hget 0 0 (by omega) (by omega)
      rw [framesV_get xs 0 (by omega) 0 (by omega)] at h0
      have := World.block_lt_of_cell? w _ h0
      rwa [block_of_add] at this
    · have hj : j < len * 4 := by
        have := (List.getElem?_eq_some_iff.1 hu).1
        rw [framesV_len, hxl] at this
        exact this
      have := hget (j / 4) (j % 4) (by omega) (by omega)
      rw [show j / 4 * 4 + j % 4 = j by omega, hu] at this
      exact this
theorem open_frame {r : Reach} {b0 : Nat} {v : Value} {d : DataW H} {p : List MemPlace} {spare : Nat → Bool} (hv : Value.okWide Try.prog w r b0 30 v) (h : DataW.Trod enc Try.prog w base spare held 30 v d p) :
    ∃ f : Frm, v = .agg #[.string f.id, .int .i64 f.num, .string f.data, .bool f.last] := by
  obtain ⟨t0, t1, t2, t3, hu, hone, u0, u1, u2, u3⟩ := frames_one
  obtain ⟨v0, v1, v2, v3, y0, y1, y2, y3, n, rfl, _, _, e0, e1, e2, e3⟩ := open_agg4 hu hone (by kernel_rfl) hv h
  obtain ⟨s0, hs0, _⟩ := DataW.trod_string u0 e0
  obtain ⟨s1, hs1, _⟩ := DataW.trod_int u1 e1
  obtain ⟨s2, hs2, _⟩ := DataW.trod_string u2 e2
  obtain ⟨s3, hs3, _⟩ := DataW.trod_bool u3 e3
  simp only [List.cons.injEq, and_true] at hs0 hs1 hs2 hs3
  subst hs0; subst hs1; subst hs2; subst hs3
  exact ⟨⟨s0, s1, s2, s3⟩, rfl⟩
end
end Go.Proofs.Ytdkijdedfpfbnaa
