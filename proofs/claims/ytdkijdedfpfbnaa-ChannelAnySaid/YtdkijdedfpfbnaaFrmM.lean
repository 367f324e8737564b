/- Are two rows of frames the same? -/
import Derived.Test.YtdkijdedfpfbnaaChaA
import Derived.Laws.StructEq
namespace Go.Proofs.Ytdkijdedfpfbnaa
open Go.RowKit Go.Shelf

theorem eq_frame (f g : Frm) (w : World) : (Op.equalIn 10000 30 (.agg #[.string f.id, .int .i64 f.num, .string f.data, .bool f.last]) (.agg #[.string g.id, .int .i64 g.num, .string g.data, .bool g.last])).run Try.prog w = .ok (decide (f = g)) w := by
  have hS : Try.prog.underlying 30 = some (.struct (Try.prog.fieldsOf 30)) := by kernel_rfl
  have hp : Try.prog.stoodInHeld 30 = false := by kernel_rfl
  obtain ⟨a, b, c, d⟩ := f
  obtain ⟨a', b', c', d'⟩ := g
  rw [show (10000 : Nat) = 9999 + 1 from rfl, run_equalIn_agg w 9999 30 _ _ hS hp]
  simp only [Program.fieldsOf, Try.underlying30]
  go_simp
  have e1 : ∀ u v : ByteArray, (u.toList = v.toList) = (u = v) := fun u v => propext ⟨fun h => ba_ext (by rw [← Lib.toList_data, ← Lib.toList_data, h]), congrArg _⟩
  by_cases h1 : a = a' <;> by_cases h2 : b = b' <;> by_cases h3 : c = c' <;> by_cases h4 : d = d' <;> simp [h1, h2, h3, h4, e1]

set_option maxHeartbeats 1000000 in
theorem same_any (B B' : Nat) (A A' : Option Addr) (n m c d : Nat) (xs ys : List Frm) (w : World) (h : Reads w B 4 A n (framesV xs)) (h' : Reads w B' 4 A' m (framesV ys)) (hn : n ≤ 281474976710656) (hm : m ≤ 281474976710656) :
    Calls Try.prog 12 #[.slice A n c, .slice A' m d] w fun e w' => e = .returned (.bool (decide (xs = ys))) ∧ Below w.heap.size w w' := by
  have hl : xs.length = n := by have := h.1; rw [framesV_len] at this; omega
  have hl' : ys.length = m := by have := h'.1; rw [framesV_len] at this; omega
  by_cases hnm : n = m
  · subst hnm
    have HL := Lib.hid hl; have HL' := Lib.hid hl'
    clear hl hl'
    go_enter Try.func12, Try.ntmps12
    go_wp2_with fail
    go_loopw [5] (fun i wr => ∃ k : Nat, i = .int .i64 k ∧ k ≤ n ∧ (∃ q, wr = w.drewN q) ∧ Hid (∀ i : Nat, i < k → xs.getD i Frm.none_ = ys.getD i Frm.none_)) (fun i _ => n - (intOf i).toNat)
    case atStart => exact ⟨0, rfl, by omega, ⟨0, rfl⟩, by intro i h1; omega⟩
    case round =>
      obtain ⟨k, rfl, h1, ⟨q, rfl⟩, h2⟩ := hrel
      by_cases hlt : k < n
      · obtain ⟨b, off, rfl, _, hc⟩ := h.frames hlt
        obtain ⟨b', off', rfl, _, hc'⟩ := h'.frames hlt
        obtain ⟨c0, c1, c2, c3⟩ := hc k hlt
        obtain ⟨d0, d1, d2, d3⟩ := hc' k hlt
        have q0 : (k : Int) < (n : Int) := by omega
        have h2' := Lib.hid h2.out
        obtain ⟨x, hx⟩ : ∃ x, xs.getD k Frm.none_ = x := ⟨_, rfl⟩
        obtain ⟨y, hy⟩ : ∃ y, ys.getD k Frm.none_ = y := ⟨_, rfl⟩
        rw [hx] at c0 c1 c2 c3
        rw [hy] at d0 d1 d2 d3
        have heq := fun W => eq_frame x y W
        have HX := Lib.hid hx; have HY := Lib.hid hy
        clear h h' h2 hc hc' hx hy
        by_cases hxy : x = y
        · rw [decide_eq_true hxy] at heq
          have HE := Lib.hid hxy
          clear hxy
          go_wp2
          go_quiet (fail)
          go_wp2
          refine ⟨⟨k + 1, by go_num, by omega, ⟨_, rfl⟩, fun i hi => ?_⟩, by simp [intOf]; omega⟩
          by_cases hik : i = k
          · rw [hik, HX.out, HY.out, HE.out]
          · exact h2'.out i (by omega)
        · rw [decide_eq_false hxy] at heq
          have HE := Lib.hid hxy
          clear hxy
          go_wp2
          go_quiet (fail)
          go_wp2
          go_ret
          refine ⟨?_, below_drewN (below_drewN (Below.refl _ _) _) _⟩
          have hne : ¬ xs = ys := by
            intro e
            exact HE.out (by rw [← HX.out, ← HY.out, e])
          simp [hne]
      · have he : xs = ys := by
          apply List.ext_getElem (by rw [HL.out, HL'.out])
          intro i hi hi'
          have := h2.out i (by have := HL.out; omega)
          rw [List.getD_eq_getElem?_getD, List.getD_eq_getElem?_getD, List.getElem?_eq_getElem hi, List.getElem?_eq_getElem hi'] at this
          exact this
        have HE := Lib.hid he
        have q0 : (n : Int) ≤ (k : Int) := by omega
        clear he h2
        go_wp2
        go_ret
        refine ⟨?_, below_drewN (Below.refl _ _) _⟩
        have := HE.out
        simp [this]
  · have hne : ¬ xs = ys := by rintro rfl; omega
    have HE := Lib.hid hne
    have hb : ((n : Int) != (m : Int)) = true := by simp; omega
    clear hne hl hl'
    go_enter Try.func12, Try.ntmps12
    go_wp2_with fail
    go_ret
    exact ⟨by rw [decide_eq_false HE.out]; rfl, Below.refl _ _⟩
end Go.Proofs.Ytdkijdedfpfbnaa
