/- Results that lie in cells. Of whatever program. -/
import Derived.Test.YtdflihfecfmpfaaDoorClass
namespace Go.Proofs.YtdflihfecfmpfaaDoor
open Go.RowKit Go.Shelf

section
variable {P : Program}
theorem load_cell {w : World} {a : Addr} {v : Value} {t : TypeId} {d : TypeDesc} (ht : P.underlying t = some d) (hd : (match d with | .struct _ | .array _ _ => true | _ => false) = false) (hc : w.cell? a = some v) : (loadVar t a).run P w = .ok v w := by
  have hagg : (isAgg t).run P w = .ok false w := by
    unfold isAgg
    rw [Sem.run_bind, run_underlying ht w]
    cases d <;> simp_all
  simp [loadVar, Sem.run_bind, hagg, hc, go_sem]
theorem results_cell1 {fn : Func} {p : Tmp} {t : TypeId} (h : fn.results = #[.cell p t]) (tmps : Array Value) (w : World) (a : Addr) (x : Value) (hp : tmps.getD p undef = .pointer (some a)) (hx : (loadVar t a).run P w = .ok x w) : (results fn tmps).run P w = .ok x w := by
  have hp' : tmps[p]?.getD undef = .pointer (some a) := by simpa using hp
  simp [results, h, hp', asAddr, hx]
theorem results_cell2 {fn : Func} {p q : Tmp} {t u : TypeId} (h : fn.results = #[.cell p t, .cell q u]) (tmps : Array Value) (w : World) (a b : Addr) (x y : Value) (hp : tmps.getD p undef = .pointer (some a)) (hq : tmps.getD q undef = .pointer (some b))
    (hx : (loadVar t a).run P w = .ok x w) (hy : (loadVar u b).run P w = .ok y w) : (results fn tmps).run P w = .ok (.tuple #[x, y]) w := by
  have hp' : tmps[p]?.getD undef = .pointer (some a) := by simpa using hp
  have hq' : tmps[q]?.getD undef = .pointer (some b) := by simpa using hq
  simp [results, h, hp', hq', asAddr, hx, hy]
theorem results_cell3 {fn : Func} {p q r : Tmp} {t u s : TypeId} (h : fn.results = #[.cell p t, .cell q u, .cell r s]) (tmps : Array Value) (w : World) (a b c : Addr) (x y z : Value) (hp : tmps.getD p undef = .pointer (some a)) (hq : tmps.getD q undef = .pointer (some b)) (hr : tmps.getD r undef = .pointer (some c))
    (hx : (loadVar t a).run P w = .ok x w) (hy : (loadVar u b).run P w = .ok y w) (hz : (loadVar s c).run P w = .ok z w) : (results fn tmps).run P w = .ok (.tuple #[x, y, z]) w := by
  have hp' : tmps[p]?.getD undef = .pointer (some a) := by simpa using hp
  have hq' : tmps[q]?.getD undef = .pointer (some b) := by simpa using hq
  have hr' : tmps[r]?.getD undef = .pointer (some c) := by simpa using hr
  simp [results, h, hp', hq', hr', asAddr, hx, hy, hz]
end
theorem box3 (w : World) (a b c : Value) (t u s : TypeId) : Boxed (((w.alloc (.cells #[a] t)).alloc (.cells #[b] u)).alloc (.cells #[c] s)) w.heap.size t a ∧ Boxed (((w.alloc (.cells #[a] t)).alloc (.cells #[b] u)).alloc (.cells #[c] s)) (w.heap.size + 1) u b ∧
    Boxed (((w.alloc (.cells #[a] t)).alloc (.cells #[b] u)).alloc (.cells #[c] s)) (w.heap.size + 1 + 1) s c ∧ Below w.heap.size w (((w.alloc (.cells #[a] t)).alloc (.cells #[b] u)).alloc (.cells #[c] s)) ∧ (((w.alloc (.cells #[a] t)).alloc (.cells #[b] u)).alloc (.cells #[c] s)).heap.size = w.heap.size + 3 := by
  have h2 := (Boxed.new (w.alloc (.cells #[a] t)) u b).alloc (.cells #[c] s)
  have h3 := Boxed.new ((w.alloc (.cells #[a] t)).alloc (.cells #[b] u)) s c
  rw [World.size_alloc] at h2
  rw [World.size_alloc, World.size_alloc] at h3
  exact ⟨((Boxed.new w t a).alloc _).alloc _, h2, h3, (((Below.refl _ w).alloc (Nat.le_refl _) _).alloc (by simp) _).alloc (by simp; omega) _, by simp⟩
theorem box4 (w : World) (a b c d : Value) (t u s r : TypeId) : Boxed ((((w.alloc (.cells #[a] t)).alloc (.cells #[b] u)).alloc (.cells #[c] s)).alloc (.cells #[d] r)) w.heap.size t a ∧ Boxed ((((w.alloc (.cells #[a] t)).alloc (.cells #[b] u)).alloc (.cells #[c] s)).alloc (.cells #[d] r)) (w.heap.size + 1) u b ∧
    Boxed ((((w.alloc (.cells #[a] t)).alloc (.cells #[b] u)).alloc (.cells #[c] s)).alloc (.cells #[d] r)) (w.heap.size + 1 + 1) s c ∧ Boxed ((((w.alloc (.cells #[a] t)).alloc (.cells #[b] u)).alloc (.cells #[c] s)).alloc (.cells #[d] r)) (w.heap.size + 1 + 1 + 1) r d ∧
    Below w.heap.size w ((((w.alloc (.cells #[a] t)).alloc (.cells #[b] u)).alloc (.cells #[c] s)).alloc (.cells #[d] r)) ∧ ((((w.alloc (.cells #[a] t)).alloc (.cells #[b] u)).alloc (.cells #[c] s)).alloc (.cells #[d] r)).heap.size = w.heap.size + 4 := by
  obtain ⟨h1, h2, h3, h4, h5⟩ := box3 w a b c t u s
  have h6 := Boxed.new (((w.alloc (.cells #[a] t)).alloc (.cells #[b] u)).alloc (.cells #[c] s)) r d
  rw [h5] at h6
  exact ⟨h1.alloc _, h2.alloc _, h3.alloc _, h6, h4.alloc (by omega) _, by simp [h5]⟩
end Go.Proofs.YtdflihfecfmpfaaDoor
