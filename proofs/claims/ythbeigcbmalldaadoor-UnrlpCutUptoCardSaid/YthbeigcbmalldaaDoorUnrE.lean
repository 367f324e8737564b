/- A range over the iterator of places. -/
import Derived.Test.YthbeigcbmalldaaDoorUnrD
namespace Go.Proofs.YthbeigcbmalldaaDoor
open Go.RowKit Go.Shelf

/-- a body's word -/
def bodyP (B : Nat) (I2 : World → Prop) (Ix : Code → World → Prop) (W : World) : Exit → Act → World → Prop
  | .normal, _, W' => KeepsFrom B W W' ∧ I2 W'
  | .ret, _, W' => KeepsFrom B W W' ∧ Ix .ret W'
  | .exit id, _, W' => KeepsFrom B W W' ∧ Ix (.exit id) W'
  | .goto t, _, W' => KeepsFrom B W W' ∧ Ix (.goto t) W'
  | .panic _, _, _ => False
  | .outgrown, _, _ => False

theorem range_places {n : Nat} {g : Operand} {ps : Array Tmp} {assign body : Code} {Q : Exit → Act → World → Prop} {a : Act} {w : World} (pf pe pr rf : Nat) (caps : Array Value) (en p0 : Int) (M : Nat) (hM : M ≤ 1000000)
    (h1 : 2 ≤ n) (hg : a.eval g = .func (.func 38) #[] #[.pointer (some ⟨pf, 0, none⟩), .pointer (some ⟨pe, 0, none⟩), .pointer (some ⟨pr, 0, none⟩)])
    (eg : ∀ args w, (callFunc 38 args).run Tryd.prog w = .ok (.enter 38 args) w) (hent : ∀ args W, (callFunc rf args).run Tryd.prog W = .ok (.enter rf args) W) (hps : ps.size = 2)
    (I I2 : Nat → Int → World → Prop) (Ix : Code → World → Prop) (hpf : pf < w.heap.size)
    (hI : OwnFrom w.heap.size (fun (s : Nat × Int) => I s.1 s.2)) (hI2 : OwnFrom w.heap.size (fun (s : Nat × Int) => I2 s.1 s.2)) (hIx : ∀ c, OwnFrom w.heap.size (fun (_ : Unit) => Ix c))
    (hbI : ∀ i p W, I i p W → PlBoxes pf pe pr rf caps en p W ∧ i ≤ M) (hbI2 : ∀ i p W, I2 i p W → PlBoxes pf pe pr rf caps en p W ∧ i < M) (h0 : I 0 p0 w) (Ax : Nat → Int → Act → Prop)
    (hassign : ∀ (l i : Nat) (p : Int) (W : World) (K : Act → World → Prop), I i p W → (∀ a', Ax i p a' → K a' W) → assign.wpIn (Fence.wide.inRound l) (n - 1 - 1) Tryd.prog (Exit.then K (fun _ _ _ => False)) { tmps := (ps.zip #[.int .i64 (i : Int), .int .i64 p]).foldl (fun t (p, v) => t.setIfInBounds p v) a.tmps, defers := [] } W)
    (hbody : ∀ (l i : Nat) (p : Int) (a' : Act) (W : World), I i p W → p < en → Ax i p a' → body.wpIn (Fence.wide.inRound l) (n - 1 - 1) Tryd.prog (bodyP w.heap.size (I2 i p) Ix W) a' W)
    (hread : ∀ i p W, I2 i p W → CallsIn Fence.wide (n - 1 - 1) Tryd.prog rf (#[.int .i64 p] ++ caps) W fun e W' => ∃ p', e = .returned (.int .i64 p') ∧ Boxed W' pf 3 (.int .i64 p) ∧ KeepsFrom w.heap.size W W' ∧ I (i + 1) p' (W'.setCell ⟨pf, 0, none⟩ (.int .i64 p')))
    (hdone : ∀ (E i : Nat) (p : Int) (W : World), w.heap.size ≤ E → ¬ p < en → I i p W → W.heap[E]? = some (.deferred (some [])) → Q .normal { a with defers := { target := .collected E, args := #[] } :: a.defers } W)
    (hstop : ∀ (E : Nat) (c : Code) (W : World), w.heap.size ≤ E → Ix c W → W.heap[E]? = some (.deferred (some [])) → c.wpIn Fence.wide n Tryd.prog Q { a with defers := { target := .collected E, args := #[] } :: a.defers } W) :
    (Code.rangeFunc g ps assign body).wpIn Fence.wide n Tryd.prog Q a w := by
  refine wpIn_rangeFunc fun fn hfn => ?_
  rw [show Fence.wide.round = none from rfl]
  generalize hd : w.heap.size = d at *
  obtain ⟨R, hR⟩ : ∃ R : LoopState → Option Code → Loop, R = fun st pe => { state := st, pending := pe, fn, tmps := a.tmps, params := ps, assign, body, defers := d } := ⟨_, rfl⟩
  obtain ⟨V, hV⟩ : ∃ V, (w.alloc (.deferred (some []))).alloc (.loop (R .ready none)) = V := ⟨_, rfl⟩
  have vL : V.heap[d + 1]? = some (.loop (R .ready none)) := by
    have := World.alloc_heap_new (w.alloc (.deferred (some []))) (.loop (R .ready none))
    rw [World.size_alloc, hd] at this
    rw [← hV]; exact this
  have vD : V.heap[d]? = some (.deferred (some [])) := by
    have := World.alloc_heap_new w (.deferred (some []))
    rw [hd] at this
    rw [← hV]; exact (Below.heap_alloc _ _ _ (by simp [hd])).trans this
  have vI : I 0 p0 V := by
    have e1 := hI.alloc (s := (0, p0)) (.deferred (some [])) h0
    have e2 := hI.alloc (s := (0, p0)) (.loop (R .ready none)) e1
    rw [← hV]; exact e2
  refine ⟨d + 1, [{ target := .collected d, args := #[] }], V, { target := .fn (.func 38) #[.pointer (some ⟨pf, 0, none⟩), .pointer (some ⟨pe, 0, none⟩), .pointer (some ⟨pr, 0, none⟩)], args := #[.func (.yield (d + 1)) #[] #[]] }, V, 38, #[.func (.yield (d + 1)) #[] #[]] ++ #[.pointer (some ⟨pf, 0, none⟩), .pointer (some ⟨pe, 0, none⟩), .pointer (some ⟨pr, 0, none⟩)], V, ?_, ?_, ?_, ?_, fun _ => by omega, ?_⟩
  · rw [← hV, hR, ← hd]; exact run_enterLoop_outer _ _ _ _ _
  · simp only [resolve, hg]
    simp [go_sem]
  · intro f' hf'; simp [Target.leads] at hf'; subst hf'; trivial
  · simp [invoke, go_sem, eg]
  have hs := places_in (n - 1) (by omega) (d + 1) pf pe pr rf caps en p0 M hM
    (fun i p W => I i p W ∧ W.heap[d + 1]? = some (.loop (R .ready none)) ∧ W.heap[d]? = some (.deferred (some [])))
    (fun i p W => I2 i p W ∧ W.heap[d + 1]? = some (.loop (R .ready none)) ∧ W.heap[d]? = some (.deferred (some [])))
    (fun W => ∃ c, Ix c W ∧ W.heap[d + 1]? = some (.loop (R .done (some c))) ∧ W.heap[d]? = some (.deferred (some [])))
    (fun i p W h => hbI i p W h.1) (fun i p W h => hbI2 i p W h.1) hent ?_ ?_ V ⟨vI, vL, vD⟩
  · refine hs.mono ?_
    rintro e Y ⟨⟨v, rfl⟩, (⟨i, p, hlt, y1, y2, y3⟩ | ⟨c, y1, y2, y3⟩)⟩
    · have e := run_endLoop (P := Tryd.prog) y2 (by rw [hR]; simp)
      rw [hR] at e
      exact ⟨none, _, e, hdone d i p _ (by omega) hlt (hI.putObj (s := (i, p)) _ y1 (by omega) y2 rfl) ((World.putObj_heap_other (by omega)).trans y3)⟩
    · have e := run_endLoop (P := Tryd.prog) y2 (by rw [hR]; simp)
      rw [hR] at e
      exact ⟨some c, _, e, hstop d c _ (by omega) ((hIx c).putObj (s := ()) _ y1 (by omega) y2 rfl) ((World.putObj_heap_other (by omega)).trans y3)⟩
  · rintro i p W0 ⟨hi0, hl0, hk0⟩ hlt
    have hy := run_yield (P := Tryd.prog) (args := #[.int .i64 (i : Int), .int .i64 p]) hl0 (by rw [hR]; exact hps.symm)
    rw [hR] at hy
    refine ⟨fn, _, assign, body, hy, roundIn_of_wpIn hfn (hassign _ i p W0 _ hi0 fun a' hax => ?_)⟩
    have hltd : d + 1 < W0.heap.size := (Array.getElem?_eq_some_iff.1 hl0).1
    refine ⟨_, run_beginRound hl0 (by rw [hR]), ?_⟩
    obtain ⟨X, hX⟩ : ∃ X, W0.putObj (d + 1) (.loop { R .ready none with state := .busy }) = X := ⟨_, rfl⟩
    have xL : X.heap[d + 1]? = some (.loop { R .ready none with state := .busy }) := by rw [← hX]; exact World.putObj_heap_same hltd
    have xD : X.heap[d]? = some (.deferred (some [])) := by rw [← hX]; exact (World.putObj_heap_other (by omega)).trans hk0
    have xI : I i p X := by rw [← hX]; exact hI.putObj (s := (i, p)) _ hi0 (by omega) hl0 rfl
    rw [hX]
    have close : ∀ (j : Option Code) (Y : World), KeepsFrom d X Y → ∃ Z, Z = Y.putObj (d + 1) (.loop (R (if j.isNone then .ready else .done) j)) ∧ (Instr.endRound (d + 1) j).run Tryd.prog Y = .ok (.bool j.isNone) Z ∧ Y.heap[d + 1]? = some (.loop { R .ready none with state := .busy }) ∧
        Z.heap[d + 1]? = some (.loop (R (if j.isNone then .ready else .done) j)) ∧ Z.heap[d]? = some (.deferred (some [])) := by
      intro j Y hXY
      have yL := hXY.same _ _ (by omega) xL rfl
      have yD := hXY.same _ _ (Nat.le_refl _) xD rfl
      have he := run_endRound (P := Tryd.prog) j yL
      refine ⟨_, rfl, ?_, yL, World.putObj_heap_same (Array.getElem?_eq_some_iff.1 yL).1, (World.putObj_heap_other (by omega)).trans yD⟩
      rw [hR] at he ⊢
      exact he
    refine wpIn_mono (hbody _ i p a' X xI hlt hax) ?_
    have jump : ∀ (c : Code) (Y : World), KeepsFrom d X Y → Ix c Y → ∃ v Z, (Instr.endRound (d + 1) (some c)).run Tryd.prog Y = .ok v Z ∧
        ((Ending.returned v = .returned (.bool true) ∧ (I2 i p Z ∧ Z.heap[d + 1]? = some (.loop (R .ready none)) ∧ Z.heap[d]? = some (.deferred (some [])))) ∨
          (Ending.returned v = .returned (.bool false) ∧ ∃ c, Ix c Z ∧ Z.heap[d + 1]? = some (.loop (R .done (some c))) ∧ Z.heap[d]? = some (.deferred (some [])))) := by
      intro c Y hXY hc
      obtain ⟨Z, hZ, z1, z2, z3, z4⟩ := close (some c) Y hXY
      exact ⟨_, Z, z1, .inr ⟨rfl, c, by rw [hZ]; exact (hIx c).putObj (s := ()) _ hc (by omega) z2 rfl, z3, z4⟩⟩
    intro e a3 Y hp
    cases e with
    | normal =>
      obtain ⟨p1, p3⟩ := hp
      obtain ⟨Z, hZ, z1, z2, z3, z4⟩ := close none Y p1
      exact ⟨_, Z, z1, .inl ⟨rfl, ⟨by rw [hZ]; exact hI2.putObj (s := (i, p)) _ p3 (by omega) z2 rfl, z3, z4⟩⟩⟩
    | ret => exact jump .ret Y hp.1 hp.2
    | exit id => exact jump (.exit id) Y hp.1 hp.2
    | goto t => exact jump (.goto t) Y hp.1 hp.2
    | panic ch => exact hp.elim
    | outgrown => exact hp.elim
  · rintro i p W0 ⟨hi0, hl0, hk0⟩
    refine (hread i p W0 hi0).mono ?_
    rintro e W' ⟨p', rfl, bx, hk, hi⟩
    refine ⟨p', rfl, bx, hi, ?_, ?_⟩
    · exact (Below.heap_setCell W' ⟨pf, 0, none⟩ _ (d + 1) (by show d + 1 ≠ pf; omega)).trans (hk.same _ _ (by omega) hl0 rfl)
    · exact (Below.heap_setCell W' ⟨pf, 0, none⟩ _ d (by show d ≠ pf; omega)).trans (hk.same _ _ (Nat.le_refl _) hk0 rfl)
end Go.Proofs.YthbeigcbmalldaaDoor
