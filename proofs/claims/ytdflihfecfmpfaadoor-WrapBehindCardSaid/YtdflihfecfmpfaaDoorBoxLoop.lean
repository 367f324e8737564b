/- A range over a function whose iterator writes a box of its own (it lies ahead of the loop). Of whatever program. -/
import Derived.Test.YtdflihfecfmpfaaDoorClass
namespace Go.Proofs.YtdflihfecfmpfaaDoor
open Go.RowKit Go.Shelf
section
variable {F : Fence} {n : Nat} {P : Program} {α : Type}
/-- kept whatever the box at D holds, and by new memory -/
structure BoxFree (D : Nat) (J : List α → World → Prop) : Prop where
  grown : ∀ pre W W', J pre W → W.grownBy W' none → J pre W'
  set : ∀ pre W v, J pre W → J pre (W.setCell ⟨D, 0, none⟩ v)
/-- the iterator's word: as the library's SeqStopsK, where what is asked is kept by the box at D too -/
def SeqBox (F : Fence) (n : Nat) (P : Program) (g : Nat) (lb : Array Value) (encs : α → Array Value) (Kp : World → World → Prop) (S Sp : List α → Prop) (N : Nat) (w : World) (D : Nat) : Prop :=
  ∀ (l : Nat) (J Jx : List α → World → Prop) (W : World), Below w.heap.size w W → BoxFree D J →
    (∀ pre x W1, J pre W1 → pre.length < N → YieldAt F (n - 1) P l (encs x) W1 fun e W' => (e = .returned (.bool true) ∧ J (pre ++ [x]) W' ∧ Kp W1 W') ∨ (e = .returned (.bool false) ∧ Jx (pre ++ [x]) W')) →
    J [] W → CallsIn F n P g (#[.func (.yield l) #[] #[]] ++ lb) W fun e W' => (∃ v, e = .returned v) ∧ ((∃ xs, S xs ∧ J xs W') ∨ (∃ pre, Sp pre ∧ Jx pre W'))

theorem range_box {g : Operand} {ps : Array Tmp} {assign body : Code} {Q : Exit → Act → World → Prop} {a : Act} {w : World} (D : Nat) (hD : D < w.heap.size)
    (hro : F.round = none) (h1 : 1 ≤ n) {gf : Nat} {lb : Array Value} (hg : a.eval g = .func (.func gf) #[] lb) (hFg : F.fn gf) (eg : ∀ args w, (callFunc gf args).run P w = .ok (.enter gf args) w)
    {encs : α → Array Value} {Kp : World → World → Prop} {S Sp : List α → Prop} {N : Nat} (hseq : SeqBox F (n - 1) P gf lb encs Kp S Sp N w D)
    (hKt : ∀ {A B C : World}, Kp A B → Kp B C → Kp A C) (hKb : ∀ (W : World) (l : Nat) (o o' : Obj), w.heap.size ≤ l → W.heap[l]? = some o → o.isCells = false → o.isWalk = false → Kp W (W.putObj l o')) (hps : ∀ x, (encs x).size = ps.size)
    (I : List α → World → Prop) (Ix : Code → List α → World → Prop) (hI : OwnFrom w.heap.size I) (hID : BoxFree D I) (hIx : ∀ c, OwnFrom w.heap.size (Ix c)) (h0 : I [] w) (Ax : α → Act → World → Prop) (hAx : ∀ x a', OwnFrom w.heap.size (fun (_ : Unit) W => Ax x a' W))
    (hassign : ∀ (l : Nat) (pre : List α) (x : α) (W : World) (K : Act → World → Prop), I pre W → (∀ a' W', KeepsFrom w.heap.size W W' → Kp W W' → I pre W' → Ax x a' W' → K a' W') → assign.wpIn (F.inRound l) (n - 1 - 1) P (Exit.then K (fun _ _ _ => False)) { tmps := (ps.zip (encs x)).foldl (fun t (p, v) => t.setIfInBounds p v) a.tmps, defers := [] } W)
    (hbody : ∀ (l : Nat) (pre : List α) (x : α) (a' : Act) (W : World), I pre W → Ax x a' W → pre.length < N → body.wpIn (F.inRound l) (n - 1 - 1) P (ownPostG w.heap.size Kp I Ix (pre ++ [x]) W) a' W)
    (hdone : ∀ (E : Nat) (xs : List α) (W : World), w.heap.size ≤ E → S xs → I xs W → W.heap[E]? = some (.deferred (some [])) → Q .normal { a with defers := { target := .collected E, args := #[] } :: a.defers } W)
    (hstop : ∀ (E : Nat) (c : Code) (pre : List α) (W : World), w.heap.size ≤ E → Sp pre → Ix c pre W → W.heap[E]? = some (.deferred (some [])) → c.wpIn F n P Q { a with defers := { target := .collected E, args := #[] } :: a.defers } W) :
    (Code.rangeFunc g ps assign body).wpIn F n P Q a w := by
  refine wpIn_rangeFunc fun fn hfn => ?_
  rw [hro]
  generalize hd : w.heap.size = d at *
  obtain ⟨R, hR⟩ : ∃ R : LoopState → Option Code → Loop, R = fun st pe => { state := st, pending := pe, fn, tmps := a.tmps, params := ps, assign, body, defers := d } := ⟨_, rfl⟩
  obtain ⟨V, hV⟩ : ∃ V, (w.alloc (.deferred (some []))).alloc (.loop (R .ready none)) = V := ⟨_, rfl⟩
  have vL : V.heap[d + 1]? = some (.loop (R .ready none)) := by
    have := World.alloc_heap_new (w.alloc (.deferred (some []))) (.loop (R .ready none))
    rw [World.size_alloc, hd] at this
    rw [← hV]; exact this
  have vD : V.heap[d]? = some (.deferred (some [])) := by
    have := World.alloc_heap_new w (.deferred (some []))
    rw [hd] at this
    rw [← hV]; exact (Below.heap_alloc _ _ _ (by simp [hd])).trans this
  have vI : I [] V := by rw [← hV]; exact hI.alloc _ (hI.alloc _ h0)
  have vB : Below d w V := by rw [← hV]; exact ((Below.refl d w).alloc (by omega) _).alloc (by simp [hd]) _
  refine ⟨d + 1, [{ target := .collected d, args := #[] }], V, { target := .fn (.func gf) lb, args := #[.func (.yield (d + 1)) #[] #[]] }, V, gf, #[.func (.yield (d + 1)) #[] #[]] ++ lb, V, ?_, ?_, ?_, ?_, fun _ => h1, ?_⟩
  · rw [← hV, hR, ← hd]; exact run_enterLoop_outer _ _ _ _ _
  · simp only [resolve, hg]
    simp [go_sem]
  · intro f' hf'; simp [Target.leads] at hf'; subst hf'; exact hFg
  · simp [invoke, go_sem, eg]
  have free : BoxFree D (fun pre W => I pre W ∧ W.heap[d + 1]? = some (.loop (R .ready none)) ∧ W.heap[d]? = some (.deferred (some []))) := by
    constructor
    · rintro pre A B ⟨k1, k2, k3⟩ hAB
      exact ⟨hID.grown pre A B k1 hAB, (hAB.block (d + 1) (Array.getElem?_eq_some_iff.1 k2).1 (by simp)).trans k2, (hAB.block d (Array.getElem?_eq_some_iff.1 k3).1 (by simp)).trans k3⟩
    · rintro pre A v ⟨k1, k2, k3⟩
      exact ⟨hID.set pre A v k1, (Below.heap_setCell A ⟨D, 0, none⟩ v (d + 1) (by show d + 1 ≠ D; omega)).trans k2, (Below.heap_setCell A ⟨D, 0, none⟩ v d (by show d ≠ D; omega)).trans k3⟩
  have hs := hseq (d + 1) _ (fun pre W => ∃ c, Ix c pre W ∧ W.heap[d + 1]? = some (.loop (R .done (some c))) ∧ W.heap[d]? = some (.deferred (some []))) V (by rw [hd]; exact vB) free
  refine (hs ?_ ⟨vI, vL, vD⟩).mono ?_
  · rintro pre x W0 ⟨hi0, hl0, hk0⟩ hlen
    have hy := run_yield (P := P) (args := encs x) hl0 (by rw [hR]; exact hps x)
    rw [hR] at hy
    refine ⟨fn, _, assign, body, hy, roundIn_of_wpIn hfn (hassign _ pre x W0 _ hi0 fun a' W k1 k2 hi hax => ?_)⟩
    have hl := k1.same _ _ (by omega) hl0 rfl
    have hk := k1.same _ _ (Nat.le_refl _) hk0 rfl
    have hlt : d + 1 < W.heap.size := (Array.getElem?_eq_some_iff.1 hl).1
    refine ⟨_, run_beginRound hl (by rw [hR]), ?_⟩
    obtain ⟨X, hX⟩ : ∃ X, W.putObj (d + 1) (.loop { R .ready none with state := .busy }) = X := ⟨_, rfl⟩
    have xL : X.heap[d + 1]? = some (.loop { R .ready none with state := .busy }) := by rw [← hX]; exact World.putObj_heap_same hlt
    have xD : X.heap[d]? = some (.deferred (some [])) := by rw [← hX]; exact (World.putObj_heap_other (by omega)).trans hk
    have xK : Kp W X := by rw [← hX]; exact hKb _ _ _ _ (by omega) hl rfl rfl
    have xI : I pre X := by rw [← hX]; exact hI.putObj _ hi (by omega) hl rfl
    rw [hX]
    have close : ∀ (j : Option Code) (Y : World), KeepsFrom d X Y → ∃ Z, Z = Y.putObj (d + 1) (.loop (R (if j.isNone then .ready else .done) j)) ∧ (Instr.endRound (d + 1) j).run P Y = .ok (.bool j.isNone) Z ∧ Y.heap[d + 1]? = some (.loop { R .ready none with state := .busy }) ∧
        Z.heap[d + 1]? = some (.loop (R (if j.isNone then .ready else .done) j)) ∧ Z.heap[d]? = some (.deferred (some [])) := by
      intro j Y hXY
      have yL := hXY.same _ _ (by omega) xL rfl
      have yD := hXY.same _ _ (Nat.le_refl _) xD rfl
      have he := run_endRound (P := P) j yL
      refine ⟨_, rfl, ?_, yL, World.putObj_heap_same (Array.getElem?_eq_some_iff.1 yL).1, (World.putObj_heap_other (by omega)).trans yD⟩
      rw [hR] at he ⊢
      exact he
    have xA : Ax x a' X := by rw [← hX]; exact (hAx x a').putObj (s := ()) _ hax (by omega) hl rfl
    refine wpIn_mono (hbody _ pre x a' X xI xA hlen) ?_
    have jump : ∀ (c : Code) (Y : World), KeepsFrom d X Y → Ix c (pre ++ [x]) Y → ∃ v Z, (Instr.endRound (d + 1) (some c)).run P Y = .ok v Z ∧
        ((Ending.returned v = .returned (.bool true) ∧ (I (pre ++ [x]) Z ∧ Z.heap[d + 1]? = some (.loop (R .ready none)) ∧ Z.heap[d]? = some (.deferred (some []))) ∧ Kp W0 Z) ∨
          (Ending.returned v = .returned (.bool false) ∧ ∃ c, Ix c (pre ++ [x]) Z ∧ Z.heap[d + 1]? = some (.loop (R .done (some c))) ∧ Z.heap[d]? = some (.deferred (some [])))) := by
      intro c Y hXY hc
      obtain ⟨Z, hZ, z1, z2, z3, z4⟩ := close (some c) Y hXY
      exact ⟨_, Z, z1, .inr ⟨rfl, c, by rw [hZ]; exact (hIx c).putObj _ hc (by omega) z2 rfl, z3, z4⟩⟩
    intro e a3 Y hp
    cases e with
    | normal =>
      obtain ⟨p1, p2, p3⟩ := hp
      obtain ⟨Z, hZ, z1, z2, z3, z4⟩ := close none Y p1
      exact ⟨_, Z, z1, .inl ⟨rfl, ⟨by rw [hZ]; exact hI.putObj _ p3 (by omega) z2 rfl, z3, z4⟩, hKt (hKt (hKt k2 xK) p2) (by rw [hZ]; exact hKb _ _ _ _ (by omega) z2 rfl rfl)⟩⟩
    | ret => exact jump .ret Y hp.1 hp.2
    | exit id => exact jump (.exit id) Y hp.1 hp.2
    | goto t => exact jump (.goto t) Y hp.1 hp.2
    | panic ch => exact hp.elim
    | outgrown => exact hp.elim
  · rintro e Y ⟨⟨v, rfl⟩, (⟨xs, hS, y1, y2, y3⟩ | ⟨pre, hSp, c, y1, y2, y3⟩)⟩
    · have e := run_endLoop (P := P) y2 (by rw [hR]; simp)
      rw [hR] at e
      exact ⟨none, _, e, hdone d xs _ (by omega) hS (hI.putObj _ y1 (by omega) y2 rfl) ((World.putObj_heap_other (by omega)).trans y3)⟩
    · have e := run_endLoop (P := P) y2 (by rw [hR]; simp)
      rw [hR] at e
      exact ⟨some c, _, e, hstop d c pre _ (by omega) hSp ((hIx c).putObj _ y1 (by omega) y2 rfl) ((World.putObj_heap_other (by omega)).trans y3)⟩
end
end Go.Proofs.YtdflihfecfmpfaaDoor
