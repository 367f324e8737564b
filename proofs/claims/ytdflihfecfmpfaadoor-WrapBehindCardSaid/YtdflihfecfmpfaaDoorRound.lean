/- A region that stands in a round of a loop over a function: it is walked as one that stands anywhere, if it holds no defer statement and nothing grows out of its room. Of whatever program. -/
import Derived.Test.YtdflihfecfmpfaaDoorBase
import Derived.RangeFuncNested
import Derived.RangeFuncBound
import Derived.RangeFuncCalls
import Derived.RangeFuncLeaves
import Derived.RangeFuncBox
import Derived.Shelf.Abstract
import Derived.Shelf.RegionOpen
import Derived.OwnWalkIn
import Derived.TacticsInMore
import Derived.LoopNIn
import Derived.LoopIn
import Derived.StillTailTactics
import Derived.Deep.RegionHeld3
namespace Go.Proofs.YtdflihfecfmpfaaDoor
open Go.RowKit Go.Shelf

def noDefer (ops : List Oper) : Bool := ops.all fun o => match o.op with | .defer _ => false | _ => true
theorem noDefer_spec {ops : List Oper} (h : noDefer ops = true) {o : Oper} (ho : o ∈ ops) (c : Call) : o.op ≠ .defer c := by
  intro e
  have := List.all_eq_true.1 h o ho
  simp [e] at this

theorem rowsIn_round {P : Program} {n r : Nat} {row : String} {args : Array Value} {w : World} {R : Value → World → Prop} (h : Rows P row args w R) : RowsIn (Fence.wide.inRound r) n P row args w R :=
  fun c cs _ => let ⟨v, w', q, s⟩ := h c cs; ⟨v, w', q, stepsIn_wide.2 s⟩

theorem uponIn_round {P : Program} {n r : Nat} {o : Oper} {a : Act} {next next' : Act → World → Prop} {Q : Exit → Act → World → Prop} (hQ : ∀ a w, ¬ Q .outgrown a w) (hn : ∀ a w, next a w → next' a w)
    (x : Result Next) (h : o.upon P a next Q x) : o.uponIn (Fence.wide.inRound r) n P a next' Q x := by
  have hd : (Fence.wide.inRound r).depth.isSome = true → 1 ≤ n := fun hd => by simp [Fence.wide] at hd
  cases x with
  | ok y w' =>
    cases y with
    | value v => exact hn _ _ h
    | skip => exact hn _ _ h
    | defer d => exact hn _ _ h
    | enter f args =>
      have h' : Calls P f args w' _ := h
      refine ⟨hd, CallsIn.inRound r (callsIn_wide.2 (h'.mono fun e w'' hh => ?_))⟩
      cases e with
      | returned v => exact hn _ _ hh
      | panicked chain => exact hh
      | outgrown =>
        obtain ⟨a', w', q⟩ : LetsOut Q := hh
        exact (hQ _ _ q).elim
    | row row args =>
      have h' : Rows P row args w' _ := h
      exact ⟨hd, rowsIn_round (h'.mono fun v w'' hh => hn _ _ hh)⟩
    | _ => exact h.elim
  | halt z w' =>
    cases z with
    | panic v => exact h
    | _ => exact h.elim

theorem wpOpsIn_round {P : Program} {ops : Array Oper} {n r : Nat} {Q : Exit → Act → World → Prop} (hd : noDefer ops.toList = true) (hQ : ∀ a w, ¬ Q .outgrown a w) :
    ∀ (l : List Nat) (a : Act) (w : World), wpOps P ops Q l a w → wpOpsIn (Fence.wide.inRound r) n P ops Q l a w := by
  intro l
  induction l with
  | nil => exact fun a w h => h
  | cons i rest ih =>
    intro a w h
    simp only [wpOps] at h
    simp only [wpOpsIn]
    cases ho : ops[i]? with
    | none => simp only [ho] at h ⊢; exact ih _ _ h
    | some o =>
      simp only [ho] at h ⊢
      by_cases hw : Region.wanted o (yielded ops a.tmps) = true
      · rw [if_pos hw] at h ⊢
        rcases h with h | ⟨_, a', w', h⟩
        · refine ⟨fun _ _ => trivial, ?_⟩
          rw [Oper.semAt_eq _ _ _ (noDefer_spec hd (by obtain ⟨hlt, e⟩ := Array.getElem?_eq_some_iff.1 ho; rw [← e]; exact Array.getElem_mem_toList hlt))]
          exact uponIn_round hQ (fun a w h => ih a w h) _ h
        · exact (hQ _ _ h).elim
      · rw [if_neg hw] at h ⊢
        exact ⟨fun _ _ => trivial, ih _ _ h⟩
section
variable {P : Program} {n r id : Nat} {Q : Exit → Act → World → Prop} {a : Act} {w : World} {l : List Oper} {ops : Array Oper}
theorem wpIn_region_any_round (hm : P.follows .mixedOrders = true) (hd : noDefer ops.toList = true) (hQ : ∀ a w, ¬ Q .outgrown a w)
    (h : wpAny P .any ops Q ops.size (Array.replicate ops.size false) a { w with drawn := w.drawn + 1 }) : (Code.region id ops true).wpIn (Fence.wide.inRound r) n P Q a w :=
  wpIn_region_draw fun t => by
    simp only [Region.schedule, hm, Bool.true_or, if_true]
    exact wpOpsIn_round hd hQ _ _ _ (wpAny_sound ops.size t _ a _ h)

/-- reads and quiet calls alone: the walk goes on as 'go_quiet' does -/
theorem wpIn_quiet_round (hm : P.follows .mixedOrders = true) (hB : Region.lexB .any l.toArray = true) (hd : noDefer l = true) (hQ : ∀ a w, ¬ Q .outgrown a w)
    (h : wpQuiet P l.toArray (fun w' => ∃ n, w' = w.drewN n) (fun a' => ∀ w', (∃ n, w' = w.drewN n) → Q .normal a' w') l a) : (Code.region id l.toArray true).wpIn (Fence.wide.inRound r) n P Q a w := by
  simp only [Region.lexB, Bool.and_eq_true] at hB
  refine wpIn_region_any_round hm (by simpa using hd) hQ (wpAny_of_quiet (C := fun w' => ∃ n, w' = w.drewN n) (Q := fun a' => ∀ w', (∃ n, w' = w.drewN n) → Q .normal a' w') (fun _ w' hw' h => h w' hw') _ _ _ _ ⟨1, rfl⟩ ?_)
  have := wpAnyQ_lex (C := fun w' => ∃ n, w' = w.drewN n) (md := .any) hB.1 l.toArray.toList 0 (Array.replicate l.toArray.size false) a (by simp) (by simpa using hB.2) (by simpa using h)
  simpa using this

/-- reads and quiet calls, then one forced tail that writes: the walk goes on as 'go_still_tail' does -/
theorem wpIn_tail_round (n' : Nat) (hm : P.follows .mixedOrders = true) (hB : Region.lexTailB .any l.toArray n' = true) (hd : noDefer l = true) (hQ : ∀ a w, ¬ Q .outgrown a w)
    (h : wpStill P l.toArray { w with drawn := w.drawn + 1 } (fun a' => wpList P l.toArray Q (l.drop n') a' { w with drawn := w.drawn + 1 }) (l.take n') a) : (Code.region id l.toArray true).wpIn (Fence.wide.inRound r) n P Q a w := by
  simp only [Region.lexTailB, Bool.and_eq_true, decide_eq_true_eq] at hB
  obtain ⟨⟨⟨⟨hsel, hn⟩, hs⟩, hc⟩, hlex⟩ := hB
  have hn' : n' < l.length := by simpa using hn
  have htl : (l.take n').length = n' := by simp; omega
  have hdl : (l.drop n').length = l.toArray.size - n' := by simp
  have inv0 : HeadInv .any l.toArray n' (Array.replicate l.toArray.size false) :=
    ⟨by simp, fun j oj _ hl => (by rw [getD_replicate_false] at hl; cases hl), fun t _ ht => getD_in (by simpa using ht) (getD_replicate_false _ _)⟩
  have H := wpAnyL_lex (md := .any) (g := l.toArray.size - n') hsel hs hc hn (l.take n') 0 _ a (fun j hj => by
    have hj' : j < n' := by rw [htl] at hj; exact hj
    simp [hj']) (by simpa using htl) inv0 (by rw [htl]; exact hlex) h
  refine wpIn_region_any_round hm (by simpa using hd) hQ ?_
  have := wpAny_of_head (Q' := Q) (g := l.toArray.size - n') (fun listed a' hL => by
    have := wpAny_of_seq (md := .any) (Q' := Q) (l.drop n') n' listed a' { w with drawn := w.drawn + 1 } (fun j => by simp [List.getElem?_drop]) (by rw [hdl]; exact hL.1) hL.2
    rwa [hdl] at this) _ _ _ H
  rw [htl, show n' + (l.toArray.size - n') = l.toArray.size by omega] at this
  exact this
end
end Go.Proofs.YtdflihfecfmpfaaDoor
