/- The iterator of places: a yield, and then a call that reads, in turns. -/
import Derived.Test.YthbeigcbmalldaaDoorUnrC
import Derived.Test.YthbeigcbmalldaaDoorBoxLoop
namespace Go.Proofs.YthbeigcbmalldaaDoor
open Go.RowKit Go.Shelf
attribute [local go_sem] Oper.semAt_some

/-- what the iterator finds in its boxes -/
structure PlBoxes (pf pe pr rf : Nat) (caps : Array Value) (en p : Int) (W : World) : Prop where
  from_ : Boxed W pf 3 (.int .i64 p)
  end_ : Boxed W pe 3 (.int .i64 en)
  read_ : Boxed W pr 74 (.func (.func rf) #[] caps)

set_option maxRecDepth 100000 in
set_option maxHeartbeats 1000000 in
theorem places_in (n : Nat) (hn : 1 ≤ n) (l pf pe pr rf : Nat) (caps : Array Value) (en p0 : Int) (M : Nat) (hM : M ≤ 1000000) (J J2 : Nat → Int → World → Prop) (Jx : World → Prop)
    (hJ : ∀ i p W, J i p W → PlBoxes pf pe pr rf caps en p W ∧ i ≤ M) (hJ2 : ∀ i p W, J2 i p W → PlBoxes pf pe pr rf caps en p W ∧ i < M)
    (hent : ∀ args W, (callFunc rf args).run Tryd.prog W = .ok (.enter rf args) W)
    (hY : ∀ i p W, J i p W → p < en → YieldAt Fence.wide (n - 1) Tryd.prog l #[.int .i64 (i : Int), .int .i64 p] W fun e W' => (e = .returned (.bool true) ∧ J2 i p W') ∨ (e = .returned (.bool false) ∧ Jx W'))
    (hR : ∀ i p W, J2 i p W → CallsIn Fence.wide (n - 1) Tryd.prog rf (#[.int .i64 p] ++ caps) W fun e W' => ∃ p', e = .returned (.int .i64 p') ∧ Boxed W' pf 3 (.int .i64 p) ∧ J (i + 1) p' (W'.setCell ⟨pf, 0, none⟩ (.int .i64 p')))
    (W : World) (h0 : J 0 p0 W) :
    CallsIn Fence.wide n Tryd.prog 38 #[.func (.yield l) #[] #[], .pointer (some ⟨pf, 0, none⟩), .pointer (some ⟨pe, 0, none⟩), .pointer (some ⟨pr, 0, none⟩)] W fun e W' => (∃ v, e = .returned v) ∧
      ((∃ i p, ¬ p < en ∧ J i p W') ∨ Jx W') := by
  refine callsIn_of_wp Tryd.func38 rfl trivial ?_ rfl
  simp only [Tryd.ntmps38, List.size_toArray, List.length_cons, List.length_nil, Nat.reduceAdd, Nat.reduceSub, Array.replicate_succ, Array.replicate_zero, List.push_toArray, List.append_toArray, List.nil_append, List.cons_append]
  gi_wp2
  gi_loopw [5] (fun i wr => ∃ (k : Nat) (p : Int), i = .int .i64 (k : Int) ∧ J k p wr) (fun i _ => M + 1 - (intOf i).toNat)
  case atStart => exact ⟨0, p0, rfl, h0⟩
  case round =>
    obtain ⟨k, p, rfl, hJk⟩ := hrel
    obtain ⟨⟨b1, b2, b3⟩, hkM⟩ := hJ k p wr hJk
    have c1 := b1.cell; have c2 := b2.cell; have c3 := b3.cell
    by_cases hlt : p < en
    · obtain ⟨fn, tmps, assign, body, hy, hRr⟩ := hY k p wr hJk hlt
      clear b1 b2 b3
      gi_wp2
      refine hRr.mono ?_
      rintro e' W3 (⟨rfl, hJ3⟩ | ⟨rfl, hJx3⟩)
      · obtain ⟨⟨b1, b2, b3⟩, hkM3⟩ := hJ2 k p W3 hJ3
        have hread := hR k p W3 hJ3
        clear c1 c2 c3 hy hRr
        have c1 := b1.cell; have c3 := b3.cell
        gi_wp2
        refine ⟨trivial, hread.mono ?_⟩
        rintro e w4 ⟨p', rfl, bx, hJ4⟩
        clear c1 c3 b1 b2 b3 hread
        have c1 := bx.cell; have f1 := bx.frozen
        gi_wp2
        exact ⟨⟨k + 1, p', by simp, hJ4⟩, by simp [intOf]; omega⟩
      · clear hy hRr c1 c2 c3
        gi_wp2
        refine bodyPost_ret (results_none rfl _ _ _) rfl ?_
        exact ⟨⟨_, rfl⟩, .inr hJx3⟩
    · have d1 : decide (p < en) = false := decide_eq_false hlt
      have hl := Lib.hid hlt
      clear hlt b1 b2 b3
      gi_wp2
      go_end0
      exact ⟨⟨_, rfl⟩, .inl ⟨k, p, hl.out, hJk⟩⟩
end Go.Proofs.YthbeigcbmalldaaDoor
