/- A drawn region taken by hand: two operations that may come up next, a call, a value. Of whatever program. -/
import Derived.Test.YtdflihfecfmpfaaDoorClass
import Derived.Laws.Concat
namespace Go.Proofs.YtdflihfecfmpfaaDoor
open Go.RowKit Go.Shelf
section
variable {P : Program} {ops : Array Oper} {md : Region.Mode} {Q : Exit → Act → World → Prop} {S : World → Prop}
/-- what follows behind an operation -/
abbrev Behind (P : Program) (ops : Array Oper) (md : Region.Mode) (Q : Exit → Act → World → Prop) (S : World → Prop) (fuel : Nat) (listed : Array Bool) (i : Nat) : Act → World → Prop := fun a' w' => S w' ∧ wpAnyH P md ops Q S fuel (listed.setIfInBounds i true) a' w'
theorem held_one {i fuel : Nat} {listed : Array Bool} {a : Act} {w : World} (hr : Region.ready md ops listed = [i]) (h : wpOp P ops Q i (Behind P ops md Q S fuel listed i) a w) : wpAnyH P md ops Q S (fuel + 1) listed a w :=
  wpAnyH_all hr (by simp) fun j hj => by
    obtain rfl : j = i := by simpa using hj
    exact h
theorem held_two {i j fuel : Nat} {listed : Array Bool} {a : Act} {w : World} (hr : Region.ready md ops listed = [i, j]) (h : wpOp P ops Q i (Behind P ops md Q S fuel listed i) a w) (k : wpOp P ops Q j (Behind P ops md Q S fuel listed j) a w) : wpAnyH P md ops Q S (fuel + 1) listed a w :=
  wpAnyH_all hr (by simp) fun l hl => by
    rcases List.mem_cons.1 hl with rfl | hl
    · exact h
    · obtain rfl : l = j := by simpa using hl
      exact k
theorem held_take {i : Nat} {oi : Oper} {v : Value} {fuel : Nat} {listed : Array Bool} {a : Act} {w : World} (d : Option Tmp) (hi : ops[i]? = some oi)
    (hs : Region.noSelect ops = true) (hf : Region.free md ops listed i = true) (hr : (Region.ready md ops listed).contains i = true)
    (hQ : ∀ c a w, Q (.panic c) (a.put oi.dst v) w → Q (.panic c) a w) (hd : oi.dst = d) (hy : YieldsIf P ops S oi v a) (hS : S w)
    (h : wpAnyH P md ops Q S fuel (listed.setIfInBounds i true) (a.put d v) w) : wpAnyH P md ops Q S (fuel + 1) listed a w := by
  subst hd
  exact wpAnyH_take hi hs hf hr hQ hy hS h
theorem held_value (d : Option Tmp) {i fuel : Nat} {listed : Array Bool} {oi : Oper} {a : Act} {w w' : World} (hi : ops[i]? = some oi) (hw : Region.wanted oi (yielded ops a.tmps) = true) (v : Value) (hrun : (execOp a.eval oi).run P w = .ok (.value v) w') (hd : oi.dst = d) (hS : S w')
    (h : wpAnyH P md ops Q S fuel (listed.setIfInBounds i true) (a.put d v) w') : wpOp P ops Q i (Behind P ops md Q S fuel listed i) a w := by
  subst hd
  unfold wpOp
  simp only [hi, hw, if_true]
  refine .inl ?_
  unfold Oper.wp
  rw [hrun]
  exact ⟨hS, h⟩
theorem held_enter (d : Option Tmp) {i fuel : Nat} {listed : Array Bool} {oi : Oper} {a : Act} {w : World} (hi : ops[i]? = some oi) (hw : Region.wanted oi (yielded ops a.tmps) = true) (f : FuncId) (args : Array Value) (hrun : (execOp a.eval oi).run P w = .ok (.enter f args) w) (hd : oi.dst = d)
    (h : Calls P f args w fun e w' => ∃ v, e = .returned v ∧ S w' ∧ wpAnyH P md ops Q S fuel (listed.setIfInBounds i true) (a.put d v) w') : wpOp P ops Q i (Behind P ops md Q S fuel listed i) a w := by
  subst hd
  unfold wpOp
  simp only [hi, hw, if_true]
  refine .inl ?_
  unfold Oper.wp
  rw [hrun]
  refine h.mono fun e w' he => ?_
  obtain ⟨v, rfl, hS, h⟩ := he
  exact ⟨hS, h⟩
theorem exec_call2 {a : Act} {o : Oper} {W : World} (f : FuncId) (x y : Operand) (ts : Array TypeId) (ho : o.op = .call { callee := .value (.func f), args := #[x, y], argTypes := ts }) (v u : Value) (hx : a.eval x = v) (hy : a.eval y = u)
    (hf : (callFunc f #[v, u]).run P W = .ok (.enter f #[v, u]) W) : (execOp a.eval o).run P W = .ok (.enter f #[v, u]) W := by
  have he : a.eval (.func f) = .func (.func f) #[] #[] := rfl
  unfold execOp
  generalize a.eval = ev at *
  simp only [ho]
  simp [resolve, invoke, go_sem, hx, hy, he, hf]
theorem exec_addstr {a : Act} {o : Oper} {W : World} (t u : TypeId) (x y : Operand) (ho : o.op = .binOp .add t x y u) (p q : ByteArray) (hx : a.eval x = .string p) (hy : a.eval y = .string q) (hl : p.size + q.size ≤ 9223372036854775807) :
    (execOp a.eval o).run P W = .ok (.value (.string (p ++ q))) W := by
  have h1 := run_string_add_sum (P := P) W p q hl
  unfold execOp
  generalize a.eval = ev at *
  simp only [ho]
  simp [go_sem, hx, hy, h1, binOp]
end
end Go.Proofs.YtdflihfecfmpfaaDoor
