/- FieldWrites: the walk. -/
import Derived.Test.YtmlkjackopiekaaDoorFldX
import Derived.Test.YtmlkjackopiekaaDoorFldU
import Derived.Test.YtmlkjackopiekaaDoorRlpI
import Derived.Test.YtmlkjackopiekaaDoorTSame
import Derived.Test.YtmlkjackopiekaaDoorFldR
import Derived.Test.YtmlkjackopiekaaDoorFldS
namespace Go.Proofs.YtmlkjackopiekaaDoor
open Go.RowKit Go.Shelf
set_option linter.unusedVariables false
set_option linter.unusedSimpArgs false

section
variable {P : Program} {ops : Array Oper} {Q : Act → Prop} {a : Act} {o : Oper} {rest : List Oper} {W1 : World}
/-- a call in a drawn region walked over the worlds that have grown -/
theorem quiet_call (v : Value) (f : FuncId) (args : Array Value) (hw : Region.wanted o (yielded ops a.tmps) = true) (hrun : ∀ V, (execOp a.eval o).run P V = .ok (.enter f args) V)
    (hc : ∀ V, Below W1.heap.size W1 V → Calls P f args V fun e w' => e = .returned v ∧ V.grownBy w' none) (hk : wpQuiet P ops (fun V => Below W1.heap.size W1 V) Q rest (a.put o.dst v)) : wpQuiet P ops (fun V => Below W1.heap.size W1 V) Q (o :: rest) a :=
  wpQuiet_enter hw v f args (fun V _ => hrun V) (fun V hV => (hc V hV).mono fun e w' ⟨he, hgg⟩ => ⟨he, below_of_grown (grown_self (grown_of_below hV) hgg (by simp))⟩) hk
end
theorem leaf_sub {S : Nat → Prop} (V : World) : SubV S V [] (.slice none 0 0) := .mk [] none 0 [] (fun h => by cases h) (fun i h => by cases h)
theorem leaf_ok (b : ByteArray) (h : b.size ≤ 9223372036854775807) : (txt b).Ok := .mk _ _ _ h (by simp) (fun i h => by cases h)
open Classical in
theorem leafR_any (b : ByteArray) (h : b.size ≤ 9223372036854775807) (V : World) : Calls Tryd.prog 7 #[.agg #[.bool false, .string b, .slice none 0 0], .agg #[.bool false, .string b, .slice none 0 0]] V fun e w' => e = .returned (.bool true) ∧ V.grownBy w' none := by
  have := sameR_any (txt b) (leaf_ok b h) V (txt b) _ _ (leaf_ok b h) (leaf_sub V) (leaf_sub V)
  rw [decide_eq_true (rfl : txt b = txt b)] at this
  exact this
open Classical in
theorem leafP_any (b : ByteArray) (h : b.size ≤ 9223372036854775807) (V : World) : Calls Tryd.prog 28 #[.agg #[.bool false, .string b, .slice none 0 0], .agg #[.bool false, .string b, .slice none 0 0]] V fun e w' => e = .returned (.bool true) ∧ V.grownBy w' none := by
  have := same_any (txt b) (leaf_ok b h) V (txt b) _ _ (leaf_ok b h) (leaf_sub V) (leaf_sub V)
  rw [decide_eq_true (rfl : txt b = txt b)] at this
  exact this
theorem list_ok (xs : List ByteArray) (h : ∀ x ∈ xs, x.size ≤ 9223372036854775807) (hl : xs.length ≤ 9223372036854775807) : (Itm.mk true ⟨#[]⟩ (xs.map txt)).Ok := by
  refine .mk _ _ _ (by decide) (by simpa using hl) fun i hi => ?_
  have hi' : i < xs.length := by simpa using hi
  have h1 : (xs.map txt).getD i Itm.none_ = txt xs[i] := by
    rw [List.getD_eq_getElem?_getD, List.getElem?_map, List.getElem?_eq_getElem hi']; rfl
  rw [h1]
  exact leaf_ok _ (h _ (List.getElem_mem hi'))
open Classical in
/-- two lists of texts, compared by the document -/
theorem listR_any (xs : List ByteArray) (h : ∀ x ∈ xs, x.size ≤ 9223372036854775807) (hl : xs.length ≤ 9223372036854775807) (V : World) (sx sy : Value) (hx : SubW V (xs.map txt) sx) (hy : SubW V (xs.map txt) sy) :
    Calls Tryd.prog 7 #[.agg #[.bool true, .string ⟨#[]⟩, sx], .agg #[.bool true, .string ⟨#[]⟩, sy]] V fun e w' => e = .returned (.bool true) ∧ V.grownBy w' none := by
  have ho := list_ok xs h hl
  have := sameR_any (.mk true ⟨#[]⟩ (xs.map txt)) ho V (.mk true ⟨#[]⟩ (xs.map txt)) sx sy ho hx hy
  rw [decide_eq_true rfl] at this
  exact this
/-- a literal row of two texts as items -/
theorem two_sub (V : World) (p q : ByteArray) : SubW (V.alloc (.cells #[.bool false, .string p, .slice none 0 0, .bool false, .string q, .slice none 0 0] 30)) [txt p, txt q] (.slice (some ⟨V.heap.size, 0, none⟩) 2 2) := by
  have hb := Blk.new V 30 #[.bool false, .string p, .slice none 0 0, .bool false, .string q, .slice none 0 0]
  refine SubV.mk [txt p, txt q] (some ⟨V.heap.size, 0, none⟩) 2 [.slice none 0 0, .slice none 0 0] (fun _ => ⟨V.heap.size, 0, rfl, by rw [World.size_alloc]; omega, fun i hi => ?_⟩) (fun i hi => ?_)
  · match i, hi with
    | 0, _ => exact ⟨hb.cell 0, hb.cell 1, hb.cell 2⟩
    | 1, _ => exact ⟨hb.cell 3, hb.cell 4, hb.cell 5⟩
  · match i, hi with
    | 0, _ => exact leaf_sub _
    | 1, _ => exact leaf_sub _
/-- a number, made by the document -/
theorem number_thruR (n : Nat) (hn : n < 18446744073709551616) (b : ByteArray) (hb : b.data.toList = beN n) (V : World) :
    Calls Tryd.prog 9 #[.int .u64 (n : Int)] V fun e w' => e = .returned (.agg #[.bool false, .string b, .slice none 0 0]) ∧ V.grownBy w' none := by
  have := numberR6_any n hn V
  rw [← hb] at this
  exact this
theorem word_thruR (a0 a1 a2 a3 : Nat) (h0 : a0 < 18446744073709551616) (h1 : a1 < 18446744073709551616) (h2 : a2 < 18446744073709551616) (h3 : a3 < 18446744073709551616) (b : ByteArray) (hb : b.data.toList = beN (wordN a0 a1 a2 a3)) (V : World) :
    Calls Tryd.prog 11 #[.agg #[.int .u64 (a0 : Int), .int .u64 (a1 : Int), .int .u64 (a2 : Int), .int .u64 (a3 : Int)]] V fun e w' => e = .returned (.agg #[.bool false, .string b, .slice none 0 0]) ∧ V.grownBy w' none := by
  have := wordR6_any a0 a1 a2 a3 h0 h1 h2 h3 V
  rw [← hb] at this
  exact this
theorem size_list {b : ByteArray} {l : List UInt8} (h : b.data.toList = l) (k : Nat) (hl : l.length ≤ k) : b.size ≤ k := by
  have : b.data.toList.length = b.size := Array.length_toList
  rw [h] at this
  omega
theorem yesS_size (v : Bool) : (yesS v).size ≤ 1 := by cases v <;> decide
end Go.Proofs.YtmlkjackopiekaaDoor
