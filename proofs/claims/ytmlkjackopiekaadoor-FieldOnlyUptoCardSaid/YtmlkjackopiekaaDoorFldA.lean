/- A number, a word, bytes as an item; an item's number. -/
import Derived.Test.YtmlkjackopiekaaDoorWEq
import Derived.Test.YtmlkjackopiekaaDoorTree
import Derived.Test.YtmlkjackopiekaaDoorOne
namespace Go.Proofs.YtmlkjackopiekaaDoor
open Go.RowKit Go.Shelf
set_option linter.unusedVariables false
set_option linter.unusedSimpArgs false

theorem load_itemF {w : World} {g : Nat} {a b c : Value} (hg : Blk w g 30 #[a, b, c]) : (loadVar 30 ⟨g, 0, none⟩).run Tryd.prog w = .ok (.agg #[a, b, c]) w :=
  run_loadVar_row w g 30 30 _ (0, 0) _ hg Tryd.underlying30 rfl (by kernel_rfl)

set_option maxRecDepth 100000 in
theorem text_any (s : ByteArray) (w : World) :
    Calls Tryd.prog 12 #[.string s] w fun e w' => e = .returned (.agg #[.bool false, .string s, .slice none 0 0]) ∧ w.grownBy w' none := by
  have hB := Blk.new w 30 #[.bool false, .string s, .slice none 0 0]
  have hG := only_alloc (World.grownBy.refl w none) (.cells #[.bool false, .string s, .slice none 0 0] 30)
  go_enter Tryd.func12, Tryd.ntmps12
  go_wp2_with fail
  refine bodyPost_ret (results_cell1 (fn := Tryd.f12) rfl _ _ _ _ rfl (load_itemF hB)) rfl ?_
  exact ⟨rfl, hG⟩

set_option maxRecDepth 100000 in
theorem within_any (n a b : Int) (w : World) :
    Calls Tryd.prog 41 #[.int .i64 n, .int .i64 a, .int .i64 b] w fun e w' => e = .returned (.int .i64 (if n < a then 3 else if b < n then 5 else 0)) ∧ w' = w := by
  by_cases h1 : n < a
  · rw [if_pos h1]
    go_enter Tryd.func41, Tryd.ntmps41
    go_wp2_with fail
    go_ret
    exact ⟨rfl, rfl⟩
  · rw [if_neg h1]
    have d1 : decide (n < a) = false := decide_eq_false h1
    by_cases h2 : b < n
    · rw [if_pos h2]
      clear h1
      go_enter Tryd.func41, Tryd.ntmps41
      go_wp2_with fail
      go_ret
      exact ⟨rfl, rfl⟩
    · rw [if_neg h2]
      have d2 : decide (b < n) = false := decide_eq_false h2
      clear h1 h2
      go_enter Tryd.func41, Tryd.ntmps41
      go_wp2_with fail
      go_ret
      exact ⟨rfl, rfl⟩

/-- an item's number -/
def numE (l : Bool) (s : ByteArray) : Int := if l then 2 else unbeE s.data.toList
def numV (l : Bool) (s : ByteArray) : Nat := if numE l s = 0 then unbeN s.data.toList else 0

set_option maxRecDepth 100000 in
set_option maxHeartbeats 1000000 in
theorem ofNumber_any (l : Bool) (s : ByteArray) (sv : Value) (hs : s.size ≤ 9223372036854775807) (w : World) :
    Calls Tryd.prog 35 #[.agg #[.bool l, .string s, sv], .func (Fn.func 36) #[] #[]] w fun e w' => e = .returned (.tuple #[.int .u64 (numV l s : Nat), .int .i64 (numE l s)]) ∧ w.grownBy w' none := by
  have hB := Blk.new w 30 #[.bool l, .string s, sv]
  have hG := only_alloc (World.grownBy.refl w none) (.cells #[.bool l, .string s, sv] 30)
  have hU := fun V => unbe_any s hs V
  cases l with
  | true =>
    have HG := Lib.hid hG
    rw [show numV true s = 0 from if_neg (by show ¬ (2 : Int) = 0; decide), show numE true s = 2 from rfl]
    clear hU hG
    go_enter Tryd.func35, Tryd.ntmps35
    go_upto_region 1 with (fail)
    obtain ⟨b, hb⟩ : ∃ b, w.heap.size = b := ⟨_, rfl⟩
    rw [hb] at hB ⊢
    generalize w.alloc (.cells #[.bool true, .string s, sv] 30) = W1 at *
    have c0 := hB.cell 0
    simp only [List.getElem?_toArray, List.getElem?_cons_zero, List.getElem?_cons_succ] at c0
    go_wp2_with fail
    go_ret2
    exact ⟨rfl, HG.out⟩
  | false =>
    obtain ⟨E, hE⟩ : ∃ E, unbeE s.data.toList = E := ⟨_, rfl⟩
    obtain ⟨n, hn⟩ : ∃ n, unbeN s.data.toList = n := ⟨_, rfl⟩
    have e1 : numE false s = E := hE
    have e2 : numV false s = if E = 0 then n else 0 := by unfold numV; rw [e1, hn]
    obtain ⟨m, hm⟩ : ∃ m, (if E = 0 then n else 0) = m := ⟨_, rfl⟩
    rw [e1, e2, hm]
    rw [hE, hn] at hU
    have HU := Lib.hid hU; have HG := Lib.hid hG; have HM := Lib.hid hm
    clear hU hG e1 e2 hE hn hm
    go_enter Tryd.func35, Tryd.ntmps35
    go_upto_region 1 with (fail)
    obtain ⟨b, hb⟩ : ∃ b, w.heap.size = b := ⟨_, rfl⟩
    rw [hb] at hB ⊢
    generalize w.alloc (.cells #[.bool false, .string s, sv] 30) = W1 at *
    have c0 := hB.cell 0; have c1 := hB.cell 1
    simp only [List.getElem?_toArray, List.getElem?_cons_zero, List.getElem?_cons_succ] at c0 c1
    go_wp2_with fail
    refine (HU.out _).mono ?_
    rintro e w3 ⟨rfl, hg3⟩
    have HG3 := Lib.hid (grown_self HG.out hg3 (by simp))
    clear hg3 c0 c1 hB
    by_cases h0 : E = 0
    · subst h0
      obtain rfl : n = m := HM.out
      clear HM
      go_wp2_with fail
      go_ret2
      exact ⟨rfl, HG3.out⟩
    · have g1 : (E != 0) = true := by simpa using h0
      obtain rfl : 0 = m := by have := HM.out; rwa [if_neg h0] at this
      clear HM
      go_wp2_with fail
      go_ret2
      exact ⟨rfl, HG3.out⟩

set_option maxRecDepth 100000 in
set_option maxHeartbeats 1000000 in
theorem getNumber_any (l : Bool) (s : ByteArray) (sv : Value) (hs : s.size ≤ 9223372036854775807) (w : World) :
    Calls Tryd.prog 20 #[.agg #[.bool l, .string s, sv]] w fun e w' => e = .returned (.tuple #[.int .u64 (numV l s : Nat), .int .i64 (numE l s)]) ∧ w.grownBy w' none := by
  have hB := Blk.new w 30 #[.bool l, .string s, sv]
  have HG := Lib.hid (only_alloc (World.grownBy.refl w none) (.cells #[.bool l, .string s, sv] 30))
  have HO := Lib.hid (fun V => ofNumber_any l s sv hs V)
  generalize numV l s = n at *
  generalize numE l s = E at *
  go_enter Tryd.func20, Tryd.ntmps20
  go_wp2_with fail
  refine (HO.out _).mono ?_
  rintro e w3 ⟨rfl, hg3⟩
  have HG3 := Lib.hid (grown_self HG.out hg3 (by simp))
  clear hg3
  go_wp2_with fail
  go_ret2
  exact ⟨rfl, HG3.out⟩

set_option maxRecDepth 100000 in
set_option maxHeartbeats 1000000 in
theorem number_any (n : Nat) (hn : n < 18446744073709551616) (w : World) :
    Calls Tryd.prog 8 #[.int .u64 (n : Int)] w fun e w' => e = .returned (.agg #[.bool false, .string ⟨(beN n).toArray⟩, .slice none 0 0]) ∧ w.grownBy w' none := by
  have hB := Blk.new w 30 #[.bool false, .string ⟨#[]⟩, .slice none 0 0]
  have HG := Lib.hid (only_alloc (World.grownBy.refl w none) (.cells #[.bool false, .string ⟨#[]⟩, .slice none 0 0] 30))
  have hbe := fun V => be_any n hn V
  obtain ⟨t, ht⟩ : ∃ t : ByteArray, (⟨(beN n).toArray⟩ : ByteArray) = t := ⟨_, rfl⟩
  rw [ht] at hbe ⊢
  have HBe := Lib.hid hbe
  clear hbe ht
  go_enter Tryd.func8, Tryd.ntmps8
  go_upto_region 1 with (fail)
  obtain ⟨b, hb⟩ : ∃ b, w.heap.size = b := ⟨_, rfl⟩
  have HW := Lib.hid hb
  rw [hb] at hB ⊢
  clear hb
  generalize w.alloc (.cells #[.bool false, .string ⟨#[]⟩, .slice none 0 0] 30) = W1 at *
  go_wp2_with fail
  refine (HBe.out _).mono ?_
  rintro e w3 ⟨rfl, hg3⟩
  have hB := hB.grown hg3 (by simp)
  have HG3 := Lib.hid (grown_self HG.out hg3 (by simp))
  clear hg3
  go_wp2_with fail
  refine (text_any t _).mono ?_
  rintro e w4 ⟨rfl, hg4⟩
  have hB := hB.grown hg4 (by simp)
  have hG4 := grown_self HG3.out hg4 (by simp)
  have hle : w.heap.size ≤ b := by have := HW.out; omega
  have HG5 := Lib.hid (only_set (only_set (only_set hG4 (p := ⟨b, 0, none⟩) hle (.bool false)) (p := ⟨b, 1, none⟩) hle (.string t)) (p := ⟨b, 2, none⟩) hle (.slice none 0 0))
  have HB5 := Lib.hid (((hB.set_ 0 (.bool false)).set_ 1 (.string t)).set_ 2 (.slice none 0 0))
  have c0 := hB.cell 0; have c1 := hB.cell 1; have c2 := hB.cell 2
  have d0 := hB.frozen 0; have d1 := hB.frozen 1; have d2 := hB.frozen 2
  simp only [List.getElem?_toArray, List.getElem?_cons_zero, List.getElem?_cons_succ] at c0 c1 c2
  clear hg4 hG4 hB hle
  go_wp2_with fail
  refine bodyPost_ret (results_cell1 (fn := Tryd.f8) rfl _ _ _ _ rfl (load_itemF HB5.out)) rfl ?_
  exact ⟨rfl, HG5.out⟩
end Go.Proofs.YtmlkjackopiekaaDoor
