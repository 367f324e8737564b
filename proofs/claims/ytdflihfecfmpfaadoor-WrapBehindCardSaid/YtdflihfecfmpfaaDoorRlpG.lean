/- Check: what is thrown is caught. -/
import Derived.Test.YtdflihfecfmpfaaDoorRlpF
import Derived.Defers
namespace Go.Proofs.YtdflihfecfmpfaaDoor
open Go.RowKit Go.Shelf
set_option linter.unusedVariables false
set_option linter.unusedSimpArgs false

theorem catch_thrown (b : Nat) (x : Value) (E : Int) (W : World) (hb : Boxed W b 25 x) :
    CallsD Tryd.prog 43 #[.pointer (some ⟨b, 0, none⟩)] (.panicking (thrown E)) W fun e u' w' =>
      e = .returned (.tuple #[]) ∧ u' = .panicking [{ v := .iface 75 (.agg #[.int .i64 E]), recovered := true }] ∧ w' = (W.alloc (.cells #[.int .i64 E] 75)).setCell ⟨b, 0, none⟩ (.int .i64 E) := by
  have hb1 := hb.alloc (.cells #[.int .i64 E] 75)
  have c0 := hb1.cell; have f0 := hb1.frozen
  have c1 := (Boxed.new W 75 (.int .i64 E)).cell
  have ha : ∀ (v : Value) (V : World), (Instr.typeAssert (.iface 75 v) 20 75 true).run Tryd.prog V = .ok (.tuple #[v, .bool true]) V := fun _ _ => by kernel_rfl
  refine callsD_of_wpS Tryd.func43 rfl fun c₀ cs hu => ?_
  simp only [Tryd.ntmps43, List.size_toArray, List.length_cons, List.length_nil, Nat.reduceAdd, Nat.reduceSub, Array.replicate_succ, Array.replicate_zero, List.push_toArray, List.append_toArray, List.nil_append, List.cons_append]
  apply wpS_seq
  apply wpS_region
  simp [wpOpsS, go_sem, recoverD, hu, Exit.thenS, thrown, ha]
  apply wpS_seq
  apply wpS_region
  simp [wpOpsS, go_sem, Exit.thenS]
  refine wpS_cond (t := true) (by simp [Act.eval]) ?_
  simp only [if_true]
  apply wpS_region
  generalize W.alloc (.cells #[.int .i64 E] 75) = W1 at *
  simp [wpOpsS, go_sem, c0, f0, c1, bodyPostS, results, Tryd.results43]

theorem catch_idle (b : Nat) (W : World) :
    CallsD Tryd.prog 43 #[.pointer (some ⟨b, 0, none⟩)] .returning W fun e u' w' =>
      e = .returned (.tuple #[]) ∧ u' = .returning ∧ w' = W.alloc (.cells #[.int .i64 0] 75) := by
  have ha : ∀ (V : World), (Instr.typeAssert .nilIface 20 75 true).run Tryd.prog V = .ok (.tuple #[.agg #[.int .i64 0], .bool false]) V := fun _ => by kernel_rfl
  refine callsD_of_wpS Tryd.func43 rfl fun c₀ cs hu => ?_
  simp only [Tryd.ntmps43, List.size_toArray, List.length_cons, List.length_nil, Nat.reduceAdd, Nat.reduceSub, Array.replicate_succ, Array.replicate_zero, List.push_toArray, List.append_toArray, List.nil_append, List.cons_append]
  apply wpS_seq
  apply wpS_region
  simp [wpOpsS, go_sem, recoverD, hu, Exit.thenS, ha]
  apply wpS_seq
  apply wpS_region
  simp [wpOpsS, go_sem, Exit.thenS]
  refine wpS_cond (t := false) (by simp [Act.eval]) ?_
  simp only [Bool.false_eq_true, if_false]
  refine wpS_of_wp (wp_skip ?_)
  cases c₀
  simp_all [bodyPostS, results, Tryd.results43]

theorem leave_thrown {R : Ending → World → Prop} {tmps : Array Value} {b : Nat} {x : Value} {E : Int} {W : World} (htm : tmps.getD 2 undef = .pointer (some ⟨b, 0, none⟩)) (hb : Boxed W b 25 x)
    (hR : R (.returned (.int .i64 E)) ((W.alloc (.cells #[.int .i64 E] 75)).setCell ⟨b, 0, none⟩ (.int .i64 E))) :
    Leaves Tryd.prog Tryd.f31 tmps R [{ target := .fn (.func 43) #[.pointer (some ⟨b, 0, none⟩)], args := #[] }] (.panicking (thrown E)) W := by
  refine leaves_cons (f := 43) (args := #[.pointer (some ⟨b, 0, none⟩)]) (by simp) (by simp [go_sem]) ?_
  refine (catch_thrown b x E W hb).mono ?_
  rintro e u' w'' ⟨rfl, rfl, rfl⟩
  have hb1 := (hb.alloc (.cells #[.int .i64 E] 75)).set (.int .i64 E)
  exact ⟨_, results_cell1 (fn := Tryd.f31) rfl _ _ _ _ htm (load_cell Tryd.underlying25 rfl hb1.cell), hR⟩
theorem leave_fine {R : Ending → World → Prop} {tmps : Array Value} {b : Nat} {E : Int} {W : World} (htm : tmps.getD 2 undef = .pointer (some ⟨b, 0, none⟩)) (hb : Boxed W b 25 (.int .i64 E))
    (hR : R (.returned (.int .i64 E)) (W.alloc (.cells #[.int .i64 0] 75))) :
    Leaves Tryd.prog Tryd.f31 tmps R [{ target := .fn (.func 43) #[.pointer (some ⟨b, 0, none⟩)], args := #[] }] .returning W := by
  refine leaves_cons (f := 43) (args := #[.pointer (some ⟨b, 0, none⟩)]) (by simp) (by simp [go_sem]) ?_
  refine (catch_idle b W).mono ?_
  rintro e u' w'' ⟨rfl, rfl, rfl⟩
  exact ⟨_, results_cell1 (fn := Tryd.f31) rfl _ _ _ _ htm (load_cell Tryd.underlying25 rfl (hb.alloc _).cell), hR⟩

/-- what is wrong with an item -/
def checkI (x : Itm) : Int := if formF x 0 ≠ 0 then formF x 0 else if 65536 < (bytesF x).length then 5 else 0

set_option maxRecDepth 100000 in
set_option maxHeartbeats 2000000 in
theorem checkP_any (x : Itm) (W : World) (sx : Value) (hsx : SubW W x.items sx) (hwt : wtF x ≤ 1000000000) :
    Calls Tryd.prog 31 #[.agg #[.bool x.list, .string x.bytes, sx]] W fun e W' => e = .returned (.int .i64 (checkI x)) ∧ W.grownBy W' none := by
  obtain ⟨A, c, rfl⟩ := hsx.slice
  have hmf : ∀ (fn : Fn) (first cap : Array Value) (w : World), (Instr.makeFunc fn first cap).run Tryd.prog w = .ok (.func fn first cap) w := fun _ _ _ _ => rfl
  have hx0 := (Blk.new W 51 #[.bool x.list, .string x.bytes, .slice A x.items.length c]).alloc (.cells #[.int .i64 0] 25)
  have hr0 := Boxed.new (W.alloc (.cells #[.bool x.list, .string x.bytes, .slice A x.items.length c] 51)) 25 (.int .i64 0)
  rw [World.size_alloc] at hr0
  have hG1 := only_alloc (only_alloc (World.grownBy.refl W none) (.cells #[.bool x.list, .string x.bytes, .slice A x.items.length c] 51)) (.cells #[.int .i64 0] 25)
  have hS1 := hsx.grown hG1
  go_enter_defers Tryd.func31, Tryd.ntmps31
  go_upto_region 2 with (fail)
  have HNY := Lib.hid (fun E V => need_yes E V)
  have HNN := Lib.hid (fun E V => need_no E V)
  obtain ⟨b, hb⟩ : ∃ b, W.heap.size = b := ⟨_, rfl⟩
  rw [hb] at hx0 hr0 ⊢
  have hbg : W.heap.size ≤ b + 1 := by omega
  generalize (W.alloc (.cells #[.bool x.list, .string x.bytes, .slice A x.items.length c] 51)).alloc (.cells #[.int .i64 0] 25) = W1 at *
  have c0 := hx0.cell 0; have c1 := hx0.cell 1; have c2 := hx0.cell 2
  simp only [List.getElem?_toArray, List.getElem?_cons_zero, List.getElem?_cons_succ] at c0 c1 c2
  have hlk := lookP_any x W1 0 _ hS1 hwt (by omega)
  have HL := Lib.hid hlk
  clear hlk hsx hb hmf
  go_wp2_with fail
  refine HL.out.mono ?_
  rintro e w2 ⟨rfl, hg2⟩
  have hG2 := grown_self hG1 hg2 (by simp)
  have hr2 := hr0.kept hg2 (by simp)
  by_cases hE : formF x 0 = 0
  · rw [hE, show lookEnd 0 = Ending.returned (.tuple #[]) from rfl]
    have hx2 := hx0.grown hg2 (by simp)
    have hS2 := hS1.grown hg2
    have c0 := hx2.cell 0; have c1 := hx2.cell 1; have c2 := hx2.cell 2
    simp only [List.getElem?_toArray, List.getElem?_cons_zero, List.getElem?_cons_succ] at c0 c1 c2
    have HS := Lib.hid (size_any x _ _ hS2 hwt)
    have hcF : checkI x = if 65536 < (bytesF x).length then 5 else 0 := by unfold checkI; rw [if_neg (by simpa using hE)]
    have HCF := Lib.hid hcF
    generalize hl : (bytesF x).length = l at *
    clear hcF hE hg2 hS2 hx2 hG1 hr0 hS1 hx0 HL
    go_wp2_with fail
    refine HS.out.mono ?_
    rintro e w3 ⟨rfl, hg3⟩
    have hG3 := grown_self hG2 hg3 (by simp)
    have hr3 := hr2.kept hg3 (by simp)
    by_cases h5 : 65536 < l
    · have e1 : decide ((l : Int) ≤ 65536) = false := decide_eq_false (by omega)
      have HC5 : Hid (checkI x = 5) := Lib.hid (by rw [HCF.out, if_pos h5])
      clear h5 hg3
      go_wp2_with fail
      refine (HNN.out _ _).mono ?_
      rintro e w4 ⟨rfl, rfl⟩
      refine leave_thrown rfl hr3 ⟨by rw [HC5.out], ?_⟩
      exact only_set (only_alloc hG3 _) (p := ⟨b + 1, 0, none⟩) hbg _
    · have e1 : (l : Int) ≤ 65536 := by omega
      have HC5 : Hid (checkI x = 0) := Lib.hid (by rw [HCF.out, if_neg h5])
      clear h5 hg3
      go_wp2_with fail
      refine (HNY.out _ _).mono ?_
      rintro e w4 ⟨rfl, rfl⟩
      have r0 := hr3.cell; have r1 := hr3.frozen
      go_wp2_with fail
      refine leave_fine rfl (hr3.set (.int .i64 0)) ⟨by rw [HC5.out], ?_⟩
      exact only_alloc (only_set hG3 (p := ⟨b + 1, 0, none⟩) hbg _) _
  · rw [show lookEnd (formF x 0) = .panicked (thrown (formF x 0)) from if_neg hE]
    have hcF : checkI x = formF x 0 := if_pos hE
    refine leave_thrown rfl hr2 ⟨by rw [hcF], ?_⟩
    exact only_set (only_alloc hG2 _) (p := ⟨b + 1, 0, none⟩) hbg _
end Go.Proofs.YtdflihfecfmpfaaDoor
