/- Two items compared: the document's. -/
import Derived.Test.YtmlkjackopiekaaDoorRlpB
import Derived.Test.YtmlkjackopiekaaDoorRlpI0
import Derived.Test.YtmlkjackopiekaaDoorTSame
import Derived.Test.YtmlkjackopiekaaDoorClass
import Derived.Test.YtmlkjackopiekaaDoorPerm
namespace Go.Proofs.YtmlkjackopiekaaDoor
open Go.RowKit Go.Shelf
set_option linter.unusedVariables false
set_option linter.unusedSimpArgs false

theorem exec_load3' {W : World} {a : Act} {o : Oper} {b off : Nat} {x0 x1 x2 : Value} (x : Operand) (ho : o.op = .load 30 x) (hx : a.eval x = .pointer (some ⟨b, off, none⟩))
    (c0 : W.cell? ⟨b, off, none⟩ = some x0) (c1 : W.cell? ⟨b, off + 1, none⟩ = some x1) (c2 : W.cell? ⟨b, off + 2, none⟩ = some x2) :
    (execOp a.eval o).run Tryd.prog W = .ok (.value (.agg #[x0, x1, x2])) W := by
  have hagg := Tryd.isAgg30
  have hsz := Tryd.sizeOf30
  unfold execOp
  simp only [ho, hx]
  simp [go_sem, c0, c1, c2, hagg, hsz]
section
variable {P : Program} {ops : Array Oper} {C : World → Prop} {Q : Act → Prop} {a : Act} {o : Oper} {rest : List Oper}
theorem wpQuiet_load1' (v : Value) (ty : TypeId) (x : Operand) (p : Addr) (d : TypeDesc) (ho : o.op = .load ty x) (hw : Region.wanted o (yielded ops a.tmps) = true) (hx : a.eval x = .pointer (some p))
    (hu : P.underlying ty = some d) (hd : (match d with | .struct _ | .array _ _ => true | _ => false) = false) (hc : ∀ W, C W → W.cell? p = some v) (hk : wpQuiet P ops C Q rest (a.put o.dst v)) : wpQuiet P ops C Q (o :: rest) a :=
  wpQuiet_value hw v (fun W hW => by
    unfold execOp
    simp only [ho, hx, Instr.loadAt, Instr.sureAddr, Sem.run_bind, Sem.run_pure, Result.andThen_ok, load_cell hu hd (hc W hW)]) hk
end

noncomputable section
open Classical

def SameRC (x : Itm) : Prop := ∀ (W : World) (y : Itm) (sx sy : Value), y.Ok → SubW W x.items sx → SubW W y.items sy →
  Calls Tryd.prog 7 #[.agg #[.bool x.list, .string x.bytes, sx], .agg #[.bool y.list, .string y.bytes, sy]] W fun e W' => e = .returned (.bool (decide (x = y))) ∧ W.grownBy W' none

set_option maxRecDepth 100000 in
set_option maxHeartbeats 2000000 in
theorem sameR_diff (x y : Itm) (W : World) (A A' : Option Addr) (c c' : Nat) (h : x.list ≠ y.list ∨ x.bytes ≠ y.bytes ∨ x.items.length ≠ y.items.length) :
    Calls Tryd.prog 7 #[.agg #[.bool x.list, .string x.bytes, .slice A x.items.length c], .agg #[.bool y.list, .string y.bytes, .slice A' y.items.length c']] W fun e W' => e = .returned (.bool (decide (x = y))) ∧ W.grownBy W' none := by
  have hne : decide (x = y) = false := decide_eq_false (by rintro rfl; rcases h with h | h | h <;> exact h rfl)
  rw [hne]
  have HG := Lib.hid (only_alloc (only_alloc (World.grownBy.refl W none) (.cells #[.bool x.list, .string x.bytes, .slice A x.items.length c] 30)) (.cells #[.bool y.list, .string y.bytes, .slice A' y.items.length c'] 30))
  clear hne
  by_cases h1 : x.list = y.list
  · rw [← h1] at HG ⊢
    by_cases h2 : x.bytes = y.bytes
    · rw [← h2] at HG ⊢
      have g3 : ((x.items.length : Int) == (y.items.length : Int)) = false := by
        rcases h with h | h | h
        · exact absurd h1 h
        · exact absurd h2 h
        · rw [beq_eq_false_iff_ne]; omega
      have g4 : ((x.items.length : Int) != (y.items.length : Int)) = true := by rw [bne, g3]; rfl
      generalize x.list = l1 at *
      generalize x.bytes = b1 at *
      generalize x.items.length = n1 at *
      generalize y.items.length = n2 at *
      clear h h1 h2
      go_enter Tryd.func7, Tryd.ntmps7
      go_wp2_with fail
      go_ret
      exact ⟨rfl, HG.out⟩
    · have g2 := str_ne h2
      generalize x.list = l1 at *
      generalize x.bytes = b1 at *
      generalize y.bytes = b2 at *
      generalize x.items.length = n1 at *
      generalize y.items.length = n2 at *
      clear h h1 h2
      go_enter Tryd.func7, Tryd.ntmps7
      go_wp2_with fail
      go_ret
      exact ⟨rfl, HG.out⟩
  · have g1 : (x.list == y.list) = false := by rw [beq_eq_false_iff_ne]; exact h1
    generalize x.list = l1 at *
    generalize y.list = l2 at *
    generalize x.bytes = b1 at *
    generalize y.bytes = b2 at *
    generalize x.items.length = n1 at *
    generalize y.items.length = n2 at *
    clear h h1
    go_enter Tryd.func7, Tryd.ntmps7
    go_wp2_with fail
    go_ret
    exact ⟨rfl, HG.out⟩

set_option maxRecDepth 100000 in
set_option maxHeartbeats 4000000 in
theorem sameR_step (x : Itm) (ho : x.Ok) (hC : ∀ i, i < x.items.length → SameRC (x.items.getD i Itm.none_)) : SameRC x := by
  intro W y sx sy hyo hx hy
  obtain ⟨A, c, rfl⟩ := hx.slice
  obtain ⟨A', c', rfl⟩ := hy.slice
  by_cases hd : x.list ≠ y.list ∨ x.bytes ≠ y.bytes ∨ x.items.length ≠ y.items.length
  · exact sameR_diff x y W A A' c c' hd
  have h1 : x.list = y.list := Classical.byContradiction fun h => hd (.inl h)
  have h2 : x.bytes = y.bytes := Classical.byContradiction fun h => hd (.inr (.inl h))
  have h3 : x.items.length = y.items.length := Classical.byContradiction fun h => hd (.inr (.inr h))
  have hde : decide (x = y) = decide (x.items = y.items) := by
    by_cases h : x.items = y.items
    · rw [decide_eq_true h, decide_eq_true (Itm.ext_ h1 h2 h)]
    · rw [decide_eq_false h, decide_eq_false (by rintro rfl; exact h rfl)]
  rw [hde]
  clear hde hd
  obtain ⟨xs, hxs⟩ : ∃ xs, x.items = xs := ⟨_, rfl⟩
  obtain ⟨ys, hys⟩ : ∃ ys, y.items = ys := ⟨_, rfl⟩
  obtain ⟨n, hnn⟩ : ∃ n, xs.length = n := ⟨_, rfl⟩
  have hog := hyo.get
  have hok := ho.items
  rw [hxs] at hx hC h3 hok ⊢
  rw [hys] at hy h3 hog ⊢
  have hnm : ys.length = n := by rw [← h3, hnn]
  rw [hnn] at hx hok ⊢
  rw [hnm] at hy ⊢
  rw [← h1, ← h2]
  have hG1 := only_alloc (only_alloc (World.grownBy.refl W none) (.cells #[.bool x.list, .string x.bytes, .slice A n c] 30)) (.cells #[.bool x.list, .string x.bytes, .slice A' n c'] 30)
  have hx0 := (Blk.new W 30 #[.bool x.list, .string x.bytes, .slice A n c]).alloc (.cells #[.bool x.list, .string x.bytes, .slice A' n c'] 30)
  have hy0 := Blk.new (W.alloc (.cells #[.bool x.list, .string x.bytes, .slice A n c] 30)) 30 #[.bool x.list, .string x.bytes, .slice A' n c']
  rw [World.size_alloc] at hy0
  have hS1 := hx.grown hG1
  have hT1 := hy.grown hG1
  have HL := Lib.hid hnn; have HL' := Lib.hid hnm
  have HC := Lib.hid hC; have HO := Lib.hid hog
  have e1 : (x.bytes.toList != x.bytes.toList) = false := by simp
  generalize x.bytes = t at *
  generalize x.list = lst at *
  clear hx hy hC hog hnn hnm h3 hxs hys hyo ho h1 h2
  go_enter Tryd.func7, Tryd.ntmps7
  go_upto_region 1 with (fail)
  obtain ⟨b0, hb0⟩ : ∃ b0, W.heap.size = b0 := ⟨_, rfl⟩
  rw [hb0] at hx0 hy0 ⊢
  generalize (W.alloc (.cells #[.bool lst, .string t, .slice A n c] 30)).alloc (.cells #[.bool lst, .string t, .slice A' n c'] 30) = W1 at *
  have c0 := hx0.cell 0; have c1 := hx0.cell 1; have c2 := hx0.cell 2
  have d0 := hy0.cell 0; have d1 := hy0.cell 1; have d2 := hy0.cell 2
  simp only [List.getElem?_toArray, List.getElem?_cons_zero, List.getElem?_cons_succ] at c0 c1 c2 d0 d1 d2
  go_wp2_with fail
  clear c0 c1 c2 d0 d1 d2
  go_loopw [5] (fun i wr => ∃ k : Nat, i = .int .i64 k ∧ k ≤ n ∧ W1.grownBy wr none ∧ Hid (∀ i : Nat, i < k → xs.getD i Itm.none_ = ys.getD i Itm.none_)) (fun i _ => n - (intOf i).toNat)
  case atStart => exact ⟨0, rfl, by omega, World.grownBy.refl _ _, by intro i h1; omega⟩
  case round =>
    obtain ⟨k, rfl, hk, hg, hI⟩ := hrel
    have HI := Lib.hid hI.out
    have hx1 := hx0.grown hg (by simp)
    have hy1 := hy0.grown hg (by simp)
    have c2 := hx1.cell 2
    simp only [List.getElem?_toArray, List.getElem?_cons_zero, List.getElem?_cons_succ] at c2
    by_cases hlt : k < n
    · have hSX := hS1.grown hg
      have hSY := hT1.grown hg
      obtain ⟨he, vs, hvs, hr⟩ := hSX.row
      obtain ⟨he', us, hus, hr'⟩ := hSY.row
      rw [HL.out] at hvs hr
      rw [HL'.out] at hus hr'
      obtain ⟨g, off, rfl, hgB, hc⟩ := hr (by omega)
      obtain ⟨g', off', rfl, hgB', hc'⟩ := hr' (by omega)
      obtain ⟨k0, k1, k2⟩ := hc k hlt
      obtain ⟨l0, l1, l2⟩ := hc' k hlt
      have hsv := hvs k hlt
      have huv := hus k hlt
      have hkx : k < xs.length := by have := HL.out; omega
      have hky : k < ys.length := by have := HL'.out; omega
      obtain ⟨u, hu⟩ : ∃ u, xs.getD k Itm.none_ = u := ⟨_, rfl⟩
      obtain ⟨v, hv⟩ : ∃ v, ys.getD k Itm.none_ = v := ⟨_, rfl⟩
      have hCk := HC.out k hkx
      have hOk := HO.out k hky
      rw [hu] at k0 k1 hsv hCk
      rw [hv] at l0 l1 huv hOk
      generalize vs.getD k undef = sv at *
      generalize us.getD k undef = uv at *
      obtain ⟨As, cs, rfl⟩ := hsv.slice
      obtain ⟨Bs, ds, rfl⟩ := huv.slice
      have HU := Lib.hid hu; have HV := Lib.hid hv
      have hsame := fun V (hV : Below wr.heap.size wr V) => hCk V v _ _ hOk (SubW.grown hsv (grown_of_below hV)) (SubW.grown huv (grown_of_below hV))
      have HSM := Lib.hid hsame
      have q1 : (k : Int) < (n : Int) := by omega
      have hlb := hx1.lt; have hlc := hy1.lt
      clear hSX hSY hvs hus hr hr' hc hc' hCk hOk hu hv hsv huv he he' hkx hky hsame hI
      go_upto_region 6 with (fail)
      have hC0 : (fun V => Below wr.heap.size wr V) wr.drew := ⟨rfl, rfl, rfl, Nat.le_refl _, fun _ _ => rfl⟩
      refine wp_region_class (fun V => Below wr.heap.size wr V) (by kernel_rfl) (by kernel_rfl) hC0 ?_
      have hcc := class_const hC0
      have hr0 : ∀ V, Below wr.heap.size wr V → V.cell? ⟨b0, 2, none⟩ = some (.slice (some ⟨g, off, none⟩) n c) := fun V hV => (hV.cell (p := ⟨b0, 2, none⟩) hlb).trans (hx1.cell 2)
      have hr1 : ∀ V, Below wr.heap.size wr V → V.cell? ⟨b0 + 1, 2, none⟩ = some (.slice (some ⟨g', off', none⟩) n c') := fun V hV => (hV.cell (p := ⟨b0 + 1, 2, none⟩) hlc).trans (hy1.cell 2)
      have hr2 : ∀ V, Below wr.heap.size wr V → V.cell? ⟨g, off + k * 3, none⟩ = some (.bool u.list) := fun V hV => (hV.cell (p := ⟨g, off + k * 3, none⟩) hgB).trans k0
      have hr3 : ∀ V, Below wr.heap.size wr V → V.cell? ⟨g, off + k * 3 + 1, none⟩ = some (.string u.bytes) := fun V hV => (hV.cell (p := ⟨g, off + k * 3 + 1, none⟩) hgB).trans k1
      have hr4 : ∀ V, Below wr.heap.size wr V → V.cell? ⟨g, off + k * 3 + 2, none⟩ = some (.slice As u.items.length cs) := fun V hV => (hV.cell (p := ⟨g, off + k * 3 + 2, none⟩) hgB).trans k2
      have hr5 : ∀ V, Below wr.heap.size wr V → V.cell? ⟨g', off' + k * 3, none⟩ = some (.bool v.list) := fun V hV => (hV.cell (p := ⟨g', off' + k * 3, none⟩) hgB').trans l0
      have hr6 : ∀ V, Below wr.heap.size wr V → V.cell? ⟨g', off' + k * 3 + 1, none⟩ = some (.string v.bytes) := fun V hV => (hV.cell (p := ⟨g', off' + k * 3 + 1, none⟩) hgB').trans l1
      have hr7 : ∀ V, Below wr.heap.size wr V → V.cell? ⟨g', off' + k * 3 + 2, none⟩ = some (.slice Bs v.items.length ds) := fun V hV => (hV.cell (p := ⟨g', off' + k * 3 + 2, none⟩) hgB').trans l2
      clear k0 k1 k2 l0 l1 l2
      (try simp only [Act.put])
      (repeat go_big_quiet_step (fail))
      refine wpQuiet_load1' _ 28 _ ⟨b0, 2, none⟩ _ rfl rfl rfl Tryd.underlying28 rfl hr0 ?_
      simp only [Act.put, List.setIfInBounds_toArray, List.set_cons_zero, List.set_cons_succ]
      (repeat go_big_quiet_step (fail))
      refine wpQuiet_value rfl (.agg #[.bool u.list, .string u.bytes, .slice As u.items.length cs]) (fun V hV => exec_load3' _ rfl rfl (hr2 V hV) (hr3 V hV) (hr4 V hV)) ?_
      simp only [Act.put, List.setIfInBounds_toArray, List.set_cons_zero, List.set_cons_succ]
      (repeat go_big_quiet_step (fail))
      refine wpQuiet_load1' _ 28 _ ⟨b0 + 1, 2, none⟩ _ rfl rfl rfl Tryd.underlying28 rfl hr1 ?_
      simp only [Act.put, List.setIfInBounds_toArray, List.set_cons_zero, List.set_cons_succ]
      (repeat go_big_quiet_step (fail))
      refine wpQuiet_value rfl (.agg #[.bool v.list, .string v.bytes, .slice Bs v.items.length ds]) (fun V hV => exec_load3' _ rfl rfl (hr5 V hV) (hr6 V hV) (hr7 V hV)) ?_
      simp only [Act.put, List.setIfInBounds_toArray, List.set_cons_zero, List.set_cons_succ]
      refine wpQuiet_enter rfl (.bool (decide (u = v))) 7 #[.agg #[.bool u.list, .string u.bytes, .slice As u.items.length cs], .agg #[.bool v.list, .string v.bytes, .slice Bs v.items.length ds]] (fun V hV => exec_call2 _ (.tmp 38) (.tmp 43) _ rfl _ _ rfl rfl rfl) (fun V hV => (HSM.out V hV).mono fun e w' ⟨he, hgg⟩ => ⟨he, below_of_grown (grown_self (grown_of_below hV) hgg (by simp))⟩) ?_
      simp only [Act.put, List.setIfInBounds_toArray, List.set_cons_zero, List.set_cons_succ]
      (repeat go_big_quiet_step (fail))
      refine wpQuiet_nil ?_
      intro w8 hw8
      have hg8 := grown_self hg (grown_of_below hw8) (by simp)
      have HG8 := Lib.hid hg8
      clear hcc hC0 hr0 hr1 hr2 hr3 hr4 hr5 hr6 hr7 hw8 hg8 c2 HSM hx1 hy1
      by_cases huv : u = v
      · rw [decide_eq_true huv]
        have hI3 : Hid (∀ i : Nat, i < k + 1 → xs.getD i Itm.none_ = ys.getD i Itm.none_) := Lib.hid (by
          intro i hi
          by_cases hik : i = k
          · rw [hik, HU.out, HV.out, huv]
          · exact HI.out i (by omega))
        clear huv
        go_wp2_with fail
        exact ⟨⟨k + 1, by go_num, by omega, HG8.out, hI3⟩, by simp [intOf]; omega⟩
      · rw [decide_eq_false huv]
        have hne : Hid (decide (xs = ys) = false) := Lib.hid (decide_eq_false (by
          intro e
          exact huv (by rw [← HU.out, ← HV.out, e])))
        have HG9 := Lib.hid (grown_self hG1 HG8.out (by simp))
        clear huv
        go_wp2_with fail
        go_ret
        exact ⟨by rw [hne.out]; rfl, HG9.out⟩
    · obtain rfl : k = n := by omega
      have hfin : decide ((k : Int) < (k : Int)) = false := by simp
      have heq : Hid (decide (xs = ys) = true) := Lib.hid (decide_eq_true (items_ext (by rw [HL.out, HL'.out]) fun i hi => HI.out i (by have := HL.out; omega)))
      have HG2 := Lib.hid (grown_self hG1 hg (by simp))
      clear hx1 hy1 hI
      go_wp2_with fail
      go_ret
      exact ⟨by rw [heq.out]; rfl, HG2.out⟩
/-- TWO ITEMS COMPARED, as the document does it -/
theorem sameR_any (x : Itm) (ho : x.Ok) : SameRC x := by
  generalize hn : SizeOf.sizeOf x = n
  induction n using Nat.strongRecOn generalizing x with
  | _ n ih =>
    subst hn
    exact sameR_step x ho fun i hi => ih _ (Itm.size_get hi) _ (ho.get i hi) rfl
end
end Go.Proofs.YtmlkjackopiekaaDoor
