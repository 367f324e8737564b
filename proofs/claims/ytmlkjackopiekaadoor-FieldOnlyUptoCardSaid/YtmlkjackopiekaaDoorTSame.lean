/- Two items compared (rlp.Same). -/
import Derived.Test.YtmlkjackopiekaaDoorBytes
import Derived.Test.YtmlkjackopiekaaDoorRes
import Derived.Test.YtmlkjackopiekaaDoorTree
namespace Go.Proofs.YtmlkjackopiekaaDoor
open Go.RowKit Go.Shelf
set_option linter.unusedVariables false
set_option linter.unusedSimpArgs false

noncomputable section
open Classical

/-- the contract of Same, of one item against any -/
def SameC (x : Itm) : Prop := ∀ (W : World) (y : Itm) (sx sy : Value), y.Ok → SubW W x.items sx → SubW W y.items sy →
  Calls Tryd.prog 28 #[.agg #[.bool x.list, .string x.bytes, sx], .agg #[.bool y.list, .string y.bytes, sy]] W fun e W' => e = .returned (.bool (decide (x = y))) ∧ W.grownBy W' none

set_option maxRecDepth 100000 in
set_option maxHeartbeats 1000000 in
theorem equal_items (xs ys : List Itm) (hC : ∀ i, i < xs.length → SameC (xs.getD i Itm.none_)) (W : World) (sx sy : Value) (hx : SubW W xs sx) (hy : SubW W ys sy) (hm : xs.length ≤ 9223372036854775807) (hm' : ys.length ≤ 9223372036854775807) (hok : ∀ i, i < ys.length → (ys.getD i Itm.none_).Ok) :
    Calls Tryd.prog 49 #[sx, sy, .func (.func 28) #[] #[]] W fun e W' => e = .returned (.bool (decide (xs = ys))) ∧ W.grownBy W' none := by
  obtain ⟨A, c, rfl⟩ := hx.slice
  obtain ⟨A', c', rfl⟩ := hy.slice
  by_cases hnm : xs.length = ys.length
  · obtain ⟨n, hn⟩ : ∃ n, xs.length = n := ⟨_, rfl⟩
    have HL := Lib.hid hn; have HL' := Lib.hid (hnm.symm.trans hn)
    rw [← hnm, hn]
    rw [hn] at hm
    have HX := Lib.hid hx; have HY := Lib.hid hy; have HC := Lib.hid hC; have HO := Lib.hid hok
    clear hx hy hC hnm hn hm' hok
    go_enter Tryd.func49, Tryd.ntmps49
    go_wp2_with fail
    go_loopw [17] (fun i wr => ∃ k : Nat, i = .int .i64 k ∧ k ≤ n ∧ W.grownBy wr none ∧ Hid (∀ i : Nat, i < k → xs.getD i Itm.none_ = ys.getD i Itm.none_)) (fun i _ => n - (intOf i).toNat)
    case atStart => exact ⟨0, rfl, by omega, World.grownBy.refl _ _, by intro i h1; omega⟩
    case round =>
      obtain ⟨k, rfl, h1, hg, h2⟩ := hrel
      by_cases hlt : k < n
      · have hx := HX.out.grown hg
        have hy := HY.out.grown hg
        obtain ⟨_, vs, hvs, hr⟩ := hx.row
        obtain ⟨_, us, hus, hr'⟩ := hy.row
        rw [HL.out] at hvs hr
        rw [HL'.out] at hus hr'
        obtain ⟨b, off, rfl, hb, hc⟩ := hr (by omega)
        obtain ⟨b', off', rfl, hb', hc'⟩ := hr' (by omega)
        obtain ⟨c0, c1, c2⟩ := hc k hlt
        obtain ⟨d0, d1, d2⟩ := hc' k hlt
        have sx := hvs k hlt
        have sy := hus k hlt
        have hCk := HC.out k (by have := HL.out; omega)
        have hOk := HO.out k (by have := HL'.out; omega)
        have hz := hg.size
        have q0 : (k : Int) < (n : Int) := by omega
        have h2' := Lib.hid h2.out
        obtain ⟨x, hx'⟩ : ∃ x, xs.getD k Itm.none_ = x := ⟨_, rfl⟩
        obtain ⟨y, hy'⟩ : ∃ y, ys.getD k Itm.none_ = y := ⟨_, rfl⟩
        rw [hx'] at c0 c1 sx hCk
        rw [hy'] at d0 d1 sy hOk
        generalize vs.getD k undef = sxv at *
        generalize us.getD k undef = syv at *
        have HXY := Lib.hid hx'; have HYY := Lib.hid hy'
        obtain ⟨As, cs, rfl⟩ := sx.slice
        obtain ⟨Bs, ds, rfl⟩ := sy.slice
        have HSX := Lib.hid sx; have HSY := Lib.hid sy; have HCK := Lib.hid hCk; have HOK := Lib.hid hOk
        clear hx hy hvs hus hr hr' hc hc' hx' hy' sx sy hCk hOk
        go_wp2_with fail
        have hG1 := only_alloc (only_alloc (World.grownBy.refl wr none) (.cells #[.bool x.list, .string x.bytes, .slice As x.items.length cs] 30)) (.cells #[.bool y.list, .string y.bytes, .slice Bs y.items.length ds] 30)
        refine (HCK.out _ y _ _ HOK.out (SubW.grown HSX.out hG1) (SubW.grown HSY.out hG1)).mono ?_
        rintro e w1 ⟨rfl, hg1⟩
        have hG2 := grown_self (grown_self hg hG1 (by simp)) hg1 (by simp)
        by_cases hxy : x = y
        · rw [decide_eq_true hxy]
          have HE := Lib.hid hxy
          clear hxy HSX HSY HCK c0 c1 c2 d0 d1 d2 hG1 hg1
          go_wp2_with fail
          refine ⟨⟨k + 1, by go_num, by omega, hG2, ?_⟩, by simp [intOf]; omega⟩
          intro i hi
          by_cases hik : i = k
          · rw [hik, HXY.out, HYY.out, HE.out]
          · exact h2'.out i (by omega)
        · rw [decide_eq_false hxy]
          have HE := Lib.hid hxy
          clear hxy HSX HSY HCK c0 c1 c2 d0 d1 d2 hG1 hg1
          go_wp2_with fail
          go_ret
          refine ⟨?_, hG2⟩
          have hne : ¬ xs = ys := by
            intro e
            exact HE.out (by rw [← HXY.out, ← HYY.out, e])
          rw [decide_eq_false hne]; rfl
      · have he : xs = ys := by
          refine items_ext (by rw [HL.out, HL'.out]) fun i hi => h2.out i (by have := HL.out; omega)
        have HE := Lib.hid he
        have q0 : (n : Int) ≤ (k : Int) := by omega
        clear he h2
        go_wp2_with fail
        go_ret
        exact ⟨by rw [decide_eq_true HE.out]; rfl, hg⟩
  · have hne : ¬ xs = ys := by rintro rfl; exact hnm rfl
    have HE := Lib.hid hne
    generalize xs.length = n at *
    generalize ys.length = m at *
    have hb : ((n : Int) != (m : Int)) = true := by simp; omega
    clear hne hx hy hC hnm hok
    go_enter Tryd.func49, Tryd.ntmps49
    go_wp2_with fail
    go_ret
    exact ⟨by rw [decide_eq_false HE.out]; rfl, World.grownBy.refl _ _⟩

set_option maxRecDepth 100000 in
set_option maxHeartbeats 1000000 in
theorem same_step (x : Itm) (ho : x.Ok) (hC : ∀ i, i < x.items.length → SameC (x.items.getD i Itm.none_)) : SameC x := by
  intro W y sx sy hyo hx hy
  obtain ⟨A, c, rfl⟩ := hx.slice
  obtain ⟨A', c', rfl⟩ := hy.slice
  have hG1 := only_alloc (only_alloc (World.grownBy.refl W none) (.cells #[.bool x.list, .string x.bytes, .slice A x.items.length c] 30)) (.cells #[.bool y.list, .string y.bytes, .slice A' y.items.length c'] 30)
  have heq := fun V (hV : W.grownBy V none) => equal_items x.items y.items hC V _ _ (SubW.grown hx hV) (SubW.grown hy hV) ho.items hyo.items hyo.get
  have HQ := Lib.hid heq
  have HG := Lib.hid hG1
  have hext := @Itm.ext_ x y
  have hxy1 : x.list ≠ y.list → x ≠ y := by rintro h rfl; exact h rfl
  have hxy2 : x.bytes ≠ y.bytes → x ≠ y := by rintro h rfl; exact h rfl
  have hxy3 : x.items ≠ y.items → x ≠ y := by rintro h rfl; exact h rfl
  have ob := ho.bytes; have oy := hyo.bytes
  clear hG1 heq hC hx hy ho hyo
  by_cases h1 : x.list = y.list
  · by_cases h2 : x.bytes = y.bytes
    · have hde : decide (x.items = y.items) = decide (x = y) := by
        by_cases h3 : x.items = y.items
        · rw [decide_eq_true h3, decide_eq_true (hext h1 h2 h3)]
        · rw [decide_eq_false h3, decide_eq_false (hxy3 h3)]
      rw [hde] at HQ
      rw [← h1, ← h2] at HG ⊢
      have e1 : (x.bytes.data.toList == x.bytes.data.toList) = true := by simp
      clear hde hext hxy1 hxy2 hxy3 h1 h2 oy
      generalize decide (x = y) = r at *
      generalize x.bytes = b at *
      generalize x.list = l at *
      generalize x.items = xs at *
      generalize y.items = ys at *
      go_enter Tryd.func28, Tryd.ntmps28
      go_wp2_with fail
      refine (HQ.out _ HG.out).mono ?_
      rintro e w1 ⟨rfl, hg1⟩
      have hG2 := Lib.hid (grown_self HG.out hg1 (by simp))
      go_wp2_with fail
      go_ret
      exact ⟨rfl, hG2.out⟩
    · have e1 := str_ne h2
      have hde : decide (x = y) = false := decide_eq_false (hxy2 h2)
      rw [hde]
      rw [← h1] at HG ⊢
      clear hde hext hxy1 hxy2 hxy3 h1 h2 HQ
      generalize x.bytes = b at *
      generalize y.bytes = b' at *
      generalize x.list = l at *
      generalize x.items = xs at *
      generalize y.items = ys at *
      go_enter Tryd.func28, Tryd.ntmps28
      go_wp2_with fail
      go_ret
      exact ⟨rfl, HG.out⟩
  · have e2 : (x.list == y.list) = false := by rw [beq_eq_false_iff_ne]; exact h1
    have hde : decide (x = y) = false := decide_eq_false (hxy1 h1)
    rw [hde]
    clear hde hext hxy1 hxy2 hxy3 h1 HQ
    generalize x.bytes = b at *
    generalize y.bytes = b' at *
    generalize x.list = l at *
    generalize y.list = l' at *
    generalize x.items = xs at *
    generalize y.items = ys at *
    go_enter Tryd.func28, Tryd.ntmps28
    go_wp2_with fail
    go_ret
    exact ⟨rfl, HG.out⟩

/-- TWO ITEMS COMPARED -/
theorem same_any (x : Itm) (ho : x.Ok) : SameC x := by
  generalize hn : SizeOf.sizeOf x = n
  induction n using Nat.strongRecOn generalizing x with
  | _ n ih =>
    subst hn
    exact same_step x ho fun i hi => ih _ (Itm.size_get hi) _ (ho.get i hi) rfl
end
end Go.Proofs.YtmlkjackopiekaaDoor
