/- How deep an item is: the program's and the document's; an item's bytes, as the document has them. -/
import Derived.Test.YtacfpjleejfdgaaDoorRlpC
namespace Go.Proofs.YtacfpjleejfdgaaDoor
open Go.RowKit Go.Shelf
set_option linter.unusedVariables false
set_option linter.unusedSimpArgs false

mutual
theorem deepF_le : ∀ x : Itm, deepF x ≤ wtF x
  | .mk l b xs => by
    rw [deepF, wtF]
    have := deepL_le xs
    split <;> omega
theorem deepL_le : ∀ xs : List Itm, deepL xs ≤ wtL xs
  | [] => by simp [deepL]
  | x :: xs => by
    rw [deepL, wtL]
    have := deepF_le x
    have := deepL_le xs
    omega
end
theorem deepL_take (xs : List Itm) (k : Nat) : deepL (xs.take k) ≤ wtL xs := Nat.le_trans (deepL_le _) (wtL_take xs k)
def DeepC (f : FuncId) (x : Itm) : Prop := ∀ (W : World) (sx : Value), SubW W x.items sx → wtF x ≤ 1000000000 →
  Calls Tryd.prog f #[.agg #[.bool x.list, .string x.bytes, sx]] W fun e W' => e = .returned (.int .i64 (deepF x : Int)) ∧ W.grownBy W' none

set_option maxRecDepth 100000 in
set_option maxHeartbeats 2000000 in
theorem deep_step (x : Itm) (hC : ∀ i, i < x.items.length → DeepC 17 (x.items.getD i Itm.none_)) : DeepC 17 x := by
  intro W sx hsx hwt
  obtain ⟨A, c, rfl⟩ := hsx.slice
  have hd := deepF_eq x
  have hG1 := only_alloc (World.grownBy.refl W none) (.cells #[.bool x.list, .string x.bytes, .slice A x.items.length c] 24)
  have hx0 := Blk.new W 24 #[.bool x.list, .string x.bytes, .slice A x.items.length c]
  have hS1 := hsx.grown hG1
  have hwx := wtF_eq x
  have hok := (ok_of_wt x hwt).items
  cases hx : x.list with
  | false =>
    rw [hx] at hd hG1
    have HD : Hid (deepF x = 0) := Lib.hid hd
    have HG := Lib.hid hG1
    clear hd hC hG1 hx0 hS1 hsx hx
    go_enter Tryd.func17, Tryd.ntmps17
    go_wp2_with fail
    go_ret
    exact ⟨by rw [HD.out]; rfl, HG.out⟩
  | true =>
    rw [hx] at hd hG1 hx0 hS1
    obtain ⟨xs, hxs⟩ : ∃ xs, x.items = xs := ⟨_, rfl⟩
    obtain ⟨n, hnn⟩ : ∃ n, xs.length = n := ⟨_, rfl⟩
    have hwi : ∀ k, k < xs.length → wtF (xs.getD k Itm.none_) ≤ 1000000000 := by
      intro k hk; have := wtL_get hk; rw [hxs] at hwx; omega
    have hdt : ∀ k, deepL (xs.take k) ≤ 1000000000 := fun k => by have := deepL_take xs k; rw [hxs] at hwx; omega
    rw [hxs] at hd hG1 hx0 hS1 hC hok ⊢
    rw [hnn] at hG1 hx0 hS1 hok ⊢
    have HD : Hid (deepF x = deepL xs + 1) := Lib.hid hd
    have HC := Lib.hid hC
    have HN := Lib.hid hnn
    have HWI := Lib.hid hwi
    have HDT := Lib.hid hdt
    clear hd hC hnn hxs hsx hwi hwx hwt hdt hx
    go_enter Tryd.func17, Tryd.ntmps17
    go_upto_region 1 with (fail)
    generalize W.alloc (.cells #[.bool true, .string x.bytes, .slice A n c] 24) = W1 at *
    obtain ⟨b0, hb0⟩ : ∃ b0, W.heap.size = b0 := ⟨_, rfl⟩
    rw [hb0] at hx0 ⊢
    have c0 := hx0.cell 0; have c1 := hx0.cell 2
    simp only [List.getElem?_toArray, List.getElem?_cons_zero, List.getElem?_cons_succ] at c0 c1
    go_wp2_with fail
    go_loopw [3, 12] (fun v i wr => ∃ k : Nat, i = .int .i64 k ∧ k ≤ n ∧ v = .int .i64 (deepL (xs.take k) : Int) ∧ W1.grownBy wr none) (fun _ i _ => n - (intOf i).toNat)
    case atStart => exact ⟨0, rfl, by omega, rfl, World.grownBy.refl _ _⟩
    case round =>
      obtain ⟨k, rfl, hk, rfl, hg⟩ := hrel
      have hdk := HDT.out k
      by_cases hlt : k < n
      · have hS := hS1.grown hg
        obtain ⟨he, vs, hvs, hr⟩ := hS.row
        rw [HN.out] at hvs hr
        obtain ⟨g, off, rfl, hgB, hc⟩ := hr (by omega)
        obtain ⟨k0, k1, k2⟩ := hc k hlt
        have hsv := hvs k hlt
        obtain ⟨y, hy⟩ : ∃ y, xs.getD k Itm.none_ = y := ⟨_, rfl⟩
        have hCk := HC.out k (by have := HN.out; omega)
        have hw1 := HWI.out k (by have := HN.out; omega)
        have htk : deepL (xs.take (k + 1)) = max (deepL (xs.take k)) (deepF y) := by rw [take_item (by have := HN.out; omega), deepL_snoc, hy]
        rw [hy] at k0 k1 hsv hCk hw1
        generalize vs.getD k undef = sv at *
        obtain ⟨As, cs, rfl⟩ := hsv.slice
        have hgA := only_alloc (World.grownBy.refl wr none) (.cells #[.bool y.list, .string y.bytes, .slice As y.items.length cs] 24)
        have HCK := Lib.hid (hCk _ _ (SubW.grown hsv hgA) hw1)
        have HTK := Lib.hid htk
        have HG2 := Lib.hid (grown_self hg hgA (by simp))
        have q1 : (k : Int) < (n : Int) := by omega
        have hdy := Nat.le_trans (deepF_le y) hw1
        generalize deepL (xs.take k) = dk at *
        clear hS hvs hr hc hCk hy htk hsv he hgA
        go_wp2_with fail
        refine HCK.out.mono ?_
        rintro e w3 ⟨rfl, hg3⟩
        have hG3 := grown_self HG2.out hg3 (by simp)
        have hmx : max (dk : Int) (deepF y : Int) = ((max dk (deepF y) : Nat) : Int) := by omega
        clear hg3 k0 k1 k2 HCK
        go_wp2_with fail
        exact ⟨⟨k + 1, by go_num, by omega, by rw [HTK.out], hG3⟩, by simp [intOf]; omega⟩
      · obtain rfl : k = n := by omega
        have hfin : decide ((k : Int) < (k : Int)) = false := by simp
        have hall : xs.take k = xs := by rw [← HN.out, List.take_length]
        rw [hall] at hdk ⊢
        have HG2 := Lib.hid (grown_self hG1 hg (by simp))
        generalize deepL xs = d at *
        clear hall
        go_wp2_with fail
        go_ret
        exact ⟨by rw [HD.out]; rfl, HG2.out⟩
theorem deep_any (x : Itm) : DeepC 17 x := by
  generalize hn : SizeOf.sizeOf x = n
  induction n using Nat.strongRecOn generalizing x with
  | _ n ih =>
    subst hn
    exact deep_step x fun i hi => ih _ (Itm.size_get hi) _ rfl

set_option maxRecDepth 100000 in
set_option maxHeartbeats 2000000 in
theorem deepR_step (x : Itm) (hC : ∀ i, i < x.items.length → DeepC 11 (x.items.getD i Itm.none_)) : DeepC 11 x := by
  intro W sx hsx hwt
  obtain ⟨A, c, rfl⟩ := hsx.slice
  have hd := deepF_eq x
  have hG1 := only_alloc (World.grownBy.refl W none) (.cells #[.bool x.list, .string x.bytes, .slice A x.items.length c] 24)
  have hx0 := Blk.new W 24 #[.bool x.list, .string x.bytes, .slice A x.items.length c]
  have hS1 := hsx.grown hG1
  have hwx := wtF_eq x
  have hok := (ok_of_wt x hwt).items
  cases hx : x.list with
  | false =>
    rw [hx] at hd hG1
    have HD : Hid (deepF x = 0) := Lib.hid hd
    have HG := Lib.hid hG1
    clear hd hC hG1 hx0 hS1 hsx hx
    go_enter Tryd.func11, Tryd.ntmps11
    go_wp2_with fail
    go_ret
    exact ⟨by rw [HD.out]; rfl, HG.out⟩
  | true =>
    rw [hx] at hd hG1 hx0 hS1
    obtain ⟨xs, hxs⟩ : ∃ xs, x.items = xs := ⟨_, rfl⟩
    obtain ⟨n, hnn⟩ : ∃ n, xs.length = n := ⟨_, rfl⟩
    have hwi : ∀ k, k < xs.length → wtF (xs.getD k Itm.none_) ≤ 1000000000 := by
      intro k hk; have := wtL_get hk; rw [hxs] at hwx; omega
    have hdt : ∀ k, deepL (xs.take k) ≤ 1000000000 := fun k => by have := deepL_take xs k; rw [hxs] at hwx; omega
    rw [hxs] at hd hG1 hx0 hS1 hC hok ⊢
    rw [hnn] at hG1 hx0 hS1 hok ⊢
    have HD : Hid (deepF x = deepL xs + 1) := Lib.hid hd
    have HC := Lib.hid hC
    have HN := Lib.hid hnn
    have HWI := Lib.hid hwi
    have HDT := Lib.hid hdt
    clear hd hC hnn hxs hsx hwi hwx hwt hdt hx
    go_enter Tryd.func11, Tryd.ntmps11
    go_upto_region 1 with (fail)
    generalize W.alloc (.cells #[.bool true, .string x.bytes, .slice A n c] 24) = W1 at *
    obtain ⟨b0, hb0⟩ : ∃ b0, W.heap.size = b0 := ⟨_, rfl⟩
    rw [hb0] at hx0 ⊢
    have c0 := hx0.cell 0
    simp only [List.getElem?_toArray, List.getElem?_cons_zero, List.getElem?_cons_succ] at c0
    go_wp2_with fail
    clear c0
    go_loopw [3, 4] (fun v i wr => ∃ k : Nat, i = .int .i64 k ∧ k ≤ n ∧ v = .int .i64 (deepL (xs.take k) : Int) ∧ W1.grownBy wr none) (fun _ i _ => n - (intOf i).toNat)
    case atStart => exact ⟨0, rfl, by omega, rfl, World.grownBy.refl _ _⟩
    case round =>
      obtain ⟨k, rfl, hk, rfl, hg⟩ := hrel
      have hdk := HDT.out k
      have hx1 := hx0.grown hg (by simp)
      have c1 := hx1.cell 2
      simp only [List.getElem?_toArray, List.getElem?_cons_zero, List.getElem?_cons_succ] at c1
      by_cases hlt : k < n
      · have hS := hS1.grown hg
        obtain ⟨he, vs, hvs, hr⟩ := hS.row
        rw [HN.out] at hvs hr
        obtain ⟨g, off, rfl, hgB, hc⟩ := hr (by omega)
        obtain ⟨k0, k1, k2⟩ := hc k hlt
        have hsv := hvs k hlt
        obtain ⟨y, hy⟩ : ∃ y, xs.getD k Itm.none_ = y := ⟨_, rfl⟩
        have hCk := HC.out k (by have := HN.out; omega)
        have hw1 := HWI.out k (by have := HN.out; omega)
        have htk : deepL (xs.take (k + 1)) = max (deepL (xs.take k)) (deepF y) := by rw [take_item (by have := HN.out; omega), deepL_snoc, hy]
        rw [hy] at k0 k1 hsv hCk hw1
        generalize vs.getD k undef = sv at *
        obtain ⟨As, cs, rfl⟩ := hsv.slice
        have HCK := Lib.hid (hCk _ _ hsv hw1)
        have HTK := Lib.hid htk
        have HG2 := Lib.hid hg
        have q1 : (k : Int) < (n : Int) := by omega
        have hdy := Nat.le_trans (deepF_le y) hw1
        generalize deepL (xs.take k) = dk at *
        clear hS hvs hr hc hCk hy htk hsv he hx1
        go_wp2_with fail
        refine HCK.out.mono ?_
        rintro e w3 ⟨rfl, hg3⟩
        have hG3 := grown_self HG2.out hg3 (by simp)
        have hmx : max (dk : Int) (deepF y : Int) = ((max dk (deepF y) : Nat) : Int) := by omega
        clear hg3 k0 k1 k2 HCK c1
        go_wp2_with fail
        exact ⟨⟨k + 1, by go_num, by omega, by rw [HTK.out], hG3⟩, by simp [intOf]; omega⟩
      · obtain rfl : k = n := by omega
        have hfin : decide ((k : Int) < (k : Int)) = false := by simp
        have hall : xs.take k = xs := by rw [← HN.out, List.take_length]
        rw [hall] at hdk ⊢
        have HG2 := Lib.hid (grown_self hG1 hg (by simp))
        generalize deepL xs = d at *
        clear hall hx1
        go_wp2_with fail
        go_ret
        exact ⟨by rw [HD.out]; rfl, HG2.out⟩
theorem deepR_any (x : Itm) : DeepC 11 x := by
  generalize hn : SizeOf.sizeOf x = n
  induction n using Nat.strongRecOn generalizing x with
  | _ n ih =>
    subst hn
    exact deepR_step x fun i hi => ih _ (Itm.size_get hi) _ rfl
end Go.Proofs.YtacfpjleejfdgaaDoor
