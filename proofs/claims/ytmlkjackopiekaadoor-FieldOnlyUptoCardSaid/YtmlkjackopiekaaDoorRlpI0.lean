/- How many items there are: the document's. -/
import Derived.Test.YtmlkjackopiekaaDoorRlpB
import Derived.Test.YtmlkjackopiekaaDoorTSame
import Derived.Test.YtmlkjackopiekaaDoorClass
import Derived.Test.YtmlkjackopiekaaDoorPerm
namespace Go.Proofs.YtmlkjackopiekaaDoor
open Go.RowKit Go.Shelf
set_option linter.unusedVariables false
set_option linter.unusedSimpArgs false

def ManyC (x : Itm) : Prop := ∀ (W : World) (m d : Int) (sx : Value), SubW W x.items sx → x.Ok → 0 ≤ m → m ≤ 1000000 → -1 ≤ d → d ≤ 1000 →
  Calls Tryd.prog 44 #[.agg #[.bool x.list, .string x.bytes, sx], .int .i64 m, .int .i64 d] W fun e W' => ∃ r : Int, e = .returned (.int .i64 r) ∧ 0 ≤ r ∧ r ≤ m + 1 ∧ W.grownBy W' none

set_option maxRecDepth 100000 in
set_option maxHeartbeats 2000000 in
theorem many_step (x : Itm) (hC : ∀ i, i < x.items.length → ManyC (x.items.getD i Itm.none_)) : ManyC x := by
  intro W m d sx hsx hox hm0 hm1 hd0 hd1
  obtain ⟨A, c, rfl⟩ := hsx.slice
  have hG1 := only_alloc (World.grownBy.refl W none) (.cells #[.bool x.list, .string x.bytes, .slice A x.items.length c] 30)
  have hx0 := Blk.new W 30 #[.bool x.list, .string x.bytes, .slice A x.items.length c]
  have hS1 := hsx.grown hG1
  have v1 : IntKind.i64.wrap (m + 1) = m + 1 := IntWalk.i64_in _ (by omega)
  by_cases hd : d < 0
  · have HG := Lib.hid hG1
    clear hG1 hx0 hS1 hsx hC
    go_enter Tryd.func44, Tryd.ntmps44
    go_wp2_with fail
    go_ret
    exact ⟨m + 1, rfl, by omega, by omega, HG.out⟩
  · have d1 : decide (d < 0) = false := decide_eq_false hd
    obtain ⟨xs, hxs⟩ : ∃ xs, x.items = xs := ⟨_, rfl⟩
    obtain ⟨n, hnn⟩ : ∃ n, xs.length = n := ⟨_, rfl⟩
    have hog := hox.get
    have hok := hox.items
    have hob := hox.bytes
    rw [hxs] at hG1 hx0 hS1 hC hog hok ⊢
    rw [hnn] at hG1 hx0 hS1 hok ⊢
    have HC := Lib.hid hC
    have HN := Lib.hid hnn
    have HO := Lib.hid hog
    generalize x.bytes = t at *
    generalize x.list = lst at *
    clear hC hnn hxs hsx hog hox
    go_enter Tryd.func44, Tryd.ntmps44
    go_upto_region 4 with (fail)
    generalize W.alloc (.cells #[.bool lst, .string t, .slice A n c] 30) = W1 at *
    obtain ⟨b0, hb0⟩ : ∃ b0, W.heap.size = b0 := ⟨_, rfl⟩
    rw [hb0] at hx0 ⊢
    go_wp2_with fail
    go_loopw [7, 8] (fun v i wr => ∃ (k : Nat) (r : Int), i = .int .i64 k ∧ k ≤ n ∧ v = .int .i64 r ∧ 0 ≤ r ∧ r ≤ m + 1 ∧ W1.grownBy wr none) (fun _ i _ => n - (intOf i).toNat)
    case atStart => exact ⟨0, 1, rfl, by omega, rfl, by omega, by omega, World.grownBy.refl _ _⟩
    case round =>
      obtain ⟨k, r, rfl, hk, rfl, hr0, hr1, hg⟩ := hrel
      have hx1 := hx0.grown hg (by simp)
      have c1 := hx1.cell 2; have c2 := hx1.cell 1
      simp only [List.getElem?_toArray, List.getElem?_cons_zero, List.getElem?_cons_succ] at c1 c2
      by_cases hlt : k < n ∧ r ≤ m
      · obtain ⟨hlt, hrm⟩ := hlt
        have hS := hS1.grown hg
        obtain ⟨he, vs, hvs, hr⟩ := hS.row
        rw [HN.out] at hvs hr
        obtain ⟨g, off, rfl, hgB, hc⟩ := hr (by omega)
        obtain ⟨k0, k1, k2⟩ := hc k hlt
        have hsv := hvs k hlt
        obtain ⟨y, hy⟩ : ∃ y, xs.getD k Itm.none_ = y := ⟨_, rfl⟩
        have hkx : k < xs.length := by have := HN.out; omega
        have hCk := HC.out k hkx
        have hok2 := HO.out k hkx
        rw [hy] at k0 k1 hsv hCk hok2
        generalize vs.getD k undef = sv at *
        obtain ⟨As, cs, rfl⟩ := hsv.slice
        have HCK := Lib.hid (hCk _ (m - r) (d - 1) _ hsv hok2 (by omega) (by omega) (by omega) (by omega))
        have q1 : (k : Int) < (n : Int) := by omega
        have v2 : IntKind.i64.wrap (m - r) = m - r := IntWalk.i64_in _ (by omega)
        have v3 : IntKind.i64.wrap (d - 1) = d - 1 := IntWalk.i64_in _ (by omega)
        clear hS hvs hr hc hCk hy hsv he hx1 hkx hok2 c2
        go_wp2_with fail
        refine HCK.out.mono ?_
        rintro e w3 ⟨r2, rfl, hr2, hr3, hg3⟩
        have hG3 := grown_self hg hg3 (by simp)
        have v4 : IntKind.i64.wrap (r + r2) = r + r2 := IntWalk.i64_in _ (by omega)
        clear hg3 k0 k1 k2 HCK c1
        go_wp2_with fail
        exact ⟨⟨k + 1, r + r2, by go_num, by omega, rfl, by omega, by omega, hG3⟩, by simp [intOf]; omega⟩
      · have HG2 := Lib.hid (grown_self hG1 hg (by simp))
        have hguard : (decide ((k : Int) < (n : Int)) = false ∧ decide (k < n) = false) ∨ ((k : Int) < (n : Int) ∧ decide (r ≤ m) = false) := by
          by_cases h : k < n
          · exact .inr ⟨by omega, decide_eq_false (fun h2 => hlt ⟨h, h2⟩)⟩
          · exact .inl ⟨decide_eq_false (by omega), decide_eq_false h⟩
        have hsize : (decide ((1000 : Int) < (t.size : Int)) = false) ∨ ((1000 : Int) < (t.size : Int) ∧ decide ((t.size : Int) ≤ 65536) = false) ∨ ((1000 : Int) < (t.size : Int) ∧ (t.size : Int) ≤ 65536) := by
          by_cases h : (1000 : Int) < (t.size : Int)
          · by_cases h2 : (t.size : Int) ≤ 65536
            · exact .inr (.inr ⟨h, h2⟩)
            · exact .inr (.inl ⟨h, decide_eq_false h2⟩)
          · exact .inl (decide_eq_false h)
        clear hlt hx1
        rcases hguard with ⟨g1, g1'⟩ | ⟨g1, g2⟩ <;> rcases hsize with s1 | ⟨s1, s2⟩ | ⟨s1, s2⟩
        all_goals
          go_wp2_with fail
          go_ret
          first | exact ⟨r, rfl, by omega, by omega, HG2.out⟩ | exact ⟨m + 1, rfl, by omega, by omega, HG2.out⟩
theorem many_any (x : Itm) : ManyC x := by
  generalize hn : SizeOf.sizeOf x = n
  induction n using Nat.strongRecOn generalizing x with
  | _ n ih =>
    subst hn
    exact many_step x fun i hi => ih _ (Itm.size_get hi) _ rfl

set_option maxRecDepth 100000 in
theorem few_any (x : Itm) (W : World) (sx : Value) (hsx : SubW W x.items sx) (hok : x.Ok) :
    Calls Tryd.prog 26 #[.agg #[.bool x.list, .string x.bytes, sx]] W fun e W' => ∃ r : Bool, e = .returned (.bool r) ∧ W.grownBy W' none := by
  obtain ⟨A, c, rfl⟩ := hsx.slice
  have hG1 := only_alloc (World.grownBy.refl W none) (.cells #[.bool x.list, .string x.bytes, .slice A x.items.length c] 30)
  have HM := Lib.hid (many_any x _ 120 16 _ (hsx.grown hG1) hok (by omega) (by omega) (by omega) (by omega))
  have HG := Lib.hid hG1
  clear hG1 hsx
  go_enter Tryd.func26, Tryd.ntmps26
  go_wp2_with fail
  refine HM.out.mono ?_
  rintro e w2 ⟨r, rfl, h0, h1, hg⟩
  have HG := Lib.hid (grown_self HG.out hg (by simp))
  clear hg
  go_wp2_with fail
  go_ret
  exact ⟨decide (r ≤ 120), rfl, HG.out⟩
end Go.Proofs.YtmlkjackopiekaaDoor
