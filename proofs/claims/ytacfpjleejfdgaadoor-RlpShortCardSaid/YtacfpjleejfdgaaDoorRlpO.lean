/- RlpDeep: plain laws and the walk. -/
import Derived.Test.YtacfpjleejfdgaaDoorRlpN
namespace Go.Proofs.YtacfpjleejfdgaaDoor
open Go.RowKit Go.Shelf
set_option linter.unusedVariables false
set_option linter.unusedSimpArgs false

mutual
theorem deep_form : ∀ (x : Itm) (d : Nat), d ≤ 12 → formF x d = 0 → deepF x + d ≤ 12
  | .mk l b xs, d, hd, h => by
    rw [formF] at h
    rw [deepF]
    split at h
    · cases h
    split at h
    · rename_i h2; rw [h2]; simp; exact hd
    rename_i h2
    have h2 : l = true := by simpa using h2
    subst h2
    split at h
    · cases h
    rename_i h3
    split at h
    · cases h
    have := deep_formL xs (d + 1) (by omega) h
    simp; omega
theorem deep_formL : ∀ (xs : List Itm) (d : Nat), d ≤ 12 → formL xs d = 0 → deepL xs + d ≤ 12
  | [], d, hd, _ => by rw [deepL]; omega
  | y :: ys, d, hd, h => by
    rw [formL] at h
    rw [deepL]
    split at h
    · rename_i h1; exact absurd h h1
    · rename_i h1
      have := deep_form y d hd (by simpa using h1)
      have := deep_formL ys d hd h
      omega
end
mutual
/-- in other lists: as deep as it may be -/
theorem form_at : ∀ (x : Itm) (d d' : Nat), d' ≤ 12 → formF x d = 0 → formF x d' = if 12 < deepF x + d' then 7 else 0
  | .mk l b xs, d, d', hd, h => by
    rw [formF] at h ⊢
    rw [deepF]
    split at h
    · cases h
    rename_i h1
    rw [if_neg h1]
    split at h
    · rename_i h2; subst h2; rw [if_pos rfl, if_neg (by simp; omega)]
    rename_i h2
    have h2' : l = true := by simpa using h2
    subst h2'
    rw [if_neg (by simp)]
    split at h
    · cases h
    split at h
    · cases h
    rename_i h4
    by_cases h5 : 12 ≤ d'
    · rw [if_pos h5, if_pos (by rw [if_pos rfl]; omega)]
    · rw [if_neg h5, if_neg h4, form_atL xs (d + 1) (d' + 1) (by omega) h, if_pos rfl, show deepL xs + (d' + 1) = deepL xs + 1 + d' by omega]
theorem form_atL : ∀ (xs : List Itm) (d d' : Nat), d' ≤ 12 → formL xs d = 0 → formL xs d' = if 12 < deepL xs + d' then 7 else 0
  | [], d, d', hd, h => by
    rw [formL, deepL, if_neg (by omega)]
  | y :: ys, d, d', hd, h => by
    rw [formL] at h ⊢
    rw [deepL]
    split at h
    · rename_i h1; exact absurd h h1
    rename_i h1
    rw [form_at y d d' hd (by simpa using h1), form_atL ys d d' hd h]
    by_cases a1 : 12 < deepF y + d'
    · rw [if_pos a1, if_pos (by decide), if_pos (by omega)]
    · rw [if_neg a1, if_neg (by simp)]
      by_cases a2 : 12 < deepL ys + d'
      · rw [if_pos a2, if_pos (by omega)]
      · rw [if_neg a2, if_neg (by omega)]
end
def inI (x : Itm) : Itm := .mk true ⟨#[]⟩ [x]
theorem inI_deep (x : Itm) : deepF (inI x) = deepF x + 1 := by
  rw [deepF_eq]
  show deepL [x] + 1 = _
  rw [deepL, deepL]; omega
theorem inI_check (x : Itm) (h : checkI x = 0) (hl : (bytesF x).length ≤ 60000) : deepF x ≤ 12 ∧ checkI (inI x) = if deepF x < 12 then 0 else 7 := by
  obtain ⟨_, _, h1⟩ := check_form h
  have hd := deep_form x 0 (by omega) h1
  have hf := form_at x 0 1 (by omega) h1
  refine ⟨by omega, ?_⟩
  have hfi : formF (inI x) 0 = formF x 1 := by
    unfold inI
    rw [formF, if_neg (by rintro (⟨_, h⟩ | ⟨h, _⟩); exact h rfl; cases h), if_neg (by simp), if_neg (by omega), if_neg (by simp), formL, formL]
    split
    · rfl
    · rename_i h2; simpa using (by simpa using h2 : formF x 1 = 0).symm
  have hb : (bytesF (inI x)).length ≤ 65536 := by
    rw [bytesF_eq]
    show (headL (bytesL [x]).length 192 ++ bytesL [x]).length ≤ _
    rw [bytesL, bytesL, List.append_nil, List.length_append]
    have := (headL_len (bytesF x).length 192 (by omega)).1
    omega
  unfold checkI
  rw [hfi, hf]
  by_cases h3 : deepF x < 12
  · rw [if_pos h3, if_neg (show ¬ 12 < deepF x + 1 by omega), if_neg (show ¬ (0 : Int) ≠ 0 by simp), if_neg (show ¬ 65536 < (bytesF (inI x)).length by omega)]
  · rw [if_neg h3, if_pos (show 12 < deepF x + 1 by omega), if_pos (show (7 : Int) ≠ 0 by decide)]
theorem inI_sub {W : World} {g : Nat} {x : Itm} {sx : Value} (h : Blk W g 24 #[.bool x.list, .string x.bytes, sx]) (hs : SubW W x.items sx) : SubW W (inI x).items (.slice (some ⟨g, 0, none⟩) 1 1) := by
  refine .mk (inI x).items (some ⟨g, 0, none⟩) 1 [sx] (fun _ => ⟨g, 0, rfl, h.lt, fun i hi => ?_⟩) (fun i hi => ?_)
  · have hi : i < 1 := hi
    obtain rfl : i = 0 := by omega
    exact ⟨h.cell 0, h.cell 1, h.cell 2⟩
  · have hi : i < 1 := hi
    obtain rfl : i = 0 := by omega
    exact hs
theorem inI_wt (x : Itm) : wtF (inI x) = wtF x + 10 := by
  rw [wtF_eq (inI x)]
  show 10 + 0 + wtL [x] = _
  rw [wtL, wtL]; omega

set_option maxRecDepth 100000 in
set_option maxHeartbeats 4000000 in
theorem deep_law (x : Itm) (W : World) (sx : Value) (hx : SubW W x.items sx) (hwx : wtF x ≤ 100000000) :
    Calls Tryd.prog 6 #[.agg #[.bool x.list, .string x.bytes, sx]] W fun e W' => e = .returned (.bool true) ∧ Below W.heap.size W W' := by
  have hox := ok_of_wt x (by omega)
  have HX : Hid (wtF x ≤ 1000000000) := Lib.hid (by omega)
  have HI : Hid (wtF (inI x) ≤ 1000000000) := Lib.hid (by rw [inI_wt]; omega)
  have hdx : deepF x ≤ 1000000000 := Nat.le_trans (deepF_le x) (by omega)
  have HCI := Lib.hid (inI_check x)
  obtain ⟨A, c, rfl⟩ := hx.slice
  have T := one_box W x _ hx
  clear hx
  go_enter Tryd.func6, Tryd.ntmps6
  go_upto_region 1 with (fail)
  obtain ⟨b, hb⟩ : ∃ b, W.heap.size = b := ⟨_, rfl⟩
  rw [hb] at T ⊢
  have HB := Lib.hid hb
  clear hb
  generalize W.alloc (.cells #[.bool x.list, .string x.bytes, .slice A x.items.length c] 24) = W1 at *
  obtain ⟨c0, c1, c2⟩ := T.cells
  go_wp2_with fail
  refine (worksP_any _).mono ?_
  rintro e w2 ⟨rfl, hg⟩
  replace T := T.grown hg
  clear hg c0 c1 c2
  obtain ⟨c0, c1, c2⟩ := T.cells
  go_wp2_with fail
  refine (few_any x _ _ T.sx hox).mono ?_
  rintro e w3 ⟨r1, rfl, hg⟩
  replace T := T.grown hg
  clear hg c0 c1 c2
  obtain ⟨c0, c1, c2⟩ := T.cells
  cases r1 with
  | false =>
    go_wp2_with fail
    go_ret
    exact ⟨rfl, T.below⟩
  | true =>
  go_upto_region 8 with (fail)
  have hr := Blk.new w3 24 #[.bool x.list, .string x.bytes, .slice A x.items.length c]
  replace T := T.grown (only_alloc (World.grownBy.refl w3 none) (.cells #[.bool x.list, .string x.bytes, .slice A x.items.length c] 24))
  have hi := Blk.new (w3.alloc (.cells #[.bool x.list, .string x.bytes, .slice A x.items.length c] 24)) 24 #[.bool true, .string ⟨#[]⟩, .slice (some ⟨w3.heap.size, 0, none⟩) 1 1]
  rw [World.size_alloc] at hi
  have hSU := (inI_sub hr T.sx).grown (only_alloc (World.grownBy.refl _ none) (.cells #[.bool true, .string ⟨#[]⟩, .slice (some ⟨w3.heap.size, 0, none⟩) 1 1] 24))
  replace T := T.grown (only_alloc (World.grownBy.refl _ none) (.cells #[.bool true, .string ⟨#[]⟩, .slice (some ⟨w3.heap.size, 0, none⟩) 1 1] 24))
  obtain ⟨g, hgg⟩ : ∃ g, w3.heap.size = g := ⟨_, rfl⟩
  rw [hgg] at hi ⊢
  rw [hgg] at hSU T
  generalize (w3.alloc (.cells #[.bool x.list, .string x.bytes, .slice A x.items.length c] 24)).alloc (.cells #[.bool true, .string ⟨#[]⟩, .slice (some ⟨g, 0, none⟩) 1 1] 24) = W4 at *
  have U : One W W4 (g + 1) (inI x) (.slice (some ⟨g, 0, none⟩) 1 1) := ⟨T.hg, hi, hSU⟩
  clear hr hi hSU hgg c0 c1 c2
  obtain ⟨c0, c1, c2⟩ := T.cells
  obtain ⟨d0, d1, d2⟩ := U.cells
  replace d0 : W4.cell? ⟨g + 1, 0, none⟩ = some (.bool true) := d0
  replace d1 : W4.cell? ⟨g + 1, 1, none⟩ = some (.string ⟨#[]⟩) := d1
  have HD := Lib.hid (inI_deep x)
  have hdi := fun V h => deep_any (inI x) V (.slice (some ⟨g, 0, none⟩) 1 1) h HI.out
  rw [HD.out] at hdi
  have hci := fun V h => checkP_any (inI x) V (.slice (some ⟨g, 0, none⟩) 1 1) h HI.out
  have HDI := Lib.hid hdi; have HCK := Lib.hid hci
  have v1 : IntKind.i64.wrap ((deepF x : Int) + 1) = (deepF x : Int) + 1 := IntWalk.i64_in _ (by omega)
  clear hdi hci
  go_wp2_with fail
  refine (deep_any x _ _ T.sx HX.out).mono ?_
  rintro e w5 ⟨rfl, hg⟩
  replace T := T.grown hg
  replace U := U.grown hg
  clear hg c0 c1 c2 d0 d1 d2
  obtain ⟨c0, c1, c2⟩ := T.cells
  obtain ⟨d0, d1, d2⟩ := U.cells
  replace d0 : w5.cell? ⟨g + 1, 0, none⟩ = some (.bool true) := d0
  replace d1 : w5.cell? ⟨g + 1, 1, none⟩ = some (.string ⟨#[]⟩) := d1
  go_wp2_with fail
  refine (HDI.out _ U.sx).mono ?_
  rintro e w6 ⟨rfl, hg⟩
  replace T := T.grown hg
  replace U := U.grown hg
  clear hg c0 c1 c2 d0 d1 d2
  obtain ⟨c0, c1, c2⟩ := T.cells
  obtain ⟨d0, d1, d2⟩ := U.cells
  replace d0 : w6.cell? ⟨g + 1, 0, none⟩ = some (.bool true) := d0
  replace d1 : w6.cell? ⟨g + 1, 1, none⟩ = some (.string ⟨#[]⟩) := d1
  go_wp2_with fail
  refine (checkP_any x _ _ T.sx HX.out).mono ?_
  rintro e w7 ⟨rfl, hg⟩
  replace T := T.grown hg
  replace U := U.grown hg
  clear hg c0 c1 c2 d0 d1 d2
  obtain ⟨c0, c1, c2⟩ := T.cells
  obtain ⟨d0, d1, d2⟩ := U.cells
  replace d0 : w7.cell? ⟨g + 1, 0, none⟩ = some (.bool true) := d0
  replace d1 : w7.cell? ⟨g + 1, 1, none⟩ = some (.string ⟨#[]⟩) := d1
  by_cases h1 : checkI x = 0
  · rw [h1]
    have hcc := fun h => HCI.out h1 h
    have HCC := Lib.hid hcc
    clear h1 hcc
    have hsz := fun V h => size_any x (.slice A x.items.length c) V h HX.out
    obtain ⟨l, hl⟩ : ∃ l, (bytesF x).length = l := ⟨_, rfl⟩
    rw [hl] at HCC hsz
    have HSZ := Lib.hid hsz
    clear hl hsz
    go_wp2_with fail
    refine (HSZ.out _ T.sx).mono ?_
    rintro e w8 ⟨rfl, hg⟩
    replace T := T.grown hg
    replace U := U.grown hg
    clear hg c0 c1 c2 d0 d1 d2
    obtain ⟨c0, c1, c2⟩ := T.cells
    obtain ⟨d0, d1, d2⟩ := U.cells
    replace d0 : w8.cell? ⟨g + 1, 0, none⟩ = some (.bool true) := d0
    replace d1 : w8.cell? ⟨g + 1, 1, none⟩ = some (.string ⟨#[]⟩) := d1
    by_cases h2 : l ≤ 60000
    · obtain ⟨h3, h4⟩ := HCC.out h2
      have e1 : decide ((60000 : Int) < (l : Int)) = false := decide_eq_false (by omega)
      have e2 : (deepF x : Int) ≤ 12 := by omega
      by_cases h5 : deepF x < 12
      · rw [if_pos h5] at h4
        rw [h4] at HCK
        have e3 : (deepF x : Int) < 12 := by omega
        generalize deepF x = d at *
        clear h2 h4 HCC HD
        go_wp2_with fail
        refine (HCK.out _ U.sx).mono ?_
        rintro e w9 ⟨rfl, hg⟩
        replace T := T.grown hg
        clear hg c0 c1 c2 d0 d1 d2
        go_wp2_with fail
        go_ret
        exact ⟨rfl, T.below⟩
      · rw [if_neg h5] at h4
        rw [h4] at HCK
        have e3 : decide ((deepF x : Int) < 12) = false := decide_eq_false (by omega)
        generalize deepF x = d at *
        clear h2 h4 HCC HD
        go_wp2_with fail
        refine (HCK.out _ U.sx).mono ?_
        rintro e w9 ⟨rfl, hg⟩
        replace T := T.grown hg
        replace U := U.grown hg
        clear hg c0 c1 c2 d0 d1 d2
        obtain ⟨d0, d1, d2⟩ := U.cells
        replace d0 : w9.cell? ⟨g + 1, 0, none⟩ = some (.bool true) := d0
        replace d1 : w9.cell? ⟨g + 1, 1, none⟩ = some (.string ⟨#[]⟩) := d1
        go_wp2_with fail
        refine (HCK.out _ U.sx).mono ?_
        rintro e w10 ⟨rfl, hg⟩
        replace T := T.grown hg
        clear hg d0 d1 d2
        go_wp2_with fail
        go_ret
        exact ⟨rfl, T.below⟩
    · have e1 : (60000 : Int) < (l : Int) := by omega
      clear h2 HCC
      go_wp2_with fail
      go_ret
      exact ⟨rfl, T.below⟩
  · have e1 : (checkI x != 0) = true := by simpa using h1
    generalize checkI x = E1 at *
    clear h1
    go_wp2_with fail
    go_ret
    exact ⟨rfl, T.below⟩
end Go.Proofs.YtacfpjleejfdgaaDoor
