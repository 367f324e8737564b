/- Whether an item may be (Check): what gives up, and is caught. -/
import Derived.Test.YtdflihfecfmpfaaDoorRlpE
import Derived.WalkLawsBesides
import Derived.Recover
namespace Go.Proofs.YtdflihfecfmpfaaDoor
open Go.RowKit Go.Shelf
set_option linter.unusedVariables false
set_option linter.unusedSimpArgs false

/-- what is thrown -/
def thrown (E : Int) : List PanicEntry := [{ v := .iface 75 (.agg #[.int .i64 E]), recovered := false }]
set_option maxRecDepth 100000 in
theorem need_yes (E : Int) (W : World) : Calls Tryd.prog 45 #[.bool true, .int .i64 E] W fun e W' => e = .returned (.tuple #[]) ∧ W' = W := by
  go_enter Tryd.func45, Tryd.ntmps45
  go_wp2_with fail
  go_end0
  exact ⟨rfl, rfl⟩
set_option maxRecDepth 100000 in
theorem need_no (E : Int) (W : World) : Calls Tryd.prog 45 #[.bool false, .int .i64 E] W fun e W' => e = .panicked (thrown E) ∧ W' = W := by
  go_enter Tryd.func45, Tryd.ntmps45
  go_wp2_with fail
  exact ⟨rfl, rfl, rfl⟩

theorem formL_take {xs : List Itm} {d k : Nat} (hk : k < xs.length) (h : formL (xs.take k) d = 0) : formL (xs.take (k + 1)) d = formF (xs.getD k Itm.none_) d := by
  rw [take_item hk]
  generalize xs.getD k Itm.none_ = y
  generalize xs.take k = l at h ⊢
  induction l with
  | nil => simp only [List.nil_append, formL]; split <;> simp_all
  | cons z l ih =>
    rw [formL] at h
    rw [List.cons_append, formL]
    split at h
    · rename_i h1; exact absurd h h1
    · rename_i h1; rw [if_neg h1]; exact ih h
theorem formL_app {l m : List Itm} {d : Nat} (h : formL l d ≠ 0) : formL (l ++ m) d = formL l d := by
  induction l with
  | nil => exact absurd rfl h
  | cons z l ih =>
    rw [formL] at h
    rw [List.cons_append, formL, formL]
    split
    · rfl
    · rename_i h1; rw [if_neg h1] at h; exact ih h
theorem formL_err {xs : List Itm} {d k : Nat} (hk : k < xs.length) (h0 : formL (xs.take k) d = 0) (h : formF (xs.getD k Itm.none_) d ≠ 0) : formL xs d = formF (xs.getD k Itm.none_) d := by
  have h1 := formL_take hk h0
  have := formL_app (l := xs.take (k + 1)) (m := xs.drop (k + 1)) (d := d) (by rw [h1]; exact h)
  rw [List.take_append_drop] at this
  rw [this, h1]

/-- how a look ends -/
def lookEnd (E : Int) : Ending := if E = 0 then .returned (.tuple #[]) else .panicked (thrown E)
def LookC (x : Itm) : Prop := ∀ (W : World) (d : Nat) (sx : Value), SubW W x.items sx → wtF x ≤ 1000000000 → d ≤ 1000 →
  Calls Tryd.prog 44 #[.agg #[.bool x.list, .string x.bytes, sx], .int .i64 (d : Int)] W fun e W' => e = lookEnd (formF x d) ∧ W.grownBy W' none

set_option maxRecDepth 100000 in
set_option maxHeartbeats 2000000 in
theorem lookP_bad (x : Itm) (d : Nat) (W : World) (sx : Value) (hsx : SubW W x.items sx) (h : (x.list = true ∧ x.bytes.size ≠ 0) ∨ (x.list = false ∧ x.items.length ≠ 0)) :
    Calls Tryd.prog 44 #[.agg #[.bool x.list, .string x.bytes, sx], .int .i64 (d : Int)] W fun e W' => e = lookEnd (formF x d) ∧ W.grownBy W' none := by
  obtain ⟨A, c, rfl⟩ := hsx.slice
  have HF : Hid (formF x d = 2) := Lib.hid (by rw [formF_eq, if_pos h])
  have HG := Lib.hid (only_alloc (World.grownBy.refl W none) (.cells #[.bool x.list, .string x.bytes, .slice A x.items.length c] 51))
  have HN := Lib.hid (fun V => need_no 2 V)
  rcases h with ⟨h1, h2⟩ | ⟨h1, h2⟩
  · rw [h1] at HG ⊢
    have e1 : (x.bytes.toList == []) = false := by
      have := str_ne (a := x.bytes) (b := ⟨#[]⟩) (by intro e; rw [e] at h2; exact h2 rfl)
      simpa using this
    have e2 : x.bytes.toList.isEmpty = false := by simpa using e1
    generalize x.bytes = b at *
    generalize x.items.length = n at *
    clear h2 h1
    go_enter Tryd.func44, Tryd.ntmps44
    go_wp2_with fail
    refine (HN.out _).mono ?_
    rintro e w2 ⟨rfl, rfl⟩
    exact ⟨rfl, by rw [HF.out]; rfl, HG.out⟩
  · rw [h1] at HG ⊢
    generalize x.bytes = b at *
    generalize x.items.length = n at *
    have e1 : ((n : Int) == 0) = false := by simpa using h2
    clear h2 h1
    go_enter Tryd.func44, Tryd.ntmps44
    go_wp2_with fail
    refine (HN.out _).mono ?_
    rintro e w2 ⟨rfl, rfl⟩
    exact ⟨rfl, by rw [HF.out]; rfl, HG.out⟩

set_option maxRecDepth 100000 in
set_option maxHeartbeats 2000000 in
/-- bytes, or a list that stands too deep, or is too long -/
theorem lookP_leaf (x : Itm) (d : Nat) (W : World) (sx : Value) (hsx : SubW W x.items sx) (hok : x.items.length ≤ 9223372036854775807) (h : (x.list = false ∧ x.items.length = 0) ∨ (x.list = true ∧ x.bytes.size = 0 ∧ (12 ≤ d ∨ 512 < x.items.length))) :
    Calls Tryd.prog 44 #[.agg #[.bool x.list, .string x.bytes, sx], .int .i64 (d : Int)] W fun e W' => e = lookEnd (formF x d) ∧ W.grownBy W' none := by
  obtain ⟨A, c, rfl⟩ := hsx.slice
  have HG := Lib.hid (only_alloc (World.grownBy.refl W none) (.cells #[.bool x.list, .string x.bytes, .slice A x.items.length c] 51))
  have HY := Lib.hid (fun E V => need_yes E V)
  have HN := Lib.hid (fun E V => need_no E V)
  have hf := formF_eq x d
  rcases h with ⟨h1, h2⟩ | ⟨h1, h2, h3⟩
  · have HF : Hid (formF x d = 0) := Lib.hid (by rw [hf, if_neg (by rw [h1, h2]; simp), if_pos h1])
    rw [h1] at HG ⊢
    generalize x.bytes = b at *
    generalize x.items.length = n at *
    have e1 : ((n : Int) == 0) = true := by simpa using h2
    clear h2 h1 hf hsx hok
    go_enter Tryd.func44, Tryd.ntmps44
    go_wp2_with fail
    refine (HY.out _ _).mono ?_
    rintro e w2 ⟨rfl, rfl⟩
    go_wp2_with fail
    refine bodyPost_ret (results_none rfl _ _ _) rfl ?_
    exact ⟨by rw [HF.out]; rfl, HG.out⟩
  · have hb : x.bytes = ⟨#[]⟩ := ba_ext (by have : x.bytes.data.toList.length = 0 := by rw [Array.length_toList]; exact h2
                                            exact List.eq_nil_of_length_eq_zero this)
    by_cases h4 : 12 ≤ d
    · have HF : Hid (formF x d = 7) := Lib.hid (by rw [hf, if_neg (by rw [h1, h2]; simp), if_neg (by rw [h1]; simp), if_pos h4])
      rw [h1, hb] at HG ⊢
      generalize x.items.length = n at *
      have e1 : decide ((d : Int) < 12) = false := decide_eq_false (by omega)
      have hx0 := Blk.new W 51 #[.bool true, .string ⟨#[]⟩, .slice A n c]
      clear h2 h1 hf hsx h3 h4 hok hb
      go_enter Tryd.func44, Tryd.ntmps44
      go_wp2_with fail
      refine (HY.out _ _).mono ?_
      rintro e w2 ⟨rfl, rfl⟩
      go_wp2_with fail
      refine (HN.out _ _).mono ?_
      rintro e w2 ⟨rfl, rfl⟩
      exact ⟨rfl, by rw [HF.out]; rfl, HG.out⟩
    · have h5 : 512 < x.items.length := by omega
      have HF : Hid (formF x d = 5) := Lib.hid (by rw [hf, if_neg (by rw [h1, h2]; simp), if_neg (by rw [h1]; simp), if_neg h4, if_pos h5])
      rw [h1, hb] at HG ⊢
      generalize x.items.length = n at *
      have e0 : (d : Int) < 12 := by omega
      have e1 : decide ((n : Int) ≤ 512) = false := decide_eq_false (by omega)
      clear h2 h1 hf hsx h3 h4 hb
      go_enter Tryd.func44, Tryd.ntmps44
      go_wp2_with fail
      refine (HY.out _ _).mono ?_
      rintro e w2 ⟨rfl, rfl⟩
      go_wp2_with fail
      refine (HY.out _ _).mono ?_
      rintro e w2 ⟨rfl, rfl⟩
      go_wp2_with fail
      refine (HN.out _ _).mono ?_
      rintro e w2 ⟨rfl, rfl⟩
      exact ⟨rfl, by rw [HF.out]; rfl, HG.out⟩

set_option maxRecDepth 100000 in
set_option maxHeartbeats 2000000 in
theorem lookP_list (x : Itm) (hC : ∀ i, i < x.items.length → LookC (x.items.getD i Itm.none_)) (d : Nat) (W : World) (sx : Value) (hsx : SubW W x.items sx) (hwt : wtF x ≤ 1000000000) (h1 : x.list = true) (h2 : x.bytes.size = 0) (h3 : d < 12) (h4 : x.items.length ≤ 512) :
    Calls Tryd.prog 44 #[.agg #[.bool x.list, .string x.bytes, sx], .int .i64 (d : Int)] W fun e W' => e = lookEnd (formF x d) ∧ W.grownBy W' none := by
  obtain ⟨A, c, rfl⟩ := hsx.slice
  have HY := Lib.hid (fun E V => need_yes E V)
  have hf : formF x d = formL x.items (d + 1) := by rw [formF_eq, if_neg (by rw [h1, h2]; simp), if_neg (by rw [h1]; simp), if_neg (by omega), if_neg (by omega)]
  have hb : x.bytes = ⟨#[]⟩ := ba_ext (by have : x.bytes.data.toList.length = 0 := by rw [Array.length_toList]; exact h2
                                          exact List.eq_nil_of_length_eq_zero this)
  have hG1 := only_alloc (World.grownBy.refl W none) (.cells #[.bool x.list, .string x.bytes, .slice A x.items.length c] 51)
  have hx0 := Blk.new W 51 #[.bool x.list, .string x.bytes, .slice A x.items.length c]
  have hS1 := hsx.grown hG1
  have hwx := wtF_eq x
  rw [h1, hb] at hG1 hx0 hS1
  rw [h1, hb]
  obtain ⟨xs, hxs⟩ : ∃ xs, x.items = xs := ⟨_, rfl⟩
  obtain ⟨n, hnn⟩ : ∃ n, xs.length = n := ⟨_, rfl⟩
  have hwi : ∀ k, k < xs.length → wtF (xs.getD k Itm.none_) ≤ 1000000000 := by
    intro k hk; have := wtL_get hk; rw [hxs] at hwx; omega
  rw [hxs] at hf hG1 hx0 hS1 hC h4 ⊢
  rw [hnn] at hG1 hx0 hS1 h4 ⊢
  have HFX := Lib.hid hf
  have HC := Lib.hid hC
  have HN := Lib.hid hnn
  have HWI := Lib.hid hwi
  have e0 : (d : Int) < 12 := by omega
  have e1 : (n : Int) ≤ 512 := by omega
  have v1 : IntKind.i64.wrap ((d : Int) + 1) = (d : Int) + 1 := IntWalk.i64_in _ (by omega)
  clear hf hC hnn hxs hsx hwi hwx hwt h1 h2 hb
  go_enter Tryd.func44, Tryd.ntmps44
  go_upto_region 1 with (fail)
  generalize W.alloc (.cells #[.bool true, .string ⟨#[]⟩, .slice A n c] 51) = W1 at *
  obtain ⟨b0, hb0⟩ : ∃ b0, W.heap.size = b0 := ⟨_, rfl⟩
  rw [hb0] at hx0 ⊢
  have c0 := hx0.cell 0; have c2 := hx0.cell 1; have c1 := hx0.cell 2
  simp only [List.getElem?_toArray, List.getElem?_cons_zero, List.getElem?_cons_succ] at c0 c1 c2
  go_wp2_with fail
  refine (HY.out _ _).mono ?_
  rintro e w2 ⟨rfl, rfl⟩
  go_wp2_with fail
  refine (HY.out _ _).mono ?_
  rintro e w2 ⟨rfl, rfl⟩
  go_wp2_with fail
  refine (HY.out _ _).mono ?_
  rintro e w2 ⟨rfl, rfl⟩
  go_wp2_with fail
  clear c0 c1 c2
  go_loopw [39] (fun i wr => ∃ k : Nat, i = .int .i64 k ∧ k ≤ n ∧ w2.grownBy wr none ∧ Hid (formL (xs.take k) (d + 1) = 0)) (fun i _ => n - (intOf i).toNat)
  case atStart => exact ⟨0, rfl, by omega, World.grownBy.refl _ _, Lib.hid rfl⟩
  case round =>
    obtain ⟨k, rfl, hk, hg, hI⟩ := hrel
    have HI := Lib.hid hI.out
    by_cases hlt : k < n
    · have hS := hS1.grown hg
      obtain ⟨he, vs, hvs, hr⟩ := hS.row
      rw [HN.out] at hvs hr
      obtain ⟨g, off, rfl, hgB, hc⟩ := hr (by omega)
      obtain ⟨k0, k1, k2⟩ := hc k hlt
      have hsv := hvs k hlt
      obtain ⟨y, hy⟩ : ∃ y, xs.getD k Itm.none_ = y := ⟨_, rfl⟩
      have hkx : k < xs.length := by have := HN.out; omega
      have hCk := HC.out k hkx
      have hw1 := HWI.out k hkx
      have htk := formL_take hkx HI.out
      have herr := formL_err hkx HI.out
      rw [hy] at k0 k1 hsv hCk hw1 htk herr
      generalize vs.getD k undef = sv at *
      obtain ⟨As, cs, rfl⟩ := hsv.slice
      have hgA := only_alloc (World.grownBy.refl wr none) (.cells #[.bool y.list, .string y.bytes, .slice As y.items.length cs] 51)
      have HCK := Lib.hid (hCk _ (d + 1) _ (SubW.grown hsv hgA) hw1 (by omega))
      have HTK := Lib.hid htk; have HERR := Lib.hid herr
      have HG2 := Lib.hid (grown_self hg hgA (by simp))
      have q1 : (k : Int) < (n : Int) := by omega
      clear hS hvs hr hc hCk hy htk hsv he hgA herr hw1 hkx
      go_wp2_with fail
      refine HCK.out.mono ?_
      rintro e w3 ⟨rfl, hg3⟩
      have hG3 := grown_self HG2.out hg3 (by simp)
      by_cases hE : formF y (d + 1) = 0
      · rw [hE, show lookEnd 0 = Ending.returned (.tuple #[]) from rfl]
        have HI3 : Hid (formL (xs.take (k + 1)) (d + 1) = 0) := Lib.hid (by rw [HTK.out, hE])
        clear hg3 k0 k1 k2 HCK hE
        go_wp2_with fail
        exact ⟨⟨k + 1, by go_num, by omega, hG3, HI3⟩, by simp [intOf]; omega⟩
      · have e1 : lookEnd (formF y (d + 1)) = .panicked (thrown (formF y (d + 1))) := if_neg hE
        rw [e1]
        exact ⟨rfl, by rw [HFX.out, HERR.out hE, e1], grown_self hG1 hG3 (by simp)⟩
    · obtain rfl : k = n := by omega
      have hfin : decide ((k : Int) < (k : Int)) = false := by simp
      have hall : xs.take k = xs := by rw [← HN.out, List.take_length]
      have hI2 := HI.out
      rw [hall] at hI2
      have HI2 := Lib.hid hI2
      have HG2 := Lib.hid (grown_self hG1 hg (by simp))
      clear hall hI2
      go_wp2_with fail
      go_end0
      exact ⟨by rw [HFX.out, HI2.out]; rfl, HG2.out⟩
theorem lookP_any (x : Itm) : LookC x := by
  generalize hn : SizeOf.sizeOf x = n
  induction n using Nat.strongRecOn generalizing x with
  | _ n ih =>
    subst hn
    intro W d sx hsx hwt hd
    have hok := (ok_of_wt x hwt).items
    cases hl : x.list with
    | false =>
      rw [← hl]
      by_cases h : x.items.length = 0
      · exact lookP_leaf x d W sx hsx hok (.inl ⟨hl, h⟩)
      · exact lookP_bad x d W sx hsx (.inr ⟨hl, h⟩)
    | true =>
      rw [← hl]
      by_cases h : x.bytes.size = 0
      · by_cases h3 : 12 ≤ d ∨ 512 < x.items.length
        · exact lookP_leaf x d W sx hsx hok (.inr ⟨hl, h, h3⟩)
        · exact lookP_list x (fun i hi => ih _ (Itm.size_get hi) _ rfl) d W sx hsx hwt hl h (by omega) (by omega)
      · exact lookP_bad x d W sx hsx (.inl ⟨hl, h⟩)
end Go.Proofs.YtdflihfecfmpfaaDoor
