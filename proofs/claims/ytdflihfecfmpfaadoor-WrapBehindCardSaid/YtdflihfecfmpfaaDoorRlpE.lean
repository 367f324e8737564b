/- An item's bytes, as the document has them. -/
import Derived.Test.YtdflihfecfmpfaaDoorRlpC
import Derived.Test.YtdflihfecfmpfaaDoorRlpA1
namespace Go.Proofs.YtdflihfecfmpfaaDoor
open Go.RowKit Go.Shelf
set_option linter.unusedVariables false
set_option linter.unusedSimpArgs false

def BytesRC (x : Itm) : Prop := ∀ (W : World) (sx : Value), SubW W x.items sx → wtF x ≤ 1000000000 →
  Calls Tryd.prog 24 #[.agg #[.bool x.list, .string x.bytes, sx]] W fun e W' => e = .returned (.string ⟨(bytesF x).toArray⟩) ∧ W.grownBy W' none

theorem cat_strs (a b : ByteArray) (h : a.size + b.size ≤ 9223372036854775807) : ∀ V, (binOp .add 9 (.string a) (.string b)).run Tryd.prog V = .ok (.string (a ++ b)) V := fun V => run_string_add_sum (P := Tryd.prog) V a b h
theorem ba_cat (l m : List UInt8) : (⟨l.toArray⟩ : ByteArray) ++ ⟨m.toArray⟩ = ⟨(l ++ m).toArray⟩ := ba_ext (by rw [ba_toList])
theorem ba_cat' (l : List UInt8) (t : ByteArray) : (⟨l.toArray⟩ : ByteArray) ++ t = ⟨(l ++ t.data.toList).toArray⟩ := ba_ext (by rw [ba_toList])
theorem ba_sz (l : List UInt8) : (⟨l.toArray⟩ : ByteArray).size = l.length := by show l.toArray.size = _; simp

set_option maxRecDepth 100000 in
set_option maxHeartbeats 2000000 in
theorem bytesR_text (x : Itm) (hx : x.list = false) : BytesRC x := by
  intro W sx hsx hwt
  obtain ⟨A, c, rfl⟩ := hsx.slice
  have hbt : bytesF x = bytesT x.bytes := by rw [bytesF_eq, hx]; rfl
  have hwx := wtF_eq x
  have HG := Lib.hid (only_alloc (World.grownBy.refl W none) (.cells #[.bool x.list, .string x.bytes, .slice A x.items.length c] 51))
  rw [hbt]
  rw [hx] at HG ⊢
  have hlz : x.bytes.data.toList.length = x.bytes.size := Array.length_toList
  generalize x.items.length = n at *
  generalize hb : x.bytes = t at *
  by_cases h1 : t.size = 1 ∧ (t.data.toList.getD 0 0).toNat < 128
  · have hT : bytesT t = t.data.toList := if_pos h1
    obtain ⟨h1, h2⟩ := h1
    have d1 : 0 < t.size := by omega
    have hc : ((t[0]'d1).toNat : Int) < 128 := by
      have e2 : t.data[0]? = some (t[0]'d1) := Array.getElem?_eq_getElem d1
      have : t.data.toList.getD 0 0 = t[0]'d1 := by rw [List.getD_eq_getElem?_getD, Array.getElem?_toList, e2]; rfl
      rw [← this]; omega
    have e1 : ((t.size : Int) == 1) = true := by rw [beq_iff_eq]; omega
    have HT := Lib.hid hT
    clear hT hsx h1 h2 hlz hwx hb
    go_enter Tryd.func24, Tryd.ntmps24
    go_wp2_with fail
    go_ret
    exact ⟨by rw [HT.out]; rfl, HG.out⟩
  · have hT : bytesT t = headL t.size 128 ++ t.data.toList := if_neg h1
    have hls := headL_len t.size 128 (by omega)
    have hh := fun V => headR_any t.size 128 (by omega) (by omega) V
    obtain ⟨r, hr⟩ : ∃ r, headL t.size 128 = r := ⟨_, rfl⟩
    rw [hr] at hT hh hls
    have hcat := cat_strs ⟨r.toArray⟩ t (by rw [ba_sz]; omega)
    have hguard : ((t.size : Int) == 1) = false ∨ (((t.size : Int) == 1) = true ∧ ∃ d1 : 0 < t.size, decide (((t[0]'d1).toNat : Int) < 128) = false) := by
      by_cases hz : t.size = 1
      · refine .inr ⟨by rw [beq_iff_eq]; omega, by omega, ?_⟩
        have d1 : 0 < t.size := by omega
        have e2 : t.data[0]? = some (t[0]'d1) := Array.getElem?_eq_getElem d1
        have : t.data.toList.getD 0 0 = t[0]'d1 := by rw [List.getD_eq_getElem?_getD, Array.getElem?_toList, e2]; rfl
        have h2 : ¬ (t.data.toList.getD 0 0).toNat < 128 := fun h => h1 ⟨hz, h⟩
        rw [this] at h2
        exact decide_eq_false (by omega)
      · exact .inl (by rw [beq_eq_false_iff_ne]; omega)
    have HT := Lib.hid hT; have HH := Lib.hid hh
    have HC : Hid ((⟨r.toArray⟩ : ByteArray) ++ t = ⟨(r ++ t.data.toList).toArray⟩) := Lib.hid (ba_cat' r t)
    have hsum : r.length + t.size ≤ 9223372036854775807 := by omega
    have hrz : r.toArray.size = r.length := by simp
    clear hT hh hsx h1 hlz hwx hb hr hls
    rcases hguard with e1 | ⟨e1, d1, e2⟩
    all_goals
      go_enter Tryd.func24, Tryd.ntmps24
      go_wp2_with fail
      refine (HH.out _).mono ?_
      rintro e w2 ⟨rfl, hg1⟩
      have HG := Lib.hid (grown_self HG.out hg1 (by simp))
      clear hg1
      go_wp2_with fail
      go_ret
      exact ⟨by rw [HT.out, ← HC.out]; rfl, HG.out⟩

set_option maxRecDepth 100000 in
set_option maxHeartbeats 2000000 in
theorem bytesR_list (x : Itm) (hx : x.list = true) (hC : ∀ i, i < x.items.length → BytesRC (x.items.getD i Itm.none_)) : BytesRC x := by
  intro W sx hsx hwt
  obtain ⟨A, c, rfl⟩ := hsx.slice
  have hbt : bytesF x = headL (bytesL x.items).length 192 ++ bytesL x.items := by rw [bytesF_eq, hx]; rfl
  have hG1 := only_alloc (World.grownBy.refl W none) (.cells #[.bool x.list, .string x.bytes, .slice A x.items.length c] 51)
  have hx0 := Blk.new W 51 #[.bool x.list, .string x.bytes, .slice A x.items.length c]
  have hS1 := hsx.grown hG1
  have hwx := wtF_eq x
  have hok := (ok_of_wt x hwt).items
  rw [hx] at hG1 hx0 hS1
  have hlen := bytesL_len x.items (by omega)
  obtain ⟨xs, hxs⟩ : ∃ xs, x.items = xs := ⟨_, rfl⟩
  obtain ⟨n, hnn⟩ : ∃ n, xs.length = n := ⟨_, rfl⟩
  have hwi : ∀ k, k < xs.length → wtF (xs.getD k Itm.none_) + (bytesL (xs.take k)).length ≤ 1000000000 := by
    intro k hk
    have h1 := wtL_get hk
    have h2 := wtL_take xs k
    rw [hxs] at hwx
    have h3 := bytesL_len (xs.take k) (by omega)
    omega
  rw [hxs] at hbt hG1 hx0 hS1 hC hok hlen ⊢
  rw [hnn] at hG1 hx0 hS1 hok ⊢
  have HBT := Lib.hid hbt
  have HC := Lib.hid hC
  have HN := Lib.hid hnn
  have HWI := Lib.hid hwi
  have hll : (bytesL xs).length ≤ 1000000000 := by rw [hxs] at hwx; omega
  have HLL := Lib.hid hll
  rw [hx]
  clear hbt hC hnn hxs hsx hwi hwx hwt hx hlen hll
  go_enter Tryd.func24, Tryd.ntmps24
  go_upto_region 1 with (fail)
  generalize W.alloc (.cells #[.bool true, .string x.bytes, .slice A n c] 51) = W1 at *
  obtain ⟨b0, hb0⟩ : ∃ b0, W.heap.size = b0 := ⟨_, rfl⟩
  rw [hb0] at hx0 ⊢
  have c0 := hx0.cell 0; have c2 := hx0.cell 1
  simp only [List.getElem?_toArray, List.getElem?_cons_zero, List.getElem?_cons_succ] at c0 c2
  go_wp2_with fail
  clear c0 c2
  go_loopw [3, 4] (fun v i wr => ∃ k : Nat, i = .int .i64 k ∧ k ≤ n ∧ v = .string ⟨(bytesL (xs.take k)).toArray⟩ ∧ W1.grownBy wr none) (fun _ i _ => n - (intOf i).toNat)
  case atStart => exact ⟨0, rfl, by omega, rfl, World.grownBy.refl _ _⟩
  case round =>
    obtain ⟨k, rfl, hk, rfl, hg⟩ := hrel
    have hx1 := hx0.grown hg (by simp)
    have c1 := hx1.cell 2
    simp only [List.getElem?_toArray, List.getElem?_cons_zero, List.getElem?_cons_succ] at c1
    by_cases hlt : k < n
    · have hS := hS1.grown hg
      obtain ⟨he, vs, hvs, hr⟩ := hS.row
      rw [HN.out] at hvs hr
      obtain ⟨g, off, rfl, hgB, hc⟩ := hr (by omega)
      obtain ⟨k0, k1, k2⟩ := hc k hlt
      have hsv := hvs k hlt
      obtain ⟨y, hy⟩ : ∃ y, xs.getD k Itm.none_ = y := ⟨_, rfl⟩
      have hCk := HC.out k (by have := HN.out; omega)
      have hw1 := HWI.out k (by have := HN.out; omega)
      have htk : bytesL (xs.take (k + 1)) = bytesL (xs.take k) ++ bytesF y := by rw [take_item (by have := HN.out; omega), bytesL_snoc, hy]
      rw [hy] at k0 k1 hsv hCk hw1
      generalize vs.getD k undef = sv at *
      obtain ⟨As, cs, rfl⟩ := hsv.slice
      have HCK := Lib.hid (hCk _ _ hsv (by omega))
      have hly := bytesF_len y (by omega)
      have HTK := Lib.hid htk
      have HG2 := Lib.hid hg
      have q1 : (k : Int) < (n : Int) := by omega
      generalize bytesL (xs.take k) = dk at *
      obtain ⟨yl, hyl⟩ : ∃ yl, bytesF y = yl := ⟨_, rfl⟩
      rw [hyl] at HCK HTK hly
      have hcat := cat_strs ⟨dk.toArray⟩ ⟨yl.toArray⟩ (by rw [ba_sz, ba_sz]; omega)
      rw [ba_cat] at hcat
      have hsum : dk.length + yl.length ≤ 9223372036854775807 := by omega
      clear hS hvs hr hc hCk hy htk hsv he hx1 hyl hw1 hly
      go_wp2_with fail
      refine HCK.out.mono ?_
      rintro e w3 ⟨rfl, hg3⟩
      have hG3 := grown_self HG2.out hg3 (by simp)
      clear hg3 k0 k1 k2 HCK c1
      go_wp2_with fail
      exact ⟨⟨k + 1, by go_num, by omega, by rw [HTK.out, ba_cat], hG3⟩, by simp [intOf]; omega⟩
    · obtain rfl : k = n := by omega
      have hfin : decide ((k : Int) < (k : Int)) = false := by simp
      have hall : xs.take k = xs := by rw [← HN.out, List.take_length]
      rw [hall]
      have HG2 := Lib.hid (grown_self hG1 hg (by simp))
      obtain ⟨l, hl⟩ : ∃ l, bytesL xs = l := ⟨_, rfl⟩
      rw [hl]
      have hll := HLL.out
      rw [hl] at hll
      have hls := headL_len l.length 192 hll
      have hh := fun V => headR_any l.length 192 hll (by omega) V
      obtain ⟨r, hr⟩ : ∃ r, headL l.length 192 = r := ⟨_, rfl⟩
      rw [hr] at hh hls
      have HH := Lib.hid hh
      have HFIN : Hid (bytesF x = r ++ l) := Lib.hid (by rw [HBT.out, hl, hr])
      have hsum : r.length + l.length ≤ 9223372036854775807 := by omega
      have hrz : r.toArray.size = r.length := by simp
      have hlz : l.toArray.size = l.length := by simp
      clear hall hx1 hr hl hll hls hh
      go_wp2_with fail
      refine (HH.out _).mono ?_
      rintro e w3 ⟨rfl, hg3⟩
      have HG3 := Lib.hid (grown_self HG2.out hg3 (by simp))
      clear hg3
      go_wp2_with fail
      go_ret
      exact ⟨by rw [HFIN.out, ← ba_cat]; rfl, HG3.out⟩
theorem bytesR_item (x : Itm) : BytesRC x := by
  generalize hn : SizeOf.sizeOf x = n
  induction n using Nat.strongRecOn generalizing x with
  | _ n ih =>
    subst hn
    cases hx : x.list with
    | true => exact bytesR_list x hx fun i hi => ih _ (Itm.size_get hi) _ rfl
    | false => exact bytesR_text x hx
end Go.Proofs.YtdflihfecfmpfaaDoor
