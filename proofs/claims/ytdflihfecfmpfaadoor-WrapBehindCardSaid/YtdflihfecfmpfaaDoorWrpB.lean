/- Wrappers: Version, Check. -/
import Derived.Test.YtdflihfecfmpfaaDoorWrpA
namespace Go.Proofs.YtdflihfecfmpfaaDoor
open Go.RowKit Go.Shelf
set_option linter.unusedVariables false
set_option linter.unusedSimpArgs false

set_option maxRecDepth 100000 in
set_option maxHeartbeats 1000000 in
theorem version_any (s : ByteArray) (w : World) :
    Calls Tryd.prog 15 #[.string s] w fun e w' => e = .returned (.tuple #[.int .i64 (verN s.data.toList), .int .i64 (verE s.data.toList)]) ∧ w' = w := by
  have hsl := ba_len s
  by_cases h0 : s.size = 0
  · obtain rfl : s = ⟨#[]⟩ := ba_ext (by rw [List.eq_nil_of_length_eq_zero (l := s.data.toList) (by omega)])
    rw [show verN (⟨#[]⟩ : ByteArray).data.toList = 0 from rfl, show verE (⟨#[]⟩ : ByteArray).data.toList = 3 from rfl]
    go_enter Tryd.func15, Tryd.ntmps15
    go_wp2_with fail
    all_goals
      go_ret2
      exact ⟨rfl, rfl⟩
  obtain ⟨c, hc⟩ : ∃ c, s.data.toList.getD 0 0 = c := ⟨_, rfl⟩
  have hc0 : s.data.toList[0]? = some c := by rw [← hc, List.getD_eq_getElem?_getD, List.getElem?_eq_getElem (by omega)]; rfl
  have hidx := fun W => idx_str s 0 c hc0 W
  have hl0 : ¬ s.data.toList = [] := by intro h; rw [h] at hsl; simp at hsl; omega
  have g1 : (s.toList == []) = false := by rw [beq_eq_false_iff_ne, Lib.toList_data]; exact hl0
  have g2 : s.toList.isEmpty = false := by rw [Lib.toList_data]; cases hh : s.data.toList with | nil => exact absurd hh hl0 | cons a b => rfl
  have g3 : (s.toList == (⟨#[]⟩ : ByteArray).toList) = false := by rw [Lib.toList_data (⟨#[]⟩ : ByteArray)]; exact g1
  simp only [Int.ofNat_zero, Int.natCast_zero] at hidx
  have hN : verN s.data.toList = if c = 2 then 2 else 0 := by unfold verN; rw [hc]
  have hE : verE s.data.toList = if c = 2 then 0 else if 130 ≤ c.toNat ∧ c.toNat ≤ 191 then 0 else 9 := by unfold verE; rw [if_neg hl0, hc]
  rw [hN, hE]
  clear hN hE hl0 hsl hc hc0
  by_cases h1 : c = 2
  · subst h1
    rw [if_pos rfl, if_pos rfl]
    go_enter Tryd.func15, Tryd.ntmps15
    go_wp2_with fail
    all_goals
      go_ret2
      exact ⟨rfl, rfl⟩
  rw [if_neg h1, if_neg h1]
  have d1 : ((c.toNat : Int) == 2) = false := by
    rw [beq_eq_false_iff_ne]
    intro e
    exact h1 (UInt8.toNat_inj.1 (by show c.toNat = 2; omega))
  by_cases h2 : 130 ≤ c.toNat
  · have d2 : decide ((130 : Int) ≤ (c.toNat : Int)) = true := by simp; omega
    by_cases h3 : c.toNat ≤ 191
    · have d3 : decide ((c.toNat : Int) ≤ 191) = true := by simp; omega
      rw [if_pos ⟨h2, h3⟩]
      clear h1 h2 h3
      go_enter Tryd.func15, Tryd.ntmps15
      go_wp2_with fail
      all_goals
        go_ret2
        exact ⟨rfl, rfl⟩
    · have d3 : decide ((c.toNat : Int) ≤ 191) = false := by simp; omega
      rw [if_neg fun h => h3 h.2]
      clear h1 h2 h3
      go_enter Tryd.func15, Tryd.ntmps15
      go_wp2_with fail
      all_goals
        go_ret2
        exact ⟨rfl, rfl⟩
  · have d2 : decide ((130 : Int) ≤ (c.toNat : Int)) = false := by simp; omega
    rw [if_neg fun h => h2 h.1]
    clear h1 h2
    go_enter Tryd.func15, Tryd.ntmps15
    go_wp2_with fail
    all_goals
      go_ret2
      exact ⟨rfl, rfl⟩

theorem catB_bound {M : Nat} : ∀ (xs : List ByteArray), (∀ x ∈ xs, x.size ≤ M) → (catB xs).length ≤ xs.length * M
  | [], _ => by simp [catB]
  | x :: xs, h => by
    have h1 := catB_bound xs fun y hy => h y (by simp [hy])
    have h2 := h x (by simp)
    have h3 := size_list' x
    have e : catB (x :: xs) = x.data.toList ++ catB xs := by simp [catB]
    rw [e, List.length_append, List.length_cons, Nat.succ_mul]; omega
theorem no_long {xs : List ByteArray} (h : hasE 5 xs = false) : ∀ x ∈ xs, x.size ≤ 32768 := fun x hx => by
  rcases Nat.lt_or_ge 32768 x.size with g | g
  · have : hasE 5 xs = true := (hasE_iff _ _).2 ⟨x, hx, by unfold longE; rw [if_neg (by omega), if_pos g]⟩
    rw [h] at this; cases this
  · exact g

set_option maxRecDepth 100000 in
set_option maxHeartbeats 2000000 in
theorem wcheck_ok (v : Int) (hv : v = 0 ∨ v = 2) (B : Nat) (A : Option Addr) (n c : Nat) (xs : List ByteArray) (w : World) (hB : B ≤ w.heap.size) (h : Reads w B 1 A n (xs.map Value.string)) (hn : n ≤ 9223372036854775807) (hnc : n ≤ c) (hs : ∀ x ∈ xs, x.size ≤ 9223372036854775807) :
    Calls Tryd.prog 13 #[.int .i64 v, .slice A n c] w fun e w' => e = .returned (.int .i64 (checkW v xs)) ∧ w.grownBy w' none := by
  have hl : xs.length = n := by have := h.1; simpa using this
  have hv' : ¬ (v ≠ 0 ∧ v ≠ 2) := by omega
  have hvv := hv
  have HL := Lib.hid hl; have HR := Lib.hid h; have HB := Lib.hid hB; have HS := Lib.hid hs; have HV := Lib.hid hv'
  clear hs h
  by_cases h0 : n = 0
  · subst h0
    have hC : checkW v xs = 2 := by unfold checkW; rw [if_neg hv', if_pos (.inl hl)]
    rw [hC]
    clear hC hl hv'
    rcases hvv with rfl | rfl <;>
    · go_enter Tryd.func13, Tryd.ntmps13
      go_wp2_with fail
      go_ret
      exact ⟨rfl, World.grownBy.refl _ _⟩
  have d0 : ((n : Int) == 0) = false := by rw [beq_eq_false_iff_ne]; omega
  have H0 := Lib.hid h0
  have HN := Lib.hid hn
  have HK := Lib.hid hnc
  clear hl hv' h0 hB hnc hv
  rcases hvv with rfl | rfl <;>
  · go_enter Tryd.func13, Tryd.ntmps13
    go_wp2_with fail
    refine (is_any 2 _).mono ?_
    rintro e w1 ⟨rfl, hw1⟩
    have hg : w.grownBy w1 none := hw1 ▸ only_alloc (World.grownBy.refl w none) _
    have hb1 : Blk w1 w.heap.size 25 #[.int .i64 2] := hw1 ▸ Blk.new w _ _
    have HW := Lib.hid (contains_any B A n c xs _ 2 w1 (HR.out.grown hg HB.out (by simp)) (Nat.le_trans HB.out hg.size) HS.out HN.out hb1)
    clear hw1 hb1
    go_wp2_with fail
    refine HW.out.mono ?_
    rintro e w2 ⟨rfl, hg2⟩
    have hG := grown_self hg hg2 (by simp)
    clear hg hg2 HW
    cases hE2 : hasE 2 xs with
    | true =>
      have H2 := Lib.hid hE2
      clear hE2
      go_wp2_with fail
      go_ret
      refine ⟨?_, hG⟩
      unfold checkW
      rw [if_neg HV.out, if_pos (.inr H2.out)]; rfl
    | false =>
    have H2 := Lib.hid hE2
    clear hE2
    by_cases h64 : 64 < n
    · have d1 : decide ((64 : Int) < (n : Int)) = true := by simp; omega
      have H64 := Lib.hid h64
      clear h64
      go_wp2_with fail
      go_ret
      refine ⟨?_, hG⟩
      unfold checkW
      rw [if_neg HV.out, if_neg (fun e => by rcases e with e | e; exact H0.out (HL.out ▸ e); rw [H2.out] at e; cases e), if_pos (.inl (by rw [HL.out]; exact H64.out))]; rfl
    have d1 : decide ((64 : Int) < (n : Int)) = false := by simp; omega
    have H64 := Lib.hid (show n ≤ 64 by omega)
    clear h64
    go_wp2_with fail
    refine (is_any 5 _).mono ?_
    rintro e w3 ⟨rfl, hw3⟩
    have hg : w.grownBy w3 none := hw3 ▸ only_alloc hG _
    have hb1 : Blk w3 w2.heap.size 25 #[.int .i64 5] := hw3 ▸ Blk.new w2 _ _
    have HW := Lib.hid (contains_any B A n c xs _ 5 w3 (HR.out.grown hg HB.out (by simp)) (Nat.le_trans HB.out hg.size) HS.out HN.out hb1)
    clear hw3 hb1 hG
    go_wp2_with fail
    refine HW.out.mono ?_
    rintro e w4 ⟨rfl, hg2⟩
    have hG := grown_self hg hg2 (by simp)
    clear hg hg2 HW
    cases hE5 : hasE 5 xs with
    | true =>
      have H5 := Lib.hid hE5
      clear hE5
      go_wp2_with fail
      go_ret
      refine ⟨?_, hG⟩
      unfold checkW
      rw [if_neg HV.out, if_neg (fun e => by rcases e with e | e; exact H0.out (HL.out ▸ e); rw [H2.out] at e; cases e), if_pos (.inr (.inl H5.out))]; rfl
    | false =>
    have H5 := Lib.hid hE5
    have hcb := catB_bound xs (no_long hE5)
    have HA := Lib.hid (all_any B A n c xs w4 (Nat.le_trans HB.out hG.size) (HR.out.grown hG HB.out (by simp)) (by have := H64.out; omega) HK.out (by have := HL.out; have := H64.out; have : xs.length * 32768 ≤ 64 * 32768 := Nat.mul_le_mul_right _ (by omega); omega))
    clear hE5 hcb
    go_wp2_with fail
    refine HA.out.mono ?_
    rintro e w5 ⟨rfl, hg2⟩
    have hG := grown_self hG hg2 (by simp)
    clear hg2 HA
    by_cases hA : (catB xs).length ≤ 131072
    · have HAA := Lib.hid hA
      rw [decide_eq_true hA]
      clear hA
      go_wp2_with fail
      go_ret
      refine ⟨?_, hG⟩
      unfold checkW
      rw [if_neg HV.out, if_neg (fun e => by rcases e with e | e; exact H0.out (HL.out ▸ e); rw [H2.out] at e; cases e), if_neg (fun e => by
        rcases e with e | e | e
        · have := HL.out; have := H64.out; omega
        · rw [H5.out] at e; cases e
        · have := HAA.out; omega)]; rfl
    · have HAA := Lib.hid hA
      rw [decide_eq_false hA]
      clear hA
      go_wp2_with fail
      go_ret
      refine ⟨?_, hG⟩
      unfold checkW
      rw [if_neg HV.out, if_neg (fun e => by rcases e with e | e; exact H0.out (HL.out ▸ e); rw [H2.out] at e; cases e), if_pos (.inr (.inr (by first | (have := HAA.out; omega))))]; rfl
set_option maxRecDepth 100000 in
theorem wcheck_any (v : Int) (B : Nat) (A : Option Addr) (n c : Nat) (xs : List ByteArray) (w : World) (hB : B ≤ w.heap.size) (h : Reads w B 1 A n (xs.map Value.string)) (hn : n ≤ 9223372036854775807) (hnc : n ≤ c) (hs : ∀ x ∈ xs, x.size ≤ 9223372036854775807) :
    Calls Tryd.prog 13 #[.int .i64 v, .slice A n c] w fun e w' => e = .returned (.int .i64 (checkW v xs)) ∧ w.grownBy w' none := by
  by_cases hv : v = 0 ∨ v = 2
  · exact wcheck_ok v hv B A n c xs w hB h hn hnc hs
  · have hC : checkW v xs = 9 := if_pos (by omega)
    have d1 : (v != 0) = true := by rw [bne_iff_ne]; omega
    have d2 : (v != 2) = true := by rw [bne_iff_ne]; omega
    rw [hC]
    clear hC hv h hs
    go_enter Tryd.func13, Tryd.ntmps13
    go_wp2_with fail
    go_ret
    exact ⟨rfl, World.grownBy.refl _ _⟩
end Go.Proofs.YtdflihfecfmpfaaDoor
