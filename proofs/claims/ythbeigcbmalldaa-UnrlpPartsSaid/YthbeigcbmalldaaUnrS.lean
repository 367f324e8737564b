/- What a head tells (UnrlpHeads). -/
import Derived.Test.YthbeigcbmalldaaUnrR
namespace Go.Proofs.Ythbeigcbmalldaa
open Go.RowKit Go.Shelf
set_option linter.unusedVariables false
set_option linter.unusedSimpArgs false

theorem item_ok {k : Nat} {l : List UInt8} {a q : Nat} {x : Itm} (h : itemF k l a = .ok (x, q)) : lookE l (a : Int) = 0 ∧ x.list = lookL l (a : Int) ∧ q = lookFrom l (a : Int) + lookN l (a : Int) := by
  have key : ∀ sub, itemG sub l a = .ok (x, q) → lookE l (a : Int) = 0 ∧ x.list = lookL l (a : Int) ∧ q = lookFrom l (a : Int) + lookN l (a : Int) := by
    intro sub h
    unfold itemG at h
    split at h
    · cases h
    split at h
    · cases h
    rename_i h2
    have h2 : lookE l (a : Int) = 0 := by simpa using h2
    split at h
    · rename_i h3
      injection h with h; injection h with h4 h5
      subst h4
      exact ⟨h2, by rw [h3]; rfl, h5.symm⟩
    rename_i h3
    split at h
    · cases h
    · split at h
      · cases h
      · injection h with h; injection h with h4 h5
        subst h4
        exact ⟨h2, by rw [show lookL l (a : Int) = true by simpa using h3]; rfl, h5.symm⟩
  cases k with
  | zero => exact key none h
  | succ k => exact key _ h
theorem decode_head {l : List UInt8} {x : Itm} (h : decodeF l = .ok x) : lookE l 0 = 0 ∧ x.list = lookL l 0 ∧ lookFrom l 0 + lookN l 0 = l.length := by
  unfold decodeF at h
  split at h
  · cases h
  · split at h
    · cases h
    · rename_i y q hi
      split at h
      · cases h
      · rename_i hq
        injection h with h; subst h
        obtain ⟨h1, h2, h3⟩ := item_ok hi
        have h4 := (look_ok h1).2.1
        simp only [Int.ofNat_zero] at h1 h2 h3 h4
        exact ⟨h1, h2, by omega⟩
theorem look_nonneg {l : List UInt8} {i : Int} (h : lookE l i = 0) : 0 ≤ i := by
  unfold lookE at h
  split at h
  · cases h
  · omega

set_option maxRecDepth 100000 in
set_option maxHeartbeats 1000000 in
theorem heads_law (s : ByteArray) (i : Int) (W : World) (hs : s.size ≤ 9223372036854775807) (hi1 : -9223372036854775808 ≤ i) (hi2 : i ≤ 9223372036854775807) :
    Calls Try.prog 3 #[.string s, .int .i64 i] W fun e W' => e = .returned (.bool true) ∧ Below W.heap.size W W' := by
  have hlz : s.data.toList.length = s.size := ba_len s
  have HW := Lib.hid (works_any W)
  rcases Nat.lt_or_ge 1500 s.size with hlong | hlong
  · have d1 : (1500 : Int) < (s.size : Int) := by omega
    go_enter Try.func3, Try.ntmps3
    go_wp2_with fail
    refine HW.out.mono ?_
    rintro e w1 ⟨rfl, hg1⟩
    go_wp2_with fail
    go_ret
    exact ⟨rfl, below_of_grown hg1⟩
  have d1 : decide ((1500 : Int) < (s.size : Int)) = false := decide_eq_false (by omega)
  have hH := fun V => head_any s i (by omega) V
  have HH := Lib.hid hH
  clear hH
  by_cases hE : lookE s.data.toList i = 0
  · obtain ⟨a, rfl⟩ := Int.eq_ofNat_of_zero_le (look_nonneg hE)
    obtain ⟨b0, b1, b2, b3, b4, b5⟩ := look_ok hE
    have hN := fun V => next_any s (a : Int) (by omega) V (by omega)
    have hD := fun V => decode_any s V hs
    have hdh := fun x (h : decodeF s.data.toList = .ok x) => decode_head h
    rw [hE] at hN
    have HN := Lib.hid hN
    have HD := Lib.hid hD
    have HHD := Lib.hid hdh
    have HH2 := HH.out
    rw [hE] at HH2
    have HH3 := Lib.hid HH2
    have HAZ : a = 0 → lookFrom s.data.toList (a : Int) + lookN s.data.toList (a : Int) = lookFrom s.data.toList 0 + lookN s.data.toList 0 ∧ lookL s.data.toList (a : Int) = lookL s.data.toList 0 := by rintro rfl; exact ⟨rfl, rfl⟩
    have HAZ := Lib.hid HAZ
    clear hN hD hdh HH HH2 hE b5
    rw [hlz] at b1 HHD
    generalize lookFrom s.data.toList (a : Int) = F at *
    generalize lookN s.data.toList (a : Int) = N at *
    generalize lookL s.data.toList (a : Int) = L at *
    have v1 : IntKind.i64.wrap ((F : Int) + (N : Int)) = (F : Int) + (N : Int) := IntWalk.i64_in _ (by omega)
    have v2 : IntKind.i64.wrap ((a : Int) + 4) = (a : Int) + 4 := IntWalk.i64_in _ (by omega)
    go_enter Try.func3, Try.ntmps3
    go_wp2_with fail
    refine HW.out.mono ?_
    rintro e w1 ⟨rfl, hg1⟩
    go_wp2_with fail
    refine (HH3.out _).mono ?_
    rintro e w2 ⟨rfl, hg2⟩
    go_wp2_with fail
    refine (HN.out _).mono ?_
    rintro e w3 ⟨rfl, hg3⟩
    go_wp2_with fail
    refine (HD.out _).mono ?_
    rintro e w4 ⟨l, b, sA, sn, sc, E, rfl, hg4, htail⟩
    have hG := only_alloc (grown_self (grown_self (grown_self hg1 hg2 (by simp)) hg3 (by simp)) hg4 (by simp)) (.cells #[.bool l, .string b, .slice sA sn sc] 30)
    have hbk := Blk.new w4 30 #[.bool l, .string b, .slice sA sn sc]
    have c0 := hbk.cell 0
    simp only [List.getElem?_toArray, List.getElem?_cons_zero] at c0
    clear hbk hg1 hg2 hg3 hg4
    have f1 : (a : Int) ≤ (F : Int) := by omega
    have f2 : (F : Int) ≤ (a : Int) + 4 := by omega
    have f3 : (0 : Int) ≤ (N : Int) := by omega
    have f4 : (F : Int) + (N : Int) ≤ (s.size : Int) := by omega
    have f5 : (a : Int) < (F : Int) + (N : Int) := by omega
    have hB := below_of_grown hG
    clear hG
    by_cases ha : a = 0
    · rcases htail with ⟨x, h1, rfl, rfl, rfl, _⟩ | ⟨h1, h2, rfl, rfl, hsv⟩
      · obtain ⟨_, k2, k3⟩ := HHD.out x h1
        obtain ⟨k4, k5⟩ := HAZ.out ha
        rw [k2, ← k5] at c0 hB ⊢
        have HB := Lib.hid hB
        clear hB
        have e3 : ((F : Int) + (N : Int) == (s.size : Int)) = true := by rw [beq_iff_eq]; omega
        have e4 : ((a : Int) != 0) = false := by simpa using ha
        clear k2 k3 k4 k5 h1 ha
        go_wp2_with fail
        go_ret
        exact ⟨rfl, HB.out⟩
      · have e4 : ((a : Int) != 0) = false := by simpa using ha
        have e5 : (E != 0) = true := by simpa using h2
        cases hsv
        have HB := Lib.hid hB
        clear ha h1 h2 hB
        go_wp2_with fail
        go_ret
        exact ⟨rfl, HB.out⟩
    · have e4 : ((a : Int) != 0) = true := by simpa using ha
      have HB := Lib.hid hB
      clear htail ha hB
      go_wp2_with fail
      go_ret
      exact ⟨rfl, HB.out⟩
  · have e1 : (lookE s.data.toList i != 0) = true := by simpa using hE
    obtain ⟨b1, b2, b3⟩ := look_bad rfl hE
    have hN := fun V => next_any s i (by omega) V (by rw [b1, b2]; decide)
    have HN := Lib.hid hN
    clear hN
    have HH2 := HH.out
    have HN2 := HN.out
    rw [b1, b2, b3] at HH2
    rw [b1, b2] at HN2
    have HH3 := Lib.hid HH2
    have HN3 := Lib.hid HN2
    clear HH HH2 HN HN2 b1 b2 b3 hE
    generalize lookE s.data.toList i = E at *
    go_enter Try.func3, Try.ntmps3
    go_wp2_with fail
    refine HW.out.mono ?_
    rintro e w1 ⟨rfl, hg1⟩
    go_wp2_with fail
    refine (HH3.out _).mono ?_
    rintro e w2 ⟨rfl, hg2⟩
    go_wp2_with fail
    refine (HN3.out _).mono ?_
    rintro e w3 ⟨rfl, hg3⟩
    go_wp2_with fail
    go_ret
    exact ⟨rfl, below_of_grown (grown_self (grown_self hg1 hg2 (by simp)) hg3 (by simp))⟩
end Go.Proofs.Ythbeigcbmalldaa
