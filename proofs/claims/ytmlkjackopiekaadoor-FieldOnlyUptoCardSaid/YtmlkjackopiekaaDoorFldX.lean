/- FieldBack: the walk. -/
import Derived.Test.YtmlkjackopiekaaDoorFldW
namespace Go.Proofs.YtmlkjackopiekaaDoor
open Go.RowKit Go.Shelf
set_option linter.unusedVariables false
set_option linter.unusedSimpArgs false

theorem ba_size (l : List UInt8) (k : Nat) (h : l.length ≤ k) : (⟨l.toArray⟩ : ByteArray).size ≤ k := by
  show l.toArray.size ≤ k
  simpa using h
/-- a number, made and read -/
theorem number_thru (n : Nat) (hn : n < 18446744073709551616) : ∃ b : ByteArray, b.data.toList = beN n ∧
    (∀ V, Calls Tryd.prog 8 #[.int .u64 (n : Int)] V fun e w' => e = .returned (.agg #[.bool false, .string b, .slice none 0 0]) ∧ V.grownBy w' none) ∧
    (∀ V, Calls Tryd.prog 20 #[.agg #[.bool false, .string b, .slice none 0 0]] V fun e w' => e = .returned (.tuple #[.int .u64 (n : Int), .int .i64 0]) ∧ V.grownBy w' none) := by
  obtain ⟨b, hb⟩ : ∃ b : ByteArray, b = ⟨(beN n).toArray⟩ := ⟨_, rfl⟩
  have hbl : b.data.toList = beN n := by rw [hb]
  have hz : b.size ≤ 8 := by rw [hb]; exact ba_size _ _ (beN_len8 n hn)
  refine ⟨b, hbl, fun V => ?_, fun V => ?_⟩
  · have := number_any n hn V
    rw [← hb] at this
    exact this
  · obtain ⟨p1, p2⟩ := number_back n hn b hbl
    have := getNumber_any false b (.slice none 0 0) (by omega) V
    rw [p1, p2] at this
    exact this
/-- a word, made and read -/
theorem word_thru (a0 a1 a2 a3 : Nat) (h0 : a0 < 18446744073709551616) (h1 : a1 < 18446744073709551616) (h2 : a2 < 18446744073709551616) (h3 : a3 < 18446744073709551616) : ∃ b : ByteArray, b.data.toList = beN (wordN a0 a1 a2 a3) ∧
    (∀ V, Calls Tryd.prog 10 #[.agg #[.int .u64 (a0 : Int), .int .u64 (a1 : Int), .int .u64 (a2 : Int), .int .u64 (a3 : Int)]] V fun e w' => e = .returned (.agg #[.bool false, .string b, .slice none 0 0]) ∧ V.grownBy w' none) ∧
    (∀ V, Calls Tryd.prog 21 #[.agg #[.bool false, .string b, .slice none 0 0]] V fun e w' => e = .returned (.tuple #[.agg #[.int .u64 (a0 : Int), .int .u64 (a1 : Int), .int .u64 (a2 : Int), .int .u64 (a3 : Int)], .int .i64 0]) ∧ V.grownBy w' none) := by
  obtain ⟨b, hb⟩ : ∃ b : ByteArray, b = ⟨(beN (wordN a0 a1 a2 a3)).toArray⟩ := ⟨_, rfl⟩
  have hbl : b.data.toList = beN (wordN a0 a1 a2 a3) := by rw [hb]
  have hz : b.size ≤ 32 := by rw [hb]; exact ba_size _ _ (beN_len _)
  refine ⟨b, hbl, fun V => ?_, fun V => ?_⟩
  · have := word_any a0 a1 a2 a3 h0 h1 h2 h3 V
    rw [← hb] at this
    exact this
  · obtain ⟨p1, q0, q1, q2, q3⟩ := word_back a0 a1 a2 a3 h0 h1 h2 h3 b hbl
    have := getWord_any false b (.slice none 0 0) (by omega) V
    rw [p1, q0, q1, q2, q3] at this
    exact this
/-- yes or no, made and read -/
theorem yes_thru (v : Bool) (V : World) : Calls Tryd.prog 23 #[.agg #[.bool false, .string (yesS v), .slice none 0 0]] V fun e w' => e = .returned (.tuple #[.bool v, .int .i64 0]) ∧ V.grownBy w' none := by
  have := getBool_any false (yesS v) (.slice none 0 0) V
  rw [(yes_back v).1, (yes_back v).2, if_pos ⟨rfl, rfl⟩, if_neg (by decide)] at this
  exact this
theorem text_thru (s : ByteArray) (V : World) : Calls Tryd.prog 22 #[.agg #[.bool false, .string s, .slice none 0 0], .int .i64 (s.size : Int), .int .i64 (s.size : Int)] V fun e w' => e = .returned (.tuple #[.string s, .int .i64 0]) ∧ V.grownBy w' none := by
  have := getText_any false s (.slice none 0 0) s.size s.size V
  rw [text_back6, if_pos ⟨rfl, rfl⟩, if_neg (by decide)] at this
  exact this
theorem gtx_txt (xs : List ByteArray) (M : Int) (h : ∀ x ∈ xs, (x.size : Int) ≤ M) : gtxE (xs.map txt) 0 M = 0 := by
  induction xs with
  | nil => rfl
  | cons x xs ih =>
    have h0 := h x (by simp)
    have hx : tE (txt x) 0 M = 0 := by
      show (if false = true then (2 : Int) else textE x.size 0 M) = 0
      rw [if_neg (by decide)]
      unfold textE
      rw [if_neg (by omega), if_neg (by omega)]
    rw [List.map_cons, gtxE, if_neg (by simp [hx])]
    exact ih fun y hy => h y (by simp [hy])
/-- texts, made and read -/
theorem texts_thru (A : Option Addr) (n c : Nat) (xs : List ByteArray) (M : Int) (hM : ∀ x ∈ xs, (x.size : Int) ≤ M) (hl : xs.length = n) (hn : n ≤ 100000) (V : World) (h : SubV (fun g => g < V.heap.size) V (xs.map txt) (.slice A n c)) :
    Calls Tryd.prog 24 #[.agg #[.bool true, .string ⟨#[]⟩, .slice A n c], .int .i64 (n : Int), .int .i64 0, .int .i64 M] V fun e w' => ∃ A' c', e = .returned (.tuple #[.slice A' n c', .int .i64 0]) ∧ Reads w' w'.heap.size 1 A' n (xs.map Value.string) ∧ V.grownBy w' none := by
  have e1 : textE n 0 n = 0 := by unfold textE; rw [if_neg (by omega), if_neg (by omega)]
  have e2 : gtYs true n n (xs.map txt) = xs.map txt := if_pos ⟨rfl, e1⟩
  have e3 : gtE true n n 0 M (xs.map txt) = 0 := by
    unfold gtE
    rw [e2, gtx_txt xs M hM, if_neg (by simp), if_pos rfl, e1]
  refine (getTexts_any true ⟨#[]⟩ A n c _ n 0 M V h hn).mono ?_
  rintro e w' ⟨v, ys, he, ho, hx, hg⟩
  rw [e3] at he hx
  rw [show ys = xs.map txt from hx] at ho
  rw [List.map_map, show ((fun y : Itm => Value.string y.bytes) ∘ txt) = Value.string from rfl, List.length_map, hl] at ho
  obtain ⟨A', c', rfl⟩ := own_slice3 ho
  exact ⟨A', c', he, Reads.of_own ho, hg⟩
set_option maxRecDepth 100000 in
set_option maxHeartbeats 4000000 in
theorem back6_law (n : Nat) (hn : n < 18446744073709551616) (a0 a1 a2 a3 : Nat) (h0 : a0 < 18446744073709551616) (h1 : a1 < 18446744073709551616) (h2 : a2 < 18446744073709551616) (h3 : a3 < 18446744073709551616) (s : ByteArray) (v : Bool) (A : Option Addr) (m c : Nat) (xs : List ByteArray) (W : World) (hR : Reads W W.heap.size 1 A m (xs.map Value.string)) (hm : m ≤ 9223372036854775807) (hs : s.size ≤ 9223372036854775807) :
    Calls Tryd.prog 4 #[.int .u64 (n : Int), .agg #[.int .u64 (a0 : Int), .int .u64 (a1 : Int), .int .u64 (a2 : Int), .int .u64 (a3 : Int)], .string s, .bool v, .slice A m c] W fun e w' => e = .returned (.bool true) ∧ Below W.heap.size W w' := by
  obtain ⟨bn, -, hN, hN'⟩ := number_thru n hn
  obtain ⟨bw, -, hW, hW'⟩ := word_thru a0 a1 a2 a3 h0 h1 h2 h3
  have HN := Lib.hid hN; have HN' := Lib.hid hN'; have HW := Lib.hid hW; have HW' := Lib.hid hW'
  have hl : xs.length = m := by have := hR.1; simpa using this
  have HL := Lib.hid hl
  clear hN hN' hW hW' hl hn h0 h1 h2 h3
  have hB := Blk.new W 24 #[.int .u64 (a0 : Int), .int .u64 (a1 : Int), .int .u64 (a2 : Int), .int .u64 (a3 : Int)]
  have hG := only_alloc (World.grownBy.refl W none) (.cells #[.int .u64 (a0 : Int), .int .u64 (a1 : Int), .int .u64 (a2 : Int), .int .u64 (a3 : Int)] 24)
  have HR := Lib.hid (hR.alloc (Nat.le_refl _) (.cells #[.int .u64 (a0 : Int), .int .u64 (a1 : Int), .int .u64 (a2 : Int), .int .u64 (a3 : Int)] 24))
  go_enter Tryd.func4, Tryd.ntmps4
  go_upto_region 1 with (fail)
  have HZ := Lib.hid (show W.heap.size ≤ (W.alloc (.cells #[.int .u64 (a0 : Int), .int .u64 (a1 : Int), .int .u64 (a2 : Int), .int .u64 (a3 : Int)] 24)).heap.size by simp)
  have HG := Lib.hid hG
  clear hR hG
  obtain ⟨b, hb⟩ : ∃ b, W.heap.size = b := ⟨_, rfl⟩
  rw [hb] at hB HR HZ ⊢
  have HB := Lib.hid hB
  have HE := Lib.hid hb
  clear hb hB
  generalize W.alloc (.cells #[.int .u64 (a0 : Int), .int .u64 (a1 : Int), .int .u64 (a2 : Int), .int .u64 (a3 : Int)] 24) = W1 at *
  go_wp2_with fail
  refine (works6_any _).mono ?_
  rintro e w2 ⟨rfl, hg⟩
  replace HG := Lib.hid (grown_self HG.out hg (by simp))
  replace HR := Lib.hid (HR.out.grown hg HZ.out (by simp))
  replace HZ := Lib.hid (Nat.le_trans HZ.out hg.size)
  replace HB := Lib.hid (HB.out.grown hg (by simp))
  clear hg
  by_cases hs3 : 300 < s.size
  · have g1 : decide ((300 : Int) < (s.size : Int)) = true := by simp; omega
    go_wp2_with fail
    go_ret
    exact ⟨rfl, below_of_grown HG.out⟩
  by_cases hm4 : 40 < m
  · have g1 : decide ((300 : Int) < (s.size : Int)) = false := by simp; omega
    have g2 : decide ((40 : Int) < (m : Int)) = true := by simp; omega
    go_wp2_with fail
    go_ret
    exact ⟨rfl, below_of_grown HG.out⟩
  have g1 : decide ((300 : Int) < (s.size : Int)) = false := by simp; omega
  have g2 : decide ((40 : Int) < (m : Int)) = false := by simp; omega
  have HM := Lib.hid (show m ≤ 40 by omega)
  clear hm hs hs3 hm4
  go_wp2_with fail
  refine (HN.out _).mono ?_
  rintro e w3 ⟨rfl, hg⟩
  replace HG := Lib.hid (grown_self HG.out hg (by simp))
  replace HR := Lib.hid (HR.out.grown hg HZ.out (by simp))
  replace HZ := Lib.hid (Nat.le_trans HZ.out hg.size)
  replace HB := Lib.hid (HB.out.grown hg (by simp))
  clear hg
  go_wp2_with fail
  refine (HN'.out _).mono ?_
  rintro e w4 ⟨rfl, hg⟩
  replace HG := Lib.hid (grown_self HG.out hg (by simp))
  replace HR := Lib.hid (HR.out.grown hg HZ.out (by simp))
  replace HZ := Lib.hid (Nat.le_trans HZ.out hg.size)
  replace HB := Lib.hid (HB.out.grown hg (by simp))
  clear hg
  have k0 := HB.out.cell 0; have k1 := HB.out.cell 1; have k2 := HB.out.cell 2; have k3 := HB.out.cell 3
  simp only [List.getElem?_toArray, List.getElem?_cons_zero, List.getElem?_cons_succ] at k0 k1 k2 k3
  go_wp2_with fail
  refine (HW.out _).mono ?_
  rintro e w5 ⟨rfl, hg⟩
  replace HG := Lib.hid (grown_self HG.out hg (by simp))
  replace HR := Lib.hid (HR.out.grown hg HZ.out (by simp))
  replace HZ := Lib.hid (Nat.le_trans HZ.out hg.size)
  replace HB := Lib.hid (HB.out.grown hg (by simp))
  clear hg k0 k1 k2 k3
  go_wp2_with fail
  refine (HW'.out _).mono ?_
  rintro e w6 ⟨rfl, hg⟩
  replace HG := Lib.hid (grown_self HG.out hg (by simp))
  replace HR := Lib.hid (HR.out.grown hg HZ.out (by simp))
  replace HZ := Lib.hid (Nat.le_trans HZ.out hg.size)
  replace HB := Lib.hid (HB.out.grown hg (by simp))
  clear hg
  go_upto_region 8 with (fail)
  have HC := Lib.hid (Blk.new w6 24 #[.int .u64 (a0 : Int), .int .u64 (a1 : Int), .int .u64 (a2 : Int), .int .u64 (a3 : Int)])
  have hg := only_alloc (World.grownBy.refl w6 none) (.cells #[.int .u64 (a0 : Int), .int .u64 (a1 : Int), .int .u64 (a2 : Int), .int .u64 (a3 : Int)] 24)
  obtain ⟨d, hd⟩ : ∃ d, w6.heap.size = d := ⟨_, rfl⟩
  rw [hd] at HC ⊢
  generalize w6.alloc (.cells #[.int .u64 (a0 : Int), .int .u64 (a1 : Int), .int .u64 (a2 : Int), .int .u64 (a3 : Int)] 24) = w7 at *
  clear hd
  replace HG := Lib.hid (grown_self HG.out hg (by simp))
  replace HR := Lib.hid (HR.out.grown hg HZ.out (by simp))
  replace HZ := Lib.hid (Nat.le_trans HZ.out hg.size)
  replace HB := Lib.hid (HB.out.grown hg (by simp))
  clear hg
  go_wp2_with fail
  refine (text_any s _).mono ?_
  rintro e w8 ⟨rfl, hg⟩
  replace HG := Lib.hid (grown_self HG.out hg (by simp))
  replace HR := Lib.hid (HR.out.grown hg HZ.out (by simp))
  replace HZ := Lib.hid (Nat.le_trans HZ.out hg.size)
  replace HB := Lib.hid (HB.out.grown hg (by simp))
  replace HC := Lib.hid (HC.out.grown hg (by simp))
  clear hg
  go_wp2_with fail
  refine (text_thru s _).mono ?_
  rintro e w9 ⟨rfl, hg⟩
  replace HG := Lib.hid (grown_self HG.out hg (by simp))
  replace HR := Lib.hid (HR.out.grown hg HZ.out (by simp))
  replace HZ := Lib.hid (Nat.le_trans HZ.out hg.size)
  replace HB := Lib.hid (HB.out.grown hg (by simp))
  replace HC := Lib.hid (HC.out.grown hg (by simp))
  clear hg
  go_wp2_with fail
  refine (boolF_any v _).mono ?_
  rintro e w10 ⟨rfl, hg⟩
  replace HG := Lib.hid (grown_self HG.out hg (by simp))
  replace HR := Lib.hid (HR.out.grown hg HZ.out (by simp))
  replace HZ := Lib.hid (Nat.le_trans HZ.out hg.size)
  replace HB := Lib.hid (HB.out.grown hg (by simp))
  replace HC := Lib.hid (HC.out.grown hg (by simp))
  clear hg
  go_wp2_with fail
  refine (yes_thru v _).mono ?_
  rintro e w11 ⟨rfl, hg⟩
  replace HG := Lib.hid (grown_self HG.out hg (by simp))
  replace HR := Lib.hid (HR.out.grown hg HZ.out (by simp))
  replace HZ := Lib.hid (Nat.le_trans HZ.out hg.size)
  replace HB := Lib.hid (HB.out.grown hg (by simp))
  replace HC := Lib.hid (HC.out.grown hg (by simp))
  clear hg
  go_wp2_with fail
  go_loopw [20, 21] (fun p i wr => ∃ (k : Nat) (M : Int), i = .int .i64 k ∧ p = .int .i64 M ∧ k ≤ m ∧ wr = w11 ∧ Hid (∀ j : Nat, j < k → ((xs.getD j .empty).size : Int) ≤ M)) (fun _ i _ => m - (intOf i).toNat)
  case atStart => exact ⟨0, 0, rfl, rfl, by omega, rfl, Lib.hid (by intro j h1; omega)⟩
  case round =>
    obtain ⟨k, M, rfl, rfl, hk, rfl, hM⟩ := hrel
    have HMx := Lib.hid hM.out
    clear hM
    by_cases hlt : k < m
    · obtain ⟨g, off, rfl, hgb, hc⟩ := Reads.vals Value.string .empty HR.out hlt
      have c0 := hc k hlt
      have q1 : decide ((k : Int) < (m : Int)) = true := by simp; omega
      obtain ⟨x, hx⟩ : ∃ x, xs.getD k .empty = x := ⟨_, rfl⟩
      rw [hx] at c0
      have HX := Lib.hid hx
      clear hx hc
      go_wp2_with fail
      have hm40 := HM.out
      have hwk : wrap64 ((k : Int) + 1) = ((k + 1 : Nat) : Int) := IntWalk.wrap64_in _ (by omega)
      refine ⟨⟨k + 1, max M (x.size : Int), by rw [hwk], rfl, by omega, trivial, Lib.hid fun j hj => ?_⟩, by rw [hwk]; simp only [intOf]; omega⟩
      by_cases hjk : j = k
      · rw [hjk, HX.out]; exact Int.le_max_right _ _
      · exact Int.le_trans (HMx.out j (by omega)) (Int.le_max_left _ _)
    · obtain rfl : k = m := by omega
      have HMA : Hid (∀ x ∈ xs, (x.size : Int) ≤ M) := Lib.hid fun x hx => by
        obtain ⟨j, hj, rfl⟩ := List.getElem_of_mem hx
        have := HMx.out j (by have := HL.out; omega)
        rwa [List.getD_eq_getElem?_getD, List.getElem?_eq_getElem hj] at this
      clear hlt HMx
      have e0 := eq_word a0 a1 a2 a3
      go_wp2_with fail
      refine (texts_any b A k c xs _ HR.out HZ.out (by have := HM.out; omega)).mono ?_
      rintro e w12 ⟨A1, c1, rfl, hS, hg⟩
      replace hS := hS.here
      replace HG := Lib.hid (grown_self HG.out hg (by simp))
      replace HR := Lib.hid (HR.out.grown hg HZ.out (by simp))
      replace HZ := Lib.hid (Nat.le_trans HZ.out hg.size)
      replace HB := Lib.hid (HB.out.grown hg (by simp))
      replace HC := Lib.hid (HC.out.grown hg (by simp))
      clear hg
      go_wp2_with fail
      refine (texts_thru A1 k c1 xs M HMA.out HL.out (by have := HM.out; omega) _ hS).mono ?_
      rintro e w13 ⟨A2, c2, rfl, hR2, hg⟩
      replace HG := Lib.hid (grown_self HG.out hg (by simp))
      replace HR := Lib.hid (HR.out.grown hg HZ.out (by simp))
      replace HZ := Lib.hid (Nat.le_trans HZ.out hg.size)
      replace HB := Lib.hid (HB.out.grown hg (by simp))
      replace HC := Lib.hid (HC.out.grown hg (by simp))
      clear hg
      go_wp2_with fail
      refine (textsR_any _ _ A2 A k k c2 c xs xs _ hR2 HR.out (by have := HM.out; omega) (by have := HM.out; omega)).mono ?_
      rintro e w14 ⟨rfl, hg⟩
      rw [decide_eq_true (rfl : xs = xs)]
      replace hg := grown_of_below hg
      replace HG := Lib.hid (grown_self HG.out hg (by simp))
      replace HR := Lib.hid (HR.out.grown hg HZ.out (by simp))
      replace HZ := Lib.hid (Nat.le_trans HZ.out hg.size)
      replace HB := Lib.hid (HB.out.grown hg (by simp))
      replace HC := Lib.hid (HC.out.grown hg (by simp))
      clear hg
      have k0 := HB.out.cell 0; have k1 := HB.out.cell 1; have k2 := HB.out.cell 2; have k3 := HB.out.cell 3
      have d0 := HC.out.cell 0; have d1 := HC.out.cell 1; have d2 := HC.out.cell 2; have d3 := HC.out.cell 3
      simp only [List.getElem?_toArray, List.getElem?_cons_zero, List.getElem?_cons_succ] at k0 k1 k2 k3 d0 d1 d2 d3
      clear hS hR2
      have t1 : (s.toList == s.toList) = true := by simp
      go_wp2_with fail
      go_ret
      exact ⟨rfl, HE.out ▸ below_of_grown HG.out⟩
end Go.Proofs.YtmlkjackopiekaaDoor
