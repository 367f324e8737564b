/- A word as an item, and read again; a list's items. -/
import Derived.Test.YtmlkjackopiekaaDoorFldC
namespace Go.Proofs.YtmlkjackopiekaaDoor
open Go.RowKit Go.Shelf
set_option linter.unusedVariables false
set_option linter.unusedSimpArgs false

abbrev wZ : Array Value := #[.int .u64 0, .int .u64 0, .int .u64 0, .int .u64 0]
theorem only_set4 {a W : World} {b : Nat} (h : a.grownBy W none) (hb : a.heap.size ≤ b) (x y z u : Value) : a.grownBy ((((W.setCell ⟨b, 0, none⟩ x).setCell ⟨b, 1, none⟩ y).setCell ⟨b, 2, none⟩ z).setCell ⟨b, 3, none⟩ u) none :=
  only_set (only_set (only_set (only_set h (p := ⟨b, 0, none⟩) hb x) (p := ⟨b, 1, none⟩) hb y) (p := ⟨b, 2, none⟩) hb z) (p := ⟨b, 3, none⟩) hb u
theorem blk_set4 {W : World} {b : Nat} {t : TypeId} {p q r s : Value} (h : Blk W b t #[p, q, r, s]) (x y z u : Value) : Blk ((((W.setCell ⟨b, 0, none⟩ x).setCell ⟨b, 1, none⟩ y).setCell ⟨b, 2, none⟩ z).setCell ⟨b, 3, none⟩ u) b t #[x, y, z, u] :=
  (((h.set_ 0 x).set_ 1 y).set_ 2 z).set_ 3 u

set_option maxRecDepth 100000 in
set_option maxHeartbeats 1000000 in
theorem getList_any (l : Bool) (s : ByteArray) (A : Option Addr) (n c : Nat) (least most : Int) (w : World) :
    Calls Tryd.prog 30 #[.agg #[.bool l, .string s, .slice A n c], .int .i64 least, .int .i64 most] w fun e w' => e = .returned (.tuple #[if l = true ∧ textE n least most = 0 then .slice A n c else .slice none 0 0, .int .i64 (if l then textE n least most else 2)]) ∧ w.grownBy w' none := by
  have hB := Blk.new w 30 #[.bool l, .string s, .slice A n c]
  have HG := Lib.hid (only_alloc (World.grownBy.refl w none) (.cells #[.bool l, .string s, .slice A n c] 30))
  cases l with
  | false =>
    rw [show (if false = true ∧ textE n least most = 0 then Value.slice A n c else .slice none 0 0) = .slice none 0 0 from if_neg (by simp), show (if false = true then textE n least most else 2) = 2 from rfl]
    go_enter Tryd.func30, Tryd.ntmps30
    go_upto_region 1 with (fail)
    obtain ⟨b, hb⟩ : ∃ b, w.heap.size = b := ⟨_, rfl⟩
    rw [hb] at hB ⊢
    generalize w.alloc (.cells #[.bool false, .string s, .slice A n c] 30) = W1 at *
    have c0 := hB.cell 0
    simp only [List.getElem?_toArray, List.getElem?_cons_zero, List.getElem?_cons_succ] at c0
    go_wp2_with fail
    go_ret2
    exact ⟨rfl, HG.out⟩
  | true =>
    have hw := fun V => within_any (n : Int) least most V
    obtain ⟨E, hE⟩ : ∃ E, textE n least most = E := ⟨_, rfl⟩
    rw [show (if true = true then textE n least most else 2) = textE n least most from rfl, hE]
    obtain ⟨m, hm⟩ : ∃ m, (if true = true ∧ E = 0 then Value.slice A n c else .slice none 0 0) = m := ⟨_, rfl⟩
    rw [hm]
    unfold textE at hE
    rw [hE] at hw
    have HW := Lib.hid hw; have HM := Lib.hid hm
    clear hw hm hE
    go_enter Tryd.func30, Tryd.ntmps30
    go_upto_region 1 with (fail)
    obtain ⟨b, hb⟩ : ∃ b, w.heap.size = b := ⟨_, rfl⟩
    rw [hb] at hB ⊢
    generalize w.alloc (.cells #[.bool true, .string s, .slice A n c] 30) = W1 at *
    have c0 := hB.cell 0; have c2 := hB.cell 2
    simp only [List.getElem?_toArray, List.getElem?_cons_zero, List.getElem?_cons_succ] at c0 c2
    go_wp2_with fail
    refine (HW.out _).mono ?_
    rintro e w3 ⟨rfl, hw3⟩
    rw [hw3]
    clear hw3
    by_cases h0 : E = 0
    · subst h0
      have hm : Value.slice A n c = m := HM.out
      clear HM
      go_wp2_with fail
      go_ret2
      exact ⟨by rw [← hm]; rfl, HG.out⟩
    · have g1 : (E != 0) = true := by simpa using h0
      have hm : Hid (Value.slice none 0 0 = m) := Lib.hid (by have := HM.out; rwa [if_neg (fun h => h0 h.2)] at this)
      clear HM
      go_wp2_with fail
      go_ret2
      exact ⟨by rw [← hm.out]; rfl, HG.out⟩

set_option maxRecDepth 100000 in
set_option maxHeartbeats 2000000 in
theorem ofWord_any (l : Bool) (s : ByteArray) (sv : Value) (E : Int) (a0 a1 a2 a3 : Nat) (hz : E ≠ 0 ∨ l = true → a0 = 0 ∧ a1 = 0 ∧ a2 = 0 ∧ a3 = 0)
    (hU : l = false → ∀ W, Calls Tryd.prog 38 #[.string s] W fun e w' => e = .returned (.tuple #[.agg #[.int .u64 (a0 : Int), .int .u64 (a1 : Int), .int .u64 (a2 : Int), .int .u64 (a3 : Int)], .int .i64 E]) ∧ W.grownBy w' none) (w : World) :
    Calls Tryd.prog 37 #[.agg #[.bool l, .string s, sv], .func (Fn.func 38) #[] #[]] w fun e w' => e = .returned (.tuple #[.agg #[.int .u64 (a0 : Int), .int .u64 (a1 : Int), .int .u64 (a2 : Int), .int .u64 (a3 : Int)], .int .i64 (if l then 2 else E)]) ∧ w.grownBy w' none := by
  have hB := ((Blk.new w 30 #[.bool l, .string s, sv]).alloc (.cells wZ 24)).alloc (.cells wZ 24)
  have hR := (Blk.new (w.alloc (.cells #[.bool l, .string s, sv] 30)) 24 wZ).alloc (.cells wZ 24)
  have hN := Blk.new ((w.alloc (.cells #[.bool l, .string s, sv] 30)).alloc (.cells wZ 24)) 24 wZ
  rw [World.size_alloc] at hR
  rw [World.size_alloc, World.size_alloc] at hN
  have hG := only_alloc (only_alloc (only_alloc (World.grownBy.refl w none) (.cells #[.bool l, .string s, sv] 30)) (.cells wZ 24)) (.cells wZ 24)
  have HZ := Lib.hid hz; have HU := Lib.hid hU
  clear hz hU
  go_enter Tryd.func37, Tryd.ntmps37
  go_upto_region 2 with (fail)
  obtain ⟨b, hb⟩ : ∃ b, w.heap.size = b := ⟨_, rfl⟩
  have HWS := Lib.hid hb
  rw [hb] at hB hR hN ⊢
  clear hb
  generalize ((w.alloc (.cells #[.bool l, .string s, sv] 30)).alloc (.cells wZ 24)).alloc (.cells wZ 24) = W1 at *
  have hle : w.heap.size ≤ b + 1 := by have := HWS.out; omega
  have c0 := hB.cell 0; have c1 := hB.cell 1
  have n0 := hN.cell 0; have n1 := hN.cell 1; have n2 := hN.cell 2; have n3 := hN.cell 3
  have r0 := hR.cell 0; have r1 := hR.cell 1; have r2 := hR.cell 2; have r3 := hR.cell 3
  have f0 := hR.frozen 0; have f1 := hR.frozen 1; have f2 := hR.frozen 2; have f3 := hR.frozen 3
  simp only [List.getElem?_toArray, List.getElem?_cons_zero, List.getElem?_cons_succ] at c0 c1 n0 n1 n2 n3 r0 r1 r2 r3
  cases l with
  | true =>
    obtain ⟨rfl, rfl, rfl, rfl⟩ := HZ.out (.inr rfl)
    have HB5 := Lib.hid (blk_set4 hR (.int .u64 0) (.int .u64 0) (.int .u64 0) (.int .u64 0))
    have HG5 := Lib.hid (only_set4 hG hle (.int .u64 0) (.int .u64 0) (.int .u64 0) (.int .u64 0))
    clear HZ HU hG hB hR hN hle
    go_wp2_with fail
    refine bodyPost_ret (results_cv (fn := Tryd.f37) rfl _ _ _ _ rfl (load_word HB5.out)) rfl ?_
    exact ⟨rfl, HG5.out⟩
  | false =>
    have hU := Lib.hid (HU.out rfl)
    have HG := Lib.hid hG; have HB := Lib.hid hB; have HR := Lib.hid hR; have HN := Lib.hid hN
    clear HU hG hB hR hN
    go_wp2_with fail
    refine (hU.out _).mono ?_
    rintro e w3 ⟨rfl, hg3⟩
    have hR := (HR.out.grown hg3 (by simp)).alloc (.cells #[.int .u64 (a0 : Int), .int .u64 (a1 : Int), .int .u64 (a2 : Int), .int .u64 (a3 : Int)] 24)
    have hN := (HN.out.grown hg3 (by simp)).alloc (.cells #[.int .u64 (a0 : Int), .int .u64 (a1 : Int), .int .u64 (a2 : Int), .int .u64 (a3 : Int)] 24)
    have hV := Blk.new w3 24 #[.int .u64 (a0 : Int), .int .u64 (a1 : Int), .int .u64 (a2 : Int), .int .u64 (a3 : Int)]
    have hG := only_alloc (grown_self HG.out hg3 (by simp)) (.cells #[.int .u64 (a0 : Int), .int .u64 (a1 : Int), .int .u64 (a2 : Int), .int .u64 (a3 : Int)] 24)
    clear hg3 HG HB HR HN hU c0 c1 n0 n1 n2 n3 r0 r1 r2 r3 f0 f1 f2 f3
    go_upto_region 5 with (fail)
    obtain ⟨b3, hb3⟩ : ∃ b, w3.heap.size = b := ⟨_, rfl⟩
    rw [hb3] at hV ⊢
    clear hb3
    generalize w3.alloc (.cells #[.int .u64 (a0 : Int), .int .u64 (a1 : Int), .int .u64 (a2 : Int), .int .u64 (a3 : Int)] 24) = W4 at *
    have n0 := hN.cell 0; have n1 := hN.cell 1; have n2 := hN.cell 2; have n3 := hN.cell 3
    have v0 := hV.cell 0; have v1 := hV.cell 1; have v2 := hV.cell 2; have v3 := hV.cell 3
    have r0 := hR.cell 0; have r1 := hR.cell 1; have r2 := hR.cell 2; have r3 := hR.cell 3
    have f0 := hR.frozen 0; have f1 := hR.frozen 1; have f2 := hR.frozen 2; have f3 := hR.frozen 3
    simp only [List.getElem?_toArray, List.getElem?_cons_zero, List.getElem?_cons_succ] at n0 n1 n2 n3 v0 v1 v2 v3 r0 r1 r2 r3
    by_cases h0 : E = 0
    · subst h0
      have HB5 := Lib.hid (blk_set4 hR (.int .u64 (a0 : Int)) (.int .u64 (a1 : Int)) (.int .u64 (a2 : Int)) (.int .u64 (a3 : Int)))
      have HG5 := Lib.hid (only_set4 hG hle (.int .u64 (a0 : Int)) (.int .u64 (a1 : Int)) (.int .u64 (a2 : Int)) (.int .u64 (a3 : Int)))
      clear HZ hG hR hN hV hle
      go_wp2_with fail
      refine bodyPost_ret (results_cv (fn := Tryd.f37) rfl _ _ _ _ rfl (load_word HB5.out)) rfl ?_
      exact ⟨rfl, HG5.out⟩
    · obtain ⟨rfl, rfl, rfl, rfl⟩ := HZ.out (.inl h0)
      have g1 : (E != 0) = true := by simpa using h0
      have HB5 := Lib.hid (blk_set4 hR (.int .u64 0) (.int .u64 0) (.int .u64 0) (.int .u64 0))
      have HG5 := Lib.hid (only_set4 hG hle (.int .u64 0) (.int .u64 0) (.int .u64 0) (.int .u64 0))
      clear HZ hG hR hN hV hle
      go_wp2_with fail
      refine bodyPost_ret (results_cv (fn := Tryd.f37) rfl _ _ _ _ rfl (load_word HB5.out)) rfl ?_
      exact ⟨rfl, HG5.out⟩
end Go.Proofs.YtmlkjackopiekaaDoor
