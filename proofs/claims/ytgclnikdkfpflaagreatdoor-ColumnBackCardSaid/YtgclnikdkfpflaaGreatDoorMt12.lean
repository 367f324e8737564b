/- Merged: CoF, CoG, MapF, UwA, TxD, ExC, CoH, CoI. -/
import Derived.Test.YtgclnikdkfpflaaGreatDoorMt1
import Derived.Test.YtgclnikdkfpflaaGreatDoorMt3
import Derived.Test.YtgclnikdkfpflaaGreatDoorMt4
import Derived.Test.YtgclnikdkfpflaaGreatDoorMt6
import Derived.Test.YtgclnikdkfpflaaGreatDoorMt7
import Derived.Test.YtgclnikdkfpflaaGreatDoorMt8
import Derived.Test.YtgclnikdkfpflaaGreatDoorMt9
import Derived.MapKept
import Derived.RangeFuncRecord
import Derived.Deep.WholeRow
namespace Go.Proofs.YtgclnikdkfpflaaGreatDoor
open Go.RowKit Go.Shelf
open List renaming set_cons_zero → jz, set_cons_succ → js, setIfInBounds_toArray → jb
set_option linter.unusedVariables false
set_option linter.unusedSimpArgs false
set_option maxRecDepth 100000
set_option maxHeartbeats 16000000
def oddKey (s : ByteArray) : Bool := decide (s.size ≠ 32)
def oddPair (a : AccV) : Bool := decide (a.addr.size ≠ 20) || a.keys.any oddKey
def oddAuth (a : AutV) : Bool := decide (a.addr.size ≠ 20) || decide (1 < a.y)
def bigPair (a : AccV) : Bool := decide (16 < a.keys.length)
theorem any_atG {α : Type} {d : α} {xs : List α} {p : α → Bool} {k : Nat} (hk : k < xs.length) (h : p (xs.getD k d) = true) : xs.any p = true := by
 rw [List.any_eq_true]
 refine ⟨xs.getD k d, ?_, h⟩
 rw [List.getD_eq_getElem?_getD, List.getElem?_eq_getElem hk]; exact List.getElem_mem hk
theorem any_noneG {α : Type} {d : α} {xs : List α} {p : α → Bool} (h : ∀ i, i < xs.length → p (xs.getD i d) = false) : xs.any p = false := by
 rw [List.any_eq_false]
 intro x hx
 obtain ⟨i, hi, rfl⟩ := List.getElem_of_mem hx
 have := h i hi
 rw [List.getD_eq_getElem?_getD, List.getElem?_eq_getElem hi] at this
 simpa using this
theorem oddKey_any (s : ByteArray) (w : World) : Calls Tryz.prog 102 #[.string s] w fun e w' => e = .returned (.bool (oddKey s)) ∧ w' = w := by
 obtain ⟨r, hr⟩ : ∃ r, oddKey s = r := ⟨_, rfl⟩
 rw [hr]
 by_cases h : s.size = 32
 ·have hf : r = false := by rw [← hr]; simp [oddKey, h]
  subst hf
  have q : ((s.size : Int) != 32) = false := by simp; omega
  clear hr h
  go_enter Tryz.func102, Tryz.ntmps102
  go_wp2_with fail
  go_ret
  exact ⟨rfl, rfl⟩
 ·have hf : r = true := by rw [← hr]; simp [oddKey, h]
  subst hf
  have q : ((s.size : Int) != 32) = true := by simp; omega
  clear hr h
  go_enter Tryz.func102, Tryz.ntmps102
  go_wp2_with fail
  go_ret
  exact ⟨rfl, rfl⟩
theorem keysIndex_any (B : Nat) (A : Option Addr) (n c : Nat) (xs : List ByteArray) (w : World) (h : Reads w B 1 A n (xs.map Value.string)) (hn : n ≤ 9223372036854775807) :
  Calls Tryz.prog 138 #[.slice A n c, .func (.func 102) #[] #[]] w fun e w' => (∃ i : Int, e = .returned (.int .i64 i) ∧ decide (0 ≤ i) = xs.any oddKey) ∧ w' = w := by
 have hl : xs.length = n := by have := h.1; simpa using this
 have HL := Lib.hid hl; have HR := Lib.hid h
 clear hl h
 go_enter Tryz.func138, Tryz.ntmps138
 go_wp2_with fail
 go_loopw [8] (fun i wr => ∃ k : Nat, i = .int .i64 k ∧ k ≤ n ∧ w = wr ∧ Hid (∀ i : Nat, i < k → oddKey (xs.getD i .empty) = false)) (fun i _ => n - (intOf i).toNat)
 case atStart => exact ⟨0, rfl, by omega, rfl, Lib.hid (by intro i h1; omega)⟩
 case round =>
  obtain ⟨k, rfl, hk, rfl, h2⟩ := hrel
  have h2' := Lib.hid h2.out
  by_cases hlt : k < n
  ·obtain ⟨q, off, rfl, hq, hc⟩ := Reads.vals Value.string .empty HR.out hlt
   have c0 := hc k hlt
   have q1 : (k : Int) < (n : Int) := by omega
   obtain ⟨x, hx⟩ : ∃ x, xs.getD k .empty = x := ⟨_, rfl⟩
   rw [hx] at c0
   have HX := Lib.hid hx
   clear h2 hc hx
   go_wp2_with fail
   refine (oddKey_any x _).mono ?_
   rintro e w2 ⟨rfl, rfl⟩
   obtain ⟨r, hr⟩ : ∃ r, oddKey x = r := ⟨_, rfl⟩
   rw [hr]
   have HRR := Lib.hid hr
   clear c0 hr
   cases r with
   | true =>
    go_wp2_with fail
    go_ret
    refine ⟨⟨(k : Int), rfl, ?_⟩, rfl⟩
    rw [any_atG (d := .empty) (k := k) (by rw [HL.out]; exact hlt) (by rw [HX.out]; exact HRR.out)]
    exact decide_eq_true (by omega)
   | false =>
    go_wp2_with fail
    refine ⟨⟨k + 1, by go_num, by omega, by first | rfl | trivial, Lib.hid fun i hi => ?_⟩, by simp [intOf]; omega⟩
    by_cases hik : i = k
    ·rw [hik, HX.out]; exact HRR.out
    ·exact h2'.out i (by omega)
  ·have q1 : (n : Int) ≤ (k : Int) := by omega
   have hno := any_noneG (d := .empty) (p := oddKey) (xs := xs) (fun i hi => h2.out i (by have := HL.out; omega))
   have HNO := Lib.hid hno
   clear h2 h2' hno
   go_wp2_with fail
   go_ret
   exact ⟨⟨-1, rfl, by rw [HNO.out]; rfl⟩, rfl⟩
theorem keysContains_any (B : Nat) (A : Option Addr) (n c : Nat) (xs : List ByteArray) (w : World) (h : Reads w B 1 A n (xs.map Value.string)) (hn : n ≤ 9223372036854775807) :
  Calls Tryz.prog 104 #[.slice A n c, .func (.func 102) #[] #[]] w fun e w' => e = .returned (.bool (xs.any oddKey)) ∧ w' = w := by
 have HI := Lib.hid (keysIndex_any B A n c xs w h hn)
 clear h
 go_enter Tryz.func104, Tryz.ntmps104
 go_wp2_with fail
 refine HI.out.mono ?_
 rintro e w2 ⟨⟨i, rfl, hi⟩, rfl⟩
 have HI2 := Lib.hid hi
 clear hi
 go_wp2_with fail
 go_ret
 exact ⟨by rw [← HI2.out]; rfl, rfl⟩
theorem oddPair_any (l : AccV) (B : Nat) (T : Option Addr) (tc p : Nat) (w : World) (hp : Boxed w p 138 (.func (.func 102) #[] #[])) (h : Reads w B 1 T l.keys.length (l.keys.map Value.string)) (hB : B ≤ w.heap.size) (hn : l.keys.length ≤ 9223372036854775807) :
  Calls Tryz.prog 103 #[.agg (accC l T tc), .pointer (some ⟨p, 0, none⟩)] w fun e w' => e = .returned (.bool (oddPair l)) ∧ w.grownBy w' none := by
 have hG := only_alloc (World.grownBy.refl w none) (.cells (accC l T tc) 82)
 have hb := Blk.new w 82 (accC l T tc)
 have hp1 := hp.alloc (.cells (accC l T tc) 82)
 have hR := h.grown hG hB (by simp)
 have hpl := hp.lt
 obtain ⟨ad, xs⟩ := l
 simp only [accC] at *
 obtain ⟨r, hr⟩ : ∃ r, oddPair ⟨ad, xs⟩ = r := ⟨_, rfl⟩
 rw [hr]
 have HRR := Lib.hid hr
 obtain ⟨n, hl⟩ : ∃ n, xs.length = n := ⟨_, rfl⟩
 rw [hl] at hb hR hG hp1 hn ⊢
 have HC := Lib.hid (fun V (hV : Reads V B 1 T n (xs.map Value.string)) => keysContains_any B T n tc xs V hV hn)
 have HR := Lib.hid hR
 clear hr h hR hB hp hl hn
 go_enter Tryz.func103, Tryz.ntmps103
 go_upto_region 1 with (fail)
 obtain ⟨g, hg⟩ : ∃ g, w.heap.size = g := ⟨_, rfl⟩
 rw [hg] at hb hpl ⊢
 clear hg
 generalize w.alloc (.cells #[.string ad, .slice T n tc] 82) = w1 at *
 have c0 := hb.cell 0; have c1 := hb.cell 1; have cp := hp1.cell
 simp only [List.getElem?_toArray, List.getElem?_cons_zero, List.getElem?_cons_succ] at c0 c1
 have HG := Lib.hid hG
 clear hb hp1 hG
 by_cases ha : ad.size = 20
 ·have q : ((ad.size : Int) != 20) = false := by simp; omega
  have HA := Lib.hid ha
  clear ha
  go_wp2_with fail
  refine (HC.out _ HR.out).mono ?_
  rintro e w2 ⟨rfl, rfl⟩
  obtain ⟨s, hs⟩ : ∃ s, xs.any oddKey = s := ⟨_, rfl⟩
  rw [hs]
  have HSS := Lib.hid hs
  clear hs
  go_wp2_with fail
  go_ret
  refine ⟨?_, HG.out⟩
  rw [← HRR.out]
  show _ = Ending.returned (.bool (decide (ad.size ≠ 20) || xs.any oddKey))
  rw [HSS.out, HA.out]; rfl
 ·have q : ((ad.size : Int) != 20) = true := by simp; omega
  have HA := Lib.hid ha
  clear ha
  go_wp2_with fail
  go_ret
  refine ⟨?_, HG.out⟩
  rw [← HRR.out]
  show _ = Ending.returned (.bool (decide (ad.size ≠ 20) || xs.any oddKey))
  rw [decide_eq_true HA.out]; rfl
theorem bigPair_any (l : AccV) (T : Option Addr) (tc : Nat) (w : World) :
  Calls Tryz.prog 57 #[.agg (accC l T tc)] w fun e w' => e = .returned (.bool (bigPair l)) ∧ w.grownBy w' none := by
 have hG := only_alloc (World.grownBy.refl w none) (.cells (accC l T tc) 82)
 have hb := Blk.new w 82 (accC l T tc)
 obtain ⟨ad, xs⟩ := l
 simp only [accC] at *
 have hr : bigPair ⟨ad, xs⟩ = decide (16 < xs.length) := rfl
 rw [hr]
 clear hr
 obtain ⟨n, hl⟩ : ∃ n, xs.length = n := ⟨_, rfl⟩
 rw [hl] at hb hG ⊢
 clear hl
 have e1 : decide (16 < n) = decide ((16 : Int) < (n : Int)) := decide_eq_decide.2 (by omega)
 rw [e1]
 clear e1
 go_enter Tryz.func57, Tryz.ntmps57
 go_upto_region 1 with (fail)
 obtain ⟨g, hg⟩ : ∃ g, w.heap.size = g := ⟨_, rfl⟩
 rw [hg] at hb ⊢
 clear hg
 generalize w.alloc (.cells #[.string ad, .slice T n tc] 82) = w1 at *
 have c1 := hb.cell 1
 simp only [List.getElem?_toArray, List.getElem?_cons_zero, List.getElem?_cons_succ] at c1
 have HG := Lib.hid hG
 clear hb hG
 cases h1 : decide ((16 : Int) < (n : Int)) with
 | true =>
  have K1 := Lib.hid h1
  go_wp2_with fail
  go_ret
  exact ⟨by rw [K1.out]; rfl, HG.out⟩
 | false =>
  have K1 := Lib.hid h1
  go_wp2_with fail
  go_ret
  exact ⟨by rw [K1.out]; rfl, HG.out⟩
theorem oddAuth_any (l : AutV) (w : World) :
  Calls Tryz.prog 105 #[.agg (autL l).toArray] w fun e w' => e = .returned (.bool (oddAuth l)) ∧ w.grownBy w' none := by
 have hG := only_alloc (World.grownBy.refl w none) (.cells (autL l).toArray 89)
 have hb := Blk.new w 89 (autL l).toArray
 have hr : oddAuth l = (decide (l.addr.size ≠ 20) || decide (1 < l.y)) := rfl
 rw [hr]
 obtain ⟨ad, had⟩ : ∃ a, l.addr = a := ⟨_, rfl⟩
 obtain ⟨y, hy⟩ : ∃ a, l.y = a := ⟨_, rfl⟩
 have z1 : (autL l).toArray[1]? = some (.string ad) := by rw [← had]; rfl
 have z3 : (autL l).toArray[3]? = some (.int .u64 (y : Int)) := by rw [← hy]; rfl
 rw [had, hy, show decide (1 < y) = decide ((1 : Int) < (y : Int)) from decide_eq_decide.2 (by omega)]
 clear hr had hy
 generalize (autL l).toArray = cl at *
 go_enter Tryz.func105, Tryz.ntmps105
 go_upto_region 1 with (fail)
 obtain ⟨g, hg⟩ : ∃ g, w.heap.size = g := ⟨_, rfl⟩
 rw [hg] at hb ⊢
 clear hg
 generalize w.alloc (.cells cl 89) = w1 at *
 have c1 := (hb.cell 1).trans z1; have c3 := (hb.cell 3).trans z3
 have HG := Lib.hid hG
 clear hb hG z1 z3
 by_cases ha : ad.size = 20
 ·have q : ((ad.size : Int) != 20) = false := by simp; omega
  have HA := Lib.hid ha
  clear ha
  cases h1 : decide ((1 : Int) < (y : Int)) with
  | true =>
   have K1 := Lib.hid h1
   go_wp2_with fail
   go_ret
   exact ⟨by rw [K1.out]; simp, HG.out⟩
  | false =>
   have K1 := Lib.hid h1
   go_wp2_with fail
   go_ret
   exact ⟨by rw [K1.out]; simp [HA.out], HG.out⟩
 ·have q : ((ad.size : Int) != 20) = true := by simp; omega
  have HA := Lib.hid ha
  clear ha
  go_wp2_with fail
  go_ret
  exact ⟨by rw [decide_eq_true HA.out]; rfl, HG.out⟩
theorem pairsIndex_any (B : Nat) (A : Option Addr) (n c : Nat) (p : Nat) (ls : List AccV) (w : World) (hp : Boxed w p 138 (.func (.func 102) #[] #[])) (h : AccR B w ls A n) (hB : B ≤ w.heap.size) (hn : n ≤ 9223372036854775807) :
  Calls Tryz.prog 107 #[.slice A n c, .func (.func 103) #[] #[.pointer (some ⟨p, 0, none⟩)]] w fun e w' => (∃ i : Int, e = .returned (.int .i64 i) ∧ decide (0 ≤ i) = ls.any oddPair) ∧ w.grownBy w' none := by
 have HR := Lib.hid h; have HB := Lib.hid hB; have HL := Lib.hid h.1
 clear h hB
 go_enter Tryz.func107, Tryz.ntmps107
 go_wp2_with fail
 go_loopw [8] (fun i wr => ∃ k : Nat, i = .int .i64 k ∧ k ≤ n ∧ w.grownBy wr none ∧ Hid (∀ i : Nat, i < k → oddPair (ls.getD i AccV.none_) = false)) (fun i _ => n - (intOf i).toNat)
 case atStart => exact ⟨0, rfl, by omega, World.grownBy.refl _ _, Lib.hid (by intro i h1; omega)⟩
 case round =>
  obtain ⟨k, rfl, hk, hg, h2⟩ := hrel
  have h2' := Lib.hid h2.out
  have HGG := Lib.hid hg
  by_cases hlt : k < n
  ·obtain ⟨q, off, T, tc, x, rfl, hx, _, c0, c1, hT, hTn⟩ := (HR.out.grown hg HB.out).at_ hlt
   have q1 : (k : Int) < (n : Int) := by omega
   have HX := Lib.hid hx
   have HCALL := Lib.hid (oddPair_any x B T tc p _ (hp.kept hg (by simp)) hT (Nat.le_trans HB.out hg.size) hTn)
   clear h2 hx hT hTn hg
   obtain ⟨r, hr⟩ : ∃ r, oddPair x = r := ⟨_, rfl⟩
   rw [hr] at HCALL
   have HRR := Lib.hid hr
   clear hr
   simp only [accC] at HCALL
   go_wp2_with fail
   refine HCALL.out.mono ?_
   rintro e w2 ⟨rfl, hg2⟩
   have HG2 := Lib.hid (grown_self HGG.out hg2 (by simp))
   clear c0 c1 hg2 HCALL
   cases r with
   | true =>
    go_wp2_with fail
    go_ret
    refine ⟨⟨(k : Int), rfl, ?_⟩, HG2.out⟩
    rw [any_atG (d := AccV.none_) (k := k) (by rw [HL.out]; exact hlt) (by rw [HX.out]; exact HRR.out)]
    exact decide_eq_true (by omega)
   | false =>
    go_wp2_with fail
    refine ⟨⟨k + 1, by go_num, by omega, HG2.out, Lib.hid fun i hi => ?_⟩, by simp [intOf]; omega⟩
    by_cases hik : i = k
    ·rw [hik, HX.out]; exact HRR.out
    ·exact h2'.out i (by omega)
  ·have q1 : (n : Int) ≤ (k : Int) := by omega
   have hno := any_noneG (d := AccV.none_) (p := oddPair) (xs := ls) (fun i hi => h2.out i (by have := HL.out; omega))
   have HNO := Lib.hid hno
   clear h2 h2' hno hg
   go_wp2_with fail
   go_ret
   exact ⟨⟨-1, rfl, by rw [HNO.out]; rfl⟩, HGG.out⟩
theorem pairsContains_any (B : Nat) (A : Option Addr) (n c : Nat) (p : Nat) (ls : List AccV) (w : World) (hp : Boxed w p 138 (.func (.func 102) #[] #[])) (h : AccR B w ls A n) (hB : B ≤ w.heap.size) (hn : n ≤ 9223372036854775807) :
  Calls Tryz.prog 62 #[.slice A n c, .func (.func 103) #[] #[.pointer (some ⟨p, 0, none⟩)]] w fun e w' => e = .returned (.bool (ls.any oddPair)) ∧ w.grownBy w' none := by
 have HI := Lib.hid (pairsIndex_any B A n c p ls w hp h hB hn)
 clear h
 go_enter Tryz.func62, Tryz.ntmps62
 go_wp2_with fail
 refine HI.out.mono ?_
 rintro e w2 ⟨⟨i, rfl, hi⟩, hg⟩
 have HI2 := Lib.hid hi; have HG := Lib.hid hg
 clear hi hg
 go_wp2_with fail
 go_ret
 exact ⟨by rw [← HI2.out]; rfl, HG.out⟩
theorem bigsIndex_any (B : Nat) (A : Option Addr) (n c : Nat) (ls : List AccV) (w : World) (h : AccR B w ls A n) (hB : B ≤ w.heap.size) (hn : n ≤ 9223372036854775807) :
  Calls Tryz.prog 107 #[.slice A n c, .func (.func 57) #[] #[]] w fun e w' => (∃ i : Int, e = .returned (.int .i64 i) ∧ decide (0 ≤ i) = ls.any bigPair) ∧ w.grownBy w' none := by
 have HR := Lib.hid h; have HB := Lib.hid hB; have HL := Lib.hid h.1
 clear h hB
 go_enter Tryz.func107, Tryz.ntmps107
 go_wp2_with fail
 go_loopw [8] (fun i wr => ∃ k : Nat, i = .int .i64 k ∧ k ≤ n ∧ w.grownBy wr none ∧ Hid (∀ i : Nat, i < k → bigPair (ls.getD i AccV.none_) = false)) (fun i _ => n - (intOf i).toNat)
 case atStart => exact ⟨0, rfl, by omega, World.grownBy.refl _ _, Lib.hid (by intro i h1; omega)⟩
 case round =>
  obtain ⟨k, rfl, hk, hg, h2⟩ := hrel
  have h2' := Lib.hid h2.out
  have HGG := Lib.hid hg
  by_cases hlt : k < n
  ·obtain ⟨q, off, T, tc, x, rfl, hx, _, c0, c1, hT, hTn⟩ := (HR.out.grown hg HB.out).at_ hlt
   have q1 : (k : Int) < (n : Int) := by omega
   have HX := Lib.hid hx
   have HCALL := Lib.hid (bigPair_any x T tc wr)
   clear h2 hx hT hTn hg
   obtain ⟨r, hr⟩ : ∃ r, bigPair x = r := ⟨_, rfl⟩
   rw [hr] at HCALL
   have HRR := Lib.hid hr
   clear hr
   simp only [accC] at HCALL
   go_wp2_with fail
   refine HCALL.out.mono ?_
   rintro e w2 ⟨rfl, hg2⟩
   have HG2 := Lib.hid (grown_self HGG.out hg2 (by simp))
   clear c0 c1 hg2 HCALL
   cases r with
   | true =>
    go_wp2_with fail
    go_ret
    refine ⟨⟨(k : Int), rfl, ?_⟩, HG2.out⟩
    rw [any_atG (d := AccV.none_) (k := k) (by rw [HL.out]; exact hlt) (by rw [HX.out]; exact HRR.out)]
    exact decide_eq_true (by omega)
   | false =>
    go_wp2_with fail
    refine ⟨⟨k + 1, by go_num, by omega, HG2.out, Lib.hid fun i hi => ?_⟩, by simp [intOf]; omega⟩
    by_cases hik : i = k
    ·rw [hik, HX.out]; exact HRR.out
    ·exact h2'.out i (by omega)
  ·have q1 : (n : Int) ≤ (k : Int) := by omega
   have hno := any_noneG (d := AccV.none_) (p := bigPair) (xs := ls) (fun i hi => h2.out i (by have := HL.out; omega))
   have HNO := Lib.hid hno
   clear h2 h2' hno hg
   go_wp2_with fail
   go_ret
   exact ⟨⟨-1, rfl, by rw [HNO.out]; rfl⟩, HGG.out⟩
theorem bigsContains_any (B : Nat) (A : Option Addr) (n c : Nat) (ls : List AccV) (w : World) (h : AccR B w ls A n) (hB : B ≤ w.heap.size) (hn : n ≤ 9223372036854775807) :
  Calls Tryz.prog 62 #[.slice A n c, .func (.func 57) #[] #[]] w fun e w' => e = .returned (.bool (ls.any bigPair)) ∧ w.grownBy w' none := by
 have HI := Lib.hid (bigsIndex_any B A n c ls w h hB hn)
 clear h
 go_enter Tryz.func62, Tryz.ntmps62
 go_wp2_with fail
 refine HI.out.mono ?_
 rintro e w2 ⟨⟨i, rfl, hi⟩, hg⟩
 have HI2 := Lib.hid hi; have HG := Lib.hid hg
 clear hi hg
 go_wp2_with fail
 go_ret
 exact ⟨by rw [← HI2.out]; rfl, HG.out⟩
theorem authsIndex_any (B : Nat) (A : Option Addr) (n c : Nat) (ls : List AutV) (w : World) (h : AutR B w ls A n) (hn : n ≤ 9223372036854775807) :
  Calls Tryz.prog 139 #[.slice A n c, .func (.func 105) #[] #[]] w fun e w' => (∃ i : Int, e = .returned (.int .i64 i) ∧ decide (0 ≤ i) = ls.any oddAuth) ∧ w.grownBy w' none := by
 have HR := Lib.hid h; have HL := Lib.hid h.1
 clear h
 go_enter Tryz.func139, Tryz.ntmps139
 go_wp2_with fail
 go_loopw [8] (fun i wr => ∃ k : Nat, i = .int .i64 k ∧ k ≤ n ∧ w.grownBy wr none ∧ Hid (∀ i : Nat, i < k → oddAuth (ls.getD i AutV.none_) = false)) (fun i _ => n - (intOf i).toNat)
 case atStart => exact ⟨0, rfl, by omega, World.grownBy.refl _ _, Lib.hid (by intro i h1; omega)⟩
 case round =>
  obtain ⟨k, rfl, hk, hg, h2⟩ := hrel
  have h2' := Lib.hid h2.out
  have HGG := Lib.hid hg
  by_cases hlt : k < n
  ·obtain ⟨q, off, x, rfl, hx, _, hcx⟩ := (HR.out.grown hg).at_ hlt
   have q1 : (k : Int) < (n : Int) := by omega
   have q2 : (0 : Int) ≤ (k : Int) := by omega
   have HX := Lib.hid hx
   have HCX := Lib.hid hcx
   have HCALL := Lib.hid (oddAuth_any x wr)
   clear h2 hx hg hcx
   obtain ⟨r, hr⟩ : ∃ r, oddAuth x = r := ⟨_, rfl⟩
   rw [hr] at HCALL
   have HRR := Lib.hid hr
   clear hr
   go_upto_region 4 with (fail)
   refine wp_region_list ?_
   iterate 12 go_step
   refine wp_load_mid 89 (.tmp 14) rfl q (off + k * 12) rfl (autL x) _ HCX.out Tryz.underlying89 rfl (by kernel_rfl) ?_
   simp only [Act.put, jb, jz, js]
   generalize (autL x).toArray = cx at *
   go_wp2_with fail
   refine HCALL.out.mono ?_
   rintro e w2 ⟨rfl, hg2⟩
   have HG2 := Lib.hid (grown_self HGG.out hg2 (by simp))
   clear hg2 HCALL
   cases r with
   | true =>
    go_wp2_with fail
    go_ret
    refine ⟨⟨(k : Int), rfl, ?_⟩, HG2.out⟩
    rw [any_atG (d := AutV.none_) (k := k) (by rw [HL.out]; exact hlt) (by rw [HX.out]; exact HRR.out)]
    exact decide_eq_true (by omega)
   | false =>
    go_wp2_with fail
    refine ⟨⟨k + 1, by go_num, by omega, HG2.out, Lib.hid fun i hi => ?_⟩, by simp [intOf]; omega⟩
    by_cases hik : i = k
    ·rw [hik, HX.out]; exact HRR.out
    ·exact h2'.out i (by omega)
  ·have q1 : (n : Int) ≤ (k : Int) := by omega
   have hno := any_noneG (d := AutV.none_) (p := oddAuth) (xs := ls) (fun i hi => h2.out i (by have := HL.out; omega))
   have HNO := Lib.hid hno
   clear h2 h2' hno hg
   go_wp2_with fail
   go_ret
   exact ⟨⟨-1, rfl, by rw [HNO.out]; rfl⟩, HGG.out⟩
theorem authsContains_any (B : Nat) (A : Option Addr) (n c : Nat) (ls : List AutV) (w : World) (h : AutR B w ls A n) (hn : n ≤ 9223372036854775807) :
  Calls Tryz.prog 106 #[.slice A n c, .func (.func 105) #[] #[]] w fun e w' => e = .returned (.bool (ls.any oddAuth)) ∧ w.grownBy w' none := by
 have HI := Lib.hid (authsIndex_any B A n c ls w h hn)
 clear h
 go_enter Tryz.func106, Tryz.ntmps106
 go_wp2_with fail
 refine HI.out.mono ?_
 rintro e w2 ⟨⟨i, rfl, hi⟩, hg⟩
 have HI2 := Lib.hid hi; have HG := Lib.hid hg
 clear hi hg
 go_wp2_with fail
 go_ret
 exact ⟨by rw [← HI2.out]; rfl, HG.out⟩
def soundB (k : Int) (b1 p a c1 d0 d20 a0 s32 f20 : Bool) : Bool := if (b1 || p || a) = true then false else if k = 0 then c1 && (d0 || d20) else if k = 4 then d20 && a0 else if k = 126 then (s32 && f20) && (d0 || d20) else d0 || d20
def soundT (t : TxV) : Bool := soundB t.kind (decide (1 < t.y)) (t.acc.any oddPair) (t.auths.any oddAuth) (decide (t.chain ≤ 4611686018427387904)) (decide (t.dst.size = 0)) (decide (t.dst.size = 20)) (decide (0 < t.auths.length)) (decide (t.source.size = 32)) (decide (t.frm.size = 20))
theorem str_nil (s : ByteArray) : (s.toList == []) = decide (s.size = 0) := by
 rw [Lib.toList_data]
 have h : s.data.toList.length = s.size := Array.length_toList
 by_cases e : s.size = 0
 ·rw [decide_eq_true e]
  have : s.data.toList = [] := List.length_eq_zero_iff.1 (by omega)
  rw [this]; rfl
 ·rw [decide_eq_false e]
  cases hh : s.data.toList with
  | nil => rw [hh] at h; simp at h; omega
  | cons a b => rfl
theorem beq_n (s n : Nat) : ((s : Int) == (n : Int)) = decide (s = n) := by
 by_cases e : s = n
 ·subst e; simp
 ·rw [decide_eq_false e]; simp; omega
theorem txSoundC_any (t : TxV) (B : Nat) (sa sb : Value) (w : World) (h : TxIn B w t sa sb) (hB : B ≤ w.heap.size) :
  Calls Tryz.prog 61 #[.agg (txC t sa sb)] w fun e w' => e = .returned (.bool (soundT t)) ∧ w.grownBy w' none := by
 have hG := only_alloc (only_alloc (World.grownBy.refl w none) (.cells (txC t sa sb) 42)) (.cells #[.func (.func 102) #[] #[]] 138)
 have hb := (Blk.new w 42 (txC t sa sb)).alloc (.cells #[.func (.func 102) #[] #[]] 138)
 have hp := Boxed.new (w.alloc (.cells (txC t sa sb) 42)) 138 (.func (.func 102) #[] #[])
 rw [World.size_alloc] at hp
 have hI := h.grown hG hB
 have hB1 := Nat.le_trans hB hG.size
 obtain ⟨⟨pa, xa, rfl, hacc⟩, ⟨pb, xb, rfl, haut⟩, la, lb⟩ := hI
 have hS : soundT t = soundB t.kind (decide (1 < t.y)) (t.acc.any oddPair) (t.auths.any oddAuth) (decide (t.chain ≤ 4611686018427387904)) (decide (t.dst.size = 0)) (decide (t.dst.size = 20)) (decide (0 < t.auths.length)) (decide (t.source.size = 32)) (decide (t.frm.size = 20)) := rfl
 rw [hS]
 clear hS
 have z0 : (txC t (.slice pa t.acc.length xa) (.slice pb t.auths.length xb))[0]? = some (.int .i64 t.kind) := rfl
 have z1 : (txC t (.slice pa t.acc.length xa) (.slice pb t.auths.length xb))[1]? = some (.int .u64 (t.chain : Int)) := rfl
 have z12 : (txC t (.slice pa t.acc.length xa) (.slice pb t.auths.length xb))[12]? = some (.string t.dst) := rfl
 have z18 : (txC t (.slice pa t.acc.length xa) (.slice pb t.auths.length xb))[18]? = some (.slice pa t.acc.length xa) := rfl
 have z19 : (txC t (.slice pa t.acc.length xa) (.slice pb t.auths.length xb))[19]? = some (.slice pb t.auths.length xb) := rfl
 have z20 : (txC t (.slice pa t.acc.length xa) (.slice pb t.auths.length xb))[20]? = some (.int .u64 (t.y : Int)) := rfl
 have z29 : (txC t (.slice pa t.acc.length xa) (.slice pb t.auths.length xb))[29]? = some (.string t.source) := rfl
 have z30 : (txC t (.slice pa t.acc.length xa) (.slice pb t.auths.length xb))[30]? = some (.string t.frm) := rfl
 generalize txC t (.slice pa t.acc.length xa) (.slice pb t.auths.length xb) = ct at *
 obtain ⟨kind, chain, nonce, tip, price, gas, dst, value, data, acc, auths, y, r, s, source, frm, mint, system⟩ := t
 simp only at *
 obtain ⟨na, hna⟩ : ∃ n, acc.length = n := ⟨_, rfl⟩
 obtain ⟨nb, hnb⟩ : ∃ n, auths.length = n := ⟨_, rfl⟩
 rw [hna] at hacc la z18
 rw [hnb] at haut lb z19 ⊢
 have HPA := Lib.hid (fun (V : World) p hp hR hB => pairsContains_any B pa na xa p acc V hp hR hB la)
 have HAU := Lib.hid (fun (V : World) hR => authsContains_any B pb nb xb auths V hR lb)
 have e1 : decide ((1 : Int) < (y : Int)) = decide (1 < y) := decide_eq_decide.2 (by omega)
 have e2 : decide ((chain : Int) ≤ 4611686018427387904) = decide (chain ≤ 4611686018427387904) := decide_eq_decide.2 (by omega)
 have e3 : (dst.toList == []) = decide (dst.size = 0) := str_nil dst
 have e4 : ((dst.size : Int) == 20) = decide (dst.size = 20) := beq_n dst.size 20
 have e5 : decide ((0 : Int) < (nb : Int)) = decide (0 < nb) := decide_eq_decide.2 (by omega)
 have e6 : ((source.size : Int) == 32) = decide (source.size = 32) := beq_n source.size 32
 have e7 : ((frm.size : Int) == 20) = decide (frm.size = 20) := beq_n frm.size 20
 have e3i : dst.toList.isEmpty = decide (dst.size = 0) := by rw [← str_nil dst]; cases dst.toList <;> rfl
 generalize decide (1 < y) = b1 at *
 generalize decide (chain ≤ 4611686018427387904) = c1 at *
 generalize decide (dst.size = 0) = d0 at *
 generalize decide (dst.size = 20) = d20 at *
 generalize decide (0 < nb) = a0 at *
 generalize decide (source.size = 32) = s32 at *
 generalize decide (frm.size = 20) = f20 at *
 generalize acc.any oddPair = oa at *
 generalize auths.any oddAuth = ob at *
 have E2 := Lib.hid e2; have E3 := Lib.hid e3; have E4 := Lib.hid e4; have E5 := Lib.hid e5; have E6 := Lib.hid e6; have E7 := Lib.hid e7; have E3I := Lib.hid e3i
 clear e2 e3 e4 e5 e6 e7 e3i h hB hna hnb la lb
 go_enter Tryz.func61, Tryz.ntmps61
 go_upto_region 2 with (fail)
 obtain ⟨g, hg⟩ : ∃ g, w.heap.size = g := ⟨_, rfl⟩
 rw [hg] at hb hp ⊢
 clear hg
 generalize (w.alloc (.cells ct 42)).alloc (.cells #[.func (.func 102) #[] #[]] 138) = w1 at *
 have HACC := Lib.hid hacc; have HAUT := Lib.hid haut; have HB1 := Lib.hid hB1; have HG := Lib.hid hG; have HB := Lib.hid hb; have HP := Lib.hid hp
 clear hacc haut hB1 hG hb hp
 have c18 := (HB.out.cell 18).trans z18; have c20 := (HB.out.cell 20).trans z20
 cases b1 with
 | true =>
  go_wp2_with fail
  go_ret
  exact ⟨by simp [soundB], HG.out⟩
 | false =>
 go_wp2_with fail
 refine (HPA.out _ _ HP.out HACC.out HB1.out).mono ?_
 rintro e w2 ⟨rfl, hg⟩
 replace HG := Lib.hid (grown_self HG.out hg (by simp))
 replace HAUT := Lib.hid (HAUT.out.grown hg)
 replace HB := Lib.hid (HB.out.grown hg (by simp))
 clear hg c18 c20 e1 HPA HACC HP HB1
 have c19 := (HB.out.cell 19).trans z19
 cases oa with
 | true =>
  go_wp2_with fail
  go_ret
  exact ⟨by simp [soundB], HG.out⟩
 | false =>
 go_wp2_with fail
 refine (HAU.out _ HAUT.out).mono ?_
 rintro e w3 ⟨rfl, hg⟩
 replace HG := Lib.hid (grown_self HG.out hg (by simp))
 replace HB := Lib.hid (HB.out.grown hg (by simp))
 clear hg c19 HAU HAUT
 cases ob with
 | true =>
  go_wp2_with fail
  go_ret
  exact ⟨by simp [soundB], HG.out⟩
 | false =>
 have c0 := (HB.out.cell 0).trans z0; have c1' := (HB.out.cell 1).trans z1; have c12 := (HB.out.cell 12).trans z12; have c19 := (HB.out.cell 19).trans z19; have c29 := (HB.out.cell 29).trans z29; have c30 := (HB.out.cell 30).trans z30
 have e2 := E2.out; have e3 := E3.out; have e4 := E4.out; have e5 := E5.out; have e6 := E6.out; have e7 := E7.out; have e3i := E3I.out
 clear z0 z1 z12 z18 z19 z20 z29 z30 E2 E3 E4 E5 E6 E7 E3I
 by_cases k0 : kind = 0
 ·subst k0
  cases c1 <;> cases d0 <;> cases d20 <;>
  (go_wp2_with fail
   go_ret
   exact ⟨by simp [soundB], HG.out⟩)
 have q0 : (kind == 0) = false := by simpa using k0
 by_cases k4 : kind = 4
 ·subst k4
  have K5 := Lib.hid e5
  cases d20 <;> cases a0 <;>
  (go_wp2_with fail
   go_ret
   exact ⟨by have q := K5.out; simp only [decide_eq_false_iff_not, decide_eq_true_eq] at q; simp [soundB] <;> omega, HG.out⟩)
 have q4 : (kind == 4) = false := by simpa using k4
 by_cases k126 : kind = 126
 ·subst k126
  cases s32 <;> cases f20 <;> cases d0 <;> cases d20 <;>
  (go_wp2_with fail
   go_ret
   exact ⟨by simp [soundB], HG.out⟩)
 have q126 : (kind == 126) = false := by simpa using k126
 have K0 := Lib.hid k0; have K4 := Lib.hid k4; have K126 := Lib.hid k126
 clear k0 k4 k126
 cases d0 <;> cases d20 <;>
 (go_wp2_with fail
  go_ret
  exact ⟨by simp [soundB, K0.out, K4.out, K126.out], HG.out⟩)
section
variable {P : Program}
theorem run_mapPut {mty kt et : TypeId} {d : TypeDesc} {r clock : Nat} {es : Array MapEntry} {key val : Value} {w : World} (hm : P.underlying mty = some (.map kt et)) (hk : P.underlying kt = some d) (hkey : MapKept.IsKey d key) (hb : w.heap[r]? = some (.map es clock)) (hf : Instr.findNow d key es.toList 0 = some none) :
  (Instr.mapUpdate mty (.map (some r)) key val).run P w = .ok () (w.putObj r (.map (es.push { key := key, val := val, born := clock }) (clock + 1))) := by
 have hc : (Instr.checkKey false 10000 kt key).run P w = .ok () w := MapKept.run_checkKey hk hkey false 9999
 simp [Instr.mapUpdate, run_underlying hm, MapKept.run_getObj_map hb, hc, MapKept.run_findKey hk hf, MapKept.run_setObj_map _ hb, Result.andThen, World.putObj]
theorem run_mapGet {mty kt et : TypeId} {d : TypeDesc} {r clock i : Nat} {es : Array MapEntry} {key val : Value} {w : World} (hm : P.underlying mty = some (.map kt et)) (hk : P.underlying kt = some d) (hkey : MapKept.IsKey d key) (hb : w.heap[r]? = some (.map es clock)) (hf : Instr.findNow d key es.toList 0 = some (some (i, val))) :
  (Instr.lookup mty (.map (some r)) key false).run P w = .ok val w := by
 have hc : (Instr.checkKey es.isEmpty 10000 kt key).run P w = .ok () w := MapKept.run_checkKey hk hkey _ 9999
 simp [Instr.lookup, run_underlying hm, MapKept.run_getObj_map hb, hc, MapKept.run_findKey hk hf, Result.andThen]
end
theorem int_info : ∃ i, Tryz.prog.info? 3 = some i ∧ i.zero = some (.int .i64 0) ∧ i.size = 1 ∧ i.bytes = 8 := by
 have h : (Tryz.prog.info? 3).map (fun i => (i.zero, i.size, i.bytes)) = some (some (.int .i64 0), 1, 8) := by kernel_rfl
 cases hi : Tryz.prog.info? 3 with
 | none => rw [hi] at h; cases h
 | some i =>
  rw [hi] at h
  simp only [Option.map_some, Option.some.injEq, Prod.mk.injEq] at h
  exact ⟨i, rfl, h.1, h.2.1, h.2.2⟩
def manyE : Array MapEntry := #[{ key := .int .i64 0, val := .int .i64 9, born := 0 }, { key := .int .i64 1, val := .int .i64 11, born := 1 }, { key := .int .i64 2, val := .int .i64 12, born := 2 }, { key := .int .i64 4, val := .int .i64 13, born := 3 }, { key := .int .i64 126, val := .int .i64 8, born := 4 }]
def isKind (n : Int) : Bool := decide (n = 0 ∨ n = 1 ∨ n = 2 ∨ n = 4 ∨ n = 126)
def manyF (n : Int) : Int := if n = 0 then 9 else if n = 1 then 11 else if n = 2 then 12 else if n = 4 then 13 else if n = 126 then 8 else 0
theorem manyF_0 (n : Int) : manyF n = 0 ↔ isKind n = false := by
 unfold manyF isKind
 by_cases h0 : n = 0 <;> by_cases h1 : n = 1 <;> by_cases h2 : n = 2 <;> by_cases h4 : n = 4 <;> by_cases h6 : n = 126 <;> simp [h0, h1, h2, h4, h6]
section
variable {P : Program}
theorem run_mapGet0 {mty kt et : TypeId} {d : TypeDesc} {r clock : Nat} {es : Array MapEntry} {key z : Value} {i : TypeInfo} {w : World} (hm : P.underlying mty = some (.map kt et)) (hk : P.underlying kt = some d) (hkey : MapKept.IsKey d key) (hb : w.heap[r]? = some (.map es clock)) (hf : Instr.findNow d key es.toList 0 = some none) (hi : P.info? et = some i) (hz : i.zero = some z) :
  (Instr.lookup mty (.map (some r)) key false).run P w = .ok z w := by
 have hc : (Instr.checkKey es.isEmpty 10000 kt key).run P w = .ok () w := MapKept.run_checkKey hk hkey _ 9999
 simp [Instr.lookup, run_underlying hm, MapKept.run_getObj_map hb, hc, MapKept.run_findKey hk hf, Result.andThen, zeroValue, typeInfo, hi, hz]
end
theorem putMany {w : World} {r clock : Nat} {es : Array MapEntry} (k v : Int) (hb : w.heap[r]? = some (.map es clock)) (hf : Instr.findNow (.int .i64) (.int .i64 k) es.toList 0 = some none) : ∃ w', (Instr.mapUpdate 84 (.map (some r)) (.int .i64 k) (.int .i64 v)).run Tryz.prog w = .ok () w' ∧ w'.heap[r]? = some (.map (es.push { key := .int .i64 k, val := .int .i64 v, born := clock }) (clock + 1)) ∧ Below r w w' ∧ w'.heap.size = w.heap.size := by
 have hr : r < w.heap.size := (Array.getElem?_eq_some_iff.1 hb).1
 refine ⟨_, run_mapPut (val := .int .i64 v) Tryz.underlying84 Tryz.underlying3 (key := .int .i64 k) (by simp [MapKept.IsKey]) hb hf, World.putObj_heap_same hr, ⟨rfl, rfl, rfl, by simp [World.putObj], fun j hj => World.putObj_heap_other (by omega)⟩, by simp [World.putObj]⟩
theorem txMany_any (w : World) : Calls Tryz.prog 58 #[] w fun e w' => e = .returned (.map (some w.heap.size)) ∧ w'.heap[w.heap.size]? = some (.map manyE 5) ∧ w.grownBy w' none := by
 have hb0 : Below w.heap.size w (w.alloc (.map #[] 0)) := (Below.refl _ w).alloc (Nat.le_refl _) _
 have h0 : (w.alloc (.map #[] 0)).heap[w.heap.size]? = some (.map #[] 0) := World.alloc_heap_new w _
 have hmm := @run_makeMap Tryz.prog
 obtain ⟨w1, e1, k1, b1, z1⟩ := putMany 0 9 h0 rfl
 obtain ⟨w2, e2, k2, b2, z2⟩ := putMany 1 11 k1 rfl
 obtain ⟨w3, e3, k3, b3, z3⟩ := putMany 2 12 k2 rfl
 obtain ⟨w4, e4, k4, b4, z4⟩ := putMany 4 13 k3 rfl
 obtain ⟨w5, e5, k5, b5, z5⟩ := putMany 126 8 k4 rfl
 have HG := Lib.hid (grown_of_below (((((hb0.trans b1).trans b2).trans b3).trans b4).trans b5))
 have HK := Lib.hid (show w5.heap[w.heap.size]? = some (.map manyE 5) from k5)
 clear h0 hb0 k1 k2 k3 k4 k5 b1 b2 b3 b4 b5 z1 z2 z3 z4 z5
 go_enter Tryz.func58, Tryz.ntmps58
 go_wp2_with fail
 go_ret
 exact ⟨rfl, HK.out, HG.out⟩
theorem lookMany (n : Int) (r : Nat) (V : World) (h : V.heap[r]? = some (.map manyE 5)) : (Instr.lookup 84 (.map (some r)) (.int .i64 n) false).run Tryz.prog V = .ok (.int .i64 (manyF n)) V := by
 have hk : MapKept.IsKey (.int .i64) (.int .i64 n) := by simp [MapKept.IsKey]
 have g := fun i v hf => run_mapGet (P := Tryz.prog) (i := i) (val := v) (key := .int .i64 n) Tryz.underlying84 Tryz.underlying3 hk h hf
 by_cases h0 : n = 0
 ·subst h0; exact g 0 _ rfl
 by_cases h1 : n = 1
 ·subst h1; exact g 1 _ rfl
 by_cases h2 : n = 2
 ·subst h2; exact g 2 _ rfl
 by_cases h4 : n = 4
 ·subst h4; exact g 3 _ rfl
 by_cases h6 : n = 126
 ·subst h6; exact g 4 _ rfl
 have hm : manyF n = 0 := by unfold manyF; rw [if_neg h0, if_neg h1, if_neg h2, if_neg h4, if_neg h6]
 rw [hm]
 obtain ⟨i, hi, hz, _⟩ : ∃ i, Tryz.prog.info? 3 = some i ∧ i.zero = some (.int .i64 0) ∧ True := by
  obtain ⟨i, a, b, _⟩ := int_info
  exact ⟨i, a, b, trivial⟩
 refine run_mapGet0 Tryz.underlying84 Tryz.underlying3 hk h ?_ hi hz
 have b0 : (n == 0) = false := by simpa using h0
 have b1 : (n == 1) = false := by simpa using h1
 have b2 : (n == 2) = false := by simpa using h2
 have b4 : (n == 4) = false := by simpa using h4
 have b6 : (n == 126) = false := by simpa using h6
 simp [manyE, Instr.findNow, Instr.sameNow, b0, b1, b2, b4, b6]
theorem exec_call0 {P : Program} {a : Act} {o : Oper} {W : World} (f : FuncId) (ho : o.op = .call { callee := .value (.func f), args := #[], argTypes := #[] }) (hf : (callFunc f #[]).run P W = .ok (.enter f #[]) W) : (execOp a.eval o).run P W = .ok (.enter f #[]) W := by
 have he : a.eval (.func f) = .func (.func f) #[] #[] := rfl
 unfold execOp
 generalize a.eval = ev at *
 simp only [ho]
 simp [resolve, invoke, go_sem, he, hf]
theorem exec_lookup {P : Program} {a : Act} {o : Oper} {W : World} {v : Value} (t : TypeId) (x y : Operand) (ho : o.op = .lookup t x y false) (m k : Value) (hx : a.eval x = m) (hy : a.eval y = k) (h : (Instr.lookup t m k false).run P W = .ok v W) : (execOp a.eval o).run P W = .ok (.value v) W := by
 unfold execOp
 generalize a.eval = ev at *
 simp only [ho]
 simp [go_sem, hx, hy, h]
def hasAcc (k : Int) : Bool := decide (k = 1 ∨ k = 2 ∨ k = 4)
def nameT (t : TxV) : TxV :=
 if t.kind = 126 then { TxV.zero with kind := t.kind, gas := t.gas, dst := t.dst, value := t.value, data := t.data, source := t.source, frm := t.frm, mint := t.mint, system := t.system }
 else { TxV.zero with kind := t.kind, gas := t.gas, dst := t.dst, value := t.value, data := t.data, chain := t.chain, nonce := t.nonce, price := t.price, y := t.y, r := t.r, s := t.s, tip := if t.kind = 2 ∨ t.kind = 4 then t.tip else 0, acc := if hasAcc t.kind = true then t.acc else [], auths := if t.kind = 4 then t.auths else [] }
def accS (t : TxV) (sa : Value) : Value := if hasAcc t.kind = true then sa else .slice none 0 0
def autS (t : TxV) (sb : Value) : Value := if t.kind = 4 then sb else .slice none 0 0
theorem nameT_ok {t : TxV} (h : t.Ok) : (nameT t).Ok := by
 obtain ⟨h1, h2, h3, h4, h5, h6, h7, h8, h9, h10, h11⟩ := h
 unfold nameT
 by_cases k : t.kind = 126
 ·rw [if_pos k]
  exact ⟨by simp [TxV.zero], by simp [TxV.zero], by simp [TxV.zero], by simp [TxV.zero], h5, h6, by simp [TxV.zero], by simp [TxV.zero], by simp [TxV.zero], h10, by simp [TxV.zero]⟩
 ·rw [if_neg k]
  refine ⟨h1, h2, ?_, h4, h5, h6, h7, h8, h9, by simp [TxV.zero], ?_⟩
  ·show (if t.kind = 2 ∨ t.kind = 4 then t.tip else 0) < _
   split
   ·exact h3
   ·omega
  ·show ∀ a ∈ (if t.kind = 4 then t.auths else []), a.Ok
   split
   ·exact h11
   ·intro a ha; cases ha
theorem nameT_in {t : TxV} {B : Nat} {W : World} {sa sb : Value} (h : TxIn B W t sa sb) : TxIn B W (nameT t) (accS t sa) (autS t sb) := by
 have hn : ∀ x : Nat, AccR B W [] none 0 := fun _ => AccR.nil B W none
 have key : ∀ (la : List AccV) (lb : List AutV), (la = if hasAcc t.kind = true then t.acc else []) → (lb = if t.kind = 4 then t.auths else []) → (nameT t).acc = la → (nameT t).auths = lb → TxIn B W (nameT t) (accS t sa) (autS t sb) := by
  intro la lb e1 e2 e3 e4
  refine ⟨?_, ?_, ?_, ?_⟩
  ·rw [e3, e1]; unfold accS; split
   ·exact h.acc
   ·exact ⟨none, 0, rfl, AccR.nil B W none⟩
  ·rw [e4, e2]; unfold autS; split
   ·exact h.aut
   ·exact ⟨none, 0, rfl, AutR.nil B W none⟩
  ·rw [e3, e1]; split
   ·exact h.la
   ·simp
  ·rw [e4, e2]; split
   ·exact h.lb
   ·simp
 by_cases k : t.kind = 126
 ·exact key [] [] (by rw [k]; rfl) (by rw [k]; rfl) (by unfold nameT; rw [if_pos k]; rfl) (by unfold nameT; rw [if_pos k]; rfl)
 ·exact key _ _ rfl rfl (by unfold nameT; rw [if_neg k]) (by unfold nameT; rw [if_neg k])
theorem isKind_or {n : Int} (h : isKind n = true) : n = 0 ∨ n = 1 ∨ n = 2 ∨ n = 4 ∨ n = 126 := of_decide_eq_true h
def TA.of (t : TxV) (pa : Option Addr) (na xa : Nat) (pb : Option Addr) (nb xb : Nat) : TA := ⟨t.kind, t.chain, t.nonce, (wp t.tip 0 : Nat), (wp t.tip 1 : Nat), (wp t.tip 2 : Nat), (wp t.tip 3 : Nat), (wp t.price 0 : Nat), (wp t.price 1 : Nat), (wp t.price 2 : Nat), (wp t.price 3 : Nat), t.gas, t.dst, (wp t.value 0 : Nat), (wp t.value 1 : Nat), (wp t.value 2 : Nat), (wp t.value 3 : Nat), t.data, pa, na, xa, pb, nb, xb, t.y, (wp t.r 0 : Nat), (wp t.r 1 : Nat), (wp t.r 2 : Nat), (wp t.r 3 : Nat), (wp t.s 0 : Nat), (wp t.s 1 : Nat), (wp t.s 2 : Nat), (wp t.s 3 : Nat), t.source, t.frm, (wp t.mint 0 : Nat), (wp t.mint 1 : Nat), (wp t.mint 2 : Nat), (wp t.mint 3 : Nat), t.system⟩
theorem txNamedC_any (t : TxV) (hk : isKind t.kind = true) (pa : Option Addr) (na xa : Nat) (pb : Option Addr) (nb xb : Nat) (w : World) :
  Calls Tryz.prog 60 #[.agg (txC t (.slice pa na xa) (.slice pb nb xb))] w fun e w' => e = .returned (.agg (txC (nameT t) (accS t (.slice pa na xa)) (autS t (.slice pb nb xb)))) ∧ w.grownBy w' none := by
 rw [show txC t (.slice pa na xa) (.slice pb nb xb) = (TA.of t pa na xa pb nb xb).L from by rw [txA_eq]; rfl]
 refine (txNamedA_any (TA.of t pa na xa pb nb xb) w).mono ?_
 rintro e w2 ⟨rfl, hg⟩
 refine ⟨?_, hg⟩
 obtain ⟨kind, chain, nonce, tip, price, gas, dst, value, data, acc, auths, y, r, s, source, frm, mint, system⟩ := t
 rcases isKind_or hk with h | h | h | h | h <;> (simp only at h; subst h; kernel_rfl)
def checkTB (kd sm sd : Bool) (bd ba bp bu : Bool) : Int := if kd = false then 9 else if (!sm || !sd) = true then 2 else if (bd || ba || bp || bu) = true then 5 else 0
def checkT (t : TxV) : Int := checkTB (isKind t.kind) (decide (t = nameT t)) (soundT t) (decide (4096 < t.data.size)) (decide (16 < t.acc.length)) (t.acc.any bigPair) (decide (8 < t.auths.length))
theorem txCheckC_any (t : TxV) (B : Nat) (sa sb : Value) (w : World) (h : TxIn B w t sa sb) (hB : B ≤ w.heap.size) (ok : t.Ok) :
  Calls Tryz.prog 17 #[.agg (txC t sa sb)] w fun e w' => e = .returned (.int .i64 (checkT t)) ∧ w.grownBy w' none := by
 have hG := only_alloc (World.grownBy.refl w none) (.cells (txC t sa sb) 42)
 have hb1 := Blk.new w 42 (txC t sa sb)
 have hI := h.grown hG hB
 have hB1 := Nat.le_trans hB hG.size
 obtain ⟨⟨pa, xa, hsa, hacc⟩, ⟨pb, xb, hsb, haut⟩, la, lb⟩ := h
 obtain ⟨na, hna⟩ : ∃ n, t.acc.length = n := ⟨_, rfl⟩
 obtain ⟨nb, hnb⟩ : ∃ n, t.auths.length = n := ⟨_, rfl⟩
 rw [hna] at hsa la hacc
 rw [hnb] at hsb lb
 subst hsa; subst hsb
 have hck : checkT t = checkTB (isKind t.kind) (decide (t = nameT t)) (soundT t) (decide (4096 < t.data.size)) (decide (16 < na)) (t.acc.any bigPair) (decide (8 < nb)) := by rw [← hna, ← hnb]; rfl
 rw [hck]
 have hi2 := nameT_in hI
 obtain ⟨sm, hsm⟩ : ∃ b, decide (t = nameT t) = b := ⟨_, rfl⟩
 obtain ⟨sd, hsd⟩ : ∃ b, soundT t = b := ⟨_, rfl⟩
 obtain ⟨bp, hbp⟩ : ∃ b, t.acc.any bigPair = b := ⟨_, rfl⟩
 obtain ⟨kd, hkd⟩ : ∃ b, isKind t.kind = b := ⟨_, rfl⟩
 have e1 : decide ((4096 : Int) < (t.data.size : Int)) = decide (4096 < t.data.size) := decide_eq_decide.2 (by omega)
 have e2 : decide ((16 : Int) < (na : Int)) = decide (16 < na) := decide_eq_decide.2 (by omega)
 have e3 : decide ((8 : Int) < (nb : Int)) = decide (8 < nb) := decide_eq_decide.2 (by omega)
 have HNA := Lib.hid (fun (hk : isKind t.kind = true) V => txNamedC_any t hk pa na xa pb nb xb V)
 have HSO := Lib.hid (fun (V : World) hI hB => txSoundC_any t B (.slice pa na xa) (.slice pb nb xb) V hI hB)
 have HSA := Lib.hid (fun (V : World) hI hI2 hB => txSameC_any t (nameT t) B B (.slice pa na xa) (.slice pb nb xb) (accS t (.slice pa na xa)) (autS t (.slice pb nb xb)) V hI hI2 hB hB ok (nameT_ok ok))
 have HBI := Lib.hid (fun (V : World) hR hB => bigsContains_any B pa na xa t.acc V hR hB la)
 rw [hsm] at HSA ⊢
 rw [hsd] at HSO ⊢
 rw [hbp] at HBI ⊢
 have HM := Lib.hid (manyF_0 t.kind)
 rw [hkd] at HM HNA ⊢
 have HAC := Lib.hid hacc
 generalize hcn : txC (nameT t) (accS t (.slice pa na xa)) (autS t (.slice pb nb xb)) = cn at *
 have z0 : (txC t (.slice pa na xa) (.slice pb nb xb))[0]? = some (.int .i64 t.kind) := rfl
 have z17 : (txC t (.slice pa na xa) (.slice pb nb xb))[17]? = some (.string t.data) := rfl
 have z18 : (txC t (.slice pa na xa) (.slice pb nb xb))[18]? = some (.slice pa na xa) := rfl
 have z19 : (txC t (.slice pa na xa) (.slice pb nb xb))[19]? = some (.slice pb nb xb) := rfl
 have hsz : (txC t (.slice pa na xa) (.slice pb nb xb)).size = 36 := rfl
 generalize txC t (.slice pa na xa) (.slice pb nb xb) = ct at *
 obtain ⟨n, hn⟩ : ∃ n, t.kind = n := ⟨_, rfl⟩
 obtain ⟨data, hdata⟩ : ∃ n, t.data = n := ⟨_, rfl⟩
 rw [hdata] at e1 z17 ⊢
 rw [hn] at HM z0
 have HI := Lib.hid hI; have HI2 := Lib.hid hi2; have HB0 := Lib.hid hB1; have HSZ := Lib.hid hsz
 generalize decide (4096 < data.size) = bd at *
 generalize decide (16 < na) = ba at *
 generalize decide (8 < nb) = bu at *
 have HBA := Lib.hid hB
 have E1 := Lib.hid e1; have E2 := Lib.hid e2; have E3 := Lib.hid e3
 clear hI hi2 hB1 hB hsz hcn hck hn hdata hsm hsd hbp hkd hna hnb la lb hacc haut ok e1 e2 e3
 go_enter Tryz.func17, Tryz.ntmps17
 go_upto_region 1 with (fail)
 obtain ⟨g, hg⟩ : ∃ g, w.heap.size = g := ⟨_, rfl⟩
 rw [hg] at hb1 ⊢
 clear hg
 generalize w.alloc (.cells ct 42) = w1 at *
 have HB1 := Lib.hid hb1
 have HAC := Lib.hid (HAC.out.grown hG HBA.out)
 have HG := Lib.hid hG
 clear hb1 hG HBA
 go_upto_region 2 with (fail)
 have hl := HB1.out.lt
 have hr0 : ∀ V, Below w1.heap.size w1 V → V.cell? ⟨g, 0, none⟩ = some (.int .i64 n) := fun V hV => (hV.cell (p := ⟨g, 0, none⟩) hl).trans ((HB1.out.cell 0).trans z0)
 refine wp_region_held (S := fun W => Below w1.heap.size w1 W) (by kernel_rfl) ?_
 change wpAnyH _ _ _ _ _ _ _ _ w1.drew
 have hS : Below w1.heap.size w1 w1.drew := ⟨rfl, rfl, rfl, Nat.le_refl _, fun _ _ => rfl⟩
 generalize w1.drew = u0 at *
 refine zt 1 (.pointer (some ⟨g, 0, none⟩)) (some 6) rfl (fun W hW => by go_simp) hS ?_
 simp only [Act.put, jb, jz, js]
 refine zt 2 (.int .i64 n) (some 7) rfl (fun W hW => by have q := hr0 W hW; go_simp) hS ?_
 simp only [Act.put, jb, jz, js]
 refine held_one (i := 0) (by kernel_rfl) ?_
 refine held_enter (some 5) rfl rfl 58 #[] (exec_call0 _ rfl (enters_of Tryz.func58 (by kernel_rfl) rfl _ _)) rfl ((txMany_any u0).mono ?_)
 rintro e u1 ⟨rfl, hmap, hg⟩
 replace hS : Below w1.heap.size w1 u1 := hS.trans ((below_of_grown hg).mono hS.size)
 refine ⟨_, rfl, hS, ?_⟩
 simp only [Act.put, jb, jz, js]
 refine held_one (i := 3) (by kernel_rfl) ?_
 refine held_value (some 8) rfl rfl (.int .i64 (manyF n)) (exec_lookup _ (.tmp 5) (.tmp 7) rfl _ _ rfl rfl (lookMany n _ u1 hmap)) rfl hS ?_
 simp only [Act.put, jb, jz, js]
 obtain ⟨m, hm⟩ : ∃ m, manyF n = m := ⟨_, rfl⟩
 rw [hm] at HM ⊢
 refine held_one (i := 4) (by kernel_rfl) ?_
 refine held_value (some 9) rfl rfl (.bool (m == 0)) (by go_simp <;> rfl) rfl hS ?_
 simp only [Act.put, jb, jz, js]
 refine held_one (i := 5) (by kernel_rfl) ?_
 refine held_value (some 4) rfl rfl (.bool (m == 0)) (by go_simp <;> rfl) rfl hS ?_
 simp only [Act.put, jb, jz, js]
 refine wpAnyH_done (by kernel_rfl) ?_ _
 replace HG := Lib.hid (grown_self HG.out (grown_of_below hS) (by simp))
 replace HB1 := Lib.hid (HB1.out.below hS hl)
 have hgs := grown_of_below hS
 replace HI := Lib.hid (HI.out.grown hgs HB0.out); replace HI2 := Lib.hid (HI2.out.grown hgs HB0.out)
 replace HAC := Lib.hid (HAC.out.grown hgs HB0.out)
 replace HB0 := Lib.hid (Nat.le_trans HB0.out hgs.size)
 clear hS hg hmap hr0 hl hm hgs
 cases kd with
 | false =>
  have h0 := HM.out.2 rfl
  subst h0
  go_wp2_with fail
  go_ret
  exact ⟨rfl, HG.out⟩
 | true =>
  have h0 : ¬ m = 0 := fun e => by have := HM.out.1 e; cases this
  have e1 : (m == 0) = false := by simpa using h0
  replace HNA := Lib.hid (HNA.out rfl)
  clear h0
  go_upto_region 4 with (fail)
  clear e1 HM
  have l1 := HB1.out.lt
  have HCI := Lib.hid (fun (V : World) (hV : Below u1.heap.size u1 V) => (⟨HI.out.grown (grown_of_below hV) HB0.out, HI2.out.grown (grown_of_below hV) HB0.out, Nat.le_trans HB0.out (grown_of_below hV).size⟩ : TxIn B V t (.slice pa na xa) (.slice pb nb xb) ∧ TxIn B V (nameT t) (accS t (.slice pa na xa)) (autS t (.slice pb nb xb)) ∧ B ≤ V.heap.size))
  have hC0 : (fun V => Below u1.heap.size u1 V) u1.drew := ⟨rfl, rfl, rfl, Nat.le_refl _, fun _ _ => rfl⟩
  refine wp_region_class (fun V => Below u1.heap.size u1 V) (by kernel_rfl) (by kernel_rfl) hC0 ?_
  have hcc := class_const hC0
  (try simp only [Act.put])
  (repeat go_big_quiet_step (fail))
  refine wpQuiet_value rfl (.agg ct) (fun V hV => exec_load_rowT rfl rfl 42 ct _ (HB1.out.below hV l1) Tryz.underlying42 rfl ((show (Tryz.prog.info? 42).map (·.size) = some 36 by kernel_rfl).trans (congrArg some HSZ.out.symm))) ?_
  simp only [Act.put, jb, jz, js]
  (repeat go_big_quiet_step (fail))
  refine wpQuiet_value rfl (.agg ct) (fun V hV => exec_load_rowT rfl rfl 42 ct _ (HB1.out.below hV l1) Tryz.underlying42 rfl ((show (Tryz.prog.info? 42).map (·.size) = some 36 by kernel_rfl).trans (congrArg some HSZ.out.symm))) ?_
  simp only [Act.put, jb, jz, js]
  (repeat go_big_quiet_step (fail))
  refine quiet_callW (.agg cn) 60 #[.agg ct] rfl (fun V => exec_call1 _ (.tmp 12) _ rfl _ rfl (enters_of Tryz.func60 (by kernel_rfl) rfl _ _)) (fun V hV => HNA.out V) ?_
  simp only [Act.put, jb, jz, js]
  (repeat go_big_quiet_step (fail))
  refine quiet_callW (.bool sm) 59 #[.agg ct, .agg cn] rfl (fun V => exec_call2 _ (.tmp 11) (.tmp 13) _ rfl _ _ rfl rfl (enters_of Tryz.func59 (by kernel_rfl) rfl _ _)) (fun V hV => HSA.out V (HCI.out V hV).1 (HCI.out V hV).2.1 (HCI.out V hV).2.2) ?_
  simp only [Act.put, jb, jz, js]
  cases sm with
  | false =>
   (repeat go_big_quiet_step (fail))
   refine wpQuiet_nil ?_
   intro w3 hw3
   have HG := Lib.hid (grown_self HG.out (grown_of_below hw3) (by simp))
   clear hcc hC0 hw3 l1
   go_wp2_with fail
   go_ret
   exact ⟨rfl, HG.out⟩
  | true =>
  (repeat go_big_quiet_step (fail))
  refine wpQuiet_value rfl (.agg ct) (fun V hV => exec_load_rowT rfl rfl 42 ct _ (HB1.out.below hV l1) Tryz.underlying42 rfl ((show (Tryz.prog.info? 42).map (·.size) = some 36 by kernel_rfl).trans (congrArg some HSZ.out.symm))) ?_
  simp only [Act.put, jb, jz, js]
  (repeat go_big_quiet_step (fail))
  refine quiet_callW (.bool sd) 61 #[.agg ct] rfl (fun V => exec_call1 _ (.tmp 17) _ rfl _ rfl (enters_of Tryz.func61 (by kernel_rfl) rfl _ _)) (fun V hV => HSO.out V (HCI.out V hV).1 (HCI.out V hV).2.2) ?_
  simp only [Act.put, jb, jz, js]
  (repeat go_big_quiet_step (fail))
  refine wpQuiet_nil ?_
  intro w3 hw3
  have HG := Lib.hid (grown_self HG.out (grown_of_below hw3) (by simp))
  have hb := HB1.out.below hw3 l1
  have HAC := Lib.hid (HAC.out.grown (grown_of_below hw3) HB0.out)
  have HB0 := Lib.hid (Nat.le_trans HB0.out (grown_of_below hw3).size)
  have c17 := (hb.cell 17).trans z17
  have c18 := (hb.cell 18).trans z18
  have c19 := (hb.cell 19).trans z19
  have HBL := Lib.hid hb
  have e1 := E1.out; have e2 := E2.out; have e3 := E3.out
  clear hcc hC0 hw3 l1 hb HCI HNA HSA HSO HI HI2 E1 E2 E3 z0
  cases sd with
  | false =>
   go_wp2_with fail
   go_ret
   exact ⟨rfl, HG.out⟩
  | true =>
  cases bd with
  | true =>
   go_wp2_with fail
   go_ret
   exact ⟨rfl, HG.out⟩
  | false =>
  cases ba with
  | true =>
   go_wp2_with fail
   go_ret
   exact ⟨rfl, HG.out⟩
  | false =>
  go_wp2_with fail
  refine (HBI.out _ HAC.out HB0.out).mono ?_
  rintro e w4 ⟨rfl, hg⟩
  have HG := Lib.hid (grown_self HG.out hg (by simp))
  replace c19 := hg.cell c19 (by simp)
  clear hg c17 c18
  cases bp with
  | true =>
   go_wp2_with fail
   go_ret
   exact ⟨rfl, HG.out⟩
  | false =>
  cases bu with
  | true =>
   go_wp2_with fail
   go_ret
   exact ⟨rfl, HG.out⟩
  | false =>
   go_wp2_with fail
   go_ret
   exact ⟨rfl, HG.out⟩
def oneTB (ck : Int) (lo hi ne k0 c0 : Bool) : Int := if (lo || hi) = true then 9 else if ck ≠ 0 then ck else if (ne && (k0 || c0)) = true then 2 else 0
def oneT (chain : Nat) (t : TxV) : Int := oneTB (checkT t) (decide (t.kind < 0)) (decide (2 < t.kind)) (decide (t.chain ≠ chain)) (decide (t.kind ≠ 0)) (decide (t.chain ≠ 0))
def firstE (f : TxV → Int) : List TxV → Int
 | [] => 0
 | t :: r => if f t ≠ 0 then f t else firstE f r
def checkCol (ls : List TxV) (chain : Nat) : Int := if (decide (chain = 0) || decide (4611686018427387904 < chain)) = true then 1 else if 512 < ls.length then 5 else firstE (oneT chain) ls
theorem firstE_none {f : TxV → Int} : ∀ {ls : List TxV}, (∀ i, i < ls.length → f (ls.getD i TxV.zero) = 0) → firstE f ls = 0
 | [], _ => rfl
 | t :: r, h => by
  have h0 : f t = 0 := by have := h 0 (by simp); simpa using this
  rw [firstE, if_neg (by rw [h0]; simp)]
  exact firstE_none fun i hi => by have := h (i + 1) (by simp; omega); simpa using this
theorem firstE_at {f : TxV → Int} : ∀ {ls : List TxV} {k : Nat} {e : Int}, (∀ i, i < k → f (ls.getD i TxV.zero) = 0) → k < ls.length → f (ls.getD k TxV.zero) = e → e ≠ 0 → firstE f ls = e
 | [], _, _, _, hk, _, _ => by simp at hk
 | t :: r, 0, e, _, _, he, h0 => by
  have : f t = e := by simpa using he
  rw [firstE, this, if_pos h0]
 | t :: r, k + 1, e, h, hk, he, h0 => by
  have h1 : f t = 0 := by have := h 0 (by omega); simpa using this
  rw [firstE, if_neg (by rw [h1]; simp)]
  exact firstE_at (k := k) (fun i hi => by have := h (i + 1) (by omega); simpa using this) (by simpa using hk) (by simpa using he) h0
theorem colCheck_any (B : Nat) (A : Option Addr) (n c : Nat) (ls : List TxV) (chain : Nat) (w : World) (h : TxsR B w ls A n) (hB : B ≤ w.heap.size) (hn : n ≤ 9223372036854775807) (ok : ∀ t ∈ ls, t.Ok) :
  Calls Tryz.prog 13 #[.slice A n c, .int .u64 (chain : Int)] w fun e w' => e = .returned (.int .i64 (checkCol ls chain)) ∧ w.grownBy w' none := by
 obtain ⟨R, hR⟩ : ∃ R, checkCol ls chain = R := ⟨_, rfl⟩
 rw [hR]
 have hl := h.1
 have e1 : ((chain : Int) == 0) = decide (chain = 0) := beq_n chain 0
 have e2 : decide ((4611686018427387904 : Int) < (chain : Int)) = decide (4611686018427387904 < chain) := decide_eq_decide.2 (by omega)
 have HH := Lib.hid h; have HB := Lib.hid hB; have HOK := Lib.hid ok; have HL := Lib.hid hl
 have hR0 : (decide (chain = 0) || decide (4611686018427387904 < chain)) = true → R = 1 := fun hh => by rw [← hR]; unfold checkCol; rw [if_pos hh]
 by_cases hc : (decide (chain = 0) || decide (4611686018427387904 < chain)) = true
 ·have hRR := hR0 hc
  subst hRR
  clear h hB ok hl hR hR0
  rcases Bool.or_eq_true _ _ ▸ hc with h1 | h1
  ·rw [h1] at e1
   clear e2 h1 hc
   go_enter Tryz.func13, Tryz.ntmps13
   go_wp2_with fail
   go_ret
   exact ⟨rfl, World.grownBy.refl _ _⟩
  ·have h0 : decide (chain = 0) = false := decide_eq_false (by have := of_decide_eq_true h1; omega)
   rw [h0] at e1
   rw [h1] at e2
   clear h0 h1 hc
   go_enter Tryz.func13, Tryz.ntmps13
   go_wp2_with fail
   go_ret
   exact ⟨rfl, World.grownBy.refl _ _⟩
 have hc' : (decide (chain = 0) || decide (4611686018427387904 < chain)) = false := by simpa using hc
 rw [Bool.or_eq_false_iff] at hc'
 rw [hc'.1] at e1
 rw [hc'.2] at e2
 by_cases h512 : 512 < n
 ·have hRR : R = 5 := by rw [← hR]; unfold checkCol; rw [if_neg hc, if_pos (by omega)]
  have e3 : decide ((512 : Int) < (n : Int)) = true := decide_eq_true (by omega)
  subst hRR
  clear h hB ok hl hR hR0 hc hc' h512
  go_enter Tryz.func13, Tryz.ntmps13
  go_wp2_with fail
  go_ret
  exact ⟨rfl, World.grownBy.refl _ _⟩
 have hRR : firstE (oneT chain) ls = R := by rw [← hR]; unfold checkCol; rw [if_neg hc, if_neg (by omega)]
 have e3 : decide ((512 : Int) < (n : Int)) = false := decide_eq_false (by omega)
 have HRR := Lib.hid hRR
 clear h hB ok hl hR hR0 hRR hc hc' h512
 go_enter Tryz.func13, Tryz.ntmps13
 go_wp2_with fail
 clear e1 e2 e3
 go_loopw [21] (fun i wr => ∃ k : Nat, i = .int .i64 k ∧ k ≤ n ∧ w.grownBy wr none ∧ Hid (∀ i : Nat, i < k → oneT chain (ls.getD i TxV.zero) = 0)) (fun i _ => n - (intOf i).toNat)
 case atStart => exact ⟨0, rfl, by omega, World.grownBy.refl _ _, Lib.hid (by intro i h1; omega)⟩
 case round =>
  obtain ⟨k, rfl, hk, hg, h2⟩ := hrel
  have h2' := Lib.hid h2.out
  have HGG := Lib.hid hg
  by_cases hlt : k < n
  ·obtain ⟨g, off, sa, sb, x, rfl, hx, mx, hcx, hin⟩ := (HH.out.grown hg HB.out).at_ hlt
   obtain ⟨⟨pa, xa, rfl, hacc⟩, ⟨pb, xb, rfl, haut⟩, la, lb⟩ := id hin
   have q1 : (k : Int) < (n : Int) := by omega
   have q2 : (0 : Int) ≤ (k : Int) := by omega
   have HX := Lib.hid hx
   have HCX := Lib.hid hcx
   have hB2 := Nat.le_trans HB.out hg.size
   have HCALL := Lib.hid (fun (V : World) (hV : wr.grownBy V none) => txCheckC_any x B (.slice pa x.acc.length xa) (.slice pb x.auths.length xb) V (hin.grown hV hB2) (Nat.le_trans hB2 hV.size) (HOK.out x mx))
   obtain ⟨ck, hck⟩ : ∃ e, checkT x = e := ⟨_, rfl⟩
   have hone : oneT chain x = oneTB ck (decide (x.kind < 0)) (decide (2 < x.kind)) (decide (x.chain ≠ chain)) (decide (x.kind ≠ 0)) (decide (x.chain ≠ 0)) := by rw [← hck]; rfl
   rw [hck] at HCALL
   have z0 : (txC x (.slice pa x.acc.length xa) (.slice pb x.auths.length xb))[0]? = some (.int .i64 x.kind) := rfl
   have z1 : (txC x (.slice pa x.acc.length xa) (.slice pb x.auths.length xb))[1]? = some (.int .u64 (x.chain : Int)) := rfl
   have hone1 := txC_one x pa pb x.acc.length xa x.auths.length xb
   have HSZ := Lib.hid (show (txC x (.slice pa x.acc.length xa) (.slice pb x.auths.length xb)).size = 36 from rfl)
   obtain ⟨kd, hkd⟩ : ∃ n, x.kind = n := ⟨_, rfl⟩
   obtain ⟨ch, hch⟩ : ∃ n, x.chain = n := ⟨_, rfl⟩
   rw [hkd] at z0 hone
   rw [hch] at z1 hone
   have HONE := Lib.hid hone
   have HONE1 := Lib.hid hone1
   clear h2 hx hg hcx hin hacc haut la lb mx hB2 hck hone hkd hch hone1
   go_upto_region 7 with (fail)
   refine wp_region_list ?_
   iterate 3 go_step
   refine wp_load_mid 42 (.tmp 23) rfl g (off + k * 36) rfl (txL x (.slice pa x.acc.length xa) (.slice pb x.auths.length xb)) _ HCX.out Tryz.underlying42 rfl (by kernel_rfl) ?_
   clear HCX
   rw [show (txL x (.slice pa x.acc.length xa) (.slice pb x.auths.length xb)).toArray = txC x (.slice pa x.acc.length xa) (.slice pb x.auths.length xb) from rfl]
   generalize txC x (.slice pa x.acc.length xa) (.slice pb x.auths.length xb) = ct at *
   have hga := only_alloc (World.grownBy.refl wr none) (.cells ct 42)
   have hbk := Blk.new wr 42 ct
   iterate 5 go_step
   refine wp_store_row 42 (.tmp 6) (.tmp 24) rfl wr.heap.size ct rfl rfl 42 txZ (Blk.new wr _ txZ) ((show (Tryz.prog.info? 42).map (·.size) = some 36 by kernel_rfl).trans (congrArg some HSZ.out.symm)) (by rw [HSZ.out]; rfl) HONE1.out ?_
   rw [World.setRow_alloc_new]
   obtain ⟨g6, hg6⟩ : ∃ g, wr.heap.size = g := ⟨_, rfl⟩
   rw [hg6] at hbk ⊢
   clear hg6
   have HGA := Lib.hid hga
   have HCALL2 := Lib.hid (HCALL.out _ hga)
   generalize wr.alloc (.cells ct 42) = w5 at *
   have HBK := Lib.hid hbk
   have c0 := (hbk.cell 0).trans z0
   clear hga hbk HCALL HONE1
   by_cases klo : kd < 0
   ·have q3 : decide (kd < 0) = true := decide_eq_true klo
    have hRR : R = 9 := by rw [← HRR.out]; exact firstE_at (k := k) h2'.out (by rw [HL.out]; exact hlt) (by rw [HX.out, HONE.out, q3]; rfl) (by decide)
    subst hRR
    clear klo HONE
    go_wp2_with fail
    go_ret
    exact ⟨rfl, grown_self HGG.out HGA.out (by simp)⟩
   have q3 : decide (kd < 0) = false := decide_eq_false klo
   by_cases khi : 2 < kd
   ·have q4 : decide (2 < kd) = true := decide_eq_true khi
    have hRR : R = 9 := by rw [← HRR.out]; exact firstE_at (k := k) h2'.out (by rw [HL.out]; exact hlt) (by rw [HX.out, HONE.out, q3, q4]; rfl) (by decide)
    subst hRR
    clear klo khi HONE
    go_wp2_with fail
    go_ret
    exact ⟨rfl, grown_self HGG.out HGA.out (by simp)⟩
   have q4 : decide (2 < kd) = false := decide_eq_false khi
   rw [q3, q4] at HONE
   have KLO := Lib.hid klo; have KHI := Lib.hid khi
   clear klo khi
   go_upto_region 10 with (fail)
   clear q3 q4 c0
   refine wp_region_list ?_
   refine wpList_value rfl (.agg ct) (exec_load_rowT rfl rfl 42 ct _ HBK.out Tryz.underlying42 rfl ((show (Tryz.prog.info? 42).map (·.size) = some 36 by kernel_rfl).trans (congrArg some HSZ.out.symm))) ?_
   simp only [Act.put, jb, jz, js]
   go_wp2_with fail
   refine HCALL2.out.mono ?_
   rintro e w6 ⟨rfl, hg6⟩
   have HBK := Lib.hid (HBK.out.grown hg6 (by simp))
   have HG6 := Lib.hid (grown_self (grown_self HGG.out HGA.out (by simp)) hg6 (by simp))
   clear hg6 HCALL2 HGA
   by_cases hck : ck = 0
   rotate_left
   ·have q5 : (ck != 0) = true := by simpa using hck
    have hRR : R = ck := by
     rw [← HRR.out]
     refine firstE_at (k := k) h2'.out (by rw [HL.out]; exact hlt) ?_ hck
     rw [HX.out, HONE.out]; unfold oneTB; rw [if_neg (by simp), if_pos hck]
    subst hRR
    clear hck HONE
    go_wp2_with fail
    go_ret
    exact ⟨rfl, HG6.out⟩
   subst hck
   have c0 := (HBK.out.cell 0).trans z0; have c1 := (HBK.out.cell 1).trans z1
   have q6 : ((ch : Int) != (chain : Int)) = decide (ch ≠ chain) := by rw [bne, beq_nat ch chain]; by_cases hh : ch = chain <;> simp [hh]
   have q7 : (kd != 0) = decide (kd ≠ 0) := by by_cases hh : kd = 0 <;> simp [hh]
   have q8 : ((ch : Int) != 0) = decide (ch ≠ 0) := by by_cases hh : ch = 0 <;> simp [hh]
   have hbad : (decide (ch ≠ chain) && (decide (kd ≠ 0) || decide (ch ≠ 0))) = true → R = 2 := fun hh => by
    rw [← HRR.out]
    refine firstE_at (k := k) h2'.out (by rw [HL.out]; exact hlt) ?_ (by decide)
    rw [HX.out, HONE.out]; unfold oneTB; rw [if_neg (by simp), if_neg (by simp), if_pos hh]
   have hgood : (decide (ch ≠ chain) && (decide (kd ≠ 0) || decide (ch ≠ 0))) = false → ∀ i, i < k + 1 → oneT chain (ls.getD i TxV.zero) = 0 := fun hh i hi => by
    by_cases hik : i = k
    ·rw [hik, HX.out, HONE.out]; unfold oneTB; rw [if_neg (by simp), if_neg (by simp), if_neg (by rw [hh]; simp)]
    ·exact h2'.out i (by omega)
   have HBAD := Lib.hid hbad; have HGOOD := Lib.hid hgood
   clear hbad hgood HONE
   generalize decide (ch ≠ chain) = d1 at *
   generalize decide (kd ≠ 0) = d2 at *
   generalize decide (ch ≠ 0) = d3 at *
   cases d1 with
   | false =>
    go_wp2_with fail
    exact ⟨⟨k + 1, by go_num, by omega, HG6.out, Lib.hid (HGOOD.out rfl)⟩, by simp [intOf]; omega⟩
   | true =>
   cases d2 with
   | true =>
    obtain rfl := HBAD.out rfl
    go_wp2_with fail
    go_ret
    exact ⟨rfl, HG6.out⟩
   | false =>
   cases d3 with
   | true =>
    obtain rfl := HBAD.out rfl
    go_wp2_with fail
    go_ret
    exact ⟨rfl, HG6.out⟩
   | false =>
    go_wp2_with fail
    exact ⟨⟨k + 1, by go_num, by omega, HG6.out, Lib.hid (HGOOD.out rfl)⟩, by simp [intOf]; omega⟩
  ·have hno : firstE (oneT chain) ls = 0 := firstE_none fun i hi => h2.out i (by have := HL.out; omega)
   have hR0 : R = 0 := by rw [← HRR.out]; exact hno
   subst hR0
   have q0 : (n : Int) ≤ (k : Int) := by omega
   clear hno h2 hg
   go_wp2_with fail
   go_ret
   exact ⟨rfl, HGG.out⟩
end Go.Proofs.YtgclnikdkfpflaaGreatDoor
