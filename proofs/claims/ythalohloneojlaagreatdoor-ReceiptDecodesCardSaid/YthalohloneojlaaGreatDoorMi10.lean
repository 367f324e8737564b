/- Merged: RcpA, RcpB, FldE, FldT, RcpC. -/
import Derived.Test.YthalohloneojlaaGreatDoorMi1
import Derived.Test.YthalohloneojlaaGreatDoorMi3
import Derived.Test.YthalohloneojlaaGreatDoorMi4
import Derived.Test.YthalohloneojlaaGreatDoorMi5
import Derived.Test.YthalohloneojlaaGreatDoorMi9
/- Receipts: logs as they lie; whether a topic, a log is odd, or large (receipt.Check's closures).  Printed by wip/genRcpA.py -/
namespace Go.Proofs.YthalohloneojlaaGreatDoor
open Go.RowKit Go.Shelf
set_option linter.unusedVariables false
set_option linter.unusedSimpArgs false

/-- a log -/
structure LogV where
  addr : ByteArray
  topics : List ByteArray
  data : ByteArray
def LogV.none_ : LogV := ⟨⟨#[]⟩, [], ⟨#[]⟩⟩
/-- a log's value -/
def logC (l : LogV) (T : Option Addr) (tc : Nat) : Array Value := #[.string l.addr, .slice T l.topics.length tc, .string l.data]
/-- logs as they lie -/
def LogsR (B : Nat) (W : World) (ls : List LogV) (A : Option Addr) (n : Nat) : Prop :=
  ls.length = n ∧ (0 < n → ∃ g off, A = some ⟨g, off, none⟩ ∧ g < B ∧ ∀ i, i < n → ∃ T tc, W.cell? ⟨g, off + i * 3, none⟩ = some (.string (ls.getD i LogV.none_).addr) ∧ W.cell? ⟨g, off + i * 3 + 1, none⟩ = some (.slice T (ls.getD i LogV.none_).topics.length tc) ∧ W.cell? ⟨g, off + i * 3 + 2, none⟩ = some (.string (ls.getD i LogV.none_).data) ∧
    Reads W B 1 T (ls.getD i LogV.none_).topics.length ((ls.getD i LogV.none_).topics.map Value.string) ∧ (ls.getD i LogV.none_).topics.length ≤ 9223372036854775807 ∧ (T = none → (ls.getD i LogV.none_).topics.length = 0 ∧ tc = 0))
theorem LogsR.grown {B : Nat} {W W' : World} {ls : List LogV} {A : Option Addr} {n : Nat} (h : LogsR B W ls A n) (hg : W.grownBy W' none) (hB : B ≤ W.heap.size) : LogsR B W' ls A n := by
  refine ⟨h.1, fun h0 => ?_⟩
  obtain ⟨g, off, h1, h2, h3⟩ := h.2 h0
  refine ⟨g, off, h1, h2, fun i hi => ?_⟩
  obtain ⟨T, tc, a, b, c, d, e, f⟩ := h3 i hi
  exact ⟨T, tc, hg.cell a (by simp), hg.cell b (by simp), hg.cell c (by simp), d.grown hg hB (by simp), e, f⟩
/-- an item is odd, or large -/
def oddT (s : ByteArray) : Bool := decide (s.size ≠ 32)
def oddLog (l : LogV) : Bool := decide (l.addr.size ≠ 20) || l.topics.any oddT
def bigLog (l : LogV) : Bool := decide (4 < l.topics.length) || decide (4096 < l.data.size)
theorem any_at {α : Type} {d : α} {xs : List α} {p : α → Bool} {k : Nat} (hk : k < xs.length) (h : p (xs.getD k d) = true) : xs.any p = true := by
  rw [List.any_eq_true]
  refine ⟨xs.getD k d, ?_, h⟩
  rw [List.getD_eq_getElem?_getD, List.getElem?_eq_getElem hk]; exact List.getElem_mem hk
theorem any_none {α : Type} {d : α} {xs : List α} {p : α → Bool} (h : ∀ i, i < xs.length → p (xs.getD i d) = false) : xs.any p = false := by
  rw [List.any_eq_false]
  intro x hx
  obtain ⟨i, hi, rfl⟩ := List.getElem_of_mem hx
  have := h i hi
  rw [List.getD_eq_getElem?_getD, List.getElem?_eq_getElem hi] at this
  simpa using this
theorem oddT_any (s : ByteArray) (w : World) : Calls Tryz.prog 30 #[.string s] w fun e w' => e = .returned (.bool (oddT s)) ∧ w' = w := by
  obtain ⟨r, hr⟩ : ∃ r, oddT s = r := ⟨_, rfl⟩
  rw [hr]
  by_cases h : s.size = 32
  · have hf : r = false := by rw [← hr]; simp [oddT, h]
    subst hf
    have q : ((s.size : Int) != 32) = false := by simp; omega
    clear hr h
    go_enter Tryz.func30, Tryz.ntmps30
    go_wp2_with fail
    go_ret
    exact ⟨rfl, rfl⟩
  · have hf : r = true := by rw [← hr]; simp [oddT, h]
    subst hf
    have q : ((s.size : Int) != 32) = true := by simp; omega
    clear hr h
    go_enter Tryz.func30, Tryz.ntmps30
    go_wp2_with fail
    go_ret
    exact ⟨rfl, rfl⟩
set_option maxRecDepth 100000 in
set_option maxHeartbeats 1000000 in
theorem topicsIndex_any (B : Nat) (A : Option Addr) (n c : Nat) (xs : List ByteArray) (w : World) (h : Reads w B 1 A n (xs.map Value.string)) (hn : n ≤ 9223372036854775807) :
    Calls Tryz.prog 56 #[.slice A n c, .func (.func 30) #[] #[]] w fun e w' => (∃ i : Int, e = .returned (.int .i64 i) ∧ decide (0 ≤ i) = xs.any oddT) ∧ w' = w := by
  have hl : xs.length = n := by have := h.1; simpa using this
  have HL := Lib.hid hl; have HR := Lib.hid h
  clear hl h
  go_enter Tryz.func56, Tryz.ntmps56
  go_wp2_with fail
  go_loopw [8] (fun i wr => ∃ k : Nat, i = .int .i64 k ∧ k ≤ n ∧ w = wr ∧ Hid (∀ i : Nat, i < k → oddT (xs.getD i .empty) = false)) (fun i _ => n - (intOf i).toNat)
  case atStart => exact ⟨0, rfl, by omega, rfl, Lib.hid (by intro i h1; omega)⟩
  case round =>
    obtain ⟨k, rfl, hk, rfl, h2⟩ := hrel
    have h2' := Lib.hid h2.out
    by_cases hlt : k < n
    · obtain ⟨q, off, rfl, hq, hc⟩ := Reads.vals Value.string .empty HR.out hlt
      have c0 := hc k hlt
      have q1 : (k : Int) < (n : Int) := by omega
      obtain ⟨x, hx⟩ : ∃ x, xs.getD k .empty = x := ⟨_, rfl⟩
      rw [hx] at c0
      have HX := Lib.hid hx
      clear h2 hc hx
      go_wp2_with fail
      refine (oddT_any x _).mono ?_
      rintro e w2 ⟨rfl, rfl⟩
      obtain ⟨r, hr⟩ : ∃ r, oddT x = r := ⟨_, rfl⟩
      rw [hr]
      have HRR := Lib.hid hr
      clear c0 hr
      cases r with
      | true =>
        go_wp2_with fail
        go_ret
        refine ⟨⟨(k : Int), rfl, ?_⟩, rfl⟩
        rw [any_at (d := .empty) (k := k) (by rw [HL.out]; exact hlt) (by rw [HX.out]; exact HRR.out)]
        exact decide_eq_true (by omega)
      | false =>
        go_wp2_with fail
        refine ⟨⟨k + 1, by go_num, by omega, by first | rfl | trivial, Lib.hid fun i hi => ?_⟩, by simp [intOf]; omega⟩
        by_cases hik : i = k
        · rw [hik, HX.out]; exact HRR.out
        · exact h2'.out i (by omega)
    · have q1 : (n : Int) ≤ (k : Int) := by omega
      have hno := any_none (d := .empty) (p := oddT) (xs := xs) (fun i hi => h2.out i (by have := HL.out; omega))
      have HNO := Lib.hid hno
      clear h2 h2' hno
      go_wp2_with fail
      go_ret
      exact ⟨⟨-1, rfl, by rw [HNO.out]; rfl⟩, rfl⟩
set_option maxRecDepth 100000 in
theorem topicsContains_any (B : Nat) (A : Option Addr) (n c : Nat) (xs : List ByteArray) (w : World) (h : Reads w B 1 A n (xs.map Value.string)) (hn : n ≤ 9223372036854775807) :
    Calls Tryz.prog 32 #[.slice A n c, .func (.func 30) #[] #[]] w fun e w' => e = .returned (.bool (xs.any oddT)) ∧ w' = w := by
  have HI := Lib.hid (topicsIndex_any B A n c xs w h hn)
  clear h
  go_enter Tryz.func32, Tryz.ntmps32
  go_wp2_with fail
  refine HI.out.mono ?_
  rintro e w2 ⟨⟨i, rfl, hi⟩, rfl⟩
  have HI2 := Lib.hid hi
  clear hi
  go_wp2_with fail
  go_ret
  exact ⟨by rw [← HI2.out]; rfl, rfl⟩
set_option maxRecDepth 100000 in
set_option maxHeartbeats 1000000 in
theorem oddLog_any (l : LogV) (B : Nat) (T : Option Addr) (tc p : Nat) (w : World) (hp : Boxed w p 36 (.func (.func 30) #[] #[])) (h : Reads w B 1 T l.topics.length (l.topics.map Value.string)) (hB : B ≤ w.heap.size) (hn : l.topics.length ≤ 9223372036854775807) :
    Calls Tryz.prog 31 #[.agg (logC l T tc), .pointer (some ⟨p, 0, none⟩)] w fun e w' => e = .returned (.bool (oddLog l)) ∧ w.grownBy w' none := by
  have hG := only_alloc (World.grownBy.refl w none) (.cells (logC l T tc) 40)
  have hb := Blk.new w 40 (logC l T tc)
  have hp1 := hp.alloc (.cells (logC l T tc) 40)
  have hR := h.grown hG hB (by simp)
  have hpl := hp.lt
  obtain ⟨ad, xs, da⟩ := l
  simp only [logC] at *
  obtain ⟨r, hr⟩ : ∃ r, oddLog ⟨ad, xs, da⟩ = r := ⟨_, rfl⟩
  rw [hr]
  have HRR := Lib.hid hr
  obtain ⟨n, hl⟩ : ∃ n, xs.length = n := ⟨_, rfl⟩
  rw [hl] at hb hR hG hp1 hn ⊢
  have HC := Lib.hid (fun V (hV : Reads V B 1 T n (xs.map Value.string)) => topicsContains_any B T n tc xs V hV hn)
  have HR := Lib.hid hR
  clear hr h hR hB hp hl hn
  go_enter Tryz.func31, Tryz.ntmps31
  go_upto_region 1 with (fail)
  obtain ⟨g, hg⟩ : ∃ g, w.heap.size = g := ⟨_, rfl⟩
  rw [hg] at hb hpl ⊢
  clear hg
  generalize w.alloc (.cells #[.string ad, .slice T n tc, .string da] 40) = w1 at *
  have c0 := hb.cell 0; have c1 := hb.cell 1; have cp := hp1.cell
  simp only [List.getElem?_toArray, List.getElem?_cons_zero, List.getElem?_cons_succ] at c0 c1
  have HG := Lib.hid hG
  clear hb hp1 hG
  by_cases ha : ad.size = 20
  · have q : ((ad.size : Int) != 20) = false := by simp; omega
    have HA := Lib.hid ha
    clear ha
    go_wp2_with fail
    refine (HC.out _ HR.out).mono ?_
    rintro e w2 ⟨rfl, rfl⟩
    obtain ⟨s, hs⟩ : ∃ s, xs.any oddT = s := ⟨_, rfl⟩
    rw [hs]
    have HSS := Lib.hid hs
    clear hs
    go_wp2_with fail
    go_ret
    refine ⟨?_, HG.out⟩
    rw [← HRR.out]
    show _ = Ending.returned (.bool (decide (ad.size ≠ 20) || xs.any oddT))
    rw [HSS.out, HA.out]; rfl
  · have q : ((ad.size : Int) != 20) = true := by simp; omega
    have HA := Lib.hid ha
    clear ha
    go_wp2_with fail
    go_ret
    refine ⟨?_, HG.out⟩
    rw [← HRR.out]
    show _ = Ending.returned (.bool (decide (ad.size ≠ 20) || xs.any oddT))
    rw [decide_eq_true HA.out]; rfl
set_option maxRecDepth 100000 in
set_option maxHeartbeats 1000000 in
theorem bigLog_any (l : LogV) (T : Option Addr) (tc : Nat) (w : World) :
    Calls Tryz.prog 33 #[.agg (logC l T tc)] w fun e w' => e = .returned (.bool (bigLog l)) ∧ w.grownBy w' none := by
  have hG := only_alloc (World.grownBy.refl w none) (.cells (logC l T tc) 40)
  have hb := Blk.new w 40 (logC l T tc)
  obtain ⟨ad, xs, da⟩ := l
  simp only [logC] at *
  have hr : bigLog ⟨ad, xs, da⟩ = (decide (4 < xs.length) || decide (4096 < da.size)) := rfl
  rw [hr]
  clear hr
  obtain ⟨n, hl⟩ : ∃ n, xs.length = n := ⟨_, rfl⟩
  rw [hl] at hb hG ⊢
  clear hl
  have e1 : decide (4 < n) = decide ((4 : Int) < (n : Int)) := decide_eq_decide.2 (by omega)
  have e2 : decide (4096 < da.size) = decide ((4096 : Int) < (da.size : Int)) := decide_eq_decide.2 (by omega)
  rw [e1, e2]
  clear e1 e2
  go_enter Tryz.func33, Tryz.ntmps33
  go_upto_region 1 with (fail)
  obtain ⟨g, hg⟩ : ∃ g, w.heap.size = g := ⟨_, rfl⟩
  rw [hg] at hb ⊢
  clear hg
  generalize w.alloc (.cells #[.string ad, .slice T n tc, .string da] 40) = w1 at *
  have c1 := hb.cell 1; have c2 := hb.cell 2
  simp only [List.getElem?_toArray, List.getElem?_cons_zero, List.getElem?_cons_succ] at c1 c2
  have HG := Lib.hid hG
  clear hb hG
  cases h1 : decide ((4 : Int) < (n : Int)) with
  | true =>
    have K1 := Lib.hid h1
    go_wp2_with fail
    go_ret
    exact ⟨by rw [K1.out]; rfl, HG.out⟩
  | false =>
    have K1 := Lib.hid h1
    cases h2 : decide ((4096 : Int) < (da.size : Int)) with
    | true =>
      have K2 := Lib.hid h2
      go_wp2_with fail
      go_ret
      exact ⟨by rw [K1.out, K2.out]; rfl, HG.out⟩
    | false =>
      have K2 := Lib.hid h2
      go_wp2_with fail
      go_ret
      exact ⟨by rw [K1.out, K2.out]; rfl, HG.out⟩
set_option maxRecDepth 100000 in
set_option maxHeartbeats 2000000 in
theorem oddIndex_any (B : Nat) (A : Option Addr) (n c p : Nat) (ls : List LogV) (w : World) (hp : Boxed w p 36 (.func (.func 30) #[] #[])) (h : LogsR B w ls A n) (hB : B ≤ w.heap.size) (hn : n ≤ 9223372036854775807) :
    Calls Tryz.prog 58 #[.slice A n c, .func (.func 31) #[] #[.pointer (some ⟨p, 0, none⟩)]] w fun e w' => (∃ i : Int, e = .returned (.int .i64 i) ∧ decide (0 ≤ i) = ls.any oddLog) ∧ w.grownBy w' none := by
  have HR := Lib.hid h; have HB := Lib.hid hB; have HL := Lib.hid h.1
  clear h hB
  go_enter Tryz.func58, Tryz.ntmps58
  go_wp2_with fail
  go_loopw [8] (fun i wr => ∃ k : Nat, i = .int .i64 k ∧ k ≤ n ∧ w.grownBy wr none ∧ Hid (∀ i : Nat, i < k → oddLog (ls.getD i LogV.none_) = false)) (fun i _ => n - (intOf i).toNat)
  case atStart => exact ⟨0, rfl, by omega, World.grownBy.refl _ _, Lib.hid (by intro i h1; omega)⟩
  case round =>
    obtain ⟨k, rfl, hk, hg, h2⟩ := hrel
    have h2' := Lib.hid h2.out
    have HGG := Lib.hid hg
    by_cases hlt : k < n
    · have hlr := HR.out.grown hg HB.out
      obtain ⟨q, off, rfl, hq, hc⟩ := hlr.2 (by omega)
      obtain ⟨T, tc, c0, c1, c2, hT, hTn, _⟩ := hc k hlt
      have q1 : (k : Int) < (n : Int) := by omega
      obtain ⟨x, hx⟩ : ∃ x, ls.getD k LogV.none_ = x := ⟨_, rfl⟩
      rw [hx] at c0 c1 c2 hT hTn
      have HX := Lib.hid hx
      have HCALL := Lib.hid (oddLog_any x B T tc p _ (hp.kept hg (by simp)) hT (Nat.le_trans HB.out hg.size) hTn)
      clear h2 hc hx hlr hT hTn hg
      obtain ⟨r, hr⟩ : ∃ r, oddLog x = r := ⟨_, rfl⟩
      rw [hr] at HCALL
      have HRR := Lib.hid hr
      clear hr
      simp only [logC] at HCALL
      go_wp2_with fail
      refine HCALL.out.mono ?_
      rintro e w2 ⟨rfl, hg2⟩
      have HG2 := Lib.hid (grown_self HGG.out hg2 (by simp))
      clear c0 c1 c2 hg2 HCALL
      cases r with
      | true =>
        go_wp2_with fail
        go_ret
        refine ⟨⟨(k : Int), rfl, ?_⟩, HG2.out⟩
        rw [any_at (d := LogV.none_) (k := k) (by rw [HL.out]; exact hlt) (by rw [HX.out]; exact HRR.out)]
        exact decide_eq_true (by omega)
      | false =>
        go_wp2_with fail
        refine ⟨⟨k + 1, by go_num, by omega, HG2.out, Lib.hid fun i hi => ?_⟩, by simp [intOf]; omega⟩
        by_cases hik : i = k
        · rw [hik, HX.out]; exact HRR.out
        · exact h2'.out i (by omega)
    · have q1 : (n : Int) ≤ (k : Int) := by omega
      have hno := any_none (d := LogV.none_) (p := oddLog) (xs := ls) (fun i hi => h2.out i (by have := HL.out; omega))
      have HNO := Lib.hid hno
      clear h2 h2' hno hg
      go_wp2_with fail
      go_ret
      exact ⟨⟨-1, rfl, by rw [HNO.out]; rfl⟩, HGG.out⟩
set_option maxRecDepth 100000 in
theorem oddContains_any (B : Nat) (A : Option Addr) (n c p : Nat) (ls : List LogV) (w : World) (hp : Boxed w p 36 (.func (.func 30) #[] #[])) (h : LogsR B w ls A n) (hB : B ≤ w.heap.size) (hn : n ≤ 9223372036854775807) :
    Calls Tryz.prog 35 #[.slice A n c, .func (.func 31) #[] #[.pointer (some ⟨p, 0, none⟩)]] w fun e w' => e = .returned (.bool (ls.any oddLog)) ∧ w.grownBy w' none := by
  have HI := Lib.hid (oddIndex_any B A n c p ls w hp h hB hn)
  clear h
  go_enter Tryz.func35, Tryz.ntmps35
  go_wp2_with fail
  refine HI.out.mono ?_
  rintro e w2 ⟨⟨i, rfl, hi⟩, hg⟩
  have HI2 := Lib.hid hi; have HG := Lib.hid hg
  clear hi hg
  go_wp2_with fail
  go_ret
  exact ⟨by rw [← HI2.out]; rfl, HG.out⟩
set_option maxRecDepth 100000 in
set_option maxHeartbeats 2000000 in
theorem bigIndex_any (B : Nat) (A : Option Addr) (n c : Nat) (ls : List LogV) (w : World) (h : LogsR B w ls A n) (hB : B ≤ w.heap.size) (hn : n ≤ 9223372036854775807) :
    Calls Tryz.prog 58 #[.slice A n c, .func (.func 33) #[] #[]] w fun e w' => (∃ i : Int, e = .returned (.int .i64 i) ∧ decide (0 ≤ i) = ls.any bigLog) ∧ w.grownBy w' none := by
  have HR := Lib.hid h; have HB := Lib.hid hB; have HL := Lib.hid h.1
  clear h hB
  go_enter Tryz.func58, Tryz.ntmps58
  go_wp2_with fail
  go_loopw [8] (fun i wr => ∃ k : Nat, i = .int .i64 k ∧ k ≤ n ∧ w.grownBy wr none ∧ Hid (∀ i : Nat, i < k → bigLog (ls.getD i LogV.none_) = false)) (fun i _ => n - (intOf i).toNat)
  case atStart => exact ⟨0, rfl, by omega, World.grownBy.refl _ _, Lib.hid (by intro i h1; omega)⟩
  case round =>
    obtain ⟨k, rfl, hk, hg, h2⟩ := hrel
    have h2' := Lib.hid h2.out
    have HGG := Lib.hid hg
    by_cases hlt : k < n
    · have hlr := HR.out.grown hg HB.out
      obtain ⟨q, off, rfl, hq, hc⟩ := hlr.2 (by omega)
      obtain ⟨T, tc, c0, c1, c2, hT, hTn, _⟩ := hc k hlt
      have q1 : (k : Int) < (n : Int) := by omega
      obtain ⟨x, hx⟩ : ∃ x, ls.getD k LogV.none_ = x := ⟨_, rfl⟩
      rw [hx] at c0 c1 c2 hT hTn
      have HX := Lib.hid hx
      have HCALL := Lib.hid (bigLog_any x T tc wr)
      clear h2 hc hx hlr hT hTn hg
      obtain ⟨r, hr⟩ : ∃ r, bigLog x = r := ⟨_, rfl⟩
      rw [hr] at HCALL
      have HRR := Lib.hid hr
      clear hr
      simp only [logC] at HCALL
      go_wp2_with fail
      refine HCALL.out.mono ?_
      rintro e w2 ⟨rfl, hg2⟩
      have HG2 := Lib.hid (grown_self HGG.out hg2 (by simp))
      clear c0 c1 c2 hg2 HCALL
      cases r with
      | true =>
        go_wp2_with fail
        go_ret
        refine ⟨⟨(k : Int), rfl, ?_⟩, HG2.out⟩
        rw [any_at (d := LogV.none_) (k := k) (by rw [HL.out]; exact hlt) (by rw [HX.out]; exact HRR.out)]
        exact decide_eq_true (by omega)
      | false =>
        go_wp2_with fail
        refine ⟨⟨k + 1, by go_num, by omega, HG2.out, Lib.hid fun i hi => ?_⟩, by simp [intOf]; omega⟩
        by_cases hik : i = k
        · rw [hik, HX.out]; exact HRR.out
        · exact h2'.out i (by omega)
    · have q1 : (n : Int) ≤ (k : Int) := by omega
      have hno := any_none (d := LogV.none_) (p := bigLog) (xs := ls) (fun i hi => h2.out i (by have := HL.out; omega))
      have HNO := Lib.hid hno
      clear h2 h2' hno hg
      go_wp2_with fail
      go_ret
      exact ⟨⟨-1, rfl, by rw [HNO.out]; rfl⟩, HGG.out⟩
set_option maxRecDepth 100000 in
theorem bigContains_any (B : Nat) (A : Option Addr) (n c : Nat) (ls : List LogV) (w : World) (h : LogsR B w ls A n) (hB : B ≤ w.heap.size) (hn : n ≤ 9223372036854775807) :
    Calls Tryz.prog 35 #[.slice A n c, .func (.func 33) #[] #[]] w fun e w' => e = .returned (.bool (ls.any bigLog)) ∧ w.grownBy w' none := by
  have HI := Lib.hid (bigIndex_any B A n c ls w h hB hn)
  clear h
  go_enter Tryz.func35, Tryz.ntmps35
  go_wp2_with fail
  refine HI.out.mono ?_
  rintro e w2 ⟨⟨i, rfl, hi⟩, hg⟩
  have HI2 := Lib.hid hi; have HG := Lib.hid hg
  clear hi hg
  go_wp2_with fail
  go_ret
  exact ⟨by rw [← HI2.out]; rfl, HG.out⟩
end Go.Proofs.YthalohloneojlaaGreatDoor
/- Receipts: Check, Form. -/
namespace Go.Proofs.YthalohloneojlaaGreatDoor
open Go.RowKit Go.Shelf
set_option linter.unusedVariables false
set_option linter.unusedSimpArgs false

/-- a receipt -/
structure Rcp where
  kind : Int
  status : Bool
  gas : Nat
  logs : List LogV
  full : Bool
  nonce : Nat
  version : Nat
def Rcp.zero : Rcp := ⟨0, false, 0, [], false, 0, 0⟩
def Rcp.Ok (x : Rcp) : Prop := x.gas < 18446744073709551616 ∧ x.nonce < 18446744073709551616 ∧ x.version < 18446744073709551616
def rcpC (x : Rcp) (v : Value) : Array Value := #[.int .i64 x.kind, .bool x.status, .int .u64 (x.gas : Int), v, .bool x.full, .int .u64 (x.nonce : Int), .int .u64 (x.version : Int)]
def chkE (kd odd full k1 v1 b1 b2 many big : Bool) : Int :=
  if (!kd) = true then 9 else if (odd || (full && (k1 || v1)) || (!full && !(b1 && b2))) = true then 2 else if (many || big) = true then 5 else 0
/-- what is wrong with a receipt -/
def checkRc (x : Rcp) : Int := chkE (isKind x.kind) (x.logs.any oddLog) x.full (decide (x.kind ≠ 126)) (decide (1 < x.version)) (decide (x.nonce = 0)) (decide (x.version = 0)) (decide (16 < x.logs.length)) (x.logs.any bigLog)
def formRc (x : Rcp) : Int := if x.full = false then 0 else if x.version = 0 then 1 else 2
set_option maxRecDepth 100000 in
set_option maxHeartbeats 4000000 in
theorem checkRc_any (x : Rcp) (B : Nat) (A : Option Addr) (n c : Nat) (w : World) (h : LogsR B w x.logs A n) (hB : B ≤ w.heap.size) (hn : n ≤ 9223372036854775807) :
    Calls Tryz.prog 15 #[.agg (rcpC x (.slice A n c))] w fun e w' => e = .returned (.int .i64 (checkRc x)) ∧ w.grownBy w' none := by
  have hG := only_alloc (only_alloc (World.grownBy.refl w none) (.cells (rcpC x (.slice A n c)) 25)) (.cells #[.func (.func 30) #[] #[]] 36)
  have hb := (Blk.new w 25 (rcpC x (.slice A n c))).alloc (.cells #[.func (.func 30) #[] #[]] 36)
  have hp := Boxed.new (w.alloc (.cells (rcpC x (.slice A n c)) 25)) 36 (.func (.func 30) #[] #[])
  rw [World.size_alloc] at hp
  have hR := h.grown hG hB
  have hB1 := Nat.le_trans hB hG.size
  obtain ⟨kind, status, gas, ls, full, nonce, version⟩ := x
  simp only [rcpC] at *
  have hE : checkRc ⟨kind, status, gas, ls, full, nonce, version⟩ = chkE (isKind kind) (ls.any oddLog) full (decide (kind ≠ 126)) (decide (1 < version)) (decide (nonce = 0)) (decide (version = 0)) (decide (16 < n)) (ls.any bigLog) := by rw [← h.1]; rfl
  rw [hE]
  clear hE
  have HK := Lib.hid (fun V => kind_any kind V)
  have HO := Lib.hid (fun (V : World) p hp hR hB => oddContains_any B A n c p ls V hp hR hB hn)
  have HBG := Lib.hid (fun (V : World) hR hB => bigContains_any B A n c ls V hR hB hn)
  have e1 : ((nonce : Int) == 0) = decide (nonce = 0) := by by_cases hh : nonce = 0 <;> simp [hh]
  have e1n : (nonce == 0) = decide (nonce = 0) := by by_cases hh : nonce = 0 <;> simp [hh]
  have e2 : ((version : Int) == 0) = decide (version = 0) := by by_cases hh : version = 0 <;> simp [hh]
  have e2n : (version == 0) = decide (version = 0) := by by_cases hh : version = 0 <;> simp [hh]
  have e3 : decide ((1 : Int) < (version : Int)) = decide (1 < version) := decide_eq_decide.2 (by omega)
  have e4 : (kind != 126) = decide (kind ≠ 126) := by by_cases hh : kind = 126 <;> simp [hh]
  have e5 : decide ((16 : Int) < (n : Int)) = decide (16 < n) := decide_eq_decide.2 (by omega)
  generalize isKind kind = kd at *
  generalize ls.any oddLog = od at *
  generalize ls.any bigLog = bg at *
  generalize decide (kind ≠ 126) = k1 at *
  generalize decide (1 < version) = v1 at *
  generalize decide (nonce = 0) = b1 at *
  generalize decide (version = 0) = b2 at *
  generalize decide (16 < n) = mn at *
  have E1 := Lib.hid e1; have E1n := Lib.hid e1n; have E2 := Lib.hid e2; have E2n := Lib.hid e2n; have E3 := Lib.hid e3; have E4 := Lib.hid e4; have E5 := Lib.hid e5
  clear e1 e1n e2 e2n e3 e4 e5 h hB
  go_enter Tryz.func15, Tryz.ntmps15
  go_upto_region 2 with (fail)
  obtain ⟨g, hg⟩ : ∃ g, w.heap.size = g := ⟨_, rfl⟩
  rw [hg] at hb hp ⊢
  clear hg
  generalize (w.alloc (.cells #[.int .i64 kind, .bool status, .int .u64 (gas : Int), .slice A n c, .bool full, .int .u64 (nonce : Int), .int .u64 (version : Int)] 25)).alloc (.cells #[.func (.func 30) #[] #[]] 36) = w1 at *
  have HR := Lib.hid hR; have HB1 := Lib.hid hB1; have HG := Lib.hid hG; have HB := Lib.hid hb; have HP := Lib.hid hp
  clear hR hB1 hG hb hp
  have c0 := HB.out.cell 0; have c5 := HB.out.cell 5; have c6 := HB.out.cell 6
  simp only [List.getElem?_toArray, List.getElem?_cons_zero, List.getElem?_cons_succ] at c0 c5 c6
  have e1 := E1.out; have e1n := E1n.out; have e2 := E2.out; have e2n := E2n.out
  cases b1 with
  | false =>
    go_wp2_with fail
    refine (HK.out _).mono ?_
    rintro e w2 ⟨rfl, hg⟩
    have HR := Lib.hid (HR.out.grown hg HB1.out)
    have HB1 := Lib.hid (Nat.le_trans HB1.out hg.size)
    have HG := Lib.hid (grown_self HG.out hg (by simp))
    have HB := Lib.hid (HB.out.grown hg (by simp))
    have HP := Lib.hid (HP.out.kept hg (by simp))
    clear hg c0 c5 c6 e1 e1n e2 e2n
    have c0 := HB.out.cell 0; have c3 := HB.out.cell 3; have c4 := HB.out.cell 4; have c6 := HB.out.cell 6
    simp only [List.getElem?_toArray, List.getElem?_cons_zero, List.getElem?_cons_succ] at c0 c3 c4 c6
    cases kd with
    | false =>
      go_wp2_with fail
      go_ret
      exact ⟨rfl, HG.out⟩
    | true =>
      go_wp2_with fail
      refine (HO.out _ _ HP.out HR.out HB1.out).mono ?_
      rintro e w3 ⟨rfl, hg⟩
      have HR := Lib.hid (HR.out.grown hg HB1.out)
      have HB1 := Lib.hid (Nat.le_trans HB1.out hg.size)
      have HG := Lib.hid (grown_self HG.out hg (by simp))
      have HB := Lib.hid (HB.out.grown hg (by simp))
      clear hg c0 c3 c4 c6
      have c0 := HB.out.cell 0; have c3 := HB.out.cell 3; have c4 := HB.out.cell 4; have c6 := HB.out.cell 6
      simp only [List.getElem?_toArray, List.getElem?_cons_zero, List.getElem?_cons_succ] at c0 c3 c4 c6
      cases od with
      | true =>
        have e3 := E3.out; have e4 := E4.out; have e5 := E5.out
        go_wp2_with fail
        go_ret
        exact ⟨rfl, HG.out⟩
      | false =>
        cases full with
        | true =>
          cases k1 with
          | true =>
            have e3 := E3.out; have e4 := E4.out; have e5 := E5.out
            go_wp2_with fail
            go_ret
            exact ⟨rfl, HG.out⟩
          | false =>
            cases v1 with
            | true =>
              have e3 := E3.out; have e4 := E4.out; have e5 := E5.out
              go_wp2_with fail
              go_ret
              exact ⟨rfl, HG.out⟩
            | false =>
              cases mn with
              | true =>
                have e3 := E3.out; have e4 := E4.out; have e5 := E5.out
                go_wp2_with fail
                go_ret
                exact ⟨rfl, HG.out⟩
              | false =>
                have e3 := E3.out; have e4 := E4.out; have e5 := E5.out
                go_wp2_with fail
                refine (HBG.out _ HR.out HB1.out).mono ?_
                rintro e w4 ⟨rfl, hg⟩
                have HG := Lib.hid (grown_self HG.out hg (by simp))
                clear hg
                cases bg with
                | true =>
                  go_wp2_with fail
                  go_ret
                  exact ⟨rfl, HG.out⟩
                | false =>
                  go_wp2_with fail
                  go_ret
                  exact ⟨rfl, HG.out⟩
        | false =>
          cases b2 with
          | true =>
            have e3 := E3.out; have e4 := E4.out; have e5 := E5.out
            go_wp2_with fail
            go_ret
            exact ⟨rfl, HG.out⟩
          | false =>
            have e3 := E3.out; have e4 := E4.out; have e5 := E5.out
            go_wp2_with fail
            go_ret
            exact ⟨rfl, HG.out⟩
  | true =>
    go_wp2_with fail
    refine (HK.out _).mono ?_
    rintro e w2 ⟨rfl, hg⟩
    have HR := Lib.hid (HR.out.grown hg HB1.out)
    have HB1 := Lib.hid (Nat.le_trans HB1.out hg.size)
    have HG := Lib.hid (grown_self HG.out hg (by simp))
    have HB := Lib.hid (HB.out.grown hg (by simp))
    have HP := Lib.hid (HP.out.kept hg (by simp))
    clear hg c0 c5 c6 e1 e1n e2 e2n
    have c0 := HB.out.cell 0; have c3 := HB.out.cell 3; have c4 := HB.out.cell 4; have c6 := HB.out.cell 6
    simp only [List.getElem?_toArray, List.getElem?_cons_zero, List.getElem?_cons_succ] at c0 c3 c4 c6
    cases kd with
    | false =>
      go_wp2_with fail
      go_ret
      exact ⟨rfl, HG.out⟩
    | true =>
      go_wp2_with fail
      refine (HO.out _ _ HP.out HR.out HB1.out).mono ?_
      rintro e w3 ⟨rfl, hg⟩
      have HR := Lib.hid (HR.out.grown hg HB1.out)
      have HB1 := Lib.hid (Nat.le_trans HB1.out hg.size)
      have HG := Lib.hid (grown_self HG.out hg (by simp))
      have HB := Lib.hid (HB.out.grown hg (by simp))
      clear hg c0 c3 c4 c6
      have c0 := HB.out.cell 0; have c3 := HB.out.cell 3; have c4 := HB.out.cell 4; have c6 := HB.out.cell 6
      simp only [List.getElem?_toArray, List.getElem?_cons_zero, List.getElem?_cons_succ] at c0 c3 c4 c6
      cases od with
      | true =>
        have e3 := E3.out; have e4 := E4.out; have e5 := E5.out
        go_wp2_with fail
        go_ret
        exact ⟨rfl, HG.out⟩
      | false =>
        cases full with
        | true =>
          cases k1 with
          | true =>
            have e3 := E3.out; have e4 := E4.out; have e5 := E5.out
            go_wp2_with fail
            go_ret
            exact ⟨rfl, HG.out⟩
          | false =>
            cases v1 with
            | true =>
              have e3 := E3.out; have e4 := E4.out; have e5 := E5.out
              go_wp2_with fail
              go_ret
              exact ⟨rfl, HG.out⟩
            | false =>
              cases mn with
              | true =>
                have e3 := E3.out; have e4 := E4.out; have e5 := E5.out
                go_wp2_with fail
                go_ret
                exact ⟨rfl, HG.out⟩
              | false =>
                have e3 := E3.out; have e4 := E4.out; have e5 := E5.out
                go_wp2_with fail
                refine (HBG.out _ HR.out HB1.out).mono ?_
                rintro e w4 ⟨rfl, hg⟩
                have HG := Lib.hid (grown_self HG.out hg (by simp))
                clear hg
                cases bg with
                | true =>
                  go_wp2_with fail
                  go_ret
                  exact ⟨rfl, HG.out⟩
                | false =>
                  go_wp2_with fail
                  go_ret
                  exact ⟨rfl, HG.out⟩
        | false =>
          cases b2 with
          | true =>
            cases mn with
            | true =>
              have e3 := E3.out; have e4 := E4.out; have e5 := E5.out
              go_wp2_with fail
              go_ret
              exact ⟨rfl, HG.out⟩
            | false =>
              have e3 := E3.out; have e4 := E4.out; have e5 := E5.out
              go_wp2_with fail
              refine (HBG.out _ HR.out HB1.out).mono ?_
              rintro e w4 ⟨rfl, hg⟩
              have HG := Lib.hid (grown_self HG.out hg (by simp))
              clear hg
              cases bg with
              | true =>
                go_wp2_with fail
                go_ret
                exact ⟨rfl, HG.out⟩
              | false =>
                go_wp2_with fail
                go_ret
                exact ⟨rfl, HG.out⟩
          | false =>
            have e3 := E3.out; have e4 := E4.out; have e5 := E5.out
            go_wp2_with fail
            go_ret
            exact ⟨rfl, HG.out⟩
set_option maxRecDepth 100000 in
set_option maxHeartbeats 1000000 in
theorem formRc_any (x : Rcp) (v : Value) (hv : ∃ A n c, v = .slice A n c) (w : World) : Calls Tryz.prog 16 #[.agg (rcpC x v)] w fun e w' => e = .returned (.int .i64 (formRc x)) ∧ w.grownBy w' none := by
  have hG := only_alloc (World.grownBy.refl w none) (.cells (rcpC x v) 25)
  have hb := Blk.new w 25 (rcpC x v)
  obtain ⟨A, n, c, rfl⟩ := hv
  obtain ⟨kind, status, gas, ls, full, nonce, version⟩ := x
  simp only [rcpC] at *
  obtain ⟨r, hr⟩ : ∃ r, formRc ⟨kind, status, gas, ls, full, nonce, version⟩ = r := ⟨_, rfl⟩
  rw [hr]
  have HRR := Lib.hid hr
  clear hr
  go_enter Tryz.func16, Tryz.ntmps16
  go_upto_region 1 with (fail)
  obtain ⟨g, hg⟩ : ∃ g, w.heap.size = g := ⟨_, rfl⟩
  rw [hg] at hb ⊢
  clear hg
  generalize w.alloc (.cells #[.int .i64 kind, .bool status, .int .u64 (gas : Int), .slice A n c, .bool full, .int .u64 (nonce : Int), .int .u64 (version : Int)] 25) = w1 at *
  have HG := Lib.hid hG
  have c4 := hb.cell 4; have c6 := hb.cell 6
  simp only [List.getElem?_toArray, List.getElem?_cons_zero, List.getElem?_cons_succ] at c4 c6
  clear hb hG
  cases full with
  | false =>
    go_wp2_with fail
    go_ret
    exact ⟨by rw [← HRR.out]; rfl, HG.out⟩
  | true =>
    by_cases hh : version = 0
    · subst hh
      go_wp2_with fail
      go_ret
      exact ⟨by rw [← HRR.out]; rfl, HG.out⟩
    · have e1 : ((version : Int) == 0) = false := by simp; omega
      have e2 : (version == 0) = false := by simpa using hh
      have HH := Lib.hid hh
      clear hh
      go_wp2_with fail
      go_ret
      refine ⟨?_, HG.out⟩
      rw [← HRR.out]
      show _ = Ending.returned (.int .i64 (if true = false then 0 else if version = 0 then 1 else 2))
      rw [if_neg (by decide), if_neg HH.out]; rfl
end Go.Proofs.YthalohloneojlaaGreatDoor
/- A word as an item, and read again. -/
namespace Go.Proofs.YthalohloneojlaaGreatDoor
open Go.RowKit Go.Shelf
set_option linter.unusedVariables false
set_option linter.unusedSimpArgs false

/-- an item's word -/
def wordE (l : Bool) (s : ByteArray) : Int := if l then 2 else parseE s.data.toList
def wordP (l : Bool) (s : ByteArray) (q : Nat) : Nat := if l then 0 else parseP s.data.toList q

end Go.Proofs.YthalohloneojlaaGreatDoor
/- A row of texts as an item. -/
namespace Go.Proofs.YthalohloneojlaaGreatDoor
open Go.RowKit Go.Shelf
set_option linter.unusedVariables false
set_option linter.unusedSimpArgs false

/-- a text as an item -/
abbrev txt (s : ByteArray) : Itm := .mk false s []
def txtV (xs : List ByteArray) : List Value := xs.flatMap fun s => [.bool false, .string s, .slice none 0 0]
theorem txtV_snoc (xs : List ByteArray) (s : ByteArray) : txtV (xs ++ [s]) = txtV xs ++ [.bool false, .string s, .slice none 0 0] := by simp [txtV]
theorem txtV_len (xs : List ByteArray) : (txtV xs).length = xs.length * 3 := by
  induction xs with
  | nil => rfl
  | cons x xs ih => rw [show txtV (x :: xs) = [.bool false, .string x, .slice none 0 0] ++ txtV xs from rfl, List.length_append, ih]; simp; omega

theorem txtV_items (xs : List ByteArray) : txtV xs = itemsV (xs.map txt) (List.replicate xs.length (.slice none 0 0)) := by
  induction xs with
  | nil => rfl
  | cons x xs ih =>
    rw [show txtV (x :: xs) = [.bool false, .string x, .slice none 0 0] ++ txtV xs from rfl, ih]
    rfl
theorem txt_sub {u : World} {base k c : Nat} {A : Option Addr} {xs : List ByteArray} (hl : xs.length = k) (h : u.ownsRow base 45 3 (.slice A k c) k (txtV xs)) : SubV (fun g => base ≤ g) u (xs.map txt) (.slice A k c) := by
  subst hl
  rw [txtV_items] at h
  have hlen : (xs.map txt).length = xs.length := by simp
  rw [← hlen] at h ⊢
  refine SubV.of_own (by simp) h (fun i hi => ?_) (fun g hg => ownBlock_ge h hg)
  have hi' : i < xs.length := by simpa using hi
  have h1 : ((xs.map txt).getD i Itm.none_).items = [] := by
    rw [List.getD_eq_getElem?_getD, List.getElem?_map, List.getElem?_eq_getElem hi']; rfl
  have h2 : (List.replicate (xs.map txt).length (Value.slice none 0 0)).getD i undef = .slice none 0 0 := by
    rw [List.getD_eq_getElem?_getD, List.getElem?_replicate, if_pos hi]; rfl
  rw [h1, h2]
  exact .mk [] none 0 [] (fun h => by cases h) (fun i h => by cases h)
theorem sub_set3 {S : Nat → Prop} {W : World} {xs : List Itm} {v : Value} {g : Nat} (h : SubV S W xs v) (hg : ¬ S g) (x y z : Value) : SubV S (((W.setCell ⟨g, 0, none⟩ x).setCell ⟨g, 1, none⟩ y).setCell ⟨g, 2, none⟩ z) xs v := by
  refine h.keep fun p hp u hu => ?_
  have hne : g ≠ p.block := fun e => hg (e ▸ hp)
  rw [World.cell?_setCell_far _ _ _ _ hne, World.cell?_setCell_far _ _ _ _ hne, World.cell?_setCell_far _ _ _ _ hne]
  exact hu

end Go.Proofs.YthalohloneojlaaGreatDoor
/- A row of texts as an item (receipt.written with field.Text).  Printed by wip/genRcpC.py from XFldT. -/
namespace Go.Proofs.YthalohloneojlaaGreatDoor
open Go.RowKit Go.Shelf
set_option linter.unusedVariables false
set_option linter.unusedSimpArgs false

set_option maxRecDepth 100000 in
set_option maxHeartbeats 2000000 in
theorem writtenS_any (B : Nat) (A : Option Addr) (n c : Nat) (xs : List ByteArray) (w : World) (h : Reads w B 1 A n (xs.map Value.string)) (hB : B ≤ w.heap.size) (hn : n ≤ 1000) :
    Calls Tryz.prog 48 #[.slice A n c, .func (.func 46) #[] #[]] w fun e w' => ∃ A' c', e = .returned (.agg #[.bool true, .string ⟨#[]⟩, .slice A' n c']) ∧ SubV (fun g => w.heap.size ≤ g) w' (xs.map txt) (.slice A' n c') ∧ w.grownBy w' none := by
  have hl : xs.length = n := by have := h.1; simpa using this
  have hRB := Blk.new w 45 #[.bool false, .string ⟨#[]⟩, .slice none 0 0]
  have hG := only_alloc (World.grownBy.refl w none) (.cells #[.bool false, .string ⟨#[]⟩, .slice none 0 0] 45)
  go_enter Tryz.func48, Tryz.ntmps48
  go_upto_region 1 with (fail)
  obtain ⟨b, hb⟩ : ∃ b, w.heap.size = b := ⟨_, rfl⟩
  have HW := Lib.hid hb
  rw [hb] at hRB ⊢
  have hz : (w.alloc (.cells #[.bool false, .string ⟨#[]⟩, .slice none 0 0] 45)).heap.size = b + 1 := by simp [hb]
  have h := h.alloc hB (.cells #[.bool false, .string ⟨#[]⟩, .slice none 0 0] 45)
  generalize w.alloc (.cells #[.bool false, .string ⟨#[]⟩, .slice none 0 0] 45) = W1 at *
  go_wp2_with fail
  refine (list_any _ ⟨_, _, _, rfl⟩ _).mono ?_
  rintro e w3 ⟨rfl, hg3⟩
  obtain ⟨b3, hb3⟩ : ∃ b, w3.heap.size = b := ⟨_, rfl⟩
  have hz3 := hg3.size
  have K0 : Held3 w3 b3 (.slice none 0 0) 0 (txtV (xs.take 0)) (w3.alloc (.cells #[.bool true, .string ⟨#[]⟩, .slice none 0 0] 45)) := by
    refine ⟨?_, World.ownsRow_nil _ _ _ _, only_alloc (World.grownBy.refl w3 none) _, by simp; omega, by omega⟩
    have := Blk.new w3 45 #[.bool true, .string ⟨#[]⟩, .slice none 0 0]
    rwa [hb3] at this
  have h := h.grown hg3 (by have := HW.out; omega) (by simp)
  have h0 := Lib.hid h
  have HL := Lib.hid hl
  have HB : Hid (B ≤ w3.heap.size) := Lib.hid (by have := HW.out; omega)
  have HRB := Lib.hid (hRB.grown hg3 (by simp))
  have HG := Lib.hid (grown_self hG hg3 (by simp))
  have h := h.alloc HB.out (.cells #[.bool true, .string ⟨#[]⟩, .slice none 0 0] 45)
  have HS : Hid (w.heap.size ≤ b3) := Lib.hid (by have := HW.out; omega)
  have HZB : Hid (b + 1 ≤ b3) := Lib.hid (by omega)
  clear hG hg3 hl hB hRB
  go_upto_region 2 with (fail)
  generalize w3.alloc (.cells #[.bool true, .string ⟨#[]⟩, .slice none 0 0] 45) = W4 at *
  clear hz hz3 hb3
  go_wp2_with fail
  go_loopw [11] (fun i wr => ∃ (k : Nat) (v : Value), i = .int .i64 k ∧ k ≤ n ∧ Held3 w3 b3 v k (txtV (xs.take k)) wr) (fun i _ => n - (intOf i).toNat)
  case atStart => exact ⟨0, _, rfl, by omega, K0⟩
  case round =>
    clear K0 h
    obtain ⟨k, v, rfl, hk, K0⟩ := hrel
    have h := h0.out.grown K0.grown HB.out (by simp)
    by_cases hlt : k < n
    · obtain ⟨g, off, rfl, hg, hc⟩ := Reads.vals Value.string .empty h hlt
      have c0 := hc k hlt
      have q1 : (k : Int) < (n : Int) := by omega
      have hTK : txtV (xs.take k) ++ [.bool false, .string (xs.getD k .empty), .slice none 0 0] = txtV (xs.take (k + 1)) := by
        rw [← txtV_snoc, List.take_add_one, List.getElem?_eq_getElem (by have := HL.out; omega), List.getD_eq_getElem?_getD, List.getElem?_eq_getElem (by have := HL.out; omega)]
        rfl
      obtain ⟨s, hs⟩ : ∃ s, xs.getD k .empty = s := ⟨_, rfl⟩
      rw [hs] at c0 hTK
      have HTK := Lib.hid hTK
      have H0 := Lib.hid h0.out
      clear h hc hs h0 hTK
      obtain ⟨vA, vc, rfl⟩ := own_slice3 K0.own
      go_wp2_with fail
      refine wp_region_held (S := fun _ => True) (by kernel_rfl) ?_
      change wpAnyH _ _ _ _ _ _ _ _ wr.drew
      replace K0 := K0.drew
      generalize wr.drew = u0 at *
      clear c0
      refine held_take (i := 0) (v := .pointer (some ⟨b3, 2, none⟩)) (some 15) rfl (by kernel_rfl) (by kernel_rfl) (by kernel_rfl) (fun _ _ _ h => h) rfl (Or.inl ⟨by rfl, fun W hW => by go_simp⟩) trivial ?_
      simp only [Act.put, List.setIfInBounds_toArray, List.set_cons_zero, List.set_cons_succ]
      refine held_take (i := 2) (v := .func (.func 46) #[] #[]) (some 17) rfl (by kernel_rfl) (by kernel_rfl) (by kernel_rfl) (fun _ _ _ h => h) rfl (Or.inl ⟨by rfl, fun W hW => by go_simp⟩) trivial ?_
      simp only [Act.put, List.setIfInBounds_toArray, List.set_cons_zero, List.set_cons_succ]
      refine held_take (i := 3) (v := .string s) (some 18) rfl (by kernel_rfl) (by kernel_rfl) (by kernel_rfl) (fun _ _ _ h => h) rfl (Or.inl ⟨by rfl, fun W hW => by go_simp⟩) trivial ?_
      simp only [Act.put, List.setIfInBounds_toArray, List.set_cons_zero, List.set_cons_succ]
      refine held_two (i := 1) (j := 4) (by kernel_rfl) ?_ ?_
      · refine held_value (some 16) rfl rfl (.slice vA k vc) (exec_load1 43 (.tmp 15) rfl _ rfl _ _ Tryz.underlying43 rfl (K0.blk.cell 2)) rfl trivial ?_
        simp only [Act.put, List.setIfInBounds_toArray, List.set_cons_zero, List.set_cons_succ]
        refine held_one (i := 4) (by kernel_rfl) ?_
        refine held_enter (some 19) rfl rfl 46 #[.string s] (exec_callv1 46 (.tmp 17) (.tmp 18) _ rfl rfl _ rfl (enters_of Tryz.func46 (by kernel_rfl) rfl _ _)) rfl ((text_any s _).mono ?_)
        rintro e u1 ⟨rfl, hgc⟩
        have K1 := K0.kept hgc
        refine ⟨_, rfl, trivial, ?_⟩
        simp only [Act.put, List.setIfInBounds_toArray, List.set_cons_zero, List.set_cons_succ]
        refine held_one (i := 5) (by kernel_rfl) ?_
        refine held_value (some 20) rfl rfl (.slice (some ⟨u1.heap.size, 0, none⟩) 1 1) (by go_simp <;> rfl) rfl trivial ?_
        simp only [Act.put, List.setIfInBounds_toArray, List.set_cons_zero, List.set_cons_succ]
        have K2 := K1.kept (only_alloc (World.grownBy.refl u1 none) (.cells #[.bool false, .string s, .slice none 0 0] 45))
        obtain ⟨i0, hi, hz0, hzs, hzb⟩ := info_parts item_info
        obtain ⟨v', u2, hrun, hown', hgrow, hiff, hob⟩ := run_append_own_at (P := Tryz.prog) (u1.alloc (.cells #[.bool false, .string s, .slice none 0 0] 45)) (b3 + 1) 43 43 45 i0 _ 3 48 Tryz.underlying43 hi hz0 hzs hzb rfl (by decide) (.slice vA k vc) k (txtV (xs.take k)) K2.own ⟨u1.heap.size, 0, none⟩ 1 1 [.bool false, .string s, .slice none 0 0] rfl (cell_three_new _ _ _ _ _) (by simp [Value.oneCell']) (by simp only [maxLen]; omega) (by omega) K2.size
        obtain ⟨g', cap', rfl⟩ := ownsRow_succ hown'
        have K3 := K2.put hown' hgrow
        refine held_one (i := 6) (by kernel_rfl) ?_
        refine held_value (some 21) rfl rfl (.slice (some ⟨g', 0, none⟩) (k + 1) cap') (exec_append (.tmp 16) (.tmp 20) 43 rfl _ _ _ rfl rfl hrun) rfl trivial ?_
        simp only [Act.put, List.setIfInBounds_toArray, List.set_cons_zero, List.set_cons_succ]
        refine held_one (i := 7) (by kernel_rfl) ?_
        refine held_value (some 22) rfl rfl (.pointer (some ⟨b3, 2, none⟩)) (by go_simp <;> rfl) rfl trivial ?_
        simp only [Act.put, List.setIfInBounds_toArray, List.set_cons_zero, List.set_cons_succ]
        refine held_one (i := 8) (by kernel_rfl) ?_
        refine held_store rfl rfl (exec_store1 (.tmp 22) (.tmp 21) rfl rfl rfl (K2.blk.grown hgrow (fun e => by have := ownBlock_ge K2.own e.symm; omega)) (by simp)) trivial ?_
        simp only [Act.put, List.setIfInBounds_toArray, List.set_cons_zero, List.set_cons_succ]
        refine wpAnyH_done (by kernel_rfl) ?_ _
        rw [HTK.out] at K3
        clear hrun hown' hgrow hob K2 hiff
        go_wp2_with fail
        go_roundw
        case rel => exact ⟨k + 1, _, by go_num, by omega, K3⟩
        case measure => simp [intOf]; omega
      · refine held_enter (some 19) rfl rfl 46 #[.string s] (exec_callv1 46 (.tmp 17) (.tmp 18) _ rfl rfl _ rfl (enters_of Tryz.func46 (by kernel_rfl) rfl _ _)) rfl ((text_any s _).mono ?_)
        rintro e u1 ⟨rfl, hgc⟩
        have K1 := K0.kept hgc
        refine ⟨_, rfl, trivial, ?_⟩
        simp only [Act.put, List.setIfInBounds_toArray, List.set_cons_zero, List.set_cons_succ]
        refine held_two (i := 1) (j := 5) (by kernel_rfl) ?_ ?_
        · refine held_value (some 16) rfl rfl (.slice vA k vc) (exec_load1 43 (.tmp 15) rfl _ rfl _ _ Tryz.underlying43 rfl (K1.blk.cell 2)) rfl trivial ?_
          simp only [Act.put, List.setIfInBounds_toArray, List.set_cons_zero, List.set_cons_succ]
          refine held_one (i := 5) (by kernel_rfl) ?_
          refine held_value (some 20) rfl rfl (.slice (some ⟨u1.heap.size, 0, none⟩) 1 1) (by go_simp <;> rfl) rfl trivial ?_
          simp only [Act.put, List.setIfInBounds_toArray, List.set_cons_zero, List.set_cons_succ]
          have K2 := K1.kept (only_alloc (World.grownBy.refl u1 none) (.cells #[.bool false, .string s, .slice none 0 0] 45))
          obtain ⟨i0, hi, hz0, hzs, hzb⟩ := info_parts item_info
          obtain ⟨v', u2, hrun, hown', hgrow, hiff, hob⟩ := run_append_own_at (P := Tryz.prog) (u1.alloc (.cells #[.bool false, .string s, .slice none 0 0] 45)) (b3 + 1) 43 43 45 i0 _ 3 48 Tryz.underlying43 hi hz0 hzs hzb rfl (by decide) (.slice vA k vc) k (txtV (xs.take k)) K2.own ⟨u1.heap.size, 0, none⟩ 1 1 [.bool false, .string s, .slice none 0 0] rfl (cell_three_new _ _ _ _ _) (by simp [Value.oneCell']) (by simp only [maxLen]; omega) (by omega) K2.size
          obtain ⟨g', cap', rfl⟩ := ownsRow_succ hown'
          have K3 := K2.put hown' hgrow
          refine held_one (i := 6) (by kernel_rfl) ?_
          refine held_value (some 21) rfl rfl (.slice (some ⟨g', 0, none⟩) (k + 1) cap') (exec_append (.tmp 16) (.tmp 20) 43 rfl _ _ _ rfl rfl hrun) rfl trivial ?_
          simp only [Act.put, List.setIfInBounds_toArray, List.set_cons_zero, List.set_cons_succ]
          refine held_one (i := 7) (by kernel_rfl) ?_
          refine held_value (some 22) rfl rfl (.pointer (some ⟨b3, 2, none⟩)) (by go_simp <;> rfl) rfl trivial ?_
          simp only [Act.put, List.setIfInBounds_toArray, List.set_cons_zero, List.set_cons_succ]
          refine held_one (i := 8) (by kernel_rfl) ?_
          refine held_store rfl rfl (exec_store1 (.tmp 22) (.tmp 21) rfl rfl rfl (K2.blk.grown hgrow (fun e => by have := ownBlock_ge K2.own e.symm; omega)) (by simp)) trivial ?_
          simp only [Act.put, List.setIfInBounds_toArray, List.set_cons_zero, List.set_cons_succ]
          refine wpAnyH_done (by kernel_rfl) ?_ _
          rw [HTK.out] at K3
          clear hrun hown' hgrow hob K2 hiff
          go_wp2_with fail
          go_roundw
          case rel => exact ⟨k + 1, _, by go_num, by omega, K3⟩
          case measure => simp [intOf]; omega
        · refine held_value (some 20) rfl rfl (.slice (some ⟨u1.heap.size, 0, none⟩) 1 1) (by go_simp <;> rfl) rfl trivial ?_
          simp only [Act.put, List.setIfInBounds_toArray, List.set_cons_zero, List.set_cons_succ]
          have K2 := K1.kept (only_alloc (World.grownBy.refl u1 none) (.cells #[.bool false, .string s, .slice none 0 0] 45))
          refine held_one (i := 1) (by kernel_rfl) ?_
          refine held_value (some 16) rfl rfl (.slice vA k vc) (exec_load1 43 (.tmp 15) rfl _ rfl _ _ Tryz.underlying43 rfl (K2.blk.cell 2)) rfl trivial ?_
          simp only [Act.put, List.setIfInBounds_toArray, List.set_cons_zero, List.set_cons_succ]
          obtain ⟨i0, hi, hz0, hzs, hzb⟩ := info_parts item_info
          obtain ⟨v', u2, hrun, hown', hgrow, hiff, hob⟩ := run_append_own_at (P := Tryz.prog) (u1.alloc (.cells #[.bool false, .string s, .slice none 0 0] 45)) (b3 + 1) 43 43 45 i0 _ 3 48 Tryz.underlying43 hi hz0 hzs hzb rfl (by decide) (.slice vA k vc) k (txtV (xs.take k)) K2.own ⟨u1.heap.size, 0, none⟩ 1 1 [.bool false, .string s, .slice none 0 0] rfl (cell_three_new _ _ _ _ _) (by simp [Value.oneCell']) (by simp only [maxLen]; omega) (by omega) K2.size
          obtain ⟨g', cap', rfl⟩ := ownsRow_succ hown'
          have K3 := K2.put hown' hgrow
          refine held_one (i := 6) (by kernel_rfl) ?_
          refine held_value (some 21) rfl rfl (.slice (some ⟨g', 0, none⟩) (k + 1) cap') (exec_append (.tmp 16) (.tmp 20) 43 rfl _ _ _ rfl rfl hrun) rfl trivial ?_
          simp only [Act.put, List.setIfInBounds_toArray, List.set_cons_zero, List.set_cons_succ]
          refine held_one (i := 7) (by kernel_rfl) ?_
          refine held_value (some 22) rfl rfl (.pointer (some ⟨b3, 2, none⟩)) (by go_simp <;> rfl) rfl trivial ?_
          simp only [Act.put, List.setIfInBounds_toArray, List.set_cons_zero, List.set_cons_succ]
          refine held_one (i := 8) (by kernel_rfl) ?_
          refine held_store rfl rfl (exec_store1 (.tmp 22) (.tmp 21) rfl rfl rfl (K2.blk.grown hgrow (fun e => by have := ownBlock_ge K2.own e.symm; omega)) (by simp)) trivial ?_
          simp only [Act.put, List.setIfInBounds_toArray, List.set_cons_zero, List.set_cons_succ]
          refine wpAnyH_done (by kernel_rfl) ?_ _
          rw [HTK.out] at K3
          clear hrun hown' hgrow hob K2 hiff
          go_wp2_with fail
          go_roundw
          case rel => exact ⟨k + 1, _, by go_num, by omega, K3⟩
          case measure => simp [intOf]; omega

    · obtain rfl : k = n := by omega
      have hfin : decide ((k : Int) < (k : Int)) = false := by simp
      clear h h0
      have hRB := HRB.out.grown K0.grown (by simp)
      obtain ⟨vA, vc, rfl⟩ := own_slice3 K0.own
      have hle : w.heap.size ≤ b := by have := HW.out; omega
      have hb3 : b + 1 ≤ b3 := by have := HZB.out; omega
      have ht : xs.take k = xs := List.take_of_length_le (by have := HL.out; omega)
      have hS := txt_sub HL.out (ht ▸ K0.own)
      have HS5 := Lib.hid (SubV.weak (sub_set3 (g := b) hS (by omega) (.bool true) (.string ⟨#[]⟩) (.slice vA k vc)) (fun g (hg : b3 + 1 ≤ g) => (show w.heap.size ≤ g by omega)))
      have HG5 := Lib.hid (only_set (only_set (only_set (grown_self HG.out K0.grown (by simp)) (p := ⟨b, 0, none⟩) hle (.bool true)) (p := ⟨b, 1, none⟩) hle (.string ⟨#[]⟩)) (p := ⟨b, 2, none⟩) hle (.slice vA k vc))
      have HB5 := Lib.hid (((hRB.set_ 0 (.bool true)).set_ 1 (.string ⟨#[]⟩)).set_ 2 (.slice vA k vc))
      have c0 := hRB.cell 0; have c1 := hRB.cell 1; have c2 := hRB.cell 2
      have d0 := hRB.frozen 0; have d1 := hRB.frozen 1; have d2 := hRB.frozen 2
      have e0 := K0.blk.cell 0; have e1 := K0.blk.cell 1; have e2 := K0.blk.cell 2
      simp only [List.getElem?_toArray, List.getElem?_cons_zero, List.getElem?_cons_succ] at c0 c1 c2 e0 e1 e2
      clear K0 hle hb3 ht hS hRB hk hlt
      go_wp2_with fail
      refine bodyPost_ret (results_cell1 (fn := Tryz.f48) rfl _ _ _ _ rfl (load_itemF HB5.out)) rfl ?_
      exact ⟨_, _, rfl, HS5.out, HG5.out⟩
end Go.Proofs.YthalohloneojlaaGreatDoor
