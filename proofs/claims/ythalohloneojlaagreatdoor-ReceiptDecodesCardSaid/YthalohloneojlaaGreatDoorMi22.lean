/- Merged: RcpN, TxtR, RdF, UwB, DgA, DgB. -/
import Derived.Test.YthalohloneojlaaGreatDoorMi3
import Derived.Test.YthalohloneojlaaGreatDoorMi4
import Derived.Test.YthalohloneojlaaGreatDoorMi9
import Derived.Test.YthalohloneojlaaGreatDoorMi10
import Derived.Test.YthalohloneojlaaGreatDoorMi11
import Derived.Test.YthalohloneojlaaGreatDoorMi19
import Derived.Test.YthalohloneojlaaGreatDoorMi21
import Derived.Deep.DeepCutAuto
/- Receipts: whether one is so small that it is looked at (the document's Few). -/
namespace Go.Proofs.YthalohloneojlaaGreatDoor
open Go.RowKit Go.Shelf
set_option linter.unusedVariables false
set_option linter.unusedSimpArgs false

/-- a log of a row, by its cells -/
theorem LogsR.at_ {B : Nat} {W : World} {ls : List LogV} {A : Option Addr} {n k : Nat} (h : LogsR B W ls A n) (hk : k < n) : ∃ g off T tc x, A = some ⟨g, off, none⟩ ∧ ls.getD k LogV.none_ = x ∧ W.cell? ⟨g, off + k * 3, none⟩ = some (.string x.addr) ∧ W.cell? ⟨g, off + k * 3 + 1, none⟩ = some (.slice T x.topics.length tc) ∧ W.cell? ⟨g, off + k * 3 + 2, none⟩ = some (.string x.data) ∧ Reads W B 1 T x.topics.length (x.topics.map Value.string) ∧ x.topics.length ≤ 9223372036854775807 := by
  obtain ⟨g, off, hA, _, hc⟩ := h.2 (by omega)
  obtain ⟨T, tc, a, b, c, d, e, _⟩ := hc k hk
  exact ⟨g, off, T, tc, _, hA, rfl, a, b, c, d, e⟩
/-- small: no log's bytes are between -/
def FewP (x : Rcp) : Prop := ∀ l ∈ x.logs, l.data.size ≤ 300 ∨ 4096 < l.data.size
set_option maxRecDepth 100000 in
set_option maxHeartbeats 4000000 in
theorem fewRc_any (x : Rcp) (B : Nat) (A : Option Addr) (n c : Nat) (w : World) (h : LogsR B w x.logs A n) (hB : B ≤ w.heap.size) (hn : n ≤ 9223372036854775807) :
    Calls Tryz.prog 9 #[.agg (rcpC x (.slice A n c))] w fun e w' => (∃ b, e = .returned (.bool b) ∧ (b = true → FewP x)) ∧ w.grownBy w' none := by
  have hG := only_alloc (World.grownBy.refl w none) (.cells (rcpC x (.slice A n c)) 25)
  have hb := Blk.new w 25 (rcpC x (.slice A n c))
  have hR := h.grown hG hB
  obtain ⟨kind, status, gas, ls, full, nonce, version⟩ := x
  simp only [rcpC] at *
  have HG := Lib.hid hG
  obtain ⟨g, hg⟩ : ∃ g, w.heap.size = g := ⟨_, rfl⟩
  rw [hg] at hb
  clear h hB hG
  go_enter Tryz.func9, Tryz.ntmps9
  go_upto_region 1 with (fail)
  clear hg
  generalize w.alloc (.cells #[.int .i64 kind, .bool status, .int .u64 (gas : Int), .slice A n c, .bool full, .int .u64 (nonce : Int), .int .u64 (version : Int)] 25) = w1 at *
  have b3 := hb.cell 3
  simp only [List.getElem?_toArray, List.getElem?_cons_zero, List.getElem?_cons_succ] at b3
  clear hb
  have HR := Lib.hid hR
  clear hR
  by_cases hbig : 20 < n
  · have q : (20 : Int) < (n : Int) := by omega
    go_wp2_with fail
    go_ret
    exact ⟨⟨_, rfl, fun h => by cases h⟩, HG.out⟩
  have q : decide ((20 : Int) < (n : Int)) = false := decide_eq_false (by omega)
  clear hbig
  go_wp2_with fail
  clear q
  go_loopw [3] (fun i wr => ∃ k : Nat, i = .int .i64 k ∧ k ≤ n ∧ w1 = wr ∧ Hid (∀ i, i < k → (ls.getD i LogV.none_).data.size ≤ 300 ∨ 4096 < (ls.getD i LogV.none_).data.size)) (fun i _ => n - (intOf i).toNat)
  case atStart => exact ⟨0, rfl, by omega, rfl, Lib.hid fun i hi => by omega⟩
  case round =>
    obtain ⟨k, rfl, hk, rfl, hf⟩ := hrel
    have HF := Lib.hid hf.out
    clear hf
    by_cases hlt : k < n
    · obtain ⟨gg, off, T, tc, l, rfl, hlk, c0, c1, c2, hr, hm⟩ := HR.out.at_ hlt
      have HLK := Lib.hid hlk
      have q1 : (k : Int) < (n : Int) := by omega
      have HL := Lib.hid hlt
      have HRT := Lib.hid hr
      clear hr hlt hlk
      obtain ⟨la, lt, ld⟩ := l
      simp only at c0 c1 c2 HRT hm
      have hrow : Hid (∀ j, j < lt.length → ∃ g off, T = some ⟨g, off, none⟩ ∧ w1.cell? ⟨g, off + j, none⟩ = some (.string (lt.getD j .empty))) := Lib.hid fun j hj => by
        obtain ⟨q, off, hT, _, hc⟩ := Reads.vals Value.string .empty HRT.out hj
        exact ⟨q, off, hT, hc j hj⟩
      clear HRT
      obtain ⟨tn, htn⟩ : ∃ tn, lt.length = tn := ⟨_, rfl⟩
      rw [htn] at hrow c1 hm
      clear htn
      have HTN : Hid (tn ≤ 9223372036854775807) := Lib.hid hm
      clear hm
      obtain ⟨R, hR⟩ : ∃ R, ((decide (300 < ld.size) && decide (ld.size ≤ 4096)) || decide (10 < tn) || decide (100 < la.size)) = R := ⟨_, rfl⟩
      have HRR := Lib.hid hR.symm
      clear hR
      go_upto_region 6 with (fail)
      go_cut [53] (fun v wx => v = .bool R ∧ wx = w1)
      case first =>
        have hr := HRR.out
        by_cases p1 : 300 < ld.size
        · have q2 : (300 : Int) < (ld.size : Int) := by omega
          rw [decide_eq_true p1] at hr
          by_cases p2 : ld.size ≤ 4096
          · have q3 : (ld.size : Int) ≤ 4096 := by omega
            obtain rfl : R = true := by rw [hr, decide_eq_true p2]; rfl
            clear p1 p2 hr HRR hrow
            go_wp2_with fail
            go_meet
            exact ⟨rfl, rfl⟩
          · have q3 : decide ((ld.size : Int) ≤ 4096) = false := decide_eq_false (by omega)
            rw [decide_eq_false p2] at hr
            by_cases p3 : 10 < tn
            · have q4 : (10 : Int) < (tn : Int) := by omega
              obtain rfl : R = true := by rw [hr, decide_eq_true p3]; rfl
              clear p1 p2 p3 hr HRR hrow
              go_wp2_with fail
              go_meet
              exact ⟨rfl, rfl⟩
            · have q4 : decide ((10 : Int) < (tn : Int)) = false := decide_eq_false (by omega)
              rw [decide_eq_false p3] at hr
              by_cases p4 : 100 < la.size
              · have q5 : (100 : Int) < (la.size : Int) := by omega
                obtain rfl : R = true := by rw [hr, decide_eq_true p4]; rfl
                clear p1 p2 p3 p4 hr HRR hrow
                go_wp2_with fail
                go_meet
                exact ⟨rfl, rfl⟩
              · have q5 : decide ((100 : Int) < (la.size : Int)) = false := decide_eq_false (by omega)
                obtain rfl : R = false := by rw [hr, decide_eq_false p4]; rfl
                clear p1 p2 p3 p4 hr HRR hrow
                go_wp2_with fail
                go_meet
                exact ⟨rfl, rfl⟩
        · have q2 : decide ((300 : Int) < (ld.size : Int)) = false := decide_eq_false (by omega)
          rw [decide_eq_false p1] at hr
          by_cases p3 : 10 < tn
          · have q4 : (10 : Int) < (tn : Int) := by omega
            obtain rfl : R = true := by rw [hr, decide_eq_true p3]; rfl
            clear p1 p3 hr HRR hrow
            go_wp2_with fail
            go_meet
            exact ⟨rfl, rfl⟩
          · have q4 : decide ((10 : Int) < (tn : Int)) = false := decide_eq_false (by omega)
            rw [decide_eq_false p3] at hr
            by_cases p4 : 100 < la.size
            · have q5 : (100 : Int) < (la.size : Int) := by omega
              obtain rfl : R = true := by rw [hr, decide_eq_true p4]; rfl
              clear p1 p3 p4 hr HRR hrow
              go_wp2_with fail
              go_meet
              exact ⟨rfl, rfl⟩
            · have q5 : decide ((100 : Int) < (la.size : Int)) = false := decide_eq_false (by omega)
              obtain rfl : R = false := by rw [hr, decide_eq_false p4]; rfl
              clear p1 p3 p4 hr HRR hrow
              go_wp2_with fail
              go_meet
              exact ⟨rfl, rfl⟩
      case rest =>
        obtain ⟨rfl, rfl⟩ := hcut
        clear c0 c2
        have htn := HTN.out
        cases R with
        | true =>
          clear HRR
          go_wp2_with fail
          go_ret
          exact ⟨⟨_, rfl, fun h => by cases h⟩, HG.out⟩
        | false =>
          have HFK : Hid (ld.size ≤ 300 ∨ 4096 < ld.size) := Lib.hid (by
            have h2 := HRR.out.symm
            simp only [Bool.or_eq_false_iff, Bool.and_eq_false_iff, decide_eq_false_iff_not] at h2
            omega)
          clear HRR
          go_wp2_with fail
          go_loopw [4] (fun j wr => ∃ m : Nat, j = .int .i64 m ∧ m ≤ tn ∧ wc = wr) (fun j _ => tn - (intOf j).toNat)
          case atStart => exact ⟨0, rfl, by omega, rfl⟩
          case round =>
            obtain ⟨m, rfl, hm, rfl⟩ := hrel
            by_cases hmt : m < tn
            · obtain ⟨tg, toff, rfl, t0⟩ := hrow.out m hmt
              have q2 : (m : Int) < (tn : Int) := by omega
              generalize lt.getD m .empty = ts at *
              by_cases p5 : 100 < ts.size
              · have q6 : (100 : Int) < (ts.size : Int) := by omega
                clear p5
                go_wp2_with fail
                go_ret
                exact ⟨⟨_, rfl, fun h => by cases h⟩, HG.out⟩
              · have q6 : decide ((100 : Int) < (ts.size : Int)) = false := decide_eq_false (by omega)
                clear p5
                go_wp2_with fail
                first
                | exact ⟨⟨m + 1, by go_num, by omega, by first | rfl | trivial⟩, by simp [intOf]; omega⟩
                | (go_roundw
                   case rel => (repeat apply Exists.intro); exact ⟨⟨m + 1, by go_num, by omega, by first | rfl | trivial⟩, rfl⟩
                   case measure => simp [intOf]; omega)
            · have q2 : decide ((m : Int) < (tn : Int)) = false := decide_eq_false (by omega)
              go_wp2_with fail
              refine ⟨⟨k + 1, by go_num, by have := HL.out; omega, by first | rfl | trivial, Lib.hid fun i hi => ?_⟩, by have := HL.out; simp [intOf]; omega⟩
              by_cases hik : i = k
              · rw [hik, HLK.out]; exact HFK.out
              · exact HF.out i (by omega)
    · have q1 : decide ((k : Int) < (n : Int)) = false := decide_eq_false (by omega)
      go_wp2_with fail
      go_ret
      refine ⟨⟨_, rfl, fun _ l hl => ?_⟩, HG.out⟩
      obtain ⟨i, hi, rfl⟩ := List.getElem_of_mem hl
      have hlen := HR.out.1
      have := HF.out i (by simp only at hi hlen; omega)
      rw [List.getD_eq_getElem?_getD, List.getElem?_eq_getElem (by simpa using hi)] at this
      exact this
end Go.Proofs.YthalohloneojlaaGreatDoor
/- Two rows of texts compared (rescriptref02.Texts). -/
namespace Go.Proofs.YthalohloneojlaaGreatDoor
open Go.RowKit Go.Shelf
set_option linter.unusedVariables false
set_option linter.unusedSimpArgs false

theorem rows_ext {xs ys : List ByteArray} (h : xs.length = ys.length) (hi : ∀ i, i < xs.length → xs.getD i .empty = ys.getD i .empty) : xs = ys := by
  apply List.ext_getElem h
  intro i h1 h2
  have := hi i h1
  rwa [List.getD_eq_getElem?_getD, List.getD_eq_getElem?_getD, List.getElem?_eq_getElem h1, List.getElem?_eq_getElem h2] at this

set_option maxRecDepth 100000 in
set_option maxHeartbeats 1000000 in
theorem textsR_any (B B' : Nat) (A A' : Option Addr) (n m c d : Nat) (xs ys : List ByteArray) (w : World) (h : Reads w B 1 A n (xs.map Value.string)) (h' : Reads w B' 1 A' m (ys.map Value.string)) (hn : n ≤ 281474976710656) (hm : m ≤ 281474976710656) :
    Calls Tryz.prog 29 #[.slice A n c, .slice A' m d] w fun e w' => e = .returned (.bool (decide (xs = ys))) ∧ Below w.heap.size w w' := by
  have hl : xs.length = n := by have := h.1; simpa using this
  have hl' : ys.length = m := by have := h'.1; simpa using this
  by_cases hnm : n = m
  · subst hnm
    have HL := Lib.hid hl; have HL' := Lib.hid hl'
    clear hl hl'
    go_enter Tryz.func29, Tryz.ntmps29
    go_wp2_with fail
    go_loopw [5] (fun i wr => ∃ k : Nat, i = .int .i64 k ∧ k ≤ n ∧ (∃ q, wr = w.drewN q) ∧ Hid (∀ i : Nat, i < k → xs.getD i .empty = ys.getD i .empty)) (fun i _ => n - (intOf i).toNat)
    case atStart => exact ⟨0, rfl, by omega, ⟨0, rfl⟩, Lib.hid (by intro i h1; omega)⟩
    case round =>
      obtain ⟨k, rfl, hk, ⟨q, rfl⟩, h2⟩ := hrel
      have h2' := Lib.hid h2.out
      by_cases hlt : k < n
      · obtain ⟨g, off, rfl, hg, hc⟩ := Reads.vals Value.string .empty h hlt
        obtain ⟨g', off', rfl, hg', hc'⟩ := Reads.vals Value.string .empty h' hlt
        have c0 := hc k hlt; have d0 := hc' k hlt
        have q1 : (k : Int) < (n : Int) := by omega
        obtain ⟨x, hx⟩ : ∃ x, xs.getD k .empty = x := ⟨_, rfl⟩
        obtain ⟨y, hy⟩ : ∃ y, ys.getD k .empty = y := ⟨_, rfl⟩
        rw [hx] at c0
        rw [hy] at d0
        have HX := Lib.hid hx; have HY := Lib.hid hy
        clear h h' h2 hc hc' hx hy
        by_cases hxy : x = y
        · have heq : (x.toList == y.toList) = true := by rw [hxy]; simp
          have hne : (x.toList != y.toList) = false := by rw [bne, heq]; rfl
          have HE := Lib.hid hxy
          clear hxy
          go_wp2_with fail
          go_quiet (fail)
          go_wp2_with fail
          refine ⟨⟨k + 1, by go_num, by omega, ⟨_, rfl⟩, Lib.hid fun i hi => ?_⟩, by simp [intOf]; omega⟩
          by_cases hik : i = k
          · rw [hik, HX.out, HY.out, HE.out]
          · exact h2'.out i (by omega)
        · have heq := str_ne hxy
          have hne : (x.toList != y.toList) = true := by rw [bne, heq]; rfl
          have hf : decide (xs = ys) = false := decide_eq_false (fun e => hxy (by rw [← HX.out, ← HY.out, e]))
          have HF := Lib.hid hf
          clear hxy hf
          go_wp2_with fail
          go_quiet (fail)
          go_wp2_with fail
          go_ret
          exact ⟨by rw [HF.out]; rfl, below_drewN (below_drewN (Below.refl _ w) _) _⟩
      · obtain rfl : k = n := by omega
        have hfin : decide ((k : Int) < (k : Int)) = false := by simp
        have heq : decide (xs = ys) = true := decide_eq_true (rows_ext (by rw [HL.out, HL'.out]) fun i hi => h2'.out i (by have := HL.out; omega))
        have HF := Lib.hid heq
        clear heq
        go_wp2_with fail
        go_ret
        exact ⟨by rw [HF.out]; rfl, below_drewN (Below.refl _ w) _⟩
  · have g1 : ((n : Int) != (m : Int)) = true := by simp; omega
    have hf : decide (xs = ys) = false := decide_eq_false (fun e => hnm (by rw [← hl, ← hl', e]))
    rw [hf]
    clear hf hnm hl hl'
    go_enter Tryz.func29, Tryz.ntmps29
    go_wp2_with fail
    go_ret
    exact ⟨rfl, Below.refl _ w⟩
end Go.Proofs.YthalohloneojlaaGreatDoor
/- Receipts, the document's: Same.  Printed by wip/genRdF.py -/
namespace Go.Proofs.YthalohloneojlaaGreatDoor
open Go.RowKit Go.Shelf
set_option linter.unusedVariables false
set_option linter.unusedSimpArgs false

set_option maxRecDepth 100000 in
set_option maxHeartbeats 8000000 in
theorem sameD_any (x y : Rcp) (B B' : Nat) (A A' : Option Addr) (n m c d : Nat) (w : World) (h : LogsR B w x.logs A n) (h' : LogsR B' w y.logs A' m) (hB : B ≤ w.heap.size) (hB' : B' ≤ w.heap.size) (hn : n ≤ 9223372036854775807) (hm : m ≤ 9223372036854775807)
    (hx : ∀ l ∈ x.logs, l.topics.length ≤ 281474976710656) (hy : ∀ l ∈ y.logs, l.topics.length ≤ 281474976710656) :
    Calls Tryz.prog 14 #[.agg (rcpC x (.slice A n c)), .agg (rcpC y (.slice A' m d))] w fun e w' => e = .returned (.bool (eqB x y)) ∧ w.grownBy w' none := by
  obtain ⟨xk, xs, xg, xl, xf, xn, xv⟩ := x
  obtain ⟨yk, ys, yg, yl, yf, yn, yv⟩ := y
  simp only [rcpC] at *
  have hG := only_alloc (only_alloc (World.grownBy.refl w none) (.cells #[.int .i64 xk, .bool xs, .int .u64 (xg : Int), .slice A n c, .bool xf, .int .u64 (xn : Int), .int .u64 (xv : Int)] 25)) (.cells #[.int .i64 yk, .bool ys, .int .u64 (yg : Int), .slice A' m d, .bool yf, .int .u64 (yn : Int), .int .u64 (yv : Int)] 25)
  have hb1 := (Blk.new w 25 #[.int .i64 xk, .bool xs, .int .u64 (xg : Int), .slice A n c, .bool xf, .int .u64 (xn : Int), .int .u64 (xv : Int)]).alloc (.cells #[.int .i64 yk, .bool ys, .int .u64 (yg : Int), .slice A' m d, .bool yf, .int .u64 (yn : Int), .int .u64 (yv : Int)] 25)
  have hb2 := Blk.new (w.alloc (.cells #[.int .i64 xk, .bool xs, .int .u64 (xg : Int), .slice A n c, .bool xf, .int .u64 (xn : Int), .int .u64 (xv : Int)] 25)) 25 #[.int .i64 yk, .bool ys, .int .u64 (yg : Int), .slice A' m d, .bool yf, .int .u64 (yn : Int), .int .u64 (yv : Int)]
  rw [World.size_alloc] at hb2
  have HR := Lib.hid (fun (V : World) (hV : w.grownBy V none) => h.grown hV hB); have HR' := Lib.hid (fun (V : World) (hV : w.grownBy V none) => h'.grown hV hB')
  have HBB := Lib.hid hB; have HBB' := Lib.hid hB'
  have HL := Lib.hid h.1; have HL' := Lib.hid h'.1
  have HX := Lib.hid hx; have HY := Lib.hid hy
  have HG := Lib.hid hG
  obtain ⟨g, hg⟩ : ∃ g, w.heap.size = g := ⟨_, rfl⟩
  rw [hg] at hb1 hb2
  obtain ⟨R, hR⟩ : ∃ R, eqB (Rcp.mk xk xs xg xl xf xn xv) (Rcp.mk yk ys yg yl yf yn yv) = R := ⟨_, rfl⟩
  rw [hR]
  have hne : ¬ (xk = yk ∧ xs = ys ∧ xg = yg ∧ xf = yf ∧ xn = yn ∧ xv = yv ∧ n = m) → R = false := by
    intro hh
    rw [← hR]
    apply eqB_f
    intro e
    injection e with e1 e2 e3 e4 e5 e6 e7
    exact hh ⟨e1, e2, e3, e5, e6, e7, by rw [← h.1, ← h'.1, e4]⟩
  have heq : (xk = yk ∧ xs = ys ∧ xg = yg ∧ xf = yf ∧ xn = yn ∧ xv = yv) → R = eqB xl yl := by
    rintro ⟨rfl, rfl, rfl, rfl, rfl, rfl⟩
    rw [← hR]
    by_cases hh : xl = yl
    · rw [eqB_t hh, eqB_t (by rw [hh])]
    · rw [eqB_f hh, eqB_f (by intro e; injection e; exact hh (by assumption))]
  have HNE := Lib.hid hne; have HEQ := Lib.hid heq; have HW := Lib.hid hg
  clear h h' hB hB' hG hR hne heq hx hy
  go_enter Tryz.func14, Tryz.ntmps14
  go_upto_region 1 with (fail)
  clear hg
  generalize (w.alloc (.cells #[.int .i64 xk, .bool xs, .int .u64 (xg : Int), .slice A n c, .bool xf, .int .u64 (xn : Int), .int .u64 (xv : Int)] 25)).alloc (.cells #[.int .i64 yk, .bool ys, .int .u64 (yg : Int), .slice A' m d, .bool yf, .int .u64 (yn : Int), .int .u64 (yv : Int)] 25) = w1 at *
  have c0 := hb1.cell 0; have c1 := hb1.cell 1; have c2 := hb1.cell 2; have c3 := hb1.cell 3; have c4 := hb1.cell 4; have c5 := hb1.cell 5; have c6 := hb1.cell 6
  have d0 := hb2.cell 0; have d1 := hb2.cell 1; have d2 := hb2.cell 2; have d3 := hb2.cell 3; have d4 := hb2.cell 4; have d5 := hb2.cell 5; have d6 := hb2.cell 6
  simp only [List.getElem?_toArray, List.getElem?_cons_zero, List.getElem?_cons_succ] at c0 c1 c2 c3 c4 c5 c6 d0 d1 d2 d3 d4 d5 d6
  have HB1 := Lib.hid hb1; have HB2 := Lib.hid hb2
  clear hb1 hb2
  by_cases h1 : xk = yk
  rotate_left
  · have q1 : (xk != yk) = true := by simp; omega
    obtain rfl := HNE.out (by simp [h1])
    clear h1 HEQ HNE
    go_wp2_with fail
    go_ret
    exact ⟨rfl, HG.out⟩
  have q1 : (xk != yk) = false := by simp [h1]
  by_cases h2 : xs = ys
  rotate_left
  · obtain rfl := HNE.out (by simp [h2])
    clear HEQ HNE
    cases xs <;> cases ys
    · exact absurd rfl h2
    · clear h2
      go_wp2_with fail
      go_ret
      exact ⟨rfl, HG.out⟩
    · clear h2
      go_wp2_with fail
      go_ret
      exact ⟨rfl, HG.out⟩
    · exact absurd rfl h2
  have q2 : True := trivial
  subst h2
  by_cases h3 : xg = yg
  rotate_left
  · have q3 : ((xg : Int) != (yg : Int)) = true := by simp; omega
    obtain rfl := HNE.out (by simp [h3])
    clear h3 HEQ HNE
    go_wp2_with fail
    go_ret
    exact ⟨rfl, HG.out⟩
  have q3 : ((xg : Int) != (yg : Int)) = false := by simp [h3]
  by_cases h4 : xf = yf
  rotate_left
  · obtain rfl := HNE.out (by simp [h4])
    clear HEQ HNE
    cases xf <;> cases yf
    · exact absurd rfl h4
    · clear h4
      go_wp2_with fail
      go_ret
      exact ⟨rfl, HG.out⟩
    · clear h4
      go_wp2_with fail
      go_ret
      exact ⟨rfl, HG.out⟩
    · exact absurd rfl h4
  have q4 : True := trivial
  subst h4
  by_cases h5 : xn = yn
  rotate_left
  · have q5 : ((xn : Int) != (yn : Int)) = true := by simp; omega
    obtain rfl := HNE.out (by simp [h5])
    clear h5 HEQ HNE
    go_wp2_with fail
    go_ret
    exact ⟨rfl, HG.out⟩
  have q5 : ((xn : Int) != (yn : Int)) = false := by simp [h5]
  by_cases h6 : xv = yv
  rotate_left
  · have q6 : ((xv : Int) != (yv : Int)) = true := by simp; omega
    obtain rfl := HNE.out (by simp [h6])
    clear h6 HEQ HNE
    go_wp2_with fail
    go_ret
    exact ⟨rfl, HG.out⟩
  have q6 : ((xv : Int) != (yv : Int)) = false := by simp [h6]
  by_cases h7 : n = m
  rotate_left
  · have q7 : ((n : Int) != (m : Int)) = true := by simp; omega
    obtain rfl := HNE.out (by simp [h7])
    clear h7 HEQ HNE
    go_wp2_with fail
    go_ret
    exact ⟨rfl, HG.out⟩
  have q7 : ((n : Int) != (m : Int)) = false := by simp [h7]
  have hRE := HEQ.out ⟨h1, rfl, h3, rfl, h5, h6⟩
  subst h7
  have HRE := Lib.hid hRE
  clear h1 h3 h5 h6 HEQ HNE hRE
  go_wp2_with fail
  clear q1 q3 q5 q6 q7 c0 c1 c2 c4 c5 c6 d0 d1 d2 d4 d5 d6
  go_loopw [5] (fun i wr => ∃ k : Nat, i = .int .i64 k ∧ k ≤ n ∧ w1.grownBy wr none ∧ Hid (∀ i : Nat, i < k → xl.getD i LogV.none_ = yl.getD i LogV.none_)) (fun i _ => n - (intOf i).toNat)
  case atStart => exact ⟨0, rfl, by omega, World.grownBy.refl _ _, Lib.hid (by intro i h1; omega)⟩
  case round =>
    obtain ⟨k, rfl, hk, hgr, h2⟩ := hrel
    have H2 := Lib.hid h2.out
    have HGR := Lib.hid hgr
    have hb1 := HB1.out.grown hgr (by simp); have hb2 := HB2.out.grown hgr (by simp)
    have c3 := hb1.cell 3; have d3 := hb2.cell 3
    simp only [List.getElem?_toArray, List.getElem?_cons_zero, List.getElem?_cons_succ] at c3 d3
    by_cases hlt : k < n
    · have hwr := grown_self HG.out hgr (by simp)
      obtain ⟨qg, off, T, tc, l, rfl, hlk, a0, a1, a2, hr, hm1⟩ := (HR.out wr hwr).at_ hlt
      obtain ⟨qg', off', T', tc', l', rfl, hlk', b0, b1, b2, hr', hm1'⟩ := (HR'.out wr hwr).at_ hlt
      have q1 : (k : Int) < (n : Int) := by omega
      have hk0 : (0 : Int) ≤ (k : Int) := by omega
      have hmem : l ∈ xl := by rw [← hlk, List.getD_eq_getElem?_getD, List.getElem?_eq_getElem (by have := HL.out; omega)]; exact List.getElem_mem _
      have hmem' : l' ∈ yl := by rw [← hlk', List.getD_eq_getElem?_getD, List.getElem?_eq_getElem (by have := HL'.out; omega)]; exact List.getElem_mem _
      have htx := fun (V : World) (hV : wr.grownBy V none) => textsR_any B B' T T' l.topics.length l'.topics.length tc tc' l.topics l'.topics V (hr.grown hV (Nat.le_trans HBB.out hwr.size) (by simp)) (hr'.grown hV (Nat.le_trans HBB'.out hwr.size) (by simp)) (HX.out l hmem) (HY.out l' hmem')
      rw [eqB_dec] at htx
      obtain ⟨tb, htb⟩ : ∃ t, eqB l.topics l'.topics = t := ⟨_, rfl⟩
      rw [htb] at htx
      have HTX := Lib.hid htx; have HTB := Lib.hid htb; have HLK := Lib.hid hlk; have HLK' := Lib.hid hlk'; have HLT := Lib.hid hlt
      have hS : LogAt wr qg (off + k * 3) l T l.topics.length tc ∧ LogAt wr qg' (off' + k * 3) l' T' l'.topics.length tc' := ⟨⟨a0, a1, a2⟩, ⟨b0, b1, b2⟩⟩
      have hgu := World.grownBy.refl wr none
      clear hmem hmem' hr hr' hm1 hm1' hlk hlk' hlt hwr htx htb h2 hgr a0 a1 a2 b0 b1 b2
      generalize l.topics.length = tn at *
      generalize l'.topics.length = tn' at *
      go_upto_region 6 with (fail)
      have hSS : (LogAt wr qg (off + k * 3) l T tn tc ∧ LogAt wr qg' (off' + k * 3) l' T' tn' tc') ∧ Blk wr g 25 #[.int .i64 xk, .bool xs, .int .u64 (xg : Int), .slice (some ⟨qg, off, none⟩) n c, .bool xf, .int .u64 (xn : Int), .int .u64 (xv : Int)] ∧ Blk wr (g + 1) 25 #[.int .i64 yk, .bool xs, .int .u64 (yg : Int), .slice (some ⟨qg', off', none⟩) n d, .bool xf, .int .u64 (yn : Int), .int .u64 (yv : Int)] := ⟨hS, hb1, hb2⟩
      clear hS hb1 hb2 c3 d3
      refine wp_region_held (S := fun W => (LogAt W qg (off + k * 3) l T tn tc ∧ LogAt W qg' (off' + k * 3) l' T' tn' tc') ∧ Blk W g 25 #[.int .i64 xk, .bool xs, .int .u64 (xg : Int), .slice (some ⟨qg, off, none⟩) n c, .bool xf, .int .u64 (xn : Int), .int .u64 (xv : Int)] ∧ Blk W (g + 1) 25 #[.int .i64 yk, .bool xs, .int .u64 (yg : Int), .slice (some ⟨qg', off', none⟩) n d, .bool xf, .int .u64 (yn : Int), .int .u64 (yv : Int)]) (by kernel_rfl) ?_
      change wpAnyH _ _ _ _ _ _ _ _ wr.drew
      replace hSS := And.intro (And.intro (hSS.1.1.grown (only_drew (World.grownBy.refl wr none)) (by simp)) (hSS.1.2.grown (only_drew (World.grownBy.refl wr none)) (by simp))) (And.intro hSS.2.1.drew hSS.2.2.drew)
      replace hgu := only_drew hgu
      generalize wr.drew = u0 at *
      refine held_take (i := 0) (v := .pointer (some ⟨g, 3, none⟩)) (some 63) rfl (by kernel_rfl) (by kernel_rfl) (by kernel_rfl) (fun _ _ _ h => h) rfl (Or.inl ⟨by rfl, fun W hW => by go_simp⟩) hSS ?_
      simp only [Act.put, List.setIfInBounds_toArray, List.set_cons_zero, List.set_cons_succ]
      refine held_take (i := 1) (v := .slice (some ⟨qg, off, none⟩) n c) (some 64) rfl (by kernel_rfl) (by kernel_rfl) (by kernel_rfl) (fun _ _ _ h => h) rfl (Or.inl ⟨by rfl, fun W hW => by have p0 := hW.2.1.cell 3; simp only [List.getElem?_toArray, List.getElem?_cons_zero, List.getElem?_cons_succ] at p0; go_simp⟩) hSS ?_
      simp only [Act.put, List.setIfInBounds_toArray, List.set_cons_zero, List.set_cons_succ]
      refine held_take (i := 2) (v := .int .i64 (k : Int)) (some 65) rfl (by kernel_rfl) (by kernel_rfl) (by kernel_rfl) (fun _ _ _ h => h) rfl (Or.inl ⟨by rfl, fun W hW => by go_simp⟩) hSS ?_
      simp only [Act.put, List.setIfInBounds_toArray, List.set_cons_zero, List.set_cons_succ]
      refine held_take (i := 3) (v := .pointer (some ⟨qg, off + k * 3, none⟩)) (some 66) rfl (by kernel_rfl) (by kernel_rfl) (by kernel_rfl) (fun _ _ _ h => h) rfl (Or.inl ⟨by rfl, fun W hW => by go_simp⟩) hSS ?_
      simp only [Act.put, List.setIfInBounds_toArray, List.set_cons_zero, List.set_cons_succ]
      refine held_take (i := 4) (v := .pointer (some ⟨qg, off + k * 3 + 1, none⟩)) (some 67) rfl (by kernel_rfl) (by kernel_rfl) (by kernel_rfl) (fun _ _ _ h => h) rfl (Or.inl ⟨by rfl, fun W hW => by go_simp⟩) hSS ?_
      simp only [Act.put, List.setIfInBounds_toArray, List.set_cons_zero, List.set_cons_succ]
      refine held_take (i := 5) (v := .slice T tn tc) (some 68) rfl (by kernel_rfl) (by kernel_rfl) (by kernel_rfl) (fun _ _ _ h => h) rfl (Or.inl ⟨by rfl, fun W hW => by have p1 := hW.1.1.2.1; go_simp⟩) hSS ?_
      simp only [Act.put, List.setIfInBounds_toArray, List.set_cons_zero, List.set_cons_succ]
      refine held_take (i := 6) (v := .pointer (some ⟨g + 1, 3, none⟩)) (some 69) rfl (by kernel_rfl) (by kernel_rfl) (by kernel_rfl) (fun _ _ _ h => h) rfl (Or.inl ⟨by rfl, fun W hW => by go_simp⟩) hSS ?_
      simp only [Act.put, List.setIfInBounds_toArray, List.set_cons_zero, List.set_cons_succ]
      refine held_take (i := 7) (v := .slice (some ⟨qg', off', none⟩) n d) (some 70) rfl (by kernel_rfl) (by kernel_rfl) (by kernel_rfl) (fun _ _ _ h => h) rfl (Or.inl ⟨by rfl, fun W hW => by have p0 := hW.2.2.cell 3; simp only [List.getElem?_toArray, List.getElem?_cons_zero, List.getElem?_cons_succ] at p0; go_simp⟩) hSS ?_
      simp only [Act.put, List.setIfInBounds_toArray, List.set_cons_zero, List.set_cons_succ]
      refine held_take (i := 8) (v := .int .i64 (k : Int)) (some 71) rfl (by kernel_rfl) (by kernel_rfl) (by kernel_rfl) (fun _ _ _ h => h) rfl (Or.inl ⟨by rfl, fun W hW => by go_simp⟩) hSS ?_
      simp only [Act.put, List.setIfInBounds_toArray, List.set_cons_zero, List.set_cons_succ]
      refine held_take (i := 9) (v := .pointer (some ⟨qg', off' + k * 3, none⟩)) (some 72) rfl (by kernel_rfl) (by kernel_rfl) (by kernel_rfl) (fun _ _ _ h => h) rfl (Or.inl ⟨by rfl, fun W hW => by go_simp⟩) hSS ?_
      simp only [Act.put, List.setIfInBounds_toArray, List.set_cons_zero, List.set_cons_succ]
      refine held_take (i := 10) (v := .pointer (some ⟨qg', off' + k * 3 + 1, none⟩)) (some 73) rfl (by kernel_rfl) (by kernel_rfl) (by kernel_rfl) (fun _ _ _ h => h) rfl (Or.inl ⟨by rfl, fun W hW => by go_simp⟩) hSS ?_
      simp only [Act.put, List.setIfInBounds_toArray, List.set_cons_zero, List.set_cons_succ]
      refine held_take (i := 11) (v := .slice T' tn' tc') (some 74) rfl (by kernel_rfl) (by kernel_rfl) (by kernel_rfl) (fun _ _ _ h => h) rfl (Or.inl ⟨by rfl, fun W hW => by have p1 := hW.1.2.2.1; go_simp⟩) hSS ?_
      simp only [Act.put, List.setIfInBounds_toArray, List.set_cons_zero, List.set_cons_succ]
      refine held_one (i := 12) (by kernel_rfl) ?_
      refine held_enter (some 75) rfl rfl 29 #[.slice T tn tc, .slice T' tn' tc'] (exec_call2 _ (.tmp 68) (.tmp 74) _ rfl _ _ rfl rfl rfl) rfl ((HTX.out u0 hgu).mono ?_)
      rintro e u1 ⟨rfl, hbel⟩
      have hg := grown_of_below hbel
      replace hSS := And.intro (And.intro (hSS.1.1.grown hg (by simp)) (hSS.1.2.grown hg (by simp))) (And.intro (hSS.2.1.grown hg (by simp)) (hSS.2.2.grown hg (by simp)))
      replace hgu := grown_self hgu hg (by simp)
      refine ⟨_, rfl, hSS, ?_⟩
      simp only [Act.put, List.setIfInBounds_toArray, List.set_cons_zero, List.set_cons_succ]
      refine held_one (i := 13) (by kernel_rfl) ?_
      refine held_value (some 6) rfl rfl (.bool tb) (by go_simp <;> rfl) rfl hSS ?_
      simp only [Act.put, List.setIfInBounds_toArray, List.set_cons_zero, List.set_cons_succ]
      refine wpAnyH_done (by kernel_rfl) ?_ _
      have a0 := hSS.1.1.1; have a2 := hSS.1.1.2.2; have b0 := hSS.1.2.1; have b2 := hSS.1.2.2.2
      have c3 := hSS.2.1.cell 3; have d3 := hSS.2.2.cell 3
      simp only [List.getElem?_toArray, List.getElem?_cons_zero, List.getElem?_cons_succ] at c3 d3
      have HGU := Lib.hid (grown_self HGR.out hgu (by simp))
      clear hbel hg hgu hSS HTX HGR
      obtain ⟨la, lt, ld⟩ := l
      obtain ⟨la', lt', ld'⟩ := l'
      simp only at a0 a2 b0 b2 HTB
      have hdiff : (LogV.mk la lt ld ≠ LogV.mk la' lt' ld') → R = false := fun hne => by
        rw [HRE.out]
        exact eqB_f (fun e => hne (by rw [← HLK.out, ← HLK'.out, e]))
      have HDF := Lib.hid hdiff
      clear hdiff
      by_cases p1 : la = la'
      rotate_left
      · have e1 : (la.toList == la'.toList) = false := str_ne p1
        have e1n : (la.toList != la'.toList) = true := by rw [bne, e1]; rfl
        obtain rfl := HDF.out (by intro e; injection e; exact p1 (by assumption))
        clear p1 HDF HLK HLK' HTB
        go_wp2_with fail
        go_quiet (fail)
        go_wp2_with fail
        go_ret
        exact ⟨rfl, grown_of_below (below_drewN (below_of_grown (grown_self HG.out HGU.out (by simp))) _)⟩
      subst p1
      have e1 : (la.toList == la.toList) = true := by simp
      have e1n : (la.toList != la.toList) = false := by rw [bne, e1]; rfl
      by_cases p2 : ld = ld'
      rotate_left
      · have e2 : (ld.toList == ld'.toList) = false := str_ne p2
        have e2n : (ld.toList != ld'.toList) = true := by rw [bne, e2]; rfl
        obtain rfl := HDF.out (by intro e; injection e; exact p2 (by assumption))
        clear p2 HDF HLK HLK' HTB
        go_wp2_with fail
        go_quiet (fail)
        go_wp2_with fail
        go_ret
        exact ⟨rfl, grown_of_below (below_drewN (below_of_grown (grown_self HG.out HGU.out (by simp))) _)⟩
      subst p2
      have e2 : (ld.toList == ld.toList) = true := by simp
      have e2n : (ld.toList != ld.toList) = false := by rw [bne, e2]; rfl
      cases tb with
      | false =>
        obtain rfl := HDF.out (by intro e; injection e with _ e2 _; have := HTB.out; rw [eqB_t e2] at this; cases this)
        clear HDF HLK HLK' HTB
        go_wp2_with fail
        go_quiet (fail)
        go_wp2_with fail
        go_ret
        exact ⟨rfl, grown_of_below (below_drewN (below_of_grown (grown_self HG.out HGU.out (by simp))) _)⟩
      | true =>
        have HTE : Hid (lt = lt') := Lib.hid (eqB_iff.1 HTB.out)
        clear HDF HTB
        go_wp2_with fail
        go_quiet (fail)
        go_wp2_with fail
        refine ⟨⟨k + 1, by go_num, by have := HLT.out; omega, grown_of_below (below_drewN (below_of_grown HGU.out) _), Lib.hid fun i hi => ?_⟩, by have := HLT.out; simp [intOf]; omega⟩
        by_cases hik : i = k
        · rw [hik, HLK.out, HLK'.out, HTE.out]
        · exact H2.out i (by omega)
    · have q1 : decide ((k : Int) < (n : Int)) = false := decide_eq_false (by omega)
      have he : xl = yl := logs_ext (by have h1 := HL.out; have h2 := HL'.out; omega) fun i hi => H2.out i (by have h1 := HL.out; omega)
      obtain rfl : R = true := by rw [HRE.out]; exact eqB_t he
      clear he h2 hb1 hb2
      go_wp2_with fail
      go_ret
      exact ⟨rfl, grown_self HG.out HGR.out (by simp)⟩
end Go.Proofs.YthalohloneojlaaGreatDoor
/- The document's words: of bytes; a number of bytes (rescriptref01.Parse, rescriptref02.Unbe). -/
namespace Go.Proofs.YthalohloneojlaaGreatDoor
open Go.RowKit Go.Shelf
set_option linter.unusedVariables false
set_option linter.unusedSimpArgs false

set_option maxRecDepth 100000 in
set_option maxHeartbeats 2000000 in
theorem parseR01_any (S : ByteArray) (hs : S.size ≤ 9223372036854775807) (w : World) :
    Calls Tryz.prog 133 #[.string S] w fun e w' => e = .returned (.tuple #[.agg (parseC S.data.toList), .int .i64 (parseE S.data.toList)]) ∧ w.grownBy w' none := by
  obtain ⟨l, hl⟩ : ∃ l, S.data.toList = l := ⟨_, rfl⟩
  have hlz : l.length = S.size := by rw [← hl, Array.length_toList]; rfl
  rw [hl]
  have HS := Lib.hid hl
  clear hl
  have hB := Blk.new w 87 #[.int .u64 0, .int .u64 0, .int .u64 0, .int .u64 0]
  have hG := only_alloc (World.grownBy.refl w none) (.cells #[.int .u64 0, .int .u64 0, .int .u64 0, .int .u64 0] 87)
  by_cases h1 : 32 < S.size
  · have hE : parseE l = 5 := if_pos (by omega)
    rw [hE, parseC_bad hE (by decide)]
    have d1 : (32 : Int) < (S.size : Int) := by omega
    clear hE
    go_enter Tryz.func133, Tryz.ntmps133
    go_wp2_with fail
    refine bodyPost_ret (results_cv (fn := Tryz.f133) rfl _ _ _ _ rfl (load_word (Blk.new w _ _))) rfl ?_
    exact ⟨rfl, only_alloc (World.grownBy.refl _ _) _⟩
  have d1 : decide ((32 : Int) < (S.size : Int)) = false := decide_eq_false (by omega)
  by_cases h2 : l.head? = some 0
  · have hE : parseE l = 8 := by unfold parseE; rw [if_neg (by omega), if_pos h2]
    rw [hE, parseC_bad hE (by decide)]
    have hpos : 0 < S.size := by
      rcases Nat.eq_zero_or_pos S.size with h | h
      · exfalso
        have : l = [] := List.length_eq_zero_iff.1 (by omega)
        rw [this] at h2; cases h2
      · exact h
    have hid : ∀ V, (Instr.index 9 (.string S) (.int .i64 0)).run Tryz.prog V = .ok (.int .u8 0) V := fun V => by
      have := idx_str S 0 0 (by rw [HS.out, ← h2, List.head?_eq_getElem?]) V
      simpa using this
    have d2 : (0 : Int) < (S.size : Int) := by omega
    clear hE h2
    go_enter Tryz.func133, Tryz.ntmps133
    go_wp2_with fail
    refine bodyPost_ret (results_cv (fn := Tryz.f133) rfl _ _ _ _ rfl (load_word (Blk.new w _ _))) rfl ?_
    exact ⟨rfl, only_alloc (World.grownBy.refl _ _) _⟩
  have hE : parseE l = 0 := by unfold parseE; rw [if_neg (by omega), if_neg h2]
  rw [hE, parseC_good hE]
  obtain ⟨k, hk⟩ : ∃ k, 32 - S.size = k := ⟨_, rfl⟩
  obtain ⟨Z, hZ⟩ : ∃ Z : ByteArray, (⟨(List.replicate k (0 : UInt8)).toArray⟩ : ByteArray) = Z := ⟨_, rfl⟩
  have hZl : Z.data.toList = List.replicate k 0 := by rw [← hZ]
  have hZz : Z.size = k := by have := congrArg List.length hZl; rw [Array.length_toList, List.length_replicate] at this; exact this
  have hsum : (Z ++ S).size = 32 := by
    have := congrArg List.length (ba_toList Z S)
    rw [Array.length_toList, List.length_append, Array.length_toList, Array.length_toList] at this
    have e : (Z ++ S).size = Z.size + S.size := this
    omega
  have hval : beV (Z ++ S).data.toList = beV l := by rw [ba_toList, hZl, HS.out, beV_pad]
  have HU : Hid (∀ V, Calls Tryz.prog 151 #[.string (Z ++ S)] V fun e w' => e = .returned (.tuple #[.agg (wordC (beV l)), .int .i64 0]) ∧ V.grownBy w' none) := Lib.hid fun V => by
    have := unfixedR_any (Z ++ S) hsum V
    rw [hval] at this
    exact this
  have hmk : ∀ V, (Instr.makeSlice 52 (.int .i64 (k : Int)) (.int .i64 (k : Int))).run Tryz.prog V = .ok (.slice (some ⟨V.heap.size, 0, none⟩) k k) (V.alloc (.cells (bytesC (List.replicate k 0)) 5)) := fun V => make_u8 k (by omega) V
  have hcv : ∀ V : World, (convert 52 9 (.slice (some ⟨V.heap.size, 0, none⟩) k k)).run Tryz.prog (V.alloc (.cells (bytesC (List.replicate k 0)) 5)) = .ok (.string Z) (V.alloc (.cells (bytesC (List.replicate k 0)) 5)) := fun V => by
    have := run_convert_bytes_back (P := Tryz.prog) (V.alloc (.cells (bytesC (List.replicate k 0)) 5)) 52 9 5 ⟨V.heap.size, 0, none⟩ k (List.replicate k 0) (by kernel_rfl) (by kernel_rfl) (by kernel_rfl) (fun j hj => by
      have := bytesC_cell (Blk.new V 5 (bytesC (List.replicate k 0))) j hj
      rw [Addr.add_mid, Nat.zero_add, this, List.getD_eq_getElem?_getD, List.getElem?_eq_getElem hj]
      rfl)
    rw [List.length_replicate, hZ] at this
    exact this
  have v1 : IntKind.i64.wrap (32 - (S.size : Int)) = (k : Int) := by rw [IntWalk.i64_in _ (by omega)]; omega
  have HMK := Lib.hid hmk; have HCV := Lib.hid hcv
  have HSUM := Lib.hid (show Z.size + S.size ≤ 9223372036854775807 by omega)
  have hB := Lib.hid hB; have hG := Lib.hid hG
  have h0 : ∀ hp : 0 < S.size, ((S[0]'hp).toNat : Int) = ((l.getD 0 0).toNat : Int) ∧ (((l.getD 0 0).toNat : Int) == 0) = false ∧ ∀ V, (Instr.index 9 (.string S) (.int .i64 0)).run Tryz.prog V = .ok (.int .u8 ((l.getD 0 0).toNat : Int)) V := by
    intro hpos
    have hh : l[0]? = some (l.getD 0 0) := by rw [List.getD_eq_getElem?_getD, List.getElem?_eq_getElem (by omega)]; rfl
    refine ⟨?_, ?_, fun V => ?_⟩
    · have e2 : S.data[0]? = some (l.getD 0 0) := by
        have : S.data.toList[0]? = some (l.getD 0 0) := by rw [HS.out]; exact hh
        simpa using this
      obtain ⟨_, e3⟩ := Array.getElem?_eq_some_iff.1 e2
      have : S[0]'hpos = l.getD 0 0 := e3
      rw [this]
    · rw [beq_eq_false_iff_ne]
      intro e
      apply h2
      rw [List.head?_eq_getElem?, hh]
      have : l.getD 0 0 = 0 := UInt8.toNat_inj.1 (by show (l.getD 0 0).toNat = 0; omega)
      rw [this]
    · have := idx_str S 0 (l.getD 0 0) (by rw [HS.out]; exact hh) V
      simpa using this
  have HE2 : Hid (wordC (beV l) = wordC (beV l)) := Lib.hid rfl
  clear hE h2 hval hsum hZl hZ hmk hcv
  have key : (decide ((0 : Int) < (S.size : Int)) = false) ∨ (((0 : Int) < (S.size : Int)) ∧ ∃ (hp : 0 < S.size) (c : Nat), ((S[0]'hp).toNat : Int) = (c : Int) ∧ ((c : Int) == 0) = false ∧ ∀ V, (Instr.index 9 (.string S) (.int .i64 0)).run Tryz.prog V = .ok (.int .u8 (c : Int)) V) := by
    rcases Nat.eq_zero_or_pos S.size with h | h
    · exact .inl (by rw [h]; rfl)
    · obtain ⟨a1, a2, a3⟩ := h0 h
      exact .inr ⟨by omega, h, (l.getD 0 0).toNat, a1, a2, a3⟩
  clear h0
  have key2 : (decide ((0 : Int) < (S.size : Int)) = false ∧ ¬ 0 < S.size ∧ decide (0 < S.size) = false) ∨ (((0 : Int) < (S.size : Int)) ∧ ∃ (hp : 0 < S.size), ¬ (S[0]'hp) = 0 ∧ ((S[0]'hp) == 0) = false ∧ ¬ (S[0]'hp).toNat = 0 ∧ (((S[0]'hp).toNat : Int) == 0) = false ∧ ((S[0]'hp).toNat == 0) = false) := by
    rcases key with h | ⟨h1, hp, c, h2, h3, _⟩
    · have h9 := of_decide_eq_false h
      exact .inl ⟨h, by omega, decide_eq_false (by omega)⟩
    · have h4 : ¬ (S[0]'hp).toNat = 0 := by
        intro e
        rw [e] at h2
        rw [← h2] at h3
        cases h3
      have h5 : ¬ (S[0]'hp) = 0 := fun e => h4 (by rw [e]; rfl)
      exact .inr ⟨h1, hp, h5, by simpa using h5, h4, by rw [h2]; exact h3, by simpa using h4⟩
  clear key
  rcases key2 with ⟨d2, d2', d2''⟩ | ⟨d2, hp0, n1, n2, n3, n4, n5⟩
  all_goals
    go_enter Tryz.func133, Tryz.ntmps133
    go_upto_region 5 with (fail)
    obtain ⟨b, hb⟩ : ∃ b, w.heap.size = b := ⟨_, rfl⟩
    have HW := Lib.hid hb
    have hB := hB.out
    have hG := hG.out
    rw [hb] at hB ⊢
    clear hb
    generalize w.alloc (.cells #[.int .u64 0, .int .u64 0, .int .u64 0, .int .u64 0] 87) = W1 at *
    have hmk := HMK.out W1
    have hcv := HCV.out W1
    have hB := hB.alloc (.cells (bytesC (List.replicate k 0)) 5)
    have hG := only_alloc hG (.cells (bytesC (List.replicate k 0)) 5)
    generalize W1.alloc (.cells (bytesC (List.replicate k 0)) 5) = W2 at *
    have hsum := HSUM.out
    have HB2 := Lib.hid hB; have HG2 := Lib.hid hG
    clear hB hG
    go_wp2_with fail
    refine (HU.out _).mono ?_
    rintro e w4 ⟨rfl, hg4⟩
    have hB := HB2.out.grown hg4 (by simp)
    have HG4 := Lib.hid (only_set4 (grown_self HG2.out hg4 (by simp)) (Nat.le_of_eq HW.out) (.int .u64 (wp (beV l) 0 : Nat)) (.int .u64 (wp (beV l) 1 : Nat)) (.int .u64 (wp (beV l) 2 : Nat)) (.int .u64 (wp (beV l) 3 : Nat)))
    have HB4 := Lib.hid (blk_set4 hB (.int .u64 (wp (beV l) 0 : Nat)) (.int .u64 (wp (beV l) 1 : Nat)) (.int .u64 (wp (beV l) 2 : Nat)) (.int .u64 (wp (beV l) 3 : Nat)))
    have c0 := hB.cell 0; have c1 := hB.cell 1; have c2 := hB.cell 2; have c3 := hB.cell 3
    have e0 := hB.frozen 0; have e1 := hB.frozen 1; have e2 := hB.frozen 2; have e3 := hB.frozen 3
    simp only [List.getElem?_toArray, List.getElem?_cons_zero, List.getElem?_cons_succ] at c0 c1 c2 c3
    clear hg4 HB2 HG2 HU hB hmk hcv
    unfold wordC
    go_wp2_with fail
    refine bodyPost_ret (results_cv (fn := Tryz.f133) rfl _ _ _ _ rfl (load_word HB4.out)) rfl ?_
    exact ⟨rfl, HG4.out⟩
set_option maxRecDepth 100000 in
set_option maxHeartbeats 1000000 in
theorem unbeR_any (S : ByteArray) (hs : S.size ≤ 9223372036854775807) (w : World) :
    Calls Tryz.prog 106 #[.string S] w fun e w' => e = .returned (.tuple #[.int .u64 (unbeN S.data.toList : Nat), .int .i64 (unbeE S.data.toList)]) ∧ w.grownBy w' none := by
  have hlz : S.data.toList.length = S.size := Array.length_toList
  by_cases h1 : 8 < S.size
  · have d1 : (8 : Int) < (S.size : Int) := by omega
    rw [show unbeN S.data.toList = 0 from if_pos (by omega), show unbeE S.data.toList = 5 from if_pos (by omega)]
    clear hlz h1
    go_enter Tryz.func106, Tryz.ntmps106
    go_wp2_with fail
    go_ret2
    exact ⟨rfl, World.grownBy.refl _ _⟩
  · have d1 : decide ((8 : Int) < (S.size : Int)) = false := decide_eq_false (by omega)
    rw [show unbeN S.data.toList = parseP S.data.toList 0 from if_neg (by omega), show unbeE S.data.toList = parseE S.data.toList from if_neg (by omega)]
    have hp := fun V => parseR01_any S hs V
    rw [parseC_short (by omega)] at hp
    generalize parseP S.data.toList 0 = n at *
    generalize parseE S.data.toList = E at *
    have HP := Lib.hid hp
    clear hp hlz h1
    go_enter Tryz.func106, Tryz.ntmps106
    go_wp2_with fail
    refine (HP.out _).mono ?_
    rintro e w2 ⟨rfl, hg2⟩
    have hB := Blk.new w2 87 #[.int .u64 (n : Int), .int .u64 0, .int .u64 0, .int .u64 0]
    have hG := Lib.hid (only_alloc hg2 (.cells #[.int .u64 (n : Int), .int .u64 0, .int .u64 0, .int .u64 0] 87))
    clear hg2 HP
    go_upto_region 4 with (fail)
    obtain ⟨b, hb⟩ : ∃ b, w2.heap.size = b := ⟨_, rfl⟩
    rw [hb] at hB ⊢
    clear hb
    generalize w2.alloc (.cells #[.int .u64 (n : Int), .int .u64 0, .int .u64 0, .int .u64 0] 87) = W1 at *
    have c0 := hB.cell 0
    simp only [List.getElem?_toArray, List.getElem?_cons_zero, List.getElem?_cons_succ] at c0
    go_wp2_with fail
    go_ret2
    exact ⟨rfl, hG.out⟩
end Go.Proofs.YthalohloneojlaaGreatDoor
/- The document's fields of an item: a number, bytes, a list; the first error (rescriptref06, rescriptref10.First). -/
namespace Go.Proofs.YthalohloneojlaaGreatDoor
open Go.RowKit Go.Shelf
set_option linter.unusedVariables false
set_option linter.unusedSimpArgs false

set_option maxRecDepth 100000 in
set_option maxHeartbeats 1000000 in
theorem getListR_any (l : Bool) (s : ByteArray) (A : Option Addr) (n c : Nat) (least most : Int) (w : World) :
    Calls Tryz.prog 44 #[.agg #[.bool l, .string s, .slice A n c], .int .i64 least, .int .i64 most] w fun e w' => e = .returned (.tuple #[if l = true ∧ textE n least most = 0 then .slice A n c else .slice none 0 0, .int .i64 (if l then textE n least most else 2)]) ∧ w.grownBy w' none := by
  have hB := Blk.new w 45 #[.bool l, .string s, .slice A n c]
  have HG := Lib.hid (only_alloc (World.grownBy.refl w none) (.cells #[.bool l, .string s, .slice A n c] 45))
  obtain ⟨v, hv⟩ : ∃ v, (if l = true ∧ textE n least most = 0 then Value.slice A n c else .slice none 0 0) = v := ⟨_, rfl⟩
  obtain ⟨E, hE⟩ : ∃ E, (if l then textE n least most else 2) = E := ⟨_, rfl⟩
  rw [hv, hE]
  have HV := Lib.hid hv; have HE := Lib.hid hE
  clear hv hE
  go_enter Tryz.func44, Tryz.ntmps44
  go_upto_region 1 with (fail)
  obtain ⟨b, hb⟩ : ∃ b, w.heap.size = b := ⟨_, rfl⟩
  rw [hb] at hB ⊢
  clear hb
  generalize w.alloc (.cells #[.bool l, .string s, .slice A n c] 45) = W1 at *
  have c0 := hB.cell 0; have c1 := hB.cell 1; have c2 := hB.cell 2
  simp only [List.getElem?_toArray, List.getElem?_cons_zero, List.getElem?_cons_succ] at c0 c1 c2
  clear hB
  cases l with
  | false =>
    go_wp2_with fail
    go_ret2
    exact ⟨by rw [← HV.out, ← HE.out]; rfl, HG.out⟩
  | true =>
    by_cases h1 : (n : Int) < least
    · have d1 : decide ((n : Int) < least) = true := decide_eq_true h1
      have hT : textE n least most = 3 := if_pos h1
      have HT := Lib.hid hT
      clear hT
      go_wp2_with fail
      go_ret2
      exact ⟨by rw [← HV.out, ← HE.out, HT.out]; rfl, HG.out⟩
    · have d1 : decide ((n : Int) < least) = false := decide_eq_false h1
      by_cases h2 : most < (n : Int)
      · have d2 : decide (most < (n : Int)) = true := decide_eq_true h2
        have hT : textE n least most = 5 := by unfold textE; rw [if_neg h1, if_pos h2]
        have HT := Lib.hid hT
        clear hT
        go_wp2_with fail
        go_ret2
        exact ⟨by rw [← HV.out, ← HE.out, HT.out]; rfl, HG.out⟩
      · have d2 : decide (most < (n : Int)) = false := decide_eq_false h2
        have hT : textE n least most = 0 := by unfold textE; rw [if_neg h1, if_neg h2]
        have HT := Lib.hid hT
        clear hT
        go_wp2_with fail
        go_ret2
        exact ⟨by rw [← HV.out, ← HE.out, HT.out]; rfl, HG.out⟩
set_option maxRecDepth 100000 in
set_option maxHeartbeats 1000000 in
theorem getTextR_any (l : Bool) (s : ByteArray) (sv : Value) (least most : Int) (w : World) :
    Calls Tryz.prog 136 #[.agg #[.bool l, .string s, sv], .int .i64 least, .int .i64 most] w fun e w' => e = .returned (.tuple #[.string (if l = false ∧ textE s.size least most = 0 then s else ⟨#[]⟩), .int .i64 (if l then 2 else textE s.size least most)]) ∧ w.grownBy w' none := by
  have hB := Blk.new w 45 #[.bool l, .string s, sv]
  have HG := Lib.hid (only_alloc (World.grownBy.refl w none) (.cells #[.bool l, .string s, sv] 45))
  obtain ⟨v, hv⟩ : ∃ v, (if l = false ∧ textE s.size least most = 0 then s else ⟨#[]⟩) = v := ⟨_, rfl⟩
  obtain ⟨E, hE⟩ : ∃ E, (if l then 2 else textE s.size least most) = E := ⟨_, rfl⟩
  rw [hv, hE]
  have HV := Lib.hid hv; have HE := Lib.hid hE
  clear hv hE
  go_enter Tryz.func136, Tryz.ntmps136
  go_upto_region 1 with (fail)
  obtain ⟨b, hb⟩ : ∃ b, w.heap.size = b := ⟨_, rfl⟩
  rw [hb] at hB ⊢
  clear hb
  generalize w.alloc (.cells #[.bool l, .string s, sv] 45) = W1 at *
  have c0 := hB.cell 0; have c1 := hB.cell 1
  simp only [List.getElem?_toArray, List.getElem?_cons_zero, List.getElem?_cons_succ] at c0 c1
  clear hB
  cases l with
  | true =>
    go_wp2_with fail
    go_ret2
    exact ⟨by rw [← HV.out, ← HE.out]; rfl, HG.out⟩
  | false =>
    by_cases h1 : (s.size : Int) < least
    · have d1 : decide ((s.size : Int) < least) = true := decide_eq_true h1
      have hT : textE s.size least most = 3 := if_pos h1
      have HT := Lib.hid hT
      clear hT
      go_wp2_with fail
      go_ret2
      exact ⟨by rw [← HV.out, ← HE.out, HT.out]; rfl, HG.out⟩
    · have d1 : decide ((s.size : Int) < least) = false := decide_eq_false h1
      by_cases h2 : most < (s.size : Int)
      · have d2 : decide (most < (s.size : Int)) = true := decide_eq_true h2
        have hT : textE s.size least most = 5 := by unfold textE; rw [if_neg h1, if_pos h2]
        have HT := Lib.hid hT
        clear hT
        go_wp2_with fail
        go_ret2
        exact ⟨by rw [← HV.out, ← HE.out, HT.out]; rfl, HG.out⟩
      · have d2 : decide (most < (s.size : Int)) = false := decide_eq_false h2
        have hT : textE s.size least most = 0 := by unfold textE; rw [if_neg h1, if_neg h2]
        have HT := Lib.hid hT
        clear hT
        go_wp2_with fail
        go_ret2
        exact ⟨by rw [← HV.out, ← HE.out, HT.out]; rfl, HG.out⟩
theorem unbeN_bad {l : List UInt8} (h : unbeE l ≠ 0) : unbeN l = 0 := by
  unfold unbeE at h
  unfold unbeN
  split
  · rfl
  · rename_i g
    rw [if_neg g] at h
    exact if_neg h
set_option maxRecDepth 100000 in
set_option maxHeartbeats 1000000 in
theorem getNumberR_any (l : Bool) (s : ByteArray) (sv : Value) (hs : s.size ≤ 9223372036854775807) (w : World) :
    Calls Tryz.prog 72 #[.agg #[.bool l, .string s, sv]] w fun e w' => e = .returned (.tuple #[.int .u64 (numV l s : Nat), .int .i64 (numE l s)]) ∧ w.grownBy w' none := by
  have hB := Blk.new w 45 #[.bool l, .string s, sv]
  have HG := Lib.hid (only_alloc (World.grownBy.refl w none) (.cells #[.bool l, .string s, sv] 45))
  have HU := Lib.hid (fun V => unbeR_any s hs V)
  obtain ⟨v, hv⟩ : ∃ v, numV l s = v := ⟨_, rfl⟩
  obtain ⟨E, hE⟩ : ∃ E, numE l s = E := ⟨_, rfl⟩
  rw [hv, hE]
  have HV := Lib.hid hv; have HE := Lib.hid hE
  clear hv hE
  go_enter Tryz.func72, Tryz.ntmps72
  go_upto_region 1 with (fail)
  obtain ⟨b, hb⟩ : ∃ b, w.heap.size = b := ⟨_, rfl⟩
  rw [hb] at hB ⊢
  clear hb
  generalize w.alloc (.cells #[.bool l, .string s, sv] 45) = W1 at *
  have c0 := hB.cell 0; have c1 := hB.cell 1
  simp only [List.getElem?_toArray, List.getElem?_cons_zero, List.getElem?_cons_succ] at c0 c1
  clear hB
  cases l with
  | true =>
    go_wp2_with fail
    go_ret2
    exact ⟨by rw [← HV.out, ← HE.out]; rfl, HG.out⟩
  | false =>
    have hEV : E = unbeE s.data.toList ∧ v = unbeN s.data.toList := by
      have h1 : E = unbeE s.data.toList := by rw [← HE.out]; rfl
      refine ⟨h1, ?_⟩
      rw [← HV.out]
      by_cases h0 : unbeE s.data.toList = 0
      · exact if_pos h0
      · rw [unbeN_bad h0]; exact if_neg h0
    have HEV := Lib.hid hEV
    clear hEV
    go_wp2_with fail
    refine (HU.out _).mono ?_
    rintro e w2 ⟨rfl, hg⟩
    have HG := Lib.hid (grown_self HG.out hg (by simp))
    clear hg c0 c1
    go_wp2_with fail
    go_ret2
    exact ⟨by rw [HEV.out.1, HEV.out.2]; rfl, HG.out⟩
/-- the first error -/
def firstL : List Int → Int
  | [] => 0
  | e :: es => if e ≠ 0 then e else firstL es
theorem firstL_take (es : List Int) (k : Nat) (h : ∀ i, i < k → es.getD i 0 = 0) (hk : k < es.length) (h0 : es.getD k 0 ≠ 0) : firstL es = es.getD k 0 := by
  induction es generalizing k with
  | nil => simp at hk
  | cons e es ih =>
    cases k with
    | zero => exact if_pos h0
    | succ k =>
      have he : e = 0 := h 0 (by omega)
      rw [firstL, if_neg (by simp [he])]
      exact ih k (fun i hi => h (i + 1) (by omega)) (by simpa using hk) h0
theorem firstL_none (es : List Int) (h : ∀ i, i < es.length → es.getD i 0 = 0) : firstL es = 0 := by
  induction es with
  | nil => rfl
  | cons e es ih =>
    have he : e = 0 := h 0 (by simp)
    rw [firstL, if_neg (by simp [he])]
    exact ih fun i hi => h (i + 1) (by simpa using hi)
set_option maxRecDepth 100000 in
set_option maxHeartbeats 1000000 in
theorem firstR_any (B : Nat) (A : Option Addr) (n c : Nat) (es : List Int) (w : World) (h : Reads w B 1 A n (es.map (Value.int .i64))) (hn : n ≤ 1000000) :
    Calls Tryz.prog 74 #[.slice A n c] w fun e w' => e = .returned (.int .i64 (firstL es)) ∧ w' = w := by
  have hl : es.length = n := by have := h.1; simpa using this
  have HL := Lib.hid hl; have HR := Lib.hid h
  clear hl h
  go_enter Tryz.func74, Tryz.ntmps74
  go_wp2_with fail
  go_loopw [3] (fun i wr => ∃ k : Nat, i = .int .i64 (k : Int) ∧ k ≤ n ∧ w = wr ∧ Hid (∀ i : Nat, i < k → es.getD i 0 = 0)) (fun i _ => n - (intOf i).toNat)
  case atStart => exact ⟨0, rfl, by omega, rfl, Lib.hid (by intro i h1; omega)⟩
  case round =>
    obtain ⟨k, rfl, hk, rfl, h2⟩ := hrel
    have h2' := Lib.hid h2.out
    by_cases hlt : k < n
    · obtain ⟨q, off, rfl, hq, hc⟩ := HR.out.ints hlt
      have c0 := hc k hlt
      have q1 : (k : Int) < (n : Int) := by omega
      obtain ⟨x, hx⟩ : ∃ x, es.getD k 0 = x := ⟨_, rfl⟩
      rw [hx] at c0
      have HX := Lib.hid hx
      clear h2 hc hx
      by_cases hz : x = 0
      · subst hz
        go_wp2_with fail
        refine ⟨⟨k + 1, by go_num, by omega, by first | rfl | trivial, Lib.hid fun i hi => ?_⟩, by simp [intOf]; omega⟩
        by_cases hik : i = k
        · rw [hik, HX.out]
        · exact h2'.out i (by omega)
      · have e1 : (x != 0) = true := by simpa using hz
        have HF := Lib.hid (firstL_take es k h2'.out (by have := HL.out; omega) (by rw [HX.out]; exact hz))
        clear hz
        go_wp2_with fail
        go_ret
        exact ⟨by rw [HF.out, HX.out]; rfl, rfl⟩
    · obtain rfl : k = n := by omega
      have hfin : decide ((k : Int) < (k : Int)) = false := by simp
      have HF := Lib.hid (firstL_none es (fun i hi => h2.out i (by have := HL.out; omega)))
      clear h2 h2'
      go_wp2_with fail
      go_ret
      exact ⟨by rw [HF.out]; rfl, rfl⟩
end Go.Proofs.YthalohloneojlaaGreatDoor
/- The document's row of bytes of an item (rescriptref06.GetTexts).  Its proof is turned from FldV's. -/
namespace Go.Proofs.YthalohloneojlaaGreatDoor
open Go.RowKit Go.Shelf
set_option linter.unusedVariables false
set_option linter.unusedSimpArgs false

end Go.Proofs.YthalohloneojlaaGreatDoor
