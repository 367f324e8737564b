/- Merged: OpenI, Rep, Unfx, Prs, WEq, FldA, FldB. -/
import Derived.Test.YtagjpbcmhaekpaaDoorMg4
import Derived.Shelf.Bits.Mul64
import Derived.Shelf.Strings.Prefix
import Derived.Lib.RepeatB
import Derived.Deep.LoopGhost
import Derived.Deep.DeepCutAuto
import Derived.StillTailTactics
import Derived.Laws.StructEq
/- An item that came in, as a tree in memory; how much it weighs. -/
namespace Go.Proofs.YtagjpbcmhaekpaaDoor
open Go.ChangeShapes Go.WideShapes Go.RowKit Go.Deep Go.Joins
set_option linter.unusedVariables false
set_option linter.constructorNameAsVariable false

theorem list_ofI {α : Type} {R : Nat → α → Prop} : ∀ n : Nat, (∀ i, i < n → ∃ x, R i x) → ∃ xs : List α, xs.length = n ∧ ∀ i (h : i < xs.length), R i xs[i]
  | 0, _ => ⟨[], rfl, fun i h => absurd h (by simp)⟩
  | n + 1, h => by
    obtain ⟨xs, hl, hx⟩ := list_ofI n fun i hi => h i (by omega)
    obtain ⟨x, hxn⟩ := h n (by omega)
    refine ⟨xs ++ [x], by simp [hl], fun i hi => ?_⟩
    by_cases h1 : i < xs.length
    · rw [List.getElem_append_left h1]; exact hx i h1
    · obtain rfl : i = n := by simp at hi; omega
      rw [List.getElem_append_right (by omega)]
      simpa [hl] using hxn
theorem bulk_sum {H : Type} : ∀ (xs : List Itm) (ds : List (DataW H)), xs.length = ds.length → (∀ i (h : i < xs.length) (h' : i < ds.length), wtF xs[i] ≤ 10 * Rows.uptoBulk ds[i]) → wtL xs ≤ 10 * Rows.uptoBulkAll ds
  | [], _, _, _ => by rw [wtL]; omega
  | x :: xs, [], h, _ => by cases h
  | x :: xs, d :: ds, h, hk => by
    rw [wtL, Rows.uptoBulkAll]
    have h0 := hk 0 (by simp) (by simp)
    have := bulk_sum xs ds (by simpa using h) (fun i h1 h2 => by have := hk (i + 1) (by simpa using h1) (by simpa using h2); simpa using this)
    simp only [List.getElem_cons_zero] at h0
    omega
theorem bulk_mem {H : Type} {d : DataW H} {l : List (DataW H)} (h : d ∈ l) : Rows.uptoBulk d ≤ Rows.uptoBulkAll l := by
  induction l with
  | nil => cases h
  | cons x r ih =>
    rw [Rows.uptoBulkAll]
    rcases List.mem_cons.1 h with rfl | h
    · omega
    · have := ih h; omega

section
variable {H : Type} {enc : TypeId × Value → H} {w : World} {base : Nat} {held : Bool}
theorem items_one : ∃ t0 t1 t2 : Field, Tryd.prog.underlying 41 = some (.struct #[t0, t1, t2]) ∧ oneCellFields Tryd.prog #[t0, t1, t2] = true ∧ Tryd.prog.underlying t0.type = some .bool ∧ Tryd.prog.underlying t1.type = some .string ∧ t2.type = 39 :=
  ⟨_, _, _, Tryd.underlying41, by kernel_rfl, Tryd.underlying4, Tryd.underlying9, rfl⟩
theorem items_of (B : Nat) : ∀ (fuel : Nat) (v : Value) (x : DataW H × List MemPlace), Rows.uptoBulk x.1 ≤ B → DataW.trod enc Tryd.prog w base (fun _ => true) held fuel 39 [v] = some x →
    ∃ xs : List Itm, SubW w xs v ∧ wtL xs ≤ 10 * Rows.uptoBulk x.1 := by
  induction B using Nat.strongRecOn with
  | _ B ih =>
    intro fuel v x hB h
    obtain ⟨t0, t1, t2, hu, hone, u0, u1, u2⟩ := items_one
    rcases open_slice_fields Tryd.underlying39 hu hone (by kernel_rfl) h with ⟨hcs, _⟩ | ⟨a, len, cap, m, D, Pl, hcs, hb, hl, hm, hmm, hx, hi⟩
    · simp only [List.cons.injEq, and_true] at hcs
      exact ⟨[], hcs ▸ .mk [] none 0 [] (fun h => by cases h) (fun i h => by cases h), by rw [wtL]; omega⟩
    · simp only [List.cons.injEq, and_true] at hcs
      simp only [if_true] at hmm
      have hx1 : x.1 = .slice ((List.range len).map D) ((List.range (m - len)).map fun j => D (len + j)) := by rw [hx]
      have hbk : Rows.uptoBulk x.1 = Rows.uptoBulkAll ((List.range len).map D) + Rows.uptoBulkAll ((List.range (m - len)).map fun j => D (len + j)) + 1 := by rw [hx1, Rows.uptoBulk]
      have key : ∀ i, i < len → ∃ p : Itm × Value, (w.cell? (a.add (i * 3 + 0)) = some (.bool p.1.list) ∧ w.cell? (a.add (i * 3 + 1)) = some (.string p.1.bytes) ∧ w.cell? (a.add (i * 3 + 2)) = some p.2) ∧ SubW w p.1.items p.2 ∧ wtF p.1 ≤ 10 * Rows.uptoBulk (D i) := by
        intro i hil
        obtain ⟨ys, n, hD, _, hyl, hf⟩ := hi i (by omega)
        obtain ⟨v0, y0, c0, g0, e0⟩ := hf 0 t0 rfl
        obtain ⟨v1, y1, c1, g1, e1⟩ := hf 1 t1 rfl
        obtain ⟨v2, y2, c2, g2, e2⟩ := hf 2 t2 rfl
        obtain ⟨s0, hs0, _⟩ := DataW.trod_bool u0 e0
        obtain ⟨s1, hs1, hy1, _⟩ := DataW.trod_string u1 e1
        simp only [List.cons.injEq, and_true] at hs0 hs1
        subst hs0; subst hs1
        have hys : ys = [y0, y1, y2] := by
          apply List.ext_getElem?
          intro j
          match j with
          | 0 => exact g0
          | 1 => exact g1
          | 2 => exact g2
          | j + 3 => rw [List.getElem?_eq_none (by have : ys.length = 3 := hyl; omega)]; rfl
        have hDi : Rows.uptoBulk (D i) = Rows.uptoBulk y0.1 + (s1.data.toList.length + 1) + Rows.uptoBulk y2.1 + 1 := by
          rw [hD, hys, hy1]
          simp only [List.map_cons, List.map_nil, Rows.uptoBulk, Rows.uptoBulkAll]
          omega
        have hmem : D i ∈ (List.range len).map D := List.mem_map.2 ⟨i, List.mem_range.2 hil, rfl⟩
        have hle := bulk_mem hmem
        rw [u2] at e2
        obtain ⟨xs, hsx, hwx⟩ := ih (Rows.uptoBulk y2.1) (by omega) n v2 y2 (Nat.le_refl _) e2
        have hlz : s1.data.toList.length = s1.size := Array.length_toList
        exact ⟨(.mk s0 s1 xs, v2), ⟨c0, c1, c2⟩, hsx, by rw [wtF]; omega⟩
      obtain ⟨ps, hpl, hp⟩ := list_ofI len key
      refine ⟨ps.map (·.1), ?_, ?_⟩
      · rw [hcs]
        have hlen : (ps.map (·.1)).length = len := by simp [hpl]
        have hgx : ∀ i (hi : i < len), (ps.map (·.1)).getD i Itm.none_ = (ps[i]'(by omega)).1 := fun i hi => by
          rw [List.getD_eq_getElem?_getD, List.getElem?_map, List.getElem?_eq_getElem (by omega)]; rfl
        have hgv : ∀ i (hi : i < len), (ps.map (·.2)).getD i undef = (ps[i]'(by omega)).2 := fun i hi => by
          rw [List.getD_eq_getElem?_getD, List.getElem?_map, List.getElem?_eq_getElem (by omega)]; rfl
        have := SubV.mk (S := fun g => g < w.heap.size) (W := w) (ps.map (·.1)) (some a) cap (ps.map (·.2)) (fun h0 => ?_) (fun i hi' => ?_)
        · rw [hlen] at this; exact this
        · rw [hlen] at h0
          have c00 := (hp 0 (by omega)).1.1
          have ea : a = ⟨a.block, a.off, none⟩ := lit_of_cell (a := a) (by simpa [Addr.add] using c00)
          refine ⟨a.block, a.off, by rw [← ea], ?_, fun i hi' => ?_⟩
          · have := World.block_lt_of_cell? w _ c00
            rwa [block_of_add] at this
          · rw [hlen] at hi'
            rw [hgx i hi', hgv i hi']
            obtain ⟨d0, d1, d2⟩ := (hp i (by omega)).1
            rw [ea] at d0 d1 d2
            have hadd : ∀ j, (⟨a.block, a.off, none⟩ : Addr).add j = ⟨a.block, a.off + j, none⟩ := fun j => Addr.add_mid _ _ _
            rw [hadd] at d0 d1 d2
            exact ⟨d0, d1, d2⟩
        · rw [hlen] at hi'
          rw [hgx i hi', hgv i hi']
          exact (hp i (by omega)).2.1
      · have hsum := bulk_sum (ps.map (·.1)) ((List.range len).map D) (by simp [hpl]) (fun i h1 h2 => by
          rw [List.getElem_map, List.getElem_map, List.getElem_range]
          exact (hp i (by simpa using h1)).2.2)
        omega
set_option maxRecDepth 100000 in
theorem open_item {r : Reach} {b0 : Nat} {v : Value} {d : DataW H} {p : List MemPlace} (hv : Value.okWide Tryd.prog w r b0 41 v) (h : DataW.Trod enc Tryd.prog w base (fun _ => true) held 41 v d p) :
    ∃ (x : Itm) (sx : Value), v = .agg #[.bool x.list, .string x.bytes, sx] ∧ SubW w x.items sx ∧ wtF x ≤ 10 * Rows.uptoBulk d := by
  obtain ⟨t0, t1, t2, hu, hone, u0, u1, u2⟩ := items_one
  obtain ⟨v0, v1, v2, y0, y1, y2, n, rfl, hd, _, e0, e1, e2⟩ := open_agg3 hu hone (by kernel_rfl) hv h
  obtain ⟨s0, hs0, _⟩ := DataW.trod_bool u0 e0
  obtain ⟨s1, hs1, hy1, _⟩ := DataW.trod_string u1 e1
  simp only [List.cons.injEq, and_true] at hs0 hs1
  subst hs0; subst hs1
  rw [u2] at e2
  obtain ⟨xs, hsx, hwx⟩ := items_of _ n v2 y2 (Nat.le_refl _) e2
  refine ⟨.mk s0 s1 xs, v2, rfl, hsx, ?_⟩
  have hlz : s1.data.toList.length = s1.size := Array.length_toList
  rw [hd, hy1, wtF]
  simp only [Rows.uptoBulk, Rows.uptoBulkAll]
  omega
end
end Go.Proofs.YtagjpbcmhaekpaaDoor
/- strings.HasPrefix, bits.Mul, and strings.Repeat of one byte 0. -/
namespace Go.Proofs.YtagjpbcmhaekpaaDoor
open Go.RowKit Go.Shelf
set_option linter.unusedVariables false
set_option linter.unusedSimpArgs false

def prefixRen : Go.Shelf.Ren := ⟨fun | 99 => 64 | 206 => 74 | n => n, fun | 3 => 3 | 4 => 4 | 9 => 9 | n => n, fun | n => n⟩
theorem prefixLays : Go.Proofs.Lays.n99 Tryd.prog prefixRen := {
  mixed := by kernel_rfl
  f99 := Tryd.func64.trans (congrArg some (by kernel_rfl))
  f206 := Tryd.func74.trans (congrArg some (by kernel_rfl))
  t3 := Tryd.underlying3
  a3 := Tryd.isAgg3
  z3 := Tryd.sizeOf3
  v3 := Tryd.zeroValue3
  t4 := Tryd.underlying4
  a4 := Tryd.isAgg4
  z4 := Tryd.sizeOf4
  v4 := Tryd.zeroValue4
  t9 := Tryd.underlying9
  a9 := Tryd.isAgg9
  z9 := Tryd.sizeOf9
  v9 := Tryd.zeroValue9 }
theorem hasPrefix_any (s p : ByteArray) (w : World) :
    Calls Tryd.prog 64 #[.string s, .string p] w fun e w' => e = .returned (.bool (Lib.hasPrefix s.data.toList p.data.toList)) ∧ w' = w := Any.strings_HasPrefix prefixLays s p w
def mulRen : Go.Shelf.Ren := ⟨fun | 212 => 75 | 263 => 81 | 264 => 82 | n => n, fun | 46 => 127 | 51 => 137 | 53 => 22 | 146 => 138 | 148 => 140 | n => n, fun | n => n⟩
theorem mulLays : Go.Proofs.Lays.n212 Tryd.prog mulRen := {
  mixed := by kernel_rfl
  f212 := Tryd.func75.trans (congrArg some (by kernel_rfl))
  f263 := Tryd.func81.trans (congrArg some (by kernel_rfl))
  f264 := Tryd.func82.trans (congrArg some (by kernel_rfl))
  t46 := Tryd.underlying127
  a46 := Tryd.isAgg127
  z46 := Tryd.sizeOf127
  v46 := Tryd.zeroValue127
  t51 := Tryd.underlying137
  a51 := Tryd.isAgg137
  z51 := Tryd.sizeOf137
  v51 := Tryd.zeroValue137
  t53 := Tryd.underlying22
  a53 := Tryd.isAgg22
  z53 := Tryd.sizeOf22
  v53 := Tryd.zeroValue22
  t146 := Tryd.underlying138
  a146 := Tryd.isAgg138
  z146 := Tryd.sizeOf138
  v146 := Tryd.zeroValue138
  t148 := Tryd.underlying140
  a148 := Tryd.isAgg140
  z148 := Tryd.sizeOf140
  v148 := Tryd.zeroValue140 }
theorem mul_any (x y : Nat) (hxy : x * y < 18446744073709551616) (hx : x < 18446744073709551616) (hy : y < 18446744073709551616) (w : World) :
    Calls Tryd.prog 75 #[.int .u64 (x : Int), .int .u64 (y : Int)] w fun e w' => e = .returned (.tuple #[.int .u64 0, .int .u64 ((x * y : Nat) : Int)]) ∧ w' = w := by
  refine (Any.bits_Mul mulLays x y hx hy w).mono ?_
  rintro e w' ⟨he, hw⟩
  rw [Nat.div_eq_of_lt hxy, Nat.mod_eq_of_lt hxy] at he
  exact ⟨he, hw⟩
theorem min3_any {P : Program} {w : World} (ts : Array TypeId) (t : TypeId) (x y z : Int) :
    (Builtin.min_ ts t #[.int .i64 x, .int .i64 y, .int .i64 z]).run P w = .ok (.int .i64 (if z < (if y < x then y else x) then z else (if y < x then y else x))) w := by
  simp [Builtin.min_, Builtin.min2]

abbrev zs (c : Nat) : List UInt8 := List.replicate c 0
set_option maxRecDepth 100000 in
set_option maxHeartbeats 2000000 in
theorem repeatMany_any (S : ByteArray) (hS : S.data.toList = [0]) (c : Nat) (w : World) (hc2 : 2 ≤ c) (hc : c ≤ 32) :
    Calls Tryd.prog 66 #[.string S, .int .i64 (c : Int)] w fun e w' => e = .returned (.string ⟨(zs c).toArray⟩) ∧ Below w.heap.size w w' := by
  have hz : S.size = 1 := by have := congrArg List.length hS; rw [Array.length_toList] at this; exact this
  have g0 : 0 < S.size := by omega
  have g2 : ((S[0]'g0).toNat : Int) = 0 := by
    have e2 : S.data[0]? = some 0 := by
      have : S.data.toList[0]? = some 0 := by rw [hS]; rfl
      simpa using this
    obtain ⟨_, e3⟩ := Array.getElem?_eq_some_iff.1 e2
    have : S[0]'g0 = 0 := e3
    rw [this]; rfl
  have hMul := mul_any 1 c (by omega) (by omega) (by omega) w
  rw [Nat.one_mul] at hMul
  have HM : Hid (Calls Tryd.prog 75 #[.int .u64 1, .int .u64 (c : Int)] w fun e w' => e = .returned (.tuple #[.int .u64 0, .int .u64 (c : Int)]) ∧ w' = w) := Lib.hid hMul
  have hzi : (S.size : Int) = 1 := by omega
  have e0 : ((c : Int) == 0) = false := by rw [beq_eq_false_iff_ne]; omega
  have e1 : ((c : Int) == 1) = false := by rw [beq_eq_false_iff_ne]; omega
  have d0 : decide ((c : Int) < 0) = false := decide_eq_false (by omega)
  have d1 : decide ((9223372036854775807 : Int) < (c : Int)) = false := decide_eq_false (by omega)
  have d1' : decide (9223372036854775807 < c) = false := decide_eq_false (by omega)
  have d2 : decide ((8192 : Int) < (c : Int)) = false := decide_eq_false (by omega)
  have d2' : decide (8192 < c) = false := decide_eq_false (by omega)
  have v1 : IntKind.u64.wrap (c : Int) = (c : Int) := by rw [show (c : Int) = ((c : Nat) : Int) from rfl]; simp [IntKind.wrap, IntKind.bits, IntKind.signed]; omega
  have v1' : IntKind.u64.wrap (1 : Int) = 1 := by decide
  have v2 : IntKind.i64.wrap (c : Int) = (c : Int) := IntWalk.i64_in _ (by omega)
  have b0 : Below w.heap.size w (w.alloc (.cells #[.pointer none, .slice none 0 0] 88)) := (Below.refl _ w).alloc (Nat.le_refl _) _
  have HG := Lib.hid (grow_any w.heap.size c (w.alloc (.cells #[.pointer none, .slice none 0 0] 88)) (heap_alloc_new w _) (by omega))
  have HB0 := Lib.hid b0
  have HSS := Lib.hid hS
  clear hS hMul b0
  go_enter Tryd.func66, Tryd.ntmps66
  go_wp2_with fail
  refine HM.out.mono ?_
  rintro e w' ⟨rfl, hw⟩
  rw [hw]
  clear hw HM
  go_wp2_with fail
  refine HG.out.mono ?_
  rintro e W1 ⟨rfl, h1, b1⟩
  have b01 := Lib.hid (HB0.out.trans b1)
  have H1 := Lib.hid h1
  clear h1 b1 HG HB0
  go_wp2_with fail
  refine (writeStringF_any w.heap.size w.heap.size [] S W1 (Lib.IsBuilderF.of (Or.inr H1.out)) (by simp; omega) b01.out.size).mono ?_
  rintro e W2 ⟨rfl, h2, b2⟩
  have H2 : IsB w.heap.size w.heap.size (Lib.byteCells (zs 1)) W2 := by
    rw [List.nil_append, strCells_eq, HSS.out] at h2
    exact h2
  have b02 := b01.out.trans b2
  clear h2 b2 b01 H1
  go_wp2_with fail
  go_loopg [] (c - 1) (fun g wx => ∃ q : Nat, 1 ≤ q ∧ q + g = c ∧ IsB w.heap.size w.heap.size (Lib.byteCells (zs q)) wx ∧ Below w.heap.size w wx)
  case atStart => exact ⟨1, Nat.le_refl _, by omega, H2, b02⟩
  case round =>
    obtain ⟨q, hq1, hqg, hB, hbx⟩ := hrel
    have hlq : (Lib.byteCells (zs q)).length = q := by rw [Lib.byteCells_length, List.length_replicate]
    have cLen := lenF_any w.heap.size w.heap.size _ wr hB
    rw [hlq] at cLen
    have HL := Lib.hid cLen
    have cStr := stringF_any w.heap.size w.heap.size (zs q) wr hB hbx.size
    obtain ⟨R, hR⟩ : ∃ R : ByteArray, (⟨(zs q).toArray⟩ : ByteArray) = R := ⟨_, rfl⟩
    have hRd : R.data.toList = zs q := by rw [← hR]
    have hRz : R.size = q := by have := congrArg List.length hRd; rw [Array.length_toList, List.length_replicate] at this; exact this
    rw [hR] at cStr
    have HT := Lib.hid cStr
    have HRd := Lib.hid hRd; have HR := Lib.hid hR; have HBX := Lib.hid hbx; have HLQ := Lib.hid hlq
    clear cLen cStr hRd hB hbx hlq H2 b02 hR
    cases gk with
    | zero =>
      obtain rfl : q = c := by omega
      have hQn : decide ((q : Int) < (q : Int)) = false := by simp
      go_wp2_with fail
      refine HL.out.mono ?_
      rintro e w' ⟨rfl, hw⟩
      rw [hw]
      clear hw
      go_wp2_with fail
      refine HT.out.mono ?_
      rintro e W3 ⟨rfl, h3, b3⟩
      have HB3 := Lib.hid (HBX.out.trans b3)
      clear h3 b3
      go_wp2_with fail
      go_ret
      exact ⟨by rw [HR.out]; rfl, HB3.out⟩
    | succ g =>
      have hQn : (q : Int) < (c : Int) := by omega
      obtain ⟨k, hk⟩ : ∃ k, min (c - q) q = k := ⟨_, rfl⟩
      have hmin3 : ∀ (ts : Array TypeId) (t : TypeId) (W : World), (Builtin.min_ ts t #[.int .i64 ((c : Int) - (q : Int)), .int .i64 (q : Int), .int .i64 (c : Int)]).run Tryd.prog W = .ok (.int .i64 (k : Int)) W := fun ts t W => by
        rw [min3_any]
        congr 2
        omega
      have v3 : IntKind.i64.wrap ((c : Int) - (q : Int)) = (c : Int) - (q : Int) := IntWalk.i64_in _ (by omega)
      have f1 : (k : Int) ≤ (R.size : Int) := by omega
      have f2 : k ≤ R.size := by omega
      have HK : Hid (min (c - q) q = k) := Lib.hid hk
      clear hk
      go_wp2_with fail
      refine HL.out.mono ?_
      rintro e w' ⟨rfl, hw⟩
      rw [hw]
      clear hw
      go_wp2_with fail
      refine HL.out.mono ?_
      rintro e w' ⟨rfl, hw⟩
      rw [hw]
      clear hw
      go_wp2_with fail
      refine HL.out.mono ?_
      rintro e w' ⟨rfl, hw⟩
      rw [hw]
      clear hw
      go_wp2_with fail
      refine HT.out.mono ?_
      rintro e W3 ⟨rfl, h3, b3⟩
      have hb3 := HBX.out.trans b3
      have HX : Hid ((R.extract 0 k).data.toList = zs k) := Lib.hid (by
        rw [Lib.extract_data, HRd.out]
        simp only [List.drop_zero, Nat.sub_zero, List.take_replicate]
        rw [Nat.min_eq_left (by have := HK.out; omega)])
      have hxz : (R.extract 0 k).size = k := by have := congrArg List.length HX.out; rw [Array.length_toList, List.length_replicate] at this; exact this
      have HW := Lib.hid (writeStringF_any w.heap.size w.heap.size _ (R.extract 0 k) W3 h3 (by rw [HLQ.out]; omega) hb3.size)
      have HB3 := Lib.hid hb3
      clear h3 b3 hb3 hxz
      go_wp2_with fail
      refine HW.out.mono ?_
      rintro e W4 ⟨rfl, h4, b4⟩
      have hb4 := HB3.out.trans b4
      have h5 : IsB w.heap.size w.heap.size (Lib.byteCells (zs (q + k))) W4 := by
        rw [strCells_eq, ← byteCells_append, HX.out, List.replicate_append_replicate] at h4
        exact h4
      clear h4 b4
      go_wp2_with fail
      go_roundg (c - (q + k))
      case measure => have := HK.out; omega
      case rel => exact ⟨q + k, by omega, by have := HK.out; omega, h5, hb4⟩
set_option maxRecDepth 100000 in
theorem repeatNone_any (S : ByteArray) (w : World) :
    Calls Tryd.prog 66 #[.string S, .int .i64 0] w fun e w' => e = .returned (.string ⟨#[]⟩) ∧ w' = w := by
  go_enter Tryd.func66, Tryd.ntmps66
  go_wp2_with fail
  go_ret
  exact ⟨rfl, rfl⟩
set_option maxRecDepth 100000 in
theorem repeatOne_any (S : ByteArray) (w : World) :
    Calls Tryd.prog 66 #[.string S, .int .i64 1] w fun e w' => e = .returned (.string S) ∧ w' = w := by
  go_enter Tryd.func66, Tryd.ntmps66
  go_wp2_with fail
  go_ret
  exact ⟨rfl, rfl⟩
/-- so many bytes 0 -/
theorem repeat_any (S : ByteArray) (hS : S.data.toList = [0]) (c : Nat) (w : World) (hc : c ≤ 32) :
    Calls Tryd.prog 66 #[.string S, .int .i64 (c : Int)] w fun e w' => e = .returned (.string ⟨(zs c).toArray⟩) ∧ Below w.heap.size w w' := by
  match c, hc with
  | 0, _ => exact (repeatNone_any S w).mono fun e w' ⟨he, hw⟩ => ⟨he, hw ▸ Below.refl _ _⟩
  | 1, _ => exact (repeatOne_any S w).mono fun e w' ⟨he, hw⟩ => ⟨by rw [he]; congr 2; exact ba_ext hS, hw ▸ Below.refl _ _⟩
  | c + 2, hc => exact repeatMany_any S hS (c + 2) w (by omega) hc
end Go.Proofs.YtagjpbcmhaekpaaDoor
/- The word of 32 bytes (word.Unfixed), of bytes (word.Parse); a small one (word.Small); a number of bytes (num.Unbe). -/
namespace Go.Proofs.YtagjpbcmhaekpaaDoor
open Go.RowKit Go.Shelf
set_option linter.unusedVariables false
set_option linter.unusedSimpArgs false

theorem results_cv {P : Program} {fn : Func} {p q : Tmp} {t : TypeId} (h : fn.results = #[.cell p t, .tmp q]) (tmps : Array Value) (w : World) (a : Addr) (x : Value) (hp : tmps.getD p undef = .pointer (some a))
    (hx : (loadVar t a).run P w = .ok x w) : (results fn tmps).run P w = .ok (.tuple #[x, tmps.getD q undef]) w := by
  have hp' : tmps[p]?.getD undef = .pointer (some a) := by simpa using hp
  simp [results, h, hp', asAddr, hx]
theorem u64_or_of (a b : Nat) (ha : a < 18446744073709551616) (hb : b < 18446744073709551616) : bits .or .u64 (a : Int) (b : Int) = ((a ||| b : Nat) : Int) := by
  have hx : a ||| b < 2 ^ 64 := Nat.or_lt_two_pow (by omega) (by omega)
  show IntKind.u64.wrap ((BitVec.ofInt 64 (a : Int) ||| BitVec.ofInt 64 (b : Int)).toNat : Int) = _
  rw [BitVec.toNat_or, BitVec.ofInt_natCast, BitVec.ofInt_natCast, BitVec.toNat_ofNat, BitVec.toNat_ofNat, Nat.mod_eq_of_lt (by omega), Nat.mod_eq_of_lt (by omega)]
  simp [IntKind.wrap, IntKind.bits, IntKind.signed]
  omega
theorem u64_wrap_of (x : Nat) (h : x < 18446744073709551616) : IntKind.u64.wrap (x : Int) = (x : Int) := by
  simp [IntKind.wrap, IntKind.bits, IntKind.signed]; omega
/-- a word's cells -/
def wordC (N : Nat) : Array Value := #[.int .u64 (wp N 0 : Nat), .int .u64 (wp N 1 : Nat), .int .u64 (wp N 2 : Nat), .int .u64 (wp N 3 : Nat)]
theorem wordC_cell {w : World} {g : Nat} {t : TypeId} {N : Nat} (h : Blk w g t (wordC N)) (q : Nat) (hq : q < 4) : w.cell? ⟨g, q, none⟩ = some (.int .u64 ((wp N q : Nat) : Int)) := by
  rw [h.cell]
  have : q = 0 ∨ q = 1 ∨ q = 2 ∨ q = 3 := by omega
  rcases this with rfl | rfl | rfl | rfl <;> rfl
theorem wordC_step (l : List UInt8) (m : Nat) (h : m < l.length) (hm : m < 32) : (wordC (lowN l m)).setIfInBounds (m / 8) (.int .u64 (wp (lowN l (m + 1)) (m / 8) : Nat)) = wordC (lowN l (m + 1)) := by
  have e : ∀ q, q ≠ m / 8 → wp (lowN l (m + 1)) q = wp (lowN l m) q := fun q hq => by rw [lowN_step l m q h, if_neg hq]
  have : m / 8 = 0 ∨ m / 8 = 1 ∨ m / 8 = 2 ∨ m / 8 = 3 := by omega
  unfold wordC
  rcases this with hq | hq | hq | hq
  all_goals
    rw [hq]
    rw [hq] at e
  · rw [e 1 (by omega), e 2 (by omega), e 3 (by omega)]; rfl
  · rw [e 0 (by omega), e 2 (by omega), e 3 (by omega)]; rfl
  · rw [e 0 (by omega), e 1 (by omega), e 3 (by omega)]; rfl
  · rw [e 0 (by omega), e 1 (by omega), e 2 (by omega)]; rfl

set_option maxRecDepth 100000 in
set_option maxHeartbeats 2000000 in
theorem unfixed_any (S : ByteArray) (hS : S.size = 32) (w : World) :
    Calls Tryd.prog 65 #[.string S] w fun e w' => e = .returned (.tuple #[.agg (wordC (beV S.data.toList)), .int .i64 0]) ∧ w.grownBy w' none := by
  obtain ⟨l, hl⟩ : ∃ l, S.data.toList = l := ⟨_, rfl⟩
  have hlz : l.length = 32 := by rw [← hl, Array.length_toList]; exact hS
  have hall : lowN l 32 = beV l := by rw [← hlz]; exact lowN_all l
  rw [hl, ← hall]
  have HS := Lib.hid hl
  clear hl hall
  have e0 : ((S.size : Int) != 32) = false := by simp; omega
  have hZ4 : Hid ((#[.int .u64 0, .int .u64 0, .int .u64 0, .int .u64 0] : Array Value) = wordC 0) := Lib.hid (by unfold wordC; rw [wp_zero, wp_zero, wp_zero, wp_zero]; rfl)
  have hB := Blk.new w 97 #[.int .u64 0, .int .u64 0, .int .u64 0, .int .u64 0]
  have hO := Blk.new (w.alloc (.cells #[.int .u64 0, .int .u64 0, .int .u64 0, .int .u64 0] 97)) 97 #[.int .u64 0, .int .u64 0, .int .u64 0, .int .u64 0]
  rw [World.size_alloc] at hO
  have hB := hB.alloc (.cells #[.int .u64 0, .int .u64 0, .int .u64 0, .int .u64 0] 97)
  have hG := only_alloc (only_alloc (World.grownBy.refl w none) (.cells #[.int .u64 0, .int .u64 0, .int .u64 0, .int .u64 0] 97)) (.cells #[.int .u64 0, .int .u64 0, .int .u64 0, .int .u64 0] 97)
  go_enter Tryd.func65, Tryd.ntmps65
  go_upto_region 4 with (fail)
  obtain ⟨b, hb⟩ : ∃ b, w.heap.size = b := ⟨_, rfl⟩
  rw [hb] at hB hO ⊢
  generalize (w.alloc (.cells #[.int .u64 0, .int .u64 0, .int .u64 0, .int .u64 0] 97)).alloc (.cells #[.int .u64 0, .int .u64 0, .int .u64 0, .int .u64 0] 97) = W1 at *
  rw [hZ4.out, ← lowN_zero l] at hO
  clear hZ4
  go_wp2_with fail
  go_loopw [10] (fun i wr => ∃ m : Nat, i = .int .i64 (m : Int) ∧ m ≤ 32 ∧ Blk wr (b + 1) 97 (wordC (lowN l m)) ∧ Blk wr b 97 #[.int .u64 0, .int .u64 0, .int .u64 0, .int .u64 0] ∧ w.grownBy wr none) (fun i _ => 32 - (intOf i).toNat)
  case atStart => exact ⟨0, rfl, by omega, hO, hB, hG⟩
  case round =>
    clear hO hB hG
    obtain ⟨m, rfl, hm, hO, hB, hG⟩ := hrel
    by_cases hlt : m < 32
    · obtain ⟨q, hq⟩ : ∃ q, m / 8 = q := ⟨_, rfl⟩
      obtain ⟨r8, hr8⟩ : ∃ r, m % 8 = r := ⟨_, rfl⟩
      obtain ⟨r, hr⟩ : ∃ r, r8 * 8 = r := ⟨_, rfl⟩
      obtain ⟨p, hp⟩ : ∃ p, 31 - m = p := ⟨_, rfl⟩
      have hst := wordC_step l m (by omega) hlt
      have hwz := lowN_step l m (m / 8) (by omega)
      rw [if_pos rfl, hr8, hr, hlz, show 32 - 1 - m = p by omega, hq] at hwz
      rw [hq] at hst
      have f2 := wordC_cell hO q (by omega)
      have f3 := hO.frozen q
      have hid := fun W => idx_str S p (l.getD p 0) (by rw [HS.out, List.getD_eq_getElem?_getD, List.getElem?_eq_getElem (by omega)]; rfl) W
      have hzl := wp_lt (lowN l (m + 1)) q
      have hvl := wp_lt (lowN l m) q
      have hrm := wp_room (lowN l m) m (lowN_lt l m)
      rw [hq, hr8, hr] at hrm
      obtain ⟨z, hz⟩ : ∃ z, wp (lowN l (m + 1)) q = z := ⟨_, rfl⟩
      obtain ⟨v, hv⟩ : ∃ v, wp (lowN l m) q = v := ⟨_, rfl⟩
      rw [hv] at hwz f2 hvl hrm
      rw [hz] at hwz hzl hst
      have hch := (l.getD p 0).toNat_lt
      obtain ⟨ch, hch2⟩ : ∃ ch, (l.getD p 0).toNat = ch := ⟨_, rfl⟩
      rw [hch2] at hwz hid hch
      have hadd := wp_or v ch r hrm
      obtain ⟨x, hx⟩ : ∃ x, ch * 2 ^ r = x := ⟨_, rfl⟩
      rw [hx] at hwz hadd
      have p8 : bits .or .u64 (v : Int) (x : Int) = (z : Int) := by rw [u64_or_of v x hvl (by omega), hwz]
      have p5 : IntKind.u64.wrap ((ch : Int) * 2 ^ r) = (x : Int) := by
        have : (ch : Int) * 2 ^ r = (x : Int) := by rw [← hx]; simp
        rw [this, u64_wrap_of x (by omega)]
      have p9 : IntKind.u64.wrap (ch : Int) = (ch : Int) := u64_wrap_of ch (by omega)
      have p1 : (m : Int).tdiv 8 = (q : Int) := by rw [Int.tdiv_eq_ediv_of_nonneg (by omega)]; omega
      have p2 : IntKind.i64.wrap (q : Int) = (q : Int) := IntWalk.i64_in _ (by omega)
      have p3 : (m : Int).tmod 8 = (r8 : Int) := by rw [Int.tmod_eq_emod_of_nonneg (by omega)]; omega
      have p4 : IntKind.i64.wrap ((r8 : Int) * 8) = (r : Int) := by rw [IntWalk.i64_in _ (by omega)]; omega
      have p6 : IntKind.i64.wrap (31 - (m : Int)) = (p : Int) := by rw [IntWalk.i64_in _ (by omega)]; omega
      have p7 : 31 - (m : Int) = (p : Int) := by omega
      have q1 : (q : Int) < 4 := by omega
      have q1' : q < 4 := by omega
      have q2 : (m : Int) < 32 := by omega
      have q3 : r < 64 := by omega
      have q4 : (p : Int) < 32 := by omega
      have q5 : (p : Int) < (S.size : Int) := by omega
      have q6 : p < S.size := by omega
      have p10 : IntKind.i64.wrap (p : Int) = (p : Int) := IntWalk.i64_in _ (by omega)
      have hgx : ((S[p]'q6).toNat : Int) = (ch : Int) := by
        have e2 : S.data[p]? = some (l.getD p 0) := by
          have : S.data.toList[p]? = some (l.getD p 0) := by rw [HS.out, List.getD_eq_getElem?_getD, List.getElem?_eq_getElem (by omega)]; rfl
          simpa using this
        obtain ⟨_, e3⟩ := Array.getElem?_eq_some_iff.1 e2
        have : S[p]'q6 = l.getD p 0 := e3
        rw [this, hch2]
      have HST := Lib.hid hst
      clear hq hr8 hr hst hwz hzl hvl hrm hz hv hch2 hadd hx hp
      have hO2 := hO.set_ q (.int .u64 (z : Int))
      rw [HST.out] at hO2
      go_wp2_with fail
      go_still_tail 15, (by kernel_rfl)
      clear p1 p2 p3 p4 p5 p6 p7 p8 p9 p10 hgx hid
      repeat go_step
      go_roundw
      case rel => exact ⟨m + 1, by go_num, by omega, hO2, hB.far (p := ⟨b + 1, q, none⟩) (by show b ≠ b + 1; omega) _, only_drew (only_set hG (p := ⟨b + 1, q, none⟩) (by show w.heap.size ≤ b + 1; omega) _)⟩
      case measure => simp [intOf]; omega
    · obtain rfl : m = 32 := by omega
      have hO' := hO
      unfold wordC at hO'
      have c0 := hO'.cell 0; have c1 := hO'.cell 1; have c2 := hO'.cell 2; have c3 := hO'.cell 3
      have d0 := hB.frozen 0; have d1 := hB.frozen 1; have d2 := hB.frozen 2; have d3 := hB.frozen 3
      have x0 := hB.cell 0; have x1 := hB.cell 1; have x2 := hB.cell 2; have x3 := hB.cell 3
      simp only [List.getElem?_toArray, List.getElem?_cons_zero, List.getElem?_cons_succ] at c0 c1 c2 c3 x0 x1 x2 x3
      have hG2 := only_set (only_set (only_set (only_set hG (p := ⟨b, 0, none⟩) (by show w.heap.size ≤ b; omega) (.int .u64 (wp (lowN l 32) 0 : Nat))) (p := ⟨b, 1, none⟩) (by show w.heap.size ≤ b; omega) (.int .u64 (wp (lowN l 32) 1 : Nat))) (p := ⟨b, 2, none⟩) (by show w.heap.size ≤ b; omega) (.int .u64 (wp (lowN l 32) 2 : Nat))) (p := ⟨b, 3, none⟩) (by show w.heap.size ≤ b; omega) (.int .u64 (wp (lowN l 32) 3 : Nat))
      have hB2 := (((hB.set_ 0 (.int .u64 (wp (lowN l 32) 0 : Nat))).set_ 1 (.int .u64 (wp (lowN l 32) 1 : Nat))).set_ 2 (.int .u64 (wp (lowN l 32) 2 : Nat))).set_ 3 (.int .u64 (wp (lowN l 32) 3 : Nat))
      have HG2 := Lib.hid hG2; have HB2 := Lib.hid hB2
      clear hG2 hB2
      go_wp2_with fail
      refine bodyPost_ret (results_cv (fn := Tryd.f65) rfl _ _ _ _ rfl (load_word HB2.out)) rfl ?_
      exact ⟨rfl, HG2.out⟩
end Go.Proofs.YtagjpbcmhaekpaaDoor
/- The word of bytes (word.Parse). -/
namespace Go.Proofs.YtagjpbcmhaekpaaDoor
open Go.RowKit Go.Shelf
set_option linter.unusedVariables false
set_option linter.unusedSimpArgs false

/-- the word that is read -/
def parseC (l : List UInt8) : Array Value := #[.int .u64 (parseP l 0 : Nat), .int .u64 (parseP l 1 : Nat), .int .u64 (parseP l 2 : Nat), .int .u64 (parseP l 3 : Nat)]
theorem parseC_bad {l : List UInt8} {E : Int} (h : parseE l = E) (h0 : E ≠ 0) : parseC l = #[.int .u64 0, .int .u64 0, .int .u64 0, .int .u64 0] := by
  have : ∀ q, parseP l q = 0 := fun q => if_neg (by rw [h]; exact h0)
  unfold parseC
  rw [this, this, this, this]; rfl
theorem parseC_good {l : List UInt8} (h : parseE l = 0) : parseC l = wordC (beV l) := by
  have : ∀ q, parseP l q = wp (beV l) q := fun q => if_pos h
  unfold parseC wordC
  rw [this, this, this, this]
theorem prefix_zero (l : List UInt8) : Lib.hasPrefix l [0] = decide (l.head? = some 0) := by
  cases l with
  | nil => rfl
  | cons a l =>
    show ((0 : UInt8) == a && List.isPrefixOf [] l) = _
    by_cases h : a = 0
    · subst h; simp
    · rw [decide_eq_false (by intro e; injection e with e; exact h e)]
      have : ((0 : UInt8) == a) = false := by rw [beq_eq_false_iff_ne]; exact fun e => h e.symm
      rw [this]; rfl

set_option maxRecDepth 100000 in
set_option maxHeartbeats 2000000 in
theorem parse_any (S : ByteArray) (hs : S.size ≤ 9223372036854775807) (w : World) :
    Calls Tryd.prog 53 #[.string S] w fun e w' => e = .returned (.tuple #[.agg (parseC S.data.toList), .int .i64 (parseE S.data.toList)]) ∧ w.grownBy w' none := by
  obtain ⟨l, hl⟩ : ∃ l, S.data.toList = l := ⟨_, rfl⟩
  have hlz : l.length = S.size := by rw [← hl, Array.length_toList]; rfl
  have hpre := fun V => hasPrefix_any S ⟨#[0]⟩ V
  rw [hl] at hpre ⊢
  have hpz : Lib.hasPrefix l [0] = decide (l.head? = some 0) := prefix_zero l
  have HS := Lib.hid hl
  clear hl
  have hB := Blk.new w 97 #[.int .u64 0, .int .u64 0, .int .u64 0, .int .u64 0]
  have hG := only_alloc (World.grownBy.refl w none) (.cells #[.int .u64 0, .int .u64 0, .int .u64 0, .int .u64 0] 97)
  have set4 : ∀ {V : World} (h : w.grownBy V none) (a c d e : Value), w.grownBy ((((V.setCell ⟨w.heap.size, 0, none⟩ a).setCell ⟨w.heap.size, 1, none⟩ c).setCell ⟨w.heap.size, 2, none⟩ d).setCell ⟨w.heap.size, 3, none⟩ e) none := fun h a c d e =>
    only_set (only_set (only_set (only_set h (p := ⟨w.heap.size, 0, none⟩) (Nat.le_refl _) a) (p := ⟨w.heap.size, 1, none⟩) (Nat.le_refl _) c) (p := ⟨w.heap.size, 2, none⟩) (Nat.le_refl _) d) (p := ⟨w.heap.size, 3, none⟩) (Nat.le_refl _) e
  by_cases h1 : 32 < S.size
  · have hE : parseE l = 5 := if_pos (by omega)
    rw [hE, parseC_bad hE (by decide)]
    have d1 : (32 : Int) < (S.size : Int) := by omega
    have HG2 := Lib.hid hG
    have HB2 := Lib.hid hB
    have c0 := hB.cell 0; have c1 := hB.cell 1; have c2 := hB.cell 2; have c3 := hB.cell 3
    have d0 := hB.frozen 0; have d1' := hB.frozen 1; have d2 := hB.frozen 2; have d3 := hB.frozen 3
    simp only [List.getElem?_toArray, List.getElem?_cons_zero, List.getElem?_cons_succ] at c0 c1 c2 c3
    clear hE hpre hpz hB hG set4
    go_enter Tryd.func53, Tryd.ntmps53
    go_wp2_with fail
    refine bodyPost_ret (results_cv (fn := Tryd.f53) rfl _ _ _ _ rfl (load_word HB2.out)) rfl ?_
    exact ⟨rfl, HG2.out⟩
  have d1 : decide ((32 : Int) < (S.size : Int)) = false := decide_eq_false (by omega)
  by_cases h2 : l.head? = some 0
  · have hE : parseE l = 8 := by unfold parseE; rw [if_neg (by omega), if_pos h2]
    rw [hE, parseC_bad hE (by decide)]
    rw [decide_eq_true h2] at hpz
    have HP : Hid (∀ V, Calls Tryd.prog 64 #[.string S, .string ⟨#[0]⟩] V fun e w' => e = .returned (.bool true) ∧ w' = V) := Lib.hid fun V => by
      have := hpre V
      rw [show (ByteArray.mk #[0]).data.toList = [0] from rfl, hpz] at this
      exact this
    have HG2 := Lib.hid hG
    have HB2 := Lib.hid hB
    have c0 := hB.cell 0; have c1 := hB.cell 1; have c2 := hB.cell 2; have c3 := hB.cell 3
    have d0 := hB.frozen 0; have d1' := hB.frozen 1; have d2 := hB.frozen 2; have d3 := hB.frozen 3
    simp only [List.getElem?_toArray, List.getElem?_cons_zero, List.getElem?_cons_succ] at c0 c1 c2 c3
    clear hE hpre hpz hB hG set4 h2
    go_enter Tryd.func53, Tryd.ntmps53
    go_wp2_with fail
    refine (HP.out _).mono ?_
    rintro e w2 ⟨rfl, rfl⟩
    go_wp2_with fail
    refine bodyPost_ret (results_cv (fn := Tryd.f53) rfl _ _ _ _ rfl (load_word HB2.out)) rfl ?_
    exact ⟨rfl, HG2.out⟩
  · have hE : parseE l = 0 := by unfold parseE; rw [if_neg (by omega), if_neg h2]
    rw [hE, parseC_good hE]
    rw [decide_eq_false h2] at hpz
    have HP : Hid (∀ V, Calls Tryd.prog 64 #[.string S, .string ⟨#[0]⟩] V fun e w' => e = .returned (.bool false) ∧ w' = V) := Lib.hid fun V => by
      have := hpre V
      rw [show (ByteArray.mk #[0]).data.toList = [0] from rfl, hpz] at this
      exact this
    obtain ⟨k, hk⟩ : ∃ k, 32 - S.size = k := ⟨_, rfl⟩
    obtain ⟨Z, hZ⟩ : ∃ Z : ByteArray, (⟨(zs k).toArray⟩ : ByteArray) = Z := ⟨_, rfl⟩
    have hZl : Z.data.toList = zs k := by rw [← hZ]
    have hZz : Z.size = k := by have := congrArg List.length hZl; rw [Array.length_toList, List.length_replicate] at this; exact this
    have HR : Hid (∀ V, Calls Tryd.prog 66 #[.string ⟨#[0]⟩, .int .i64 (k : Int)] V fun e w' => e = .returned (.string Z) ∧ V.grownBy w' none) := Lib.hid fun V => by
      refine (repeat_any ⟨#[0]⟩ rfl k V (by omega)).mono ?_
      rintro e w' ⟨he, hb⟩
      rw [hZ] at he
      exact ⟨he, grown_of_below hb⟩
    have hsum : (Z ++ S).size = 32 := by
      have := congrArg List.length (ba_toList Z S)
      rw [Array.length_toList, List.length_append, Array.length_toList, Array.length_toList] at this
      have e : (Z ++ S).size = Z.size + S.size := this
      omega
    have hval : beV (Z ++ S).data.toList = beV l := by rw [ba_toList, hZl, HS.out, beV_pad]
    have HU : Hid (∀ V, Calls Tryd.prog 65 #[.string (Z ++ S)] V fun e w' => e = .returned (.tuple #[.agg (wordC (beV l)), .int .i64 0]) ∧ V.grownBy w' none) := Lib.hid fun V => by
      have := unfixed_any (Z ++ S) hsum V
      rw [hval] at this
      exact this
    have v1 : IntKind.i64.wrap (32 - (S.size : Int)) = (k : Int) := by rw [IntWalk.i64_in _ (by omega)]; omega
    have HB := Lib.hid hB; have HG := Lib.hid hG
    have SET := Lib.hid (fun (V : World) h a c d e => @set4 V h a c d e)
    clear hE hpre hpz hB hG set4 h2 hval hsum hZ hZl
    go_enter Tryd.func53, Tryd.ntmps53
    go_wp2_with fail
    refine (HP.out _).mono ?_
    rintro e w2 ⟨rfl, rfl⟩
    go_wp2_with fail
    refine (HR.out _).mono ?_
    rintro e w3 ⟨rfl, hg3⟩
    have HB3 := Lib.hid (HB.out.grown hg3 (by simp)); have HG3 := Lib.hid (grown_self HG.out hg3 (by simp))
    clear hg3 HB HG HR
    go_wp2_with fail
    refine (HU.out _).mono ?_
    rintro e w4 ⟨rfl, hg4⟩
    have hB := HB3.out.grown hg4 (by simp)
    have HG2 := Lib.hid (SET.out w4 (grown_self HG3.out hg4 (by simp)) (.int .u64 (wp (beV l) 0 : Nat)) (.int .u64 (wp (beV l) 1 : Nat)) (.int .u64 (wp (beV l) 2 : Nat)) (.int .u64 (wp (beV l) 3 : Nat)))
    have HB2 := Lib.hid ((((hB.set_ 0 (.int .u64 (wp (beV l) 0 : Nat))).set_ 1 (.int .u64 (wp (beV l) 1 : Nat))).set_ 2 (.int .u64 (wp (beV l) 2 : Nat))).set_ 3 (.int .u64 (wp (beV l) 3 : Nat)))
    have c0 := hB.cell 0; have c1 := hB.cell 1; have c2 := hB.cell 2; have c3 := hB.cell 3
    have d0 := hB.frozen 0; have d1' := hB.frozen 1; have d2 := hB.frozen 2; have d3 := hB.frozen 3
    simp only [List.getElem?_toArray, List.getElem?_cons_zero, List.getElem?_cons_succ] at c0 c1 c2 c3
    clear hg4 HB3 HG3 HU SET hB
    unfold wordC
    go_wp2_with fail
    refine bodyPost_ret (results_cv (fn := Tryd.f53) rfl _ _ _ _ rfl (load_word HB2.out)) rfl ?_
    exact ⟨rfl, HG2.out⟩
end Go.Proofs.YtagjpbcmhaekpaaDoor
/- Two words compared; a small word (word.Small); a number of bytes (num.Unbe). -/
namespace Go.Proofs.YtagjpbcmhaekpaaDoor
open Go.RowKit Go.Shelf
set_option linter.unusedVariables false
set_option linter.unusedSimpArgs false

def wv (x : Nat) : Value := .int .u64 (x : Int)
theorem all_range_eqN : ∀ (xs ys : List Nat), xs.length = ys.length → ((List.range xs.length).all fun i => xs.getD i 0 == ys.getD i 0) = (xs == ys)
  | [], [], _ => rfl
  | x :: xs, y :: ys, h => by
    have ih := all_range_eqN xs ys (by simpa using h)
    rw [List.length_cons, List.range_succ_eq_map, List.all_cons, List.all_map]
    simp only [List.getD_cons_zero, Function.comp_def, List.getD_cons_succ, ih]
    simp [List.cons_beq_cons]
  | [], _ :: _, h => by simp at h
  | _ :: _, [], h => by simp at h
section
variable {P : Program} (w : World)
theorem run_equalIn_words (d : Nat) (t e : TypeId) (n : Nat) (ht : P.underlying t = some (.array n e)) (he : P.underlying e = some (.int .u64)) (hsz : ∀ w, (sizeOf e).run P w = .ok 1 w)
    (xs ys : List Nat) (hx : xs.length = n) (hy : ys.length = n) :
    (Op.equalIn (d + 2) t (.agg (xs.map wv).toArray) (.agg (ys.map wv).toArray)).run P w = .ok (xs == ys) w := by
  rw [← all_range_eqN xs ys (hx.trans hy.symm), hx, List.range_eq_range', Op.equalIn]
  simp only [Sem.run_bind, run_underlying ht, Result.andThen_ok, hsz, Std.Legacy.Range.forIn_eq_forIn_range', Std.Legacy.Range.size, Nat.sub_zero, Nat.add_sub_cancel, Nat.div_one]
  have hl : ∀ i ∈ List.range' 0 n 1, i < n := fun i hi => by simpa using (List.mem_range'_1.1 hi).2
  generalize List.range' 0 n 1 = l at hl ⊢
  induction l with
  | nil => simp
  | cons i l ih =>
    have hi : i < n := hl i (by simp)
    have px : (part e (xs.map wv).toArray (i * 1)).run P w = .ok (wv (xs.getD i 0)) w := by
      simp [part, isAgg, run_underlying he, List.getD, List.getElem?_eq_getElem (show i < xs.length by omega)]
    have py : (part e (ys.map wv).toArray (i * 1)).run P w = .ok (wv (ys.getD i 0)) w := by
      simp [part, isAgg, run_underlying he, List.getD, List.getElem?_eq_getElem (show i < ys.length by omega)]
    have pe : (Op.equalIn (d + 1) e (wv (xs.getD i 0)) (wv (ys.getD i 0))).run P w = .ok (xs.getD i 0 == ys.getD i 0) w := by
      rw [wv, wv, run_equalIn_int w d e .u64 .u64 _ _ he]
      congr 1
      rw [Bool.eq_iff_iff]
      simp
      omega
    simp only [List.forIn_cons, Sem.run_bind, px, py, pe, Result.andThen_ok, List.all_cons]
    cases hb : (xs.getD i 0 == ys.getD i 0)
    · simp
    · simp only [Bool.not_true, Bool.false_eq_true, if_false, Sem.run_pure, Result.andThen_ok, Bool.true_and]
      exact ih fun j hj => hl j (by simp [hj])
end
theorem size_u64w (w : World) : (sizeOf 22).run Tryd.prog w = .ok 1 w := by kernel_rfl
/-- a word is itself -/
theorem eq_word (a b c d : Nat) (w : World) : (Op.equalIn 10000 97 (.agg #[.int .u64 (a : Int), .int .u64 (b : Int), .int .u64 (c : Int), .int .u64 (d : Int)]) (.agg #[.int .u64 (a : Int), .int .u64 (b : Int), .int .u64 (c : Int), .int .u64 (d : Int)])).run Tryd.prog w = .ok true w := by
  have := run_equalIn_words (P := Tryd.prog) w 9998 97 22 4 (by kernel_rfl) (by kernel_rfl) size_u64w [a, b, c, d] [a, b, c, d] rfl rfl
  rw [beq_self_eq_true] at this
  exact this

theorem exec_loadW {W : World} {a : Act} {o : Oper} {b off : Nat} {x0 x1 x2 x3 : Value} (x : Operand) (ho : o.op = .load 97 x) (hx : a.eval x = .pointer (some ⟨b, off, none⟩))
    (c0 : W.cell? ⟨b, off, none⟩ = some x0) (c1 : W.cell? ⟨b, off + 1, none⟩ = some x1) (c2 : W.cell? ⟨b, off + 2, none⟩ = some x2) (c3 : W.cell? ⟨b, off + 3, none⟩ = some x3) :
    (execOp a.eval o).run Tryd.prog W = .ok (.value (.agg #[x0, x1, x2, x3])) W := by
  have hagg := Tryd.isAgg97
  have hsz := Tryd.sizeOf97
  unfold execOp
  simp only [ho, hx]
  simp [go_sem, c0, c1, c2, c3, hagg, hsz]
section
variable {P : Program} {ops : Array Oper} {C : World → Prop} {Q : Act → Prop} {a : Act} {o : Oper} {rest : List Oper}
theorem wpQuiet_loadW (v : Value) (ty : TypeId) (x : Operand) (p : Addr) (d : TypeDesc) (ho : o.op = .load ty x) (hw : Region.wanted o (yielded ops a.tmps) = true) (hx : a.eval x = .pointer (some p))
    (hu : P.underlying ty = some d) (hd : (match d with | .struct _ | .array _ _ => true | _ => false) = false) (hc : ∀ W, C W → W.cell? p = some v) (hk : wpQuiet P ops C Q rest (a.put o.dst v)) : wpQuiet P ops C Q (o :: rest) a :=
  wpQuiet_value hw v (fun W hW => by
    unfold execOp
    simp only [ho, hx, Instr.loadAt, Instr.sureAddr, Sem.run_bind, Sem.run_pure, Result.andThen_ok, load_cell hu hd (hc W hW)]) hk
end

theorem exec_neqW {W : World} {a : Act} {o : Oper} (x y : Operand) (t : TypeId) (ho : o.op = .binOp .neq 97 x y t) {u v : Array Value} (hx : a.eval x = .agg u) (hy : a.eval y = .agg v) {r : Bool}
    (he : (Op.equalIn 10000 97 (.agg u) (.agg v)).run Tryd.prog W = .ok r W) : (execOp a.eval o).run Tryd.prog W = .ok (.value (.bool (!r))) W := by
  unfold execOp
  simp only [ho, hx, hy]
  simp [go_sem, run_neq_struct, he]

set_option maxRecDepth 100000 in
set_option maxHeartbeats 1000000 in
theorem small_any (n : Nat) (w : World) :
    Calls Tryd.prog 54 #[.agg #[.int .u64 (n : Int), .int .u64 0, .int .u64 0, .int .u64 0]] w fun e w' => e = .returned (.tuple #[.int .u64 (n : Int), .bool true]) ∧ w.grownBy w' none := by
  have hB := Blk.new w 97 #[.int .u64 (n : Int), .int .u64 0, .int .u64 0, .int .u64 0]
  have hG := only_alloc (World.grownBy.refl w none) (.cells #[.int .u64 (n : Int), .int .u64 0, .int .u64 0, .int .u64 0] 97)
  have hEq := fun W => eq_word n 0 0 0 W
  have HOf := Lib.hid (fun V => of_any n V)
  go_enter Tryd.func54, Tryd.ntmps54
  go_upto_region 1 with (fail)
  obtain ⟨b, hb⟩ : ∃ b, w.heap.size = b := ⟨_, rfl⟩
  rw [hb] at hB ⊢
  generalize w.alloc (.cells #[.int .u64 (n : Int), .int .u64 0, .int .u64 0, .int .u64 0] 97) = W1 at *
  have c0 := hB.cell 0; have c1 := hB.cell 1; have c2 := hB.cell 2; have c3 := hB.cell 3
  simp only [List.getElem?_toArray, List.getElem?_cons_zero, List.getElem?_cons_succ] at c0 c1 c2 c3
  have hC0 : (fun V => Below W1.heap.size W1 V) W1.drew := ⟨rfl, rfl, rfl, Nat.le_refl _, fun _ _ => rfl⟩
  refine wp_region_class (fun V => Below W1.heap.size W1 V) (by kernel_rfl) (by kernel_rfl) hC0 ?_
  have hcc := class_const hC0
  have hlb := hB.lt
  have hr0 : ∀ V, Below W1.heap.size W1 V → V.cell? ⟨b, 0, none⟩ = some (.int .u64 (n : Int)) := fun V hV => (hV.cell (p := ⟨b, 0, none⟩) hlb).trans c0
  have hr1 : ∀ V, Below W1.heap.size W1 V → V.cell? ⟨b, 1, none⟩ = some (.int .u64 0) := fun V hV => (hV.cell (p := ⟨b, 1, none⟩) hlb).trans c1
  have hr2 : ∀ V, Below W1.heap.size W1 V → V.cell? ⟨b, 2, none⟩ = some (.int .u64 0) := fun V hV => (hV.cell (p := ⟨b, 2, none⟩) hlb).trans c2
  have hr3 : ∀ V, Below W1.heap.size W1 V → V.cell? ⟨b, 3, none⟩ = some (.int .u64 0) := fun V hV => (hV.cell (p := ⟨b, 3, none⟩) hlb).trans c3
  clear c1 c2 c3
  (try simp only [Act.put])
  refine wpQuiet_value rfl (.agg #[.int .u64 (n : Int), .int .u64 0, .int .u64 0, .int .u64 0]) (fun V hV => exec_loadW _ rfl rfl (hr0 V hV) (hr1 V hV) (hr2 V hV) (hr3 V hV)) ?_
  simp only [Act.put, List.setIfInBounds_toArray, List.set_cons_zero, List.set_cons_succ]
  go_big_quiet_step (fail)
  refine wpQuiet_loadW _ 22 _ ⟨b, 0, none⟩ _ rfl rfl rfl Tryd.underlying22 rfl hr0 ?_
  simp only [Act.put, List.setIfInBounds_toArray, List.set_cons_zero, List.set_cons_succ]
  refine wpQuiet_enter rfl (.agg #[.int .u64 (n : Int), .int .u64 ((0 : Nat) : Int), .int .u64 ((0 : Nat) : Int), .int .u64 ((0 : Nat) : Int)]) 50 #[.int .u64 (n : Int)] (fun V hV => exec_call1 _ (.tmp 6) _ rfl _ rfl rfl) (fun V hV => (HOf.out V).mono fun e w' ⟨he, hgg⟩ => ⟨he, below_of_grown (grown_self (grown_of_below hV) hgg (by simp))⟩) ?_
  simp only [Act.put, List.setIfInBounds_toArray, List.set_cons_zero, List.set_cons_succ]
  refine wpQuiet_value rfl (.bool (!true)) (fun V hV => exec_neqW _ _ _ rfl rfl rfl (hEq V)) ?_
  simp only [Act.put, List.setIfInBounds_toArray, List.set_cons_zero, List.set_cons_succ, Bool.not_true]
  refine wpQuiet_nil ?_
  intro w8 hw8
  have HG8 := Lib.hid (grown_self hG (grown_of_below hw8) (by simp))
  have c0' := hr0 w8 hw8
  clear hcc hC0 hr0 hr1 hr2 hr3 hw8 c0 hEq
  go_wp2_with fail
  go_ret2
  exact ⟨rfl, HG8.out⟩

/-- a number's bytes, read -/
def unbeE (l : List UInt8) : Int := if 8 < l.length then 5 else parseE l
def unbeN (l : List UInt8) : Nat := if 8 < l.length then 0 else parseP l 0
theorem parseC_short {l : List UInt8} (h : l.length ≤ 8) : parseC l = #[.int .u64 (parseP l 0 : Nat), .int .u64 0, .int .u64 0, .int .u64 0] := by
  have hlt : beV l < 2 ^ 64 := Nat.lt_of_lt_of_le (beV_lt l) (by rw [show (2 : Nat) ^ 64 = 256 ^ 8 from rfl]; exact Nat.pow_le_pow_right (by omega) h)
  have key : ∀ q, 1 ≤ q → parseP l q = 0 := fun q hq => by
    unfold parseP
    split
    · unfold wp
      rw [Nat.div_eq_of_lt (Nat.lt_of_lt_of_le hlt (Nat.pow_le_pow_right (by omega) (by omega)))]
    · rfl
  unfold parseC
  rw [key 1 (by omega), key 2 (by omega), key 3 (by omega)]; rfl

set_option maxRecDepth 100000 in
set_option maxHeartbeats 1000000 in
theorem unbe_any (S : ByteArray) (hs : S.size ≤ 9223372036854775807) (w : World) :
    Calls Tryd.prog 40 #[.string S] w fun e w' => e = .returned (.tuple #[.int .u64 (unbeN S.data.toList : Nat), .int .i64 (unbeE S.data.toList)]) ∧ w.grownBy w' none := by
  have hlz : S.data.toList.length = S.size := Array.length_toList
  by_cases h1 : 8 < S.size
  · have d1 : (8 : Int) < (S.size : Int) := by omega
    rw [show unbeN S.data.toList = 0 from if_pos (by omega), show unbeE S.data.toList = 5 from if_pos (by omega)]
    clear hlz h1
    go_enter Tryd.func40, Tryd.ntmps40
    go_wp2_with fail
    go_ret2
    exact ⟨rfl, World.grownBy.refl _ _⟩
  · have d1 : decide ((8 : Int) < (S.size : Int)) = false := decide_eq_false (by omega)
    rw [show unbeN S.data.toList = parseP S.data.toList 0 from if_neg (by omega), show unbeE S.data.toList = parseE S.data.toList from if_neg (by omega)]
    have hp := fun V => parse_any S hs V
    rw [parseC_short (by omega)] at hp
    generalize parseP S.data.toList 0 = n at *
    generalize parseE S.data.toList = E at *
    have HP := Lib.hid hp
    have HSm := Lib.hid (fun V => small_any n V)
    clear hp hlz h1
    go_enter Tryd.func40, Tryd.ntmps40
    go_wp2_with fail
    refine (HP.out _).mono ?_
    rintro e w2 ⟨rfl, hg2⟩
    have hB := Blk.new w2 97 #[.int .u64 (n : Int), .int .u64 0, .int .u64 0, .int .u64 0]
    have hG := Lib.hid (only_alloc hg2 (.cells #[.int .u64 (n : Int), .int .u64 0, .int .u64 0, .int .u64 0] 97))
    clear hg2 HP
    go_upto_region 4 with (fail)
    obtain ⟨b, hb⟩ : ∃ b, w2.heap.size = b := ⟨_, rfl⟩
    rw [hb] at hB ⊢
    clear hb
    generalize w2.alloc (.cells #[.int .u64 (n : Int), .int .u64 0, .int .u64 0, .int .u64 0] 97) = W1 at *
    have c0 := hB.cell 0; have c1 := hB.cell 1; have c2 := hB.cell 2; have c3 := hB.cell 3
    simp only [List.getElem?_toArray, List.getElem?_cons_zero, List.getElem?_cons_succ] at c0 c1 c2 c3
    go_wp2_with fail
    refine (HSm.out _).mono ?_
    rintro e w3 ⟨rfl, hg3⟩
    have HG := Lib.hid (grown_self hG.out hg3 (by simp))
    clear hg3 c0 c1 c2 c3 hB
    go_wp2_with fail
    go_ret2
    exact ⟨rfl, HG.out⟩
end Go.Proofs.YtagjpbcmhaekpaaDoor
/- A number, a word, bytes as an item; an item's number. -/
namespace Go.Proofs.YtagjpbcmhaekpaaDoor
open Go.RowKit Go.Shelf
set_option linter.unusedVariables false
set_option linter.unusedSimpArgs false

theorem load_itemF {w : World} {g : Nat} {a b c : Value} (hg : Blk w g 41 #[a, b, c]) : (loadVar 41 ⟨g, 0, none⟩).run Tryd.prog w = .ok (.agg #[a, b, c]) w :=
  run_loadVar_row w g 41 41 _ (0, 0) _ hg Tryd.underlying41 rfl (by kernel_rfl)

set_option maxRecDepth 100000 in
theorem text_any (s : ByteArray) (w : World) :
    Calls Tryd.prog 14 #[.string s] w fun e w' => e = .returned (.agg #[.bool false, .string s, .slice none 0 0]) ∧ w.grownBy w' none := by
  have hB := Blk.new w 41 #[.bool false, .string s, .slice none 0 0]
  have hG := only_alloc (World.grownBy.refl w none) (.cells #[.bool false, .string s, .slice none 0 0] 41)
  go_enter Tryd.func14, Tryd.ntmps14
  go_wp2_with fail
  refine bodyPost_ret (results_cell1 (fn := Tryd.f14) rfl _ _ _ _ rfl (load_itemF hB)) rfl ?_
  exact ⟨rfl, hG⟩

set_option maxRecDepth 100000 in
theorem within_any (n a b : Int) (w : World) :
    Calls Tryd.prog 36 #[.int .i64 n, .int .i64 a, .int .i64 b] w fun e w' => e = .returned (.int .i64 (if n < a then 3 else if b < n then 5 else 0)) ∧ w' = w := by
  by_cases h1 : n < a
  · rw [if_pos h1]
    go_enter Tryd.func36, Tryd.ntmps36
    go_wp2_with fail
    go_ret
    exact ⟨rfl, rfl⟩
  · rw [if_neg h1]
    have d1 : decide (n < a) = false := decide_eq_false h1
    by_cases h2 : b < n
    · rw [if_pos h2]
      clear h1
      go_enter Tryd.func36, Tryd.ntmps36
      go_wp2_with fail
      go_ret
      exact ⟨rfl, rfl⟩
    · rw [if_neg h2]
      have d2 : decide (b < n) = false := decide_eq_false h2
      clear h1 h2
      go_enter Tryd.func36, Tryd.ntmps36
      go_wp2_with fail
      go_ret
      exact ⟨rfl, rfl⟩

/-- an item's number -/
def numE (l : Bool) (s : ByteArray) : Int := if l then 2 else unbeE s.data.toList
def numV (l : Bool) (s : ByteArray) : Nat := if numE l s = 0 then unbeN s.data.toList else 0

set_option maxRecDepth 100000 in
set_option maxHeartbeats 1000000 in
theorem ofNumber_any (l : Bool) (s : ByteArray) (sv : Value) (hs : s.size ≤ 9223372036854775807) (w : World) :
    Calls Tryd.prog 39 #[.agg #[.bool l, .string s, sv], .func (Fn.func 40) #[] #[]] w fun e w' => e = .returned (.tuple #[.int .u64 (numV l s : Nat), .int .i64 (numE l s)]) ∧ w.grownBy w' none := by
  have hB := Blk.new w 41 #[.bool l, .string s, sv]
  have hG := only_alloc (World.grownBy.refl w none) (.cells #[.bool l, .string s, sv] 41)
  have hU := fun V => unbe_any s hs V
  cases l with
  | true =>
    have HG := Lib.hid hG
    rw [show numV true s = 0 from if_neg (by show ¬ (2 : Int) = 0; decide), show numE true s = 2 from rfl]
    clear hU hG
    go_enter Tryd.func39, Tryd.ntmps39
    go_upto_region 1 with (fail)
    obtain ⟨b, hb⟩ : ∃ b, w.heap.size = b := ⟨_, rfl⟩
    rw [hb] at hB ⊢
    generalize w.alloc (.cells #[.bool true, .string s, sv] 41) = W1 at *
    have c0 := hB.cell 0
    simp only [List.getElem?_toArray, List.getElem?_cons_zero, List.getElem?_cons_succ] at c0
    go_wp2_with fail
    go_ret2
    exact ⟨rfl, HG.out⟩
  | false =>
    obtain ⟨E, hE⟩ : ∃ E, unbeE s.data.toList = E := ⟨_, rfl⟩
    obtain ⟨n, hn⟩ : ∃ n, unbeN s.data.toList = n := ⟨_, rfl⟩
    have e1 : numE false s = E := hE
    have e2 : numV false s = if E = 0 then n else 0 := by unfold numV; rw [e1, hn]
    obtain ⟨m, hm⟩ : ∃ m, (if E = 0 then n else 0) = m := ⟨_, rfl⟩
    rw [e1, e2, hm]
    rw [hE, hn] at hU
    have HU := Lib.hid hU; have HG := Lib.hid hG; have HM := Lib.hid hm
    clear hU hG e1 e2 hE hn hm
    go_enter Tryd.func39, Tryd.ntmps39
    go_upto_region 1 with (fail)
    obtain ⟨b, hb⟩ : ∃ b, w.heap.size = b := ⟨_, rfl⟩
    rw [hb] at hB ⊢
    generalize w.alloc (.cells #[.bool false, .string s, sv] 41) = W1 at *
    have c0 := hB.cell 0; have c1 := hB.cell 1
    simp only [List.getElem?_toArray, List.getElem?_cons_zero, List.getElem?_cons_succ] at c0 c1
    go_wp2_with fail
    refine (HU.out _).mono ?_
    rintro e w3 ⟨rfl, hg3⟩
    have HG3 := Lib.hid (grown_self HG.out hg3 (by simp))
    clear hg3 c0 c1 hB
    by_cases h0 : E = 0
    · subst h0
      obtain rfl : n = m := HM.out
      clear HM
      go_wp2_with fail
      go_ret2
      exact ⟨rfl, HG3.out⟩
    · have g1 : (E != 0) = true := by simpa using h0
      obtain rfl : 0 = m := by have := HM.out; rwa [if_neg h0] at this
      clear HM
      go_wp2_with fail
      go_ret2
      exact ⟨rfl, HG3.out⟩

set_option maxRecDepth 100000 in
set_option maxHeartbeats 1000000 in
theorem getNumber_any (l : Bool) (s : ByteArray) (sv : Value) (hs : s.size ≤ 9223372036854775807) (w : World) :
    Calls Tryd.prog 26 #[.agg #[.bool l, .string s, sv]] w fun e w' => e = .returned (.tuple #[.int .u64 (numV l s : Nat), .int .i64 (numE l s)]) ∧ w.grownBy w' none := by
  have hB := Blk.new w 41 #[.bool l, .string s, sv]
  have HG := Lib.hid (only_alloc (World.grownBy.refl w none) (.cells #[.bool l, .string s, sv] 41))
  have HO := Lib.hid (fun V => ofNumber_any l s sv hs V)
  generalize numV l s = n at *
  generalize numE l s = E at *
  go_enter Tryd.func26, Tryd.ntmps26
  go_wp2_with fail
  refine (HO.out _).mono ?_
  rintro e w3 ⟨rfl, hg3⟩
  have HG3 := Lib.hid (grown_self HG.out hg3 (by simp))
  clear hg3
  go_wp2_with fail
  go_ret2
  exact ⟨rfl, HG3.out⟩

set_option maxRecDepth 100000 in
set_option maxHeartbeats 1000000 in
theorem number_any (n : Nat) (hn : n < 18446744073709551616) (w : World) :
    Calls Tryd.prog 15 #[.int .u64 (n : Int)] w fun e w' => e = .returned (.agg #[.bool false, .string ⟨(beN n).toArray⟩, .slice none 0 0]) ∧ w.grownBy w' none := by
  have hB := Blk.new w 41 #[.bool false, .string ⟨#[]⟩, .slice none 0 0]
  have HG := Lib.hid (only_alloc (World.grownBy.refl w none) (.cells #[.bool false, .string ⟨#[]⟩, .slice none 0 0] 41))
  have hbe := fun V => be_any n hn V
  obtain ⟨t, ht⟩ : ∃ t : ByteArray, (⟨(beN n).toArray⟩ : ByteArray) = t := ⟨_, rfl⟩
  rw [ht] at hbe ⊢
  have HBe := Lib.hid hbe
  clear hbe ht
  go_enter Tryd.func15, Tryd.ntmps15
  go_upto_region 1 with (fail)
  obtain ⟨b, hb⟩ : ∃ b, w.heap.size = b := ⟨_, rfl⟩
  have HW := Lib.hid hb
  rw [hb] at hB ⊢
  clear hb
  generalize w.alloc (.cells #[.bool false, .string ⟨#[]⟩, .slice none 0 0] 41) = W1 at *
  go_wp2_with fail
  refine (HBe.out _).mono ?_
  rintro e w3 ⟨rfl, hg3⟩
  have hB := hB.grown hg3 (by simp)
  have HG3 := Lib.hid (grown_self HG.out hg3 (by simp))
  clear hg3
  go_wp2_with fail
  refine (text_any t _).mono ?_
  rintro e w4 ⟨rfl, hg4⟩
  have hB := hB.grown hg4 (by simp)
  have hG4 := grown_self HG3.out hg4 (by simp)
  have hle : w.heap.size ≤ b := by have := HW.out; omega
  have HG5 := Lib.hid (only_set (only_set (only_set hG4 (p := ⟨b, 0, none⟩) hle (.bool false)) (p := ⟨b, 1, none⟩) hle (.string t)) (p := ⟨b, 2, none⟩) hle (.slice none 0 0))
  have HB5 := Lib.hid (((hB.set_ 0 (.bool false)).set_ 1 (.string t)).set_ 2 (.slice none 0 0))
  have c0 := hB.cell 0; have c1 := hB.cell 1; have c2 := hB.cell 2
  have d0 := hB.frozen 0; have d1 := hB.frozen 1; have d2 := hB.frozen 2
  simp only [List.getElem?_toArray, List.getElem?_cons_zero, List.getElem?_cons_succ] at c0 c1 c2
  clear hg4 hG4 hB hle
  go_wp2_with fail
  refine bodyPost_ret (results_cell1 (fn := Tryd.f15) rfl _ _ _ _ rfl (load_itemF HB5.out)) rfl ?_
  exact ⟨rfl, HG5.out⟩
end Go.Proofs.YtagjpbcmhaekpaaDoor
/- Yes or no, an address, bytes of an item; a list. -/
namespace Go.Proofs.YtagjpbcmhaekpaaDoor
open Go.RowKit Go.Shelf
set_option linter.unusedVariables false
set_option linter.unusedSimpArgs false

def yesS (v : Bool) : ByteArray := if v then ⟨#[1]⟩ else ⟨#[]⟩
def yesE (s : ByteArray) : Int := if s = ⟨#[]⟩ ∨ s = ⟨#[1]⟩ then 0 else 2
def yesV (s : ByteArray) : Bool := s = ⟨#[1]⟩
theorem str_eqT {a b : ByteArray} (h : a = b) : (a.toList == b.toList) = true := by rw [h]; simp
theorem isE_of {a : ByteArray} (h : a ≠ ⟨#[]⟩) : a.toList.isEmpty = false ∧ (a.toList == []) = false ∧ (a.toList != []) = true := by
  have h0 : a.toList ≠ [] := fun e => h (ba_ext (by rw [← Lib.toList_data, e]))
  refine ⟨?_, by simpa using h0, by simpa using h0⟩
  cases hq : a.toList with
  | nil => exact absurd hq h0
  | cons x l => rfl
def addrE (s : ByteArray) : Int := if s = ⟨#[]⟩ ∨ s.size = 20 then 0 else 2
def addrV (s : ByteArray) : ByteArray := if addrE s = 0 then s else ⟨#[]⟩
set_option maxRecDepth 100000 in
theorem list_any (sv : Value) (hsv : ∃ A n c, sv = .slice A n c) (w : World) :
    Calls Tryd.prog 13 #[sv] w fun e w' => e = .returned (.agg #[.bool true, .string ⟨#[]⟩, sv]) ∧ w.grownBy w' none := by
  obtain ⟨A, n, c, rfl⟩ := hsv
  have hB := Blk.new w 41 #[.bool true, .string ⟨#[]⟩, .slice A n c]
  have hG := only_alloc (World.grownBy.refl w none) (.cells #[.bool true, .string ⟨#[]⟩, .slice A n c] 41)
  go_enter Tryd.func13, Tryd.ntmps13
  go_wp2_with fail
  refine bodyPost_ret (results_cell1 (fn := Tryd.f13) rfl _ _ _ _ rfl (load_itemF hB)) rfl ?_
  exact ⟨rfl, hG⟩
end Go.Proofs.YtagjpbcmhaekpaaDoor
