/- Merged: Join, Rep, Unfx, Prs, WEq. -/
import Derived.Test.YthalohloneojlaaGreatDoorMi1
import Derived.Test.YthalohloneojlaaGreatDoorMi2
import Derived.Shelf.Strings.Builder2
import Derived.Shelf.Bits.Mul64
import Derived.Shelf.Strings.Prefix
import Derived.Lib.RepeatB
import Derived.Deep.LoopGhost
import Derived.Deep.DeepCutAuto
import Derived.StillTailTactics
import Derived.Laws.StructEq
/- strings.Join with nothing between. -/
namespace Go.Proofs.YthalohloneojlaaGreatDoor
open Go.RowKit Go.Shelf

def growRen : Go.Shelf.Ren := ⟨fun | 241 => 163 | 277 => 171 | n => n, fun | 70 => 134 | 9 => 9 | 0 => 0 | 72 => 136 | 37 => 52 | 127 => 183 | 3 => 3 | 5 => 5 | n => n, fun | n => n⟩
theorem growLays : Go.Proofs.Lays.n241 Tryz.prog growRen := {
  mixed := by kernel_rfl
  f241 := Tryz.func163.trans (congrArg some (by kernel_rfl))
  f277 := Tryz.func171.trans (congrArg some (by kernel_rfl))
  t0 := Tryz.underlying0
  a0 := Tryz.isAgg0
  z0 := Tryz.sizeOf0
  v0 := Tryz.zeroValue0
  t3 := Tryz.underlying3
  a3 := Tryz.isAgg3
  z3 := Tryz.sizeOf3
  v3 := Tryz.zeroValue3
  t37 := Tryz.underlying52
  a37 := Tryz.isAgg52
  z37 := Tryz.sizeOf52
  v37 := Tryz.zeroValue52
  t70 := Tryz.underlying134
  a70 := Tryz.isAgg134
  z70 := Tryz.sizeOf134
  v70 := Tryz.zeroValue134
  t72 := Tryz.underlying136
  a72 := Tryz.isAgg136
  z72 := Tryz.sizeOf136
  v72 := Tryz.zeroValue136 }
theorem growExtra : Builder.Extra Tryz.prog growRen := {
  sizeBuilder := by kernel_rfl
  liesBuilder := by kernel_rfl
  t5 := Tryz.underlying5
  a5 := Tryz.isAgg5
  z5 := Tryz.sizeOf5
  v5 := Tryz.zeroValue5
  infoByte := by kernel_rfl
  cellsByte := by kernel_rfl
  sizeByte := by kernel_rfl
  neB5 := by decide }

abbrev BAt (B b : Nat) (p : Value) (bs : List Value) (w : World) : Prop := Lib.BuilderAt 136 5 B b p bs w

theorem growInner_any (B b n : Nat) (w : World) (hB : B ≤ b) (hbk : w.heap[b]? = some (.cells #[.pointer (some ⟨b, 0, none⟩), .slice none 0 0] 136 (0, 0))) (hBw : B ≤ w.heap.size) (hn : n ≤ 281474976710656) :
    Calls Tryz.prog 163 #[.pointer (some ⟨b, 0, none⟩), .int .i64 n] w fun e w' => e = .returned (.tuple #[]) ∧ (BAt B b (.pointer (some ⟨b, 0, none⟩)) [] w' ∧ Below B w w') := Any.Builder_grow_fresh growLays growExtra B b n w hB hbk hBw hn

set_option maxRecDepth 100000 in
set_option maxHeartbeats 1000000 in
theorem grow_any (b n : Nat) (w : World) (hbk : w.heap[b]? = some (.cells #[.pointer none, .slice none 0 0] 136 (0, 0))) (hn : n ≤ 281474976710656) :
    Calls Tryz.prog 155 #[.pointer (some ⟨b, 0, none⟩), .int .i64 n] w fun e w' => e = .returned (.tuple #[]) ∧ (BAt b b (.pointer (some ⟨b, 0, none⟩)) [] w' ∧ Below b w w') := by
  have hlt : b < w.heap.size := (Array.getElem?_eq_some_iff.1 hbk).1
  go_enter Tryz.func155, Tryz.ntmps155
  go_wp2_with fail
  refine (copyFresh_any b w (by rw [Lib.cell_of_heap hbk]; rfl) (by simp [World.shape?, hbk]) (Lib.frozen_of_heap hbk 0)).mono ?_
  rintro e w1 ⟨rfl, hw1⟩
  have hbk1 : w1.heap[b]? = some (.cells #[.pointer (some ⟨b, 0, none⟩), .slice none 0 0] 136 (0, 0)) := by
    rw [hw1]; simp [World.setCell, Array.getElem?_modify, hbk]
  have hb1 : Below b w w1 := by rw [hw1]; exact (Below.refl b w).setCell (p := ⟨b, 0, none⟩) (Nat.le_refl _) _
  have hz1 : b ≤ w1.heap.size := by have := hb1.size; omega
  have c1 : w1.cell? ⟨b, 1, none⟩ = some (.slice none 0 0) := by rw [Lib.cell_of_heap hbk1]; rfl
  have hd := fun q => growInner_any b b n (w1.drewN q) (Nat.le_refl _) hbk1 hz1 hn
  clear hw1 hbk
  by_cases h0 : 0 < n
  · have d1 : decide ((0 : Int) < (n : Int)) = true := by simpa using h0
    go_wp2_with fail
    go_quiet (fail)
    have hd2 := hd nq
    clear hd
    go_wp2_with fail
    refine hd2.mono ?_
    rintro e w2 ⟨rfl, h2, hb2⟩
    go_wp2_with fail
    go_end0
    exact ⟨rfl, h2, (below_drewN hb1 nq).trans hb2⟩
  · have hn0 : n = 0 := by omega
    subst hn0
    go_wp2_with fail
    go_quiet (fail)
    go_wp2_with fail
    go_end0
    exact ⟨rfl, ⟨Nat.le_refl _, .slice none 0 0, hbk1, World.ownsRow_nil _ _ _ _, by simp [Value.ownBlock]⟩, below_drewN hb1 nq⟩

theorem Reads.vals {α : Type} (f : α → Value) (d : α) {w : World} {B n k : Nat} {A : Option Addr} {xs : List α} (h : Reads w B 1 A n (xs.map f)) (hk : k < n) :
    ∃ b off, A = some ⟨b, off, none⟩ ∧ b < B ∧ ∀ j, j < n → w.cell? ⟨b, off + j, none⟩ = some (f (xs.getD j d)) := by
  have hl := h.1
  simp at hl
  have key : ∀ j, j < n → (xs.map f)[j]? = some (f (xs.getD j d)) := by
    intro j hj
    rw [List.getElem?_map, List.getElem?_eq_getElem (by omega), List.getD_eq_getElem?_getD, List.getElem?_eq_getElem (by omega)]
    rfl
  obtain ⟨ad, rfl, hb, hc⟩ := h.2 (by omega)
  have h0 := hc 0 _ (key 0 (by omega))
  have e : ad = ⟨ad.block, ad.off, none⟩ := lit_of_cell (a := ad) (by simpa [Addr.add] using h0)
  refine ⟨ad.block, ad.off, by rw [← e], hb, fun j hj => ?_⟩
  have := hc j _ (key j hj)
  rw [e] at this
  unfold Addr.add at this
  by_cases hj0 : j = 0
  · subst hj0; simpa using this
  · simpa [hj0] using this

/-- the texts, one behind the other -/
def catB (xs : List ByteArray) : List UInt8 := xs.flatMap (·.data.toList)
theorem catB_snoc (xs : List ByteArray) (x : ByteArray) : catB (xs ++ [x]) = catB xs ++ x.data.toList := by simp [catB]
theorem catB_take (xs : List ByteArray) (k : Nat) (hk : k < xs.length) : catB (xs.take (k + 1)) = catB (xs.take k) ++ (xs.getD k .empty).data.toList := by
  rw [List.take_succ_eq_append_getElem hk, catB_snoc, List.getD_eq_getElem?_getD, List.getElem?_eq_getElem hk]; rfl
theorem catB_le (xs : List ByteArray) (k : Nat) : (catB (xs.take k)).length ≤ (catB xs).length := by
  have h : catB xs = catB (xs.take k) ++ catB (xs.drop k) := by unfold catB; rw [← List.flatMap_append, List.take_append_drop]
  rw [h, List.length_append]; omega
theorem ba_of (s : ByteArray) : (⟨s.data.toList.toArray⟩ : ByteArray) = s := ba_ext (by simp)

set_option maxRecDepth 100000 in
set_option maxHeartbeats 1000000 in
theorem joinMany_any (B : Nat) (A : Option Addr) (n c : Nat) (xs : List ByteArray) (w : World) (hB : B ≤ w.heap.size) (h : Reads w B 1 A n (xs.map Value.string)) (h2 : 2 ≤ n) (hnm : n ≤ 1000000) (hnc : n ≤ c) (hlen : (catB xs).length ≤ 140737488355328) :
    Calls Tryz.prog 142 #[.slice A n c, .string .empty] w fun e w' => e = .returned (.string ⟨(catB xs).toArray⟩) ∧ Below w.heap.size w w' := by
  have hl : xs.length = n := by simpa using h.1
  obtain ⟨b, off, rfl, hbb, hc⟩ := h.vals Value.string .empty (k := 0) (by omega)
  have hne0 : ((n : Int) == 0) = false := beq_eq_false_iff_ne.2 (by omega)
  have hne1 : ((n : Int) == 1) = false := beq_eq_false_iff_ne.2 (by omega)
  have HL := Lib.hid hl; clear hl h
  have HC := Lib.hid hc; clear hc
  have HLEN := Lib.hid hlen; clear hlen
  go_enter Tryz.func142, Tryz.ntmps142
  go_wp2_with fail
  go_loop [5, 41] (fun s i => ∃ k : Nat, k ≤ n ∧ i = .int .i64 (k : Int) ∧ s = .int .i64 ((catB (xs.take k)).length : Int)) (fun _ i => n - (intOf i).toNat)
  case atStart => exact ⟨0, Nat.zero_le _, rfl, rfl⟩
  case round =>
    obtain ⟨k, hk, rfl, rfl⟩ := hrel
    by_cases hlt : k < n
    · have hck := HC.out k hlt
      have hst := catB_take xs k (by have := HL.out; omega)
      have hle := catB_le xs (k + 1)
      have hst2 : (catB (xs.take (k + 1))).length = (catB (xs.take k)).length + (xs.getD k .empty).size := by rw [hst, List.length_append, ba_len]
      clear hst
      obtain ⟨x, hx⟩ : ∃ x, xs.getD k .empty = x := ⟨_, rfl⟩
      rw [hx] at hck hst2
      have hlen := HLEN.out
      obtain ⟨S1, hS1⟩ : ∃ q, (catB (xs.take (k + 1))).length = q := ⟨_, rfl⟩
      rw [hS1] at hle hst2
      have HS1 := Lib.hid hS1
      clear hS1 hx
      generalize (catB (xs.take k)).length = S at *
      generalize (catB xs).length = T at *
      go_wp2_with fail
      go_round
      case rel => exact ⟨k + 1, by omega, by simp, by rw [HS1.out, hst2]; simp⟩
      case measure => simp [intOf]; omega
    · have hk2 : k = n := by omega
      have ht : xs.take k = xs := List.take_of_length_le (by have := HL.out; omega)
      rw [ht]
      have hfin : decide ((k : Int) < (n : Int)) = false := by simp; omega
      have hfin2 : decide (k < n) = false := by simp; omega
      clear ht hk2 hlt hk
      obtain ⟨T, hT⟩ : ∃ q, (catB xs).length = q := ⟨_, rfl⟩
      have hTl : T ≤ 140737488355328 := by rw [← hT]; exact HLEN.out
      rw [hT]
      clear hT
      have hn0 : w.heap[w.heap.size]? = none := by simp
      have hb0 : Below w.heap.size w (w.alloc (.cells #[.pointer none, .slice none 0 0] 136)) := (Below.refl _ w).alloc (Nat.le_refl _) _
      have hbk0 := heap_alloc_new w (.cells #[.pointer none, .slice none 0 0] 136)
      go_wp2_with fail
      generalize w.alloc (.cells #[.pointer none, .slice none 0 0] 136) = w1 at *
      refine (grow_any w.heap.size T w1 hbk0 (by omega)).mono ?_
      rintro e w2 ⟨rfl, h2b, hb2⟩
      have hb2' := hb0.trans hb2
      clear hb2 hb0 hbk0
      have hc0 : w2.cell? ⟨b, off, none⟩ = some (.string (xs.getD 0 .empty)) := by
        rw [hb2'.cell (p := ⟨b, off, none⟩) (by show b < w.heap.size; omega)]
        exact HC.out 0 (by omega)
      obtain ⟨x0, hx0⟩ : ∃ x, xs.getD 0 .empty = x := ⟨_, rfl⟩
      rw [hx0] at hc0
      have hs1 : catB (xs.take 1) = x0.data.toList := by rw [catB_take xs 0 (by have := HL.out; omega), hx0]; simp [catB]
      have hs1l := catB_le xs 1
      rw [hs1, ba_len] at hs1l
      have HS1 := Lib.hid hs1; clear hs1 hx0
      have hx0l : x0.size ≤ 140737488355328 := by have := HLEN.out; omega
      clear hs1l
      have hc1 : ¬ c = 1 := by omega
      go_wp2_with fail
      refine (writeString_any w.heap.size w.heap.size [] x0 w2 (.inr h2b) (by simpa using hx0l) hb2'.size).mono ?_
      rintro e w3 ⟨rfl, h3b, hb3⟩
      have hb3' := hb2'.trans hb3
      rw [List.nil_append, strCells_eq, ← HS1.out] at h3b
      clear h2b hb2' hb3 hc0
      go_wp2_with fail
      go_loopw [65] (fun i wr => ∃ k : Nat, k ≤ n - 1 ∧ i = .int .i64 (k : Int) ∧ Lib.IsBuilder 136 5 w.heap.size w.heap.size (Lib.byteCells (catB (xs.take (k + 1)))) wr ∧ Below w.heap.size w wr) (fun i _ => n - 1 - (intOf i).toNat)
      case atStart => exact ⟨0, Nat.zero_le _, rfl, h3b, hb3'⟩
      case round =>
        clear h3b hb3' hx0l
        obtain ⟨k, hk, rfl, hb, hbel⟩ := hrel
        have hsz := hbel.size
        by_cases hlt : k < n - 1
        · have hck : wr.cell? ⟨b, off + 1 + k, none⟩ = some (.string (xs.getD (k + 1) .empty)) := by
            rw [hbel.cell (p := ⟨b, off + 1 + k, none⟩) (by show b < w.heap.size; omega), show off + 1 + k = off + (k + 1) by omega]
            exact HC.out (k + 1) (by omega)
          have hst := catB_take xs (k + 1) (by have := HL.out; omega)
          have hle := catB_le xs (k + 1 + 1)
          have hlen := HLEN.out
          obtain ⟨x, hx⟩ : ∃ x, xs.getD (k + 1) .empty = x := ⟨_, rfl⟩
          rw [hx] at hck hst
          have hst2 : (catB (xs.take (k + 1))).length + x.size ≤ 140737488355328 := by rw [hst, List.length_append, ba_len] at hle; omega
          have hst3 : Lib.byteCells (catB (xs.take (k + 1 + 1))) = Lib.byteCells (catB (xs.take (k + 1))) ++ Lib.strCells x := by rw [hst, byteCells_append, strCells_eq]
          have HS := Lib.hid hst3
          clear hst hst3 hle hlen hx
          have hz0 : (Lib.byteCells (catB (xs.take (k + 1)))).length + (ByteArray.empty).size ≤ 140737488355328 := by rw [Lib.byteCells_length]; show _ + 0 ≤ _; omega
          have hz1 : (Lib.byteCells (catB (xs.take (k + 1)))).length + x.size ≤ 140737488355328 := by rw [Lib.byteCells_length]; omega
          go_wp2_with fail
          refine (writeString_any w.heap.size w.heap.size _ .empty wr hb hz0 hsz).mono ?_
          rintro e w4 ⟨rfl, h4, hb4⟩
          have hbel4 := hbel.trans hb4
          have he0 : Lib.strCells .empty = [] := rfl
          rw [he0, List.append_nil] at h4
          have hck4 : w4.cell? ⟨b, off + 1 + k, none⟩ = some (.string x) := (hb4.cell (p := ⟨b, off + 1 + k, none⟩) (by show b < w.heap.size; omega)).trans hck
          clear hb hbel hck hb4 hz0
          go_wp2_with fail
          refine (writeString_any w.heap.size w.heap.size _ x w4 h4 hz1 hbel4.size).mono ?_
          rintro e w5 ⟨rfl, h5, hb5⟩
          have hbel5 := hbel4.trans hb5
          rw [← HS.out] at h5
          clear h4 hbel4 hb5 hck4
          go_wp2_with fail
          go_roundw
          case rel => exact ⟨k + 1, by omega, by simp, h5, hbel5⟩
          case measure => simp [intOf]; omega
        · have hk2 : k + 1 = n := by omega
          have ht : xs.take (k + 1) = xs := List.take_of_length_le (by have := HL.out; omega)
          rw [ht] at hb
          have hfin3 : decide ((k : Int) < (n : Int) - 1) = false := by simp; omega
          clear ht hk2
          go_wp2_with fail
          refine (builderString_any w.heap.size w.heap.size _ wr hb (by omega)).mono ?_
          rintro e w4 ⟨rfl, hb4⟩
          go_wp2_with fail
          go_ret
          exact ⟨rfl, hbel.trans hb4⟩

set_option maxRecDepth 100000 in
theorem joinNone_any (A : Option Addr) (c : Nat) (w : World) :
    Calls Tryz.prog 142 #[.slice A 0 c, .string .empty] w fun e w' => e = .returned (.string ⟨#[]⟩) ∧ Below w.heap.size w w' := by
  go_enter Tryz.func142, Tryz.ntmps142
  go_wp2_with fail
  go_ret
  exact ⟨rfl, Below.refl _ _⟩

set_option maxRecDepth 100000 in
theorem joinOne_any (B : Nat) (A : Option Addr) (c : Nat) (x : ByteArray) (w : World) (h : Reads w B 1 A 1 [.string x]) :
    Calls Tryz.prog 142 #[.slice A 1 c, .string .empty] w fun e w' => e = .returned (.string x) ∧ Below w.heap.size w w' := by
  obtain ⟨b, off, rfl, hbb, hc⟩ := Reads.vals (xs := [x]) Value.string .empty h (k := 0) (by omega)
  have hck : w.cell? ⟨b, off, none⟩ = some (.string x) := hc 0 (by omega)
  clear hc
  go_enter Tryz.func142, Tryz.ntmps142
  go_wp2_with fail
  go_ret
  exact ⟨rfl, Below.refl _ _⟩

/-- the texts of a row, one behind the other -/
theorem join_any (B : Nat) (A : Option Addr) (n c : Nat) (xs : List ByteArray) (w : World) (hB : B ≤ w.heap.size) (h : Reads w B 1 A n (xs.map Value.string)) (hnm : n ≤ 1000000) (hnc : n ≤ c) (hlen : (catB xs).length ≤ 140737488355328) :
    Calls Tryz.prog 142 #[.slice A n c, .string .empty] w fun e w' => e = .returned (.string ⟨(catB xs).toArray⟩) ∧ Below w.heap.size w w' := by
  have hl : xs.length = n := by simpa using h.1
  match xs, hl with
  | [], hl => subst hl; exact joinNone_any A c w
  | [x], hl =>
    subst hl
    refine (joinOne_any B A c x w h).mono fun e w' ⟨he, hb⟩ => ⟨?_, hb⟩
    rw [he]; exact congrArg _ (congrArg _ (ba_ext (by simp [catB])))
  | x :: y :: r, hl => exact joinMany_any B A n c _ w hB h (by simp at hl; omega) hnm hnc hlen
end Go.Proofs.YthalohloneojlaaGreatDoor
/- strings.HasPrefix, bits.Mul, and strings.Repeat of one byte 0. -/
namespace Go.Proofs.YthalohloneojlaaGreatDoor
open Go.RowKit Go.Shelf
set_option linter.unusedVariables false
set_option linter.unusedSimpArgs false

def prefixRen : Go.Shelf.Ren := ⟨fun | 99 => 157 | 206 => 164 | n => n, fun | 3 => 3 | 4 => 4 | 9 => 9 | n => n, fun | n => n⟩
theorem prefixLays : Go.Proofs.Lays.n99 Tryz.prog prefixRen := {
  mixed := by kernel_rfl
  f99 := Tryz.func157.trans (congrArg some (by kernel_rfl))
  f206 := Tryz.func164.trans (congrArg some (by kernel_rfl))
  t3 := Tryz.underlying3
  a3 := Tryz.isAgg3
  z3 := Tryz.sizeOf3
  v3 := Tryz.zeroValue3
  t4 := Tryz.underlying4
  a4 := Tryz.isAgg4
  z4 := Tryz.sizeOf4
  v4 := Tryz.zeroValue4
  t9 := Tryz.underlying9
  a9 := Tryz.isAgg9
  z9 := Tryz.sizeOf9
  v9 := Tryz.zeroValue9 }
theorem hasPrefix_any (s p : ByteArray) (w : World) :
    Calls Tryz.prog 157 #[.string s, .string p] w fun e w' => e = .returned (.bool (Lib.hasPrefix s.data.toList p.data.toList)) ∧ w' = w := Any.strings_HasPrefix prefixLays s p w
def mulRen : Go.Shelf.Ren := ⟨fun | 212 => 165 | 263 => 172 | 264 => 173 | n => n, fun | 46 => 217 | 51 => 245 | 53 => 22 | 146 => 246 | 148 => 248 | n => n, fun | n => n⟩
theorem mulLays : Go.Proofs.Lays.n212 Tryz.prog mulRen := {
  mixed := by kernel_rfl
  f212 := Tryz.func165.trans (congrArg some (by kernel_rfl))
  f263 := Tryz.func172.trans (congrArg some (by kernel_rfl))
  f264 := Tryz.func173.trans (congrArg some (by kernel_rfl))
  t46 := Tryz.underlying217
  a46 := Tryz.isAgg217
  z46 := Tryz.sizeOf217
  v46 := Tryz.zeroValue217
  t51 := Tryz.underlying245
  a51 := Tryz.isAgg245
  z51 := Tryz.sizeOf245
  v51 := Tryz.zeroValue245
  t53 := Tryz.underlying22
  a53 := Tryz.isAgg22
  z53 := Tryz.sizeOf22
  v53 := Tryz.zeroValue22
  t146 := Tryz.underlying246
  a146 := Tryz.isAgg246
  z146 := Tryz.sizeOf246
  v146 := Tryz.zeroValue246
  t148 := Tryz.underlying248
  a148 := Tryz.isAgg248
  z148 := Tryz.sizeOf248
  v148 := Tryz.zeroValue248 }
theorem mul_any (x y : Nat) (hxy : x * y < 18446744073709551616) (hx : x < 18446744073709551616) (hy : y < 18446744073709551616) (w : World) :
    Calls Tryz.prog 165 #[.int .u64 (x : Int), .int .u64 (y : Int)] w fun e w' => e = .returned (.tuple #[.int .u64 0, .int .u64 ((x * y : Nat) : Int)]) ∧ w' = w := by
  refine (Any.bits_Mul mulLays x y hx hy w).mono ?_
  rintro e w' ⟨he, hw⟩
  rw [Nat.div_eq_of_lt hxy, Nat.mod_eq_of_lt hxy] at he
  exact ⟨he, hw⟩
theorem min3_any {P : Program} {w : World} (ts : Array TypeId) (t : TypeId) (x y z : Int) :
    (Builtin.min_ ts t #[.int .i64 x, .int .i64 y, .int .i64 z]).run P w = .ok (.int .i64 (if z < (if y < x then y else x) then z else (if y < x then y else x))) w := by
  simp [Builtin.min_, Builtin.min2]

abbrev zs (c : Nat) : List UInt8 := List.replicate c 0
set_option maxRecDepth 100000 in
set_option maxHeartbeats 2000000 in
theorem repeatMany_any (S : ByteArray) (hS : S.data.toList = [0]) (c : Nat) (w : World) (hc2 : 2 ≤ c) (hc : c ≤ 32) :
    Calls Tryz.prog 159 #[.string S, .int .i64 (c : Int)] w fun e w' => e = .returned (.string ⟨(zs c).toArray⟩) ∧ Below w.heap.size w w' := by
  have hz : S.size = 1 := by have := congrArg List.length hS; rw [Array.length_toList] at this; exact this
  have g0 : 0 < S.size := by omega
  have g2 : ((S[0]'g0).toNat : Int) = 0 := by
    have e2 : S.data[0]? = some 0 := by
      have : S.data.toList[0]? = some 0 := by rw [hS]; rfl
      simpa using this
    obtain ⟨_, e3⟩ := Array.getElem?_eq_some_iff.1 e2
    have : S[0]'g0 = 0 := e3
    rw [this]; rfl
  have hMul := mul_any 1 c (by omega) (by omega) (by omega) w
  rw [Nat.one_mul] at hMul
  have HM : Hid (Calls Tryz.prog 165 #[.int .u64 1, .int .u64 (c : Int)] w fun e w' => e = .returned (.tuple #[.int .u64 0, .int .u64 (c : Int)]) ∧ w' = w) := Lib.hid hMul
  have hzi : (S.size : Int) = 1 := by omega
  have e0 : ((c : Int) == 0) = false := by rw [beq_eq_false_iff_ne]; omega
  have e1 : ((c : Int) == 1) = false := by rw [beq_eq_false_iff_ne]; omega
  have d0 : decide ((c : Int) < 0) = false := decide_eq_false (by omega)
  have d1 : decide ((9223372036854775807 : Int) < (c : Int)) = false := decide_eq_false (by omega)
  have d1' : decide (9223372036854775807 < c) = false := decide_eq_false (by omega)
  have d2 : decide ((8192 : Int) < (c : Int)) = false := decide_eq_false (by omega)
  have d2' : decide (8192 < c) = false := decide_eq_false (by omega)
  have v1 : IntKind.u64.wrap (c : Int) = (c : Int) := by rw [show (c : Int) = ((c : Nat) : Int) from rfl]; simp [IntKind.wrap, IntKind.bits, IntKind.signed]; omega
  have v1' : IntKind.u64.wrap (1 : Int) = 1 := by decide
  have v2 : IntKind.i64.wrap (c : Int) = (c : Int) := IntWalk.i64_in _ (by omega)
  have b0 : Below w.heap.size w (w.alloc (.cells #[.pointer none, .slice none 0 0] 136)) := (Below.refl _ w).alloc (Nat.le_refl _) _
  have HG := Lib.hid (grow_any w.heap.size c (w.alloc (.cells #[.pointer none, .slice none 0 0] 136)) (heap_alloc_new w _) (by omega))
  have HB0 := Lib.hid b0
  have HSS := Lib.hid hS
  clear hS hMul b0
  go_enter Tryz.func159, Tryz.ntmps159
  go_wp2_with fail
  refine HM.out.mono ?_
  rintro e w' ⟨rfl, hw⟩
  rw [hw]
  clear hw HM
  go_wp2_with fail
  refine HG.out.mono ?_
  rintro e W1 ⟨rfl, h1, b1⟩
  have b01 := Lib.hid (HB0.out.trans b1)
  have H1 := Lib.hid h1
  clear h1 b1 HG HB0
  go_wp2_with fail
  refine (writeStringF_any w.heap.size w.heap.size [] S W1 (Lib.IsBuilderF.of (Or.inr H1.out)) (by simp; omega) b01.out.size).mono ?_
  rintro e W2 ⟨rfl, h2, b2⟩
  have H2 : IsB w.heap.size w.heap.size (Lib.byteCells (zs 1)) W2 := by
    rw [List.nil_append, strCells_eq, HSS.out] at h2
    exact h2
  have b02 := b01.out.trans b2
  clear h2 b2 b01 H1
  go_wp2_with fail
  go_loopg [] (c - 1) (fun g wx => ∃ q : Nat, 1 ≤ q ∧ q + g = c ∧ IsB w.heap.size w.heap.size (Lib.byteCells (zs q)) wx ∧ Below w.heap.size w wx)
  case atStart => exact ⟨1, Nat.le_refl _, by omega, H2, b02⟩
  case round =>
    obtain ⟨q, hq1, hqg, hB, hbx⟩ := hrel
    have hlq : (Lib.byteCells (zs q)).length = q := by rw [Lib.byteCells_length, List.length_replicate]
    have cLen := lenF_any w.heap.size w.heap.size _ wr hB
    rw [hlq] at cLen
    have HL := Lib.hid cLen
    have cStr := stringF_any w.heap.size w.heap.size (zs q) wr hB hbx.size
    obtain ⟨R, hR⟩ : ∃ R : ByteArray, (⟨(zs q).toArray⟩ : ByteArray) = R := ⟨_, rfl⟩
    have hRd : R.data.toList = zs q := by rw [← hR]
    have hRz : R.size = q := by have := congrArg List.length hRd; rw [Array.length_toList, List.length_replicate] at this; exact this
    rw [hR] at cStr
    have HT := Lib.hid cStr
    have HRd := Lib.hid hRd; have HR := Lib.hid hR; have HBX := Lib.hid hbx; have HLQ := Lib.hid hlq
    clear cLen cStr hRd hB hbx hlq H2 b02 hR
    cases gk with
    | zero =>
      obtain rfl : q = c := by omega
      have hQn : decide ((q : Int) < (q : Int)) = false := by simp
      go_wp2_with fail
      refine HL.out.mono ?_
      rintro e w' ⟨rfl, hw⟩
      rw [hw]
      clear hw
      go_wp2_with fail
      refine HT.out.mono ?_
      rintro e W3 ⟨rfl, h3, b3⟩
      have HB3 := Lib.hid (HBX.out.trans b3)
      clear h3 b3
      go_wp2_with fail
      go_ret
      exact ⟨by rw [HR.out]; rfl, HB3.out⟩
    | succ g =>
      have hQn : (q : Int) < (c : Int) := by omega
      obtain ⟨k, hk⟩ : ∃ k, min (c - q) q = k := ⟨_, rfl⟩
      have hmin3 : ∀ (ts : Array TypeId) (t : TypeId) (W : World), (Builtin.min_ ts t #[.int .i64 ((c : Int) - (q : Int)), .int .i64 (q : Int), .int .i64 (c : Int)]).run Tryz.prog W = .ok (.int .i64 (k : Int)) W := fun ts t W => by
        rw [min3_any]
        congr 2
        omega
      have v3 : IntKind.i64.wrap ((c : Int) - (q : Int)) = (c : Int) - (q : Int) := IntWalk.i64_in _ (by omega)
      have f1 : (k : Int) ≤ (R.size : Int) := by omega
      have f2 : k ≤ R.size := by omega
      have HK : Hid (min (c - q) q = k) := Lib.hid hk
      clear hk
      go_wp2_with fail
      refine HL.out.mono ?_
      rintro e w' ⟨rfl, hw⟩
      rw [hw]
      clear hw
      go_wp2_with fail
      refine HL.out.mono ?_
      rintro e w' ⟨rfl, hw⟩
      rw [hw]
      clear hw
      go_wp2_with fail
      refine HL.out.mono ?_
      rintro e w' ⟨rfl, hw⟩
      rw [hw]
      clear hw
      go_wp2_with fail
      refine HT.out.mono ?_
      rintro e W3 ⟨rfl, h3, b3⟩
      have hb3 := HBX.out.trans b3
      have HX : Hid ((R.extract 0 k).data.toList = zs k) := Lib.hid (by
        rw [Lib.extract_data, HRd.out]
        simp only [List.drop_zero, Nat.sub_zero, List.take_replicate]
        rw [Nat.min_eq_left (by have := HK.out; omega)])
      have hxz : (R.extract 0 k).size = k := by have := congrArg List.length HX.out; rw [Array.length_toList, List.length_replicate] at this; exact this
      have HW := Lib.hid (writeStringF_any w.heap.size w.heap.size _ (R.extract 0 k) W3 h3 (by rw [HLQ.out]; omega) hb3.size)
      have HB3 := Lib.hid hb3
      clear h3 b3 hb3 hxz
      go_wp2_with fail
      refine HW.out.mono ?_
      rintro e W4 ⟨rfl, h4, b4⟩
      have hb4 := HB3.out.trans b4
      have h5 : IsB w.heap.size w.heap.size (Lib.byteCells (zs (q + k))) W4 := by
        rw [strCells_eq, ← byteCells_append, HX.out, List.replicate_append_replicate] at h4
        exact h4
      clear h4 b4
      go_wp2_with fail
      go_roundg (c - (q + k))
      case measure => have := HK.out; omega
      case rel => exact ⟨q + k, by omega, by have := HK.out; omega, h5, hb4⟩
set_option maxRecDepth 100000 in
theorem repeatNone_any (S : ByteArray) (w : World) :
    Calls Tryz.prog 159 #[.string S, .int .i64 0] w fun e w' => e = .returned (.string ⟨#[]⟩) ∧ w' = w := by
  go_enter Tryz.func159, Tryz.ntmps159
  go_wp2_with fail
  go_ret
  exact ⟨rfl, rfl⟩
set_option maxRecDepth 100000 in
theorem repeatOne_any (S : ByteArray) (w : World) :
    Calls Tryz.prog 159 #[.string S, .int .i64 1] w fun e w' => e = .returned (.string S) ∧ w' = w := by
  go_enter Tryz.func159, Tryz.ntmps159
  go_wp2_with fail
  go_ret
  exact ⟨rfl, rfl⟩
/-- so many bytes 0 -/
theorem repeat_any (S : ByteArray) (hS : S.data.toList = [0]) (c : Nat) (w : World) (hc : c ≤ 32) :
    Calls Tryz.prog 159 #[.string S, .int .i64 (c : Int)] w fun e w' => e = .returned (.string ⟨(zs c).toArray⟩) ∧ Below w.heap.size w w' := by
  match c, hc with
  | 0, _ => exact (repeatNone_any S w).mono fun e w' ⟨he, hw⟩ => ⟨he, hw ▸ Below.refl _ _⟩
  | 1, _ => exact (repeatOne_any S w).mono fun e w' ⟨he, hw⟩ => ⟨by rw [he]; congr 2; exact ba_ext hS, hw ▸ Below.refl _ _⟩
  | c + 2, hc => exact repeatMany_any S hS (c + 2) w (by omega) hc
end Go.Proofs.YthalohloneojlaaGreatDoor
/- The word of 32 bytes (word.Unfixed), of bytes (word.Parse); a small one (word.Small); a number of bytes (num.Unbe). -/
namespace Go.Proofs.YthalohloneojlaaGreatDoor
open Go.RowKit Go.Shelf
set_option linter.unusedVariables false
set_option linter.unusedSimpArgs false

theorem results_cv {P : Program} {fn : Func} {p q : Tmp} {t : TypeId} (h : fn.results = #[.cell p t, .tmp q]) (tmps : Array Value) (w : World) (a : Addr) (x : Value) (hp : tmps.getD p undef = .pointer (some a))
    (hx : (loadVar t a).run P w = .ok x w) : (results fn tmps).run P w = .ok (.tuple #[x, tmps.getD q undef]) w := by
  have hp' : tmps[p]?.getD undef = .pointer (some a) := by simpa using hp
  simp [results, h, hp', asAddr, hx]
theorem u64_or_of (a b : Nat) (ha : a < 18446744073709551616) (hb : b < 18446744073709551616) : bits .or .u64 (a : Int) (b : Int) = ((a ||| b : Nat) : Int) := by
  have hx : a ||| b < 2 ^ 64 := Nat.or_lt_two_pow (by omega) (by omega)
  show IntKind.u64.wrap ((BitVec.ofInt 64 (a : Int) ||| BitVec.ofInt 64 (b : Int)).toNat : Int) = _
  rw [BitVec.toNat_or, BitVec.ofInt_natCast, BitVec.ofInt_natCast, BitVec.toNat_ofNat, BitVec.toNat_ofNat, Nat.mod_eq_of_lt (by omega), Nat.mod_eq_of_lt (by omega)]
  simp [IntKind.wrap, IntKind.bits, IntKind.signed]
  omega
theorem u64_wrap_of (x : Nat) (h : x < 18446744073709551616) : IntKind.u64.wrap (x : Int) = (x : Int) := by
  simp [IntKind.wrap, IntKind.bits, IntKind.signed]; omega
/-- a word's cells -/
def wordC (N : Nat) : Array Value := #[.int .u64 (wp N 0 : Nat), .int .u64 (wp N 1 : Nat), .int .u64 (wp N 2 : Nat), .int .u64 (wp N 3 : Nat)]
theorem wordC_cell {w : World} {g : Nat} {t : TypeId} {N : Nat} (h : Blk w g t (wordC N)) (q : Nat) (hq : q < 4) : w.cell? ⟨g, q, none⟩ = some (.int .u64 ((wp N q : Nat) : Int)) := by
  rw [h.cell]
  have : q = 0 ∨ q = 1 ∨ q = 2 ∨ q = 3 := by omega
  rcases this with rfl | rfl | rfl | rfl <;> rfl
theorem wordC_step (l : List UInt8) (m : Nat) (h : m < l.length) (hm : m < 32) : (wordC (lowN l m)).setIfInBounds (m / 8) (.int .u64 (wp (lowN l (m + 1)) (m / 8) : Nat)) = wordC (lowN l (m + 1)) := by
  have e : ∀ q, q ≠ m / 8 → wp (lowN l (m + 1)) q = wp (lowN l m) q := fun q hq => by rw [lowN_step l m q h, if_neg hq]
  have : m / 8 = 0 ∨ m / 8 = 1 ∨ m / 8 = 2 ∨ m / 8 = 3 := by omega
  unfold wordC
  rcases this with hq | hq | hq | hq
  all_goals
    rw [hq]
    rw [hq] at e
  · rw [e 1 (by omega), e 2 (by omega), e 3 (by omega)]; rfl
  · rw [e 0 (by omega), e 2 (by omega), e 3 (by omega)]; rfl
  · rw [e 0 (by omega), e 1 (by omega), e 3 (by omega)]; rfl
  · rw [e 0 (by omega), e 1 (by omega), e 2 (by omega)]; rfl

set_option maxRecDepth 100000 in
set_option maxHeartbeats 2000000 in
theorem unfixed_any (S : ByteArray) (hS : S.size = 32) (w : World) :
    Calls Tryz.prog 158 #[.string S] w fun e w' => e = .returned (.tuple #[.agg (wordC (beV S.data.toList)), .int .i64 0]) ∧ w.grownBy w' none := by
  obtain ⟨l, hl⟩ : ∃ l, S.data.toList = l := ⟨_, rfl⟩
  have hlz : l.length = 32 := by rw [← hl, Array.length_toList]; exact hS
  have hall : lowN l 32 = beV l := by rw [← hlz]; exact lowN_all l
  rw [hl, ← hall]
  have HS := Lib.hid hl
  clear hl hall
  have e0 : ((S.size : Int) != 32) = false := by simp; omega
  have hZ4 : Hid ((#[.int .u64 0, .int .u64 0, .int .u64 0, .int .u64 0] : Array Value) = wordC 0) := Lib.hid (by unfold wordC; rw [wp_zero, wp_zero, wp_zero, wp_zero]; rfl)
  have hB := Blk.new w 87 #[.int .u64 0, .int .u64 0, .int .u64 0, .int .u64 0]
  have hO := Blk.new (w.alloc (.cells #[.int .u64 0, .int .u64 0, .int .u64 0, .int .u64 0] 87)) 87 #[.int .u64 0, .int .u64 0, .int .u64 0, .int .u64 0]
  rw [World.size_alloc] at hO
  have hB := hB.alloc (.cells #[.int .u64 0, .int .u64 0, .int .u64 0, .int .u64 0] 87)
  have hG := only_alloc (only_alloc (World.grownBy.refl w none) (.cells #[.int .u64 0, .int .u64 0, .int .u64 0, .int .u64 0] 87)) (.cells #[.int .u64 0, .int .u64 0, .int .u64 0, .int .u64 0] 87)
  go_enter Tryz.func158, Tryz.ntmps158
  go_upto_region 4 with (fail)
  obtain ⟨b, hb⟩ : ∃ b, w.heap.size = b := ⟨_, rfl⟩
  rw [hb] at hB hO ⊢
  generalize (w.alloc (.cells #[.int .u64 0, .int .u64 0, .int .u64 0, .int .u64 0] 87)).alloc (.cells #[.int .u64 0, .int .u64 0, .int .u64 0, .int .u64 0] 87) = W1 at *
  rw [hZ4.out, ← lowN_zero l] at hO
  clear hZ4
  go_wp2_with fail
  go_loopw [10] (fun i wr => ∃ m : Nat, i = .int .i64 (m : Int) ∧ m ≤ 32 ∧ Blk wr (b + 1) 87 (wordC (lowN l m)) ∧ Blk wr b 87 #[.int .u64 0, .int .u64 0, .int .u64 0, .int .u64 0] ∧ w.grownBy wr none) (fun i _ => 32 - (intOf i).toNat)
  case atStart => exact ⟨0, rfl, by omega, hO, hB, hG⟩
  case round =>
    clear hO hB hG
    obtain ⟨m, rfl, hm, hO, hB, hG⟩ := hrel
    by_cases hlt : m < 32
    · obtain ⟨q, hq⟩ : ∃ q, m / 8 = q := ⟨_, rfl⟩
      obtain ⟨r8, hr8⟩ : ∃ r, m % 8 = r := ⟨_, rfl⟩
      obtain ⟨r, hr⟩ : ∃ r, r8 * 8 = r := ⟨_, rfl⟩
      obtain ⟨p, hp⟩ : ∃ p, 31 - m = p := ⟨_, rfl⟩
      have hst := wordC_step l m (by omega) hlt
      have hwz := lowN_step l m (m / 8) (by omega)
      rw [if_pos rfl, hr8, hr, hlz, show 32 - 1 - m = p by omega, hq] at hwz
      rw [hq] at hst
      have f2 := wordC_cell hO q (by omega)
      have f3 := hO.frozen q
      have hid := fun W => idx_str S p (l.getD p 0) (by rw [HS.out, List.getD_eq_getElem?_getD, List.getElem?_eq_getElem (by omega)]; rfl) W
      have hzl := wp_lt (lowN l (m + 1)) q
      have hvl := wp_lt (lowN l m) q
      have hrm := wp_room (lowN l m) m (lowN_lt l m)
      rw [hq, hr8, hr] at hrm
      obtain ⟨z, hz⟩ : ∃ z, wp (lowN l (m + 1)) q = z := ⟨_, rfl⟩
      obtain ⟨v, hv⟩ : ∃ v, wp (lowN l m) q = v := ⟨_, rfl⟩
      rw [hv] at hwz f2 hvl hrm
      rw [hz] at hwz hzl hst
      have hch := (l.getD p 0).toNat_lt
      obtain ⟨ch, hch2⟩ : ∃ ch, (l.getD p 0).toNat = ch := ⟨_, rfl⟩
      rw [hch2] at hwz hid hch
      have hadd := wp_or v ch r hrm
      obtain ⟨x, hx⟩ : ∃ x, ch * 2 ^ r = x := ⟨_, rfl⟩
      rw [hx] at hwz hadd
      have p8 : bits .or .u64 (v : Int) (x : Int) = (z : Int) := by rw [u64_or_of v x hvl (by omega), hwz]
      have p5 : IntKind.u64.wrap ((ch : Int) * 2 ^ r) = (x : Int) := by
        have : (ch : Int) * 2 ^ r = (x : Int) := by rw [← hx]; simp
        rw [this, u64_wrap_of x (by omega)]
      have p9 : IntKind.u64.wrap (ch : Int) = (ch : Int) := u64_wrap_of ch (by omega)
      have p1 : (m : Int).tdiv 8 = (q : Int) := by rw [Int.tdiv_eq_ediv_of_nonneg (by omega)]; omega
      have p2 : IntKind.i64.wrap (q : Int) = (q : Int) := IntWalk.i64_in _ (by omega)
      have p3 : (m : Int).tmod 8 = (r8 : Int) := by rw [Int.tmod_eq_emod_of_nonneg (by omega)]; omega
      have p4 : IntKind.i64.wrap ((r8 : Int) * 8) = (r : Int) := by rw [IntWalk.i64_in _ (by omega)]; omega
      have p6 : IntKind.i64.wrap (31 - (m : Int)) = (p : Int) := by rw [IntWalk.i64_in _ (by omega)]; omega
      have p7 : 31 - (m : Int) = (p : Int) := by omega
      have q1 : (q : Int) < 4 := by omega
      have q1' : q < 4 := by omega
      have q2 : (m : Int) < 32 := by omega
      have q3 : r < 64 := by omega
      have q4 : (p : Int) < 32 := by omega
      have q5 : (p : Int) < (S.size : Int) := by omega
      have q6 : p < S.size := by omega
      have p10 : IntKind.i64.wrap (p : Int) = (p : Int) := IntWalk.i64_in _ (by omega)
      have hgx : ((S[p]'q6).toNat : Int) = (ch : Int) := by
        have e2 : S.data[p]? = some (l.getD p 0) := by
          have : S.data.toList[p]? = some (l.getD p 0) := by rw [HS.out, List.getD_eq_getElem?_getD, List.getElem?_eq_getElem (by omega)]; rfl
          simpa using this
        obtain ⟨_, e3⟩ := Array.getElem?_eq_some_iff.1 e2
        have : S[p]'q6 = l.getD p 0 := e3
        rw [this, hch2]
      have HST := Lib.hid hst
      clear hq hr8 hr hst hwz hzl hvl hrm hz hv hch2 hadd hx hp
      have hO2 := hO.set_ q (.int .u64 (z : Int))
      rw [HST.out] at hO2
      go_wp2_with fail
      go_still_tail 15, (by kernel_rfl)
      clear p1 p2 p3 p4 p5 p6 p7 p8 p9 p10 hgx hid
      repeat go_step
      go_roundw
      case rel => exact ⟨m + 1, by go_num, by omega, hO2, hB.far (p := ⟨b + 1, q, none⟩) (by show b ≠ b + 1; omega) _, only_drew (only_set hG (p := ⟨b + 1, q, none⟩) (by show w.heap.size ≤ b + 1; omega) _)⟩
      case measure => simp [intOf]; omega
    · obtain rfl : m = 32 := by omega
      have hO' := hO
      unfold wordC at hO'
      have c0 := hO'.cell 0; have c1 := hO'.cell 1; have c2 := hO'.cell 2; have c3 := hO'.cell 3
      have d0 := hB.frozen 0; have d1 := hB.frozen 1; have d2 := hB.frozen 2; have d3 := hB.frozen 3
      have x0 := hB.cell 0; have x1 := hB.cell 1; have x2 := hB.cell 2; have x3 := hB.cell 3
      simp only [List.getElem?_toArray, List.getElem?_cons_zero, List.getElem?_cons_succ] at c0 c1 c2 c3 x0 x1 x2 x3
      have hG2 := only_set (only_set (only_set (only_set hG (p := ⟨b, 0, none⟩) (by show w.heap.size ≤ b; omega) (.int .u64 (wp (lowN l 32) 0 : Nat))) (p := ⟨b, 1, none⟩) (by show w.heap.size ≤ b; omega) (.int .u64 (wp (lowN l 32) 1 : Nat))) (p := ⟨b, 2, none⟩) (by show w.heap.size ≤ b; omega) (.int .u64 (wp (lowN l 32) 2 : Nat))) (p := ⟨b, 3, none⟩) (by show w.heap.size ≤ b; omega) (.int .u64 (wp (lowN l 32) 3 : Nat))
      have hB2 := (((hB.set_ 0 (.int .u64 (wp (lowN l 32) 0 : Nat))).set_ 1 (.int .u64 (wp (lowN l 32) 1 : Nat))).set_ 2 (.int .u64 (wp (lowN l 32) 2 : Nat))).set_ 3 (.int .u64 (wp (lowN l 32) 3 : Nat))
      have HG2 := Lib.hid hG2; have HB2 := Lib.hid hB2
      clear hG2 hB2
      go_wp2_with fail
      refine bodyPost_ret (results_cv (fn := Tryz.f158) rfl _ _ _ _ rfl (load_word HB2.out)) rfl ?_
      exact ⟨rfl, HG2.out⟩
end Go.Proofs.YthalohloneojlaaGreatDoor
/- The word of bytes (word.Parse). -/
namespace Go.Proofs.YthalohloneojlaaGreatDoor
open Go.RowKit Go.Shelf
set_option linter.unusedVariables false
set_option linter.unusedSimpArgs false

/-- the word that is read -/
def parseC (l : List UInt8) : Array Value := #[.int .u64 (parseP l 0 : Nat), .int .u64 (parseP l 1 : Nat), .int .u64 (parseP l 2 : Nat), .int .u64 (parseP l 3 : Nat)]
theorem parseC_bad {l : List UInt8} {E : Int} (h : parseE l = E) (h0 : E ≠ 0) : parseC l = #[.int .u64 0, .int .u64 0, .int .u64 0, .int .u64 0] := by
  have : ∀ q, parseP l q = 0 := fun q => if_neg (by rw [h]; exact h0)
  unfold parseC
  rw [this, this, this, this]; rfl
theorem parseC_good {l : List UInt8} (h : parseE l = 0) : parseC l = wordC (beV l) := by
  have : ∀ q, parseP l q = wp (beV l) q := fun q => if_pos h
  unfold parseC wordC
  rw [this, this, this, this]
theorem prefix_zero (l : List UInt8) : Lib.hasPrefix l [0] = decide (l.head? = some 0) := by
  cases l with
  | nil => rfl
  | cons a l =>
    show ((0 : UInt8) == a && List.isPrefixOf [] l) = _
    by_cases h : a = 0
    · subst h; simp
    · rw [decide_eq_false (by intro e; injection e with e; exact h e)]
      have : ((0 : UInt8) == a) = false := by rw [beq_eq_false_iff_ne]; exact fun e => h e.symm
      rw [this]; rfl

set_option maxRecDepth 100000 in
set_option maxHeartbeats 2000000 in
theorem parse_any (S : ByteArray) (hs : S.size ≤ 9223372036854775807) (w : World) :
    Calls Tryz.prog 146 #[.string S] w fun e w' => e = .returned (.tuple #[.agg (parseC S.data.toList), .int .i64 (parseE S.data.toList)]) ∧ w.grownBy w' none := by
  obtain ⟨l, hl⟩ : ∃ l, S.data.toList = l := ⟨_, rfl⟩
  have hlz : l.length = S.size := by rw [← hl, Array.length_toList]; rfl
  have hpre := fun V => hasPrefix_any S ⟨#[0]⟩ V
  rw [hl] at hpre ⊢
  have hpz : Lib.hasPrefix l [0] = decide (l.head? = some 0) := prefix_zero l
  have HS := Lib.hid hl
  clear hl
  have hB := Blk.new w 87 #[.int .u64 0, .int .u64 0, .int .u64 0, .int .u64 0]
  have hG := only_alloc (World.grownBy.refl w none) (.cells #[.int .u64 0, .int .u64 0, .int .u64 0, .int .u64 0] 87)
  have set4 : ∀ {V : World} (h : w.grownBy V none) (a c d e : Value), w.grownBy ((((V.setCell ⟨w.heap.size, 0, none⟩ a).setCell ⟨w.heap.size, 1, none⟩ c).setCell ⟨w.heap.size, 2, none⟩ d).setCell ⟨w.heap.size, 3, none⟩ e) none := fun h a c d e =>
    only_set (only_set (only_set (only_set h (p := ⟨w.heap.size, 0, none⟩) (Nat.le_refl _) a) (p := ⟨w.heap.size, 1, none⟩) (Nat.le_refl _) c) (p := ⟨w.heap.size, 2, none⟩) (Nat.le_refl _) d) (p := ⟨w.heap.size, 3, none⟩) (Nat.le_refl _) e
  by_cases h1 : 32 < S.size
  · have hE : parseE l = 5 := if_pos (by omega)
    rw [hE, parseC_bad hE (by decide)]
    have d1 : (32 : Int) < (S.size : Int) := by omega
    have HG2 := Lib.hid hG
    have HB2 := Lib.hid hB
    have c0 := hB.cell 0; have c1 := hB.cell 1; have c2 := hB.cell 2; have c3 := hB.cell 3
    have d0 := hB.frozen 0; have d1' := hB.frozen 1; have d2 := hB.frozen 2; have d3 := hB.frozen 3
    simp only [List.getElem?_toArray, List.getElem?_cons_zero, List.getElem?_cons_succ] at c0 c1 c2 c3
    clear hE hpre hpz hB hG set4
    go_enter Tryz.func146, Tryz.ntmps146
    go_wp2_with fail
    refine bodyPost_ret (results_cv (fn := Tryz.f146) rfl _ _ _ _ rfl (load_word HB2.out)) rfl ?_
    exact ⟨rfl, HG2.out⟩
  have d1 : decide ((32 : Int) < (S.size : Int)) = false := decide_eq_false (by omega)
  by_cases h2 : l.head? = some 0
  · have hE : parseE l = 8 := by unfold parseE; rw [if_neg (by omega), if_pos h2]
    rw [hE, parseC_bad hE (by decide)]
    rw [decide_eq_true h2] at hpz
    have HP : Hid (∀ V, Calls Tryz.prog 157 #[.string S, .string ⟨#[0]⟩] V fun e w' => e = .returned (.bool true) ∧ w' = V) := Lib.hid fun V => by
      have := hpre V
      rw [show (ByteArray.mk #[0]).data.toList = [0] from rfl, hpz] at this
      exact this
    have HG2 := Lib.hid hG
    have HB2 := Lib.hid hB
    have c0 := hB.cell 0; have c1 := hB.cell 1; have c2 := hB.cell 2; have c3 := hB.cell 3
    have d0 := hB.frozen 0; have d1' := hB.frozen 1; have d2 := hB.frozen 2; have d3 := hB.frozen 3
    simp only [List.getElem?_toArray, List.getElem?_cons_zero, List.getElem?_cons_succ] at c0 c1 c2 c3
    clear hE hpre hpz hB hG set4 h2
    go_enter Tryz.func146, Tryz.ntmps146
    go_wp2_with fail
    refine (HP.out _).mono ?_
    rintro e w2 ⟨rfl, rfl⟩
    go_wp2_with fail
    refine bodyPost_ret (results_cv (fn := Tryz.f146) rfl _ _ _ _ rfl (load_word HB2.out)) rfl ?_
    exact ⟨rfl, HG2.out⟩
  · have hE : parseE l = 0 := by unfold parseE; rw [if_neg (by omega), if_neg h2]
    rw [hE, parseC_good hE]
    rw [decide_eq_false h2] at hpz
    have HP : Hid (∀ V, Calls Tryz.prog 157 #[.string S, .string ⟨#[0]⟩] V fun e w' => e = .returned (.bool false) ∧ w' = V) := Lib.hid fun V => by
      have := hpre V
      rw [show (ByteArray.mk #[0]).data.toList = [0] from rfl, hpz] at this
      exact this
    obtain ⟨k, hk⟩ : ∃ k, 32 - S.size = k := ⟨_, rfl⟩
    obtain ⟨Z, hZ⟩ : ∃ Z : ByteArray, (⟨(zs k).toArray⟩ : ByteArray) = Z := ⟨_, rfl⟩
    have hZl : Z.data.toList = zs k := by rw [← hZ]
    have hZz : Z.size = k := by have := congrArg List.length hZl; rw [Array.length_toList, List.length_replicate] at this; exact this
    have HR : Hid (∀ V, Calls Tryz.prog 159 #[.string ⟨#[0]⟩, .int .i64 (k : Int)] V fun e w' => e = .returned (.string Z) ∧ V.grownBy w' none) := Lib.hid fun V => by
      refine (repeat_any ⟨#[0]⟩ rfl k V (by omega)).mono ?_
      rintro e w' ⟨he, hb⟩
      rw [hZ] at he
      exact ⟨he, grown_of_below hb⟩
    have hsum : (Z ++ S).size = 32 := by
      have := congrArg List.length (ba_toList Z S)
      rw [Array.length_toList, List.length_append, Array.length_toList, Array.length_toList] at this
      have e : (Z ++ S).size = Z.size + S.size := this
      omega
    have hval : beV (Z ++ S).data.toList = beV l := by rw [ba_toList, hZl, HS.out, beV_pad]
    have HU : Hid (∀ V, Calls Tryz.prog 158 #[.string (Z ++ S)] V fun e w' => e = .returned (.tuple #[.agg (wordC (beV l)), .int .i64 0]) ∧ V.grownBy w' none) := Lib.hid fun V => by
      have := unfixed_any (Z ++ S) hsum V
      rw [hval] at this
      exact this
    have v1 : IntKind.i64.wrap (32 - (S.size : Int)) = (k : Int) := by rw [IntWalk.i64_in _ (by omega)]; omega
    have HB := Lib.hid hB; have HG := Lib.hid hG
    have SET := Lib.hid (fun (V : World) h a c d e => @set4 V h a c d e)
    clear hE hpre hpz hB hG set4 h2 hval hsum hZ hZl
    go_enter Tryz.func146, Tryz.ntmps146
    go_wp2_with fail
    refine (HP.out _).mono ?_
    rintro e w2 ⟨rfl, rfl⟩
    go_wp2_with fail
    refine (HR.out _).mono ?_
    rintro e w3 ⟨rfl, hg3⟩
    have HB3 := Lib.hid (HB.out.grown hg3 (by simp)); have HG3 := Lib.hid (grown_self HG.out hg3 (by simp))
    clear hg3 HB HG HR
    go_wp2_with fail
    refine (HU.out _).mono ?_
    rintro e w4 ⟨rfl, hg4⟩
    have hB := HB3.out.grown hg4 (by simp)
    have HG2 := Lib.hid (SET.out w4 (grown_self HG3.out hg4 (by simp)) (.int .u64 (wp (beV l) 0 : Nat)) (.int .u64 (wp (beV l) 1 : Nat)) (.int .u64 (wp (beV l) 2 : Nat)) (.int .u64 (wp (beV l) 3 : Nat)))
    have HB2 := Lib.hid ((((hB.set_ 0 (.int .u64 (wp (beV l) 0 : Nat))).set_ 1 (.int .u64 (wp (beV l) 1 : Nat))).set_ 2 (.int .u64 (wp (beV l) 2 : Nat))).set_ 3 (.int .u64 (wp (beV l) 3 : Nat)))
    have c0 := hB.cell 0; have c1 := hB.cell 1; have c2 := hB.cell 2; have c3 := hB.cell 3
    have d0 := hB.frozen 0; have d1' := hB.frozen 1; have d2 := hB.frozen 2; have d3 := hB.frozen 3
    simp only [List.getElem?_toArray, List.getElem?_cons_zero, List.getElem?_cons_succ] at c0 c1 c2 c3
    clear hg4 HB3 HG3 HU SET hB
    unfold wordC
    go_wp2_with fail
    refine bodyPost_ret (results_cv (fn := Tryz.f146) rfl _ _ _ _ rfl (load_word HB2.out)) rfl ?_
    exact ⟨rfl, HG2.out⟩
end Go.Proofs.YthalohloneojlaaGreatDoor
/- Two words compared; a small word (word.Small); a number of bytes (num.Unbe). -/
namespace Go.Proofs.YthalohloneojlaaGreatDoor
open Go.RowKit Go.Shelf
set_option linter.unusedVariables false
set_option linter.unusedSimpArgs false

def wv (x : Nat) : Value := .int .u64 (x : Int)
theorem all_range_eqN : ∀ (xs ys : List Nat), xs.length = ys.length → ((List.range xs.length).all fun i => xs.getD i 0 == ys.getD i 0) = (xs == ys)
  | [], [], _ => rfl
  | x :: xs, y :: ys, h => by
    have ih := all_range_eqN xs ys (by simpa using h)
    rw [List.length_cons, List.range_succ_eq_map, List.all_cons, List.all_map]
    simp only [List.getD_cons_zero, Function.comp_def, List.getD_cons_succ, ih]
    simp [List.cons_beq_cons]
  | [], _ :: _, h => by simp at h
  | _ :: _, [], h => by simp at h
section
variable {P : Program} (w : World)
theorem run_equalIn_words (d : Nat) (t e : TypeId) (n : Nat) (ht : P.underlying t = some (.array n e)) (he : P.underlying e = some (.int .u64)) (hsz : ∀ w, (sizeOf e).run P w = .ok 1 w)
    (xs ys : List Nat) (hx : xs.length = n) (hy : ys.length = n) :
    (Op.equalIn (d + 2) t (.agg (xs.map wv).toArray) (.agg (ys.map wv).toArray)).run P w = .ok (xs == ys) w := by
  rw [← all_range_eqN xs ys (hx.trans hy.symm), hx, List.range_eq_range', Op.equalIn]
  simp only [Sem.run_bind, run_underlying ht, Result.andThen_ok, hsz, Std.Legacy.Range.forIn_eq_forIn_range', Std.Legacy.Range.size, Nat.sub_zero, Nat.add_sub_cancel, Nat.div_one]
  have hl : ∀ i ∈ List.range' 0 n 1, i < n := fun i hi => by simpa using (List.mem_range'_1.1 hi).2
  generalize List.range' 0 n 1 = l at hl ⊢
  induction l with
  | nil => simp
  | cons i l ih =>
    have hi : i < n := hl i (by simp)
    have px : (part e (xs.map wv).toArray (i * 1)).run P w = .ok (wv (xs.getD i 0)) w := by
      simp [part, isAgg, run_underlying he, List.getD, List.getElem?_eq_getElem (show i < xs.length by omega)]
    have py : (part e (ys.map wv).toArray (i * 1)).run P w = .ok (wv (ys.getD i 0)) w := by
      simp [part, isAgg, run_underlying he, List.getD, List.getElem?_eq_getElem (show i < ys.length by omega)]
    have pe : (Op.equalIn (d + 1) e (wv (xs.getD i 0)) (wv (ys.getD i 0))).run P w = .ok (xs.getD i 0 == ys.getD i 0) w := by
      rw [wv, wv, run_equalIn_int w d e .u64 .u64 _ _ he]
      congr 1
      rw [Bool.eq_iff_iff]
      simp
      omega
    simp only [List.forIn_cons, Sem.run_bind, px, py, pe, Result.andThen_ok, List.all_cons]
    cases hb : (xs.getD i 0 == ys.getD i 0)
    · simp
    · simp only [Bool.not_true, Bool.false_eq_true, if_false, Sem.run_pure, Result.andThen_ok, Bool.true_and]
      exact ih fun j hj => hl j (by simp [hj])
end
theorem size_u64w (w : World) : (sizeOf 22).run Tryz.prog w = .ok 1 w := by kernel_rfl
/-- a word is itself -/
theorem eq_word (a b c d : Nat) (w : World) : (Op.equalIn 10000 87 (.agg #[.int .u64 (a : Int), .int .u64 (b : Int), .int .u64 (c : Int), .int .u64 (d : Int)]) (.agg #[.int .u64 (a : Int), .int .u64 (b : Int), .int .u64 (c : Int), .int .u64 (d : Int)])).run Tryz.prog w = .ok true w := by
  have := run_equalIn_words (P := Tryz.prog) w 9998 87 22 4 (by kernel_rfl) (by kernel_rfl) size_u64w [a, b, c, d] [a, b, c, d] rfl rfl
  rw [beq_self_eq_true] at this
  exact this

theorem exec_loadW {W : World} {a : Act} {o : Oper} {b off : Nat} {x0 x1 x2 x3 : Value} (x : Operand) (ho : o.op = .load 87 x) (hx : a.eval x = .pointer (some ⟨b, off, none⟩))
    (c0 : W.cell? ⟨b, off, none⟩ = some x0) (c1 : W.cell? ⟨b, off + 1, none⟩ = some x1) (c2 : W.cell? ⟨b, off + 2, none⟩ = some x2) (c3 : W.cell? ⟨b, off + 3, none⟩ = some x3) :
    (execOp a.eval o).run Tryz.prog W = .ok (.value (.agg #[x0, x1, x2, x3])) W := by
  have hagg := Tryz.isAgg87
  have hsz := Tryz.sizeOf87
  unfold execOp
  simp only [ho, hx]
  simp [go_sem, c0, c1, c2, c3, hagg, hsz]
section
variable {P : Program} {ops : Array Oper} {C : World → Prop} {Q : Act → Prop} {a : Act} {o : Oper} {rest : List Oper}
theorem wpQuiet_loadW (v : Value) (ty : TypeId) (x : Operand) (p : Addr) (d : TypeDesc) (ho : o.op = .load ty x) (hw : Region.wanted o (yielded ops a.tmps) = true) (hx : a.eval x = .pointer (some p))
    (hu : P.underlying ty = some d) (hd : (match d with | .struct _ | .array _ _ => true | _ => false) = false) (hc : ∀ W, C W → W.cell? p = some v) (hk : wpQuiet P ops C Q rest (a.put o.dst v)) : wpQuiet P ops C Q (o :: rest) a :=
  wpQuiet_value hw v (fun W hW => by
    unfold execOp
    simp only [ho, hx, Instr.loadAt, Instr.sureAddr, Sem.run_bind, Sem.run_pure, Result.andThen_ok, load_cell hu hd (hc W hW)]) hk
end

theorem exec_neqW {W : World} {a : Act} {o : Oper} (x y : Operand) (t : TypeId) (ho : o.op = .binOp .neq 87 x y t) {u v : Array Value} (hx : a.eval x = .agg u) (hy : a.eval y = .agg v) {r : Bool}
    (he : (Op.equalIn 10000 87 (.agg u) (.agg v)).run Tryz.prog W = .ok r W) : (execOp a.eval o).run Tryz.prog W = .ok (.value (.bool (!r))) W := by
  unfold execOp
  simp only [ho, hx, hy]
  simp [go_sem, run_neq_struct, he]

set_option maxRecDepth 100000 in
set_option maxHeartbeats 1000000 in
theorem small_any (n : Nat) (w : World) :
    Calls Tryz.prog 147 #[.agg #[.int .u64 (n : Int), .int .u64 0, .int .u64 0, .int .u64 0]] w fun e w' => e = .returned (.tuple #[.int .u64 (n : Int), .bool true]) ∧ w.grownBy w' none := by
  have hB := Blk.new w 87 #[.int .u64 (n : Int), .int .u64 0, .int .u64 0, .int .u64 0]
  have hG := only_alloc (World.grownBy.refl w none) (.cells #[.int .u64 (n : Int), .int .u64 0, .int .u64 0, .int .u64 0] 87)
  have hEq := fun W => eq_word n 0 0 0 W
  have HOf := Lib.hid (fun V => of_any n V)
  go_enter Tryz.func147, Tryz.ntmps147
  go_upto_region 1 with (fail)
  obtain ⟨b, hb⟩ : ∃ b, w.heap.size = b := ⟨_, rfl⟩
  rw [hb] at hB ⊢
  generalize w.alloc (.cells #[.int .u64 (n : Int), .int .u64 0, .int .u64 0, .int .u64 0] 87) = W1 at *
  have c0 := hB.cell 0; have c1 := hB.cell 1; have c2 := hB.cell 2; have c3 := hB.cell 3
  simp only [List.getElem?_toArray, List.getElem?_cons_zero, List.getElem?_cons_succ] at c0 c1 c2 c3
  have hC0 : (fun V => Below W1.heap.size W1 V) W1.drew := ⟨rfl, rfl, rfl, Nat.le_refl _, fun _ _ => rfl⟩
  refine wp_region_class (fun V => Below W1.heap.size W1 V) (by kernel_rfl) (by kernel_rfl) hC0 ?_
  have hcc := class_const hC0
  have hlb := hB.lt
  have hr0 : ∀ V, Below W1.heap.size W1 V → V.cell? ⟨b, 0, none⟩ = some (.int .u64 (n : Int)) := fun V hV => (hV.cell (p := ⟨b, 0, none⟩) hlb).trans c0
  have hr1 : ∀ V, Below W1.heap.size W1 V → V.cell? ⟨b, 1, none⟩ = some (.int .u64 0) := fun V hV => (hV.cell (p := ⟨b, 1, none⟩) hlb).trans c1
  have hr2 : ∀ V, Below W1.heap.size W1 V → V.cell? ⟨b, 2, none⟩ = some (.int .u64 0) := fun V hV => (hV.cell (p := ⟨b, 2, none⟩) hlb).trans c2
  have hr3 : ∀ V, Below W1.heap.size W1 V → V.cell? ⟨b, 3, none⟩ = some (.int .u64 0) := fun V hV => (hV.cell (p := ⟨b, 3, none⟩) hlb).trans c3
  clear c1 c2 c3
  (try simp only [Act.put])
  refine wpQuiet_value rfl (.agg #[.int .u64 (n : Int), .int .u64 0, .int .u64 0, .int .u64 0]) (fun V hV => exec_loadW _ rfl rfl (hr0 V hV) (hr1 V hV) (hr2 V hV) (hr3 V hV)) ?_
  simp only [Act.put, List.setIfInBounds_toArray, List.set_cons_zero, List.set_cons_succ]
  go_big_quiet_step (fail)
  refine wpQuiet_loadW _ 22 _ ⟨b, 0, none⟩ _ rfl rfl rfl Tryz.underlying22 rfl hr0 ?_
  simp only [Act.put, List.setIfInBounds_toArray, List.set_cons_zero, List.set_cons_succ]
  refine wpQuiet_enter rfl (.agg #[.int .u64 (n : Int), .int .u64 ((0 : Nat) : Int), .int .u64 ((0 : Nat) : Int), .int .u64 ((0 : Nat) : Int)]) 76 #[.int .u64 (n : Int)] (fun V hV => exec_call1 _ (.tmp 6) _ rfl _ rfl rfl) (fun V hV => (HOf.out V).mono fun e w' ⟨he, hgg⟩ => ⟨he, below_of_grown (grown_self (grown_of_below hV) hgg (by simp))⟩) ?_
  simp only [Act.put, List.setIfInBounds_toArray, List.set_cons_zero, List.set_cons_succ]
  refine wpQuiet_value rfl (.bool (!true)) (fun V hV => exec_neqW _ _ _ rfl rfl rfl (hEq V)) ?_
  simp only [Act.put, List.setIfInBounds_toArray, List.set_cons_zero, List.set_cons_succ, Bool.not_true]
  refine wpQuiet_nil ?_
  intro w8 hw8
  have HG8 := Lib.hid (grown_self hG (grown_of_below hw8) (by simp))
  have c0' := hr0 w8 hw8
  clear hcc hC0 hr0 hr1 hr2 hr3 hw8 c0 hEq
  go_wp2_with fail
  go_ret2
  exact ⟨rfl, HG8.out⟩

/-- a number's bytes, read -/
def unbeE (l : List UInt8) : Int := if 8 < l.length then 5 else parseE l
def unbeN (l : List UInt8) : Nat := if 8 < l.length then 0 else parseP l 0
theorem parseC_short {l : List UInt8} (h : l.length ≤ 8) : parseC l = #[.int .u64 (parseP l 0 : Nat), .int .u64 0, .int .u64 0, .int .u64 0] := by
  have hlt : beV l < 2 ^ 64 := Nat.lt_of_lt_of_le (beV_lt l) (by rw [show (2 : Nat) ^ 64 = 256 ^ 8 from rfl]; exact Nat.pow_le_pow_right (by omega) h)
  have key : ∀ q, 1 ≤ q → parseP l q = 0 := fun q hq => by
    unfold parseP
    split
    · unfold wp
      rw [Nat.div_eq_of_lt (Nat.lt_of_lt_of_le hlt (Nat.pow_le_pow_right (by omega) (by omega)))]
    · rfl
  unfold parseC
  rw [key 1 (by omega), key 2 (by omega), key 3 (by omega)]; rfl

set_option maxRecDepth 100000 in
set_option maxHeartbeats 1000000 in
theorem unbe_any (S : ByteArray) (hs : S.size ≤ 9223372036854775807) (w : World) :
    Calls Tryz.prog 130 #[.string S] w fun e w' => e = .returned (.tuple #[.int .u64 (unbeN S.data.toList : Nat), .int .i64 (unbeE S.data.toList)]) ∧ w.grownBy w' none := by
  have hlz : S.data.toList.length = S.size := Array.length_toList
  by_cases h1 : 8 < S.size
  · have d1 : (8 : Int) < (S.size : Int) := by omega
    rw [show unbeN S.data.toList = 0 from if_pos (by omega), show unbeE S.data.toList = 5 from if_pos (by omega)]
    clear hlz h1
    go_enter Tryz.func130, Tryz.ntmps130
    go_wp2_with fail
    go_ret2
    exact ⟨rfl, World.grownBy.refl _ _⟩
  · have d1 : decide ((8 : Int) < (S.size : Int)) = false := decide_eq_false (by omega)
    rw [show unbeN S.data.toList = parseP S.data.toList 0 from if_neg (by omega), show unbeE S.data.toList = parseE S.data.toList from if_neg (by omega)]
    have hp := fun V => parse_any S hs V
    rw [parseC_short (by omega)] at hp
    generalize parseP S.data.toList 0 = n at *
    generalize parseE S.data.toList = E at *
    have HP := Lib.hid hp
    have HSm := Lib.hid (fun V => small_any n V)
    clear hp hlz h1
    go_enter Tryz.func130, Tryz.ntmps130
    go_wp2_with fail
    refine (HP.out _).mono ?_
    rintro e w2 ⟨rfl, hg2⟩
    have hB := Blk.new w2 87 #[.int .u64 (n : Int), .int .u64 0, .int .u64 0, .int .u64 0]
    have hG := Lib.hid (only_alloc hg2 (.cells #[.int .u64 (n : Int), .int .u64 0, .int .u64 0, .int .u64 0] 87))
    clear hg2 HP
    go_upto_region 4 with (fail)
    obtain ⟨b, hb⟩ : ∃ b, w2.heap.size = b := ⟨_, rfl⟩
    rw [hb] at hB ⊢
    clear hb
    generalize w2.alloc (.cells #[.int .u64 (n : Int), .int .u64 0, .int .u64 0, .int .u64 0] 87) = W1 at *
    have c0 := hB.cell 0; have c1 := hB.cell 1; have c2 := hB.cell 2; have c3 := hB.cell 3
    simp only [List.getElem?_toArray, List.getElem?_cons_zero, List.getElem?_cons_succ] at c0 c1 c2 c3
    go_wp2_with fail
    refine (HSm.out _).mono ?_
    rintro e w3 ⟨rfl, hg3⟩
    have HG := Lib.hid (grown_self hG.out hg3 (by simp))
    clear hg3 c0 c1 c2 c3 hB
    go_wp2_with fail
    go_ret2
    exact ⟨rfl, HG.out⟩
end Go.Proofs.YthalohloneojlaaGreatDoor
