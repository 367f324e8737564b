/- strings.Join with nothing between. -/
import Derived.Test.YtdflihfecfmpfaaDoorTxt
import Derived.Test.YtdflihfecfmpfaaDoorBytes
import Derived.Test.YtdflihfecfmpfaaDoorBuilder
import Derived.Shelf.Strings.Builder2
namespace Go.Proofs.YtdflihfecfmpfaaDoor
open Go.RowKit Go.Shelf

def growRen : Go.Shelf.Ren := ⟨fun | 241 => 57 | 277 => 62 | n => n, fun | 70 => 37 | 9 => 9 | 0 => 0 | 72 => 40 | 37 => 38 | 127 => 62 | 3 => 3 | 5 => 5 | n => n, fun | n => n⟩
theorem growLays : Go.Proofs.Lays.n241 Tryd.prog growRen := {
  mixed := by kernel_rfl
  f241 := Tryd.func57.trans (congrArg some (by kernel_rfl))
  f277 := Tryd.func62.trans (congrArg some (by kernel_rfl))
  t0 := Tryd.underlying0
  a0 := Tryd.isAgg0
  z0 := Tryd.sizeOf0
  v0 := Tryd.zeroValue0
  t3 := Tryd.underlying3
  a3 := Tryd.isAgg3
  z3 := Tryd.sizeOf3
  v3 := Tryd.zeroValue3
  t37 := Tryd.underlying38
  a37 := Tryd.isAgg38
  z37 := Tryd.sizeOf38
  v37 := Tryd.zeroValue38
  t70 := Tryd.underlying37
  a70 := Tryd.isAgg37
  z70 := Tryd.sizeOf37
  v70 := Tryd.zeroValue37
  t72 := Tryd.underlying40
  a72 := Tryd.isAgg40
  z72 := Tryd.sizeOf40
  v72 := Tryd.zeroValue40 }
theorem growExtra : Builder.Extra Tryd.prog growRen := {
  sizeBuilder := by kernel_rfl
  liesBuilder := by kernel_rfl
  t5 := Tryd.underlying5
  a5 := Tryd.isAgg5
  z5 := Tryd.sizeOf5
  v5 := Tryd.zeroValue5
  infoByte := by kernel_rfl
  cellsByte := by kernel_rfl
  sizeByte := by kernel_rfl
  neB5 := by decide }

abbrev BAt (B b : Nat) (p : Value) (bs : List Value) (w : World) : Prop := Lib.BuilderAt 40 5 B b p bs w

theorem growInner_any (B b n : Nat) (w : World) (hB : B ≤ b) (hbk : w.heap[b]? = some (.cells #[.pointer (some ⟨b, 0, none⟩), .slice none 0 0] 40 (0, 0))) (hBw : B ≤ w.heap.size) (hn : n ≤ 281474976710656) :
    Calls Tryd.prog 57 #[.pointer (some ⟨b, 0, none⟩), .int .i64 n] w fun e w' => e = .returned (.tuple #[]) ∧ (BAt B b (.pointer (some ⟨b, 0, none⟩)) [] w' ∧ Below B w w') := Any.Builder_grow_fresh growLays growExtra B b n w hB hbk hBw hn

set_option maxRecDepth 100000 in
set_option maxHeartbeats 1000000 in
theorem grow_any (b n : Nat) (w : World) (hbk : w.heap[b]? = some (.cells #[.pointer none, .slice none 0 0] 40 (0, 0))) (hn : n ≤ 281474976710656) :
    Calls Tryd.prog 50 #[.pointer (some ⟨b, 0, none⟩), .int .i64 n] w fun e w' => e = .returned (.tuple #[]) ∧ (BAt b b (.pointer (some ⟨b, 0, none⟩)) [] w' ∧ Below b w w') := by
  have hlt : b < w.heap.size := (Array.getElem?_eq_some_iff.1 hbk).1
  go_enter Tryd.func50, Tryd.ntmps50
  go_wp2_with fail
  refine (copyFresh_any b w (by rw [Lib.cell_of_heap hbk]; rfl) (by simp [World.shape?, hbk]) (Lib.frozen_of_heap hbk 0)).mono ?_
  rintro e w1 ⟨rfl, hw1⟩
  have hbk1 : w1.heap[b]? = some (.cells #[.pointer (some ⟨b, 0, none⟩), .slice none 0 0] 40 (0, 0)) := by
    rw [hw1]; simp [World.setCell, Array.getElem?_modify, hbk]
  have hb1 : Below b w w1 := by rw [hw1]; exact (Below.refl b w).setCell (p := ⟨b, 0, none⟩) (Nat.le_refl _) _
  have hz1 : b ≤ w1.heap.size := by have := hb1.size; omega
  have c1 : w1.cell? ⟨b, 1, none⟩ = some (.slice none 0 0) := by rw [Lib.cell_of_heap hbk1]; rfl
  have hd := fun q => growInner_any b b n (w1.drewN q) (Nat.le_refl _) hbk1 hz1 hn
  clear hw1 hbk
  by_cases h0 : 0 < n
  · have d1 : decide ((0 : Int) < (n : Int)) = true := by simpa using h0
    go_wp2_with fail
    go_quiet (fail)
    have hd2 := hd nq
    clear hd
    go_wp2_with fail
    refine hd2.mono ?_
    rintro e w2 ⟨rfl, h2, hb2⟩
    go_wp2_with fail
    go_end0
    exact ⟨rfl, h2, (below_drewN hb1 nq).trans hb2⟩
  · have hn0 : n = 0 := by omega
    subst hn0
    go_wp2_with fail
    go_quiet (fail)
    go_wp2_with fail
    go_end0
    exact ⟨rfl, ⟨Nat.le_refl _, .slice none 0 0, hbk1, World.ownsRow_nil _ _ _ _, by simp [Value.ownBlock]⟩, below_drewN hb1 nq⟩

theorem Reads.vals {α : Type} (f : α → Value) (d : α) {w : World} {B n k : Nat} {A : Option Addr} {xs : List α} (h : Reads w B 1 A n (xs.map f)) (hk : k < n) :
    ∃ b off, A = some ⟨b, off, none⟩ ∧ b < B ∧ ∀ j, j < n → w.cell? ⟨b, off + j, none⟩ = some (f (xs.getD j d)) := by
  have hl := h.1
  simp at hl
  have key : ∀ j, j < n → (xs.map f)[j]? = some (f (xs.getD j d)) := by
    intro j hj
    rw [List.getElem?_map, List.getElem?_eq_getElem (by omega), List.getD_eq_getElem?_getD, List.getElem?_eq_getElem (by omega)]
    rfl
  obtain ⟨ad, rfl, hb, hc⟩ := h.2 (by omega)
  have h0 := hc 0 _ (key 0 (by omega))
  have e : ad = ⟨ad.block, ad.off, none⟩ := lit_of_cell (a := ad) (by simpa [Addr.add] using h0)
  refine ⟨ad.block, ad.off, by rw [← e], hb, fun j hj => ?_⟩
  have := hc j _ (key j hj)
  rw [e] at this
  unfold Addr.add at this
  by_cases hj0 : j = 0
  · subst hj0; simpa using this
  · simpa [hj0] using this

/-- the texts, one behind the other -/
def catB (xs : List ByteArray) : List UInt8 := xs.flatMap (·.data.toList)
theorem catB_snoc (xs : List ByteArray) (x : ByteArray) : catB (xs ++ [x]) = catB xs ++ x.data.toList := by simp [catB]
theorem catB_take (xs : List ByteArray) (k : Nat) (hk : k < xs.length) : catB (xs.take (k + 1)) = catB (xs.take k) ++ (xs.getD k .empty).data.toList := by
  rw [List.take_succ_eq_append_getElem hk, catB_snoc, List.getD_eq_getElem?_getD, List.getElem?_eq_getElem hk]; rfl
theorem catB_le (xs : List ByteArray) (k : Nat) : (catB (xs.take k)).length ≤ (catB xs).length := by
  have h : catB xs = catB (xs.take k) ++ catB (xs.drop k) := by unfold catB; rw [← List.flatMap_append, List.take_append_drop]
  rw [h, List.length_append]; omega
theorem ba_of (s : ByteArray) : (⟨s.data.toList.toArray⟩ : ByteArray) = s := ba_ext (by simp)

set_option maxRecDepth 100000 in
set_option maxHeartbeats 1000000 in
theorem joinMany_any (B : Nat) (A : Option Addr) (n c : Nat) (xs : List ByteArray) (w : World) (hB : B ≤ w.heap.size) (h : Reads w B 1 A n (xs.map Value.string)) (h2 : 2 ≤ n) (hnm : n ≤ 1000000) (hnc : n ≤ c) (hlen : (catB xs).length ≤ 140737488355328) :
    Calls Tryd.prog 37 #[.slice A n c, .string .empty] w fun e w' => e = .returned (.string ⟨(catB xs).toArray⟩) ∧ Below w.heap.size w w' := by
  have hl : xs.length = n := by simpa using h.1
  obtain ⟨b, off, rfl, hbb, hc⟩ := h.vals Value.string .empty (k := 0) (by omega)
  have hne0 : ((n : Int) == 0) = false := beq_eq_false_iff_ne.2 (by omega)
  have hne1 : ((n : Int) == 1) = false := beq_eq_false_iff_ne.2 (by omega)
  have HL := Lib.hid hl; clear hl h
  have HC := Lib.hid hc; clear hc
  have HLEN := Lib.hid hlen; clear hlen
  go_enter Tryd.func37, Tryd.ntmps37
  go_wp2_with fail
  go_loop [5, 41] (fun s i => ∃ k : Nat, k ≤ n ∧ i = .int .i64 (k : Int) ∧ s = .int .i64 ((catB (xs.take k)).length : Int)) (fun _ i => n - (intOf i).toNat)
  case atStart => exact ⟨0, Nat.zero_le _, rfl, rfl⟩
  case round =>
    obtain ⟨k, hk, rfl, rfl⟩ := hrel
    by_cases hlt : k < n
    · have hck := HC.out k hlt
      have hst := catB_take xs k (by have := HL.out; omega)
      have hle := catB_le xs (k + 1)
      have hst2 : (catB (xs.take (k + 1))).length = (catB (xs.take k)).length + (xs.getD k .empty).size := by rw [hst, List.length_append, ba_len]
      clear hst
      obtain ⟨x, hx⟩ : ∃ x, xs.getD k .empty = x := ⟨_, rfl⟩
      rw [hx] at hck hst2
      have hlen := HLEN.out
      obtain ⟨S1, hS1⟩ : ∃ q, (catB (xs.take (k + 1))).length = q := ⟨_, rfl⟩
      rw [hS1] at hle hst2
      have HS1 := Lib.hid hS1
      clear hS1 hx
      generalize (catB (xs.take k)).length = S at *
      generalize (catB xs).length = T at *
      go_wp2_with fail
      go_round
      case rel => exact ⟨k + 1, by omega, by simp, by rw [HS1.out, hst2]; simp⟩
      case measure => simp [intOf]; omega
    · have hk2 : k = n := by omega
      have ht : xs.take k = xs := List.take_of_length_le (by have := HL.out; omega)
      rw [ht]
      have hfin : decide ((k : Int) < (n : Int)) = false := by simp; omega
      have hfin2 : decide (k < n) = false := by simp; omega
      clear ht hk2 hlt hk
      obtain ⟨T, hT⟩ : ∃ q, (catB xs).length = q := ⟨_, rfl⟩
      have hTl : T ≤ 140737488355328 := by rw [← hT]; exact HLEN.out
      rw [hT]
      clear hT
      have hn0 : w.heap[w.heap.size]? = none := by simp
      have hb0 : Below w.heap.size w (w.alloc (.cells #[.pointer none, .slice none 0 0] 40)) := (Below.refl _ w).alloc (Nat.le_refl _) _
      have hbk0 := heap_alloc_new w (.cells #[.pointer none, .slice none 0 0] 40)
      go_wp2_with fail
      generalize w.alloc (.cells #[.pointer none, .slice none 0 0] 40) = w1 at *
      refine (grow_any w.heap.size T w1 hbk0 (by omega)).mono ?_
      rintro e w2 ⟨rfl, h2b, hb2⟩
      have hb2' := hb0.trans hb2
      clear hb2 hb0 hbk0
      have hc0 : w2.cell? ⟨b, off, none⟩ = some (.string (xs.getD 0 .empty)) := by
        rw [hb2'.cell (p := ⟨b, off, none⟩) (by show b < w.heap.size; omega)]
        exact HC.out 0 (by omega)
      obtain ⟨x0, hx0⟩ : ∃ x, xs.getD 0 .empty = x := ⟨_, rfl⟩
      rw [hx0] at hc0
      have hs1 : catB (xs.take 1) = x0.data.toList := by rw [catB_take xs 0 (by have := HL.out; omega), hx0]; simp [catB]
      have hs1l := catB_le xs 1
      rw [hs1, ba_len] at hs1l
      have HS1 := Lib.hid hs1; clear hs1 hx0
      have hx0l : x0.size ≤ 140737488355328 := by have := HLEN.out; omega
      clear hs1l
      have hc1 : ¬ c = 1 := by omega
      go_wp2_with fail
      refine (writeString_any w.heap.size w.heap.size [] x0 w2 (.inr h2b) (by simpa using hx0l) hb2'.size).mono ?_
      rintro e w3 ⟨rfl, h3b, hb3⟩
      have hb3' := hb2'.trans hb3
      rw [List.nil_append, strCells_eq, ← HS1.out] at h3b
      clear h2b hb2' hb3 hc0
      go_wp2_with fail
      go_loopw [65] (fun i wr => ∃ k : Nat, k ≤ n - 1 ∧ i = .int .i64 (k : Int) ∧ Lib.IsBuilder 40 5 w.heap.size w.heap.size (Lib.byteCells (catB (xs.take (k + 1)))) wr ∧ Below w.heap.size w wr) (fun i _ => n - 1 - (intOf i).toNat)
      case atStart => exact ⟨0, Nat.zero_le _, rfl, h3b, hb3'⟩
      case round =>
        clear h3b hb3' hx0l
        obtain ⟨k, hk, rfl, hb, hbel⟩ := hrel
        have hsz := hbel.size
        by_cases hlt : k < n - 1
        · have hck : wr.cell? ⟨b, off + 1 + k, none⟩ = some (.string (xs.getD (k + 1) .empty)) := by
            rw [hbel.cell (p := ⟨b, off + 1 + k, none⟩) (by show b < w.heap.size; omega), show off + 1 + k = off + (k + 1) by omega]
            exact HC.out (k + 1) (by omega)
          have hst := catB_take xs (k + 1) (by have := HL.out; omega)
          have hle := catB_le xs (k + 1 + 1)
          have hlen := HLEN.out
          obtain ⟨x, hx⟩ : ∃ x, xs.getD (k + 1) .empty = x := ⟨_, rfl⟩
          rw [hx] at hck hst
          have hst2 : (catB (xs.take (k + 1))).length + x.size ≤ 140737488355328 := by rw [hst, List.length_append, ba_len] at hle; omega
          have hst3 : Lib.byteCells (catB (xs.take (k + 1 + 1))) = Lib.byteCells (catB (xs.take (k + 1))) ++ Lib.strCells x := by rw [hst, byteCells_append, strCells_eq]
          have HS := Lib.hid hst3
          clear hst hst3 hle hlen hx
          have hz0 : (Lib.byteCells (catB (xs.take (k + 1)))).length + (ByteArray.empty).size ≤ 140737488355328 := by rw [Lib.byteCells_length]; show _ + 0 ≤ _; omega
          have hz1 : (Lib.byteCells (catB (xs.take (k + 1)))).length + x.size ≤ 140737488355328 := by rw [Lib.byteCells_length]; omega
          go_wp2_with fail
          refine (writeString_any w.heap.size w.heap.size _ .empty wr hb hz0 hsz).mono ?_
          rintro e w4 ⟨rfl, h4, hb4⟩
          have hbel4 := hbel.trans hb4
          have he0 : Lib.strCells .empty = [] := rfl
          rw [he0, List.append_nil] at h4
          have hck4 : w4.cell? ⟨b, off + 1 + k, none⟩ = some (.string x) := (hb4.cell (p := ⟨b, off + 1 + k, none⟩) (by show b < w.heap.size; omega)).trans hck
          clear hb hbel hck hb4 hz0
          go_wp2_with fail
          refine (writeString_any w.heap.size w.heap.size _ x w4 h4 hz1 hbel4.size).mono ?_
          rintro e w5 ⟨rfl, h5, hb5⟩
          have hbel5 := hbel4.trans hb5
          rw [← HS.out] at h5
          clear h4 hbel4 hb5 hck4
          go_wp2_with fail
          go_roundw
          case rel => exact ⟨k + 1, by omega, by simp, h5, hbel5⟩
          case measure => simp [intOf]; omega
        · have hk2 : k + 1 = n := by omega
          have ht : xs.take (k + 1) = xs := List.take_of_length_le (by have := HL.out; omega)
          rw [ht] at hb
          have hfin3 : decide ((k : Int) < (n : Int) - 1) = false := by simp; omega
          clear ht hk2
          go_wp2_with fail
          refine (builderString_any w.heap.size w.heap.size _ wr hb (by omega)).mono ?_
          rintro e w4 ⟨rfl, hb4⟩
          go_wp2_with fail
          go_ret
          exact ⟨rfl, hbel.trans hb4⟩

set_option maxRecDepth 100000 in
theorem joinNone_any (A : Option Addr) (c : Nat) (w : World) :
    Calls Tryd.prog 37 #[.slice A 0 c, .string .empty] w fun e w' => e = .returned (.string ⟨#[]⟩) ∧ Below w.heap.size w w' := by
  go_enter Tryd.func37, Tryd.ntmps37
  go_wp2_with fail
  go_ret
  exact ⟨rfl, Below.refl _ _⟩

set_option maxRecDepth 100000 in
theorem joinOne_any (B : Nat) (A : Option Addr) (c : Nat) (x : ByteArray) (w : World) (h : Reads w B 1 A 1 [.string x]) :
    Calls Tryd.prog 37 #[.slice A 1 c, .string .empty] w fun e w' => e = .returned (.string x) ∧ Below w.heap.size w w' := by
  obtain ⟨b, off, rfl, hbb, hc⟩ := Reads.vals (xs := [x]) Value.string .empty h (k := 0) (by omega)
  have hck : w.cell? ⟨b, off, none⟩ = some (.string x) := hc 0 (by omega)
  clear hc
  go_enter Tryd.func37, Tryd.ntmps37
  go_wp2_with fail
  go_ret
  exact ⟨rfl, Below.refl _ _⟩

/-- the texts of a row, one behind the other -/
theorem join_any (B : Nat) (A : Option Addr) (n c : Nat) (xs : List ByteArray) (w : World) (hB : B ≤ w.heap.size) (h : Reads w B 1 A n (xs.map Value.string)) (hnm : n ≤ 1000000) (hnc : n ≤ c) (hlen : (catB xs).length ≤ 140737488355328) :
    Calls Tryd.prog 37 #[.slice A n c, .string .empty] w fun e w' => e = .returned (.string ⟨(catB xs).toArray⟩) ∧ Below w.heap.size w w' := by
  have hl : xs.length = n := by simpa using h.1
  match xs, hl with
  | [], hl => subst hl; exact joinNone_any A c w
  | [x], hl =>
    subst hl
    refine (joinOne_any B A c x w h).mono fun e w' ⟨he, hb⟩ => ⟨?_, hb⟩
    rw [he]; exact congrArg _ (congrArg _ (ba_ext (by simp [catB])))
  | x :: y :: r, hl => exact joinMany_any B A n c _ w hB h (by simp at hl; omega) hnm hnc hlen
end Go.Proofs.YtdflihfecfmpfaaDoor
