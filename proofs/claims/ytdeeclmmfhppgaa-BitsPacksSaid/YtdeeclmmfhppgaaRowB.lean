/- Rows of numbers: bits.Row, the document's Row. -/
import Derived.Test.YtdeeclmmfhppgaaVar
import Derived.Test.YtdeeclmmfhppgaaBuilder
namespace Go.Proofs.Ytdeeclmmfhppgaa
open Go.RowKit Go.Shelf

theorem BuilderAt.grown_ {T e : TypeId} {B b : Nat} {p : Value} {bs : List Value} {w w' : World} (h : Lib.BuilderAt T e B b p bs w) (hg : w.grownBy w' none) : Lib.BuilderAt T e B b p bs w' := by
  have hlt := h.lt
  obtain ⟨hB, v, hb, hown, hne⟩ := h
  exact ⟨hB, v, (hg.block b hlt (by simp)).trans hb, hown.kept hg (Classical.em _), hne⟩
theorem IsBuilder.grown_ {T e : TypeId} {B b : Nat} {bs : List Value} {w w' : World} (h : Lib.IsBuilder T e B b bs w) (hg : w.grownBy w' none) : Lib.IsBuilder T e B b bs w' := h.elim (fun h => .inl (BuilderAt.grown_ h hg)) (fun h => .inr (BuilderAt.grown_ h hg))

def rowL (xs : List Int) : List UInt8 := xs.flatMap fun x => varL x.toNat
theorem rowL_snoc (xs : List Int) (x : Int) : rowL (xs ++ [x]) = rowL xs ++ varL x.toNat := by simp [rowL]
theorem rowL_len (xs : List Int) : (rowL xs).length ≤ 10 * xs.length := by
  unfold rowL
  induction xs with
  | nil => simp
  | cons x xs ih =>
    have := varF_len 10 x.toNat
    simp only [List.flatMap_cons, List.length_append, List.length_cons]
    unfold varL at *
    omega
theorem take_next {α : Type} [Inhabited α] (xs : List α) (k : Nat) (hk : k < xs.length) (d : α) : xs.take (k + 1) = xs.take k ++ [xs.getD k d] := by
  rw [List.take_succ_eq_append_getElem hk, List.getD_eq_getElem?_getD, List.getElem?_eq_getElem hk]; rfl

set_option maxRecDepth 100000 in
set_option maxHeartbeats 1000000 in
theorem row_any (B : Nat) (A : Option Addr) (n c : Nat) (xs : List Int) (w : World) (hB : B ≤ w.heap.size) (h : Reads w B 1 A n (xs.map (Value.int .u64))) (hwf : ∀ x ∈ xs, 0 ≤ x ∧ x ≤ 18446744073709551615) (hn : n ≤ 100000) :
    Calls Try.prog 13 #[.slice A n c] w fun e w' => e = .returned (.string ⟨(rowL xs).toArray⟩) ∧ Below w.heap.size w w' := by
  have hl : xs.length = n := by simpa using h.1
  have HL := Lib.hid hl; clear hl
  go_enter Try.func13, Try.ntmps13
  have b0 := builder_new w
  have hb0 : Below w.heap.size w (w.alloc (.cells #[.pointer none, .slice none 0 0] 47)) := (Below.refl _ w).alloc (Nat.le_refl _) _
  go_wp2_with fail
  generalize w.alloc (.cells #[.pointer none, .slice none 0 0] 47) = w1 at *
  go_loopw [8] (fun i wr => ∃ k : Nat, i = .int .i64 (k : Int) ∧ k ≤ n ∧ Lib.IsBuilder 47 5 w.heap.size w.heap.size (Lib.byteCells (rowL (xs.take k))) wr ∧ Below w.heap.size w wr) (fun i _ => n - (intOf i).toNat)
  case atStart => exact ⟨0, rfl, by omega, b0, hb0⟩
  case round =>
    clear b0 hb0
    obtain ⟨k, rfl, hk, hb, hbel⟩ := hrel
    have hsz := hbel.size
    by_cases hlt : k < n
    · obtain ⟨b, off, rfl, hbb, hc⟩ := (h.below (hbel.mono hB)).ints hlt
      have hck := hc k hlt
      have hx := hwf (xs.getD k 0) (by rw [List.getD_eq_getElem?_getD, List.getElem?_eq_getElem (by have := HL.out; omega)]; exact List.getElem_mem _)
      have hst : rowL (xs.take (k + 1)) = rowL (xs.take k) ++ varL (xs.getD k 0).toNat := by rw [take_next xs k (by have := HL.out; omega) 0, rowL_snoc]
      have hlen := rowL_len (xs.take k)
      rw [List.length_take] at hlen
      generalize xs.getD k 0 = x at *
      obtain ⟨z, rfl⟩ := Int.eq_ofNat_of_zero_le hx.1
      rw [Int.toNat_natCast] at hst
      have hvl := varF_len 10 z
      obtain ⟨vb, hvb⟩ : ∃ v : ByteArray, (⟨(varL z).toArray⟩ : ByteArray) = v := ⟨_, rfl⟩
      have hvz : vb.size ≤ 10 := by rw [← hvb]; show (varL z).toArray.size ≤ 10; simpa [varL] using hvl
      have hvar := var_any z (by omega) wr
      rw [hvb] at hvar
      have hst2 : Lib.byteCells (rowL (xs.take (k + 1))) = Lib.byteCells (rowL (xs.take k)) ++ Lib.strCells vb := by rw [hst, byteCells_append, strCells_eq, ← hvb]
      have HS := Lib.hid hst2
      clear hst hst2 hvb hvl hc hx
      go_wp2_with fail
      refine hvar.mono ?_
      rintro e w2 ⟨rfl, hg2⟩
      have hb2 := IsBuilder.grown_ hb hg2
      have hbel2 : Below w.heap.size w w2 := hbel.trans ((below_of_grown hg2).mono hsz)
      clear hvar hb hg2 hck
      go_wp2_with fail
      refine (writeString_any w.heap.size w.heap.size _ vb w2 hb2 (by rw [Lib.byteCells_length]; omega) (by have := hbel2.size; omega)).mono ?_
      rintro e w3 ⟨rfl, hb3, hbel3⟩
      rw [← HS.out] at hb3
      have hbel4 : Below w.heap.size w w3 := hbel2.trans hbel3
      clear hb2 hbel2 hbel3 hbel
      go_wp2_with fail
      go_roundw
      case rel => exact ⟨k + 1, by simp, by omega, hb3, hbel4⟩
      case measure => simp [intOf]; omega
    · have hk2 : k = n := by omega
      have ht : xs.take k = xs := List.take_of_length_le (by have := HL.out; omega)
      rw [ht] at hb
      have hfin : decide ((k : Int) < (n : Int)) = false := by simp; omega
      have hfin2 : decide (k < n) = false := by simp; omega
      clear ht hk2
      go_wp2_with fail
      refine (builderString_any w.heap.size w.heap.size _ wr hb (by omega)).mono ?_
      rintro e w2 ⟨rfl, hbel2⟩
      go_wp2_with fail
      go_ret
      exact ⟨rfl, hbel.trans hbel2⟩

set_option maxRecDepth 100000 in
set_option maxHeartbeats 1000000 in
theorem rowR_any (B : Nat) (A : Option Addr) (n c : Nat) (xs : List Int) (w : World) (hB : B ≤ w.heap.size) (h : Reads w B 1 A n (xs.map (Value.int .u64))) (hwf : ∀ x ∈ xs, 0 ≤ x ∧ x ≤ 18446744073709551615) (hn : n ≤ 100000) :
    Calls Try.prog 10 #[.slice A n c] w fun e w' => e = .returned (.string ⟨(rowL xs).toArray⟩) ∧ Below w.heap.size w w' := by
  have hl : xs.length = n := by simpa using h.1
  have HL := Lib.hid hl; clear hl
  go_enter Try.func10, Try.ntmps10
  go_wp2_with fail
  go_loopw [3, 4] (fun s i wr => ∃ (k : Nat) (sb : ByteArray), i = .int .i64 (k : Int) ∧ s = .string sb ∧ k ≤ n ∧ Hid (sb.data.toList = rowL (xs.take k)) ∧ sb.size ≤ 10 * k ∧ Below w.heap.size w wr) (fun _ i _ => n - (intOf i).toNat)
  case atStart => exact ⟨0, ⟨#[]⟩, rfl, rfl, by omega, rfl, by show 0 ≤ 0; omega, Below.refl _ _⟩
  case round =>
    obtain ⟨k, sb, rfl, rfl, hk, hs, hsz0, hbel⟩ := hrel
    have hsz := hbel.size
    by_cases hlt : k < n
    · obtain ⟨b, off, rfl, hbb, hc⟩ := (h.below (hbel.mono hB)).ints hlt
      have hck := hc k hlt
      have hx := hwf (xs.getD k 0) (by rw [List.getD_eq_getElem?_getD, List.getElem?_eq_getElem (by have := HL.out; omega)]; exact List.getElem_mem _)
      have hst : rowL (xs.take (k + 1)) = rowL (xs.take k) ++ varL (xs.getD k 0).toNat := by rw [take_next xs k (by have := HL.out; omega) 0, rowL_snoc]
      generalize xs.getD k 0 = x at *
      obtain ⟨z, rfl⟩ := Int.eq_ofNat_of_zero_le hx.1
      rw [Int.toNat_natCast] at hst
      have hvl := varF_len 10 z
      obtain ⟨vb, hvb⟩ : ∃ v : ByteArray, (⟨(varL z).toArray⟩ : ByteArray) = v := ⟨_, rfl⟩
      have hvz : vb.size ≤ 10 := by rw [← hvb]; show (varL z).toArray.size ≤ 10; simpa [varL] using hvl
      have hvar := varR_any z (by omega) wr
      rw [hvb] at hvar
      obtain ⟨tb, htb⟩ : ∃ t : ByteArray, sb ++ vb = t := ⟨_, rfl⟩
      have hst2 : tb.data.toList = rowL (xs.take (k + 1)) := by rw [hst, ← htb, ba_toList, hs.out, ← hvb]
      have htz : tb.size = sb.size + vb.size := by rw [← ba_len, ← htb, ba_toList, List.length_append, ba_len, ba_len]
      have HS := Lib.hid hst2
      have HTZ := Lib.hid htz
      clear hst hst2 hvb hvl hc hx hs htz
      go_wp2_with fail
      refine hvar.mono ?_
      rintro e w2 ⟨rfl, hg2⟩
      have hbel2 : Below w.heap.size w w2 := hbel.trans ((below_of_grown hg2).mono hsz)
      clear hvar hg2 hck hbel
      go_wp2_with fail
      go_roundw
      case rel => exact ⟨k + 1, tb, by simp, rfl, by omega, HS.out, by have := HTZ.out; omega, hbel2⟩
      case measure => simp [intOf]; omega
    · have ht : xs.take k = xs := List.take_of_length_le (by have := HL.out; omega)
      rw [ht] at hs
      have hfin : decide ((k : Int) < (n : Int)) = false := by simp; omega
      have hfin2 : decide (k < n) = false := by simp; omega
      clear ht
      go_wp2_with fail
      go_ret
      refine ⟨?_, hbel⟩
      rw [← hs.out]
      rfl
end Go.Proofs.Ytdeeclmmfhppgaa
