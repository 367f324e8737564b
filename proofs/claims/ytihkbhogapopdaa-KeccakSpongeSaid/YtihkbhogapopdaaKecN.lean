/- Both Pads: what they answer. -/
import Derived.Test.YtihkbhogapopdaaKecM
import Derived.Laws.IdiomStrings
import Derived.Deep.MidRow
namespace Go.Proofs.Ytihkbhogapopdaa
open Go.RowKit Go.Shelf

/-- bytes as a row of cells -/
def bytesC (l : List UInt8) : Array Value := (l.map fun b => Value.int .u8 (b.toNat : Int)).toArray
theorem bytesC_cell {w : World} {g : Nat} {t : TypeId} {l : List UInt8} (h : Blk w g t (bytesC l)) (i : Nat) (hi : i < l.length) : w.cell? ⟨g, i, none⟩ = some (.int .u8 ((l.getD i 0).toNat : Int)) := by
  rw [Blk.cell h i]
  unfold bytesC
  simp only [List.getElem?_toArray, List.getElem?_map, List.getElem?_eq_getElem hi, List.getD_eq_getElem?_getD]
  rfl
theorem bytesC_set {w : World} {g : Nat} {t : TypeId} {l : List UInt8} (h : Blk w g t (bytesC l)) (i : Nat) (x : UInt8) : Blk (w.setCell ⟨g, i, none⟩ (.int .u8 (x.toNat : Int))) g t (bytesC (l.set i x)) := by
  have := Blk.set_ h i (.int .u8 (x.toNat : Int))
  unfold bytesC at this ⊢
  rw [List.map_set]
  simpa using this
theorem bytesC_setI (l : List UInt8) (i : Nat) (x : UInt8) : (bytesC l).setIfInBounds i (.int .u8 (x.toNat : Int)) = bytesC (l.set i x) := by
  unfold bytesC
  rw [List.map_set]
  simp
theorem bytesC_get (l : List UInt8) (i : Nat) (hi : i < l.length) : (bytesC l)[i]? = some (.int .u8 ((l.getD i 0).toNat : Int)) := by
  unfold bytesC
  simp only [List.getElem?_toArray, List.getElem?_map, List.getElem?_eq_getElem hi, List.getD_eq_getElem?_getD]
  rfl
def padL (m : Nat) : List UInt8 := if m = 1 then [129] else 1 :: List.replicate (m - 2) 0 ++ [128]

theorem make_u8 (m : Nat) (hm : m ≤ 1000000) (w : World) : (Instr.makeSlice 43 (.int .i64 (m : Int)) (.int .i64 (m : Int))).run Try.prog w =
    .ok (.slice (some ⟨w.heap.size, 0, none⟩) m m) (w.alloc (.cells (bytesC (List.replicate m 0)) 5)) := by
  have hs : (Try.prog.info? 5).isSome = true := by kernel_rfl
  obtain ⟨i, hi⟩ := Option.isSome_iff_exists.1 hs
  have hb : (Try.prog.info? 5).map (·.bytes) = some 1 := by kernel_rfl
  have hsz : (Try.prog.info? 5).map (·.size) = some 1 := by kernel_rfl
  have hz : (Try.prog.info? 5).bind (·.zero) = some (.int .u8 0) := by kernel_rfl
  rw [hi] at hb hsz hz
  simp only [Option.map_some, Option.some.injEq, Option.bind_some] at hb hsz hz
  have hmk := run_make_rowN (P := Try.prog) 43 5 i _ (by kernel_rfl) hi hz .i64 .i64 m m (Nat.le_refl _) (by rw [hb]; omega) (by omega) w
  rw [hmk, hsz]
  congr 3
  refine Array.ext_getElem? fun j => ?_
  by_cases hj : j < m
  · simp [madeCells, bytesC, hj, Value.cells, Nat.mod_one]
  · rw [Array.getElem?_eq_none (by simp [madeCells]; omega), Array.getElem?_eq_none (by simp [bytesC]; omega)]

set_option maxRecDepth 100000 in
set_option maxHeartbeats 1000000 in
theorem pad_any (n : Nat) (hn : n ≤ 1099511627776) (w : World) :
    Calls Try.prog 12 #[.int .i64 (n : Int)] w fun e w' => e = .returned (.tuple #[.string ⟨(padL (136 - n % 136)).toArray⟩, .int .i64 0]) ∧ w.grownBy w' none := by
  obtain ⟨m, hm⟩ : ∃ m, 136 - n % 136 = m := ⟨_, rfl⟩
  have hm1 : 1 ≤ m := by omega
  have hm2 : m ≤ 136 := by omega
  have p1 : (n : Int).tmod 136 = ((n % 136 : Nat) : Int) := by rw [Int.tmod_eq_emod_of_nonneg (by omega)]; omega
  have p2 : IntKind.i64.wrap (136 - ((n % 136 : Nat) : Int)) = (m : Int) := by rw [IntWalk.i64_in _ (by omega)]; omega
  have hmk := make_u8 m (by omega) w
  generalize hq : n % 136 = q at *
  obtain ⟨L1, hL1⟩ : ∃ l, (List.replicate m (0 : UInt8)).set 0 1 = l := ⟨_, rfl⟩
  have hl1 : L1.length = m := by rw [← hL1]; simp
  obtain ⟨v, hv⟩ : ∃ v, L1.getD (m - 1) 0 = v := ⟨_, rfl⟩
  obtain ⟨r, hr⟩ : ∃ r : UInt8, v ||| 128 = r := ⟨_, rfl⟩
  obtain ⟨L2, hL2⟩ : ∃ l, L1.set (m - 1) r = l := ⟨_, rfl⟩
  have hl2 : L2.length = m := by rw [← hL2]; simpa using hl1
  have hv01 : (m = 1 ∧ v = 1) ∨ (m ≠ 1 ∧ v = 0) := by
    rw [← hv, ← hL1]
    by_cases h : m = 1
    · subst h; exact .inl ⟨rfl, rfl⟩
    · refine .inr ⟨h, ?_⟩
      rw [List.getD_eq_getElem?_getD, List.getElem?_set_ne (by omega), List.getElem?_replicate, if_pos (by omega)]
      rfl
  have hpad : padL m = L2 := by
    unfold padL
    rw [← hL2, ← hL1]
    rcases hv01 with ⟨h, hv1⟩ | ⟨h, hv0⟩
    · subst h; rw [← hr, hv1]; rfl
    · rw [if_neg h, ← hr, hv0]
      obtain ⟨k, rfl⟩ : ∃ k, m = k + 2 := ⟨m - 2, by omega⟩
      rw [List.replicate_succ, List.set_cons_zero, show k + 2 - 1 = k + 1 by omega, List.set_cons_succ, show k + 2 - 2 = k by omega, List.replicate_succ', List.set_append_right _ _ (by simp)]
      simp
  have s1 : (bytesC (List.replicate m 0)).setIfInBounds 0 (Value.int .u8 1) = bytesC L1 := by
    rw [← hL1]; exact bytesC_setI _ 0 1
  have s2 : (bytesC L1).setIfInBounds (m - 1) (Value.int .u8 (r.toNat : Int)) = bytesC L2 := by
    rw [← hL2]; exact bytesC_setI _ _ _
  have c1 : (bytesC (List.replicate m 0))[0]? = some (Value.int .u8 0) := by
    rw [bytesC_get _ 0 (by simp; omega), List.getD_eq_getElem?_getD, List.getElem?_replicate, if_pos (by omega)]
    rfl
  have c2 : (bytesC L1)[m - 1]? = some (Value.int .u8 (v.toNat : Int)) := by
    rw [bytesC_get _ _ (by omega), hv]
  have hor : bits .or .u8 (v.toNat : Int) 128 = (r.toNat : Int) := by
    rcases hv01 with ⟨_, h⟩ | ⟨_, h⟩ <;> · rw [← hr, h]; decide
  have hcv := run_convert_bytes_back (P := Try.prog) (w.alloc (.cells (bytesC L2) 5)) 43 9 5 ⟨w.heap.size, 0, none⟩ m L2 (by kernel_rfl) (by kernel_rfl) (by kernel_rfl) (fun j hj => by
    have := bytesC_cell (Blk.new w 5 (bytesC L2)) j hj
    rw [Addr.add_mid, Nat.zero_add, this, List.getD_eq_getElem?_getD, List.getElem?_eq_getElem hj]
    rfl)
  rw [hl2] at hcv
  rw [hm, hpad]
  clear hpad hL1 hL2 hv hr hv01
  go_enter Try.func12, Try.ntmps12
  go_wp2_with fail
  go_ret2
  exact ⟨rfl, only_alloc (World.grownBy.refl _ _) _⟩

theorem pad_bad (n : Int) (hn : n < 0 ∨ 1099511627776 < n) (w : World) :
    Calls Try.prog 12 #[.int .i64 n] w fun e w' => e = .returned (.tuple #[.string ⟨#[]⟩, .int .i64 1]) ∧ w' = w := by
  have hb : (decide (n < 0) || decide (1099511627776 < n)) = true := by simpa using hn
  go_enter Try.func12, Try.ntmps12
  by_cases h : n < 0
  · go_wp2_with fail
    go_ret2
    exact ⟨rfl, rfl⟩
  · have h2 : 1099511627776 < n := by omega
    go_wp2_with fail
    go_ret2
    exact ⟨rfl, rfl⟩
end Go.Proofs.Ytihkbhogapopdaa
