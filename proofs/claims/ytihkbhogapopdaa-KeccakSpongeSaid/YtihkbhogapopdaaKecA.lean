/- Package keccak's leaves: math/bits.RotateLeft64; 64-bit numbers as bit vectors. -/
import Derived.Test.YtihkbhogapopdaaRound
namespace Go.Proofs.Ytihkbhogapopdaa
open Go.RowKit Go.Shelf

/-- a 64-bit number as a value -/
def u64v (x : BitVec 64) : Value := .int .u64 (x.toNat : Int)
theorem ofInt_toNat (x : BitVec 64) : BitVec.ofInt 64 (x.toNat : Int) = x := by
  rw [BitVec.ofInt_natCast, BitVec.ofNat_toNat]; simp
theorem wrap_toNat (x : BitVec 64) : IntKind.u64.wrap (x.toNat : Int) = (x.toNat : Int) := by
  have := x.isLt
  simp [IntKind.wrap, IntKind.bits, IntKind.signed]
  omega
theorem bx (x y : BitVec 64) : bits .xor .u64 (x.toNat : Int) (y.toNat : Int) = ((x ^^^ y).toNat : Int) := by
  show IntKind.u64.wrap ((BitVec.ofInt 64 (x.toNat : Int) ^^^ BitVec.ofInt 64 (y.toNat : Int)).toNat : Int) = _
  rw [ofInt_toNat, ofInt_toNat, wrap_toNat]
theorem ba (x y : BitVec 64) : bits .and .u64 (x.toNat : Int) (y.toNat : Int) = ((x &&& y).toNat : Int) := by
  show IntKind.u64.wrap ((BitVec.ofInt 64 (x.toNat : Int) &&& BitVec.ofInt 64 (y.toNat : Int)).toNat : Int) = _
  rw [ofInt_toNat, ofInt_toNat, wrap_toNat]
theorem bo (x y : BitVec 64) : bits .or .u64 (x.toNat : Int) (y.toNat : Int) = ((x ||| y).toNat : Int) := by
  show IntKind.u64.wrap ((BitVec.ofInt 64 (x.toNat : Int) ||| BitVec.ofInt 64 (y.toNat : Int)).toNat : Int) = _
  rw [ofInt_toNat, ofInt_toNat, wrap_toNat]

theorem rotl_any (x : BitVec 64) (k : Nat) (hk : k < 64) (w : World) :
    Calls Try.prog 27 #[.int .u64 (x.toNat : Int), .int .i64 (k : Int)] w fun e w' => e = .returned (.int .u64 ((x.rotateLeft k).toNat : Int)) ∧ w = w' := by
  have h0 : (0 : Int) ≤ (x.toNat : Int) := by omega
  have h1 : (x.toNat : Int) ≤ 18446744073709551615 := by have := x.isLt; omega
  have hm : bits .and .u64 (k : Int) 63 = (k : Int) := by
    have := u64_and_nat k 63 (by omega) (by omega)
    rw [nat_mask6] at this
    rw [show ((63 : Nat) : Int) = 63 from rfl] at this
    rw [this]; omega
  go_enter Try.func27, Try.ntmps27
  go_wp2_with fail
  go_ret
  refine ⟨?_, rfl⟩
  have e1 : IntKind.u64.wrap ((x.toNat : Int) * 2 ^ k) = ((x <<< k).toNat : Int) := by
    rw [BitVec.toNat_shiftLeft, Nat.shiftLeft_eq]
    simp [IntKind.wrap, IntKind.bits, IntKind.signed]
  have e2 : (x.toNat : Int) / 2 ^ (64 - k) = ((x >>> (64 - k)).toNat : Int) := by
    rw [BitVec.toNat_ushiftRight, Nat.shiftRight_eq_div_pow]
    simp
  have e3 : x.rotateLeft k = x <<< k ||| x >>> (64 - k) := by
    rw [BitVec.rotateLeft_def, Nat.mod_eq_of_lt hk]
  show Ending.returned (.int .u64 (bits .or .u64 (IntKind.u64.wrap ((x.toNat : Int) * 2 ^ k)) ((x.toNat : Int) / 2 ^ (64 - k)))) = _
  rw [e1, e2, bo, e3]

theorem rotl_same (x : BitVec 64) (k : Nat) (hk : k < 64) (w : World) :
    Calls Try.prog 27 #[.int .u64 (x.toNat : Int), .int .i64 (k : Int)] w fun e w' => e = .returned (.int .u64 ((x.rotateLeft k).toNat : Int)) ∧ w' = w :=
  (rotl_any x k hk w).mono fun _ _ ⟨h, e⟩ => ⟨h, e.symm⟩

theorem rotl1_same (x r : BitVec 64) (h : x.rotateLeft 1 = r) (w : World) :
    Calls Try.prog 27 #[.int .u64 (x.toNat : Int), .int .i64 1] w fun e w' => e = .returned (.int .u64 (r.toNat : Int)) ∧ w' = w := by
  rw [← h]; exact rotl_same x 1 (by omega) w
theorem rotlk_same (x r : BitVec 64) (k : Nat) (hk : k < 64) (h : x.rotateLeft k = r) (w : World) :
    Calls Try.prog 27 #[.int .u64 (x.toNat : Int), .int .i64 (k : Int)] w fun e w' => e = .returned (.int .u64 (r.toNat : Int)) ∧ w' = w := by
  rw [← h]; exact rotl_same x k hk w
theorem bx_is (x y z : BitVec 64) (h : x ^^^ y = z) : bits .xor .u64 (x.toNat : Int) (y.toNat : Int) = (z.toNat : Int) := by rw [← h]; exact bx x y
theorem ba_is (x y z : BitVec 64) (h : x &&& y = z) : bits .and .u64 (x.toNat : Int) (y.toNat : Int) = (z.toNat : Int) := by rw [← h]; exact ba x y

/-! Lanes in a block of memory. -/
def Lanes (W : World) (b : Nat) (t : TypeId) (l : List (BitVec 64)) : Prop := Blk W b t (l.map u64v).toArray
section
variable {W W' : World} {b : Nat} {t : TypeId} {l : List (BitVec 64)}
theorem Lanes.lt (h : Lanes W b t l) : b < W.heap.size := Blk.lt h
theorem Lanes.cell (h : Lanes W b t l) {i : Nat} (hi : i < l.length) : W.cell? ⟨b, i, none⟩ = some (.int .u64 ((l.getD i 0).toNat : Int)) := by
  rw [Blk.cell h i]
  simp only [List.getElem?_toArray, List.getElem?_map, List.getElem?_eq_getElem hi, List.getD_eq_getElem?_getD]
  rfl
theorem Lanes.frozen (h : Lanes W b t l) (i : Nat) : W.frozen? ⟨b, i, none⟩ = false := Blk.frozen h i
theorem Lanes.set (h : Lanes W b t l) (i : Nat) (x : BitVec 64) : Lanes (W.setCell ⟨b, i, none⟩ (.int .u64 (x.toNat : Int))) b t (l.set i x) := by
  have := Blk.set_ h i (.int .u64 (x.toNat : Int))
  unfold Lanes
  rw [List.map_set]
  simpa [u64v] using this
theorem Lanes.far (h : Lanes W b t l) {p : Addr} (hp : b ≠ p.block) (u : Value) : Lanes (W.setCell p u) b t l := Blk.far h hp u
theorem Lanes.drew (h : Lanes W b t l) : Lanes W.drew b t l := h
theorem Lanes.drewN (h : Lanes W b t l) (n : Nat) : Lanes (W.drewN n) b t l := h
theorem Lanes.alloc (h : Lanes W b t l) (o : Obj) : Lanes (W.alloc o) b t l := Blk.alloc h o
theorem Lanes.kept (h : Lanes W b t l) {row : Option Nat} (hg : W.grownBy W' row) (hne : some b ≠ row) : Lanes W' b t l := Blk.grown h hg hne
end
theorem lanes_own {β : Type} (b : Nat) (t : TypeId) (f : β → List (BitVec 64)) : Own (fun s W => Lanes W b t (f s)) := fun s X Y row hs hg hrow =>
  hs.kept hg (fun e => by
    obtain ⟨o, ho, hc⟩ := hrow b e.symm
    rw [show X.heap[b]? = _ from hs] at ho; cases ho; cases hc)
theorem ownFrom_grown {β : Type} {B : Nat} {w₀ : World} {row : Option Nat} (hB : w₀.heap.size ≤ B) : OwnFrom B (fun (_ : β) W => w₀.grownBy W row) := fun _ X Y r hs hg hr =>
  ⟨hg.os.trans hs.os, hg.tape.trans hs.tape, hg.output.trans hs.output, Nat.le_trans hs.size hg.size, fun k hk hne =>
    (hg.block k (Nat.lt_of_lt_of_le hk hs.size) (fun e => by have := (hr k e.symm).1; omega)).trans (hs.block k hk hne)⟩
theorem grown_self {a w w' : World} {row : Option Nat} (h : a.grownBy w row) {r : Option Nat} (hg : w.grownBy w' r) (hr : ∀ k, r = some k → row = some k ∨ a.heap.size ≤ k) : a.grownBy w' row :=
  ⟨hg.os.trans h.os, hg.tape.trans h.tape, hg.output.trans h.output, Nat.le_trans h.size hg.size, fun k hk hne =>
    (hg.block k (Nat.lt_of_lt_of_le hk h.size) (fun e => by rcases hr k e.symm with e2 | e2; exact hne e2.symm; omega)).trans (h.block k hk hne)⟩

theorem ownFrom_obj {β : Type} {B D : Nat} (hD : D < B) (o : Obj) : OwnFrom B (fun (_ : β) W => W.heap[D]? = some o) := fun _ X Y r hs hg hr =>
  (hg.block D (Array.getElem?_eq_some_iff.1 hs).1 (fun e => by have := (hr D e.symm).1; omega)).trans hs

/-! The iterator each: the places, their columns and rows. -/
def eachEnc (i : Fin 25) : Array Value := #[.int .i64 ((i.val : Nat) : Int), .agg #[.int .i64 ((i.val : Int) % 5), .int .i64 ((i.val : Int) / 5)]]
set_option maxRecDepth 100000 in
set_option maxHeartbeats 1000000 in
theorem each1_in (N : Nat) (hN : 1 ≤ N) (l : Nat) (J Jx : List (Fin 25) → World → Prop)
    (hY : ∀ pre x W, J pre W → pre.length < 25 → YieldAt Fence.wide (N - 1) Try.prog l (eachEnc x) W fun e W' =>
      (e = .returned (.bool true) ∧ J (pre ++ [x]) W' ∧ True) ∨ (e = .returned (.bool false) ∧ Jx (pre ++ [x]) W'))
    (W : World) (h0 : J [] W) :
    CallsIn Fence.wide N Try.prog 29 #[.func (.yield l) #[] #[]] W fun e W' => (∃ v, e = .returned v) ∧
      ((∃ ys, ys = List.finRange 25 ∧ J ys W') ∨ (∃ pre, pre <+: List.finRange 25 ∧ Jx pre W')) := by
  refine callsIn_of_wp Try.func29 rfl trivial ?_ rfl
  simp only [Try.ntmps29, List.size_toArray, List.length_cons, List.length_nil, Nat.reduceAdd, Nat.reduceSub, Array.replicate_succ, Array.replicate_zero, List.push_toArray, List.append_toArray, List.nil_append, List.cons_append]
  gi_wp2
  gi_loopw [3] (fun i wr => ∃ k : Nat, i = .int .i64 k ∧ k ≤ 25 ∧ J ((List.finRange 25).take k) wr) (fun i _ => 25 - (intOf i).toNat)
  case atStart => exact ⟨0, rfl, by omega, h0⟩
  case round =>
    obtain ⟨k, rfl, hk, hJ⟩ := hrel
    by_cases hlt : k < 25
    · obtain ⟨fn, tmps, assign, body, hy, hR⟩ := hY _ ⟨k, hlt⟩ wr hJ (by simp; omega)
      have htk : (List.finRange 25).take k ++ [⟨k, hlt⟩] = (List.finRange 25).take (k + 1) := by
        rw [List.take_succ_eq_append_getElem (by simp; exact hlt)]
        simp
      rw [htk] at hR
      simp only [eachEnc] at hy
      gi_wp2
      refine hR.mono ?_
      rintro e W3 (⟨rfl, hJ3, _⟩ | ⟨rfl, hJx3⟩)
      · gi_wp2
        go_roundw
        case rel => exact ⟨k + 1, by simp, by omega, hJ3⟩
        case measure => simp [intOf]; omega
      · gi_wp2
        refine bodyPost_ret (results_none rfl _ _ _) rfl ?_
        exact ⟨⟨_, rfl⟩, .inr ⟨_, List.take_prefix _ _, hJx3⟩⟩
    · obtain rfl : k = 25 := by omega
      gi_wp2
      go_end0
      exact ⟨⟨_, rfl⟩, .inl ⟨_, by decide, hJ⟩⟩
theorem each_any (w : World) : Calls Try.prog 26 #[] w fun e w' => e = .returned (.func (.func 29) #[] #[]) ∧ w = w' := by
  go_enter Try.func26, Try.ntmps26
  go_wp2
  go_ret
  exact ⟨rfl, rfl⟩
end Go.Proofs.Ytihkbhogapopdaa
