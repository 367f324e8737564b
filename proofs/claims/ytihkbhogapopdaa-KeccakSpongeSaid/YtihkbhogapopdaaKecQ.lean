/- Package keccak's Sum: what it answers. -/
import Derived.Test.YtihkbhogapopdaaKecP
namespace Go.Proofs.Ytihkbhogapopdaa
open Go.RowKit Go.Shelf
attribute [local go_sem] Oper.semAt_some

/-- a byte of a text put into the lanes -/
def absStep (t : List UInt8) (o : Nat) (a : List (BitVec 64)) (i : Nat) : List (BitVec 64) := a.set (i / 8) (a.getD (i / 8) 0 ^^^ (BitVec.ofNat 64 (t.getD (o + i) 0).toNat <<< (i % 8 * 8)))
def absorb (t : List UInt8) (o m : Nat) (a : List (BitVec 64)) : List (BitVec 64) := (List.range m).foldl (absStep t o) a
def sponge (t : List UInt8) : Nat → List (BitVec 64)
  | 0 => List.replicate 25 0
  | k + 1 => permuteK (absorb t (136 * k) 136 (sponge t k))
def squeezeAt (a : List (BitVec 64)) (i : Nat) : UInt8 := UInt8.ofNat ((a.getD (i / 8) 0 >>> (i % 8 * 8)).toNat % 256)
def squeeze (a : List (BitVec 64)) : List UInt8 := (List.range 32).map (squeezeAt a)
def padded (l : List UInt8) : List UInt8 := l ++ padL (136 - l.length % 136)
def sumL (l : List UInt8) : List UInt8 := squeeze (sponge (padded l) ((padded l).length / 136))

def absorbAll (t : List UInt8) {n : Nat} (pre : List (Fin n)) : List (BitVec 64) := pre.foldl (fun a x => permuteK (absorb t (x.val * 136) 136 a)) (List.replicate 25 0)
theorem absorbAll_snoc (t : List UInt8) {n : Nat} (pre : List (Fin n)) (x : Fin n) : absorbAll t (pre ++ [x]) = permuteK (absorb t (x.val * 136) 136 (absorbAll t pre)) := by simp [absorbAll]
theorem padL_len (m : Nat) (h : 1 ≤ m) : (padL m).length = m := by
  unfold padL
  split
  · simp; omega
  · simp; omega
theorem padded_len (l : List UInt8) : ∃ k, (padded l).length = 136 * k ∧ 1 ≤ k ∧ 136 * k ≤ l.length + 136 := by
  unfold padded
  rw [List.length_append, padL_len _ (by omega)]
  exact ⟨l.length / 136 + 1, by omega, by omega, by omega⟩
theorem absorb_succ (t : List UInt8) (o m : Nat) (a : List (BitVec 64)) : absorb t o (m + 1) a = absStep t o (absorb t o m a) m := by simp [absorb, List.range_succ]
theorem absStep_len (t : List UInt8) (o i : Nat) (a : List (BitVec 64)) : (absStep t o a i).length = a.length := by simp [absStep]
theorem absorb_len (t : List UInt8) (o : Nat) (a : List (BitVec 64)) : ∀ m, (absorb t o m a).length = a.length
  | 0 => rfl
  | m + 1 => by rw [absorb_succ, absStep_len, absorb_len t o a m]
theorem sponge_len (t : List UInt8) : ∀ k, (sponge t k).length = 25
  | 0 => by simp [sponge]
  | k + 1 => by rw [sponge, permute_len, absorb_len, sponge_len t k]
theorem absorbAll_len (t : List UInt8) {n : Nat} (pre : List (Fin n)) : (absorbAll t pre).length = 25 := by
  unfold absorbAll
  have : ∀ (l : List (Fin n)) (a : List (BitVec 64)), (l.foldl (fun a x => permuteK (absorb t (x.val * 136) 136 a)) a).length = a.length := by
    intro l
    induction l with
    | nil => intro a; rfl
    | cons x l ih => intro a; rw [List.foldl_cons, ih, permute_len, absorb_len]
  rw [this]; simp
theorem absorbAll_take (t : List UInt8) {n : Nat} : ∀ k, k ≤ n → absorbAll t ((List.finRange n).take k) = sponge t k
  | 0, _ => by simp [absorbAll, sponge]
  | k + 1, h => by
    rw [List.take_succ_eq_append_getElem (by simp; omega), absorbAll_snoc, absorbAll_take t k (by omega)]
    simp [sponge, Nat.mul_comm]
theorem absorbAll_all (t : List UInt8) (n : Nat) : absorbAll t (List.finRange n) = sponge t n := by
  rw [← absorbAll_take t n (Nat.le_refl _), List.take_of_length_le (by simp)]
def outL (a : List (BitVec 64)) (m : Nat) : List UInt8 := (List.range m).map (squeezeAt a) ++ List.replicate (32 - m) 0
theorem outL_len (a : List (BitVec 64)) (m : Nat) (h : m ≤ 32) : (outL a m).length = 32 := by simp [outL]; omega
theorem outL_succ (a : List (BitVec 64)) (m : Nat) (h : m < 32) : outL a (m + 1) = (outL a m).set m (squeezeAt a m) := by
  unfold outL
  rw [List.set_append_right _ _ (by simp), List.range_succ, List.map_append]
  obtain ⟨k, hk⟩ : ∃ k, 32 - m = k + 1 := ⟨32 - m - 1, by omega⟩
  rw [hk, show 32 - (m + 1) = k by omega, List.replicate_succ]
  simp
theorem outL_all (a : List (BitVec 64)) : outL a 32 = squeeze a := by simp [outL, squeeze]
theorem bshr (v : BitVec 64) (r : Nat) : IntKind.u8.wrap ((v.toNat : Int) / 2 ^ r) = ((UInt8.ofNat ((v >>> r).toNat % 256)).toNat : Int) := by
  have e2 : (v.toNat : Int) / 2 ^ r = ((v >>> r).toNat : Int) := by
    rw [BitVec.toNat_ushiftRight, Nat.shiftRight_eq_div_pow]
    simp
  rw [e2]
  generalize (v >>> r).toNat = n
  simp [IntKind.wrap, IntKind.bits, IntKind.signed]
theorem ba_toList (a b : ByteArray) : (a ++ b).data.toList = a.data.toList ++ b.data.toList := by simp
/-- a byte, moved up -/
theorem bshl (c : UInt8) (k : Nat) (x : BitVec 64) (h : BitVec.ofNat 64 c.toNat <<< k = x) : IntKind.u64.wrap ((c.toNat : Int) * 2 ^ k) = (x.toNat : Int) := by
  rw [← h, BitVec.toNat_shiftLeft, Nat.shiftLeft_eq, BitVec.toNat_ofNat, Nat.mod_eq_of_lt (show c.toNat < 2 ^ 64 by have := c.toNat_lt; omega)]
  simp [IntKind.wrap, IntKind.bits, IntKind.signed]
theorem wrap_byte (c : UInt8) : IntKind.u64.wrap (c.toNat : Int) = (c.toNat : Int) := by
  have := c.toNat_lt
  simp [IntKind.wrap, IntKind.bits, IntKind.signed]
  omega

set_option maxRecDepth 100000 in
set_option maxHeartbeats 2000000 in
theorem sum_any (s : ByteArray) (hs : s.size ≤ 1000000) (w : World) :
    Calls Try.prog 14 #[.string s] w fun e w' => e = .returned (.string ⟨(sumL s.data.toList).toArray⟩) ∧ w.grownBy w' none := by
  have hsl : s.data.toList.length = s.size := Array.length_toList
  obtain ⟨K, hK, hK1, hK2⟩ := padded_len s.data.toList
  obtain ⟨pb, hpb⟩ : ∃ p : ByteArray, (⟨(padL (136 - s.size % 136)).toArray⟩ : ByteArray) = p := ⟨_, rfl⟩
  obtain ⟨tb, htb⟩ : ∃ t : ByteArray, s ++ pb = t := ⟨_, rfl⟩
  have htl : tb.data.toList = padded s.data.toList := by
    rw [← htb, ba_toList, ← hpb]
    unfold padded
    rw [hsl]
  have hts : tb.size = 136 * K := by
    have : tb.size = tb.data.toList.length := Array.length_toList.symm
    rw [this, htl, hK]
  have hK3 : K ≤ 10000 := by omega
  refine (callsIn_wide (n := 6)).1 ?_
  refine callsIn_of_wp_marks Try.func14 rfl trivial ?_ rfl
  simp only [Try.ntmps14, List.size_toArray, List.length_cons, List.length_nil, Nat.reduceAdd, Nat.reduceSub, Array.replicate_succ, Array.replicate_zero, List.push_toArray, List.append_toArray, List.nil_append, List.cons_append]
  have hpad := pad_any s.size (by omega) w
  rw [hpb] at hpad
  have HTL := Lib.hid htl; have HTS := Lib.hid hts; have HK := Lib.hid hK; have HPB := Lib.hid hpb; have HSL := Lib.hid hsl
  have hsz : pb.size ≤ 136 := by
    rw [← hpb]
    show (padL (136 - s.size % 136)).toArray.size ≤ 136
    rw [List.size_toArray, padL_len _ (by omega)]
    omega
  clear htl hts hK hpb hsl
  gi_wp2_with fail
  refine ⟨trivial, callsIn_wide.2 (hpad.mono ?_)⟩
  rintro e w1 ⟨rfl, hg1⟩
  have hS0 := lanes_zero w1
  have hG2 : w.grownBy (w1.alloc (.cells #[.int .u64 0, .int .u64 0, .int .u64 0, .int .u64 0, .int .u64 0, .int .u64 0, .int .u64 0, .int .u64 0, .int .u64 0, .int .u64 0, .int .u64 0, .int .u64 0, .int .u64 0, .int .u64 0, .int .u64 0, .int .u64 0, .int .u64 0, .int .u64 0, .int .u64 0, .int .u64 0, .int .u64 0, .int .u64 0, .int .u64 0, .int .u64 0, .int .u64 0] 37)) none := only_alloc (grown_self (World.grownBy.refl _ _) hg1 (by simp)) _
  have hZ2 : (w1.alloc (.cells #[.int .u64 0, .int .u64 0, .int .u64 0, .int .u64 0, .int .u64 0, .int .u64 0, .int .u64 0, .int .u64 0, .int .u64 0, .int .u64 0, .int .u64 0, .int .u64 0, .int .u64 0, .int .u64 0, .int .u64 0, .int .u64 0, .int .u64 0, .int .u64 0, .int .u64 0, .int .u64 0, .int .u64 0, .int .u64 0, .int .u64 0, .int .u64 0, .int .u64 0] 37)).heap.size = w1.heap.size + 1 := by simp
  have hw1 := hg1.size
  have hcv := run_bytes_of_string (P := Try.prog) (w1.alloc (.cells #[.int .u64 0, .int .u64 0, .int .u64 0, .int .u64 0, .int .u64 0, .int .u64 0, .int .u64 0, .int .u64 0, .int .u64 0, .int .u64 0, .int .u64 0, .int .u64 0, .int .u64 0, .int .u64 0, .int .u64 0, .int .u64 0, .int .u64 0, .int .u64 0, .int .u64 0, .int .u64 0, .int .u64 0, .int .u64 0, .int .u64 0, .int .u64 0, .int .u64 0] 37)) 9 43 5 tb (by kernel_rfl) (by kernel_rfl) (by kernel_rfl)
  have hcap := grownCap_ge (w1.alloc (.cells #[.int .u64 0, .int .u64 0, .int .u64 0, .int .u64 0, .int .u64 0, .int .u64 0, .int .u64 0, .int .u64 0, .int .u64 0, .int .u64 0, .int .u64 0, .int .u64 0, .int .u64 0, .int .u64 0, .int .u64 0, .int .u64 0, .int .u64 0, .int .u64 0, .int .u64 0, .int .u64 0, .int .u64 0, .int .u64 0, .int .u64 0, .int .u64 0, .int .u64 0] 37)) tb.size 0 5
  generalize grownCap (w1.alloc (.cells #[.int .u64 0, .int .u64 0, .int .u64 0, .int .u64 0, .int .u64 0, .int .u64 0, .int .u64 0, .int .u64 0, .int .u64 0, .int .u64 0, .int .u64 0, .int .u64 0, .int .u64 0, .int .u64 0, .int .u64 0, .int .u64 0, .int .u64 0, .int .u64 0, .int .u64 0, .int .u64 0, .int .u64 0, .int .u64 0, .int .u64 0, .int .u64 0, .int .u64 0] 37)) tb.size 0 5 = cap at hcv hcap
  have hTb := World.cell?_alloc_mark (w1.alloc (.cells #[.int .u64 0, .int .u64 0, .int .u64 0, .int .u64 0, .int .u64 0, .int .u64 0, .int .u64 0, .int .u64 0, .int .u64 0, .int .u64 0, .int .u64 0, .int .u64 0, .int .u64 0, .int .u64 0, .int .u64 0, .int .u64 0, .int .u64 0, .int .u64 0, .int .u64 0, .int .u64 0, .int .u64 0, .int .u64 0, .int .u64 0, .int .u64 0, .int .u64 0] 37)).drew (bytesRow tb cap) 5 ((bytesRow tb cap).size, (bytesRow tb cap).size + 1)
  gi_wp2_with fail
  have hS3 := (hS0.alloc (.cells (bytesRow tb cap) 5 ((bytesRow tb cap).size, (bytesRow tb cap).size + 1))).drew
  have hT3 := heap_alloc_new (w1.alloc (.cells #[.int .u64 0, .int .u64 0, .int .u64 0, .int .u64 0, .int .u64 0, .int .u64 0, .int .u64 0, .int .u64 0, .int .u64 0, .int .u64 0, .int .u64 0, .int .u64 0, .int .u64 0, .int .u64 0, .int .u64 0, .int .u64 0, .int .u64 0, .int .u64 0, .int .u64 0, .int .u64 0, .int .u64 0, .int .u64 0, .int .u64 0, .int .u64 0, .int .u64 0] 37)) (.cells (bytesRow tb cap) 5 ((bytesRow tb cap).size, (bytesRow tb cap).size + 1))
  have hG3 := only_drew (only_alloc hG2 (.cells (bytesRow tb cap) 5 ((bytesRow tb cap).size, (bytesRow tb cap).size + 1)))
  have hZ3 : (((w1.alloc (.cells #[.int .u64 0, .int .u64 0, .int .u64 0, .int .u64 0, .int .u64 0, .int .u64 0, .int .u64 0, .int .u64 0, .int .u64 0, .int .u64 0, .int .u64 0, .int .u64 0, .int .u64 0, .int .u64 0, .int .u64 0, .int .u64 0, .int .u64 0, .int .u64 0, .int .u64 0, .int .u64 0, .int .u64 0, .int .u64 0, .int .u64 0, .int .u64 0, .int .u64 0] 37)).alloc (.cells (bytesRow tb cap) 5 ((bytesRow tb cap).size, (bytesRow tb cap).size + 1))).drew).heap.size = w1.heap.size + 2 := by simp
  rw [hZ2] at hT3
  have hT3' : (((w1.alloc (.cells #[.int .u64 0, .int .u64 0, .int .u64 0, .int .u64 0, .int .u64 0, .int .u64 0, .int .u64 0, .int .u64 0, .int .u64 0, .int .u64 0, .int .u64 0, .int .u64 0, .int .u64 0, .int .u64 0, .int .u64 0, .int .u64 0, .int .u64 0, .int .u64 0, .int .u64 0, .int .u64 0, .int .u64 0, .int .u64 0, .int .u64 0, .int .u64 0, .int .u64 0] 37)).alloc (.cells (bytesRow tb cap) 5 ((bytesRow tb cap).size, (bytesRow tb cap).size + 1))).drew).heap[w1.heap.size + 1]? = some (.cells (bytesRow tb cap) 5 ((bytesRow tb cap).size, (bytesRow tb cap).size + 1)) := hT3
  clear hS0 hT3 hG2 hZ2 hcv hTb hg1
  refine ⟨trivial, callsIn_wide.2 ((chunk_any _ _ _ 136 (by omega) _).mono ?_)⟩
  generalize ((w1.alloc (.cells #[.int .u64 0, .int .u64 0, .int .u64 0, .int .u64 0, .int .u64 0, .int .u64 0, .int .u64 0, .int .u64 0, .int .u64 0, .int .u64 0, .int .u64 0, .int .u64 0, .int .u64 0, .int .u64 0, .int .u64 0, .int .u64 0, .int .u64 0, .int .u64 0, .int .u64 0, .int .u64 0, .int .u64 0, .int .u64 0, .int .u64 0, .int .u64 0, .int .u64 0] 37)).alloc (.cells (bytesRow tb cap) 5 ((bytesRow tb cap).size, (bytesRow tb cap).size + 1))).drew = w3 at *
  generalize hb : w1.heap.size = b at *
  rintro e w4 ⟨rfl, hw4⟩
  rw [hZ3]
  have bS : Boxed w4 (b + 2) 43 (.slice (some ⟨b + 1, 0, none⟩) tb.size cap) := by rw [hw4, ← hZ3]; exact (Boxed.new w3 _ _).alloc _
  have bN : Boxed w4 (b + 3) 3 (.int .i64 136) := by
    have := Boxed.new (w3.alloc (.cells #[.slice (some ⟨b + 1, 0, none⟩) tb.size cap] 43)) 3 (.int .i64 136)
    rw [World.size_alloc, hZ3] at this
    rw [hw4]; exact this
  have hS4 : Lanes w4 b 37 (List.replicate 25 0) := by rw [hw4]; exact (hS3.alloc _).alloc _
  have hT4 : w4.heap[b + 1]? = some (.cells (bytesRow tb cap) 5 ((bytesRow tb cap).size, (bytesRow tb cap).size + 1)) := by
    rw [hw4]; exact (Below.heap_alloc _ _ _ (by simp; omega)).trans ((Below.heap_alloc _ _ _ (by omega)).trans hT3')
  have hG4 : w.grownBy w4 none := by rw [hw4]; exact only_alloc (only_alloc hG3 _) _
  have hZ4 : w4.heap.size = b + 4 := by rw [hw4]; simp [hZ3]
  clear hw4 hS3 hG3 hT3'
  have hZ4' : b + 4 ≤ w4.heap.size := by omega
  have hZ5 := Lib.hid hZ4
  have hZ6 := Lib.hid hZ3
  clear hZ4 hZ3 hb
  gi_wp2_with fail
  have hpk : partsN tb.size 136 = K := by unfold partsN; have := HTS.out; omega
  have hK4 : K ≤ 10000 := hK3
  have HPK := Lib.hid hpk
  clear hpk
  have hSS : ∀ k, (k < 0 ∨ k = b + 2 ∨ k = b + 3) → k < w4.heap.size := by intro k hk; omega
  refine wpIn_rangeFunc_ownG rfl (by omega) (gf := 28) (lb := #[.pointer (some ⟨b + 2, 0, none⟩), .pointer (some ⟨b + 3, 0, none⟩)]) rfl trivial (enters_of Try.func28 (by kernel_rfl) rfl)
    (encs := fun x : Fin (partsN tb.size 136) => partEnc (b + 1) tb.size 136 x.val) (S := fun ys => ys = List.finRange (partsN tb.size 136)) (Sp := fun pre => pre <+: List.finRange (partsN tb.size 136)) (N := partsN tb.size 136) (w0 := w4) (Kp := KeepS (fun k => k < 0 ∨ k = b + 2 ∨ k = b + 3))
    (fun l J Jx W hW hJ _ hY h0 => chunk1_in 5 (by omega) l (b + 2) (b + 3) 0 (b + 1) tb.size cap 136 (by omega) (by omega) (by have := HTS.out; omega) hcap J Jx hY W ((hW.cell (p := ⟨b + 2, 0, none⟩) (by show b + 2 < w4.heap.size; omega)).trans bS.cell) ((hW.cell (p := ⟨b + 3, 0, none⟩) (by show b + 3 < w4.heap.size; omega)).trans bN.cell) h0 (fun s W n h => hJ s W _ none h ⟨rfl, rfl, rfl, Nat.le_refl _, fun _ _ _ => rfl⟩ (by simp)))
    keepS_t (keepS_b hSS) (Below.refl _ _) (fun _ => rfl)
    (fun pre W => Lanes W b 37 (absorbAll tb.data.toList pre) ∧ (Boxed W (b + 2) 43 (.slice (some ⟨b + 1, 0, none⟩) tb.size cap) ∧ (Boxed W (b + 3) 3 (.int .i64 136) ∧ (W.heap[b + 1]? = some (.cells (bytesRow tb cap) 5 ((bytesRow tb cap).size, (bytesRow tb cap).size + 1)) ∧ w.grownBy W none))))
    (fun _ _ _ => False)
    (OwnFrom.and (Own.from (lanes_own _ _ (fun pre : List (Fin (partsN tb.size 136)) => absorbAll tb.data.toList pre)) _) (OwnFrom.and (Own.from (boxed_own _ _ (fun _ => _)) _) (OwnFrom.and (Own.from (boxed_own _ _ (fun _ => _)) _) (OwnFrom.and (ownFrom_obj (by omega) _) (ownFrom_grown (by omega))))))
    (fun _ _ _ _ _ hs _ _ => hs)
    ⟨hS4, bS, bN, hT4, hG4⟩
    (fun x => { tmps := #[.string s, undef, .string ⟨#[]⟩, .string pb, .int .i64 0, .pointer (some ⟨b, 0, none⟩), .slice (some ⟨b + 1, x.val * 136, none⟩) (min 136 (tb.size - x.val * 136)) (min 136 (tb.size - x.val * 136)), undef, undef, undef, undef, .tuple #[.string pb, .int .i64 0], .string s, .int .i64 (s.size : Int), .tuple #[.string pb, .int .i64 0], .string pb, .int .i64 0, .string s, .string pb, .string tb, .slice (some ⟨b + 1, 0, none⟩) tb.size cap, .func (.func 28) #[] #[.pointer (some ⟨b + 2, 0, none⟩), .pointer (some ⟨b + 3, 0, none⟩)], .slice (some ⟨b + 1, x.val * 136, none⟩) (min 136 (tb.size - x.val * 136)) (min 136 (tb.size - x.val * 136)), undef, undef, undef, undef, undef, undef, undef, undef, undef, undef, undef, undef, undef, undef, undef, undef, undef, undef, undef, undef, undef, undef, undef, undef, undef, undef, undef, undef, undef, undef, undef, undef, undef, undef, undef, undef, undef, undef, undef, undef, undef, undef, undef], defers := [] }) ?assign ?body ?done ?stop
  case assign =>
    intro l x W K hK
    unfold partEnc
    gi_wp2
    exact hK
  case body =>
    rintro l pre x W ⟨hL, hbS, hbN, hT, hG⟩ hlt
    have hxK : x.val < K := by have := x.isLt; have := HPK.out; omega
    obtain ⟨o, ho⟩ : ∃ o, x.val * 136 = o := ⟨_, rfl⟩
    have hoT : o + 136 ≤ tb.size := by have := HTS.out; omega
    have hmn : min 136 (tb.size - o) = 136 := by omega
    obtain ⟨a0, ha0⟩ : ∃ a, absorbAll tb.data.toList pre = a := ⟨_, rfl⟩
    have ha0l : a0.length = 25 := by rw [← ha0]; exact absorbAll_len _ _
    rw [ha0] at hL
    have HO := Lib.hid ho; have HA0 := Lib.hid ha0
    rw [ho, hmn]
    clear ho ha0 hmn
    have hWsz : b + 3 < W.heap.size := hbN.lt
    gi_wp2
    gi_loopw [25] (fun i wr => ∃ m : Nat, i = .int .i64 (m : Int) ∧ m ≤ 136 ∧ Lanes wr b 37 (absorb tb.data.toList o m a0) ∧ W.grownBy wr (some b)) (fun i _ => 136 - (intOf i).toNat)
    case atStart => exact ⟨0, rfl, by omega, hL, World.grownBy.refl _ _⟩
    case round =>
      obtain ⟨m, rfl, hm, hLm, hg⟩ := hrel
      by_cases hltm : m < 136
      · obtain ⟨a1, ha1⟩ : ∃ a, absorb tb.data.toList o m a0 = a := ⟨_, rfl⟩
        have ha1l : a1.length = 25 := by rw [← ha1, absorb_len]; exact ha0l
        rw [ha1] at hLm
        have hlen : tb.data.size = tb.size := rfl
        obtain ⟨c, hc⟩ : ∃ c, tb.data[o + m]'(by omega) = c := ⟨_, rfl⟩
        have hcl : tb.data.toList.getD (o + m) 0 = c := by
          rw [List.getD_eq_getElem?_getD, List.getElem?_eq_getElem (by simp; omega), ← hc]; rfl
        have f1 : wr.cell? ⟨b + 1, o + m, none⟩ = some (.int .u8 (c.toNat : Int)) := by
          have h1 := hg.block (b + 1) (by omega) (by simp)
          rw [hT] at h1
          unfold World.cell?
          simp only [h1]
          rw [bytesRow_at tb cap (o + m) (by omega), hc]
          rfl
        obtain ⟨q, hq⟩ : ∃ q, m / 8 = q := ⟨_, rfl⟩
        obtain ⟨r8, hr8⟩ : ∃ r, m % 8 = r := ⟨_, rfl⟩
        obtain ⟨r, hr⟩ : ∃ r, r8 * 8 = r := ⟨_, rfl⟩
        obtain ⟨v, hv⟩ : ∃ v, a1.getD q 0 = v := ⟨_, rfl⟩
        obtain ⟨y, hy⟩ : ∃ y, BitVec.ofNat 64 c.toNat <<< r = y := ⟨_, rfl⟩
        obtain ⟨z, hz⟩ : ∃ z, v ^^^ y = z := ⟨_, rfl⟩
        have hst : absorb tb.data.toList o (m + 1) a0 = a1.set q z := by
          rw [absorb_succ, ha1]
          unfold absStep
          rw [hcl, hq, hr8, hr, hv, hy, hz]
        have f2 := hLm.cell (i := q) (by omega)
        have f3 := hLm.frozen q
        rw [hv] at f2
        have p1 : (m : Int).tdiv 8 = (q : Int) := by rw [Int.tdiv_eq_ediv_of_nonneg (by omega)]; omega
        have p2 : IntKind.i64.wrap (q : Int) = (q : Int) := IntWalk.i64_in _ (by omega)
        have p3 : (m : Int).tmod 8 = (r8 : Int) := by rw [Int.tmod_eq_emod_of_nonneg (by omega)]; omega
        have p4 : IntKind.i64.wrap ((r8 : Int) * 8) = (r : Int) := by rw [IntWalk.i64_in _ (by omega)]; omega
        have p5 := wrap_byte c
        have p6 := bshl c r y hy
        have p7 := bx_is v y z hz
        have q1 : (q : Int) < 25 := by omega
        have q2 : (m : Int) < 136 := by omega
        have q3 : r < 64 := by omega
        have d1 : decide ((m : Int) < 136) = true := by simp; omega
        have d2 : decide (m < 136) = true := by simp; omega
        have HS := Lib.hid hst
        clear ha1 hc hcl hq hr8 hr hv hy hz hst hlen
        gi_wp2
        refine wpIn_tail_round 12 (by kernel_rfl) (by kernel_rfl) rfl (fun _ _ h => h) ?_
        simp only [List.take_succ_cons, List.take_zero, List.drop_succ_cons, List.drop_zero]
        repeat still_step
        refine wpStill_nil ?_
        clear p1 p2 p3 p4 p5 p6 p7
        go_wp2_with fail
        gi_wp2
        exact ⟨⟨m + 1, by simp, by omega, by rw [HS.out]; exact (hLm.set q z).drew, only_drew (only_setCell hg (.inl rfl) _)⟩, by simp [intOf]; omega⟩
      · have e136 : absorb tb.data.toList o m a0 = absorb tb.data.toList o 136 a0 := by rw [show m = 136 by omega]
        have hfin : decide ((m : Int) < 136) = false := by simp; omega
        obtain ⟨a1, ha1⟩ : ∃ a, absorb tb.data.toList o 136 a0 = a := ⟨_, rfl⟩
        have ha1l : a1.length = 25 := by rw [← ha1, absorb_len]; exact ha0l
        rw [e136, ha1] at hLm
        have HA1 := Lib.hid ha1
        obtain ⟨cs, hcs⟩ : ∃ cs, (a1.map u64v).toArray = cs := ⟨_, rfl⟩
        have hcp := permute_any a1 ha1l wr
        have hB1 : Blk wr b 37 cs := by rw [← hcs]; exact hLm
        have hcsz : cs.size = 25 := by rw [← hcs]; simpa using ha1l
        rw [hcs] at hcp
        obtain ⟨a2, ha2⟩ : ∃ a, permuteK a1 = a := ⟨_, rfl⟩
        have ha2l : a2.length = 25 := by rw [← ha2, permute_len]; exact ha1l
        rw [ha2] at hcp
        have HA2 := Lib.hid ha2
        obtain ⟨cs2, hcs2⟩ : ∃ cs, (a2.map u64v).toArray = cs := ⟨_, rfl⟩
        have hcs2z : cs2.size = 25 := by rw [← hcs2]; simpa using ha2l
        have hone : cs2.all (·.oneCell') = true := by rw [← hcs2]; simp [u64v, Value.oneCell']
        rw [hcs2] at hcp
        have HC2 := Lib.hid hcs2
        clear ha1 hcs e136 ha2 hcs2
        repeat (first | refine wpIn_list_round (id := 10) rfl (fun _ _ h => h) (veiled ?_) | gi_step)
        refine ⟨?_⟩
        refine wpList_load_row rfl 37 (.tmp 5) rfl b rfl 37 cs _ (.array 25 22) hB1 (by kernel_rfl) (by kernel_rfl) (by rw [hcsz]; kernel_rfl) ?_
        refine wpList_step fun K hK => ?_
        go_simp
        refine hcp.mono ?_
        rintro e w5 ⟨rfl, hg5⟩
        go_simp
        refine hK _ _ ?_
        clear hK K
        have hB5 : Blk w5 b 37 cs := hB1.grown hg5 (by simp)
        refine wpList_store_mid rfl 37 _ _ rfl b 0 cs2 rfl rfl (there_blk' hB5 (hcs2z.trans hcsz.symm)) (by rw [hcs2z]; kernel_rfl) hone ?_
        refine wpList_nil ?_
        have hB6 := hB5.setAll (cs' := cs2) (hcs2z.trans hcsz.symm)
        have hg6 : W.grownBy (w5.setCells b 0 cs2.toList) (some b) := only_setCells (.inl rfl) _ _ _ (grown_self hg hg5 (by simp))
        have hS6 : Lanes (w5.setCells b 0 cs2.toList) b 37 (absorbAll tb.data.toList (pre ++ [x])) := by
          rw [absorbAll_snoc, HA0.out, HO.out, HA1.out, HA2.out]
          unfold Lanes
          rw [HC2.out]
          exact hB6
        exact ⟨KeepsFrom.of_grownBy hg6 (fun j e => by cases e; omega), ⟨hg6.size, fun k hk => hg6.block k (by omega) (by simp; omega)⟩, hS6, (hg6.block (b + 2) (by omega) (by simp)).trans hbS, (hg6.block (b + 3) (by omega) (by simp)).trans hbN, (hg6.block (b + 1) (by omega) (by simp)).trans hT, grown_self hG hg6 (fun k e => .inr (by cases e; omega))⟩
  case done =>
    rintro D ys W hD rfl ⟨hL, hbS, hbN, hT, hG⟩ hK
    rw [absorbAll_all, HPK.out] at hL
    obtain ⟨a, ha⟩ : ∃ a, sponge tb.data.toList K = a := ⟨_, rfl⟩
    have hal : a.length = 25 := by rw [← ha]; exact sponge_len _ _
    have hsum : sumL s.data.toList = squeeze a := by
      unfold sumL
      have h1 := HTL.out
      rw [← h1, ← ha]
      congr 2
      rw [h1, HK.out]
      omega
    rw [ha] at hL
    have HSUM := Lib.hid hsum
    have hWsz : b + 3 < W.heap.size := hbN.lt
    have hDW : D < W.heap.size := (Array.getElem?_eq_some_iff.1 hK).1
    clear ha hsum hbS hbN hT bS bN hS4 hT4 hG4
    have hmk : (Instr.makeSlice 43 (.int .i64 32) (.int .i64 32)).run Try.prog W = .ok (.slice (some ⟨W.heap.size, 0, none⟩) 32 32) (W.alloc (.cells (bytesC (List.replicate 32 0)) 5)) := make_u8 32 (by omega) W
    have hO := Blk.new W 5 (bytesC (List.replicate 32 0))
    have hL1 := hL.alloc (.cells (bytesC (List.replicate 32 0)) 5)
    have hG1 := only_alloc hG (.cells (bytesC (List.replicate 32 0)) 5)
    have hK1 := (Below.heap_alloc W (.cells (bytesC (List.replicate 32 0)) 5) D hDW).trans hK
    have hZ1 : (W.alloc (.cells (bytesC (List.replicate 32 0)) 5)).heap.size = W.heap.size + 1 := by simp
    generalize hW1 : W.alloc (.cells (bytesC (List.replicate 32 0)) 5) = W1 at *
    have hwg : w.heap.size ≤ W.heap.size := hG.size
    generalize hg0 : W.heap.size = g at *
    clear hW1
    gi_wp2
    gi_loopw [48] (fun i wr => ∃ m : Nat, i = .int .i64 (m : Int) ∧ m ≤ 32 ∧ Blk wr g 5 (bytesC (outL a m)) ∧ Lanes wr b 37 a ∧ wr.heap[D]? = some (.deferred (some [])) ∧ w.grownBy wr none) (fun i _ => 32 - (intOf i).toNat)
    case atStart => exact ⟨0, rfl, by omega, hO, hL1, hK1, hG1⟩
    case round =>
      clear hO hL1 hK1 hG1 hmk
      obtain ⟨m, rfl, hm, hO, hL, hK, hG⟩ := hrel
      by_cases hlt : m < 32
      · obtain ⟨q, hq⟩ : ∃ q, m / 8 = q := ⟨_, rfl⟩
        obtain ⟨r8, hr8⟩ : ∃ r, m % 8 = r := ⟨_, rfl⟩
        obtain ⟨r, hr⟩ : ∃ r, r8 * 8 = r := ⟨_, rfl⟩
        obtain ⟨v, hv⟩ : ∃ v, a.getD q 0 = v := ⟨_, rfl⟩
        obtain ⟨z, hz⟩ : ∃ z, squeezeAt a m = z := ⟨_, rfl⟩
        have hzz : z = UInt8.ofNat ((v >>> r).toNat % 256) := by
          rw [← hz]
          unfold squeezeAt
          rw [hq, hr8, hr, hv]
        have hst : outL a (m + 1) = (outL a m).set m z := by rw [← hz]; exact outL_succ a m hlt
        have f2 := hL.cell (i := q) (by omega)
        rw [hv] at f2
        have f3 := hO.frozen m
        have f4 : wr.cell? ⟨g, m, none⟩ = some (.int .u8 (((outL a m).getD m 0).toNat : Int)) := bytesC_cell hO m (by rw [outL_len a m hm]; omega)
        have p1 : (m : Int).tdiv 8 = (q : Int) := by rw [Int.tdiv_eq_ediv_of_nonneg (by omega)]; omega
        have p2 : IntKind.i64.wrap (q : Int) = (q : Int) := IntWalk.i64_in _ (by omega)
        have p3 : (m : Int).tmod 8 = (r8 : Int) := by rw [Int.tmod_eq_emod_of_nonneg (by omega)]; omega
        have p4 : IntKind.i64.wrap ((r8 : Int) * 8) = (r : Int) := by rw [IntWalk.i64_in _ (by omega)]; omega
        have p5 : IntKind.u8.wrap ((v.toNat : Int) / 2 ^ r) = (z.toNat : Int) := by rw [hzz]; exact bshr v r
        have q1 : (q : Int) < 25 := by omega
        have q2 : (m : Int) < 32 := by omega
        have q3 : r < 64 := by omega
        have hgb : g ≠ b := by omega
        have HS := Lib.hid hst
        generalize (outL a m).getD m 0 = z0 at f4
        clear hq hr8 hr hv hz hzz hst
        gi_wp2
        refine ⟨⟨m + 1, by simp, by omega, ?_, hL.far (p := ⟨g, m, none⟩) (by show b ≠ g; omega) _, (Below.heap_setCell _ ⟨g, m, none⟩ _ _ (by show D ≠ g; omega)).trans hK, only_set hG (p := ⟨g, m, none⟩) (by show w.heap.size ≤ g; omega) _⟩, by simp [intOf]; omega⟩
        rw [HS.out, ← bytesC_setI]
        exact hO.set_ m _
      · have e32 : outL a m = squeeze a := by rw [show m = 32 by omega, outL_all]
        rw [e32] at hO
        have hfin : decide ((m : Int) < 32) = false := by simp; omega
        have hql : (squeeze a).length = 32 := by rw [← e32, show m = 32 by omega]; exact outL_len a 32 (by omega)
        have hcv := run_convert_bytes_back (P := Try.prog) wr 43 9 5 ⟨g, 0, none⟩ 32 (squeeze a) (by kernel_rfl) (by kernel_rfl) (by kernel_rfl) (fun j hj => by
          have := bytesC_cell hO j hj
          rw [Addr.add_mid, Nat.zero_add, this, List.getD_eq_getElem?_getD, List.getElem?_eq_getElem hj]
          rfl)
        rw [hql] at hcv
        have hs2 := HSUM.out
        obtain ⟨qq, hqq⟩ : ∃ x, squeeze a = x := ⟨_, rfl⟩
        rw [hqq] at hcv hs2
        have HS2 := Lib.hid hs2
        clear hs2 e32 hql hqq
        gi_wp2
        refine ⟨by simp, .inl ⟨_, _, rfl, run_takeDeferred hK, ?_⟩⟩
        exact ⟨_, results_tmp rfl _ _ _, by rw [HS2.out]; rfl, grown_self hG (grownBy_putObj' _ _ _) (fun k e => .inr (by cases e; omega))⟩
  case stop =>
    rintro D c pre W _ _ h _
    exact h.elim
end Go.Proofs.Ytihkbhogapopdaa
