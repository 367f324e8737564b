/- Both Packs and Counts of package bits: what they answer. -/
import Derived.Test.YtdeeclmmfhppgaaBitsP
namespace Go.Proofs.Ytdeeclmmfhppgaa
open Go.RowKit Go.Shelf

theorem Reads.bools {w : World} {B n k : Nat} {A : Option Addr} {xs : List Bool} (h : Reads w B 1 A n (xs.map Value.bool)) (hk : k < n) :
    ∃ b off, A = some ⟨b, off, none⟩ ∧ b < B ∧ ∀ j, j < n → w.cell? ⟨b, off + j, none⟩ = some (.bool (xs.getD j false)) := by
  have hl := h.1
  simp at hl
  have key : ∀ j, j < n → (xs.map Value.bool)[j]? = some (.bool (xs.getD j false)) := by
    intro j hj
    rw [List.getElem?_map, List.getElem?_eq_getElem (by omega), List.getD_eq_getElem?_getD, List.getElem?_eq_getElem (by omega)]
    rfl
  obtain ⟨ad, rfl, hb, hc⟩ := h.2 (by omega)
  have h0 := hc 0 _ (key 0 (by omega))
  have e : ad = ⟨ad.block, ad.off, none⟩ := lit_of_cell (a := ad) (by simpa [Addr.add] using h0)
  refine ⟨ad.block, ad.off, by rw [← e], hb, fun j hj => ?_⟩
  have := hc j _ (key j hj)
  rw [e] at this
  unfold Addr.add at this
  by_cases hj0 : j = 0
  · subst hj0; simpa using this
  · simpa [hj0] using this

theorem ofInt8 (x : UInt8) : BitVec.ofInt 8 (x.toNat : Int) = x.toBitVec := by
  apply BitVec.eq_of_toNat_eq
  rw [BitVec.ofInt_natCast, BitVec.toNat_ofNat, Nat.mod_eq_of_lt x.toNat_lt]
  rfl
theorem wrap8 (x : UInt8) : IntKind.u8.wrap (x.toNat : Int) = (x.toNat : Int) := by
  have := x.toNat_lt
  simp [IntKind.wrap, IntKind.bits, IntKind.signed]
  omega
theorem bor8 (x y : UInt8) : bits .or .u8 (x.toNat : Int) (y.toNat : Int) = ((x ||| y).toNat : Int) := by
  show IntKind.u8.wrap ((BitVec.ofInt 8 (x.toNat : Int) ||| BitVec.ofInt 8 (y.toNat : Int)).toNat : Int) = _
  rw [ofInt8, ofInt8]
  exact wrap8 (x ||| y)
theorem band8 (x y : UInt8) : bits .and .u8 (x.toNat : Int) (y.toNat : Int) = ((x &&& y).toNat : Int) := by
  show IntKind.u8.wrap ((BitVec.ofInt 8 (x.toNat : Int) &&& BitVec.ofInt 8 (y.toNat : Int)).toNat : Int) = _
  rw [ofInt8, ofInt8]
  exact wrap8 (x &&& y)
theorem pow8 : ∀ r : Fin 8, IntKind.u8.wrap (2 ^ r.val) = ((UInt8.ofNat (2 ^ r.val)).toNat : Int) ∧ IntKind.u8.wrap (1 * 2 ^ r.val) = ((UInt8.ofNat (2 ^ r.val)).toNat : Int) ∧ (2 ^ r.val : Int) % 256 = ((UInt8.ofNat (2 ^ r.val)).toNat : Int) ∧ (UInt8.ofNat (2 ^ r.val)).toNat = 2 ^ r.val := by decide +kernel
theorem need_any (n : Nat) (hn : n ≤ 1000000000000) (w : World) : Calls Try.prog 19 #[.int .i64 (n : Int)] w fun e w' => e = .returned (.int .i64 (((n + 7) / 8 : Nat) : Int)) ∧ w = w' := by
  have p : ((n : Int) + 8 - 1).tdiv 8 = (((n + 7) / 8 : Nat) : Int) := by rw [Int.tdiv_eq_ediv_of_nonneg (by omega)]; omega
  have p2 : ((n : Int) + 8 - 1) / 8 = (((n + 7) / 8 : Nat) : Int) := by omega
  go_enter Try.func19, Try.ntmps19
  go_wp2_with fail
  go_ret
  exact ⟨by first | rfl | (simp; omega), rfl⟩

/-- how many are 1 -/
def cntB (l : List Bool) : Nat := l.count true
theorem cntB_snoc (l : List Bool) (x : Bool) : cntB (l ++ [x]) = cntB l + x.toNat := by cases x <;> simp [cntB]
theorem cntB_le (l : List Bool) : cntB l ≤ l.length := List.count_le_length
theorem count1_any (x : Bool) (w : World) : Calls Try.prog 21 #[.bool x] w fun e w' => e = .returned (.bool x) ∧ w = w' := by
  go_enter Try.func21, Try.ntmps21
  go_wp2_with fail
  go_ret
  exact ⟨rfl, rfl⟩

set_option maxRecDepth 100000 in
set_option maxHeartbeats 1000000 in
theorem counts_any (B : Nat) (A : Option Addr) (n c : Nat) (xs : List Bool) (w : World) (h : Reads w B 1 A n (xs.map Value.bool)) (hn : n ≤ 1000000000000) :
    Calls Try.prog 20 #[.slice A n c, .func (.func 21) #[] #[]] w fun e w' => e = .returned (.int .i64 (cntB xs : Int)) ∧ w = w' := by
  have hl : xs.length = n := by simpa using h.1
  have HL := Lib.hid hl; clear hl
  go_enter Try.func20, Try.ntmps20
  go_wp2_with fail
  go_loopw [5, 10] (fun t i wr => ∃ k m : Nat, i = .int .i64 (k : Int) ∧ k ≤ n ∧ t = .int .i64 (m : Int) ∧ m ≤ k ∧ Hid (m = cntB (xs.take k)) ∧ w = wr) (fun _ i _ => n - (intOf i).toNat)
  case atStart => exact ⟨0, 0, rfl, by omega, rfl, by omega, rfl, rfl⟩
  case round =>
    obtain ⟨k, m, rfl, hk, rfl, hm, hcn, rfl⟩ := hrel
    by_cases hlt : k < n
    · obtain ⟨b, off, rfl, hbb, hc⟩ := h.bools hlt
      have hck := hc k hlt
      have hst : cntB (xs.take (k + 1)) = cntB (xs.take k) + (xs.getD k false).toNat := by rw [take_next xs k (by have := HL.out; omega) false, cntB_snoc]
      generalize xs.getD k false = x at *
      have HS := Lib.hid hst
      clear hc hst
      have hcall := fun w => count1_any x w
      cases x
      · go_wp2_with fail
        refine (hcall _).mono ?_
        rintro e w' ⟨rfl, rfl⟩
        go_wp2_with fail
        go_roundw
        case rel => exact ⟨k + 1, m, by simp, by omega, rfl, by omega, by show m = _; rw [HS.out, ← hcn.out]; rfl, by trivial⟩
        case measure => simp [intOf]; omega
      · go_wp2_with fail
        refine (hcall _).mono ?_
        rintro e w' ⟨rfl, rfl⟩
        go_wp2_with fail
        go_roundw
        case rel => exact ⟨k + 1, m + 1, by simp, by omega, by simp, by omega, by show m + 1 = _; rw [HS.out, ← hcn.out]; rfl, by trivial⟩
        case measure => simp [intOf]; omega
    · have ht : xs.take k = xs := List.take_of_length_le (by have := HL.out; omega)
      rw [ht] at hcn
      have hfin : decide ((k : Int) < (n : Int)) = false := by simp; omega
      have hfin2 : decide (k < n) = false := by simp; omega
      clear ht
      go_wp2_with fail
      go_ret
      exact ⟨by rw [← hcn.out]; rfl, rfl⟩
theorem countB_any (B : Nat) (A : Option Addr) (n c : Nat) (xs : List Bool) (w : World) (h : Reads w B 1 A n (xs.map Value.bool)) (hn : n ≤ 1000000000000) :
    Calls Try.prog 12 #[.slice A n c] w fun e w' => e = .returned (.int .i64 (cntB xs : Int)) ∧ w = w' := by
  go_enter Try.func12, Try.ntmps12
  go_wp2_with fail
  refine (counts_any B A n c xs _ h hn).mono ?_
  rintro e w' ⟨rfl, rfl⟩
  go_wp2_with fail
  go_ret
  exact ⟨rfl, rfl⟩

set_option maxRecDepth 100000 in
set_option maxHeartbeats 1000000 in
theorem countR_any (B : Nat) (A : Option Addr) (n c : Nat) (xs : List Bool) (w : World) (h : Reads w B 1 A n (xs.map Value.bool)) (hn : n ≤ 1000000000000) :
    Calls Try.prog 9 #[.slice A n c] w fun e w' => e = .returned (.int .i64 (cntB xs : Int)) ∧ w = w' := by
  have hl : xs.length = n := by simpa using h.1
  have HL := Lib.hid hl; clear hl
  go_enter Try.func9, Try.ntmps9
  go_wp2_with fail
  go_loopw [3, 4] (fun t i wr => ∃ k m : Nat, i = .int .i64 (k : Int) ∧ k ≤ n ∧ t = .int .i64 (m : Int) ∧ m ≤ k ∧ Hid (m = cntB (xs.take k)) ∧ w = wr) (fun _ i _ => n - (intOf i).toNat)
  case atStart => exact ⟨0, 0, rfl, by omega, rfl, by omega, rfl, rfl⟩
  case round =>
    obtain ⟨k, m, rfl, hk, rfl, hm, hcn, rfl⟩ := hrel
    by_cases hlt : k < n
    · obtain ⟨b, off, rfl, hbb, hc⟩ := h.bools hlt
      have hck := hc k hlt
      have hst : cntB (xs.take (k + 1)) = cntB (xs.take k) + (xs.getD k false).toNat := by rw [take_next xs k (by have := HL.out; omega) false, cntB_snoc]
      generalize xs.getD k false = x at *
      have HS := Lib.hid hst
      clear hc hst
      cases x
      · go_wp2_with fail
        go_roundw
        case rel => exact ⟨k + 1, m, by simp, by omega, rfl, by omega, by show m = _; rw [HS.out, ← hcn.out]; rfl, by trivial⟩
        case measure => simp [intOf]; omega
      · go_wp2_with fail
        go_roundw
        case rel => exact ⟨k + 1, m + 1, by simp, by omega, by simp, by omega, by show m + 1 = _; rw [HS.out, ← hcn.out]; rfl, by trivial⟩
        case measure => simp [intOf]; omega
    · have ht : xs.take k = xs := List.take_of_length_le (by have := HL.out; omega)
      rw [ht] at hcn
      have hfin : decide ((k : Int) < (n : Int)) = false := by simp; omega
      have hfin2 : decide (k < n) = false := by simp; omega
      clear ht
      go_wp2_with fail
      go_ret
      exact ⟨by rw [← hcn.out]; rfl, rfl⟩

set_option maxRecDepth 100000 in
set_option maxHeartbeats 1000000 in
theorem pack_any (B : Nat) (A : Option Addr) (n c : Nat) (xs : List Bool) (w : World) (hB : B ≤ w.heap.size) (h : Reads w B 1 A n (xs.map Value.bool)) (hn : n ≤ 1000000) :
    Calls Try.prog 11 #[.slice A n c] w fun e w' => e = .returned (.string ⟨(packL xs).toArray⟩) ∧ w.grownBy w' none := by
  have hl : xs.length = n := by simpa using h.1
  obtain ⟨m, hm⟩ : ∃ m, (n + 7) / 8 = m := ⟨_, rfl⟩
  have hpk : packL xs = packW m xs := by unfold packL; rw [hl, hm]
  have hneed := need_any n (by omega) w
  rw [hm] at hneed
  have hmk := make_u8 m (by omega) w
  have hm1 : n ≤ 8 * m := by omega
  have hm2 : m ≤ 200000 := by omega
  have hO := Blk.new w 5 (bytesC (List.replicate m 0))
  have hG : w.grownBy (w.alloc (.cells (bytesC (List.replicate m 0)) 5)) none := only_alloc (World.grownBy.refl _ _) _
  rw [← packW_nil] at hO hG hmk
  have HL := Lib.hid hl; have HPK := Lib.hid hpk
  clear hl hpk hm
  go_enter Try.func11, Try.ntmps11
  go_wp2_with fail
  refine hneed.mono ?_
  rintro e w' ⟨rfl, rfl⟩
  generalize hw1 : w.alloc (.cells (bytesC (packW m [])) 5) = w1 at *
  have hgz : w.heap.size < w1.heap.size := hO.lt
  clear hw1 hneed
  go_wp2_with fail
  go_loopw [12] (fun i wr => ∃ k : Nat, i = .int .i64 (k : Int) ∧ k ≤ n ∧ Blk wr w.heap.size 5 (bytesC (packW m (xs.take k))) ∧ w.grownBy wr none) (fun i _ => n - (intOf i).toNat)
  case atStart => exact ⟨0, rfl, by omega, hO, hG⟩
  case round =>
    clear hO hG hmk
    obtain ⟨k, rfl, hk, hO, hG⟩ := hrel
    by_cases hlt : k < n
    · obtain ⟨b, off, rfl, hbb, hc⟩ := (h.grown hG hB (by simp)).bools hlt
      have hck := hc k hlt
      have htk : xs.take (k + 1) = xs.take k ++ [xs.getD k false] := take_next xs k (by have := HL.out; omega) false
      have hkl : (xs.take k).length = k := by rw [List.length_take]; have := HL.out; omega
      generalize xs.getD k false = x at *
      generalize xs.take k = l at *
      have hbw : b ≠ w.heap.size := by omega
      clear hc
      cases x
      · have hpf : packW m (xs.take (k + 1)) = packW m l := by rw [htk, packW_false]
        have HS := Lib.hid hpf
        clear hpf htk
        go_wp2_with fail
        go_roundw
        case rel => exact ⟨k + 1, by simp, by omega, by rw [HS.out]; exact hO, hG⟩
        case measure => simp [intOf]; omega
      · obtain ⟨q, hq⟩ : ∃ q, k / 8 = q := ⟨_, rfl⟩
        obtain ⟨r, hr⟩ : ∃ r, k % 8 = r := ⟨_, rfl⟩
        obtain ⟨j, hj⟩ : ∃ j, m - 1 - q = j := ⟨_, rfl⟩
        obtain ⟨m1, hm1'⟩ : ∃ j, m - 1 = j := ⟨_, rfl⟩
        obtain ⟨v, hv⟩ : ∃ v, (packW m l).getD j 0 = v := ⟨_, rfl⟩
        have hq1 : q < m := by omega
        have hr8 : r < 8 := by omega
        have key := packW_true m l (by rw [hkl, hq]; exact hq1) v (by rw [hkl, hq, hj]; exact hv)
        rw [hkl, hq, hj, hr, ← htk] at key
        obtain ⟨k1, k2, k3⟩ := key
        obtain ⟨y1, y2, y3, y4⟩ := pow8 ⟨r, hr8⟩
        simp only at y1 y2 y3 y4
        obtain ⟨y, hy⟩ : ∃ y, UInt8.ofNat (2 ^ r) = y := ⟨_, rfl⟩
        obtain ⟨z, hz⟩ : ∃ z, v ||| y = z := ⟨_, rfl⟩
        rw [hy] at y1 y2 y3 y4 k1 k3
        rw [hz] at k1 k3
        have p0 := bor8 v y
        rw [hz] at p0
        have p0' : IntKind.u8.wrap ((v.toNat : Int) + (y.toNat : Int)) = (z.toNat : Int) := by
          have e : (v.toNat : Int) + (y.toNat : Int) = (z.toNat : Int) := by omega
          rw [e]; exact wrap8 z
        have e0 : (v.toNat : Int) + (y.toNat : Int) = (z.toNat : Int) := by omega
        have f1 : wr.cell? ⟨w.heap.size, j, none⟩ = some (.int .u8 (v.toNat : Int)) := by
          rw [bytesC_cell hO j (by rw [packW_len]; omega), hv]
        have f2 := hO.frozen j
        have p1 : (k : Int).tdiv 8 = (q : Int) := by rw [Int.tdiv_eq_ediv_of_nonneg (by omega)]; omega
        have p2 : IntKind.i64.wrap (q : Int) = (q : Int) := IntWalk.i64_in _ (by omega)
        have p3 : (k : Int).tmod 8 = (r : Int) := by rw [Int.tmod_eq_emod_of_nonneg (by omega)]; omega
        have p4 : IntKind.i64.wrap ((m : Int) - 1) = (m1 : Int) := by rw [IntWalk.i64_in _ (by omega)]; omega
        have p5 : IntKind.i64.wrap ((m1 : Int) - (q : Int)) = (j : Int) := by rw [IntWalk.i64_in _ (by omega)]; omega
        have p6 : IntKind.u64.wrap (r : Int) = (r : Int) := wrap_u r (by omega)
        have q1 : (j : Int) < (m : Int) := by omega
        have q2 : (k : Int) < (n : Int) := by omega
        have HS := Lib.hid k1
        have hO2 := hO.set_ j (.int .u8 (z.toNat : Int))
        rw [bytesC_setI, ← HS.out] at hO2
        clear hq hr hj hm1' hv hy hz htk k1 k2 k3 y4 hm1
        go_wp2_with fail
        go_still_tail 14, (by kernel_rfl)
        clear p0 p1 p2 p3 p4 p5 p6 y1 y2 y3 e0 p0'
        repeat go_step
        go_roundw
        case rel => exact ⟨k + 1, by simp, by omega, hO2, only_drew (only_set hG (p := ⟨w.heap.size, j, none⟩) (Nat.le_refl _) _)⟩
        case measure => simp [intOf]; omega
    · have ht : xs.take k = xs := List.take_of_length_le (by have := HL.out; omega)
      rw [ht, ← HPK.out] at hO
      have hfin : decide ((k : Int) < (n : Int)) = false := by simp; omega
      have hfin2 : decide (k < n) = false := by simp; omega
      have hpl : (packL xs).length = m := by rw [HPK.out, packW_len]
      obtain ⟨L, hL⟩ : ∃ l, packL xs = l := ⟨_, rfl⟩
      rw [hL] at hO hpl
      have hcv := run_convert_bytes_back (P := Try.prog) wr 39 9 5 ⟨w.heap.size, 0, none⟩ m L (by kernel_rfl) (by kernel_rfl) (by kernel_rfl) (fun j hj => by
        have := bytesC_cell hO j hj
        rw [Addr.add_mid, Nat.zero_add, this, List.getD_eq_getElem?_getD, List.getElem?_eq_getElem hj]
        rfl)
      rw [hpl] at hcv
      have HL2 := Lib.hid hL
      clear ht hL hpl
      go_wp2_with fail
      go_ret
      exact ⟨by rw [HL2.out]; rfl, hG⟩

set_option maxRecDepth 100000 in
set_option maxHeartbeats 1000000 in
theorem packR_any (B : Nat) (A : Option Addr) (n c : Nat) (xs : List Bool) (w : World) (hB : B ≤ w.heap.size) (h : Reads w B 1 A n (xs.map Value.bool)) (hn : n ≤ 1000000) :
    Calls Try.prog 8 #[.slice A n c] w fun e w' => e = .returned (.string ⟨(packL xs).toArray⟩) ∧ w.grownBy w' none := by
  have hl : xs.length = n := by simpa using h.1
  obtain ⟨m, hm⟩ : ∃ m, (n + 7) / 8 = m := ⟨_, rfl⟩
  have hpk : packL xs = packW m xs := by unfold packL; rw [hl, hm]
  have HM := Lib.hid hm
  have hmk := make_u8 m (by omega) w
  have hm1 : n ≤ 8 * m := by omega
  have hm2 : m ≤ 200000 := by omega
  have hO := Blk.new w 5 (bytesC (List.replicate m 0))
  have hG : w.grownBy (w.alloc (.cells (bytesC (List.replicate m 0)) 5)) none := only_alloc (World.grownBy.refl _ _) _
  rw [← packW_nil] at hO hG hmk
  have HL := Lib.hid hl; have HPK := Lib.hid hpk
  clear hl hpk hm
  go_enter Try.func8, Try.ntmps8
  have n1 : ((n : Int) + 7).tdiv 8 = (m : Int) := by rw [Int.tdiv_eq_ediv_of_nonneg (by omega)]; have := HM.out; omega
  have n2 : ((n : Int) + 7) / 8 = (m : Int) := by have := HM.out; omega
  go_wp2_with fail
  generalize hw1 : w.alloc (.cells (bytesC (packW m [])) 5) = w1 at *
  have hgz : w.heap.size < w1.heap.size := hO.lt
  clear n1 n2 hw1
  go_loopw [5] (fun i wr => ∃ k : Nat, i = .int .i64 (k : Int) ∧ k ≤ n ∧ Blk wr w.heap.size 5 (bytesC (packW m (xs.take k))) ∧ w.grownBy wr none) (fun i _ => n - (intOf i).toNat)
  case atStart => exact ⟨0, rfl, by omega, hO, hG⟩
  case round =>
    clear hO hG hmk
    obtain ⟨k, rfl, hk, hO, hG⟩ := hrel
    by_cases hlt : k < n
    · obtain ⟨b, off, rfl, hbb, hc⟩ := (h.grown hG hB (by simp)).bools hlt
      have hck := hc k hlt
      have htk : xs.take (k + 1) = xs.take k ++ [xs.getD k false] := take_next xs k (by have := HL.out; omega) false
      have hkl : (xs.take k).length = k := by rw [List.length_take]; have := HL.out; omega
      generalize xs.getD k false = x at *
      generalize xs.take k = l at *
      have hbw : b ≠ w.heap.size := by omega
      clear hc
      cases x
      · have hpf : packW m (xs.take (k + 1)) = packW m l := by rw [htk, packW_false]
        have HS := Lib.hid hpf
        clear hpf htk
        go_wp2_with fail
        go_roundw
        case rel => exact ⟨k + 1, by simp, by omega, by rw [HS.out]; exact hO, hG⟩
        case measure => simp [intOf]; omega
      · obtain ⟨q, hq⟩ : ∃ q, k / 8 = q := ⟨_, rfl⟩
        obtain ⟨r, hr⟩ : ∃ r, k % 8 = r := ⟨_, rfl⟩
        obtain ⟨j, hj⟩ : ∃ j, m - 1 - q = j := ⟨_, rfl⟩
        obtain ⟨m1, hm1'⟩ : ∃ j, m - 1 = j := ⟨_, rfl⟩
        obtain ⟨v, hv⟩ : ∃ v, (packW m l).getD j 0 = v := ⟨_, rfl⟩
        have hq1 : q < m := by omega
        have hr8 : r < 8 := by omega
        have key := packW_true m l (by rw [hkl, hq]; exact hq1) v (by rw [hkl, hq, hj]; exact hv)
        rw [hkl, hq, hj, hr, ← htk] at key
        obtain ⟨k1, k2, k3⟩ := key
        obtain ⟨y1, y2, y3, y4⟩ := pow8 ⟨r, hr8⟩
        simp only at y1 y2 y3 y4
        obtain ⟨y, hy⟩ : ∃ y, UInt8.ofNat (2 ^ r) = y := ⟨_, rfl⟩
        obtain ⟨z, hz⟩ : ∃ z, v ||| y = z := ⟨_, rfl⟩
        rw [hy] at y1 y2 y3 y4 k1 k3
        rw [hz] at k1 k3
        have p0 := bor8 v y
        rw [hz] at p0
        have p0' : IntKind.u8.wrap ((v.toNat : Int) + (y.toNat : Int)) = (z.toNat : Int) := by
          have e : (v.toNat : Int) + (y.toNat : Int) = (z.toNat : Int) := by omega
          rw [e]; exact wrap8 z
        have e1 : (z.toNat : Int) % 256 = (z.toNat : Int) := by have := z.toNat_lt; omega
        have e0 : (v.toNat : Int) + (y.toNat : Int) = (z.toNat : Int) := by omega
        have f1 : wr.cell? ⟨w.heap.size, j, none⟩ = some (.int .u8 (v.toNat : Int)) := by
          rw [bytesC_cell hO j (by rw [packW_len]; omega), hv]
        have f2 := hO.frozen j
        have p1 : (k : Int).tdiv 8 = (q : Int) := by rw [Int.tdiv_eq_ediv_of_nonneg (by omega)]; omega
        have p2 : IntKind.i64.wrap (q : Int) = (q : Int) := IntWalk.i64_in _ (by omega)
        have p3 : (k : Int).tmod 8 = (r : Int) := by rw [Int.tmod_eq_emod_of_nonneg (by omega)]; omega
        have p4 : IntKind.i64.wrap ((m : Int) - 1) = (m1 : Int) := by rw [IntWalk.i64_in _ (by omega)]; omega
        have p5 : IntKind.i64.wrap ((m1 : Int) - (q : Int)) = (j : Int) := by rw [IntWalk.i64_in _ (by omega)]; omega
        have p6 : IntKind.u64.wrap (r : Int) = (r : Int) := wrap_u r (by omega)
        have q1 : (j : Int) < (m : Int) := by omega
        have q2 : (k : Int) < (n : Int) := by omega
        have HS := Lib.hid k1
        have hO2 := hO.set_ j (.int .u8 (z.toNat : Int))
        rw [bytesC_setI, ← HS.out] at hO2
        clear hq hr hj hm1' hv hy hz htk k1 k2 k3 y4 hm1
        go_wp2_with fail
        clear p0 p1 p2 p3 p4 p5 p6 y1 y2 y3 e0 e1 p0'
        go_roundw
        case rel => exact ⟨k + 1, by simp, by omega, hO2, only_set hG (p := ⟨w.heap.size, j, none⟩) (Nat.le_refl _) _⟩
        case measure => simp [intOf]; omega
    · have ht : xs.take k = xs := List.take_of_length_le (by have := HL.out; omega)
      rw [ht, ← HPK.out] at hO
      have hfin : decide ((k : Int) < (n : Int)) = false := by simp; omega
      have hfin2 : decide (k < n) = false := by simp; omega
      have hpl : (packL xs).length = m := by rw [HPK.out, packW_len]
      obtain ⟨L, hL⟩ : ∃ l, packL xs = l := ⟨_, rfl⟩
      rw [hL] at hO hpl
      have hcv := run_convert_bytes_back (P := Try.prog) wr 39 9 5 ⟨w.heap.size, 0, none⟩ m L (by kernel_rfl) (by kernel_rfl) (by kernel_rfl) (fun j hj => by
        have := bytesC_cell hO j hj
        rw [Addr.add_mid, Nat.zero_add, this, List.getD_eq_getElem?_getD, List.getElem?_eq_getElem hj]
        rfl)
      rw [hpl] at hcv
      have HL2 := Lib.hid hL
      clear ht hL hpl
      go_wp2_with fail
      go_ret
      exact ⟨by rw [HL2.out]; rfl, hG⟩
end Go.Proofs.Ytdeeclmmfhppgaa
