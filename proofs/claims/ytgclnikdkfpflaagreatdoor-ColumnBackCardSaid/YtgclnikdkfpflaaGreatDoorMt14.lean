/- Merged: BitsW, CoN, CoO, CgA. -/
import Derived.Test.YtgclnikdkfpflaaGreatDoorMt1
import Derived.Test.YtgclnikdkfpflaaGreatDoorMt2
import Derived.Test.YtgclnikdkfpflaaGreatDoorMt10
import Derived.Test.YtgclnikdkfpflaaGreatDoorMt13
namespace Go.Proofs.YtgclnikdkfpflaaGreatDoor
open Go.RowKit Go.Shelf
open List renaming set_cons_zero → jz, set_cons_succ → js, setIfInBounds_toArray → jb
set_option linter.unusedVariables false
set_option linter.unusedSimpArgs false
set_option maxRecDepth 100000
set_option maxHeartbeats 16000000
theorem Reads.bools {w : World} {B n k : Nat} {A : Option Addr} {xs : List Bool} (h : Reads w B 1 A n (xs.map Value.bool)) (hk : k < n) :
  ∃ b off, A = some ⟨b, off, none⟩ ∧ b < B ∧ ∀ j, j < n → w.cell? ⟨b, off + j, none⟩ = some (.bool (xs.getD j false)) := by
 have hl := h.1
 simp at hl
 have key : ∀ j, j < n → (xs.map Value.bool)[j]? = some (.bool (xs.getD j false)) := by
  intro j hj
  rw [List.getElem?_map, List.getElem?_eq_getElem (by omega), List.getD_eq_getElem?_getD, List.getElem?_eq_getElem (by omega)]
  rfl
 obtain ⟨ad, rfl, hb, hc⟩ := h.2 (by omega)
 have h0 := hc 0 _ (key 0 (by omega))
 have e : ad = ⟨ad.block, ad.off, none⟩ := lit_of_cell (a := ad) (by simpa [Addr.add] using h0)
 refine ⟨ad.block, ad.off, by rw [← e], hb, fun j hj => ?_⟩
 have := hc j _ (key j hj)
 rw [e] at this
 unfold Addr.add at this
 by_cases hj0 : j = 0
 ·subst hj0; simpa using this
 ·simpa [hj0] using this
theorem ofInt8 (x : UInt8) : BitVec.ofInt 8 (x.toNat : Int) = x.toBitVec := by
 apply BitVec.eq_of_toNat_eq
 rw [BitVec.ofInt_natCast, BitVec.toNat_ofNat, Nat.mod_eq_of_lt x.toNat_lt]
 rfl
theorem wrap8 (x : UInt8) : IntKind.u8.wrap (x.toNat : Int) = (x.toNat : Int) := by
 have := x.toNat_lt
 simp [IntKind.wrap, IntKind.bits, IntKind.signed]
 omega
theorem bor8 (x y : UInt8) : bits .or .u8 (x.toNat : Int) (y.toNat : Int) = ((x ||| y).toNat : Int) := by
 show IntKind.u8.wrap ((BitVec.ofInt 8 (x.toNat : Int) ||| BitVec.ofInt 8 (y.toNat : Int)).toNat : Int) = _
 rw [ofInt8, ofInt8]
 exact wrap8 (x ||| y)
theorem band8 (x y : UInt8) : bits .and .u8 (x.toNat : Int) (y.toNat : Int) = ((x &&& y).toNat : Int) := by
 show IntKind.u8.wrap ((BitVec.ofInt 8 (x.toNat : Int) &&& BitVec.ofInt 8 (y.toNat : Int)).toNat : Int) = _
 rw [ofInt8, ofInt8]
 exact wrap8 (x &&& y)
theorem pow8 : ∀ r : Fin 8, IntKind.u8.wrap (2 ^ r.val) = ((UInt8.ofNat (2 ^ r.val)).toNat : Int) ∧ IntKind.u8.wrap (1 * 2 ^ r.val) = ((UInt8.ofNat (2 ^ r.val)).toNat : Int) ∧ (2 ^ r.val : Int) % 256 = ((UInt8.ofNat (2 ^ r.val)).toNat : Int) ∧ (UInt8.ofNat (2 ^ r.val)).toNat = 2 ^ r.val := by decide +kernel
theorem need_any (n : Nat) (hn : n ≤ 1000000000000) (w : World) : Calls Tryz.prog 67 #[.int .i64 (n : Int)] w fun e w' => e = .returned (.int .i64 (((n + 7) / 8 : Nat) : Int)) ∧ w = w' := by
 have p : ((n : Int) + 8 - 1).tdiv 8 = (((n + 7) / 8 : Nat) : Int) := by rw [Int.tdiv_eq_ediv_of_nonneg (by omega)]; omega
 have p2 : ((n : Int) + 8 - 1) / 8 = (((n + 7) / 8 : Nat) : Int) := by omega
 go_enter Tryz.func67, Tryz.ntmps67
 go_wp2_with fail
 go_ret
 exact ⟨by first | rfl | (simp; omega), rfl⟩
def cntB (l : List Bool) : Nat := l.count true
theorem cntB_snoc (l : List Bool) (x : Bool) : cntB (l ++ [x]) = cntB l + x.toNat := by cases x <;> simp [cntB]
theorem cntB_le (l : List Bool) : cntB l ≤ l.length := List.count_le_length
theorem count1_any (x : Bool) (w : World) : Calls Tryz.prog 83 #[.bool x] w fun e w' => e = .returned (.bool x) ∧ w = w' := by
 go_enter Tryz.func83, Tryz.ntmps83
 go_wp2_with fail
 go_ret
 exact ⟨rfl, rfl⟩
theorem counts_any (B : Nat) (A : Option Addr) (n c : Nat) (xs : List Bool) (w : World) (h : Reads w B 1 A n (xs.map Value.bool)) (hn : n ≤ 1000000000000) :
  Calls Tryz.prog 82 #[.slice A n c, .func (.func 83) #[] #[]] w fun e w' => e = .returned (.int .i64 (cntB xs : Int)) ∧ w = w' := by
 have hl : xs.length = n := by simpa using h.1
 have HL := Lib.hid hl; clear hl
 go_enter Tryz.func82, Tryz.ntmps82
 go_wp2_with fail
 go_loopw [5, 10] (fun t i wr => ∃ k m : Nat, i = .int .i64 (k : Int) ∧ k ≤ n ∧ t = .int .i64 (m : Int) ∧ m ≤ k ∧ Hid (m = cntB (xs.take k)) ∧ w = wr) (fun _ i _ => n - (intOf i).toNat)
 case atStart => exact ⟨0, 0, rfl, by omega, rfl, by omega, rfl, rfl⟩
 case round =>
  obtain ⟨k, m, rfl, hk, rfl, hm, hcn, rfl⟩ := hrel
  by_cases hlt : k < n
  ·obtain ⟨b, off, rfl, hbb, hc⟩ := h.bools hlt
   have hck := hc k hlt
   have hst : cntB (xs.take (k + 1)) = cntB (xs.take k) + (xs.getD k false).toNat := by rw [take_next xs k (by have := HL.out; omega) false, cntB_snoc]
   generalize xs.getD k false = x at *
   have HS := Lib.hid hst
   clear hc hst
   have hcall := fun w => count1_any x w
   cases x
   ·go_wp2_with fail
    refine (hcall _).mono ?_
    rintro e w' ⟨rfl, rfl⟩
    go_wp2_with fail
    go_roundw
    case rel => exact ⟨k + 1, m, by simp, by omega, rfl, by omega, by show m = _; rw [HS.out, ← hcn.out]; rfl, by trivial⟩
    case measure => simp [intOf]; omega
   ·go_wp2_with fail
    refine (hcall _).mono ?_
    rintro e w' ⟨rfl, rfl⟩
    go_wp2_with fail
    go_roundw
    case rel => exact ⟨k + 1, m + 1, by simp, by omega, by simp, by omega, by show m + 1 = _; rw [HS.out, ← hcn.out]; rfl, by trivial⟩
    case measure => simp [intOf]; omega
  ·have ht : xs.take k = xs := List.take_of_length_le (by have := HL.out; omega)
   rw [ht] at hcn
   have hfin : decide ((k : Int) < (n : Int)) = false := by simp; omega
   have hfin2 : decide (k < n) = false := by simp; omega
   clear ht
   go_wp2_with fail
   go_ret
   exact ⟨by rw [← hcn.out]; rfl, rfl⟩
theorem countB_any (B : Nat) (A : Option Addr) (n c : Nat) (xs : List Bool) (w : World) (h : Reads w B 1 A n (xs.map Value.bool)) (hn : n ≤ 1000000000000) :
  Calls Tryz.prog 50 #[.slice A n c] w fun e w' => e = .returned (.int .i64 (cntB xs : Int)) ∧ w = w' := by
 go_enter Tryz.func50, Tryz.ntmps50
 go_wp2_with fail
 refine (counts_any B A n c xs _ h hn).mono ?_
 rintro e w' ⟨rfl, rfl⟩
 go_wp2_with fail
 go_ret
 exact ⟨rfl, rfl⟩
theorem pack_any (B : Nat) (A : Option Addr) (n c : Nat) (xs : List Bool) (w : World) (hB : B ≤ w.heap.size) (h : Reads w B 1 A n (xs.map Value.bool)) (hn : n ≤ 1000000) :
  Calls Tryz.prog 21 #[.slice A n c] w fun e w' => e = .returned (.string ⟨(packL xs).toArray⟩) ∧ w.grownBy w' none := by
 have hl : xs.length = n := by simpa using h.1
 obtain ⟨m, hm⟩ : ∃ m, (n + 7) / 8 = m := ⟨_, rfl⟩
 have hpk : packL xs = packW m xs := by unfold packL; rw [hl, hm]
 have hneed := need_any n (by omega) w
 rw [hm] at hneed
 have hmk := make_u8 m (by omega) w
 have hm1 : n ≤ 8 * m := by omega
 have hm2 : m ≤ 200000 := by omega
 have hO := Blk.new w 5 (bytesC (List.replicate m 0))
 have hG : w.grownBy (w.alloc (.cells (bytesC (List.replicate m 0)) 5)) none := only_alloc (World.grownBy.refl _ _) _
 rw [← packW_nil] at hO hG hmk
 have HL := Lib.hid hl; have HPK := Lib.hid hpk
 clear hl hpk hm
 go_enter Tryz.func21, Tryz.ntmps21
 go_wp2_with fail
 refine hneed.mono ?_
 rintro e w' ⟨rfl, rfl⟩
 generalize hw1 : w.alloc (.cells (bytesC (packW m [])) 5) = w1 at *
 have hgz : w.heap.size < w1.heap.size := hO.lt
 clear hw1 hneed
 go_wp2_with fail
 go_loopw [12] (fun i wr => ∃ k : Nat, i = .int .i64 (k : Int) ∧ k ≤ n ∧ Blk wr w.heap.size 5 (bytesC (packW m (xs.take k))) ∧ w.grownBy wr none) (fun i _ => n - (intOf i).toNat)
 case atStart => exact ⟨0, rfl, by omega, hO, hG⟩
 case round =>
  clear hO hG hmk
  obtain ⟨k, rfl, hk, hO, hG⟩ := hrel
  by_cases hlt : k < n
  ·obtain ⟨b, off, rfl, hbb, hc⟩ := (h.grown hG hB (by simp)).bools hlt
   have hck := hc k hlt
   have htk : xs.take (k + 1) = xs.take k ++ [xs.getD k false] := take_next xs k (by have := HL.out; omega) false
   have hkl : (xs.take k).length = k := by rw [List.length_take]; have := HL.out; omega
   generalize xs.getD k false = x at *
   generalize xs.take k = l at *
   have hbw : b ≠ w.heap.size := by omega
   clear hc
   cases x
   ·have hpf : packW m (xs.take (k + 1)) = packW m l := by rw [htk, packW_false]
    have HS := Lib.hid hpf
    clear hpf htk
    go_wp2_with fail
    go_roundw
    case rel => exact ⟨k + 1, by simp, by omega, by rw [HS.out]; exact hO, hG⟩
    case measure => simp [intOf]; omega
   ·obtain ⟨q, hq⟩ : ∃ q, k / 8 = q := ⟨_, rfl⟩
    obtain ⟨r, hr⟩ : ∃ r, k % 8 = r := ⟨_, rfl⟩
    obtain ⟨j, hj⟩ : ∃ j, m - 1 - q = j := ⟨_, rfl⟩
    obtain ⟨m1, hm1'⟩ : ∃ j, m - 1 = j := ⟨_, rfl⟩
    obtain ⟨v, hv⟩ : ∃ v, (packW m l).getD j 0 = v := ⟨_, rfl⟩
    have hq1 : q < m := by omega
    have hr8 : r < 8 := by omega
    have key := packW_true m l (by rw [hkl, hq]; exact hq1) v (by rw [hkl, hq, hj]; exact hv)
    rw [hkl, hq, hj, hr, ← htk] at key
    obtain ⟨k1, k2, k3⟩ := key
    obtain ⟨y1, y2, y3, y4⟩ := pow8 ⟨r, hr8⟩
    simp only at y1 y2 y3 y4
    obtain ⟨y, hy⟩ : ∃ y, UInt8.ofNat (2 ^ r) = y := ⟨_, rfl⟩
    obtain ⟨z, hz⟩ : ∃ z, v ||| y = z := ⟨_, rfl⟩
    rw [hy] at y1 y2 y3 y4 k1 k3
    rw [hz] at k1 k3
    have p0 := bor8 v y
    rw [hz] at p0
    have p0' : IntKind.u8.wrap ((v.toNat : Int) + (y.toNat : Int)) = (z.toNat : Int) := by
     have e : (v.toNat : Int) + (y.toNat : Int) = (z.toNat : Int) := by omega
     rw [e]; exact wrap8 z
    have e0 : (v.toNat : Int) + (y.toNat : Int) = (z.toNat : Int) := by omega
    have f1 : wr.cell? ⟨w.heap.size, j, none⟩ = some (.int .u8 (v.toNat : Int)) := by
     rw [bytesC_cell hO j (by rw [packW_len]; omega), hv]
    have f2 := hO.frozen j
    have p1 : (k : Int).tdiv 8 = (q : Int) := by rw [Int.tdiv_eq_ediv_of_nonneg (by omega)]; omega
    have p2 : IntKind.i64.wrap (q : Int) = (q : Int) := IntWalk.i64_in _ (by omega)
    have p3 : (k : Int).tmod 8 = (r : Int) := by rw [Int.tmod_eq_emod_of_nonneg (by omega)]; omega
    have p4 : IntKind.i64.wrap ((m : Int) - 1) = (m1 : Int) := by rw [IntWalk.i64_in _ (by omega)]; omega
    have p5 : IntKind.i64.wrap ((m1 : Int) - (q : Int)) = (j : Int) := by rw [IntWalk.i64_in _ (by omega)]; omega
    have p6 : IntKind.u64.wrap (r : Int) = (r : Int) := wrap_u r (by omega)
    have q1 : (j : Int) < (m : Int) := by omega
    have q2 : (k : Int) < (n : Int) := by omega
    have HS := Lib.hid k1
    have hO2 := hO.set_ j (.int .u8 (z.toNat : Int))
    rw [bytesC_setI, ← HS.out] at hO2
    clear hq hr hj hm1' hv hy hz htk k1 k2 k3 y4 hm1
    go_wp2_with fail
    go_still_tail 14, (by kernel_rfl)
    clear p0 p1 p2 p3 p4 p5 p6 y1 y2 y3 e0 p0'
    repeat go_step
    go_roundw
    case rel => exact ⟨k + 1, by simp, by omega, hO2, only_drew (only_set hG (p := ⟨w.heap.size, j, none⟩) (Nat.le_refl _) _)⟩
    case measure => simp [intOf]; omega
  ·have ht : xs.take k = xs := List.take_of_length_le (by have := HL.out; omega)
   rw [ht, ← HPK.out] at hO
   have hfin : decide ((k : Int) < (n : Int)) = false := by simp; omega
   have hfin2 : decide (k < n) = false := by simp; omega
   have hpl : (packL xs).length = m := by rw [HPK.out, packW_len]
   obtain ⟨L, hL⟩ : ∃ l, packL xs = l := ⟨_, rfl⟩
   rw [hL] at hO hpl
   have hcv := run_convert_bytes_back (P := Tryz.prog) wr 43 9 5 ⟨w.heap.size, 0, none⟩ m L (by kernel_rfl) (by kernel_rfl) (by kernel_rfl) (fun j hj => by
    have := bytesC_cell hO j hj
    rw [Addr.add_mid, Nat.zero_add, this, List.getD_eq_getElem?_getD, List.getElem?_eq_getElem hj]
    rfl)
   rw [hpl] at hcv
   have HL2 := Lib.hid hL
   clear ht hL hpl
   go_wp2_with fail
   go_ret
   exact ⟨by rw [HL2.out]; rfl, hG⟩
theorem own_cap {w : World} {base : Nat} {e : TypeId} {n m c : Nat} {A : Option Addr} {xs : List Value} (h : w.ownsRow base e 1 (.slice A n c) m xs) : n ≤ c := by
 rcases h.2 with ⟨h1, _⟩ | ⟨g, cap, cur, hv, _, _, hn, _⟩
 ·injection h1 with _ h2 h3; omega
 ·injection hv with _ h2 h3; omega
theorem kindB_any (f : FuncId) (vf : TxV → Bool) (pf : TxV → Bool) (hf : ∀ (V : World) (v : Value), (callFunc f #[v]).run Tryz.prog V = .ok (.enter f #[v]) V) (B : Nat) (A : Option Addr) (n c b : Nat) (ls : List TxV) (w : World) (h : TxsR B w ls A n) (hB : B ≤ w.heap.size) (hn : n ≤ 1000)
  (hbx : Boxed w b 22 (.slice A n c)) (hF : tells f (fun x => .tuple #[.bool (vf x), .bool (pf x)]) B ls) :
  Calls Tryz.prog 20 #[.func (.func f) #[] #[], .pointer (some ⟨b, 0, none⟩)] w fun e w' => e = .returned (.string ⟨(packL (colL vf pf ls)).toArray⟩) ∧ w.grownBy w' none := by
 have hcol := columnB_any f vf pf hf B A n c ls w h hB (by omega) hF
 have hlen := colL_len vf pf ls n
 rw [List.take_of_length_le (by rw [h.1]; exact Nat.le_refl _)] at hlen
 have c0 := hbx.cell
 obtain ⟨xs, hxs⟩ : ∃ xs, colL vf pf ls = xs := ⟨_, rfl⟩
 rw [hxs] at hcol hlen ⊢
 have HCOL := Lib.hid hcol; have HLEN := Lib.hid hlen
 have HX := Lib.hid hxs
 clear hF h hB hcol hlen hxs hbx
 go_enter Tryz.func20, Tryz.ntmps20
 go_wp2_with fail
 refine HCOL.out.mono ?_
 rintro e w2 ⟨v, rfl, hown, hg⟩
 obtain ⟨A', cc, rfl, hrd⟩ := own_slice hown
 have hcap := own_cap hown
 have HRD := Lib.hid hrd; have HG := Lib.hid hg; have HCAP := Lib.hid hcap
 obtain ⟨m, hm⟩ : ∃ m, xs.length = m := ⟨_, rfl⟩
 rw [hm] at HRD HLEN HCAP ⊢
 clear hown hg hrd c0 hcap hm
 go_wp2_with fail
 refine (pack_any _ A' m cc xs _ (Nat.le_refl _) HRD.out (by have := HLEN.out; omega)).mono ?_
 rintro e w3 ⟨rfl, hg⟩
 have HG3 := Lib.hid (grown_self HG.out hg (by simp))
 clear hg
 go_wp2_with fail
 go_ret
 exact ⟨rfl, HG3.out⟩
theorem kindN_any (f : FuncId) (vf : TxV → Int) (pf : TxV → Bool) (hf : ∀ (V : World) (v : Value), (callFunc f #[v]).run Tryz.prog V = .ok (.enter f #[v]) V) (B : Nat) (A : Option Addr) (n c b : Nat) (ls : List TxV) (w : World) (h : TxsR B w ls A n) (hB : B ≤ w.heap.size) (hn : n ≤ 1000)
  (hbx : Boxed w b 22 (.slice A n c)) (hF : tells f (fun x => .tuple #[.int .u64 (vf x), .bool (pf x)]) B ls) (hw : ∀ x ∈ ls, 0 ≤ vf x ∧ vf x ≤ 18446744073709551615) :
  Calls Tryz.prog 23 #[.func (.func f) #[] #[], .pointer (some ⟨b, 0, none⟩)] w fun e w' => e = .returned (.string ⟨(rowL (colL vf pf ls)).toArray⟩) ∧ w.grownBy w' none := by
 have hcol := columnN_any f vf pf hf B A n c ls w h hB (by omega) hF
 have hlen := colL_len vf pf ls n
 rw [List.take_of_length_le (by rw [h.1]; exact Nat.le_refl _)] at hlen
 have c0 := hbx.cell
 obtain ⟨xs, hxs⟩ : ∃ xs, colL vf pf ls = xs := ⟨_, rfl⟩
 rw [hxs] at hcol hlen ⊢
 have HCOL := Lib.hid hcol; have HLEN := Lib.hid hlen
 have HX := Lib.hid hxs
 clear hF h hB hcol hlen hxs hbx
 go_enter Tryz.func23, Tryz.ntmps23
 go_wp2_with fail
 refine HCOL.out.mono ?_
 rintro e w2 ⟨v, rfl, hown, hg⟩
 obtain ⟨A', cc, rfl, hrd⟩ := own_slice hown
 have hcap := own_cap hown
 have HRD := Lib.hid hrd; have HG := Lib.hid hg; have HCAP := Lib.hid hcap
 obtain ⟨m, hm⟩ : ∃ m, xs.length = m := ⟨_, rfl⟩
 rw [hm] at HRD HLEN HCAP ⊢
 clear hown hg hrd c0 hcap hm
 go_wp2_with fail
 refine (row_any _ A' m cc xs _ (Nat.le_refl _) HRD.out (by rw [← HX.out]; intro x hx; unfold colL at hx; obtain ⟨t, ht, rfl⟩ := List.mem_map.1 hx; exact hw t (List.mem_filter.1 ht).1) (by have := HLEN.out; omega)).mono ?_
 rintro e w3 ⟨rfl, hg⟩
 have HG3 := Lib.hid (grown_self HG.out (grown_of_below hg) (by simp))
 clear hg
 go_wp2_with fail
 go_ret
 exact ⟨rfl, HG3.out⟩
theorem kindS_any (f : FuncId) (vf : TxV → ByteArray) (pf : TxV → Bool) (hf : ∀ (V : World) (v : Value), (callFunc f #[v]).run Tryz.prog V = .ok (.enter f #[v]) V) (B : Nat) (A : Option Addr) (n c b : Nat) (ls : List TxV) (w : World) (h : TxsR B w ls A n) (hB : B ≤ w.heap.size) (hn : n ≤ 1000)
  (hbx : Boxed w b 22 (.slice A n c)) (hF : tells f (fun x => .tuple #[.string (vf x), .bool (pf x)]) B ls) (hlc : (catB (colL vf pf ls)).length ≤ 1000000000) :
  Calls Tryz.prog 26 #[.func (.func f) #[] #[], .pointer (some ⟨b, 0, none⟩)] w fun e w' => e = .returned (.string ⟨(catB (colL vf pf ls)).toArray⟩) ∧ w.grownBy w' none := by
 have hcol := columnS_any f vf pf hf B A n c ls w h hB (by omega) hF
 have hlen := colL_len vf pf ls n
 rw [List.take_of_length_le (by rw [h.1]; exact Nat.le_refl _)] at hlen
 have c0 := hbx.cell
 obtain ⟨xs, hxs⟩ : ∃ xs, colL vf pf ls = xs := ⟨_, rfl⟩
 rw [hxs] at hcol hlen ⊢
 have HCOL := Lib.hid hcol; have HLEN := Lib.hid hlen
 have HX := Lib.hid hxs
 clear hF h hB hcol hlen hxs hbx
 go_enter Tryz.func26, Tryz.ntmps26
 go_wp2_with fail
 refine HCOL.out.mono ?_
 rintro e w2 ⟨v, rfl, hown, hg⟩
 obtain ⟨A', cc, rfl, hrd⟩ := own_slice hown
 have hcap := own_cap hown
 have HRD := Lib.hid hrd; have HG := Lib.hid hg; have HCAP := Lib.hid hcap
 obtain ⟨m, hm⟩ : ∃ m, xs.length = m := ⟨_, rfl⟩
 rw [hm] at HRD HLEN HCAP ⊢
 clear hown hg hrd c0 hcap hm
 go_wp2_with fail
 refine (join_any _ A' m cc xs _ (Nat.le_refl _) HRD.out (by have := HLEN.out; omega) HCAP.out (by rw [← HX.out]; omega)).mono ?_
 rintro e w3 ⟨rfl, hg⟩
 have HG3 := Lib.hid (grown_self HG.out (grown_of_below hg) (by simp))
 clear hg
 go_wp2_with fail
 go_ret
 exact ⟨rfl, HG3.out⟩
theorem col4_any (B : Nat) (A : Option Addr) (n c b p : Nat) (ls : List TxV) (w : World) (h : TxsR B w ls A n) (hB : B ≤ w.heap.size) (hn : n ≤ 1000) (hbx : Boxed w b 22 (.slice A n c)) (hp : Boxed w p 49 (.func (.func 20) #[] #[.pointer (some ⟨b, 0, none⟩)])) :
  Calls Tryz.prog 29 #[.pointer (some ⟨p, 0, none⟩)] w fun e w' => e = .returned (.string ⟨(packL (colL (fun x : TxV => decide (x.dst.size = 0)) (fun _ => true) ls)).toArray⟩) ∧ w.grownBy w' none := by
 have HC := Lib.hid (kindB_any 30 (fun x => decide (x.dst.size = 0)) (fun _ => true) (fun V v => enters_of Tryz.func30 (by kernel_rfl) rfl _ _) B A n c b ls w h hB hn hbx (tell4_any B ls))
 have c0 := hp.cell
 obtain ⟨R, hR⟩ : ∃ R, packL (colL (fun x : TxV => decide (x.dst.size = 0)) (fun _ => true) ls) = R := ⟨_, rfl⟩
 rw [hR] at HC ⊢
 clear h hB hbx hp hR
 go_enter Tryz.func29, Tryz.ntmps29
 go_wp2_with fail
 refine HC.out.mono ?_
 rintro e w2 ⟨rfl, hg⟩
 have HG := Lib.hid hg
 clear hg c0 HC
 go_wp2_with fail
 go_ret
 exact ⟨rfl, HG.out⟩
theorem col5_any (B : Nat) (A : Option Addr) (n c b p : Nat) (ls : List TxV) (w : World) (h : TxsR B w ls A n) (hB : B ≤ w.heap.size) (hn : n ≤ 1000) (hbx : Boxed w b 22 (.slice A n c)) (hp : Boxed w p 49 (.func (.func 20) #[] #[.pointer (some ⟨b, 0, none⟩)])) :
  Calls Tryz.prog 31 #[.pointer (some ⟨p, 0, none⟩)] w fun e w' => e = .returned (.string ⟨(packL (colL (fun x : TxV => decide (x.y = 1)) (fun _ => true) ls)).toArray⟩) ∧ w.grownBy w' none := by
 have HC := Lib.hid (kindB_any 32 (fun x => decide (x.y = 1)) (fun _ => true) (fun V v => enters_of Tryz.func32 (by kernel_rfl) rfl _ _) B A n c b ls w h hB hn hbx (tell5_any B ls))
 have c0 := hp.cell
 obtain ⟨R, hR⟩ : ∃ R, packL (colL (fun x : TxV => decide (x.y = 1)) (fun _ => true) ls) = R := ⟨_, rfl⟩
 rw [hR] at HC ⊢
 clear h hB hbx hp hR
 go_enter Tryz.func31, Tryz.ntmps31
 go_wp2_with fail
 refine HC.out.mono ?_
 rintro e w2 ⟨rfl, hg⟩
 have HG := Lib.hid hg
 clear hg c0 HC
 go_wp2_with fail
 go_ret
 exact ⟨rfl, HG.out⟩
theorem col6_any (B : Nat) (A : Option Addr) (n c b p : Nat) (ls : List TxV) (w : World) (h : TxsR B w ls A n) (hB : B ≤ w.heap.size) (hn : n ≤ 1000) (hbx : Boxed w b 22 (.slice A n c)) (hp : Boxed w p 59 (.func (.func 26) #[] #[.pointer (some ⟨b, 0, none⟩)])) (hlc : (catB (colL sigT (fun _ => true) ls)).length ≤ 1000000000) :
  Calls Tryz.prog 33 #[.pointer (some ⟨p, 0, none⟩)] w fun e w' => e = .returned (.string ⟨(catB (colL sigT (fun _ => true) ls)).toArray⟩) ∧ w.grownBy w' none := by
 have HC := Lib.hid (kindS_any 34 sigT (fun _ => true) (fun V v => enters_of Tryz.func34 (by kernel_rfl) rfl _ _) B A n c b ls w h hB hn hbx (tell6_any B ls) hlc)
 have c0 := hp.cell
 obtain ⟨R, hR⟩ : ∃ R, catB (colL sigT (fun _ => true) ls) = R := ⟨_, rfl⟩
 rw [hR] at HC ⊢
 clear h hB hbx hp hR
 go_enter Tryz.func33, Tryz.ntmps33
 go_wp2_with fail
 refine HC.out.mono ?_
 rintro e w2 ⟨rfl, hg⟩
 have HG := Lib.hid hg
 clear hg c0 HC
 go_wp2_with fail
 go_ret
 exact ⟨rfl, HG.out⟩
theorem col7_any (B : Nat) (A : Option Addr) (n c b p : Nat) (ls : List TxV) (w : World) (h : TxsR B w ls A n) (hB : B ≤ w.heap.size) (hn : n ≤ 1000) (hbx : Boxed w b 22 (.slice A n c)) (hp : Boxed w p 59 (.func (.func 26) #[] #[.pointer (some ⟨b, 0, none⟩)])) (hlc : (catB (colL (fun x : TxV => x.dst) (fun _ => true) ls)).length ≤ 1000000000) :
  Calls Tryz.prog 36 #[.pointer (some ⟨p, 0, none⟩)] w fun e w' => e = .returned (.string ⟨(catB (colL (fun x : TxV => x.dst) (fun _ => true) ls)).toArray⟩) ∧ w.grownBy w' none := by
 have HC := Lib.hid (kindS_any 37 (fun x => x.dst) (fun _ => true) (fun V v => enters_of Tryz.func37 (by kernel_rfl) rfl _ _) B A n c b ls w h hB hn hbx (tell7_any B ls) hlc)
 have c0 := hp.cell
 obtain ⟨R, hR⟩ : ∃ R, catB (colL (fun x : TxV => x.dst) (fun _ => true) ls) = R := ⟨_, rfl⟩
 rw [hR] at HC ⊢
 clear h hB hbx hp hR
 go_enter Tryz.func36, Tryz.ntmps36
 go_wp2_with fail
 refine HC.out.mono ?_
 rintro e w2 ⟨rfl, hg⟩
 have HG := Lib.hid hg
 clear hg c0 HC
 go_wp2_with fail
 go_ret
 exact ⟨rfl, HG.out⟩
theorem col8_any (B : Nat) (A : Option Addr) (n c b p : Nat) (ls : List TxV) (w : World) (h : TxsR B w ls A n) (hB : B ≤ w.heap.size) (hn : n ≤ 1000) (hbx : Boxed w b 22 (.slice A n c)) (hp : Boxed w p 59 (.func (.func 26) #[] #[.pointer (some ⟨b, 0, none⟩)])) (hRest : ∀ x ∈ ls, RestOk x) (hlc : (catB (colL restT (fun _ => true) ls)).length ≤ 1000000000) :
  Calls Tryz.prog 38 #[.pointer (some ⟨p, 0, none⟩)] w fun e w' => e = .returned (.string ⟨(catB (colL restT (fun _ => true) ls)).toArray⟩) ∧ w.grownBy w' none := by
 have HC := Lib.hid (kindS_any 39 restT (fun _ => true) (fun V v => enters_of Tryz.func39 (by kernel_rfl) rfl _ _) B A n c b ls w h hB hn hbx (tell8_any B ls hRest) hlc)
 have c0 := hp.cell
 obtain ⟨R, hR⟩ : ∃ R, catB (colL restT (fun _ => true) ls) = R := ⟨_, rfl⟩
 rw [hR] at HC ⊢
 clear h hB hbx hp hR
 go_enter Tryz.func38, Tryz.ntmps38
 go_wp2_with fail
 refine HC.out.mono ?_
 rintro e w2 ⟨rfl, hg⟩
 have HG := Lib.hid hg
 clear hg c0 HC
 go_wp2_with fail
 go_ret
 exact ⟨rfl, HG.out⟩
theorem col9_any (B : Nat) (A : Option Addr) (n c b p : Nat) (ls : List TxV) (w : World) (h : TxsR B w ls A n) (hB : B ≤ w.heap.size) (hn : n ≤ 1000) (hbx : Boxed w b 22 (.slice A n c)) (hp : Boxed w p 54 (.func (.func 23) #[] #[.pointer (some ⟨b, 0, none⟩)])) (hw : ∀ x ∈ ls, x.Ok) :
  Calls Tryz.prog 41 #[.pointer (some ⟨p, 0, none⟩)] w fun e w' => e = .returned (.string ⟨(rowL (colL (fun x : TxV => (x.nonce : Int)) (fun _ => true) ls)).toArray⟩) ∧ w.grownBy w' none := by
 have HC := Lib.hid (kindN_any 42 (fun x => (x.nonce : Int)) (fun _ => true) (fun V v => enters_of Tryz.func42 (by kernel_rfl) rfl _ _) B A n c b ls w h hB hn hbx (tell9_any B ls) (fun x hx => by have := (hw x hx).nonce; omega))
 have c0 := hp.cell
 obtain ⟨R, hR⟩ : ∃ R, rowL (colL (fun x : TxV => (x.nonce : Int)) (fun _ => true) ls) = R := ⟨_, rfl⟩
 rw [hR] at HC ⊢
 clear h hB hbx hp hR
 go_enter Tryz.func41, Tryz.ntmps41
 go_wp2_with fail
 refine HC.out.mono ?_
 rintro e w2 ⟨rfl, hg⟩
 have HG := Lib.hid hg
 clear hg c0 HC
 go_wp2_with fail
 go_ret
 exact ⟨rfl, HG.out⟩
theorem col10_any (B : Nat) (A : Option Addr) (n c b p : Nat) (ls : List TxV) (w : World) (h : TxsR B w ls A n) (hB : B ≤ w.heap.size) (hn : n ≤ 1000) (hbx : Boxed w b 22 (.slice A n c)) (hp : Boxed w p 54 (.func (.func 23) #[] #[.pointer (some ⟨b, 0, none⟩)])) (hw : ∀ x ∈ ls, x.Ok) :
  Calls Tryz.prog 43 #[.pointer (some ⟨p, 0, none⟩)] w fun e w' => e = .returned (.string ⟨(rowL (colL (fun x : TxV => (x.gas : Int)) (fun _ => true) ls)).toArray⟩) ∧ w.grownBy w' none := by
 have HC := Lib.hid (kindN_any 44 (fun x => (x.gas : Int)) (fun _ => true) (fun V v => enters_of Tryz.func44 (by kernel_rfl) rfl _ _) B A n c b ls w h hB hn hbx (tell10_any B ls) (fun x hx => by have := (hw x hx).gas; omega))
 have c0 := hp.cell
 obtain ⟨R, hR⟩ : ∃ R, rowL (colL (fun x : TxV => (x.gas : Int)) (fun _ => true) ls) = R := ⟨_, rfl⟩
 rw [hR] at HC ⊢
 clear h hB hbx hp hR
 go_enter Tryz.func43, Tryz.ntmps43
 go_wp2_with fail
 refine HC.out.mono ?_
 rintro e w2 ⟨rfl, hg⟩
 have HG := Lib.hid hg
 clear hg c0 HC
 go_wp2_with fail
 go_ret
 exact ⟨rfl, HG.out⟩
theorem col11_any (B : Nat) (A : Option Addr) (n c b p : Nat) (ls : List TxV) (w : World) (h : TxsR B w ls A n) (hB : B ≤ w.heap.size) (hn : n ≤ 1000) (hbx : Boxed w b 22 (.slice A n c)) (hp : Boxed w p 49 (.func (.func 20) #[] #[.pointer (some ⟨b, 0, none⟩)])) :
  Calls Tryz.prog 45 #[.pointer (some ⟨p, 0, none⟩)] w fun e w' => e = .returned (.string ⟨(packL (colL (fun x : TxV => decide (x.chain ≠ 0)) (fun x : TxV => decide (x.kind = 0)) ls)).toArray⟩) ∧ w.grownBy w' none := by
 have HC := Lib.hid (kindB_any 46 (fun x => decide (x.chain ≠ 0)) (fun x => decide (x.kind = 0)) (fun V v => enters_of Tryz.func46 (by kernel_rfl) rfl _ _) B A n c b ls w h hB hn hbx (tell11_any B ls))
 have c0 := hp.cell
 obtain ⟨R, hR⟩ : ∃ R, packL (colL (fun x : TxV => decide (x.chain ≠ 0)) (fun x : TxV => decide (x.kind = 0)) ls) = R := ⟨_, rfl⟩
 rw [hR] at HC ⊢
 clear h hB hbx hp hR
 go_enter Tryz.func45, Tryz.ntmps45
 go_wp2_with fail
 refine HC.out.mono ?_
 rintro e w2 ⟨rfl, hg⟩
 have HG := Lib.hid hg
 clear hg c0 HC
 go_wp2_with fail
 go_ret
 exact ⟨rfl, HG.out⟩
def colsB (ls : List TxV) : List ByteArray := [⟨(packL (colL (fun x : TxV => decide (x.dst.size = 0)) (fun _ => true) ls)).toArray⟩, ⟨(packL (colL (fun x : TxV => decide (x.y = 1)) (fun _ => true) ls)).toArray⟩, ⟨(catB (colL sigT (fun _ => true) ls)).toArray⟩, ⟨(catB (colL (fun x : TxV => x.dst) (fun _ => true) ls)).toArray⟩, ⟨(catB (colL restT (fun _ => true) ls)).toArray⟩, ⟨(rowL (colL (fun x : TxV => (x.nonce : Int)) (fun _ => true) ls)).toArray⟩, ⟨(rowL (colL (fun x : TxV => (x.gas : Int)) (fun _ => true) ls)).toArray⟩, ⟨(packL (colL (fun x : TxV => decide (x.chain ≠ 0)) (fun x : TxV => decide (x.kind = 0)) ls)).toArray⟩]
def colsL (ls : List TxV) : List UInt8 := catB (colsB ls)
def putColL (ls : List TxV) (chain : Nat) : List UInt8 := if checkCol ls chain = 0 then colsL ls else []
structure ColOk (ls : List TxV) : Prop where
 rest : ∀ x ∈ ls, RestOk x
 sizes : ∀ s ∈ colsB ls, s.size ≤ 1000000000
theorem catB_takeQ {ys : List ByteArray} {k : Nat} (hk : k < ys.length) : catB (ys.take (k + 1)) = catB (ys.take k) ++ (ys[k]).data.toList := by
 unfold catB
 rw [List.take_add_one, List.getElem?_eq_getElem hk, List.flatMap_append]
 simp
theorem colPut_any (B : Nat) (A : Option Addr) (n c : Nat) (ls : List TxV) (chain : Nat) (w : World) (h : TxsR B w ls A n) (hB : B ≤ w.heap.size) (hn : n ≤ 9223372036854775807) (ok : ∀ t ∈ ls, t.Ok) (hco : checkCol ls chain = 0 → ColOk ls) (hlen : checkCol ls chain = 0 → ls.length ≤ 512) :
  Calls Tryz.prog 11 #[.slice A n c, .int .u64 (chain : Int)] w fun e w' => e = .returned (.tuple #[.string ⟨(putColL ls chain).toArray⟩, .int .i64 (checkCol ls chain)]) ∧ w.grownBy w' none := by
 have hG := only_alloc (World.grownBy.refl w none) (.cells #[.slice A n c] 22)
 have hbx := Boxed.new w 22 (.slice A n c)
 have hR := h.grown hG hB
 have hB1 := Nat.le_trans hB hG.size
 have hll := h.1
 have HCK := Lib.hid (fun (V : World) (hV : (w.alloc (.cells #[.slice A n c] 22)).grownBy V none) => colCheck_any B A n c ls chain V (hR.grown hV hB1) (Nat.le_trans hB1 hV.size) hn ok)
 have HR := Lib.hid hR; have HB1 := Lib.hid hB1; have HOK := Lib.hid ok; have HLL := Lib.hid hll
 obtain ⟨E, hE⟩ : ∃ E, checkCol ls chain = E := ⟨_, rfl⟩
 obtain ⟨L, hL⟩ : ∃ L, putColL ls chain = L := ⟨_, rfl⟩
 have hLE : L = if E = 0 then colsL ls else [] := by rw [← hL, ← hE]; rfl
 rw [hE] at HCK hco hlen
 rw [hL, hE]
 have HCO := Lib.hid hco; have HLEN := Lib.hid hlen; have HLE := Lib.hid hLE
 clear h hB hR hB1 ok hco hlen hE hL hLE hn hll
 go_enter Tryz.func11, Tryz.ntmps11
 go_upto_region 1 with (fail)
 obtain ⟨b, hb⟩ : ∃ b, w.heap.size = b := ⟨_, rfl⟩
 rw [hb] at hbx ⊢
 clear hb
 generalize w.alloc (.cells #[.slice A n c] 22) = w1 at *
 have c0 := hbx.cell
 have HBX := Lib.hid hbx; have HG := Lib.hid hG
 clear hbx hG
 go_wp2_with fail
 refine (HCK.out w1 (World.grownBy.refl _ _)).mono ?_
 rintro e w2 ⟨rfl, hg⟩
 replace HBX := Lib.hid (HBX.out.kept hg (by simp))
 replace HR := Lib.hid (HR.out.grown hg HB1.out)
 replace HB1 := Lib.hid (Nat.le_trans HB1.out hg.size)
 replace HG := Lib.hid (grown_self HG.out hg (by simp))
 clear hg c0 HCK
 by_cases hE0 : E = 0
 rotate_left
 ·have q1 : (E != 0) = true := by simpa using hE0
  have hL0 : L = [] := by rw [HLE.out, if_neg hE0]
  subst hL0
  clear hE0
  go_wp2_with fail
  go_ret2
  exact ⟨rfl, HG.out⟩
 subst hE0
 have HCOK := Lib.hid (HCO.out rfl)
 have hN : n ≤ 1000 := by have := HLEN.out rfl; rw [HLL.out] at this; omega
 have hLL : L = catB (colsB ls) := by rw [HLE.out, if_pos rfl]; rfl
 have HLQ := Lib.hid hLL
 clear HCO HLEN HLE hLL
 obtain ⟨q, hq⟩ : ∃ q, w2.heap.size = q := ⟨_, rfl⟩
 have hz0 : (w2.alloc (.cells #[.func (.func 20) #[] #[.pointer (some ⟨b, 0, none⟩)]] 49)).heap.size = q + 1 := by simp [hq]
 have hz1 : ((w2.alloc (.cells #[.func (.func 20) #[] #[.pointer (some ⟨b, 0, none⟩)]] 49)).alloc (.cells #[.func (.func 23) #[] #[.pointer (some ⟨b, 0, none⟩)]] 54)).heap.size = q + 2 := by rw [World.size_alloc, hz0]
 have hz2 : (((w2.alloc (.cells #[.func (.func 20) #[] #[.pointer (some ⟨b, 0, none⟩)]] 49)).alloc (.cells #[.func (.func 23) #[] #[.pointer (some ⟨b, 0, none⟩)]] 54)).alloc (.cells #[.func (.func 26) #[] #[.pointer (some ⟨b, 0, none⟩)]] 59)).heap.size = q + 3 := by rw [World.size_alloc, hz1]
 have hp7 := ((Boxed.new w2 49 (.func (.func 20) #[] #[.pointer (some ⟨b, 0, none⟩)])).alloc (.cells #[.func (.func 23) #[] #[.pointer (some ⟨b, 0, none⟩)]] 54)).alloc (.cells #[.func (.func 26) #[] #[.pointer (some ⟨b, 0, none⟩)]] 59) |>.alloc (.cells #[.func (.func 29) #[] #[.pointer (some ⟨q, 0, none⟩)], .func (.func 31) #[] #[.pointer (some ⟨q, 0, none⟩)], .func (.func 33) #[] #[.pointer (some ⟨q + 2, 0, none⟩)], .func (.func 36) #[] #[.pointer (some ⟨q + 2, 0, none⟩)], .func (.func 38) #[] #[.pointer (some ⟨q + 2, 0, none⟩)], .func (.func 41) #[] #[.pointer (some ⟨q + 1, 0, none⟩)], .func (.func 43) #[] #[.pointer (some ⟨q + 1, 0, none⟩)], .func (.func 45) #[] #[.pointer (some ⟨q, 0, none⟩)]] 60)
 have hp8 := ((Boxed.new (w2.alloc (.cells #[.func (.func 20) #[] #[.pointer (some ⟨b, 0, none⟩)]] 49)) 54 (.func (.func 23) #[] #[.pointer (some ⟨b, 0, none⟩)])).alloc (.cells #[.func (.func 26) #[] #[.pointer (some ⟨b, 0, none⟩)]] 59)).alloc (.cells #[.func (.func 29) #[] #[.pointer (some ⟨q, 0, none⟩)], .func (.func 31) #[] #[.pointer (some ⟨q, 0, none⟩)], .func (.func 33) #[] #[.pointer (some ⟨q + 2, 0, none⟩)], .func (.func 36) #[] #[.pointer (some ⟨q + 2, 0, none⟩)], .func (.func 38) #[] #[.pointer (some ⟨q + 2, 0, none⟩)], .func (.func 41) #[] #[.pointer (some ⟨q + 1, 0, none⟩)], .func (.func 43) #[] #[.pointer (some ⟨q + 1, 0, none⟩)], .func (.func 45) #[] #[.pointer (some ⟨q, 0, none⟩)]] 60)
 have hp9 := (Boxed.new ((w2.alloc (.cells #[.func (.func 20) #[] #[.pointer (some ⟨b, 0, none⟩)]] 49)).alloc (.cells #[.func (.func 23) #[] #[.pointer (some ⟨b, 0, none⟩)]] 54)) 59 (.func (.func 26) #[] #[.pointer (some ⟨b, 0, none⟩)])).alloc (.cells #[.func (.func 29) #[] #[.pointer (some ⟨q, 0, none⟩)], .func (.func 31) #[] #[.pointer (some ⟨q, 0, none⟩)], .func (.func 33) #[] #[.pointer (some ⟨q + 2, 0, none⟩)], .func (.func 36) #[] #[.pointer (some ⟨q + 2, 0, none⟩)], .func (.func 38) #[] #[.pointer (some ⟨q + 2, 0, none⟩)], .func (.func 41) #[] #[.pointer (some ⟨q + 1, 0, none⟩)], .func (.func 43) #[] #[.pointer (some ⟨q + 1, 0, none⟩)], .func (.func 45) #[] #[.pointer (some ⟨q, 0, none⟩)]] 60)
 have hbs := Blk.new (((w2.alloc (.cells #[.func (.func 20) #[] #[.pointer (some ⟨b, 0, none⟩)]] 49)).alloc (.cells #[.func (.func 23) #[] #[.pointer (some ⟨b, 0, none⟩)]] 54)).alloc (.cells #[.func (.func 26) #[] #[.pointer (some ⟨b, 0, none⟩)]] 59)) 60 #[.func (.func 29) #[] #[.pointer (some ⟨q, 0, none⟩)], .func (.func 31) #[] #[.pointer (some ⟨q, 0, none⟩)], .func (.func 33) #[] #[.pointer (some ⟨q + 2, 0, none⟩)], .func (.func 36) #[] #[.pointer (some ⟨q + 2, 0, none⟩)], .func (.func 38) #[] #[.pointer (some ⟨q + 2, 0, none⟩)], .func (.func 41) #[] #[.pointer (some ⟨q + 1, 0, none⟩)], .func (.func 43) #[] #[.pointer (some ⟨q + 1, 0, none⟩)], .func (.func 45) #[] #[.pointer (some ⟨q, 0, none⟩)]]
 have hg4 := only_alloc (only_alloc (only_alloc (only_alloc (World.grownBy.refl w2 none) (.cells #[.func (.func 20) #[] #[.pointer (some ⟨b, 0, none⟩)]] 49)) (.cells #[.func (.func 23) #[] #[.pointer (some ⟨b, 0, none⟩)]] 54)) (.cells #[.func (.func 26) #[] #[.pointer (some ⟨b, 0, none⟩)]] 59)) (.cells #[.func (.func 29) #[] #[.pointer (some ⟨q, 0, none⟩)], .func (.func 31) #[] #[.pointer (some ⟨q, 0, none⟩)], .func (.func 33) #[] #[.pointer (some ⟨q + 2, 0, none⟩)], .func (.func 36) #[] #[.pointer (some ⟨q + 2, 0, none⟩)], .func (.func 38) #[] #[.pointer (some ⟨q + 2, 0, none⟩)], .func (.func 41) #[] #[.pointer (some ⟨q + 1, 0, none⟩)], .func (.func 43) #[] #[.pointer (some ⟨q + 1, 0, none⟩)], .func (.func 45) #[] #[.pointer (some ⟨q, 0, none⟩)]] 60)
 rw [hq] at hp7
 rw [hz0] at hp8
 rw [hz1] at hp9
 rw [hz2] at hbs
 have HW3 := Lib.hid (⟨hp7, hp8, hp9, hbs, hg4⟩ : _ ∧ _ ∧ _ ∧ _ ∧ _)
 clear hp7 hp8 hp9 hbs hg4 hz0 hz1 hz2
 go_upto_region 8 with (fail)
 (try rw [hq])
 clear hq
 generalize ((((w2.alloc (.cells #[.func (.func 20) #[] #[.pointer (some ⟨b, 0, none⟩)]] 49)).alloc (.cells #[.func (.func 23) #[] #[.pointer (some ⟨b, 0, none⟩)]] 54)).alloc (.cells #[.func (.func 26) #[] #[.pointer (some ⟨b, 0, none⟩)]] 59)).alloc (.cells #[.func (.func 29) #[] #[.pointer (some ⟨q, 0, none⟩)], .func (.func 31) #[] #[.pointer (some ⟨q, 0, none⟩)], .func (.func 33) #[] #[.pointer (some ⟨q + 2, 0, none⟩)], .func (.func 36) #[] #[.pointer (some ⟨q + 2, 0, none⟩)], .func (.func 38) #[] #[.pointer (some ⟨q + 2, 0, none⟩)], .func (.func 41) #[] #[.pointer (some ⟨q + 1, 0, none⟩)], .func (.func 43) #[] #[.pointer (some ⟨q + 1, 0, none⟩)], .func (.func 45) #[] #[.pointer (some ⟨q, 0, none⟩)]] 60)) = w3 at *
 obtain ⟨hp7, hp8, hp9, hbs, hg4⟩ := HW3.out
 have HP7 := Lib.hid hp7; have HP8 := Lib.hid hp8; have HP9 := Lib.hid hp9; have HBS := Lib.hid hbs
 replace HBX := Lib.hid (HBX.out.kept hg4 (by simp))
 replace HR := Lib.hid (HR.out.grown hg4 HB1.out)
 replace HB1 := Lib.hid (Nat.le_trans HB1.out hg4.size)
 replace HG := Lib.hid (grown_self HG.out hg4 (by simp))
 clear hp7 hp8 hp9 hbs hg4 HW3
 have hsz := HCOK.out.sizes
 have HC0 := Lib.hid (fun (V : World) (hV : w3.grownBy V none) => col4_any B A n c b (q) ls V (HR.out.grown hV HB1.out) (Nat.le_trans HB1.out hV.size) hN (HBX.out.kept hV (by simp)) (HP7.out.kept hV (by simp)))
 have HC1 := Lib.hid (fun (V : World) (hV : w3.grownBy V none) => col5_any B A n c b (q) ls V (HR.out.grown hV HB1.out) (Nat.le_trans HB1.out hV.size) hN (HBX.out.kept hV (by simp)) (HP7.out.kept hV (by simp)))
 have HC2 := Lib.hid (fun (V : World) (hV : w3.grownBy V none) => col6_any B A n c b (q + 2) ls V (HR.out.grown hV HB1.out) (Nat.le_trans HB1.out hV.size) hN (HBX.out.kept hV (by simp)) (HP9.out.kept hV (by simp)) (by have := hsz _ (by unfold colsB; exact List.mem_iff_getElem.2 ⟨2, Nat.le_of_ble_eq_true rfl, rfl⟩); rw [ba_sz] at this; exact this))
 have HC3 := Lib.hid (fun (V : World) (hV : w3.grownBy V none) => col7_any B A n c b (q + 2) ls V (HR.out.grown hV HB1.out) (Nat.le_trans HB1.out hV.size) hN (HBX.out.kept hV (by simp)) (HP9.out.kept hV (by simp)) (by have := hsz _ (by unfold colsB; exact List.mem_iff_getElem.2 ⟨3, Nat.le_of_ble_eq_true rfl, rfl⟩); rw [ba_sz] at this; exact this))
 have HC4 := Lib.hid (fun (V : World) (hV : w3.grownBy V none) => col8_any B A n c b (q + 2) ls V (HR.out.grown hV HB1.out) (Nat.le_trans HB1.out hV.size) hN (HBX.out.kept hV (by simp)) (HP9.out.kept hV (by simp)) HCOK.out.rest (by have := hsz _ (by unfold colsB; exact List.mem_iff_getElem.2 ⟨4, Nat.le_of_ble_eq_true rfl, rfl⟩); rw [ba_sz] at this; exact this))
 have HC5 := Lib.hid (fun (V : World) (hV : w3.grownBy V none) => col9_any B A n c b (q + 1) ls V (HR.out.grown hV HB1.out) (Nat.le_trans HB1.out hV.size) hN (HBX.out.kept hV (by simp)) (HP8.out.kept hV (by simp)) HOK.out)
 have HC6 := Lib.hid (fun (V : World) (hV : w3.grownBy V none) => col10_any B A n c b (q + 1) ls V (HR.out.grown hV HB1.out) (Nat.le_trans HB1.out hV.size) hN (HBX.out.kept hV (by simp)) (HP8.out.kept hV (by simp)) HOK.out)
 have HC7 := Lib.hid (fun (V : World) (hV : w3.grownBy V none) => col11_any B A n c b (q) ls V (HR.out.grown hV HB1.out) (Nat.le_trans HB1.out hV.size) hN (HBX.out.kept hV (by simp)) (HP7.out.kept hV (by simp)))
 have HSZ := Lib.hid hsz
 have hcols : colsB ls = [⟨(packL (colL (fun x : TxV => decide (x.dst.size = 0)) (fun _ => true) ls)).toArray⟩, ⟨(packL (colL (fun x : TxV => decide (x.y = 1)) (fun _ => true) ls)).toArray⟩, ⟨(catB (colL sigT (fun _ => true) ls)).toArray⟩, ⟨(catB (colL (fun x : TxV => x.dst) (fun _ => true) ls)).toArray⟩, ⟨(catB (colL restT (fun _ => true) ls)).toArray⟩, ⟨(rowL (colL (fun x : TxV => (x.nonce : Int)) (fun _ => true) ls)).toArray⟩, ⟨(rowL (colL (fun x : TxV => (x.gas : Int)) (fun _ => true) ls)).toArray⟩, ⟨(packL (colL (fun x : TxV => decide (x.chain ≠ 0)) (fun x : TxV => decide (x.kind = 0)) ls)).toArray⟩] := rfl
 obtain ⟨Q0, hQ0⟩ : ∃ Q : ByteArray, (⟨(packL (colL (fun x : TxV => decide (x.dst.size = 0)) (fun _ => true) ls)).toArray⟩ : ByteArray) = Q := ⟨_, rfl⟩
 obtain ⟨Q1, hQ1⟩ : ∃ Q : ByteArray, (⟨(packL (colL (fun x : TxV => decide (x.y = 1)) (fun _ => true) ls)).toArray⟩ : ByteArray) = Q := ⟨_, rfl⟩
 obtain ⟨Q2, hQ2⟩ : ∃ Q : ByteArray, (⟨(catB (colL sigT (fun _ => true) ls)).toArray⟩ : ByteArray) = Q := ⟨_, rfl⟩
 obtain ⟨Q3, hQ3⟩ : ∃ Q : ByteArray, (⟨(catB (colL (fun x : TxV => x.dst) (fun _ => true) ls)).toArray⟩ : ByteArray) = Q := ⟨_, rfl⟩
 obtain ⟨Q4, hQ4⟩ : ∃ Q : ByteArray, (⟨(catB (colL restT (fun _ => true) ls)).toArray⟩ : ByteArray) = Q := ⟨_, rfl⟩
 obtain ⟨Q5, hQ5⟩ : ∃ Q : ByteArray, (⟨(rowL (colL (fun x : TxV => (x.nonce : Int)) (fun _ => true) ls)).toArray⟩ : ByteArray) = Q := ⟨_, rfl⟩
 obtain ⟨Q6, hQ6⟩ : ∃ Q : ByteArray, (⟨(rowL (colL (fun x : TxV => (x.gas : Int)) (fun _ => true) ls)).toArray⟩ : ByteArray) = Q := ⟨_, rfl⟩
 obtain ⟨Q7, hQ7⟩ : ∃ Q : ByteArray, (⟨(packL (colL (fun x : TxV => decide (x.chain ≠ 0)) (fun x : TxV => decide (x.kind = 0)) ls)).toArray⟩ : ByteArray) = Q := ⟨_, rfl⟩
 rw [hQ0, hQ1, hQ2, hQ3, hQ4, hQ5, hQ6, hQ7] at hcols
 rw [hQ0] at HC0
 rw [hQ1] at HC1
 rw [hQ2] at HC2
 rw [hQ3] at HC3
 rw [hQ4] at HC4
 rw [hQ5] at HC5
 rw [hQ6] at HC6
 rw [hQ7] at HC7
 rw [hcols] at HSZ HLQ
 clear hsz hcols HCOK hQ0 hQ1 hQ2 hQ3 hQ4 hQ5 hQ6 hQ7
 have HS0 : Hid (Q0.size ≤ 1000000000) := Lib.hid (HSZ.out _ (by simp))
 have HS1 : Hid (Q1.size ≤ 1000000000) := Lib.hid (HSZ.out _ (by simp))
 have HS2 : Hid (Q2.size ≤ 1000000000) := Lib.hid (HSZ.out _ (by simp))
 have HS3 : Hid (Q3.size ≤ 1000000000) := Lib.hid (HSZ.out _ (by simp))
 have HS4 : Hid (Q4.size ≤ 1000000000) := Lib.hid (HSZ.out _ (by simp))
 have HS5 : Hid (Q5.size ≤ 1000000000) := Lib.hid (HSZ.out _ (by simp))
 have HS6 : Hid (Q6.size ≤ 1000000000) := Lib.hid (HSZ.out _ (by simp))
 have HS7 : Hid (Q7.size ≤ 1000000000) := Lib.hid (HSZ.out _ (by simp))
 clear HSZ
 go_wp2_with fail
 go_loopw [11, 34] (fun v i wr => ∃ (k : Nat) (sb : ByteArray), i = .int .i64 k ∧ v = .string sb ∧ k ≤ 8 ∧ sb.size ≤ k * 1000000000 ∧ Hid (sb.data.toList = catB ([Q0, Q1, Q2, Q3, Q4, Q5, Q6, Q7].take k)) ∧ w3.grownBy wr none) (fun _ i _ => 8 - (intOf i).toNat)
 case atStart => exact ⟨0, .empty, rfl, rfl, by omega, by simp, Lib.hid rfl, World.grownBy.refl _ _⟩
 case round =>
  obtain ⟨k, sb, rfl, rfl, hk, hs, hsb, hg⟩ := hrel
  have HSB := Lib.hid hsb.out
  have HGG := Lib.hid hg
  have hbs := HBS.out.grown hg (by simp)
  clear hsb
  rcases (by omega : k = 0 ∨ k = 1 ∨ k = 2 ∨ k = 3 ∨ k = 4 ∨ k = 5 ∨ k = 6 ∨ k = 7 ∨ k = 8) with rfl | rfl | rfl | rfl | rfl | rfl | rfl | rfl | rfl
  ·have cj : wr.cell? ⟨q + 3, 0, none⟩ = some (.func (.func 29) #[] #[.pointer (some ⟨q, 0, none⟩)]) := hbs.cell 0
   clear hbs
   go_wp2_with fail
   refine (HC0.out wr HGG.out).mono ?_
   rintro e w6 ⟨rfl, hg6⟩
   have hsum : sb.size + Q0.size ≤ 9223372036854775807 := by have := HS0.out; omega
   have hsn : (sb ++ Q0).size ≤ 1 * 1000000000 := by have := HS0.out; rw [ByteArray.size_append]; omega
   have HSN := Lib.hid hsn
   have HSB2 : Hid ((sb ++ Q0).data.toList = catB ([Q0, Q1, Q2, Q3, Q4, Q5, Q6, Q7].take 1)) := Lib.hid (by show _ = catB ([Q0, Q1, Q2, Q3, Q4, Q5, Q6, Q7].take (0 + 1)); rw [catB_takeQ (by simp), ← HSB.out]; simp)
   have HG6 := Lib.hid (grown_self HGG.out hg6 (by simp))
   clear hg6 cj hg hsn
   go_wp2_with fail
   go_roundw
   case rel => exact ⟨1, sb ++ Q0, by go_num, rfl, by omega, HSN.out, Lib.hid HSB2.out, HG6.out⟩
   case measure => simp [intOf]
  ·have cj : wr.cell? ⟨q + 3, 1, none⟩ = some (.func (.func 31) #[] #[.pointer (some ⟨q, 0, none⟩)]) := hbs.cell 1
   clear hbs
   go_wp2_with fail
   refine (HC1.out wr HGG.out).mono ?_
   rintro e w6 ⟨rfl, hg6⟩
   have hsum : sb.size + Q1.size ≤ 9223372036854775807 := by have := HS1.out; omega
   have hsn : (sb ++ Q1).size ≤ 2 * 1000000000 := by have := HS1.out; rw [ByteArray.size_append]; omega
   have HSN := Lib.hid hsn
   have HSB2 : Hid ((sb ++ Q1).data.toList = catB ([Q0, Q1, Q2, Q3, Q4, Q5, Q6, Q7].take 2)) := Lib.hid (by show _ = catB ([Q0, Q1, Q2, Q3, Q4, Q5, Q6, Q7].take (1 + 1)); rw [catB_takeQ (by simp), ← HSB.out]; simp)
   have HG6 := Lib.hid (grown_self HGG.out hg6 (by simp))
   clear hg6 cj hg hsn
   go_wp2_with fail
   go_roundw
   case rel => exact ⟨2, sb ++ Q1, by go_num, rfl, by omega, HSN.out, Lib.hid HSB2.out, HG6.out⟩
   case measure => simp [intOf]
  ·have cj : wr.cell? ⟨q + 3, 2, none⟩ = some (.func (.func 33) #[] #[.pointer (some ⟨q + 2, 0, none⟩)]) := hbs.cell 2
   clear hbs
   go_wp2_with fail
   refine (HC2.out wr HGG.out).mono ?_
   rintro e w6 ⟨rfl, hg6⟩
   have hsum : sb.size + Q2.size ≤ 9223372036854775807 := by have := HS2.out; omega
   have hsn : (sb ++ Q2).size ≤ 3 * 1000000000 := by have := HS2.out; rw [ByteArray.size_append]; omega
   have HSN := Lib.hid hsn
   have HSB2 : Hid ((sb ++ Q2).data.toList = catB ([Q0, Q1, Q2, Q3, Q4, Q5, Q6, Q7].take 3)) := Lib.hid (by show _ = catB ([Q0, Q1, Q2, Q3, Q4, Q5, Q6, Q7].take (2 + 1)); rw [catB_takeQ (by simp), ← HSB.out]; simp)
   have HG6 := Lib.hid (grown_self HGG.out hg6 (by simp))
   clear hg6 cj hg hsn
   go_wp2_with fail
   go_roundw
   case rel => exact ⟨3, sb ++ Q2, by go_num, rfl, by omega, HSN.out, Lib.hid HSB2.out, HG6.out⟩
   case measure => simp [intOf]
  ·have cj : wr.cell? ⟨q + 3, 3, none⟩ = some (.func (.func 36) #[] #[.pointer (some ⟨q + 2, 0, none⟩)]) := hbs.cell 3
   clear hbs
   go_wp2_with fail
   refine (HC3.out wr HGG.out).mono ?_
   rintro e w6 ⟨rfl, hg6⟩
   have hsum : sb.size + Q3.size ≤ 9223372036854775807 := by have := HS3.out; omega
   have hsn : (sb ++ Q3).size ≤ 4 * 1000000000 := by have := HS3.out; rw [ByteArray.size_append]; omega
   have HSN := Lib.hid hsn
   have HSB2 : Hid ((sb ++ Q3).data.toList = catB ([Q0, Q1, Q2, Q3, Q4, Q5, Q6, Q7].take 4)) := Lib.hid (by show _ = catB ([Q0, Q1, Q2, Q3, Q4, Q5, Q6, Q7].take (3 + 1)); rw [catB_takeQ (by simp), ← HSB.out]; simp)
   have HG6 := Lib.hid (grown_self HGG.out hg6 (by simp))
   clear hg6 cj hg hsn
   go_wp2_with fail
   go_roundw
   case rel => exact ⟨4, sb ++ Q3, by go_num, rfl, by omega, HSN.out, Lib.hid HSB2.out, HG6.out⟩
   case measure => simp [intOf]
  ·have cj : wr.cell? ⟨q + 3, 4, none⟩ = some (.func (.func 38) #[] #[.pointer (some ⟨q + 2, 0, none⟩)]) := hbs.cell 4
   clear hbs
   go_wp2_with fail
   refine (HC4.out wr HGG.out).mono ?_
   rintro e w6 ⟨rfl, hg6⟩
   have hsum : sb.size + Q4.size ≤ 9223372036854775807 := by have := HS4.out; omega
   have hsn : (sb ++ Q4).size ≤ 5 * 1000000000 := by have := HS4.out; rw [ByteArray.size_append]; omega
   have HSN := Lib.hid hsn
   have HSB2 : Hid ((sb ++ Q4).data.toList = catB ([Q0, Q1, Q2, Q3, Q4, Q5, Q6, Q7].take 5)) := Lib.hid (by show _ = catB ([Q0, Q1, Q2, Q3, Q4, Q5, Q6, Q7].take (4 + 1)); rw [catB_takeQ (by simp), ← HSB.out]; simp)
   have HG6 := Lib.hid (grown_self HGG.out hg6 (by simp))
   clear hg6 cj hg hsn
   go_wp2_with fail
   go_roundw
   case rel => exact ⟨5, sb ++ Q4, by go_num, rfl, by omega, HSN.out, Lib.hid HSB2.out, HG6.out⟩
   case measure => simp [intOf]
  ·have cj : wr.cell? ⟨q + 3, 5, none⟩ = some (.func (.func 41) #[] #[.pointer (some ⟨q + 1, 0, none⟩)]) := hbs.cell 5
   clear hbs
   go_wp2_with fail
   refine (HC5.out wr HGG.out).mono ?_
   rintro e w6 ⟨rfl, hg6⟩
   have hsum : sb.size + Q5.size ≤ 9223372036854775807 := by have := HS5.out; omega
   have hsn : (sb ++ Q5).size ≤ 6 * 1000000000 := by have := HS5.out; rw [ByteArray.size_append]; omega
   have HSN := Lib.hid hsn
   have HSB2 : Hid ((sb ++ Q5).data.toList = catB ([Q0, Q1, Q2, Q3, Q4, Q5, Q6, Q7].take 6)) := Lib.hid (by show _ = catB ([Q0, Q1, Q2, Q3, Q4, Q5, Q6, Q7].take (5 + 1)); rw [catB_takeQ (by simp), ← HSB.out]; simp)
   have HG6 := Lib.hid (grown_self HGG.out hg6 (by simp))
   clear hg6 cj hg hsn
   go_wp2_with fail
   go_roundw
   case rel => exact ⟨6, sb ++ Q5, by go_num, rfl, by omega, HSN.out, Lib.hid HSB2.out, HG6.out⟩
   case measure => simp [intOf]
  ·have cj : wr.cell? ⟨q + 3, 6, none⟩ = some (.func (.func 43) #[] #[.pointer (some ⟨q + 1, 0, none⟩)]) := hbs.cell 6
   clear hbs
   go_wp2_with fail
   refine (HC6.out wr HGG.out).mono ?_
   rintro e w6 ⟨rfl, hg6⟩
   have hsum : sb.size + Q6.size ≤ 9223372036854775807 := by have := HS6.out; omega
   have hsn : (sb ++ Q6).size ≤ 7 * 1000000000 := by have := HS6.out; rw [ByteArray.size_append]; omega
   have HSN := Lib.hid hsn
   have HSB2 : Hid ((sb ++ Q6).data.toList = catB ([Q0, Q1, Q2, Q3, Q4, Q5, Q6, Q7].take 7)) := Lib.hid (by show _ = catB ([Q0, Q1, Q2, Q3, Q4, Q5, Q6, Q7].take (6 + 1)); rw [catB_takeQ (by simp), ← HSB.out]; simp)
   have HG6 := Lib.hid (grown_self HGG.out hg6 (by simp))
   clear hg6 cj hg hsn
   go_wp2_with fail
   go_roundw
   case rel => exact ⟨7, sb ++ Q6, by go_num, rfl, by omega, HSN.out, Lib.hid HSB2.out, HG6.out⟩
   case measure => simp [intOf]
  ·have cj : wr.cell? ⟨q + 3, 7, none⟩ = some (.func (.func 45) #[] #[.pointer (some ⟨q, 0, none⟩)]) := hbs.cell 7
   clear hbs
   go_wp2_with fail
   refine (HC7.out wr HGG.out).mono ?_
   rintro e w6 ⟨rfl, hg6⟩
   have hsum : sb.size + Q7.size ≤ 9223372036854775807 := by have := HS7.out; omega
   have hsn : (sb ++ Q7).size ≤ 8 * 1000000000 := by have := HS7.out; rw [ByteArray.size_append]; omega
   have HSN := Lib.hid hsn
   have HSB2 : Hid ((sb ++ Q7).data.toList = catB ([Q0, Q1, Q2, Q3, Q4, Q5, Q6, Q7].take 8)) := Lib.hid (by show _ = catB ([Q0, Q1, Q2, Q3, Q4, Q5, Q6, Q7].take (7 + 1)); rw [catB_takeQ (by simp), ← HSB.out]; simp)
   have HG6 := Lib.hid (grown_self HGG.out hg6 (by simp))
   clear hg6 cj hg hsn
   go_wp2_with fail
   go_roundw
   case rel => exact ⟨8, sb ++ Q7, by go_num, rfl, by omega, HSN.out, Lib.hid HSB2.out, HG6.out⟩
   case measure => simp [intOf]
  ·have hL2 : (⟨L.toArray⟩ : ByteArray) = sb := ba_ext (by rw [HSB.out, HLQ.out]; rfl)
   have HL2 := Lib.hid hL2
   clear hbs hL2
   go_wp2_with fail
   go_ret2
   exact ⟨by rw [HL2.out]; rfl, grown_self HG.out HGG.out (by simp)⟩
def rdC (s : ByteArray) (a : Nat) (e : Int) : Array Value := #[.string s, .int .i64 (a : Int), .int .i64 e]
def kE (E e : Int) : Int := if E = 0 then e else E
theorem only_setC {a w : World} {g : Nat} (h : a.grownBy w (some g)) (i : Nat) (u : Value) : a.grownBy (w.setCell ⟨g, i, none⟩ u) (some g) := only_setCell h (p := ⟨g, i, none⟩) (.inl rfl) u
theorem grown_rowC {a w : World} (h : a.grownBy w none) (r : Option Nat) : a.grownBy w r := ⟨h.os, h.tape, h.output, h.size, fun k hk hne => h.block k hk (by simp)⟩
theorem grown_of_belowC (w : World) (q : Nat) (row : Option Nat) : w.grownBy (w.drewN q) row := grown_rowC (grown_of_below (below_drewN (Below.refl w.heap.size w) q)) row
theorem wrap_natC {k : Nat} (h : k < 9223372036854775808) : IntKind.i64.wrap (k : Int) = (k : Int) := by
 simp [IntKind.wrap, IntKind.bits, IntKind.signed]
 omega
theorem keepC_any (s : ByteArray) (a : Nat) (E e : Int) (r : Nat) (w : World) (h : Blk w r 67 (rdC s a E)) :
  Calls Tryz.prog 54 #[.pointer (some ⟨r, 0, none⟩), .int .i64 e] w fun x w' => x = .returned (.bool (decide (kE E e = 0))) ∧ Blk w' r 67 (rdC s a (kE E e)) ∧ w.grownBy w' (some r) := by
 have HB := Lib.hid h
 have c2 := h.cell 2
 have f2 := h.frozen 2
 simp only [rdC, List.getElem?_toArray, List.getElem?_cons_zero, List.getElem?_cons_succ] at c2
 clear h
 by_cases h0 : E = 0
 ·subst h0
  rw [show kE 0 e = e from if_pos rfl]
  by_cases h1 : e = 0
  ·subst h1
   go_enter Tryz.func54, Tryz.ntmps54
   go_wp2_with fail
   go_ret
   refine ⟨rfl, ?_, ?_⟩
   ·first | exact HB.out | exact HB.out.set_ 2 (.int .i64 0)
   ·first | exact World.grownBy.refl w _ | exact only_setC (World.grownBy.refl w _) 2 _
  ·have e1 : (e == 0) = false := by simpa using h1
   have hd : decide (e = 0) = false := decide_eq_false h1
   rw [hd]
   clear h1 hd
   go_enter Tryz.func54, Tryz.ntmps54
   go_wp2_with fail
   go_ret
   exact ⟨rfl, HB.out.set_ 2 (.int .i64 e), only_setC (World.grownBy.refl w _) 2 _⟩
 ·have e1 : (E == 0) = false := by simpa using h0
  rw [show kE E e = E from if_neg h0, decide_eq_false h0]
  clear h0
  go_enter Tryz.func54, Tryz.ntmps54
  go_wp2_with fail
  go_ret
  exact ⟨rfl, HB.out, World.grownBy.refl w _⟩
def tkE (s : ByteArray) (a n : Nat) (E : Int) : Int := if E = 0 then (if s.size < a + n then 3 else 0) else E
def tkA (s : ByteArray) (a n : Nat) (E : Int) : Nat := if tkE s a n E = 0 then a + n else a
def tkS (s : ByteArray) (a n : Nat) (E : Int) : ByteArray := if tkE s a n E = 0 then s.extract a (a + n) else .empty
theorem takeC_any (s : ByteArray) (a n : Nat) (E : Int) (r : Nat) (w : World) (h : Blk w r 67 (rdC s a E)) (hs : s.size ≤ 1000000000000) (ha : a ≤ s.size) (hn : n ≤ 1000000000000) :
  Calls Tryz.prog 49 #[.pointer (some ⟨r, 0, none⟩), .int .i64 (n : Int)] w fun x w' => x = .returned (.tuple #[.string (tkS s a n E), .bool (decide (tkE s a n E = 0))]) ∧ Blk w' r 67 (rdC s (tkA s a n E) (tkE s a n E)) ∧ w.grownBy w' (some r) := by
 have HB := Lib.hid h
 have c0 := h.cell 0; have c1 := h.cell 1; have c2 := h.cell 2
 have f1 := h.frozen 1; have f2 := h.frozen 2
 simp only [rdC, List.getElem?_toArray, List.getElem?_cons_zero, List.getElem?_cons_succ] at c0 c1 c2
 clear h
 by_cases h0 : E = 0
 rotate_left
 ·have e1 : (E == 0) = false := by simpa using h0
  have e2 : (E != 0) = true := by simpa using h0
  have t1 : tkE s a n E = E := if_neg h0
  have t2 : tkA s a n E = a := by unfold tkA; rw [t1, if_neg h0]
  have t3 : tkS s a n E = .empty := by unfold tkS; rw [t1, if_neg h0]
  rw [t1, t2, t3, decide_eq_false h0]
  clear h0 t1 t2 t3
  go_enter Tryz.func49, Tryz.ntmps49
  go_upto_region 3 with (go_quiet (fail))
  go_wp2_with fail
  go_ret2
  exact ⟨rfl, HB.out, grown_of_belowC _ _ _⟩
 subst h0
 obtain ⟨d, hd⟩ : ∃ d, s.size = a + d := ⟨s.size - a, by omega⟩
 have hw1 : IntKind.i64.wrap ((s.size : Int) - (a : Int)) = (d : Int) := by rw [show (s.size : Int) - (a : Int) = (d : Int) by omega]; exact wrap_natC (by omega)
 by_cases hsh : s.size < a + n
 ·have t1 : tkE s a n 0 = 3 := by unfold tkE; rw [if_pos rfl, if_pos hsh]
  have t2 : tkA s a n 0 = a := by unfold tkA; rw [t1, if_neg (by decide)]
  have t3 : tkS s a n 0 = .empty := by unfold tkS; rw [t1, if_neg (by decide)]
  rw [t1, t2, t3]
  have g1 : decide ((d : Int) < (n : Int)) = true := decide_eq_true (by omega)
  have g1n : decide (d < n) = true := decide_eq_true (by omega)
  clear hsh t1 t2 t3 hd
  go_enter Tryz.func49, Tryz.ntmps49
  go_upto_region 2 with (go_quiet (fail))
  go_wp2_with fail
  go_ret2
  exact ⟨rfl, (show Blk _ r _ _ from HB.out).set_ 2 (.int .i64 3), only_setC (grown_of_belowC _ _ _) 2 _⟩
 ·have t1 : tkE s a n 0 = 0 := by unfold tkE; rw [if_pos rfl, if_neg hsh]
  have t2 : tkA s a n 0 = a + n := by unfold tkA; rw [t1, if_pos rfl]
  have t3 : tkS s a n 0 = s.extract a (a + n) := by unfold tkS; rw [t1, if_pos rfl]
  rw [t1, t2, t3]
  have g1 : decide ((d : Int) < (n : Int)) = false := decide_eq_false (by omega)
  have g1n : decide (d < n) = false := decide_eq_false (by omega)
  obtain ⟨b, hb⟩ : ∃ b, a + n = b := ⟨_, rfl⟩
  have hw2 : IntKind.i64.wrap ((a : Int) + (n : Int)) = (b : Int) := by rw [show (a : Int) + (n : Int) = (b : Int) by omega]; exact wrap_natC (by omega)
  have hw3 : IntKind.i64.wrap ((b : Int) - (n : Int)) = (a : Int) := by rw [show (b : Int) - (n : Int) = (a : Int) by omega]; exact wrap_natC (by omega)
  have hab : a ≤ b := by omega
  have hbs : b ≤ s.size := by omega
  rw [hb]
  clear hsh t1 t2 t3 hd hb
  go_enter Tryz.func49, Tryz.ntmps49
  go_upto_region 6 with (go_quiet (fail))
  have hb2 : Blk ((w.drewN nq).setCell ⟨r, 1, none⟩ (.int .i64 (b : Int))) r 67 (rdC s b 0) := (show Blk (w.drewN nq) r _ _ from HB.out).set_ 1 (.int .i64 (b : Int))
  have hg2 : w.grownBy ((w.drewN nq).setCell ⟨r, 1, none⟩ (.int .i64 (b : Int))) (some r) := only_setC (grown_of_belowC _ _ _) 1 _
  clear c0 c1 c2 f1 f2
  generalize (w.drewN nq).setCell ⟨r, 1, none⟩ (.int .i64 (b : Int)) = w2 at *
  have c0 := hb2.cell 0; have c1 := hb2.cell 1
  simp only [rdC, List.getElem?_toArray, List.getElem?_cons_zero, List.getElem?_cons_succ] at c0 c1
  have HB2 := Lib.hid hb2; have HG2 := Lib.hid hg2
  clear hb2 hg2
  go_quiet (fail)
  go_wp2_with fail
  go_ret2
  exact ⟨rfl, HB2.out, only_drewN HG2.out _⟩
end Go.Proofs.YtgclnikdkfpflaaGreatDoor
