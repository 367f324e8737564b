/- Merged: BitsU, UnvarP. -/
import Derived.Test.YtgclnikdkfpflaaGreatDoorMt1
import Derived.Test.YtgclnikdkfpflaaGreatDoorMt13
import Derived.Test.YtgclnikdkfpflaaGreatDoorMt14
namespace Go.Proofs.YtgclnikdkfpflaaGreatDoor
open Go.RowKit Go.Shelf
open List renaming set_cons_zero → jz, set_cons_succ → js, setIfInBounds_toArray → jb
set_option linter.unusedVariables false
set_option linter.unusedSimpArgs false
set_option maxRecDepth 100000
set_option maxHeartbeats 16000000
attribute [local go_sem] Oper.semAt_some
def bitAt (l : List UInt8) (i : Nat) : Bool := bitOf (l.getD (l.length - 1 - i / 8) 0) (i % 8)
theorem bit_and : ∀ (x : Fin 256) (r : Fin 8), (((UInt8.ofNat (x.val / 2 ^ r.val)) &&& 1).toNat == 1) = bitOf (UInt8.ofNat x.val) r.val ∧ (UInt8.ofNat (x.val / 2 ^ r.val)).toNat = x.val / 2 ^ r.val := by decide +kernel
theorem each1_in (N : Nat) (hN : 1 ≤ N) (l Bs : Nat) (s : ByteArray) (hs : s.size ≤ 1000000) (J Jx : List (Fin (8 * s.size)) → World → Prop)
  (hY : ∀ pre x W, J pre W → pre.length < 8 * s.size → YieldAt Fence.wide (N - 1) Tryz.prog l #[.int .i64 (x.val : Int), .bool (bitAt s.data.toList x.val)] W fun e W' =>
   (e = .returned (.bool true) ∧ J (pre ++ [x]) W' ∧ KeepS (fun k => k = Bs) W W') ∨ (e = .returned (.bool false) ∧ Jx (pre ++ [x]) W'))
  (W : World) (hBs : W.cell? ⟨Bs, 0, none⟩ = some (.string s)) (h0 : J [] W) :
  CallsIn Fence.wide N Tryz.prog 152 #[.func (.yield l) #[] #[], .pointer (some ⟨Bs, 0, none⟩)] W fun e W' => (∃ v, e = .returned v) ∧
   ((∃ ys, ys = List.finRange (8 * s.size) ∧ J ys W') ∨ (∃ pre, pre <+: List.finRange (8 * s.size) ∧ Jx pre W')) := by
 refine callsIn_of_wp Tryz.func152 rfl trivial ?_ rfl
 simp only [Tryz.ntmps152, List.size_toArray, List.length_cons, List.length_nil, Nat.reduceAdd, Nat.reduceSub, Array.replicate_succ, Array.replicate_zero, List.push_toArray, List.append_toArray, List.nil_append, List.cons_append]
 obtain ⟨M, hM⟩ : ∃ M, 8 * s.size = M := ⟨_, rfl⟩
 have p0 : IntKind.i64.wrap (8 * (s.size : Int)) = (M : Int) := by rw [IntWalk.i64_in _ (by omega)]; omega
 have p0' : 8 * (s.size : Int) = (M : Int) := by omega
 have HM := Lib.hid hM
 gi_wp2
 gi_loopw [7] (fun i wr => ∃ k : Nat, i = .int .i64 (k : Int) ∧ k ≤ M ∧ J ((List.finRange (8 * s.size)).take k) wr ∧ KeepS (fun k => k = Bs) W wr) (fun i _ => M - (intOf i).toNat)
 case atStart => exact ⟨0, rfl, by omega, h0, KeepS.refl _ _⟩
 case round =>
  clear p0 p0' hM
  obtain ⟨k, rfl, hk, hJ, hK⟩ := hrel
  have c1 : wr.cell? ⟨Bs, 0, none⟩ = some (.string s) := (hK.cell (p := ⟨Bs, 0, none⟩) rfl).trans hBs
  by_cases hlt : k < M
  ·have hkp : k < 8 * s.size := by have := HM.out; omega
   obtain ⟨fn, tmps, assign, body, hy, hR⟩ := hY _ ⟨k, hkp⟩ wr hJ (by simp; omega)
   have htk : (List.finRange (8 * s.size)).take k ++ [⟨k, hkp⟩] = (List.finRange (8 * s.size)).take (k + 1) := by
    rw [List.take_succ_eq_append_getElem (by simp; exact hkp)]
    simp
   rw [htk] at hR
   have hsl : s.data.toList.length = s.size := ba_len s
   obtain ⟨q, hq⟩ : ∃ q, k / 8 = q := ⟨_, rfl⟩
   obtain ⟨r, hr⟩ : ∃ r, k % 8 = r := ⟨_, rfl⟩
   obtain ⟨j, hj⟩ : ∃ j, s.size - 1 - q = j := ⟨_, rfl⟩
   obtain ⟨m1, hm1⟩ : ∃ j, s.size - 1 = j := ⟨_, rfl⟩
   obtain ⟨c, hc⟩ : ∃ c, s.data.toList[j]? = some c := ⟨_, List.getElem?_eq_getElem (by omega)⟩
   have hr8 : r < 8 := by omega
   obtain ⟨b1, b2⟩ := bit_and ⟨c.toNat, c.toNat_lt⟩ ⟨r, hr8⟩
   simp only [UInt8.ofNat_toNat] at b1 b2
   have hbit : bitAt s.data.toList k = bitOf c r := by
    unfold bitAt
    rw [hsl, hq, hj, hr, List.getD_eq_getElem?_getD, hc]; rfl
   rw [← b1] at hbit
   obtain ⟨y, hy1⟩ : ∃ y, UInt8.ofNat (c.toNat / 2 ^ r) = y := ⟨_, rfl⟩
   obtain ⟨z, hz⟩ : ∃ z, y &&& 1 = z := ⟨_, rfl⟩
   obtain ⟨t, ht⟩ : ∃ t, (z.toNat == 1) = t := ⟨_, rfl⟩
   rw [hy1] at b2 hbit
   rw [hz, ht] at hbit
   rw [hbit] at hy
   have hidx := idx_str s j c hc
   have p1 : (k : Int).tdiv 8 = (q : Int) := by rw [Int.tdiv_eq_ediv_of_nonneg (by omega)]; omega
   have p2 : IntKind.i64.wrap (q : Int) = (q : Int) := IntWalk.i64_in _ (by omega)
   have p3 : (k : Int).tmod 8 = (r : Int) := by rw [Int.tmod_eq_emod_of_nonneg (by omega)]; omega
   have p4 : IntKind.i64.wrap ((s.size : Int) - 1) = (m1 : Int) := by rw [IntWalk.i64_in _ (by omega)]; omega
   have p4' : (s.size : Int) - 1 = (m1 : Int) := by omega
   have p5 : IntKind.i64.wrap ((m1 : Int) - (q : Int)) = (j : Int) := by rw [IntWalk.i64_in _ (by omega)]; omega
   have p5' : (m1 : Int) - (q : Int) = (j : Int) := by omega
   have p6 : (c.toNat : Int) / 2 ^ r = (y.toNat : Int) := by rw [b2]; simp
   have p7 := band8 y 1
   rw [hz] at p7
   have p7' : bits .and .u8 (y.toNat : Int) 1 = (z.toNat : Int) := p7
   have p8 : ((z.toNat : Int) == 1) = t := by rw [← ht, Bool.eq_iff_iff]; simp; omega
   have p1' : (k : Int) / 8 = (q : Int) := by omega
   have p3' : (k : Int) % 8 = (r : Int) := by omega
   clear htk hq hr hj hm1 hc hbit b1 b2 hy1 hz ht hsl p7
   dsimp only at hy
   gi_wp2
   refine hR.mono ?_
   rintro e' W3 (⟨rfl, hJ3, hk3⟩ | ⟨rfl, hJx3⟩)
   ·have hK3 := hK.trans hk3
    clear p1 p2 p3 p4 p4' p5 p5' p6 p7' p8 p1' p3'
    gi_wp2
    go_roundw
    case rel => exact ⟨k + 1, by simp, by omega, hJ3, hK3⟩
    case measure => simp [intOf]; omega
   ·clear p1 p2 p3 p4 p4' p5 p5' p6 p7' p8 p1' p3'
    gi_wp2
    refine bodyPost_ret (results_none rfl _ _ _) rfl ?_
    exact ⟨⟨_, rfl⟩, .inr ⟨_, List.take_prefix _ _, hJx3⟩⟩
  ·have htk : (List.finRange (8 * s.size)).take k = List.finRange (8 * s.size) := List.take_of_length_le (by simp; have := HM.out; omega)
   rw [htk] at hJ
   have d1 : decide ((k : Int) < (M : Int)) = false := by simp; omega
   have d2 : decide (k < M) = false := by simp; omega
   gi_wp2
   go_end0
   exact ⟨⟨_, rfl⟩, .inl ⟨_, rfl, hJ⟩⟩
theorem each_any (s : ByteArray) (w : World) :
  Calls Tryz.prog 121 #[.string s] w fun e w' => e = .returned (.func (.func 152) #[] #[.pointer (some ⟨w.heap.size, 0, none⟩)]) ∧ w' = w.alloc (.cells #[.string s] 9) := by
 go_enter Tryz.func121, Tryz.ntmps121
 go_wp2
 go_ret
 exact ⟨rfl, rfl⟩
def spareB (l : List UInt8) (n : Nat) : Bool := (List.range (8 * l.length)).any fun i => decide (n ≤ i) && bitAt l i
def unpackE (l : List UInt8) (n : Int) : Int := if n < 0 ∨ 4096 < n then 1 else if l.length ≠ (n.toNat + 7) / 8 then 2 else if spareB l n.toNat then 8 else 0
def unpackL (l : List UInt8) (n : Int) : List Bool := if unpackE l n = 0 then (List.range n.toNat).map (bitAt l) else []
def pickB (l : List UInt8) (n : Nat) {N : Nat} (pre : List (Fin N)) : List Bool := (pre.filter fun x => decide (x.val < n)).map fun x => bitAt l x.val
theorem pickB_hit (l : List UInt8) (n : Nat) {N : Nat} (pre : List (Fin N)) (x : Fin N) (h : x.val < n) : pickB l n (pre ++ [x]) = pickB l n pre ++ [bitAt l x.val] := by simp [pickB, h]
theorem pickB_miss (l : List UInt8) (n : Nat) {N : Nat} (pre : List (Fin N)) (x : Fin N) (h : ¬ x.val < n) : pickB l n (pre ++ [x]) = pickB l n pre := by simp [pickB, h]
theorem pickB_len (l : List UInt8) (n : Nat) {N : Nat} (pre : List (Fin N)) : (pickB l n pre).length ≤ pre.length := by simp [pickB, List.length_filter_le]
theorem pickB_all (l : List UInt8) (n N : Nat) (h : n ≤ N) : pickB l n (List.finRange N) = (List.range n).map (bitAt l) := by
 unfold pickB
 have e : ∀ k, k ≤ N → ((List.finRange N).take k).filter (fun x => decide (x.val < n)) = (List.finRange N).take (min k n) := by
  intro k
  induction k with
  | zero => intro _; simp
  | succ k ih =>
   intro hk
   rw [List.take_succ_eq_append_getElem (by simp; omega), List.filter_append, ih (by omega)]
   by_cases hkn : k < n
   ·rw [show min k n = k by omega, show min (k + 1) n = k + 1 by omega, List.take_succ_eq_append_getElem (by simp; omega)]
    simp [hkn]
   ·rw [show min k n = n by omega, show min (k + 1) n = n by omega]
    simp [hkn]
 have e1 := e N (Nat.le_refl _)
 rw [List.take_of_length_le (by simp), show min N n = n by omega] at e1
 rw [e1]
 apply List.ext_getElem (by simp; omega)
 intro i h1 h2
 simp
theorem spare_iff (l : List UInt8) (n N : Nat) (hN : N = 8 * l.length) : spareB l n = true ↔ ∃ x ∈ List.finRange N, n ≤ x.val ∧ bitAt l x.val = true := by
 unfold spareB
 rw [List.any_eq_true, hN]
 constructor
 ·rintro ⟨i, hi, h⟩
  simp only [Bool.and_eq_true, decide_eq_true_eq] at h
  exact ⟨⟨i, List.mem_range.1 hi⟩, List.mem_finRange _, h⟩
 ·rintro ⟨x, _, h⟩
  exact ⟨x.val, List.mem_range.2 x.isLt, by simp only [Bool.and_eq_true, decide_eq_true_eq]; exact h⟩
theorem info_bool : (Tryz.prog.info? 4).map (fun i => (i.zero, i.size, i.bytes)) = some (some (.bool false), 1, 1) := by kernel_rfl
theorem unpack_any (s : ByteArray) (n : Int) (hs : s.size ≤ 1000000) (w : World) :
  Calls Tryz.prog 81 #[.string s, .int .i64 n] w fun e w' => ∃ v, e = .returned (.tuple #[v, .int .i64 (unpackE s.data.toList n)]) ∧
   w'.ownsRow w.heap.size 4 1 v (unpackL s.data.toList n).length ((unpackL s.data.toList n).map Value.bool) ∧ Below w.heap.size w w' := by
 have hsl := ba_len s
 refine (callsIn_wide (n := 6)).1 ?_
 refine callsIn_of_wp_marks Tryz.func81 rfl trivial ?_ rfl
 simp only [Tryz.ntmps81, List.size_toArray, List.length_cons, List.length_nil, Nat.reduceAdd, Nat.reduceSub, Array.replicate_succ, Array.replicate_zero, List.push_toArray, List.append_toArray, List.nil_append, List.cons_append]
 by_cases hbad : n < 0 ∨ 4096 < n
 ·have he : unpackE s.data.toList n = 1 := by unfold unpackE; rw [if_pos hbad]
  have hL : unpackL s.data.toList n = [] := by unfold unpackL; rw [he]; rfl
  rw [he, hL]
  clear he hL
  have hb : (decide (n < 0) || decide (4096 < n)) = true := by simpa using hbad
  obtain ⟨x1, x2, x3, x4, _⟩ := box3 w (.int .i64 n) (.slice none 0 0) (.int .i64 1) 3 47 26
  have y1 := x2.cell; have y2 := x3.cell
  clear x1 x2 x3
  by_cases h0 : n < 0
  ·gi_wp2_with fail
   exact ⟨_, results_cell2 rfl _ _ _ _ _ _ rfl rfl (load_cell Tryz.underlying47 rfl y1) (load_cell Tryz.underlying26 rfl y2), _, rfl, World.ownsRow_nil _ _ _ _, x4⟩
  ·have h1 : 4096 < n := by omega
   gi_wp2_with fail
   exact ⟨_, results_cell2 rfl _ _ _ _ _ _ rfl rfl (load_cell Tryz.underlying47 rfl y1) (load_cell Tryz.underlying26 rfl y2), _, rfl, World.ownsRow_nil _ _ _ _, x4⟩
 ·obtain ⟨k, rfl⟩ := Int.eq_ofNat_of_zero_le (show 0 ≤ n by omega)
  have hk : k ≤ 4096 := by omega
  obtain ⟨m, hm⟩ : ∃ m, (k + 7) / 8 = m := ⟨_, rfl⟩
  have hneed := fun w => need_any k (by omega) w
  rw [hm] at hneed
  have hb : (decide ((k : Int) < 0) || decide (4096 < (k : Int))) = false := by simp; omega
  have h0 : ¬ ((k : Int) < 0) := by omega
  by_cases hlen : s.size = m
  ·have he1 : unpackE s.data.toList k = if spareB s.data.toList k then 8 else 0 := by
    unfold unpackE
    rw [if_neg hbad, if_neg (by rw [hsl, Int.toNat_natCast, hm]; simpa using hlen), Int.toNat_natCast]
   have hne : ((s.size : Int) != (m : Int)) = false := by simp; omega
   have hne2 : (s.size != m) = false := by simpa using hlen
   have hbad' := Lib.hid hbad
   have hkN : k ≤ 8 * s.size := by omega
   have HE := Lib.hid he1
   have hd2 : decide (4096 < (k : Int)) = false := by simp; omega
   have HLEN := Lib.hid hlen
   clear hm hbad he1 hlen hsl
   obtain ⟨x1, x2, x3, x4, x5⟩ := box3 w (.int .i64 (k : Int)) (.slice none 0 0) (.int .i64 0) 3 47 26
   have y1 := x2.cell; have y2 := x3.cell; have y0 := x1.cell
   gi_wp2_with fail
   refine ⟨trivial, callsIn_wide.2 ((hneed _).mono ?_)⟩
   rintro e w' ⟨rfl, rfl⟩
   clear hneed
   generalize ((w.alloc (.cells #[.int .i64 (k : Int)] 3)).alloc (.cells #[.slice none 0 0] 47)).alloc (.cells #[.int .i64 0] 26) = w1 at *
   generalize hb0 : w.heap.size = b at *
   have HB0 := Lib.hid hb0
   clear hb0 y0 y1 y2
   have z3 := Boxed.new w1 47 (.slice none 0 0)
   have z0 := x1.alloc (.cells #[.slice none 0 0] 47)
   have z1 := x2.alloc (.cells #[.slice none 0 0] 47)
   have z2 := x3.alloc (.cells #[.slice none 0 0] 47)
   have zb : Below b w (w1.alloc (.cells #[.slice none 0 0] 47)) := x4.alloc (by omega) _
   have zz : (w1.alloc (.cells #[.slice none 0 0] 47)).heap.size = b + 4 := by simp [x5]
   rw [x5] at z3
   clear x1 x2 x3 x4
   gi_wp2_with fail
   clear x5
   generalize w1.alloc (.cells #[.slice none 0 0] 47) = w2 at *
   refine ⟨trivial, callsIn_wide.2 ((each_any _ _).mono ?_)⟩
   rintro e w4 ⟨rfl, hw4⟩
   rw [zz]
   have v0 : Boxed w4 b 3 (.int .i64 (k : Int)) := by rw [hw4]; exact z0.alloc _
   have v1 : Boxed w4 (b + 1) 47 (.slice none 0 0) := by rw [hw4]; exact z1.alloc _
   have v2 : Boxed w4 (b + 1 + 1) 26 (.int .i64 0) := by rw [hw4]; exact z2.alloc _
   have v3 : Boxed w4 (b + 3) 47 (.slice none 0 0) := by rw [hw4]; exact z3.alloc _
   have v4 : Boxed w4 (b + 4) 9 (.string s) := by rw [hw4, ← zz]; exact Boxed.new w2 _ _
   have vb : Below b w w4 := by rw [hw4]; exact zb.alloc (by omega) _
   have vz : w4.heap.size = b + 5 := by rw [hw4]; simp [zz]
   have VZ := Lib.hid vz
   have vz5 : b + 5 ≤ w4.heap.size := by omega
   clear hw4 z0 z1 z2 z3 zb zz vz
   gi_wp2_with fail
   obtain ⟨i0, hi, hz0, hz1, hz2⟩ := info_parts info_bool
   obtain ⟨N, hN⟩ : ∃ N, 8 * s.size = N := ⟨_, rfl⟩
   have hN2 : N ≤ 8000000 := by omega
   have hSS : ∀ j, j = b + 4 → j < w4.heap.size := by intro j hj; omega
   refine wpIn_rangeFunc_ownG rfl (by omega) (gf := 152) (lb := #[.pointer (some ⟨b + 4, 0, none⟩)]) rfl trivial (enters_of Tryz.func152 (by kernel_rfl) rfl)
    (encs := fun x : Fin (8 * s.size) => #[.int .i64 (x.val : Int), .bool (bitAt s.data.toList x.val)]) (S := fun ys => ys = List.finRange (8 * s.size)) (Sp := fun pre => pre <+: List.finRange (8 * s.size)) (N := 8 * s.size) (w0 := w4) (Kp := KeepS (fun j => j = b + 4))
    (fun l J Jx W hW _ _ hY h0 => each1_in 5 (by omega) l (b + 4) s hs J Jx hY W ((hW.cell (p := ⟨b + 4, 0, none⟩) (by show b + 4 < w4.heap.size; omega)).trans v4.cell) h0)
    keepS_t (keepS_b hSS) (Below.refl _ _) (fun _ => rfl)
    (fun pre W => (∃ v, Boxed W (b + 3) 47 v ∧ W.ownsRow b 4 1 v (pickB s.data.toList k pre).length ((pickB s.data.toList k pre).map Value.bool) ∧ (∀ x ∈ pre, k ≤ x.val → bitAt s.data.toList x.val = false)) ∧
     (Below b w W ∧ (Boxed W b 3 (.int .i64 (k : Int)) ∧ (Boxed W (b + 1) 47 (.slice none 0 0) ∧ (Boxed W (b + 1 + 1) 26 (.int .i64 0) ∧ Boxed W (b + 4) 9 (.string s))))))
    (fun c pre W => (c = .ret ∧ ∃ x ∈ pre, k ≤ x.val ∧ bitAt s.data.toList x.val = true) ∧ (Below b w W ∧ (Boxed W (b + 1) 47 (.slice none 0 0) ∧ Boxed W (b + 1 + 1) 26 (.int .i64 8))))
    ?hI ?hIx
    ⟨⟨_, v3, World.ownsRow_nil _ _ _ _, by simp⟩, vb, v0, v1, v2, v4⟩
    (fun x => { tmps := #[.string s, .int .i64 (k : Int), undef, .pointer (some ⟨b, 0, none⟩), .pointer (some ⟨b + 1, 0, none⟩), .pointer (some ⟨b + 1 + 1, 0, none⟩), .pointer (some ⟨b + 3, 0, none⟩), .int .i64 (x.val : Int), .bool (bitAt s.data.toList x.val), .bool false, .int .i64 (k : Int), .bool false, .bool false, .int .i64 (k : Int), .bool false, .bool false, .bool false, .string s, .int .i64 (s.size : Int), .int .i64 (k : Int), .int .i64 (m : Int), .bool false, .string s, .func (.func 152) #[] #[.pointer (some ⟨b + 4, 0, none⟩)], .int .i64 (x.val : Int), .bool (bitAt s.data.toList x.val), undef, undef, undef, undef, undef, undef, undef, undef, undef], defers := [] }) ?assign ?body ?done ?stop
   case hI => exact OwnFrom.and (Own.from (holdsRow_own b (b + 3) 47 4 1 (fun pre : List (Fin (8 * s.size)) => (pickB s.data.toList k pre).length) (fun pre => (pickB s.data.toList k pre).map Value.bool) (fun pre _ => ∀ x ∈ pre, k ≤ x.val → bitAt s.data.toList x.val = false)) _) (OwnFrom.and (ownFrom_below (by have := HB0.out; omega) (by omega)) (OwnFrom.and (Own.from (boxed_own _ _ (fun _ => _)) _) (OwnFrom.and (Own.from (boxed_own _ _ (fun _ => _)) _) (OwnFrom.and (Own.from (boxed_own _ _ (fun _ => _)) _) (Own.from (boxed_own _ _ (fun _ => _)) _)))))
   case hIx => intro c; exact OwnFrom.and (ownFrom_pure _ _) (OwnFrom.and (ownFrom_below (by have := HB0.out; omega) (by omega)) (OwnFrom.and (Own.from (boxed_own _ _ (fun _ => _)) _) (Own.from (boxed_own _ _ (fun _ => _)) _)))
   case assign =>
    intro l x W K hK
    gi_wp2
    exact hK
   case body =>
    rintro l pre x W ⟨⟨v, hv, hrow, hsp⟩, hB, u0, u1, u2, u4⟩ hlt
    have hc := hv.cell
    have e0 := u0.cell
    have e1 := u1.cell; have f1 := u1.frozen
    have e2 := u2.cell; have f2 := u2.frozen
    have hpl := pickB_len s.data.toList k pre
    have hWz : b + 5 ≤ W.heap.size := by have := u4.lt; omega
    have hBz : b ≤ W.heap.size := by omega
    generalize hbt : bitAt s.data.toList x.val = t at *
    have HBT := Lib.hid hbt
    clear hbt
    by_cases hxk : x.val < k
    ·have hq : (x.val : Int) < (k : Int) := by omega
     have hpk : pickB s.data.toList k (pre ++ [x]) = pickB s.data.toList k pre ++ [t] := by rw [pickB_hit _ _ _ _ hxk, HBT.out]
     have HPK := Lib.hid hpk
     clear hpk
     gi_wp2_with (gi_at_builtin; refine wpListIn_append_own _ rfl _ _ 47 rfl b 4 i0 (.bool false) 1 1 Tryz.underlying47 hi hz0 hz1 hz2 rfl (by decide) _ _ _ rfl (hrow.alloc _) ⟨W.heap.size, 0, none⟩ 1 1 [.bool t] rfl rfl (cell_one_new _ _ _) (by simp [Value.oneCell']) (by simp only [maxLen]; omega) (by omega) (by simp; omega) ?_; intro v' w5 hown' hgrow _; obtain ⟨g', cap', rfl⟩ := ownsRow_succ hown'; obtain ⟨hv1, hv2, hr2, hk2, hb2⟩ := hv.appended (by decide) hrow hBz (by omega) hown' hgrow; have hc1 := hv1.cell; have hf1 := hv1.frozen)
     have a0 := KeepS.appendedBox (v' := .slice (some ⟨g', 0, none⟩) ((pickB s.data.toList k pre).length + 1) cap') hBz u0 (by decide) hrow (B := b + 3) (by omega) (by omega) hgrow
     have a1 := KeepS.appendedBox (v' := .slice (some ⟨g', 0, none⟩) ((pickB s.data.toList k pre).length + 1) cap') hBz u1 (by decide) hrow (B := b + 3) (by omega) (by omega) hgrow
     have a2 := KeepS.appendedBox (v' := .slice (some ⟨g', 0, none⟩) ((pickB s.data.toList k pre).length + 1) cap') hBz u2 (by decide) hrow (B := b + 3) (by omega) (by omega) hgrow
     have a4 := KeepS.appendedBox (v' := .slice (some ⟨g', 0, none⟩) ((pickB s.data.toList k pre).length + 1) cap') hBz u4 (by decide) hrow (B := b + 3) (by omega) (by omega) hgrow
     exact ⟨hk2.from _, ⟨a4.1.size, fun j hj => a4.1.block j (.inr hj)⟩, ⟨_, hv2, by rw [HPK.out]; simpa using hr2, fun y hy hky => by
      rcases List.mem_append.1 hy with hy | hy
      ·exact hsp y hy hky
      ·obtain rfl : y = x := by simpa using hy
       omega⟩, hB.trans hb2, a0.2, a1.2, a2.2, a4.2⟩
    ·have hpk : pickB s.data.toList k (pre ++ [x]) = pickB s.data.toList k pre := pickB_miss _ _ _ _ hxk
     have HPK := Lib.hid hpk
     clear hpk
     have hq : (k : Int) ≤ (x.val : Int) := by omega
     have hq2 : decide ((x.val : Int) < (k : Int)) = false := by simp; omega
     have hq3 : decide (x.val < k) = false := by simp; omega
     have hxk' := Lib.hid hxk
     clear hxk
     cases t
     ·gi_wp2
      exact ⟨KeepsFrom.refl _ _, KeepS.refl _ _, ⟨v, hv, by rw [HPK.out]; exact hrow, fun y hy hky => by
       rcases List.mem_append.1 hy with hy | hy
       ·exact hsp y hy hky
       ·obtain rfl : y = x := by simpa using hy
        exact HBT.out⟩, hB, u0, u1, u2, u4⟩
     ·gi_wp2
      exact ⟨((KeepsOthers.setCell _ _ _).trans (KeepsOthers.setCell _ _ _)).from _, ⟨rfl, x, by simp, by have := hxk'.out; omega, HBT.out⟩, (hB.setCell (p := ⟨b + 1, 0, none⟩) (by show b ≤ b + 1; omega) _).setCell (p := ⟨b + 1 + 1, 0, none⟩) (by show b ≤ b + 1 + 1; omega) _, (u1.set _).other (by omega) _, (u2.other (by omega) _).set _⟩
   case done =>
    rintro D ys W hD rfl ⟨⟨v, hv, hrow, hsp⟩, hB, u0, u1, u2, u4⟩ hK
    have hc := hv.cell
    have e1 := u1.cell; have f1 := u1.frozen
    have e2 := u2.cell; have f2 := u2.frozen
    have hDW : D < W.heap.size := (Array.getElem?_eq_some_iff.1 hK).1
    have hns : spareB s.data.toList k = false := by
     rw [← Bool.not_eq_true, spare_iff s.data.toList k (8 * s.size) (by rw [ba_len])]
     rintro ⟨x, hx, h1, h2⟩
     rw [hsp x hx h1] at h2
     cases h2
    have hE0 : unpackE s.data.toList (k : Int) = 0 := by rw [HE.out, hns]; rfl
    have hL0 : unpackL s.data.toList (k : Int) = pickB s.data.toList k (List.finRange (8 * s.size)) := by
     unfold unpackL
     rw [if_pos hE0, pickB_all _ _ _ hkN]
     rfl
    obtain ⟨A0, c0, rfl, _⟩ := own_slice hrow
    gi_wp2
    refine ⟨by simp, .inl ⟨_, _, rfl, run_takeDeferred (((KeepsOthers.setCell _ _ _).trans (KeepsOthers.setCell _ _ _)).same D _ hK rfl), ?_⟩⟩
    have t1 : Boxed ((W.setCell ⟨b + 1, 0, none⟩ (.slice A0 (pickB s.data.toList k (List.finRange (8 * s.size))).length c0)).setCell ⟨b + 1 + 1, 0, none⟩ (.int .i64 0)) (b + 1) 47 _ := (u1.set _).other (by omega) _
    have t2 : Boxed ((W.setCell ⟨b + 1, 0, none⟩ (.slice A0 (pickB s.data.toList k (List.finRange (8 * s.size))).length c0)).setCell ⟨b + 1 + 1, 0, none⟩ (.int .i64 0)) (b + 1 + 1) 26 (.int .i64 0) := (u2.other (by omega) _).set _
    have tb := (hB.setCell (p := ⟨b + 1, 0, none⟩) (by show b ≤ b + 1; omega) (.slice A0 (pickB s.data.toList k (List.finRange (8 * s.size))).length c0)).setCell (p := ⟨b + 1 + 1, 0, none⟩) (by show b ≤ b + 1 + 1; omega) (.int .i64 0)
    have tr : ((W.setCell ⟨b + 1, 0, none⟩ (.slice A0 (pickB s.data.toList k (List.finRange (8 * s.size))).length c0)).setCell ⟨b + 1 + 1, 0, none⟩ (.int .i64 0)).ownsRow b 4 1 (.slice A0 (pickB s.data.toList k (List.finRange (8 * s.size))).length c0) _ _ :=
     (hrow.kept (grownBy_setCell' W (b + 1) _) (.inr (u1.not_row (by decide) hrow).symm)).kept (grownBy_setCell' _ (b + 1 + 1) _) (.inr (u2.not_row (by decide) hrow).symm)
    have tK := ((KeepsOthers.setCell W ⟨b + 1, 0, none⟩ (.slice A0 (pickB s.data.toList k (List.finRange (8 * s.size))).length c0)).trans (KeepsOthers.setCell _ ⟨b + 1 + 1, 0, none⟩ (.int .i64 0))).same D _ hK rfl
    have q1 : D ≠ b + 1 := by omega
    have q2 : D ≠ b + 1 + 1 := by omega
    exact ⟨_, results_cell2 rfl _ _ _ _ _ _ rfl rfl (load_cell Tryz.underlying47 rfl ((t1.kept (grownBy_putObj' _ D _) (by simp; omega)).cell)) (load_cell Tryz.underlying26 rfl ((t2.kept (grownBy_putObj' _ D _) (by simp; omega)).cell)),
     _, by rw [hE0], by rw [hL0, HB0.out]; exact ownsRow_putObj tr _ tK rfl, by rw [HB0.out]; exact tb.trans (belowK_b (w := w) (by have := HB0.out; omega) _ D _ _ (by have := HB0.out; omega) tK rfl rfl)⟩
   case stop =>
    rintro D c pre W hD hpre ⟨⟨rfl, x, hx, hx1, hx2⟩, hB, u1, u2⟩ hK
    have hns : spareB s.data.toList k = true := by
     rw [spare_iff s.data.toList k (8 * s.size) (by rw [ba_len])]
     exact ⟨x, hpre.subset hx, hx1, hx2⟩
    have hE0 : unpackE s.data.toList (k : Int) = 8 := by rw [HE.out, hns]; rfl
    have hL0 : unpackL s.data.toList (k : Int) = [] := by unfold unpackL; rw [hE0]; rfl
    gi_wp2
    have hDW : D < W.heap.size := (Array.getElem?_eq_some_iff.1 hK).1
    refine ⟨by simp, .inl ⟨_, _, rfl, run_takeDeferred hK, ?_⟩⟩
    exact ⟨_, results_cell2 rfl _ _ _ _ _ _ rfl rfl (load_cell Tryz.underlying47 rfl ((u1.kept (grownBy_putObj' _ D _) (by simp; omega)).cell)) (load_cell Tryz.underlying26 rfl ((u2.kept (grownBy_putObj' _ D _) (by simp; omega)).cell)),
     _, by rw [hE0], by rw [hL0]; exact World.ownsRow_nil _ _ _ _, by rw [HB0.out]; exact hB.trans (belowK_b (w := w) (by have := HB0.out; omega) _ D _ _ (by have := HB0.out; omega) hK rfl rfl)⟩
  ·have he : unpackE s.data.toList k = 2 := by unfold unpackE; rw [if_neg hbad, if_pos (by rw [hsl, Int.toNat_natCast, hm]; exact hlen)]
   have hL : unpackL s.data.toList k = [] := by unfold unpackL; rw [he]; rfl
   rw [he, hL]
   have hne : ((s.size : Int) != (m : Int)) = true := by simp; omega
   have hne2 : (s.size != m) = true := by simpa using hlen
   have hbad' := Lib.hid hbad
   clear he hL hm hlen hbad
   obtain ⟨x1, x2, x3, x4, _⟩ := box3 w (.int .i64 (k : Int)) (.slice none 0 0) (.int .i64 2) 3 47 26
   have y1 := x2.cell; have y2 := x3.cell
   clear x1 x2 x3
   gi_wp2_with fail
   refine ⟨trivial, callsIn_wide.2 ((hneed _).mono ?_)⟩
   rintro e w' ⟨rfl, rfl⟩
   gi_wp2_with fail
   exact ⟨_, results_cell2 rfl _ _ _ _ _ _ rfl rfl (load_cell Tryz.underlying47 rfl y1) (load_cell Tryz.underlying26 rfl y2), _, rfl, World.ownsRow_nil _ _ _ _, x4⟩
def digB (c : UInt8) (i : Nat) : BitVec 64 := BitVec.ofNat 64 (c.toNat % 128) <<< (7 * i)
def unvarGo (l : List UInt8) (a : Nat) : Nat → Nat → BitVec 64 → BitVec 64 × Nat × Int
 | 0, _, _ => (0, 0, 3)
 | f + 1, i, n => match l[a + i]? with
  | none => (0, 0, 3)
  | some c => if i = 9 ∧ 1 < c.toNat then (0, 0, 5) else if 128 ≤ c.toNat then unvarGo l a f (i + 1) (n ||| digB c i) else if 0 < i ∧ c.toNat = 0 then (0, 0, 8) else (n ||| digB c i, a + i + 1, 0)
def unvarS (l : List UInt8) (at_ : Int) : BitVec 64 × Nat × Int := if at_ < 0 ∨ (l.length : Int) < at_ then (0, 0, 1) else unvarGo l at_.toNat 10 0 0
theorem ofNat_split (m : Nat) (h : m < 2 ^ 64) : BitVec.ofNat 64 m = BitVec.ofNat 64 (m % 128) ||| (BitVec.ofNat 64 (m / 128) <<< 7) := by
 apply BitVec.eq_of_toNat_eq
 rw [BitVec.toNat_or, BitVec.toNat_shiftLeft, BitVec.toNat_ofNat, BitVec.toNat_ofNat, BitVec.toNat_ofNat, Nat.shiftLeft_eq, Nat.mod_eq_of_lt h, Nat.mod_eq_of_lt (show m % 128 < 2 ^ 64 by omega), Nat.mod_eq_of_lt (show m / 128 < 2 ^ 64 by omega),
  Nat.mod_eq_of_lt (show m / 128 * 2 ^ 7 < 2 ^ 64 by omega)]
 have := Nat.two_pow_add_eq_or_of_lt (i := 7) (b := m % 128) (by omega) (m / 128)
 rw [Nat.or_comm, Nat.mul_comm, ← this]
 omega
theorem ofNat_split_at (m i : Nat) (h : m < 2 ^ 64) : BitVec.ofNat 64 m <<< (7 * i) = (BitVec.ofNat 64 (m % 128) <<< (7 * i)) ||| (BitVec.ofNat 64 (m / 128) <<< (7 * (i + 1))) := by
 conv => lhs; rw [ofNat_split m h]
 rw [BitVec.shiftLeft_or_distrib, ← BitVec.shiftLeft_add]
 congr 2
 omega
theorem pow_step (i : Nat) (h : i ≤ 8) : 2 ^ (64 - 7 * i) = 128 * 2 ^ (64 - 7 * (i + 1)) := by
 rw [show 64 - 7 * i = (64 - 7 * (i + 1)) + 7 by omega, Nat.pow_add]
 omega
theorem pow_le64 (i : Nat) : 2 ^ (64 - 7 * i) ≤ 2 ^ 64 := Nat.pow_le_pow_right (by omega) (by omega)
theorem unvar_back (pre post : List UInt8) : ∀ (f i m : Nat) (n : BitVec 64) (done : List UInt8), done.length = i → i + f = 10 → m < 2 ^ (64 - 7 * i) → (0 < i → 0 < m) →
  unvarGo (pre ++ (done ++ varF f m) ++ post) pre.length f i n = (n ||| BitVec.ofNat 64 m <<< (7 * i), pre.length + i + (varF f m).length, 0)
 | 0, i, m, n, done, hd, hf, hm, h0 => by
  exfalso
  have : i = 10 := by omega
  subst this
  have := h0 (by omega)
  simp at hm
  omega
 | f + 1, i, m, n, done, hd, hf, hm, h0 => by
  have hm64 : m < 2 ^ 64 := Nat.lt_of_lt_of_le hm (pow_le64 i)
  by_cases hlt : m < 128
  ·have hv : varF (f + 1) m = [UInt8.ofNat m] := by rw [varF, if_pos hlt]
   have hget : (pre ++ (done ++ varF (f + 1) m) ++ post)[pre.length + i]? = some (UInt8.ofNat m) := by
    rw [hv, List.append_assoc, List.getElem?_append_right (by omega), show pre.length + i - pre.length = i by omega, List.append_assoc, List.getElem?_append_right (by omega), hd, Nat.sub_self]
    rfl
   have hc : (UInt8.ofNat m).toNat = m := by simp; omega
   rw [unvarGo, hget]
   simp only [hc, hv, List.length_singleton]
   rw [if_neg (by
    rintro ⟨rfl, h1⟩
    have : m < 2 := hm
    omega), if_neg (by omega), if_neg (by rintro ⟨h1, h2⟩; have := h0 h1; omega)]
   unfold digB
   rw [hc, Nat.mod_eq_of_lt hlt]
  ·have hv : varF (f + 1) m = UInt8.ofNat (m % 128 + 128) :: varF f (m / 128) := by rw [varF, if_neg hlt]
   have hget : (pre ++ (done ++ varF (f + 1) m) ++ post)[pre.length + i]? = some (UInt8.ofNat (m % 128 + 128)) := by
    rw [hv, List.append_assoc, List.getElem?_append_right (by omega), show pre.length + i - pre.length = i by omega, List.append_assoc, List.getElem?_append_right (by omega), hd, Nat.sub_self]
    rfl
   have hc : (UInt8.ofNat (m % 128 + 128)).toNat = m % 128 + 128 := by simp; omega
   have hi : i ≤ 8 := by
    rcases Nat.lt_or_ge i 9 with h | h
    ·omega
    ·exfalso
     have : 2 ^ (64 - 7 * i) ≤ 2 ^ 1 := Nat.pow_le_pow_right (by omega) (by omega)
     omega
   rw [unvarGo, hget]
   simp only [hc]
   rw [if_neg (by omega), if_pos (by omega)]
   have hstep := pow_step i hi
   have ih := unvar_back pre post f (i + 1) (m / 128) (n ||| digB (UInt8.ofNat (m % 128 + 128)) i) (done ++ [UInt8.ofNat (m % 128 + 128)]) (by simp [hd]) (by omega) (by rw [hstep] at hm; exact Nat.div_lt_of_lt_mul hm) (by omega)
   rw [show done ++ [UInt8.ofNat (m % 128 + 128)] ++ varF f (m / 128) = done ++ varF (f + 1) m by rw [hv]; simp] at ih
   rw [ih, hv]
   congr 1
   ·rw [BitVec.or_assoc, ofNat_split_at m i hm64]
    unfold digB
    rw [hc, show (m % 128 + 128) % 128 = m % 128 by omega]
   ·congr 1
    simp
    omega
theorem unvar_only (l : List UInt8) (a : Nat) : ∀ (f i : Nat) (n r : BitVec 64) (tz : Nat), i + f = 10 → unvarGo l a f i n = (r, tz, 0) →
  ∃ m, m < 2 ^ (64 - 7 * i) ∧ (0 < i → 0 < m) ∧ r = n ||| BitVec.ofNat 64 m <<< (7 * i) ∧ tz = a + i + (varF f m).length ∧ tz ≤ l.length ∧ (l.drop (a + i)).take (varF f m).length = varF f m
 | 0, i, n, r, tz, hf, h => by simp [unvarGo] at h
 | f + 1, i, n, r, tz, hf, h => by
  rw [unvarGo] at h
  cases hg : l[a + i]? with
  | none => rw [hg] at h; simp at h
  | some c =>
   rw [hg] at h
   simp only at h
   obtain ⟨hlt, hge⟩ := List.getElem?_eq_some_iff.1 hg
   have hdrop : l.drop (a + i) = c :: l.drop (a + i + 1) := by rw [List.drop_eq_getElem_cons hlt, hge]
   split at h
   ·simp at h
   ·rename_i h9
    split at h
    ·rename_i hc
     obtain ⟨m, h1, h2, h3, h4, h5, h6⟩ := unvar_only l a f (i + 1) _ r tz (by omega) h
     have hi : i ≤ 8 := by
      rcases Nat.lt_or_ge i 9 with h | h
      ·omega
      ·exfalso; exact h9 ⟨by omega, by omega⟩
     have hcl := c.toNat_lt
     have hstep := pow_step i hi
     have hm : 0 < m := h2 (by omega)
     have hv : varF (f + 1) (m * 128 + c.toNat % 128) = c :: varF f m := by
      rw [varF, if_neg (by omega), show (m * 128 + c.toNat % 128) % 128 + 128 = c.toNat by omega, show (m * 128 + c.toNat % 128) / 128 = m by omega]
      simp
     have hlt64 : m * 128 + c.toNat % 128 < 2 ^ (64 - 7 * i) := by rw [hstep]; omega
     refine ⟨m * 128 + c.toNat % 128, hlt64, by omega, ?_, ?_, h5, ?_⟩
     ·rw [h3, ofNat_split_at _ i (Nat.lt_of_lt_of_le hlt64 (pow_le64 i)), show (m * 128 + c.toNat % 128) % 128 = c.toNat % 128 by omega, show (m * 128 + c.toNat % 128) / 128 = m by omega, BitVec.or_assoc]
      rfl
     ·rw [h4, hv]; simp; omega
     ·rw [hv, hdrop, List.length_cons, List.take_succ_cons, show a + i + 1 = a + (i + 1) by omega, h6]
    ·rename_i hc
     split at h
     ·simp at h
     ·rename_i h0
      simp only [Prod.mk.injEq] at h
      obtain ⟨rfl, rfl, _⟩ := h
      have hv : varF (f + 1) c.toNat = [c] := by rw [varF, if_pos (by omega)]; simp
      refine ⟨c.toNat, ?_, ?_, ?_, by rw [hv]; simp, by omega, by rw [hv, hdrop]; simp⟩
      ·rcases Nat.lt_or_ge i 9 with h | h
       ·have : 2 ^ 7 ≤ 2 ^ (64 - 7 * i) := Nat.pow_le_pow_right (by omega) (by omega)
        omega
       ·have : i = 9 := by omega
        subst this
        have : ¬ 1 < c.toNat := fun h => h9 ⟨rfl, h⟩
        show c.toNat < 2
        omega
      ·intro hi
       rcases Nat.eq_zero_or_pos c.toNat with h | h
       ·exact absurd ⟨hi, h⟩ h0
       ·exact h
      ·unfold digB
       rw [Nat.mod_eq_of_lt (by omega)]
theorem unvarS_back (pre post : List UInt8) (m : Nat) (h : m < 2 ^ 64) : unvarS (pre ++ varL m ++ post) pre.length = (BitVec.ofNat 64 m, pre.length + (varL m).length, 0) := by
 unfold unvarS
 rw [if_neg (by simp; omega), Int.toNat_natCast]
 have := unvar_back pre post 10 0 m 0 [] rfl rfl (by simpa using h) (by omega)
 simpa [varL] using this
theorem unvarS_only (l : List UInt8) (a : Nat) (r : BitVec 64) (tz : Nat) (h : unvarS l a = (r, tz, 0)) : tz = a + (varL r.toNat).length ∧ tz ≤ l.length ∧ (l.drop a).take (tz - a) = varL r.toNat := by
 unfold unvarS at h
 split at h
 ·simp at h
 ·rw [Int.toNat_natCast] at h
  obtain ⟨m, h1, _, h3, h4, h5, h6⟩ := unvar_only l a 10 0 0 r tz rfl h
  have hr : r.toNat = m := by
   rw [h3]
   simp
   omega
  rw [hr]
  refine ⟨h4, h5, ?_⟩
  rw [h4]
  simpa [varL] using h6
end Go.Proofs.YtgclnikdkfpflaaGreatDoor
