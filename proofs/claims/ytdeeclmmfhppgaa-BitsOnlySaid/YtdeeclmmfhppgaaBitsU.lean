/- Unpack of package bits: what it answers. -/
import Derived.Test.YtdeeclmmfhppgaaBitsW
import Derived.Test.YtdeeclmmfhppgaaRes
namespace Go.Proofs.Ytdeeclmmfhppgaa
open Go.RowKit Go.Shelf
attribute [local go_sem] Oper.semAt_some

/-- a bit of bytes, the lowest one first -/
def bitAt (l : List UInt8) (i : Nat) : Bool := bitOf (l.getD (l.length - 1 - i / 8) 0) (i % 8)
theorem bit_and : ∀ (x : Fin 256) (r : Fin 8), (((UInt8.ofNat (x.val / 2 ^ r.val)) &&& 1).toNat == 1) = bitOf (UInt8.ofNat x.val) r.val ∧ (UInt8.ofNat (x.val / 2 ^ r.val)).toNat = x.val / 2 ^ r.val := by decide +kernel

set_option maxRecDepth 100000 in
set_option maxHeartbeats 1000000 in
theorem each1_in (N : Nat) (hN : 1 ≤ N) (l Bs : Nat) (s : ByteArray) (hs : s.size ≤ 1000000) (J Jx : List (Fin (8 * s.size)) → World → Prop)
    (hY : ∀ pre x W, J pre W → pre.length < 8 * s.size → YieldAt Fence.wide (N - 1) Try.prog l #[.int .i64 (x.val : Int), .bool (bitAt s.data.toList x.val)] W fun e W' =>
      (e = .returned (.bool true) ∧ J (pre ++ [x]) W' ∧ KeepS (fun k => k = Bs) W W') ∨ (e = .returned (.bool false) ∧ Jx (pre ++ [x]) W'))
    (W : World) (hBs : W.cell? ⟨Bs, 0, none⟩ = some (.string s)) (h0 : J [] W) :
    CallsIn Fence.wide N Try.prog 28 #[.func (.yield l) #[] #[], .pointer (some ⟨Bs, 0, none⟩)] W fun e W' => (∃ v, e = .returned v) ∧
      ((∃ ys, ys = List.finRange (8 * s.size) ∧ J ys W') ∨ (∃ pre, pre <+: List.finRange (8 * s.size) ∧ Jx pre W')) := by
  refine callsIn_of_wp Try.func28 rfl trivial ?_ rfl
  simp only [Try.ntmps28, List.size_toArray, List.length_cons, List.length_nil, Nat.reduceAdd, Nat.reduceSub, Array.replicate_succ, Array.replicate_zero, List.push_toArray, List.append_toArray, List.nil_append, List.cons_append]
  obtain ⟨M, hM⟩ : ∃ M, 8 * s.size = M := ⟨_, rfl⟩
  have p0 : IntKind.i64.wrap (8 * (s.size : Int)) = (M : Int) := by rw [IntWalk.i64_in _ (by omega)]; omega
  have p0' : 8 * (s.size : Int) = (M : Int) := by omega
  have HM := Lib.hid hM
  gi_wp2
  gi_loopw [7] (fun i wr => ∃ k : Nat, i = .int .i64 (k : Int) ∧ k ≤ M ∧ J ((List.finRange (8 * s.size)).take k) wr ∧ KeepS (fun k => k = Bs) W wr) (fun i _ => M - (intOf i).toNat)
  case atStart => exact ⟨0, rfl, by omega, h0, KeepS.refl _ _⟩
  case round =>
    clear p0 p0' hM
    obtain ⟨k, rfl, hk, hJ, hK⟩ := hrel
    have c1 : wr.cell? ⟨Bs, 0, none⟩ = some (.string s) := (hK.cell (p := ⟨Bs, 0, none⟩) rfl).trans hBs
    by_cases hlt : k < M
    · have hkp : k < 8 * s.size := by have := HM.out; omega
      obtain ⟨fn, tmps, assign, body, hy, hR⟩ := hY _ ⟨k, hkp⟩ wr hJ (by simp; omega)
      have htk : (List.finRange (8 * s.size)).take k ++ [⟨k, hkp⟩] = (List.finRange (8 * s.size)).take (k + 1) := by
        rw [List.take_succ_eq_append_getElem (by simp; exact hkp)]
        simp
      rw [htk] at hR
      have hsl : s.data.toList.length = s.size := ba_len s
      obtain ⟨q, hq⟩ : ∃ q, k / 8 = q := ⟨_, rfl⟩
      obtain ⟨r, hr⟩ : ∃ r, k % 8 = r := ⟨_, rfl⟩
      obtain ⟨j, hj⟩ : ∃ j, s.size - 1 - q = j := ⟨_, rfl⟩
      obtain ⟨m1, hm1⟩ : ∃ j, s.size - 1 = j := ⟨_, rfl⟩
      obtain ⟨c, hc⟩ : ∃ c, s.data.toList[j]? = some c := ⟨_, List.getElem?_eq_getElem (by omega)⟩
      have hr8 : r < 8 := by omega
      obtain ⟨b1, b2⟩ := bit_and ⟨c.toNat, c.toNat_lt⟩ ⟨r, hr8⟩
      simp only [UInt8.ofNat_toNat] at b1 b2
      have hbit : bitAt s.data.toList k = bitOf c r := by
        unfold bitAt
        rw [hsl, hq, hj, hr, List.getD_eq_getElem?_getD, hc]; rfl
      rw [← b1] at hbit
      obtain ⟨y, hy1⟩ : ∃ y, UInt8.ofNat (c.toNat / 2 ^ r) = y := ⟨_, rfl⟩
      obtain ⟨z, hz⟩ : ∃ z, y &&& 1 = z := ⟨_, rfl⟩
      obtain ⟨t, ht⟩ : ∃ t, (z.toNat == 1) = t := ⟨_, rfl⟩
      rw [hy1] at b2 hbit
      rw [hz, ht] at hbit
      rw [hbit] at hy
      have hidx := idx_str s j c hc
      have p1 : (k : Int).tdiv 8 = (q : Int) := by rw [Int.tdiv_eq_ediv_of_nonneg (by omega)]; omega
      have p2 : IntKind.i64.wrap (q : Int) = (q : Int) := IntWalk.i64_in _ (by omega)
      have p3 : (k : Int).tmod 8 = (r : Int) := by rw [Int.tmod_eq_emod_of_nonneg (by omega)]; omega
      have p4 : IntKind.i64.wrap ((s.size : Int) - 1) = (m1 : Int) := by rw [IntWalk.i64_in _ (by omega)]; omega
      have p4' : (s.size : Int) - 1 = (m1 : Int) := by omega
      have p5 : IntKind.i64.wrap ((m1 : Int) - (q : Int)) = (j : Int) := by rw [IntWalk.i64_in _ (by omega)]; omega
      have p5' : (m1 : Int) - (q : Int) = (j : Int) := by omega
      have p6 : (c.toNat : Int) / 2 ^ r = (y.toNat : Int) := by rw [b2]; simp
      have p7 := band8 y 1
      rw [hz] at p7
      have p7' : bits .and .u8 (y.toNat : Int) 1 = (z.toNat : Int) := p7
      have p8 : ((z.toNat : Int) == 1) = t := by rw [← ht, Bool.eq_iff_iff]; simp; omega
      have p1' : (k : Int) / 8 = (q : Int) := by omega
      have p3' : (k : Int) % 8 = (r : Int) := by omega
      clear htk hq hr hj hm1 hc hbit b1 b2 hy1 hz ht hsl p7
      dsimp only at hy
      gi_wp2
      refine hR.mono ?_
      rintro e' W3 (⟨rfl, hJ3, hk3⟩ | ⟨rfl, hJx3⟩)
      · have hK3 := hK.trans hk3
        clear p1 p2 p3 p4 p4' p5 p5' p6 p7' p8 p1' p3'
        gi_wp2
        go_roundw
        case rel => exact ⟨k + 1, by simp, by omega, hJ3, hK3⟩
        case measure => simp [intOf]; omega
      · clear p1 p2 p3 p4 p4' p5 p5' p6 p7' p8 p1' p3'
        gi_wp2
        refine bodyPost_ret (results_none rfl _ _ _) rfl ?_
        exact ⟨⟨_, rfl⟩, .inr ⟨_, List.take_prefix _ _, hJx3⟩⟩
    · have htk : (List.finRange (8 * s.size)).take k = List.finRange (8 * s.size) := List.take_of_length_le (by simp; have := HM.out; omega)
      rw [htk] at hJ
      have d1 : decide ((k : Int) < (M : Int)) = false := by simp; omega
      have d2 : decide (k < M) = false := by simp; omega
      gi_wp2
      go_end0
      exact ⟨⟨_, rfl⟩, .inl ⟨_, rfl, hJ⟩⟩

theorem each_any (s : ByteArray) (w : World) :
    Calls Try.prog 25 #[.string s] w fun e w' => e = .returned (.func (.func 28) #[] #[.pointer (some ⟨w.heap.size, 0, none⟩)]) ∧ w' = w.alloc (.cells #[.string s] 9) := by
  go_enter Try.func25, Try.ntmps25
  go_wp2
  go_ret
  exact ⟨rfl, rfl⟩

/-- what Unpack answers: what is wrong, and the bits -/
def spareB (l : List UInt8) (n : Nat) : Bool := (List.range (8 * l.length)).any fun i => decide (n ≤ i) && bitAt l i
def unpackE (l : List UInt8) (n : Int) : Int := if n < 0 ∨ 4096 < n then 1 else if l.length ≠ (n.toNat + 7) / 8 then 2 else if spareB l n.toNat then 8 else 0
def unpackL (l : List UInt8) (n : Int) : List Bool := if unpackE l n = 0 then (List.range n.toNat).map (bitAt l) else []
/-- the bits of places, below a number -/
def pickB (l : List UInt8) (n : Nat) {N : Nat} (pre : List (Fin N)) : List Bool := (pre.filter fun x => decide (x.val < n)).map fun x => bitAt l x.val
theorem pickB_hit (l : List UInt8) (n : Nat) {N : Nat} (pre : List (Fin N)) (x : Fin N) (h : x.val < n) : pickB l n (pre ++ [x]) = pickB l n pre ++ [bitAt l x.val] := by simp [pickB, h]
theorem pickB_miss (l : List UInt8) (n : Nat) {N : Nat} (pre : List (Fin N)) (x : Fin N) (h : ¬ x.val < n) : pickB l n (pre ++ [x]) = pickB l n pre := by simp [pickB, h]
theorem pickB_len (l : List UInt8) (n : Nat) {N : Nat} (pre : List (Fin N)) : (pickB l n pre).length ≤ pre.length := by simp [pickB, List.length_filter_le]
theorem pickB_all (l : List UInt8) (n N : Nat) (h : n ≤ N) : pickB l n (List.finRange N) = (List.range n).map (bitAt l) := by
  unfold pickB
  have e : ∀ k, k ≤ N → ((List.finRange N).take k).filter (fun x => decide (x.val < n)) = (List.finRange N).take (min k n) := by
    intro k
    induction k with
    | zero => intro _; simp
    | succ k ih =>
      intro hk
      rw [List.take_succ_eq_append_getElem (by simp; omega), List.filter_append, ih (by omega)]
      by_cases hkn : k < n
      · rw [show min k n = k by omega, show min (k + 1) n = k + 1 by omega, List.take_succ_eq_append_getElem (by simp; omega)]
        simp [hkn]
      · rw [show min k n = n by omega, show min (k + 1) n = n by omega]
        simp [hkn]
  have e1 := e N (Nat.le_refl _)
  rw [List.take_of_length_le (by simp), show min N n = n by omega] at e1
  rw [e1]
  apply List.ext_getElem (by simp; omega)
  intro i h1 h2
  simp
theorem spare_iff (l : List UInt8) (n N : Nat) (hN : N = 8 * l.length) : spareB l n = true ↔ ∃ x ∈ List.finRange N, n ≤ x.val ∧ bitAt l x.val = true := by
  unfold spareB
  rw [List.any_eq_true, hN]
  constructor
  · rintro ⟨i, hi, h⟩
    simp only [Bool.and_eq_true, decide_eq_true_eq] at h
    exact ⟨⟨i, List.mem_range.1 hi⟩, List.mem_finRange _, h⟩
  · rintro ⟨x, _, h⟩
    exact ⟨x.val, List.mem_range.2 x.isLt, by simp only [Bool.and_eq_true, decide_eq_true_eq]; exact h⟩
theorem info_bool : (Try.prog.info? 4).map (fun i => (i.zero, i.size, i.bytes)) = some (some (.bool false), 1, 1) := by kernel_rfl

set_option maxRecDepth 100000 in
set_option maxHeartbeats 2000000 in
theorem unpack_any (s : ByteArray) (n : Int) (hs : s.size ≤ 1000000) (w : World) :
    Calls Try.prog 14 #[.string s, .int .i64 n] w fun e w' => ∃ v, e = .returned (.tuple #[v, .int .i64 (unpackE s.data.toList n)]) ∧
      w'.ownsRow w.heap.size 4 1 v (unpackL s.data.toList n).length ((unpackL s.data.toList n).map Value.bool) ∧ Below w.heap.size w w' := by
  have hsl := ba_len s
  refine (callsIn_wide (n := 6)).1 ?_
  refine callsIn_of_wp_marks Try.func14 rfl trivial ?_ rfl
  simp only [Try.ntmps14, List.size_toArray, List.length_cons, List.length_nil, Nat.reduceAdd, Nat.reduceSub, Array.replicate_succ, Array.replicate_zero, List.push_toArray, List.append_toArray, List.nil_append, List.cons_append]
  by_cases hbad : n < 0 ∨ 4096 < n
  · have he : unpackE s.data.toList n = 1 := by unfold unpackE; rw [if_pos hbad]
    have hL : unpackL s.data.toList n = [] := by unfold unpackL; rw [he]; rfl
    rw [he, hL]
    clear he hL
    have hb : (decide (n < 0) || decide (4096 < n)) = true := by simpa using hbad
    obtain ⟨x1, x2, x3, x4, _⟩ := box3 w (.int .i64 n) (.slice none 0 0) (.int .i64 1) 3 22 29
    have y1 := x2.cell; have y2 := x3.cell
    clear x1 x2 x3
    by_cases h0 : n < 0
    · gi_wp2_with fail
      exact ⟨_, results_cell2 rfl _ _ _ _ _ _ rfl rfl (load_cell Try.underlying22 rfl y1) (load_cell Try.underlying29 rfl y2), _, rfl, World.ownsRow_nil _ _ _ _, x4⟩
    · have h1 : 4096 < n := by omega
      gi_wp2_with fail
      exact ⟨_, results_cell2 rfl _ _ _ _ _ _ rfl rfl (load_cell Try.underlying22 rfl y1) (load_cell Try.underlying29 rfl y2), _, rfl, World.ownsRow_nil _ _ _ _, x4⟩
  · obtain ⟨k, rfl⟩ := Int.eq_ofNat_of_zero_le (show 0 ≤ n by omega)
    have hk : k ≤ 4096 := by omega
    obtain ⟨m, hm⟩ : ∃ m, (k + 7) / 8 = m := ⟨_, rfl⟩
    have hneed := fun w => need_any k (by omega) w
    rw [hm] at hneed
    have hb : (decide ((k : Int) < 0) || decide (4096 < (k : Int))) = false := by simp; omega
    have h0 : ¬ ((k : Int) < 0) := by omega
    by_cases hlen : s.size = m
    · have he1 : unpackE s.data.toList k = if spareB s.data.toList k then 8 else 0 := by
        unfold unpackE
        rw [if_neg hbad, if_neg (by rw [hsl, Int.toNat_natCast, hm]; simpa using hlen), Int.toNat_natCast]
      have hne : ((s.size : Int) != (m : Int)) = false := by simp; omega
      have hne2 : (s.size != m) = false := by simpa using hlen
      have hbad' := Lib.hid hbad
      have hkN : k ≤ 8 * s.size := by omega
      have HE := Lib.hid he1
      have hd2 : decide (4096 < (k : Int)) = false := by simp; omega
      have HLEN := Lib.hid hlen
      clear hm hbad he1 hlen hsl
      obtain ⟨x1, x2, x3, x4, x5⟩ := box3 w (.int .i64 (k : Int)) (.slice none 0 0) (.int .i64 0) 3 22 29
      have y1 := x2.cell; have y2 := x3.cell; have y0 := x1.cell
      gi_wp2_with fail
      refine ⟨trivial, callsIn_wide.2 ((hneed _).mono ?_)⟩
      rintro e w' ⟨rfl, rfl⟩
      clear hneed
      generalize ((w.alloc (.cells #[.int .i64 (k : Int)] 3)).alloc (.cells #[.slice none 0 0] 22)).alloc (.cells #[.int .i64 0] 29) = w1 at *
      generalize hb0 : w.heap.size = b at *
      have HB0 := Lib.hid hb0
      clear hb0 y0 y1 y2
      have z3 := Boxed.new w1 22 (.slice none 0 0)
      have z0 := x1.alloc (.cells #[.slice none 0 0] 22)
      have z1 := x2.alloc (.cells #[.slice none 0 0] 22)
      have z2 := x3.alloc (.cells #[.slice none 0 0] 22)
      have zb : Below b w (w1.alloc (.cells #[.slice none 0 0] 22)) := x4.alloc (by omega) _
      have zz : (w1.alloc (.cells #[.slice none 0 0] 22)).heap.size = b + 4 := by simp [x5]
      rw [x5] at z3
      clear x1 x2 x3 x4
      gi_wp2_with fail
      clear x5
      generalize w1.alloc (.cells #[.slice none 0 0] 22) = w2 at *
      refine ⟨trivial, callsIn_wide.2 ((each_any _ _).mono ?_)⟩
      rintro e w4 ⟨rfl, hw4⟩
      rw [zz]
      have v0 : Boxed w4 b 3 (.int .i64 (k : Int)) := by rw [hw4]; exact z0.alloc _
      have v1 : Boxed w4 (b + 1) 22 (.slice none 0 0) := by rw [hw4]; exact z1.alloc _
      have v2 : Boxed w4 (b + 1 + 1) 29 (.int .i64 0) := by rw [hw4]; exact z2.alloc _
      have v3 : Boxed w4 (b + 3) 22 (.slice none 0 0) := by rw [hw4]; exact z3.alloc _
      have v4 : Boxed w4 (b + 4) 9 (.string s) := by rw [hw4, ← zz]; exact Boxed.new w2 _ _
      have vb : Below b w w4 := by rw [hw4]; exact zb.alloc (by omega) _
      have vz : w4.heap.size = b + 5 := by rw [hw4]; simp [zz]
      have VZ := Lib.hid vz
      have vz5 : b + 5 ≤ w4.heap.size := by omega
      clear hw4 z0 z1 z2 z3 zb zz vz
      gi_wp2_with fail
      obtain ⟨i0, hi, hz0, hz1, hz2⟩ := info_parts info_bool
      obtain ⟨N, hN⟩ : ∃ N, 8 * s.size = N := ⟨_, rfl⟩
      have hN2 : N ≤ 8000000 := by omega
      have hSS : ∀ j, j = b + 4 → j < w4.heap.size := by intro j hj; omega
      refine wpIn_rangeFunc_ownG rfl (by omega) (gf := 28) (lb := #[.pointer (some ⟨b + 4, 0, none⟩)]) rfl trivial (enters_of Try.func28 (by kernel_rfl) rfl)
        (encs := fun x : Fin (8 * s.size) => #[.int .i64 (x.val : Int), .bool (bitAt s.data.toList x.val)]) (S := fun ys => ys = List.finRange (8 * s.size)) (Sp := fun pre => pre <+: List.finRange (8 * s.size)) (N := 8 * s.size) (w0 := w4) (Kp := KeepS (fun j => j = b + 4))
        (fun l J Jx W hW _ _ hY h0 => each1_in 5 (by omega) l (b + 4) s hs J Jx hY W ((hW.cell (p := ⟨b + 4, 0, none⟩) (by show b + 4 < w4.heap.size; omega)).trans v4.cell) h0)
        keepS_t (keepS_b hSS) (Below.refl _ _) (fun _ => rfl)
        (fun pre W => (∃ v, Boxed W (b + 3) 22 v ∧ W.ownsRow b 4 1 v (pickB s.data.toList k pre).length ((pickB s.data.toList k pre).map Value.bool) ∧ (∀ x ∈ pre, k ≤ x.val → bitAt s.data.toList x.val = false)) ∧
          (Below b w W ∧ (Boxed W b 3 (.int .i64 (k : Int)) ∧ (Boxed W (b + 1) 22 (.slice none 0 0) ∧ (Boxed W (b + 1 + 1) 29 (.int .i64 0) ∧ Boxed W (b + 4) 9 (.string s))))))
        (fun c pre W => (c = .ret ∧ ∃ x ∈ pre, k ≤ x.val ∧ bitAt s.data.toList x.val = true) ∧ (Below b w W ∧ (Boxed W (b + 1) 22 (.slice none 0 0) ∧ Boxed W (b + 1 + 1) 29 (.int .i64 8))))
        ?hI ?hIx
        ⟨⟨_, v3, World.ownsRow_nil _ _ _ _, by simp⟩, vb, v0, v1, v2, v4⟩
        (fun x => { tmps := #[.string s, .int .i64 (k : Int), undef, .pointer (some ⟨b, 0, none⟩), .pointer (some ⟨b + 1, 0, none⟩), .pointer (some ⟨b + 1 + 1, 0, none⟩), .pointer (some ⟨b + 3, 0, none⟩), .int .i64 (x.val : Int), .bool (bitAt s.data.toList x.val), .bool false, .int .i64 (k : Int), .bool false, .bool false, .int .i64 (k : Int), .bool false, .bool false, .bool false, .string s, .int .i64 (s.size : Int), .int .i64 (k : Int), .int .i64 (m : Int), .bool false, .string s, .func (.func 28) #[] #[.pointer (some ⟨b + 4, 0, none⟩)], .int .i64 (x.val : Int), .bool (bitAt s.data.toList x.val), undef, undef, undef, undef, undef, undef, undef, undef, undef], defers := [] }) ?assign ?body ?done ?stop
      case hI => exact OwnFrom.and (Own.from (holdsRow_own b (b + 3) 22 4 1 (fun pre : List (Fin (8 * s.size)) => (pickB s.data.toList k pre).length) (fun pre => (pickB s.data.toList k pre).map Value.bool) (fun pre _ => ∀ x ∈ pre, k ≤ x.val → bitAt s.data.toList x.val = false)) _) (OwnFrom.and (ownFrom_below (by have := HB0.out; omega) (by omega)) (OwnFrom.and (Own.from (boxed_own _ _ (fun _ => _)) _) (OwnFrom.and (Own.from (boxed_own _ _ (fun _ => _)) _) (OwnFrom.and (Own.from (boxed_own _ _ (fun _ => _)) _) (Own.from (boxed_own _ _ (fun _ => _)) _)))))
      case hIx => intro c; exact OwnFrom.and (ownFrom_pure _ _) (OwnFrom.and (ownFrom_below (by have := HB0.out; omega) (by omega)) (OwnFrom.and (Own.from (boxed_own _ _ (fun _ => _)) _) (Own.from (boxed_own _ _ (fun _ => _)) _)))
      case assign =>
        intro l x W K hK
        gi_wp2
        exact hK
      case body =>
        rintro l pre x W ⟨⟨v, hv, hrow, hsp⟩, hB, u0, u1, u2, u4⟩ hlt
        have hc := hv.cell
        have e0 := u0.cell
        have e1 := u1.cell; have f1 := u1.frozen
        have e2 := u2.cell; have f2 := u2.frozen
        have hpl := pickB_len s.data.toList k pre
        have hWz : b + 5 ≤ W.heap.size := by have := u4.lt; omega
        have hBz : b ≤ W.heap.size := by omega
        generalize hbt : bitAt s.data.toList x.val = t at *
        have HBT := Lib.hid hbt
        clear hbt
        by_cases hxk : x.val < k
        · have hq : (x.val : Int) < (k : Int) := by omega
          have hpk : pickB s.data.toList k (pre ++ [x]) = pickB s.data.toList k pre ++ [t] := by rw [pickB_hit _ _ _ _ hxk, HBT.out]
          have HPK := Lib.hid hpk
          clear hpk
          gi_wp2_with (gi_at_builtin; refine wpListIn_append_own _ rfl _ _ 22 rfl b 4 i0 (.bool false) 1 1 Try.underlying22 hi hz0 hz1 hz2 rfl (by decide) _ _ _ rfl (hrow.alloc _) ⟨W.heap.size, 0, none⟩ 1 1 [.bool t] rfl rfl (cell_one_new _ _ _) (by simp [Value.oneCell']) (by simp only [maxLen]; omega) (by omega) (by simp; omega) ?_; intro v' w5 hown' hgrow _; obtain ⟨g', cap', rfl⟩ := ownsRow_succ hown'; obtain ⟨hv1, hv2, hr2, hk2, hb2⟩ := hv.appended (by decide) hrow hBz (by omega) hown' hgrow; have hc1 := hv1.cell; have hf1 := hv1.frozen)
          have a0 := KeepS.appendedBox (v' := .slice (some ⟨g', 0, none⟩) ((pickB s.data.toList k pre).length + 1) cap') hBz u0 (by decide) hrow (B := b + 3) (by omega) (by omega) hgrow
          have a1 := KeepS.appendedBox (v' := .slice (some ⟨g', 0, none⟩) ((pickB s.data.toList k pre).length + 1) cap') hBz u1 (by decide) hrow (B := b + 3) (by omega) (by omega) hgrow
          have a2 := KeepS.appendedBox (v' := .slice (some ⟨g', 0, none⟩) ((pickB s.data.toList k pre).length + 1) cap') hBz u2 (by decide) hrow (B := b + 3) (by omega) (by omega) hgrow
          have a4 := KeepS.appendedBox (v' := .slice (some ⟨g', 0, none⟩) ((pickB s.data.toList k pre).length + 1) cap') hBz u4 (by decide) hrow (B := b + 3) (by omega) (by omega) hgrow
          exact ⟨hk2.from _, ⟨a4.1.size, fun j hj => a4.1.block j (.inr hj)⟩, ⟨_, hv2, by rw [HPK.out]; simpa using hr2, fun y hy hky => by
            rcases List.mem_append.1 hy with hy | hy
            · exact hsp y hy hky
            · obtain rfl : y = x := by simpa using hy
              omega⟩, hB.trans hb2, a0.2, a1.2, a2.2, a4.2⟩
        · have hpk : pickB s.data.toList k (pre ++ [x]) = pickB s.data.toList k pre := pickB_miss _ _ _ _ hxk
          have HPK := Lib.hid hpk
          clear hpk
          have hq : (k : Int) ≤ (x.val : Int) := by omega
          have hq2 : decide ((x.val : Int) < (k : Int)) = false := by simp; omega
          have hq3 : decide (x.val < k) = false := by simp; omega
          have hxk' := Lib.hid hxk
          clear hxk
          cases t
          · gi_wp2
            exact ⟨KeepsFrom.refl _ _, KeepS.refl _ _, ⟨v, hv, by rw [HPK.out]; exact hrow, fun y hy hky => by
              rcases List.mem_append.1 hy with hy | hy
              · exact hsp y hy hky
              · obtain rfl : y = x := by simpa using hy
                exact HBT.out⟩, hB, u0, u1, u2, u4⟩
          · gi_wp2
            exact ⟨((KeepsOthers.setCell _ _ _).trans (KeepsOthers.setCell _ _ _)).from _, ⟨rfl, x, by simp, by have := hxk'.out; omega, HBT.out⟩, (hB.setCell (p := ⟨b + 1, 0, none⟩) (by show b ≤ b + 1; omega) _).setCell (p := ⟨b + 1 + 1, 0, none⟩) (by show b ≤ b + 1 + 1; omega) _, (u1.set _).other (by omega) _, (u2.other (by omega) _).set _⟩
      case done =>
        rintro D ys W hD rfl ⟨⟨v, hv, hrow, hsp⟩, hB, u0, u1, u2, u4⟩ hK
        have hc := hv.cell
        have e1 := u1.cell; have f1 := u1.frozen
        have e2 := u2.cell; have f2 := u2.frozen
        have hDW : D < W.heap.size := (Array.getElem?_eq_some_iff.1 hK).1
        have hns : spareB s.data.toList k = false := by
          rw [← Bool.not_eq_true, spare_iff s.data.toList k (8 * s.size) (by rw [ba_len])]
          rintro ⟨x, hx, h1, h2⟩
          rw [hsp x hx h1] at h2
          cases h2
        have hE0 : unpackE s.data.toList (k : Int) = 0 := by rw [HE.out, hns]; rfl
        have hL0 : unpackL s.data.toList (k : Int) = pickB s.data.toList k (List.finRange (8 * s.size)) := by
          unfold unpackL
          rw [if_pos hE0, pickB_all _ _ _ hkN]
          rfl
        obtain ⟨A0, c0, rfl, _⟩ := own_slice hrow
        gi_wp2
        refine ⟨by simp, .inl ⟨_, _, rfl, run_takeDeferred (((KeepsOthers.setCell _ _ _).trans (KeepsOthers.setCell _ _ _)).same D _ hK rfl), ?_⟩⟩
        have t1 : Boxed ((W.setCell ⟨b + 1, 0, none⟩ (.slice A0 (pickB s.data.toList k (List.finRange (8 * s.size))).length c0)).setCell ⟨b + 1 + 1, 0, none⟩ (.int .i64 0)) (b + 1) 22 _ := (u1.set _).other (by omega) _
        have t2 : Boxed ((W.setCell ⟨b + 1, 0, none⟩ (.slice A0 (pickB s.data.toList k (List.finRange (8 * s.size))).length c0)).setCell ⟨b + 1 + 1, 0, none⟩ (.int .i64 0)) (b + 1 + 1) 29 (.int .i64 0) := (u2.other (by omega) _).set _
        have tb := (hB.setCell (p := ⟨b + 1, 0, none⟩) (by show b ≤ b + 1; omega) (.slice A0 (pickB s.data.toList k (List.finRange (8 * s.size))).length c0)).setCell (p := ⟨b + 1 + 1, 0, none⟩) (by show b ≤ b + 1 + 1; omega) (.int .i64 0)
        have tr : ((W.setCell ⟨b + 1, 0, none⟩ (.slice A0 (pickB s.data.toList k (List.finRange (8 * s.size))).length c0)).setCell ⟨b + 1 + 1, 0, none⟩ (.int .i64 0)).ownsRow b 4 1 (.slice A0 (pickB s.data.toList k (List.finRange (8 * s.size))).length c0) _ _ :=
          (hrow.kept (grownBy_setCell' W (b + 1) _) (.inr (u1.not_row (by decide) hrow).symm)).kept (grownBy_setCell' _ (b + 1 + 1) _) (.inr (u2.not_row (by decide) hrow).symm)
        have tK := ((KeepsOthers.setCell W ⟨b + 1, 0, none⟩ (.slice A0 (pickB s.data.toList k (List.finRange (8 * s.size))).length c0)).trans (KeepsOthers.setCell _ ⟨b + 1 + 1, 0, none⟩ (.int .i64 0))).same D _ hK rfl
        have q1 : D ≠ b + 1 := by omega
        have q2 : D ≠ b + 1 + 1 := by omega
        exact ⟨_, results_cell2 rfl _ _ _ _ _ _ rfl rfl (load_cell Try.underlying22 rfl ((t1.kept (grownBy_putObj' _ D _) (by simp; omega)).cell)) (load_cell Try.underlying29 rfl ((t2.kept (grownBy_putObj' _ D _) (by simp; omega)).cell)),
          _, by rw [hE0], by rw [hL0, HB0.out]; exact ownsRow_putObj tr _ tK rfl, by rw [HB0.out]; exact tb.trans (belowK_b (w := w) (by have := HB0.out; omega) _ D _ _ (by have := HB0.out; omega) tK rfl rfl)⟩
      case stop =>
        rintro D c pre W hD hpre ⟨⟨rfl, x, hx, hx1, hx2⟩, hB, u1, u2⟩ hK
        have hns : spareB s.data.toList k = true := by
          rw [spare_iff s.data.toList k (8 * s.size) (by rw [ba_len])]
          exact ⟨x, hpre.subset hx, hx1, hx2⟩
        have hE0 : unpackE s.data.toList (k : Int) = 8 := by rw [HE.out, hns]; rfl
        have hL0 : unpackL s.data.toList (k : Int) = [] := by unfold unpackL; rw [hE0]; rfl
        gi_wp2
        have hDW : D < W.heap.size := (Array.getElem?_eq_some_iff.1 hK).1
        refine ⟨by simp, .inl ⟨_, _, rfl, run_takeDeferred hK, ?_⟩⟩
        exact ⟨_, results_cell2 rfl _ _ _ _ _ _ rfl rfl (load_cell Try.underlying22 rfl ((u1.kept (grownBy_putObj' _ D _) (by simp; omega)).cell)) (load_cell Try.underlying29 rfl ((u2.kept (grownBy_putObj' _ D _) (by simp; omega)).cell)),
          _, by rw [hE0], by rw [hL0]; exact World.ownsRow_nil _ _ _ _, by rw [HB0.out]; exact hB.trans (belowK_b (w := w) (by have := HB0.out; omega) _ D _ _ (by have := HB0.out; omega) hK rfl rfl)⟩
    · have he : unpackE s.data.toList k = 2 := by unfold unpackE; rw [if_neg hbad, if_pos (by rw [hsl, Int.toNat_natCast, hm]; exact hlen)]
      have hL : unpackL s.data.toList k = [] := by unfold unpackL; rw [he]; rfl
      rw [he, hL]
      have hne : ((s.size : Int) != (m : Int)) = true := by simp; omega
      have hne2 : (s.size != m) = true := by simpa using hlen
      have hbad' := Lib.hid hbad
      clear he hL hm hlen hbad
      obtain ⟨x1, x2, x3, x4, _⟩ := box3 w (.int .i64 (k : Int)) (.slice none 0 0) (.int .i64 2) 3 22 29
      have y1 := x2.cell; have y2 := x3.cell
      clear x1 x2 x3
      gi_wp2_with fail
      refine ⟨trivial, callsIn_wide.2 ((hneed _).mono ?_)⟩
      rintro e w' ⟨rfl, rfl⟩
      gi_wp2_with fail
      exact ⟨_, results_cell2 rfl _ _ _ _ _ _ rfl rfl (load_cell Try.underlying22 rfl y1) (load_cell Try.underlying29 rfl y2), _, rfl, World.ownsRow_nil _ _ _ _, x4⟩
end Go.Proofs.Ytdeeclmmfhppgaa
