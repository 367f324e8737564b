/- Merged: Unvar, Unrow, CgB. -/
import Derived.Test.YtgclnikdkfpflaaGreatDoorMt1
import Derived.Test.YtgclnikdkfpflaaGreatDoorMt12
import Derived.Test.YtgclnikdkfpflaaGreatDoorMt14
import Derived.Test.YtgclnikdkfpflaaGreatDoorMt15
import Derived.Laws.EntriesVeiled
namespace Go.Proofs.YtgclnikdkfpflaaGreatDoor
open Go.RowKit Go.Shelf
open List renaming set_cons_zero → jz, set_cons_succ → js, setIfInBounds_toArray → jb
set_option linter.unusedVariables false
set_option linter.unusedSimpArgs false
set_option maxRecDepth 100000
set_option maxHeartbeats 16000000
attribute [local go_sem] Oper.semAt_some
def cB (l : List UInt8) (a i : Nat) : UInt8 := l.getD (a + i) 0
def fromN (s : ByteArray) (a : Nat) : Nat := min 10 (s.size - a)
theorem from_any (s : ByteArray) (a : Int) (w : World) :
  Calls Tryz.prog 158 #[.string s, .int .i64 a] w fun e w' => e = .returned (.func (.func 178) #[] #[.pointer (some ⟨w.heap.size, 0, none⟩), .pointer (some ⟨w.heap.size + 1, 0, none⟩)]) ∧ w' = (w.alloc (.cells #[.string s] 9)).alloc (.cells #[.int .i64 a] 3) := by
 go_enter Tryz.func158, Tryz.ntmps158
 go_wp2
 go_ret
 exact ⟨rfl, rfl⟩
theorem fail_any (e : Int) (w : World) : Calls Tryz.prog 157 #[.int .i64 e] w fun e' w' => e' = .returned (.tuple #[.int .u64 0, .int .i64 0, .int .i64 e]) ∧ w = w' := by
 go_enter Tryz.func157, Tryz.ntmps157
 go_wp2
 go_ret3
 exact ⟨rfl, rfl⟩
theorem from1_in (N : Nat) (hN : 1 ≤ N) (l Bs Ba : Nat) (s : ByteArray) (hs : s.size ≤ 1000000000000) (a : Nat) (ha : a ≤ s.size) (J Jx : List (Fin (fromN s a)) → World → Prop)
  (hY : ∀ pre x W, J pre W → pre.length < fromN s a → YieldAt Fence.wide (N - 1) Tryz.prog l #[.int .i64 (x.val : Int), .int .u8 ((cB s.data.toList a x.val).toNat : Int)] W fun e W' =>
   (e = .returned (.bool true) ∧ J (pre ++ [x]) W' ∧ KeepS (fun k => k = Bs ∨ k = Ba) W W') ∨ (e = .returned (.bool false) ∧ Jx (pre ++ [x]) W'))
  (W : World) (hBs : W.cell? ⟨Bs, 0, none⟩ = some (.string s)) (hBa : W.cell? ⟨Ba, 0, none⟩ = some (.int .i64 (a : Int))) (h0 : J [] W) :
  CallsIn Fence.wide N Tryz.prog 178 #[.func (.yield l) #[] #[], .pointer (some ⟨Bs, 0, none⟩), .pointer (some ⟨Ba, 0, none⟩)] W fun e W' => (∃ v, e = .returned v) ∧
   ((∃ ys, ys = List.finRange (fromN s a) ∧ J ys W') ∨ (∃ pre, pre <+: List.finRange (fromN s a) ∧ Jx pre W')) := by
 refine callsIn_of_wp Tryz.func178 rfl trivial ?_ rfl
 simp only [Tryz.ntmps178, List.size_toArray, List.length_cons, List.length_nil, Nat.reduceAdd, Nat.reduceSub, Array.replicate_succ, Array.replicate_zero, List.push_toArray, List.append_toArray, List.nil_append, List.cons_append]
 obtain ⟨M, hM⟩ : ∃ M, fromN s a = M := ⟨_, rfl⟩
 have hM2 : min 10 (s.size - a) = M := hM
 have p0 : IntKind.i64.wrap ((s.size : Int) - (a : Int)) = (s.size : Int) - (a : Int) := IntWalk.i64_in _ (by omega)
 have p1 : min (10 : Int) ((s.size : Int) - (a : Int)) = (M : Int) := by omega
 have p1' : (if (s.size : Int) - (a : Int) < 10 then (s.size : Int) - (a : Int) else 10) = (M : Int) := by split <;> omega
 have HM := Lib.hid hM
 have HM2 := Lib.hid hM2
 have hMs : a + M ≤ s.size := by omega
 clear hM hM2
 gi_wp2
 gi_loopw [10] (fun i wr => ∃ k : Nat, i = .int .i64 (k : Int) ∧ k ≤ M ∧ J ((List.finRange (fromN s a)).take k) wr ∧ KeepS (fun k => k = Bs ∨ k = Ba) W wr) (fun i _ => M - (intOf i).toNat)
 case atStart => exact ⟨0, rfl, by omega, h0, KeepS.refl _ _⟩
 case round =>
  clear p0 p1 p1'
  obtain ⟨k, rfl, hk, hJ, hK⟩ := hrel
  have c1 : wr.cell? ⟨Bs, 0, none⟩ = some (.string s) := (hK.cell (p := ⟨Bs, 0, none⟩) (.inl rfl)).trans hBs
  have c2 : wr.cell? ⟨Ba, 0, none⟩ = some (.int .i64 (a : Int)) := (hK.cell (p := ⟨Ba, 0, none⟩) (.inr rfl)).trans hBa
  by_cases hlt : k < M
  ·have hkp : k < fromN s a := by have := HM.out; omega
   obtain ⟨fn, tmps, assign, body, hy, hR⟩ := hY _ ⟨k, hkp⟩ wr hJ (by simp; omega)
   have htk : (List.finRange (fromN s a)).take k ++ [⟨k, hkp⟩] = (List.finRange (fromN s a)).take (k + 1) := by
    rw [List.take_succ_eq_append_getElem (by simp; exact hkp)]
    simp
   rw [htk] at hR
   have hsl : s.data.toList.length = s.size := ba_len s
   obtain ⟨j, hj⟩ : ∃ j, a + k = j := ⟨_, rfl⟩
   obtain ⟨c, hc⟩ : ∃ c, s.data.toList[j]? = some c := ⟨_, List.getElem?_eq_getElem (by omega)⟩
   have hcd : cB s.data.toList a k = c := by unfold cB; rw [hj, List.getD_eq_getElem?_getD, hc]; rfl
   have hidx := idx_str s j c hc
   dsimp only at hy
   rw [hcd] at hy
   have p3 : IntKind.i64.wrap ((a : Int) + (k : Int)) = (j : Int) := by rw [IntWalk.i64_in _ (by omega)]; omega
   have p3' : (a : Int) + (k : Int) = (j : Int) := by omega
   clear htk hj hc hsl hcd
   gi_wp2
   refine hR.mono ?_
   rintro e' W3 (⟨rfl, hJ3, hk3⟩ | ⟨rfl, hJx3⟩)
   ·have hK3 := hK.trans hk3
    clear p3 p3'
    gi_wp2
    go_roundw
    case rel => exact ⟨k + 1, by simp, by omega, hJ3, hK3⟩
    case measure => simp [intOf]; omega
   ·clear p3 p3'
    gi_wp2
    refine bodyPost_ret (results_none rfl _ _ _) rfl ?_
    exact ⟨⟨_, rfl⟩, .inr ⟨_, List.take_prefix _ _, hJx3⟩⟩
  ·have htk : (List.finRange (fromN s a)).take k = List.finRange (fromN s a) := List.take_of_length_le (by simp; have := HM.out; omega)
   rw [htk] at hJ
   have d1 : decide ((k : Int) < (M : Int)) = false := by simp; omega
   have d2 : decide (k < M) = false := by simp; omega
   gi_wp2
   go_end0
   exact ⟨⟨_, rfl⟩, .inl ⟨_, rfl, hJ⟩⟩
def contB (l : List UInt8) (a i : Nat) : Prop := 128 ≤ (cB l a i).toNat ∧ i ≠ 9
def nOf (l : List UInt8) (a : Nat) {M : Nat} (pre : List (Fin M)) : BitVec 64 := pre.foldl (fun n x => n ||| digB (cB l a x.val) x.val) 0
theorem nOf_snoc (l : List UInt8) (a : Nat) {M : Nat} (pre : List (Fin M)) (x : Fin M) : nOf l a (pre ++ [x]) = nOf l a pre ||| digB (cB l a x.val) x.val := by simp [nOf]
def stepOf (l : List UInt8) (a i : Nat) (n : BitVec 64) : BitVec 64 × Nat × Int :=
 if i = 9 ∧ 1 < (cB l a i).toNat then (0, 0, 5) else if 0 < i ∧ (cB l a i).toNat = 0 then (0, 0, 8) else (n ||| digB (cB l a i) i, a + i + 1, 0)
theorem go_take (l : List UInt8) (a M : Nat) (hM : M ≤ 10) (ha : a + M ≤ l.length) : ∀ k, k ≤ M → (∀ y ∈ (List.finRange M).take k, contB l a y.val) → unvarGo l a 10 0 0 = unvarGo l a (10 - k) k (nOf l a ((List.finRange M).take k))
 | 0, _, _ => by simp [nOf]
 | k + 1, hk, h => by
  have e : (List.finRange M).take (k + 1) = (List.finRange M).take k ++ [⟨k, by omega⟩] := by
   rw [List.take_succ_eq_append_getElem (by simp; omega)]
   simp
  rw [e] at h ⊢
  rw [go_take l a M hM ha k (by omega) (fun y hy => h y (List.mem_append_left _ hy))]
  obtain ⟨h1, h2⟩ := h ⟨k, by omega⟩ (by simp)
  simp only at h1 h2
  have hg : l[a + k]? = some (cB l a k) := by
   unfold cB
   rw [List.getD_eq_getElem?_getD, List.getElem?_eq_getElem (by omega)]; rfl
  rw [show 10 - k = (10 - (k + 1)) + 1 by omega, unvarGo, hg]
  simp only
  rw [if_neg (by omega), if_pos h1, nOf_snoc]
theorem go_step_ (l : List UInt8) (a M : Nat) (hM : M ≤ 10) (ha : a + M ≤ l.length) (pre : List (Fin M)) (x : Fin M) (hp : pre ++ [x] <+: List.finRange M) (h : ∀ y ∈ pre, contB l a y.val) (hx : ¬ contB l a x.val) :
  unvarGo l a 10 0 0 = stepOf l a x.val (nOf l a pre) := by
 have hp1 : pre <+: List.finRange M := (List.prefix_append pre [x]).trans hp
 have e1 := List.prefix_iff_eq_take.1 hp1
 obtain ⟨k, hk⟩ : ∃ k, pre.length = k := ⟨_, rfl⟩
 rw [hk] at e1
 have hlen := hp.length_le
 rw [List.length_append, hk] at hlen
 simp only [List.length_singleton, List.length_finRange] at hlen
 have e2 := List.prefix_iff_eq_take.1 hp
 rw [List.length_append, List.length_singleton, hk, List.take_succ_eq_append_getElem (by simp; omega), ← e1] at e2
 have e3 := List.append_cancel_left e2
 simp only [List.cons.injEq, and_true, List.getElem_finRange] at e3
 have hxk : x.val = k := by rw [e3]; simp
 rw [go_take l a M hM ha k (by omega) (by rw [← e1]; exact h), ← e1, hxk]
 have hg : l[a + k]? = some (cB l a k) := by
  unfold cB
  rw [List.getD_eq_getElem?_getD, List.getElem?_eq_getElem (by omega)]; rfl
 have hkM : k < M := by omega
 rw [show 10 - k = (10 - (k + 1)) + 1 by omega, unvarGo, hg]
 rw [hxk] at hx
 unfold contB at hx
 unfold stepOf
 simp only
 by_cases h9 : k = 9 ∧ 1 < (cB l a k).toNat
 ·rw [if_pos h9, if_pos h9]
 ·rw [if_neg h9, if_neg h9, if_neg (by omega)]
theorem go_end_ (l : List UInt8) (a M : Nat) (hM : M = min 10 (l.length - a)) (ha : a ≤ l.length) (h : ∀ y ∈ List.finRange M, contB l a y.val) : unvarGo l a 10 0 0 = (0, 0, 3) := by
 have hM9 : M < 10 := by
  rcases Nat.lt_or_ge M 10 with hh | hh
  ·exact hh
  ·exact absurd rfl (h ⟨9, by omega⟩ (List.mem_finRange _)).2
 have e : (List.finRange M).take M = List.finRange M := List.take_of_length_le (by simp)
 rw [go_take l a M (by omega) (by omega) M (Nat.le_refl _) (by rw [e]; exact h)]
 rw [show 10 - M = (10 - (M + 1)) + 1 by omega, unvarGo, List.getElem?_eq_none (by omega)]
theorem ownFrom_ex {β γ : Type} {B : Nat} {I : γ → β → World → Prop} (h : ∀ c, OwnFrom B (I c)) : OwnFrom B (fun s W => ∃ c, I c s W) := fun s W W' row ⟨c, hc⟩ hg hr => ⟨c, h c s W W' row hc hg hr⟩
theorem ofInt64 (x : BitVec 64) : BitVec.ofInt 64 (x.toNat : Int) = x := by
 rw [BitVec.ofInt_natCast, BitVec.ofNat_toNat]; simp
theorem wrap64u (x : BitVec 64) : IntKind.u64.wrap (x.toNat : Int) = (x.toNat : Int) := by
 have := x.isLt
 simp [IntKind.wrap, IntKind.bits, IntKind.signed]
 omega
theorem bor64 (x y : BitVec 64) : bits .or .u64 (x.toNat : Int) (y.toNat : Int) = ((x ||| y).toNat : Int) := by
 show IntKind.u64.wrap ((BitVec.ofInt 64 (x.toNat : Int) ||| BitVec.ofInt 64 (y.toNat : Int)).toNat : Int) = _
 rw [ofInt64, ofInt64, wrap64u]
theorem and127 : ∀ c : Fin 256, bits .and .u8 ((c.val : Nat) : Int) 127 = ((c.val % 128 : Nat) : Int) := by decide +kernel
theorem shl64 (d k : Nat) (hd : d < 256) (x : BitVec 64) (h : BitVec.ofNat 64 d <<< k = x) : IntKind.u64.wrap ((d : Int) * 2 ^ k) = (x.toNat : Int) := by
 rw [← h, BitVec.toNat_shiftLeft, Nat.shiftLeft_eq, BitVec.toNat_ofNat, Nat.mod_eq_of_lt (show d < 2 ^ 64 by omega)]
 simp [IntKind.wrap, IntKind.bits, IntKind.signed]
theorem wrap64n (d : Nat) (hd : d < 256) : IntKind.u64.wrap (d : Int) = (d : Int) := by
 simp [IntKind.wrap, IntKind.bits, IntKind.signed]
 omega
theorem unvar_any (s : ByteArray) (at_ : Int) (hs : s.size ≤ 1000000000000) (w : World) :
  Calls Tryz.prog 131 #[.string s, .int .i64 at_] w fun e w' => e = .returned (.tuple #[.int .u64 ((unvarS s.data.toList at_).1.toNat : Int), .int .i64 ((unvarS s.data.toList at_).2.1 : Int), .int .i64 (unvarS s.data.toList at_).2.2]) ∧ Below w.heap.size w w' := by
 have hsl := ba_len s
 refine (callsIn_wide (n := 6)).1 ?_
 refine callsIn_of_wp_marks Tryz.func131 rfl trivial ?_ rfl
 simp only [Tryz.ntmps131, List.size_toArray, List.length_cons, List.length_nil, Nat.reduceAdd, Nat.reduceSub, Array.replicate_succ, Array.replicate_zero, List.push_toArray, List.append_toArray, List.nil_append, List.cons_append]
 by_cases hbad : at_ < 0 ∨ (s.size : Int) < at_
 ·have he : unvarS s.data.toList at_ = (0, 0, 1) := by unfold unvarS; rw [if_pos (by rw [hsl]; exact hbad)]
  rw [he]
  clear he hsl
  obtain ⟨x1, x2, x3, x4, x5, _⟩ := box4 w (.int .i64 at_) (.int .u64 0) (.int .i64 0) (.int .i64 1) 3 23 3 26
  have y1 := x2.cell; have y2 := x3.cell; have y3 := x4.cell
  clear x1 x2 x3 x4
  by_cases h0 : at_ < 0
  ·gi_wp2_with fail
   exact ⟨_, results_cell3 rfl _ _ _ _ _ _ _ _ rfl rfl rfl (load_cell Tryz.underlying23 rfl y1) (load_cell Tryz.underlying3 rfl y2) (load_cell Tryz.underlying26 rfl y3), rfl, x5⟩
  ·have h1 : (s.size : Int) < at_ := by omega
   gi_wp2_with fail
   exact ⟨_, results_cell3 rfl _ _ _ _ _ _ _ _ rfl rfl rfl (load_cell Tryz.underlying23 rfl y1) (load_cell Tryz.underlying3 rfl y2) (load_cell Tryz.underlying26 rfl y3), rfl, x5⟩
 ·obtain ⟨a, rfl⟩ := Int.eq_ofNat_of_zero_le (show 0 ≤ at_ by omega)
  have ha : a ≤ s.size := by omega
  have he : unvarS s.data.toList (a : Int) = unvarGo s.data.toList a 10 0 0 := by unfold unvarS; rw [if_neg (by rw [hsl]; exact hbad)]; rfl
  rw [he]
  have d0 : decide ((a : Int) < 0) = false := by simp
  have d1 : decide ((s.size : Int) < (a : Int)) = false := by simp; omega
  have d2 : decide (s.size < a) = false := by simp; omega
  clear he hbad
  obtain ⟨x1, x2, x3, x4, x5, x6⟩ := box4 w (.int .i64 (a : Int)) (.int .u64 0) (.int .i64 0) (.int .i64 0) 3 23 3 26
  have y1 := x1.cell
  gi_wp2_with fail
  have z5 := Boxed.new (((((w.alloc (.cells #[.int .i64 (a : Int)] 3)).alloc (.cells #[.int .u64 0] 23)).alloc (.cells #[.int .i64 0] 3)).alloc (.cells #[.int .i64 0] 26)).alloc (.cells #[.func (.func 157) #[] #[]] 197)) 23 (.int .u64 0)
  have z4 := (Boxed.new ((((w.alloc (.cells #[.int .i64 (a : Int)] 3)).alloc (.cells #[.int .u64 0] 23)).alloc (.cells #[.int .i64 0] 3)).alloc (.cells #[.int .i64 0] 26)) 197 (.func (.func 157) #[] #[])).alloc (.cells #[.int .u64 0] 23)
  have z0 := (x1.alloc (.cells #[.func (.func 157) #[] #[]] 197)).alloc (.cells #[.int .u64 0] 23)
  have z1 := (x2.alloc (.cells #[.func (.func 157) #[] #[]] 197)).alloc (.cells #[.int .u64 0] 23)
  have z2 := (x3.alloc (.cells #[.func (.func 157) #[] #[]] 197)).alloc (.cells #[.int .u64 0] 23)
  have z3 := (x4.alloc (.cells #[.func (.func 157) #[] #[]] 197)).alloc (.cells #[.int .u64 0] 23)
  have zb := (x5.alloc (by omega) (.cells #[.func (.func 157) #[] #[]] 197)).alloc (by simp; omega) (.cells #[.int .u64 0] 23)
  rw [World.size_alloc, x6] at z5
  rw [x6] at z4
  have zz : ((((((w.alloc (.cells #[.int .i64 (a : Int)] 3)).alloc (.cells #[.int .u64 0] 23)).alloc (.cells #[.int .i64 0] 3)).alloc (.cells #[.int .i64 0] 26)).alloc (.cells #[.func (.func 157) #[] #[]] 197)).alloc (.cells #[.int .u64 0] 23)).heap.size = w.heap.size + 6 := by rw [World.size_alloc, World.size_alloc, x6]
  clear x1 x2 x3 x4 x5 x6 y1
  generalize (((((w.alloc (.cells #[.int .i64 (a : Int)] 3)).alloc (.cells #[.int .u64 0] 23)).alloc (.cells #[.int .i64 0] 3)).alloc (.cells #[.int .i64 0] 26)).alloc (.cells #[.func (.func 157) #[] #[]] 197)).alloc (.cells #[.int .u64 0] 23) = w2 at *
  refine ⟨trivial, callsIn_wide.2 ((from_any _ _ _).mono ?_)⟩
  rintro e w4 ⟨rfl, hw4⟩
  generalize hb : w.heap.size = b at *
  have HB := Lib.hid hb
  clear hb
  rw [zz]
  have v0 : Boxed w4 b 3 (.int .i64 (a : Int)) := by rw [hw4]; exact (z0.alloc _).alloc _
  have v1 : Boxed w4 (b + 1) 23 (.int .u64 0) := by rw [hw4]; exact (z1.alloc _).alloc _
  have v2 : Boxed w4 (b + 1 + 1) 3 (.int .i64 0) := by rw [hw4]; exact (z2.alloc _).alloc _
  have v3 : Boxed w4 (b + 1 + 1 + 1) 26 (.int .i64 0) := by rw [hw4]; exact (z3.alloc _).alloc _
  have v4 : Boxed w4 (b + 4) 197 (.func (.func 157) #[] #[]) := by rw [hw4]; exact (z4.alloc _).alloc _
  have v5 : Boxed w4 (b + 4 + 1) 23 (.int .u64 0) := by rw [hw4]; exact (z5.alloc _).alloc _
  have v6 : Boxed w4 (b + 6) 9 (.string s) := by rw [hw4, ← zz]; exact (Boxed.new w2 _ _).alloc _
  have v7 : Boxed w4 (b + 7) 3 (.int .i64 (a : Int)) := by
   have := Boxed.new (w2.alloc (.cells #[.string s] 9)) 3 (.int .i64 (a : Int))
   rw [World.size_alloc, zz] at this
   rw [hw4]; exact this
  have vb : Below b w w4 := by rw [hw4]; exact (zb.alloc (by omega) _).alloc (by simp; omega) _
  have vz : w4.heap.size = b + 8 := by rw [hw4]; simp [zz]
  have VZ := Lib.hid vz
  have vz5 : b + 8 ≤ w4.heap.size := by omega
  clear hw4 z0 z1 z2 z3 z4 z5 zb zz vz
  gi_wp2_with fail
  have hSS : ∀ j, (j = b + 6 ∨ j = b + 7) → j < w4.heap.size := by intro j hj; omega
  refine wpIn_rangeFunc_ownG rfl (by omega) (gf := 178) (lb := #[.pointer (some ⟨b + 6, 0, none⟩), .pointer (some ⟨b + 7, 0, none⟩)]) rfl trivial (enters_of Tryz.func178 (by kernel_rfl) rfl)
   (encs := fun x : Fin (fromN s a) => #[.int .i64 (x.val : Int), .int .u8 ((cB s.data.toList a x.val).toNat : Int)]) (S := fun ys => ys = List.finRange (fromN s a)) (Sp := fun pre => pre <+: List.finRange (fromN s a)) (N := fromN s a) (w0 := w4) (Kp := KeepS (fun j => j = b + 6 ∨ j = b + 7))
   (fun l J Jx W hW _ _ hY h0 => from1_in 5 (by omega) l (b + 6) (b + 7) s hs a ha J Jx hY W ((hW.cell (p := ⟨b + 6, 0, none⟩) (by show b + 6 < w4.heap.size; omega)).trans v6.cell) ((hW.cell (p := ⟨b + 7, 0, none⟩) (by show b + 7 < w4.heap.size; omega)).trans v7.cell) h0)
   keepS_t (keepS_b hSS) (Below.refl _ _) (fun _ => rfl)
   (fun pre W => (∀ y ∈ pre, contB s.data.toList a y.val) ∧ (Below b w W ∧ (Boxed W b 3 (.int .i64 (a : Int)) ∧ (Boxed W (b + 1) 23 (.int .u64 0) ∧ (Boxed W (b + 1 + 1) 3 (.int .i64 0) ∧ (Boxed W (b + 1 + 1 + 1) 26 (.int .i64 0) ∧ (Boxed W (b + 4) 197 (.func (.func 157) #[] #[]) ∧ (Boxed W (b + 4 + 1) 23 (.int .u64 ((nOf s.data.toList a pre).toNat : Int)) ∧ (Boxed W (b + 6) 9 (.string s) ∧ Boxed W (b + 7) 3 (.int .i64 (a : Int)))))))))))
   (fun c pre W => ∃ R : BitVec 64 × Nat × Int, (c = .ret ∧ ∃ pre' x, pre = pre' ++ [x] ∧ (∀ y ∈ pre', contB s.data.toList a y.val) ∧ ¬ contB s.data.toList a x.val ∧ R = stepOf s.data.toList a x.val (nOf s.data.toList a pre')) ∧ (Below b w W ∧ (Boxed W (b + 1) 23 (.int .u64 (R.1.toNat : Int)) ∧ (Boxed W (b + 1 + 1) 3 (.int .i64 (R.2.1 : Int)) ∧ Boxed W (b + 1 + 1 + 1) 26 (.int .i64 R.2.2)))))
   ?hI ?hIx
   ⟨by simp, vb, v0, v1, v2, v3, v4, v5, v6, v7⟩
   (fun x => { tmps := #[.string s, .int .i64 (a : Int), undef, .pointer (some ⟨b, 0, none⟩), .pointer (some ⟨b + 1, 0, none⟩), .pointer (some ⟨b + 1 + 1, 0, none⟩), .pointer (some ⟨b + 1 + 1 + 1, 0, none⟩), .pointer (some ⟨b + 4, 0, none⟩), .pointer (some ⟨b + 4 + 1, 0, none⟩), .int .i64 (x.val : Int), .int .u8 ((cB s.data.toList a x.val).toNat : Int), .int .i64 (a : Int), .bool false, .bool false, .int .i64 (a : Int), .string s, .int .i64 (s.size : Int), .bool false, .bool false, .string s, .int .i64 (a : Int), .func (.func 178) #[] #[.pointer (some ⟨b + 6, 0, none⟩), .pointer (some ⟨b + 7, 0, none⟩)], .int .i64 (x.val : Int), .int .u8 ((cB s.data.toList a x.val).toNat : Int), undef, undef, undef, undef, undef, undef, undef, undef, undef, undef, undef, undef, undef, undef, undef, undef, undef, undef, undef, undef, undef, undef, undef, undef, undef, undef, undef, undef, undef, undef, undef, undef, undef, undef, undef, undef, undef, undef, undef, undef, undef, undef, undef, undef, undef], defers := [] }) ?assign ?body ?done ?stop
  case hI => exact OwnFrom.and (ownFrom_pure _ _) (OwnFrom.and (ownFrom_below (by have := HB.out; omega) (by omega)) (OwnFrom.and (Own.from (boxed_own _ _ (fun _ => _)) _) (OwnFrom.and (Own.from (boxed_own _ _ (fun _ => _)) _) (OwnFrom.and (Own.from (boxed_own _ _ (fun _ => _)) _) (OwnFrom.and (Own.from (boxed_own _ _ (fun _ => _)) _) (OwnFrom.and (Own.from (boxed_own _ _ (fun _ => _)) _) (OwnFrom.and (Own.from (boxed_own _ _ (fun pre : List (Fin (fromN s a)) => .int .u64 ((nOf s.data.toList a pre).toNat : Int))) _) (OwnFrom.and (Own.from (boxed_own _ _ (fun _ => _)) _) (Own.from (boxed_own _ _ (fun _ => _)) _)))))))))
  case hIx => intro c; exact ownFrom_ex fun R => OwnFrom.and (ownFrom_pure _ _) (OwnFrom.and (ownFrom_below (by have := HB.out; omega) (by omega)) (OwnFrom.and (Own.from (boxed_own _ _ (fun _ => _)) _) (OwnFrom.and (Own.from (boxed_own _ _ (fun _ => _)) _) (Own.from (boxed_own _ _ (fun _ => _)) _))))
  case assign =>
   intro l x W K hK
   gi_wp2
   exact hK
  case body =>
   rintro l pre x W ⟨hco, hB, u0, u1, u2, u3, u4, u5, u6, u7⟩ hlt
   have hx10 : x.val < 10 := by have := x.isLt; unfold fromN at this; omega
   have hxs : a + x.val < s.size := by have := x.isLt; unfold fromN at this; omega
   have e0 := u0.cell
   have e1 := u1.cell; have f1 := u1.frozen
   have e2 := u2.cell; have f2 := u2.frozen
   have e3 := u3.cell; have f3 := u3.frozen
   have e4 := u4.cell
   have e5 := u5.cell; have f5 := u5.frozen
   have hWz : b + 8 ≤ W.heap.size := by have := u7.lt; omega
   have hnx := nOf_snoc s.data.toList a pre x
   generalize hnn : nOf s.data.toList a pre = nn at *
   have HNN := Lib.hid hnn
   clear hnn
   have hcx : ∀ c, cB s.data.toList a x.val = c → stepOf s.data.toList a x.val nn = if x.val = 9 ∧ 1 < c.toNat then (0, 0, 5) else if 0 < x.val ∧ c.toNat = 0 then (0, 0, 8) else (nn ||| digB c x.val, a + x.val + 1, 0) := by
    intro c h; unfold stepOf; rw [h]
   have hcc : ∀ c, cB s.data.toList a x.val = c → (contB s.data.toList a x.val ↔ 128 ≤ c.toNat ∧ x.val ≠ 9) := by
    intro c h; unfold contB; rw [h]
   obtain ⟨c, hc⟩ : ∃ c, cB s.data.toList a x.val = c := ⟨_, rfl⟩
   rw [hc] at hnx ⊢
   have HX := hcx c hc
   have HC := hcc c hc
   clear hcx hcc hc
   obtain ⟨i, hi⟩ : ∃ i, x.val = i := ⟨_, rfl⟩
   rw [hi] at HX HC hnx hx10 hxs ⊢
   obtain ⟨d, hd⟩ : ∃ d, c.toNat % 128 = d := ⟨_, rfl⟩
   obtain ⟨j, hj⟩ : ∃ j, 7 * i = j := ⟨_, rfl⟩
   obtain ⟨y, hy⟩ : ∃ y, digB c i = y := ⟨_, rfl⟩
   have hy2 : BitVec.ofNat 64 d <<< j = y := by rw [← hy, ← hd, ← hj]; rfl
   obtain ⟨z, hz⟩ : ∃ z, nn ||| y = z := ⟨_, rfl⟩
   rw [hy, hz] at HX hnx
   have hc256 := c.toNat_lt
   have p1 : bits .and .u8 (c.toNat : Int) 127 = (d : Int) := by rw [← hd]; exact and127 ⟨c.toNat, hc256⟩
   have p2 := wrap64n d (by omega)
   have p3 : IntKind.i64.wrap (7 * (i : Int)) = (j : Int) := by rw [IntWalk.i64_in _ (by omega)]; omega
   have p4 := shl64 d j (by omega) y hy2
   have p5 := bor64 nn y
   rw [hz] at p5
   have q1 : j < 64 := by omega
   have HXH := Lib.hid HX; have HCH := Lib.hid HC; have HNX := Lib.hid hnx; have HI := Lib.hid hi; have HCO := Lib.hid hco
   generalize hcn : c.toNat = cn at *
   clear hi hd hj hy hy2 hz HX HC hnx hco hcn
   have g1 : Boxed (W.setCell ⟨b + 4 + 1, 0, none⟩ (.int .u64 (z.toNat : Int))) (b + 4 + 1) 23 (.int .u64 (z.toNat : Int)) := u5.set _
   gi_wp2
   refine wpIn_tail_round 8 (by kernel_rfl) (by kernel_rfl) rfl (fun _ _ h => h) ?_
   simp only [List.take_succ_cons, List.take_zero, List.drop_succ_cons, List.drop_zero]
   repeat still_step
   refine wpStill_nil ?_
   clear p1 p2 p3 p4 p5
   go_wp2_with fail
   have hn1 : 1 ≤ 6 - 1 - 1 := by omega
   have hKF : KeepsFrom w4.heap.size W (W.setCell ⟨b + 4 + 1, 0, none⟩ (.int .u64 (z.toNat : Int))).drew := ((KeepsOthers.setCell _ _ _).trans (KeepsOthers.drew _)).from _
   have hB2 : Below b w (W.setCell ⟨b + 4 + 1, 0, none⟩ (.int .u64 (z.toNat : Int))).drew := by have := hB.setCell (p := ⟨b + 4 + 1, 0, none⟩) (by show b ≤ b + 4 + 1; omega) (.int .u64 (z.toNat : Int)); exact ⟨this.os, this.tape, this.output, this.size, this.block⟩
   have u0 : Boxed (W.setCell ⟨b + 4 + 1, 0, none⟩ (.int .u64 (z.toNat : Int))).drew b 3 _ := u0.other (by omega) _
   have u1 : Boxed (W.setCell ⟨b + 4 + 1, 0, none⟩ (.int .u64 (z.toNat : Int))).drew (b + 1) 23 _ := u1.other (by omega) _
   have u2 : Boxed (W.setCell ⟨b + 4 + 1, 0, none⟩ (.int .u64 (z.toNat : Int))).drew (b + 1 + 1) 3 _ := u2.other (by omega) _
   have u3 : Boxed (W.setCell ⟨b + 4 + 1, 0, none⟩ (.int .u64 (z.toNat : Int))).drew (b + 1 + 1 + 1) 26 _ := u3.other (by omega) _
   have u4 : Boxed (W.setCell ⟨b + 4 + 1, 0, none⟩ (.int .u64 (z.toNat : Int))).drew (b + 4) 197 _ := u4.other (by omega) _
   have u5 : Boxed (W.setCell ⟨b + 4 + 1, 0, none⟩ (.int .u64 (z.toNat : Int))).drew (b + 4 + 1) 23 (.int .u64 (z.toNat : Int)) := g1
   have hKS : KeepS (fun j => j = b + 6 ∨ j = b + 7) W (W.setCell ⟨b + 4 + 1, 0, none⟩ (.int .u64 (z.toNat : Int))).drew := by
    have := (KeepS.refl (fun j => j = b + 6 ∨ j = b + 7) W).setCell (p := ⟨b + 4 + 1, 0, none⟩) (by show ¬ (b + 4 + 1 = b + 6 ∨ b + 4 + 1 = b + 7); omega) (.int .u64 (z.toNat : Int))
    exact ⟨this.size, this.block⟩
   have u6 : Boxed (W.setCell ⟨b + 4 + 1, 0, none⟩ (.int .u64 (z.toNat : Int))).drew (b + 6) 9 _ := u6.other (by omega) _
   have u7 : Boxed (W.setCell ⟨b + 4 + 1, 0, none⟩ (.int .u64 (z.toNat : Int))).drew (b + 7) 3 _ := u7.other (by omega) _
   generalize (W.setCell ⟨b + 4 + 1, 0, none⟩ (.int .u64 (z.toNat : Int))).drew = W2 at *
   clear g1 e0 e1 f1 e2 f2 e3 f3 e4 e5 f5
   have e0 := u0.cell
   have e1 := u1.cell; have f1 := u1.frozen
   have e2 := u2.cell; have f2 := u2.frozen
   have e3 := u3.cell; have f3 := u3.frozen
   have e4 := u4.cell
   have e5 := u5.cell
   by_cases h9 : i = 9 ∧ 1 < cn
   ·obtain ⟨h91, h92⟩ := h9
    have t1 : ((i : Int) == 9) = true := by simp; omega
    have t2 : (1 : Int) < (cn : Int) := by omega
    have hst : stepOf s.data.toList a x.val nn = (0, 0, 5) := by rw [HI.out, HXH.out, if_pos ⟨h91, h92⟩]
    have HST := Lib.hid hst
    have hnc : ¬ contB s.data.toList a x.val := by rw [HI.out, HCH.out]; omega
    have HNC := Lib.hid hnc
    have H91 := Lib.hid h91
    clear hst hnc h91
    gi_wp2_with fail
    refine ⟨trivial, (CallsIn.inRound l (callsIn_wide.2 (fail_any _ _))).mono ?_⟩
    rintro e w' ⟨rfl, rfl⟩
    gi_wp2_with fail
    exact ⟨(hKF.trans ((((KeepsOthers.setCell _ _ _).trans (KeepsOthers.setCell _ _ _)).trans (KeepsOthers.setCell _ _ _)).from _)), (0, 0, 5), ⟨rfl, pre, x, rfl, HCO.out, HNC.out, by rw [HNN.out]; exact HST.out.symm⟩, ((hB2.setCell (p := ⟨b + 1, 0, none⟩) (by show b ≤ b + 1; omega) _).setCell (p := ⟨b + 1 + 1, 0, none⟩) (by show b ≤ b + 1 + 1; omega) _).setCell (p := ⟨b + 1 + 1 + 1, 0, none⟩) (by show b ≤ b + 1 + 1 + 1; omega) _, ((u1.set _).other (by omega) _).other (by omega) _, ((u2.other (by omega) _).set _).other (by omega) _, ((u3.other (by omega) _).other (by omega) _).set _⟩
   ·have hst9 : stepOf s.data.toList a x.val nn = if 0 < i ∧ cn = 0 then (0, 0, 8) else (z, a + i + 1, 0) := by rw [HI.out, HXH.out, if_neg h9]
    have HST9 := Lib.hid hst9
    clear hst9
    by_cases h128 : 128 ≤ cn
    ·have hi9 : i ≠ 9 := by omega
     have t1 : ((i : Int) == 9) = false := by simp; omega
     have hcy : contB s.data.toList a x.val := by rw [HI.out]; exact HCH.out.2 ⟨h128, hi9⟩
     have HCY := Lib.hid hcy
     have H9 := Lib.hid h9
     clear hcy h9 hi9
     gi_wp2
     exact ⟨hKF, hKS, fun y hy => by
      rcases List.mem_append.1 hy with hy | hy
      ·exact HCO.out y hy
      ·obtain rfl : y = x := by simpa using hy
       exact HCY.out, hB2, u0, u1, u2, u3, u4, by rw [HNX.out]; exact u5, u6, u7⟩
    ·have hnc : ¬ contB s.data.toList a x.val := by rw [HI.out, HCH.out]; omega
     have HNC := Lib.hid hnc
     have t3 : decide ((128 : Int) ≤ (cn : Int)) = false := by simp; omega
     have t4 : (cn : Int) < 128 := by omega
     clear hnc
     by_cases hi9 : i = 9
     ·have t1 : ((i : Int) == 9) = true := by simp; omega
      have t2 : decide ((1 : Int) < (cn : Int)) = false := by simp; omega
      have t6 : (0 : Int) < (i : Int) := by omega
      have H9 := Lib.hid h9; have HI9 := Lib.hid hi9
      by_cases hc0 : cn = 0
      ·have t5 : ((cn : Int) == 0) = true := by simp; omega
       have hst : stepOf s.data.toList a x.val nn = (0, 0, 8) := by rw [HST9.out, if_pos ⟨by omega, hc0⟩]
       have HST := Lib.hid hst
       have HC0 := Lib.hid hc0
       clear hst hc0 h9 hi9
       gi_wp2_with fail
       refine ⟨trivial, (CallsIn.inRound l (callsIn_wide.2 (fail_any _ _))).mono ?_⟩
       rintro e w' ⟨rfl, rfl⟩
       gi_wp2_with fail
       exact ⟨(hKF.trans ((((KeepsOthers.setCell _ _ _).trans (KeepsOthers.setCell _ _ _)).trans (KeepsOthers.setCell _ _ _)).from _)), (0, 0, 8), ⟨rfl, pre, x, rfl, HCO.out, HNC.out, by rw [HNN.out]; exact HST.out.symm⟩, ((hB2.setCell (p := ⟨b + 1, 0, none⟩) (by show b ≤ b + 1; omega) _).setCell (p := ⟨b + 1 + 1, 0, none⟩) (by show b ≤ b + 1 + 1; omega) _).setCell (p := ⟨b + 1 + 1 + 1, 0, none⟩) (by show b ≤ b + 1 + 1 + 1; omega) _, ((u1.set _).other (by omega) _).other (by omega) _, ((u2.other (by omega) _).set _).other (by omega) _, ((u3.other (by omega) _).other (by omega) _).set _⟩
      ·have t5 : ((cn : Int) == 0) = false := by simp; omega
       have hst : stepOf s.data.toList a x.val nn = (z, a + i + 1, 0) := by rw [HST9.out, if_neg (by rintro ⟨_, h⟩; exact hc0 h)]
       have HST := Lib.hid hst
       have HC0 := Lib.hid hc0
       clear hst hc0 h9 hi9
       have w1 : IntKind.i64.wrap ((a : Int) + (i : Int)) = (a : Int) + (i : Int) := IntWalk.i64_in _ (by omega)
       have w2 : IntKind.i64.wrap ((a : Int) + (i : Int) + 1) = (a : Int) + (i : Int) + 1 := IntWalk.i64_in _ (by omega)
       gi_wp2
       have hS0 : W2.drew.cell? ⟨b + 4 + 1, 0, none⟩ = some (.int .u64 (z.toNat : Int)) ∧ W2.drew.cell? ⟨b, 0, none⟩ = some (.int .i64 (a : Int)) := ⟨e5, e0⟩
       have hB2d : Below b w W2.drew := ⟨hB2.os, hB2.tape, hB2.output, hB2.size, hB2.block⟩
       refine wpIn_held_round (fun W => W.cell? ⟨b + 4 + 1, 0, none⟩ = some (.int .u64 (z.toNat : Int)) ∧ W.cell? ⟨b, 0, none⟩ = some (.int .i64 (a : Int))) (by kernel_rfl) rfl (fun _ _ h => h) ?_
       refine wpAnyH_take (i := 0) (v := .int .u64 (z.toNat : Int)) rfl (by kernel_rfl) (by kernel_rfl) (by kernel_rfl) (fun _ _ _ h => h) (Or.inl ⟨by rfl, fun W hW => by obtain ⟨h1, h2⟩ := hW; go_simp⟩) hS0 ?_
       refine wpAnyH_take (i := 1) (v := .int .i64 (a : Int)) rfl (by kernel_rfl) (by kernel_rfl) (by kernel_rfl) (fun _ _ _ h => h) (Or.inl ⟨by rfl, fun W hW => by obtain ⟨h1, h2⟩ := hW; go_simp⟩) hS0 ?_
       refine wpAnyH_take (i := 2) (v := .int .i64 (i : Int)) rfl (by kernel_rfl) (by kernel_rfl) (by kernel_rfl) (fun _ _ _ h => h) (Or.inl ⟨by rfl, fun W hW => by go_simp⟩) hS0 ?_
       refine wpAnyH_take (i := 3) (v := .int .i64 ((a + i : Nat) : Int)) rfl (by kernel_rfl) (by kernel_rfl) (by kernel_rfl) (fun _ _ _ h => h) (Or.inl ⟨by rfl, fun W hW => by go_simp⟩) hS0 ?_
       refine wpAnyH_take (i := 4) (v := .int .i64 ((a + i + 1 : Nat) : Int)) rfl (by kernel_rfl) (by kernel_rfl) (by kernel_rfl) (fun _ _ _ h => h) (Or.inl ⟨by rfl, fun W hW => by go_simp⟩) hS0 ?_
       simp only [Act.put, List.setIfInBounds_toArray]
       refine wpAnyH_one (i := 5) rfl (by kernel_rfl) rfl (by go_simp; rfl) (by constructor <;> go_simp) ?_
       refine wpAnyH_one (i := 6) rfl (by kernel_rfl) rfl (by go_simp; rfl) (by constructor <;> go_simp) ?_
       refine wpAnyH_one (i := 7) rfl (by kernel_rfl) rfl (by go_simp; rfl) (by constructor <;> go_simp) ?_
       refine wpAnyH_done (by kernel_rfl) ?_ _
       clear w1 w2
       gi_wp2
       exact ⟨(hKF.trans (((((KeepsOthers.drew _).trans (KeepsOthers.setCell _ _ _)).trans (KeepsOthers.setCell _ _ _)).trans (KeepsOthers.setCell _ _ _)).from _)), z, a + i + 1, 0, ⟨rfl, pre, x, rfl, HCO.out, HNC.out, by rw [HNN.out]; exact HST.out.symm⟩, ((hB2d.setCell (p := ⟨b + 1, 0, none⟩) (by show b ≤ b + 1; omega) _).setCell (p := ⟨b + 1 + 1, 0, none⟩) (by show b ≤ b + 1 + 1; omega) _).setCell (p := ⟨b + 1 + 1 + 1, 0, none⟩) (by show b ≤ b + 1 + 1 + 1; omega) _, ((u1.set _).other (by omega) _).other (by omega) _, ((u2.other (by omega) _).set _).other (by omega) _, ((u3.other (by omega) _).other (by omega) _).set _⟩
     ·have t1 : ((i : Int) == 9) = false := by simp; omega
      have H9 := Lib.hid h9; have HI9 := Lib.hid hi9
      by_cases hi0 : 0 < i
      ·have t6 : (0 : Int) < (i : Int) := by omega
       by_cases hc0 : cn = 0
       ·have t5 : ((cn : Int) == 0) = true := by simp; omega
        have hst : stepOf s.data.toList a x.val nn = (0, 0, 8) := by rw [HST9.out, if_pos ⟨by omega, hc0⟩]
        have HST := Lib.hid hst
        have HC0 := Lib.hid hc0
        clear hst hc0 h9 hi9
        gi_wp2_with fail
        refine ⟨trivial, (CallsIn.inRound l (callsIn_wide.2 (fail_any _ _))).mono ?_⟩
        rintro e w' ⟨rfl, rfl⟩
        gi_wp2_with fail
        exact ⟨(hKF.trans ((((KeepsOthers.setCell _ _ _).trans (KeepsOthers.setCell _ _ _)).trans (KeepsOthers.setCell _ _ _)).from _)), (0, 0, 8), ⟨rfl, pre, x, rfl, HCO.out, HNC.out, by rw [HNN.out]; exact HST.out.symm⟩, ((hB2.setCell (p := ⟨b + 1, 0, none⟩) (by show b ≤ b + 1; omega) _).setCell (p := ⟨b + 1 + 1, 0, none⟩) (by show b ≤ b + 1 + 1; omega) _).setCell (p := ⟨b + 1 + 1 + 1, 0, none⟩) (by show b ≤ b + 1 + 1 + 1; omega) _, ((u1.set _).other (by omega) _).other (by omega) _, ((u2.other (by omega) _).set _).other (by omega) _, ((u3.other (by omega) _).other (by omega) _).set _⟩
       ·have t5 : ((cn : Int) == 0) = false := by simp; omega
        have hst : stepOf s.data.toList a x.val nn = (z, a + i + 1, 0) := by rw [HST9.out, if_neg (by rintro ⟨_, h⟩; exact hc0 h)]
        have HST := Lib.hid hst
        have HC0 := Lib.hid hc0
        clear hst hc0 h9 hi9
        have w1 : IntKind.i64.wrap ((a : Int) + (i : Int)) = (a : Int) + (i : Int) := IntWalk.i64_in _ (by omega)
        have w2 : IntKind.i64.wrap ((a : Int) + (i : Int) + 1) = (a : Int) + (i : Int) + 1 := IntWalk.i64_in _ (by omega)
        gi_wp2
        have hS0 : W2.drew.cell? ⟨b + 4 + 1, 0, none⟩ = some (.int .u64 (z.toNat : Int)) ∧ W2.drew.cell? ⟨b, 0, none⟩ = some (.int .i64 (a : Int)) := ⟨e5, e0⟩
        have hB2d : Below b w W2.drew := ⟨hB2.os, hB2.tape, hB2.output, hB2.size, hB2.block⟩
        refine wpIn_held_round (fun W => W.cell? ⟨b + 4 + 1, 0, none⟩ = some (.int .u64 (z.toNat : Int)) ∧ W.cell? ⟨b, 0, none⟩ = some (.int .i64 (a : Int))) (by kernel_rfl) rfl (fun _ _ h => h) ?_
        refine wpAnyH_take (i := 0) (v := .int .u64 (z.toNat : Int)) rfl (by kernel_rfl) (by kernel_rfl) (by kernel_rfl) (fun _ _ _ h => h) (Or.inl ⟨by rfl, fun W hW => by obtain ⟨h1, h2⟩ := hW; go_simp⟩) hS0 ?_
        refine wpAnyH_take (i := 1) (v := .int .i64 (a : Int)) rfl (by kernel_rfl) (by kernel_rfl) (by kernel_rfl) (fun _ _ _ h => h) (Or.inl ⟨by rfl, fun W hW => by obtain ⟨h1, h2⟩ := hW; go_simp⟩) hS0 ?_
        refine wpAnyH_take (i := 2) (v := .int .i64 (i : Int)) rfl (by kernel_rfl) (by kernel_rfl) (by kernel_rfl) (fun _ _ _ h => h) (Or.inl ⟨by rfl, fun W hW => by go_simp⟩) hS0 ?_
        refine wpAnyH_take (i := 3) (v := .int .i64 ((a + i : Nat) : Int)) rfl (by kernel_rfl) (by kernel_rfl) (by kernel_rfl) (fun _ _ _ h => h) (Or.inl ⟨by rfl, fun W hW => by go_simp⟩) hS0 ?_
        refine wpAnyH_take (i := 4) (v := .int .i64 ((a + i + 1 : Nat) : Int)) rfl (by kernel_rfl) (by kernel_rfl) (by kernel_rfl) (fun _ _ _ h => h) (Or.inl ⟨by rfl, fun W hW => by go_simp⟩) hS0 ?_
        simp only [Act.put, List.setIfInBounds_toArray]
        refine wpAnyH_one (i := 5) rfl (by kernel_rfl) rfl (by go_simp; rfl) (by constructor <;> go_simp) ?_
        refine wpAnyH_one (i := 6) rfl (by kernel_rfl) rfl (by go_simp; rfl) (by constructor <;> go_simp) ?_
        refine wpAnyH_one (i := 7) rfl (by kernel_rfl) rfl (by go_simp; rfl) (by constructor <;> go_simp) ?_
        refine wpAnyH_done (by kernel_rfl) ?_ _
        clear w1 w2
        gi_wp2
        exact ⟨(hKF.trans (((((KeepsOthers.drew _).trans (KeepsOthers.setCell _ _ _)).trans (KeepsOthers.setCell _ _ _)).trans (KeepsOthers.setCell _ _ _)).from _)), z, a + i + 1, 0, ⟨rfl, pre, x, rfl, HCO.out, HNC.out, by rw [HNN.out]; exact HST.out.symm⟩, ((hB2d.setCell (p := ⟨b + 1, 0, none⟩) (by show b ≤ b + 1; omega) _).setCell (p := ⟨b + 1 + 1, 0, none⟩) (by show b ≤ b + 1 + 1; omega) _).setCell (p := ⟨b + 1 + 1 + 1, 0, none⟩) (by show b ≤ b + 1 + 1 + 1; omega) _, ((u1.set _).other (by omega) _).other (by omega) _, ((u2.other (by omega) _).set _).other (by omega) _, ((u3.other (by omega) _).other (by omega) _).set _⟩
      ·have t6 : decide ((0 : Int) < (i : Int)) = false := by simp; omega
       have hst : stepOf s.data.toList a x.val nn = (z, a + i + 1, 0) := by rw [HST9.out, if_neg (by rintro ⟨h, _⟩; omega)]
       have HST := Lib.hid hst
       have HI0 := Lib.hid hi0
       clear hst h9 hi9 hi0
       have w1 : IntKind.i64.wrap ((a : Int) + (i : Int)) = (a : Int) + (i : Int) := IntWalk.i64_in _ (by omega)
       have w2 : IntKind.i64.wrap ((a : Int) + (i : Int) + 1) = (a : Int) + (i : Int) + 1 := IntWalk.i64_in _ (by omega)
       gi_wp2
       have hS0 : W2.drew.cell? ⟨b + 4 + 1, 0, none⟩ = some (.int .u64 (z.toNat : Int)) ∧ W2.drew.cell? ⟨b, 0, none⟩ = some (.int .i64 (a : Int)) := ⟨e5, e0⟩
       have hB2d : Below b w W2.drew := ⟨hB2.os, hB2.tape, hB2.output, hB2.size, hB2.block⟩
       refine wpIn_held_round (fun W => W.cell? ⟨b + 4 + 1, 0, none⟩ = some (.int .u64 (z.toNat : Int)) ∧ W.cell? ⟨b, 0, none⟩ = some (.int .i64 (a : Int))) (by kernel_rfl) rfl (fun _ _ h => h) ?_
       refine wpAnyH_take (i := 0) (v := .int .u64 (z.toNat : Int)) rfl (by kernel_rfl) (by kernel_rfl) (by kernel_rfl) (fun _ _ _ h => h) (Or.inl ⟨by rfl, fun W hW => by obtain ⟨h1, h2⟩ := hW; go_simp⟩) hS0 ?_
       refine wpAnyH_take (i := 1) (v := .int .i64 (a : Int)) rfl (by kernel_rfl) (by kernel_rfl) (by kernel_rfl) (fun _ _ _ h => h) (Or.inl ⟨by rfl, fun W hW => by obtain ⟨h1, h2⟩ := hW; go_simp⟩) hS0 ?_
       refine wpAnyH_take (i := 2) (v := .int .i64 (i : Int)) rfl (by kernel_rfl) (by kernel_rfl) (by kernel_rfl) (fun _ _ _ h => h) (Or.inl ⟨by rfl, fun W hW => by go_simp⟩) hS0 ?_
       refine wpAnyH_take (i := 3) (v := .int .i64 ((a + i : Nat) : Int)) rfl (by kernel_rfl) (by kernel_rfl) (by kernel_rfl) (fun _ _ _ h => h) (Or.inl ⟨by rfl, fun W hW => by go_simp⟩) hS0 ?_
       refine wpAnyH_take (i := 4) (v := .int .i64 ((a + i + 1 : Nat) : Int)) rfl (by kernel_rfl) (by kernel_rfl) (by kernel_rfl) (fun _ _ _ h => h) (Or.inl ⟨by rfl, fun W hW => by go_simp⟩) hS0 ?_
       simp only [Act.put, List.setIfInBounds_toArray]
       refine wpAnyH_one (i := 5) rfl (by kernel_rfl) rfl (by go_simp; rfl) (by constructor <;> go_simp) ?_
       refine wpAnyH_one (i := 6) rfl (by kernel_rfl) rfl (by go_simp; rfl) (by constructor <;> go_simp) ?_
       refine wpAnyH_one (i := 7) rfl (by kernel_rfl) rfl (by go_simp; rfl) (by constructor <;> go_simp) ?_
       refine wpAnyH_done (by kernel_rfl) ?_ _
       clear w1 w2
       gi_wp2
       exact ⟨(hKF.trans (((((KeepsOthers.drew _).trans (KeepsOthers.setCell _ _ _)).trans (KeepsOthers.setCell _ _ _)).trans (KeepsOthers.setCell _ _ _)).from _)), z, a + i + 1, 0, ⟨rfl, pre, x, rfl, HCO.out, HNC.out, by rw [HNN.out]; exact HST.out.symm⟩, ((hB2d.setCell (p := ⟨b + 1, 0, none⟩) (by show b ≤ b + 1; omega) _).setCell (p := ⟨b + 1 + 1, 0, none⟩) (by show b ≤ b + 1 + 1; omega) _).setCell (p := ⟨b + 1 + 1 + 1, 0, none⟩) (by show b ≤ b + 1 + 1 + 1; omega) _, ((u1.set _).other (by omega) _).other (by omega) _, ((u2.other (by omega) _).set _).other (by omega) _, ((u3.other (by omega) _).other (by omega) _).set _⟩
  case done =>
   rintro D ys W hD rfl ⟨hco, hB, u0, u1, u2, u3, u4, u5, u6, u7⟩ hK
   have e1 := u1.cell; have f1 := u1.frozen
   have e2 := u2.cell; have f2 := u2.frozen
   have e3 := u3.cell; have f3 := u3.frozen
   have e4 := u4.cell
   have hDW : D < W.heap.size := (Array.getElem?_eq_some_iff.1 hK).1
   have hgo : unvarGo s.data.toList a 10 0 0 = (0, 0, 3) := go_end_ s.data.toList a (fromN s a) (by rw [hsl]; rfl) (by rw [hsl]; exact ha) hco
   have HGO := Lib.hid hgo
   clear hgo hco hsl
   gi_wp2_with fail
   refine ⟨trivial, callsIn_wide.2 ((fail_any _ _).mono ?_)⟩
   rintro e w' ⟨rfl, rfl⟩
   gi_wp2_with fail
   have hK3 := (((KeepsOthers.setCell W ⟨b + 1, 0, none⟩ (.int .u64 0)).trans (KeepsOthers.setCell _ ⟨b + 1 + 1, 0, none⟩ (.int .i64 0))).trans (KeepsOthers.setCell _ ⟨b + 1 + 1 + 1, 0, none⟩ (.int .i64 3))).same D _ hK rfl
   have t1 : Boxed (((W.setCell ⟨b + 1, 0, none⟩ (.int .u64 0)).setCell ⟨b + 1 + 1, 0, none⟩ (.int .i64 0)).setCell ⟨b + 1 + 1 + 1, 0, none⟩ (.int .i64 3)) (b + 1) 23 (.int .u64 0) := ((u1.set _).other (by omega) _).other (by omega) _
   have t2 : Boxed (((W.setCell ⟨b + 1, 0, none⟩ (.int .u64 0)).setCell ⟨b + 1 + 1, 0, none⟩ (.int .i64 0)).setCell ⟨b + 1 + 1 + 1, 0, none⟩ (.int .i64 3)) (b + 1 + 1) 3 (.int .i64 0) := ((u2.other (by omega) _).set _).other (by omega) _
   have t3 : Boxed (((W.setCell ⟨b + 1, 0, none⟩ (.int .u64 0)).setCell ⟨b + 1 + 1, 0, none⟩ (.int .i64 0)).setCell ⟨b + 1 + 1 + 1, 0, none⟩ (.int .i64 3)) (b + 1 + 1 + 1) 26 (.int .i64 3) := ((u3.other (by omega) _).other (by omega) _).set _
   have tb := ((hB.setCell (p := ⟨b + 1, 0, none⟩) (by show b ≤ b + 1; omega) (.int .u64 0)).setCell (p := ⟨b + 1 + 1, 0, none⟩) (by show b ≤ b + 1 + 1; omega) (.int .i64 0)).setCell (p := ⟨b + 1 + 1 + 1, 0, none⟩) (by show b ≤ b + 1 + 1 + 1; omega) (.int .i64 3)
   refine ⟨by simp, .inl ⟨_, _, rfl, run_takeDeferred hK3, ?_⟩⟩
   exact ⟨_, results_cell3 rfl _ _ _ _ _ _ _ _ rfl rfl rfl (load_cell Tryz.underlying23 rfl ((t1.kept (grownBy_putObj' _ D _) (by simp; omega)).cell)) (load_cell Tryz.underlying3 rfl ((t2.kept (grownBy_putObj' _ D _) (by simp; omega)).cell)) (load_cell Tryz.underlying26 rfl ((t3.kept (grownBy_putObj' _ D _) (by simp; omega)).cell)),
    by rw [HGO.out]; rfl, by first | exact tb.trans (belowK_b (w := w) (by have := HB.out; omega) _ D _ _ (by have := HB.out; omega) hK3 rfl rfl) | (rw [HB.out]; exact tb.trans (belowK_b (w := w) (by have := HB.out; omega) _ D _ _ (by have := HB.out; omega) hK3 rfl rfl))⟩
  case stop =>
   rintro D c pre W hD hpre ⟨R, ⟨rfl, pre', x, rfl, hco, hx, hR⟩, hB, u1, u2, u3⟩ hK
   have hDW : D < W.heap.size := (Array.getElem?_eq_some_iff.1 hK).1
   have hgo : unvarGo s.data.toList a 10 0 0 = R := by
    rw [hR]
    exact go_step_ s.data.toList a (fromN s a) (by unfold fromN; omega) (by rw [hsl]; unfold fromN; omega) pre' x hpre hco hx
   have HGO := Lib.hid hgo
   clear hgo hco hsl hR hx
   gi_wp2
   refine ⟨by simp, .inl ⟨_, _, rfl, run_takeDeferred hK, ?_⟩⟩
   exact ⟨_, results_cell3 rfl _ _ _ _ _ _ _ _ rfl rfl rfl (load_cell Tryz.underlying23 rfl ((u1.kept (grownBy_putObj' _ D _) (by simp; omega)).cell)) (load_cell Tryz.underlying3 rfl ((u2.kept (grownBy_putObj' _ D _) (by simp; omega)).cell)) (load_cell Tryz.underlying26 rfl ((u3.kept (grownBy_putObj' _ D _) (by simp; omega)).cell)),
    by rw [HGO.out], by first | exact hB.trans (belowK_b (w := w) (by have := HB.out; omega) _ D _ _ (by have := HB.out; omega) hK rfl rfl) | (rw [HB.out]; exact hB.trans (belowK_b (w := w) (by have := HB.out; omega) _ D _ _ (by have := HB.out; omega) hK rfl rfl))⟩
def unrowGo (l : List UInt8) : Nat → Nat → List Int × Nat × Int
 | 0, a => ([], a, 0)
 | k + 1, a => let r := unvarS l (a : Int)
  if r.2.2 ≠ 0 then ([], 0, r.2.2) else let q := unrowGo l k r.2.1
   if q.2.2 ≠ 0 then ([], 0, q.2.2) else ((r.1.toNat : Int) :: q.1, q.2.1, 0)
def ahead (xs : List Int) (q : List Int × Nat × Int) : List Int × Nat × Int := if q.2.2 ≠ 0 then ([], 0, q.2.2) else (xs ++ q.1, q.2.1, 0)
theorem unrow_bad (l : List UInt8) : ∀ k a, (unrowGo l k a).2.2 ≠ 0 → (unrowGo l k a).1 = [] ∧ (unrowGo l k a).2.1 = 0
 | 0, a, h => absurd rfl h
 | k + 1, a, h => by
  rw [unrowGo] at h ⊢
  simp only at h ⊢
  split at h
  ·rename_i h1; rw [if_pos h1]; exact ⟨rfl, rfl⟩
  ·rename_i h1
   rw [if_neg h1]
   split at h
   ·rename_i h2; rw [if_pos h2]; exact ⟨rfl, rfl⟩
   ·exact absurd rfl h
theorem ahead_nil (l : List UInt8) (k a : Nat) : ahead [] (unrowGo l k a) = unrowGo l k a := by
 unfold ahead
 split
 ·rename_i h
  obtain ⟨h1, h2⟩ := unrow_bad l k a h
  rw [← h1, ← h2]
 ·rename_i h
  have : (unrowGo l k a).2.2 = 0 := Classical.not_not.1 h
  rw [← this]; rfl
theorem ahead_step (l : List UInt8) (xs : List Int) (k a : Nat) (r : BitVec 64) (tz : Nat) (h : unvarS l (a : Int) = (r, tz, 0)) : ahead xs (unrowGo l (k + 1) a) = ahead (xs ++ [(r.toNat : Int)]) (unrowGo l k tz) := by
 rw [unrowGo]
 simp only [h]
 rw [if_neg (by simp)]
 by_cases h2 : (unrowGo l k tz).2.2 ≠ 0
 ·rw [if_pos h2]; simp [ahead, h2]
 ·rw [if_neg h2]; simp [ahead, h2]
theorem ahead_fail (l : List UInt8) (xs : List Int) (k a : Nat) (r : BitVec 64) (tz : Nat) (e : Int) (he : e ≠ 0) (h : unvarS l (a : Int) = (r, tz, e)) : ahead xs (unrowGo l (k + 1) a) = ([], 0, e) := by
 rw [unrowGo]
 simp only [h]
 rw [if_pos he]
 simp [ahead, he]
def unrowS (l : List UInt8) (at_ n : Int) : List Int × Nat × Int := if n < 0 ∨ 4096 < n ∨ at_ < 0 ∨ (l.length : Int) < at_ then ([], 0, 1) else unrowGo l n.toNat at_.toNat
theorem unvarS_le (l : List UInt8) (a : Nat) (r : BitVec 64) (tz : Nat) (h : unvarS l (a : Int) = (r, tz, 0)) : tz ≤ l.length := (unvarS_only l a r tz h).2.1
theorem info_u64 : (Tryz.prog.info? 23).map (fun i => (i.zero, i.size, i.bytes)) = some (some (.int .u64 0), 1, 8) := by kernel_rfl
theorem unrow_any (s : ByteArray) (at_ n : Int) (hs : s.size ≤ 1000000000000) (w : World) :
  Calls Tryz.prog 92 #[.string s, .int .i64 at_, .int .i64 n] w fun e w' => ∃ v, e = .returned (.tuple #[v, .int .i64 ((unrowS s.data.toList at_ n).2.1 : Int), .int .i64 (unrowS s.data.toList at_ n).2.2]) ∧
   w'.ownsRow w.heap.size 23 1 v (unrowS s.data.toList at_ n).1.length ((unrowS s.data.toList at_ n).1.map (Value.int .u64)) ∧ Below w.heap.size w w' := by
 have hsl := ba_len s
 by_cases hbad : n < 0 ∨ 4096 < n ∨ at_ < 0 ∨ (s.size : Int) < at_
 ·have he : unrowS s.data.toList at_ n = ([], 0, 1) := by unfold unrowS; rw [if_pos (by rw [hsl]; exact hbad)]
  rw [he]
  clear he hsl
  go_enter Tryz.func92, Tryz.ntmps92
  by_cases h1 : n < 0
  ·go_wp2_with fail
   go_ret3
   exact ⟨_, rfl, World.ownsRow_nil _ _ _ _, Below.refl _ _⟩
  ·by_cases h2 : 4096 < n
   ·go_wp2_with fail
    go_ret3
    exact ⟨_, rfl, World.ownsRow_nil _ _ _ _, Below.refl _ _⟩
   ·have d1 : decide (n < 0) = false := by simpa using h1
    have d2 : decide (4096 < n) = false := by simpa using h2
    by_cases h3 : at_ < 0
    ·go_wp2_with fail
     go_ret3
     exact ⟨_, rfl, World.ownsRow_nil _ _ _ _, Below.refl _ _⟩
    ·have d3 : decide (at_ < 0) = false := by simpa using h3
     have h4 : (s.size : Int) < at_ := by omega
     go_wp2_with fail
     go_ret3
     exact ⟨_, rfl, World.ownsRow_nil _ _ _ _, Below.refl _ _⟩
 ·obtain ⟨a0, rfl⟩ := Int.eq_ofNat_of_zero_le (show 0 ≤ at_ by omega)
  obtain ⟨N, rfl⟩ := Int.eq_ofNat_of_zero_le (show 0 ≤ n by omega)
  have he : unrowS s.data.toList (a0 : Int) (N : Int) = unrowGo s.data.toList N a0 := by unfold unrowS; rw [if_neg (by rw [hsl]; exact hbad)]; rfl
  rw [he]
  have hN : N ≤ 4096 := by omega
  have ha : a0 ≤ s.size := by omega
  have d1 : decide ((N : Int) < 0) = false := by simp
  have d2 : decide (4096 < (N : Int)) = false := by simp; omega
  have d3 : decide ((a0 : Int) < 0) = false := by simp
  have d4 : decide ((s.size : Int) < (a0 : Int)) = false := by simp; omega
  have d5 : decide (s.size < a0) = false := by simp; omega
  obtain ⟨R, hR⟩ : ∃ R, unrowGo s.data.toList N a0 = R := ⟨_, rfl⟩
  rw [hR]
  have HR := Lib.hid hR
  have HSL := Lib.hid hsl
  clear he hbad hR hsl
  obtain ⟨i0, hi, hz0, hz1, hz2⟩ := info_parts info_u64
  go_enter Tryz.func92, Tryz.ntmps92
  go_wp2_with fail
  go_loopw [1, 9, 30] (fun p v i wr => ∃ (k a : Nat) (xs : List Int), i = .int .i64 (k : Int) ∧ p = .int .i64 (a : Int) ∧ k ≤ N ∧ a ≤ s.size ∧ wr.ownsRow w.heap.size 23 1 v xs.length (xs.map (Value.int .u64)) ∧ xs.length ≤ k ∧ Hid (ahead xs (unrowGo s.data.toList (N - k) a) = R) ∧ Below w.heap.size w wr) (fun _ _ i _ => N - (intOf i).toNat)
  case atStart => exact ⟨0, a0, [], rfl, rfl, by omega, ha, World.ownsRow_nil _ _ _ _, by simp, by show ahead [] (unrowGo _ (N - 0) a0) = R; rw [ahead_nil]; exact HR.out, Below.refl _ _⟩
  case round =>
   obtain ⟨k, a, xs, rfl, rfl, hk, ha, hown, hxk, hst, hbel⟩ := hrel
   have hsz := hbel.size
   obtain ⟨A, cc, rfl, _⟩ := own_slice hown
   by_cases hlt : k < N
   ·have hun := unvar_any s (a : Int) hs wr
    obtain ⟨r, tz, e0, hr⟩ : ∃ r tz e0, unvarS s.data.toList (a : Int) = (r, tz, e0) := ⟨_, _, _, rfl⟩
    rw [hr] at hun
    obtain ⟨m, hm⟩ : ∃ m, N - k = m + 1 := ⟨N - k - 1, by omega⟩
    have hst' := hst.out
    rw [hm] at hst'
    by_cases he0 : e0 = 0
    ·subst he0
     have hto := unvarS_le _ _ _ _ hr
     rw [HSL.out] at hto
     rw [ahead_step _ _ _ _ _ _ hr] at hst'
     have HST := Lib.hid hst'
     have HM := Lib.hid hm
     clear hr hst hst' hm
     go_wp2_with fail
     refine hun.mono ?_
     rintro e w2 ⟨rfl, hb2⟩
     have hown2 := hown.kept (grown_of_below hb2) (Classical.em _)
     have hbel2 : Below w.heap.size w w2 := hbel.trans (hb2.mono hsz)
     have hsz2 := hbel2.size
     clear hun hown hbel hb2
     go_wp2_with (at_builtin; refine wpList_append_own _ rfl _ _ 52 rfl w.heap.size 23 i0 (.int .u64 0) 1 8 Tryz.underlying52 hi hz0 hz1 hz2 rfl (by decide) _ _ _ rfl (hown2.alloc _) ⟨w2.heap.size, 0, none⟩ 1 1 [.int .u64 (r.toNat : Int)] rfl rfl (cell_one_new _ _ _) (by simp [Value.oneCell']) (by simp only [maxLen]; omega) (by omega) (by simp; omega) ?_; intro v' w4 hown4 hgrow _)
     obtain ⟨g', cap', rfl⟩ := ownsRow_succ hown4
     have hb4 : Below w.heap.size w w4 := (hbel2.alloc hsz2 _).grown hgrow (by simp; omega) (fun j hj => own_ge hown2 hj)
     go_wp2_with fail
     go_roundw
     case rel => exact ⟨k + 1, tz, xs ++ [(r.toNat : Int)], by simp, rfl, by omega, hto, by simpa using hown4, by simp; omega, by show ahead _ (unrowGo _ (N - (k + 1)) tz) = R; rw [show N - (k + 1) = m by have := HM.out; omega]; exact HST.out, hb4⟩
     case measure => simp [intOf]; omega
    ·rw [ahead_fail _ _ _ _ _ _ _ he0 hr] at hst'
     have HST := Lib.hid hst'
     have hne : (e0 != 0) = true := by simpa using he0
     clear hr hst hst' hm he0
     go_wp2_with fail
     refine hun.mono ?_
     rintro e w2 ⟨rfl, hb2⟩
     have hbel2 : Below w.heap.size w w2 := hbel.trans (hb2.mono hsz)
     go_wp2_with fail
     go_ret3
     exact ⟨_, by rw [← HST.out]; rfl, by rw [← HST.out]; exact World.ownsRow_nil _ _ _ _, hbel2⟩
   ·have hst' := hst.out
    rw [show N - k = 0 by omega] at hst'
    have hR2 : R = (xs, a, 0) := by rw [← hst']; simp [ahead, unrowGo]
    have HR2 := Lib.hid hR2
    have hfin : decide ((k : Int) < (N : Int)) = false := by simp; omega
    have hfin2 : decide (k < N) = false := by simp; omega
    clear hst hst' hR2
    go_wp2_with fail
    go_ret3
    exact ⟨_, by rw [HR2.out]; rfl, by rw [HR2.out]; exact hown, hbel⟩
theorem makeB (m : Nat) (hm : m ≤ 1000000) (w : World) : (Instr.makeSlice 47 (.int .i64 (m : Int)) (.int .i64 (m : Int))).run Tryz.prog w =
  .ok (.slice (some ⟨w.heap.size, 0, none⟩) m m) (w.alloc (.cells (Array.replicate m (.bool false)) 4)) := by
 have hs : (Tryz.prog.info? 4).isSome = true := by kernel_rfl
 obtain ⟨i, hi⟩ := Option.isSome_iff_exists.1 hs
 have hb : (Tryz.prog.info? 4).map (·.bytes) = some 1 := by kernel_rfl
 have hsz : (Tryz.prog.info? 4).map (·.size) = some 1 := by kernel_rfl
 have hz : (Tryz.prog.info? 4).bind (·.zero) = some (.bool false) := by kernel_rfl
 rw [hi] at hb hsz hz
 simp only [Option.map_some, Option.some.injEq, Option.bind_some] at hb hsz hz
 have hmk := run_make_rowN (P := Tryz.prog) 47 4 i _ (by kernel_rfl) hi hz .i64 .i64 m m (Nat.le_refl _) (by rw [hb]; omega) (by omega) w
 rw [hmk, hsz]
 congr 3
 refine Array.ext_getElem? fun j => ?_
 by_cases hj : j < m
 ·simp [madeCells, hj, Value.cells, Nat.mod_one]
 ·rw [Array.getElem?_eq_none (by simp [madeCells]; omega), Array.getElem?_eq_none (by simp; omega)]
theorem makeN (m : Nat) (hm : m ≤ 1000000) (w : World) : (Instr.makeSlice 52 (.int .i64 (m : Int)) (.int .i64 (m : Int))).run Tryz.prog w =
  .ok (.slice (some ⟨w.heap.size, 0, none⟩) m m) (w.alloc (.cells (Array.replicate m (.int .u64 0)) 23)) := by
 have hs : (Tryz.prog.info? 23).isSome = true := by kernel_rfl
 obtain ⟨i, hi⟩ := Option.isSome_iff_exists.1 hs
 have hb : (Tryz.prog.info? 23).map (·.bytes) = some 8 := by kernel_rfl
 have hsz : (Tryz.prog.info? 23).map (·.size) = some 1 := by kernel_rfl
 have hz : (Tryz.prog.info? 23).bind (·.zero) = some (.int .u64 0) := by kernel_rfl
 rw [hi] at hb hsz hz
 simp only [Option.map_some, Option.some.injEq, Option.bind_some] at hb hsz hz
 have hmk := run_make_rowN (P := Tryz.prog) 52 23 i _ (by kernel_rfl) hi hz .i64 .i64 m m (Nat.le_refl _) (by rw [hb]; omega) (by omega) w
 rw [hmk, hsz]
 congr 3
 refine Array.ext_getElem? fun j => ?_
 by_cases hj : j < m
 ·simp [madeCells, hj, Value.cells, Nat.mod_one]
 ·rw [Array.getElem?_eq_none (by simp [madeCells]; omega), Array.getElem?_eq_none (by simp; omega)]
theorem own_rep {W : World} {t : TypeId} (m : Nat) (v : Value) {base : Nat} (hm : m ≤ 1000000) (hb : base ≤ W.heap.size) : (W.alloc (.cells (Array.replicate m v) t)).ownsRow base t 1 (.slice (some ⟨W.heap.size, 0, none⟩) m m) m (List.replicate m v) :=
 ⟨by simp, .inr ⟨W.heap.size, m, Array.replicate m v, rfl, hb, Blk.new W t _, Nat.le_refl _, by simp only [maxLen]; omega, by simp, by simp⟩⟩
def btE (s : ByteArray) (a n : Nat) (E : Int) : Int := if tkE s a ((n + 7) / 8) E = 0 then unpackE (tkS s a ((n + 7) / 8) E).data.toList n else tkE s a ((n + 7) / 8) E
def btA (s : ByteArray) (a n : Nat) (E : Int) : Nat := tkA s a ((n + 7) / 8) E
def btL (s : ByteArray) (a n : Nat) (E : Int) : List Bool := if btE s a n E = 0 then unpackL (tkS s a ((n + 7) / 8) E).data.toList n else List.replicate n false
theorem tkS_size (s : ByteArray) (a n : Nat) (E : Int) : (tkS s a n E).size ≤ n := by
 unfold tkS
 split
 ·rw [ByteArray.size_extract]; omega
 ·simp
theorem bitsC_any (s : ByteArray) (a n : Nat) (E : Int) (r : Nat) (w : World) (h : Blk w r 67 (rdC s a E)) (hs : s.size ≤ 1000000000000) (ha : a ≤ s.size) (hn : n ≤ 4096) :
  Calls Tryz.prog 48 #[.pointer (some ⟨r, 0, none⟩), .int .i64 (n : Int)] w fun x w' => ∃ v, x = .returned v ∧ w'.ownsRow w.heap.size 4 1 v (btL s a n E).length ((btL s a n E).map Value.bool) ∧ Blk w' r 67 (rdC s (btA s a n E) (btE s a n E)) ∧ w.grownBy w' (some r) := by
 have hr := h.lt
 obtain ⟨m, hm⟩ : ∃ m, (n + 7) / 8 = m := ⟨_, rfl⟩
 have p : ((n : Int) + 8 - 1).tdiv 8 = (m : Int) := by rw [Int.tdiv_eq_ediv_of_nonneg (by omega)]; omega
 have p2 : ((n : Int) + 8 - 1) / 8 = (m : Int) := by omega
 have HT := Lib.hid (takeC_any s a m E r w h hs ha (by omega))
 have e1 : btE s a n E = if tkE s a m E = 0 then unpackE (tkS s a m E).data.toList n else tkE s a m E := by unfold btE; rw [hm]
 have e2 : btA s a n E = tkA s a m E := by unfold btA; rw [hm]
 have e3 : btL s a n E = if btE s a n E = 0 then unpackL (tkS s a m E).data.toList n else List.replicate n false := by unfold btL; rw [hm]
 have HSZ := Lib.hid (Nat.le_trans (tkS_size s a m E) (show m ≤ 1000 by omega))
 obtain ⟨T, hT⟩ : ∃ T, tkE s a m E = T := ⟨_, rfl⟩
 obtain ⟨A, hA⟩ : ∃ T, tkA s a m E = T := ⟨_, rfl⟩
 obtain ⟨p0, hp0⟩ : ∃ T, tkS s a m E = T := ⟨_, rfl⟩
 obtain ⟨BE, hBE⟩ : ∃ T, btE s a n E = T := ⟨_, rfl⟩
 obtain ⟨BL, hBL⟩ : ∃ T, btL s a n E = T := ⟨_, rfl⟩
 rw [hT, hA, hp0] at HT
 rw [hp0] at HSZ
 rw [hBE, hT, hp0] at e1
 rw [hA] at e2
 rw [hBL, hBE, hp0] at e3
 rw [e2, hBE, hBL]
 have HE1 := Lib.hid e1; have HE3 := Lib.hid e3; have HR := Lib.hid hr
 clear h hs ha e1 e2 e3 hT hA hp0 hBE hBL hm hr
 go_enter Tryz.func48, Tryz.ntmps48
 go_wp2_with fail
 refine HT.out.mono ?_
 rintro e w2 ⟨rfl, hb2, hg2⟩
 have HB2 := Lib.hid hb2; have HG2 := Lib.hid hg2; have HZ := Lib.hid hg2.size
 clear hb2 hg2 HT p p2
 have hmk := fun V => makeB n (by omega) V
 by_cases h0 : T = 0
 rotate_left
 ·have hBE : BE = T := by rw [HE1.out, if_neg h0]
  have hBL : BL = List.replicate n false := by rw [HE3.out, if_neg (by rw [hBE]; exact h0)]
  subst hBE hBL
  rw [decide_eq_false h0]
  have HOW := Lib.hid (own_rep (W := w2) (t := 4) (base := w.heap.size) n (.bool false) (by omega) HZ.out)
  clear h0
  go_wp2_with fail
  go_ret
  exact ⟨_, rfl, by rw [List.length_replicate, List.map_replicate]; exact HOW.out, HB2.out.alloc _, only_alloc HG2.out _⟩
 subst h0
 go_wp2_with fail
 refine (unpack_any p0 n (by have := HSZ.out; omega) w2).mono ?_
 rintro e w3 ⟨v, rfl, hown, hb3⟩
 have hg3 := grown_of_below hb3
 obtain ⟨A', cc, rfl, _⟩ := own_slice hown
 have HOWN := Lib.hid hown
 obtain ⟨U, hU⟩ : ∃ U, unpackE p0.data.toList n = U := ⟨_, rfl⟩
 have HBU : Hid (BE = U) := Lib.hid (by have := HE1.out; simpa [hU] using this)
 rw [hU]
 obtain ⟨m2, hm2⟩ : ∃ k, (unpackL p0.data.toList n).length = k := ⟨_, rfl⟩
 rw [hm2] at HOWN ⊢
 have HM2 := Lib.hid hm2
 have HB3 := Lib.hid (HB2.out.grown hg3 (by simp))
 have HG3 := Lib.hid (grown_self HG2.out hg3 (by simp))
 have HZ3 := Lib.hid hg3.size
 clear hown hb3 hg3 hU hm2
 go_wp2_with fail
 refine (keepC_any s A 0 U r w3 HB3.out).mono ?_
 rintro e w4 ⟨rfl, hb4, hg4⟩
 rw [show kE 0 U = U from if_pos rfl] at hb4 ⊢
 have hown4 := HOWN.out.kept hg4 (by right; intro e; have := ownBlock_ge HOWN.out e; have := HZ.out; have := HR.out; omega)
 have HOW4 := Lib.hid (own_lower hown4 HZ.out)
 have HB4 := Lib.hid hb4; have HG4 := Lib.hid (grown_self HG3.out hg4 (by intro k hk; exact .inl hk))
 have HZ4 : Hid (w.heap.size ≤ w4.heap.size) := Lib.hid (Nat.le_trans HZ.out (Nat.le_trans HZ3.out hg4.size))
 clear hb4 hg4 hown4
 have hBE : BE = U := HBU.out
 subst hBE
 by_cases hu : BE = 0
 ·subst hu
  have hBL : BL = unpackL p0.data.toList n := by rw [HE3.out, if_pos rfl]
  subst hBL
  go_wp2_with fail
  go_ret
  exact ⟨_, rfl, by rw [HM2.out]; exact HOW4.out, HB4.out, HG4.out⟩
 ·have hBL : BL = List.replicate n false := by rw [HE3.out, if_neg hu]
  subst hBL
  rw [decide_eq_false hu]
  have HOW := Lib.hid (own_rep (W := w4) (t := 4) (base := w.heap.size) n (.bool false) (by omega) HZ4.out)
  clear hu
  go_wp2_with fail
  go_ret
  exact ⟨_, rfl, by rw [List.length_replicate, List.map_replicate]; exact HOW.out, HB4.out.alloc _, only_alloc HG4.out _⟩
end Go.Proofs.YtgclnikdkfpflaaGreatDoor
