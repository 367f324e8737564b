/- Merged: UnrA, Wrd, Builder, BldF, Join, Rep. -/
import Derived.Test.YtgclnikdkfpflaaGreatDoorMt1
import Derived.Laws.IdiomStrings
import Derived.Deep.MidRow
import Derived.Deep.DeepCutAuto
import Derived.Shelf.Strings.Builder1
import Derived.Lib.Builder
import Derived.Lib.AppendStr
import Derived.Shelf.Strings.BuilderF
import Derived.Shelf.Strings.Builder2
import Derived.Shelf.Bits.Mul64
import Derived.Shelf.Strings.Prefix
import Derived.Lib.RepeatB
import Derived.Deep.LoopGhost
namespace Go.Proofs.YtgclnikdkfpflaaGreatDoor
open Go.RowKit Go.Shelf
open List renaming set_cons_zero → jz, set_cons_succ → js, setIfInBounds_toArray → jb
set_option linter.unusedVariables false
set_option linter.unusedSimpArgs false
set_option maxRecDepth 100000
set_option maxHeartbeats 16000000
theorem take_snoc {α : Type} (xs : List α) (k : Nat) (d : α) (hk : k < xs.length) : xs.take (k + 1) = xs.take k ++ [xs.getD k d] := by
 rw [List.take_succ_eq_append_getElem hk, List.getD_eq_getElem?_getD, List.getElem?_eq_getElem hk]; rfl
theorem at_getD {α : Type} {xs : List α} {k : Nat} (d : α) (hk : k < xs.length) : xs[k]? = some (xs.getD k d) := by
 rw [List.getD_eq_getElem?_getD, List.getElem?_eq_getElem hk]; rfl
def valL (l : List UInt8) : Nat := l.foldl (fun n b => n * 256 + b.toNat) 0
theorem valL_snoc (l : List UInt8) (b : UInt8) : valL (l ++ [b]) = valL l * 256 + b.toNat := by simp [valL]
theorem valL_lt (l : List UInt8) : valL l < 256 ^ l.length := by
 have key : ∀ r : List UInt8, valL r.reverse < 256 ^ r.reverse.length := by
  intro r
  induction r with
  | nil => simp [valL]
  | cons b r ih =>
   rw [List.reverse_cons, valL_snoc, List.length_append, Nat.pow_add]
   have := b.toNat_lt
   simp at *; omega
 have := key l.reverse
 rwa [List.reverse_reverse] at this
theorem or_low (n : Nat) (b : UInt8) : n * 256 ||| b.toNat = n * 256 + b.toNat := by
 have := b.toNat_lt
 rw [show n * 256 = n <<< 8 by rw [Nat.shiftLeft_eq], Nat.shiftLeft_add_eq_or_of_lt (by omega)]
def lenB (l : List UInt8) (a m : Nat) : Nat := valL ((l.drop (a + 1)).take m)
def lengthE (l : List UInt8) (a m : Nat) : Int := if 3 < m then 5 else if l.length < a + 1 + m then 3 else if (l.getD (a + 1) 0).toNat = 0 ∨ lenB l a m < 56 then 8 else 0
theorem lenB_lt (l : List UInt8) (a m : Nat) (hm : m ≤ 3) : lenB l a m ≤ 16777215 := by
 unfold lenB
 have h1 := valL_lt ((l.drop (a + 1)).take m)
 have h2 : ((l.drop (a + 1)).take m).length ≤ 3 := by rw [List.length_take]; omega
 have h3 : 256 ^ ((l.drop (a + 1)).take m).length ≤ 256 ^ 3 := Nat.pow_le_pow_right (by omega) h2
 have h4 : (256 : Nat) ^ 3 = 16777216 := rfl
 omega
theorem lenB_succ (l : List UInt8) (a k : Nat) (h : a + 1 + k < l.length) : lenB l a (k + 1) = lenB l a k * 256 + (l.getD (a + 1 + k) 0).toNat := by
 unfold lenB
 rw [take_snoc _ k 0 (by rw [List.length_drop]; omega), valL_snoc]
 congr 2
 rw [List.getD_eq_getElem?_getD, List.getElem?_drop, List.getD_eq_getElem?_getD]
theorem results_ct {P : Program} {fn : Func} {p q : Tmp} {t : TypeId} (h : fn.results = #[.cell p t, .tmp q]) (tmps : Array Value) (w : World) (a : Addr) (x : Value) (hp : tmps.getD p undef = .pointer (some a))
  (hx : (loadVar t a).run P w = .ok x w) : (results fn tmps).run P w = .ok (.tuple #[x, tmps.getD q undef]) w := by
 have hp' : tmps[p]?.getD undef = .pointer (some a) := by simpa using hp
 simp [results, h, hp', asAddr, hx]
theorem load_own {w : World} {g : Nat} {a b c : Value} (hg : Blk w g 188 #[a, b, c]) : (loadVar 188 ⟨g, 0, none⟩).run Tryz.prog w = .ok (.agg #[a, b, c]) w :=
 run_loadVar_row w g 188 188 _ (0, 0) _ hg Tryz.underlying188 rfl (by kernel_rfl)
theorem length_any (s : ByteArray) (a m : Nat) (ha : a < s.size) (hs : s.size ≤ 9223372036854775807) (hm : 1 ≤ m) (hm8 : m ≤ 8) (w : World) :
  Calls Tryz.prog 173 #[.string s, .int .i64 (a : Int), .int .i64 (m : Int)] w fun e w' => e = .returned (.tuple #[.agg #[.int .i64 (if lengthE s.data.toList a m = 0 then ((a + 1 + m : Nat) : Int) else 0), .int .i64 (if lengthE s.data.toList a m = 0 then ((lenB s.data.toList a m : Nat) : Int) else 0), .bool false], .int .i64 (lengthE s.data.toList a m)]) ∧ w.grownBy w' none := by
 obtain ⟨l, hl⟩ : ∃ l, s.data.toList = l := ⟨_, rfl⟩
 have hlz : l.length = s.size := by rw [← hl, ba_len]
 rw [hl]
 have HS := Lib.hid hl; have HZ := Lib.hid hlz
 clear hl hlz
 have hw0 := Blk.new w 188 #[.int .i64 0, .int .i64 0, .bool false]
 have hG0 : w.grownBy (w.alloc (.cells #[.int .i64 0, .int .i64 0, .bool false] 188)) none := only_alloc (World.grownBy.refl _ _) _
 by_cases h1 : 3 < m
 ·have hE : lengthE l a m = 5 := by unfold lengthE; rw [if_pos h1]
  rw [hE]
  have d1 : decide ((3 : Int) < (m : Int)) = true := decide_eq_true (by omega)
  have d1' : decide (3 < m) = true := decide_eq_true h1
  clear hE
  go_enter Tryz.func173, Tryz.ntmps173
  go_wp2_with fail
  refine bodyPost_ret (results_ct (fn := Tryz.f173) rfl _ _ _ _ rfl (load_own hw0)) rfl ?_
  exact ⟨by simp, hG0⟩
 have d1 : decide ((3 : Int) < (m : Int)) = false := decide_eq_false (by omega)
 have d1' : decide (3 < m) = false := decide_eq_false h1
 have v1 : IntKind.i64.wrap ((s.size : Int) - (a : Int)) = (s.size : Int) - (a : Int) := IntWalk.i64_in _ (by omega)
 have v2 : IntKind.i64.wrap ((s.size : Int) - (a : Int) - 1) = (s.size : Int) - (a : Int) - 1 := IntWalk.i64_in _ (by omega)
 by_cases h2 : s.size < a + 1 + m
 ·have hE : lengthE l a m = 3 := by unfold lengthE; rw [if_neg h1, if_pos (by have := HZ.out; omega)]
  rw [hE]
  have d2 : decide ((s.size : Int) - (a : Int) - 1 < (m : Int)) = true := decide_eq_true (by omega)
  have d2' : (s.size : Int) - (a : Int) - 1 < (m : Int) := by omega
  clear hE
  go_enter Tryz.func173, Tryz.ntmps173
  go_wp2_with fail
  refine bodyPost_ret (results_ct (fn := Tryz.f173) rfl _ _ _ _ rfl (load_own hw0)) rfl ?_
  exact ⟨by simp, hG0⟩
 have d2 : decide ((s.size : Int) - (a : Int) - 1 < (m : Int)) = false := decide_eq_false (by omega)
 have d2' : ¬ ((s.size : Int) - (a : Int) - 1 < (m : Int)) := by omega
 have hE0 : lengthE l a m = if (l.getD (a + 1) 0).toNat = 0 ∨ lenB l a m < 56 then 8 else 0 := by unfold lengthE; rw [if_neg h1, if_neg (by have := HZ.out; omega)]
 have hl1 : a + 1 < l.length := by have := HZ.out; omega
 have hid1 : ∀ W, (Instr.index 9 (.string s) (.int .i64 ((a : Int) + 1))).run Tryz.prog W = .ok (.int .u8 ((l.getD (a + 1) 0).toNat : Int)) W := fun W => by
  have := idx_str s (a + 1) (l.getD (a + 1) 0) (by rw [HS.out]; exact at_getD 0 hl1) W
  simpa using this
 have hv := lenB_lt l a m (by omega)
 have hcl := (l.getD (a + 1) 0).toNat_lt
 obtain ⟨c, hc⟩ : ∃ c, (l.getD (a + 1) 0).toNat = c := ⟨_, rfl⟩
 obtain ⟨V, hV⟩ : ∃ v, lenB l a m = v := ⟨_, rfl⟩
 rw [hc] at hE0 hcl hid1
 rw [hV] at hE0 hv ⊢
 obtain ⟨E, hE⟩ : ∃ e, lengthE l a m = e := ⟨_, rfl⟩
 rw [hE] at hE0 ⊢
 have HE0 := Lib.hid hE0; have HV := Lib.hid hV
 clear hE0 hE hV hc
 have e1 : IntKind.i64.wrap ((a : Int) + 1) = (a : Int) + 1 := IntWalk.i64_in _ (by omega)
 have e3 : IntKind.i64.wrap ((a : Int) + 1 + (m : Int)) = (a : Int) + 1 + (m : Int) := IntWalk.i64_in _ (by omega)
 go_enter Tryz.func173, Tryz.ntmps173
 go_wp2_with fail
 go_loopw [8, 22] (fun n i wr => ∃ k : Nat, i = .int .i64 (k : Int) ∧ k ≤ m ∧ n = .int .i64 (lenB l a k : Nat) ∧ wr = w.alloc (.cells #[.int .i64 0, .int .i64 0, .bool false] 188)) (fun _ i _ => m - (intOf i).toNat)
 case atStart => exact ⟨0, rfl, by omega, by simp [lenB, valL], by first | rfl | trivial⟩
 case round =>
  obtain ⟨k, rfl, hk, rfl, rfl⟩ := hrel
  by_cases hlt : k < m
  ·have hl1 : a + 1 + k < l.length := by have := HZ.out; omega
   have hsn := lenB_succ l a k hl1
   have hid : ∀ W, (Instr.index 9 (.string s) (.int .i64 ((a : Int) + 1 + (k : Int)))).run Tryz.prog W = .ok (.int .u8 ((l.getD (a + 1 + k) 0).toNat : Int)) W := fun W => by
    have := idx_str s (a + 1 + k) (l.getD (a + 1 + k) 0) (by rw [HS.out]; exact at_getD 0 hl1) W
    simpa using this
   have hv := lenB_lt l a k (by omega)
   have hv2 := lenB_lt l a (k + 1) (by omega)
   have hor := or_low (lenB l a k) (l.getD (a + 1 + k) 0)
   generalize l.getD (a + 1 + k) 0 = c at *
   have hcl := c.toNat_lt
   obtain ⟨V1, hV1⟩ : ∃ v, lenB l a (k + 1) = v := ⟨_, rfl⟩
   rw [hV1] at hsn hv2
   have HV := Lib.hid hV1
   clear hV1 hl1
   generalize lenB l a k = V at *
   have hb : bits .or .i64 ((V : Int) * 256) (c.toNat : Int) = (V1 : Int) := by
    have := i64_or_nat (V * 256) c.toNat (by omega) (by omega)
    rw [hor, ← hsn] at this
    rw [← this]; simp
   have HBT := Lib.hid hb
   have e2 : IntKind.i64.wrap ((a : Int) + 1 + (k : Int)) = (a : Int) + 1 + (k : Int) := IntWalk.i64_in _ (by omega)
   clear hb hor hid1
   go_wp2_with fail
   exact ⟨⟨k + 1, by simp, by omega, by rw [HBT.out, HV.out], by first | rfl | trivial⟩, by simp [intOf]; omega⟩
  ·obtain rfl : k = m := by omega
   have q1 : decide ((k : Int) < (k : Int)) = false := by simp
   rw [HV.out]
   have hE1 := HE0.out
   clear HE0
   by_cases h3 : c = 0
   ·rw [if_pos (.inl h3)] at hE1
    subst hE1
    subst h3
    go_wp2_with fail
    refine bodyPost_ret (results_ct (fn := Tryz.f173) rfl _ _ _ _ rfl (load_own hw0)) rfl ?_
    exact ⟨by simp, hG0⟩
   ·have d3 : ((c : Int) == 0) = false := by simp; omega
    by_cases h4 : V < 56
    ·rw [if_pos (.inr h4)] at hE1
     subst hE1
     have d4 : decide ((V : Int) < 56) = true := decide_eq_true (by omega)
     have d4' : decide (V < 56) = true := decide_eq_true h4
     clear h3
     go_wp2_with fail
     refine bodyPost_ret (results_ct (fn := Tryz.f173) rfl _ _ _ _ rfl (load_own hw0)) rfl ?_
     exact ⟨by simp, hG0⟩
    ·rw [if_neg (by omega)] at hE1
     subst hE1
     have d4 : decide ((V : Int) < 56) = false := decide_eq_false (by omega)
     have d4' : decide (V < 56) = false := decide_eq_false h4
     clear h3
     go_wp2_with fail
     refine bodyPost_ret (results_ct (fn := Tryz.f173) rfl _ _ _ _ rfl (load_own (Blk.new w _ _))) rfl ?_
     exact ⟨by simp, only_alloc (World.grownBy.refl _ _) _⟩
theorem fixAt_wrap (v r : Nat) : IntKind.u8.wrap ((v : Int) / 2 ^ r) = ((UInt8.ofNat (v / 2 ^ r % 256)).toNat : Int) := by
 have e : (v : Int) / 2 ^ r = ((v / 2 ^ r : Nat) : Int) := by simp
 rw [e]
 generalize v / 2 ^ r = n
 simp [IntKind.wrap, IntKind.bits, IntKind.signed]
theorem word_cell {w : World} {g : Nat} {t : TypeId} {a0 a1 a2 a3 : Nat} (h : Blk w g t #[.int .u64 (a0 : Int), .int .u64 (a1 : Int), .int .u64 (a2 : Int), .int .u64 (a3 : Int)]) (q : Nat) (hq : q < 4) : w.cell? ⟨g, q, none⟩ = some (.int .u64 (([a0, a1, a2, a3].getD q 0 : Nat) : Int)) := by
 rw [h.cell]
 have : q = 0 ∨ q = 1 ∨ q = 2 ∨ q = 3 := by omega
 rcases this with rfl | rfl | rfl | rfl <;> rfl
theorem fixed_any (a0 a1 a2 a3 : Nat) (w : World) :
  Calls Tryz.prog 35 #[.agg #[.int .u64 (a0 : Int), .int .u64 (a1 : Int), .int .u64 (a2 : Int), .int .u64 (a3 : Int)]] w fun e w' => e = .returned (.string ⟨(fixL [a0, a1, a2, a3]).toArray⟩) ∧ w.grownBy w' none := by
 have hB := Blk.new w 38 #[.int .u64 (a0 : Int), .int .u64 (a1 : Int), .int .u64 (a2 : Int), .int .u64 (a3 : Int)]
 have hG := only_alloc (World.grownBy.refl w none) (.cells #[.int .u64 (a0 : Int), .int .u64 (a1 : Int), .int .u64 (a2 : Int), .int .u64 (a3 : Int)] 38)
 have hZ : (w.alloc (.cells #[.int .u64 (a0 : Int), .int .u64 (a1 : Int), .int .u64 (a2 : Int), .int .u64 (a3 : Int)] 38)).heap.size = w.heap.size + 1 := by simp
 go_enter Tryz.func35, Tryz.ntmps35
 go_upto_region 1 with (fail)
 generalize w.alloc (.cells #[.int .u64 (a0 : Int), .int .u64 (a1 : Int), .int .u64 (a2 : Int), .int .u64 (a3 : Int)] 38) = W at *
 have hmk : (Instr.makeSlice 43 (.int .i64 32) (.int .i64 32)).run Tryz.prog W = .ok (.slice (some ⟨W.heap.size, 0, none⟩) 32 32) (W.alloc (.cells (bytesC (List.replicate 32 0)) 5)) := make_u8 32 (by omega) W
 rw [hZ] at hmk
 have hB := hB.alloc (.cells (bytesC (List.replicate 32 0)) 5)
 have hO := Blk.new W 5 (bytesC (List.replicate 32 0))
 rw [hZ] at hO
 have hG := only_alloc hG (.cells (bytesC (List.replicate 32 0)) 5)
 obtain ⟨b, hb⟩ : ∃ b, w.heap.size = b := ⟨_, rfl⟩
 rw [hb] at hB hO hmk ⊢
 generalize W.alloc (.cells (bytesC (List.replicate 32 0)) 5) = W1 at *
 go_wp2_with fail
 go_loopw [6] (fun i wr => ∃ m : Nat, i = .int .i64 (m : Int) ∧ m ≤ 32 ∧ Blk wr (b + 1) 5 (bytesC (outF [a0, a1, a2, a3] m)) ∧ Blk wr b 38 #[.int .u64 (a0 : Int), .int .u64 (a1 : Int), .int .u64 (a2 : Int), .int .u64 (a3 : Int)] ∧ w.grownBy wr none) (fun i _ => 32 - (intOf i).toNat)
 case atStart => exact ⟨0, rfl, by omega, by rw [outF_zero]; exact hO, hB, hG⟩
 case round =>
  clear hO hB hG hmk hZ
  obtain ⟨m, rfl, hm, hO, hB, hG⟩ := hrel
  by_cases hlt : m < 32
  ·obtain ⟨q, hq⟩ : ∃ q, m / 8 = q := ⟨_, rfl⟩
   obtain ⟨r8, hr8⟩ : ∃ r, m % 8 = r := ⟨_, rfl⟩
   obtain ⟨r, hr⟩ : ∃ r, r8 * 8 = r := ⟨_, rfl⟩
   obtain ⟨p, hp⟩ : ∃ p, 31 - m = p := ⟨_, rfl⟩
   have f2 := word_cell hB q (by omega)
   obtain ⟨v, hv⟩ : ∃ v, [a0, a1, a2, a3].getD q 0 = v := ⟨_, rfl⟩
   obtain ⟨z, hz⟩ : ∃ z, fixAt [a0, a1, a2, a3] m = z := ⟨_, rfl⟩
   have hzz : z = UInt8.ofNat (v / 2 ^ r % 256) := by
    rw [← hz]; unfold fixAt; rw [hq, hr8, hr, hv]
   have hst : outF [a0, a1, a2, a3] (m + 1) = (outF [a0, a1, a2, a3] m).set p z := by rw [← hz, ← hp]; exact outF_succ _ m hlt
   rw [hv] at f2
   have f3 := hO.frozen p
   have f4 : wr.cell? ⟨b + 1, p, none⟩ = some (.int .u8 (((outF [a0, a1, a2, a3] m).getD p 0).toNat : Int)) := bytesC_cell hO p (by rw [outF_len]; omega)
   have p1 : (m : Int).tdiv 8 = (q : Int) := by rw [Int.tdiv_eq_ediv_of_nonneg (by omega)]; omega
   have p2 : IntKind.i64.wrap (q : Int) = (q : Int) := IntWalk.i64_in _ (by omega)
   have p3 : (m : Int).tmod 8 = (r8 : Int) := by rw [Int.tmod_eq_emod_of_nonneg (by omega)]; omega
   have p4 : IntKind.i64.wrap ((r8 : Int) * 8) = (r : Int) := by rw [IntWalk.i64_in _ (by omega)]; omega
   have p5 : IntKind.u8.wrap ((v : Int) / 2 ^ r) = (z.toNat : Int) := by rw [hzz]; exact fixAt_wrap v r
   have p6 : IntKind.i64.wrap (31 - (m : Int)) = (p : Int) := by rw [IntWalk.i64_in _ (by omega)]; omega
   have p7 : 31 - (m : Int) = (p : Int) := by omega
   have q1 : (q : Int) < 4 := by omega
   have q2 : (m : Int) < 32 := by omega
   have q3 : r < 64 := by omega
   have q4 : (p : Int) < 32 := by omega
   have HS := Lib.hid hst
   generalize (outF [a0, a1, a2, a3] m).getD p 0 = z0 at f4
   generalize [a0, a1, a2, a3].getD q 0 = v' at hv
   clear hq hr8 hr hv hz hzz hst hp
   go_wp2_with fail
   refine ⟨⟨m + 1, by go_num, by omega, ?_, hB.far (p := ⟨b + 1, p, none⟩) (by show b ≠ b + 1; omega) _, only_set hG (p := ⟨b + 1, p, none⟩) (by show w.heap.size ≤ b + 1; omega) _⟩, by simp [intOf]; omega⟩
   rw [HS.out, ← bytesC_setI]
   exact hO.set_ p _
  ·have e32 : outF [a0, a1, a2, a3] m = fixL [a0, a1, a2, a3] := by rw [show m = 32 by omega, outF_all]
   rw [e32] at hO
   have hfin : decide ((m : Int) < 32) = false := by simp; omega
   have hcv := run_convert_bytes_back (P := Tryz.prog) wr 43 9 5 ⟨b + 1, 0, none⟩ 32 (fixL [a0, a1, a2, a3]) (by kernel_rfl) (by kernel_rfl) (by kernel_rfl) (fun j hj => by
    have := bytesC_cell hO j hj
    rw [Addr.add_mid, Nat.zero_add, this, List.getD_eq_getElem?_getD, List.getElem?_eq_getElem hj]
    rfl)
   rw [fixL_len] at hcv
   obtain ⟨qq, hqq⟩ : ∃ x, fixL [a0, a1, a2, a3] = x := ⟨_, rfl⟩
   rw [hqq] at hcv
   have HQ := Lib.hid hqq
   clear e32 hqq
   go_wp2_with fail
   go_ret
   exact ⟨by rw [HQ.out]; rfl, hG⟩
theorem extract_tail {t : ByteArray} {c : UInt8} {r : List UInt8} (h : t.data.toList = c :: r) : (t.extract 1 t.size).data.toList = r := by
 rw [Lib.extract_data, h]
 simp
 rw [List.take_of_length_le]
 have := congrArg List.length h
 rw [Array.length_toList] at this
 simp at this
 show r.length ≤ t.size - 1
 have : t.size = r.length + 1 := this
 omega
theorem size_cons {t : ByteArray} {c : UInt8} {r : List UInt8} (h : t.data.toList = c :: r) : t.size = r.length + 1 := by
 have := congrArg List.length h
 rw [Array.length_toList] at this
 exact this
def strSize : Value → Nat
 | .string s => s.size
 | _ => 0
theorem trimByte_any (s : ByteArray) (c : UInt8) (w : World) (hs : s.size ≤ 9223372036854775807) :
  Calls Tryz.prog 166 #[.string s, .int .u8 (c.toNat : Int)] w fun e w' => e = .returned (.string ⟨(trimC c s.data.toList).toArray⟩) ∧ w' = w := by
 go_enter Tryz.func166, Tryz.ntmps166
 go_wp2_with fail
 go_loop [0] (fun v => ∃ t : ByteArray, v = .string t ∧ t.size ≤ s.size ∧ Hid (trimC c t.data.toList = trimC c s.data.toList)) (fun v => strSize v)
 case atStart => exact ⟨s, rfl, Nat.le_refl _, Lib.hid rfl⟩
 case round =>
  obtain ⟨t, rfl, ht, hT⟩ := hrel
  have HT := Lib.hid hT.out
  clear hT
  cases hl : t.data.toList with
  | nil =>
   have hz : t.size = 0 := by have := congrArg List.length hl; rw [Array.length_toList] at this; exact this
   have d1 : decide (0 < t.size) = false := decide_eq_false (by omega)
   have d2 : decide ((0 : Int) < (t.size : Int)) = false := decide_eq_false (by omega)
   have he : t = ⟨#[]⟩ := ba_ext hl
   have HE : Hid (trimC c s.data.toList = []) := Lib.hid (by rw [← HT.out, hl]; rfl)
   subst he
   clear hl hz HT
   go_wp2_with fail
   go_ret
   exact ⟨by rw [HE.out]; rfl, rfl⟩
  | cons x r =>
   have hz := size_cons hl
   have d1 : 0 < t.size := by omega
   have hx : t[0]'d1 = x := by
    have e : t.data.toList[0]? = some x := by rw [hl]; rfl
    have e2 : t.data[0]? = some x := by simpa using e
    obtain ⟨_, e3⟩ := Array.getElem?_eq_some_iff.1 e2
    exact e3
   have HZ := Lib.hid hz
   clear hz
   have d2 : (0 : Int) < (t.size : Int) := by omega
   have d3 : (1 : Int) ≤ (t.size : Int) := by omega
   have d4 : 1 ≤ t.size := by omega
   by_cases hxc : x = c
   ·have e1 : ((x.toNat : Int) == (c.toNat : Int)) = true := by rw [hxc]; simp
    have HN : Hid (trimC c (t.extract 1 t.size).data.toList = trimC c s.data.toList) := Lib.hid (by
     rw [extract_tail hl, ← HT.out, hl]
     show _ = List.dropWhile _ _
     rw [List.dropWhile_cons_of_pos (by simp [hxc])]; rfl)
    have HSZ : Hid ((t.extract 1 t.size).size = t.size - 1) := Lib.hid (by simp)
    clear hl HT hxc
    go_wp2_with fail
    exact ⟨⟨_, rfl, by have := HSZ.out; omega, HN⟩, by show (t.extract 1 t.size).size < t.size; have := HSZ.out; omega⟩
   ·have e1 : ((x.toNat : Int) == (c.toNat : Int)) = false := by
     rw [beq_eq_false_iff_ne]; intro e; exact hxc (UInt8.toNat_inj.1 (by omega))
    have HN : Hid (trimC c s.data.toList = t.data.toList) := Lib.hid (by
     rw [← HT.out, hl]
     show List.dropWhile _ _ = _
     rw [List.dropWhile_cons_of_neg (by simp [hxc])])
    clear hl HT hxc
    go_wp2_with fail
    go_ret
    exact ⟨by rw [HN.out]; rfl, rfl⟩
theorem trim_any (s : ByteArray) (w : World) (h0 : 0 < s.size) (hs : s.size ≤ 9223372036854775807) :
  Calls Tryz.prog 142 #[.string s, .string ⟨#[0]⟩] w fun e w' => e = .returned (.string ⟨(trimL s.data.toList).toArray⟩) ∧ w' = w := by
 have hb := fun W => trimByte_any s 0 W hs
 have e1 : (s.toList == []) = false := by
  have := str_ne (a := s) (b := ⟨#[]⟩) (by rintro rfl; cases h0)
  simpa using this
 have e2 : s.toList.isEmpty = false := by simpa using e1
 have HB := Lib.hid hb
 clear hb
 go_enter Tryz.func142, Tryz.ntmps142
 go_wp2_with fail
 refine (HB.out _).mono ?_
 rintro e w2 ⟨rfl, rfl⟩
 go_wp2_with fail
 go_ret
 exact ⟨rfl, rfl⟩
theorem wordBytes_any (a0 a1 a2 a3 : Nat) (h0 : a0 < 18446744073709551616) (h1 : a1 < 18446744073709551616) (h2 : a2 < 18446744073709551616) (h3 : a3 < 18446744073709551616) (w : World) :
  Calls Tryz.prog 110 #[.agg #[.int .u64 (a0 : Int), .int .u64 (a1 : Int), .int .u64 (a2 : Int), .int .u64 (a3 : Int)]] w fun e w' => e = .returned (.string ⟨(beN (wordN a0 a1 a2 a3)).toArray⟩) ∧ w.grownBy w' none := by
 have hB := Blk.new w 38 #[.int .u64 (a0 : Int), .int .u64 (a1 : Int), .int .u64 (a2 : Int), .int .u64 (a3 : Int)]
 have hG := only_alloc (World.grownBy.refl w none) (.cells #[.int .u64 (a0 : Int), .int .u64 (a1 : Int), .int .u64 (a2 : Int), .int .u64 (a3 : Int)] 38)
 have HF := Lib.hid (fun V => fixed_any a0 a1 a2 a3 V)
 have ht := fun V => trim_any ⟨(fixL [a0, a1, a2, a3]).toArray⟩ V (by show 0 < ((fixL [a0, a1, a2, a3]).toArray).size; simp [fixL_len]) (by show ((fixL [a0, a1, a2, a3]).toArray).size ≤ _; simp [fixL_len])
 have HT := Lib.hid ht
 have HE : Hid (trimL (fixL [a0, a1, a2, a3]) = beN (wordN a0 a1 a2 a3)) := Lib.hid (by rw [fixL_be _ _ _ _ h0 h1 h2 h3]; rfl)
 clear ht
 go_enter Tryz.func110, Tryz.ntmps110
 go_wp2_with fail
 refine (HF.out _).mono ?_
 rintro e w2 ⟨rfl, hg⟩
 have hG := Lib.hid (grown_self hG hg (by simp))
 clear hg hB
 go_wp2_with fail
 refine (HT.out _).mono ?_
 rintro e w3 ⟨rfl, rfl⟩
 go_wp2_with fail
 go_ret
 exact ⟨by rw [← HE.out]; rfl, hG.out⟩
theorem load_word {w : World} {g : Nat} {a b c d : Value} (hg : Blk w g 38 #[a, b, c, d]) : (loadVar 38 ⟨g, 0, none⟩).run Tryz.prog w = .ok (.agg #[a, b, c, d]) w :=
 run_loadVar_row w g 38 38 _ (0, 0) _ hg Tryz.underlying38 rfl (by kernel_rfl)
theorem of_any (n : Nat) (w : World) :
  Calls Tryz.prog 200 #[.int .u64 (n : Int)] w fun e w' => e = .returned (.agg #[.int .u64 (n : Int), .int .u64 ((0 : Nat) : Int), .int .u64 ((0 : Nat) : Int), .int .u64 ((0 : Nat) : Int)]) ∧ w.grownBy w' none := by
 have hB := Blk.new w 38 #[.int .u64 (n : Int), .int .u64 0, .int .u64 0, .int .u64 0]
 have hG := only_alloc (World.grownBy.refl w none) (.cells #[.int .u64 (n : Int), .int .u64 0, .int .u64 0, .int .u64 0] 38)
 go_enter Tryz.func200, Tryz.ntmps200
 go_wp2_with fail
 refine bodyPost_ret (results_cell1 (fn := Tryz.f200) rfl _ _ _ _ rfl (load_word hB)) rfl ?_
 exact ⟨rfl, hG⟩
theorem be_any (n : Nat) (hn : n < 18446744073709551616) (w : World) :
  Calls Tryz.prog 189 #[.int .u64 (n : Int)] w fun e w' => e = .returned (.string ⟨(beN n).toArray⟩) ∧ w.grownBy w' none := by
 have hb := fun V => wordBytes_any n 0 0 0 hn (by omega) (by omega) (by omega) V
 rw [show wordN n 0 0 0 = n by unfold wordN; omega] at hb
 have HB := Lib.hid hb
 have HO := Lib.hid (fun V => of_any n V)
 clear hb
 go_enter Tryz.func189, Tryz.ntmps189
 go_wp2_with fail
 refine (HO.out _).mono ?_
 rintro e w2 ⟨rfl, hg⟩
 have hG := Lib.hid hg
 clear hg
 go_wp2_with fail
 refine (HB.out _).mono ?_
 rintro e w3 ⟨rfl, hg⟩
 have hG := Lib.hid (grown_self hG.out hg (by simp))
 clear hg
 go_wp2_with fail
 go_ret
 exact ⟨rfl, hG.out⟩
theorem infoB8 : (Tryz.prog.info? 5).map (fun i => (i.zero, i.size, i.bytes)) = some (some (.int .u8 0), 1, 1) := by kernel_rfl
theorem copyUsed_any (b : Nat) (w : World) (h0 : w.cell? ⟨b, 0, none⟩ = some (.pointer (some ⟨b, 0, none⟩))) :
  Calls Tryz.prog 108 #[.pointer (some ⟨b, 0, none⟩)] w fun e w' => e = .returned (.tuple #[]) ∧ w' = w := by
 have hs : (Tryz.prog.info? 96).isSome = true := by kernel_rfl
 obtain ⟨j, hj⟩ := Option.isSome_iff_exists.1 hs
 go_enter Tryz.func108, Tryz.ntmps108
 go_wp2
 rw [Lib.run_neq_ptr_same w _ Tryz.underlying94 hj]
 go_wp2
 go_end0
 exact ⟨rfl, rfl⟩
theorem copyFresh_any (b : Nat) (w : World) (h0 : w.cell? ⟨b, 0, none⟩ = some (.pointer none)) (hsh : w.shape? b = some (96, 2)) (hfz : w.frozen? ⟨b, 0, none⟩ = false) :
  Calls Tryz.prog 108 #[.pointer (some ⟨b, 0, none⟩)] w fun e w' => e = .returned (.tuple #[]) ∧ w' = w.setCell ⟨b, 0, none⟩ (.pointer (some ⟨b, 0, none⟩)) := by
 have hs : (Tryz.prog.info? 96).isSome = true := by kernel_rfl
 obtain ⟨j, hj⟩ := Option.isSome_iff_exists.1 hs
 have hz : (Tryz.prog.info? 96).map (·.size) = some 2 := by kernel_rfl
 have hjs : j.size = 2 := by simpa [hj] using hz
 go_enter Tryz.func108, Tryz.ntmps108
 go_wp2
 rw [Lib.run_to_unsafe w ⟨b, 0, none⟩ Tryz.underlying94 Tryz.underlying173 hj (by rw [hjs]; decide) hsh (Nat.zero_lt_succ 1)]
 simp only [Result.andThen]
 rw [Oper.upon_value]
 go_wp2
 rw [run_callFunc_extern Tryz.func140 (by kernel_rfl) (by kernel_rfl) (by kernel_rfl) (e := Extern.AbiNoEscape.same) (by kernel_rfl)]
 rw [Lib.run_noEscape]
 simp only [Result.andThen]
 rw [Oper.upon_value]
 go_wp2
 rw [Lib.run_from_unsafe w ⟨b, 0, none⟩ Tryz.underlying173 Tryz.underlying94 hj hsh (by kernel_rfl)]
 simp only [Result.andThen]
 rw [Oper.upon_value]
 go_wp2
 go_end0
 exact ⟨rfl, rfl⟩
theorem copyCheck_any (B b : Nat) (bs : List Value) (w : World) (h : Lib.IsBuilder 96 5 B b bs w) :
  Calls Tryz.prog 108 #[.pointer (some ⟨b, 0, none⟩)] w fun e w' => e = .returned (.tuple #[]) ∧ (Lib.BuilderAt 96 5 B b (.pointer (some ⟨b, 0, none⟩)) bs w' ∧ Below B w w') := by
 rcases h with h | h
 ·refine (copyFresh_any b w h.cell0 h.shape h.frozen0).mono ?_
  rintro e w' ⟨rfl, rfl⟩
  exact ⟨rfl, h.used _, (Below.refl B w).setCell (p := ⟨b, 0, none⟩) h.1 _⟩
 ·refine (copyUsed_any b w h.cell0).mono ?_
  rintro e w' ⟨rfl, rfl⟩
  exact ⟨rfl, h, Below.refl B _⟩
theorem writeString_any (B b : Nat) (bs : List Value) (s : ByteArray) (w : World) (h : Lib.IsBuilder 96 5 B b bs w) (hlen : bs.length + s.size ≤ 140737488355328) (hBw : B ≤ w.heap.size) :
  Calls Tryz.prog 68 #[.pointer (some ⟨b, 0, none⟩), .string s] w fun e w' => e = .returned (.tuple #[.int .i64 s.size, .nilIface]) ∧ (Lib.IsBuilder 96 5 B b (bs ++ Lib.strCells s) w' ∧ Below B w w') := by
 obtain ⟨i0, hi, hz0, hz1, hz2⟩ := info_parts infoB8
 go_enter Tryz.func68, Tryz.ntmps68
 go_wp2_with fail
 refine (copyCheck_any B b bs _ h).mono ?_
 rintro e w1 ⟨rfl, h1, hb1⟩
 obtain ⟨hB, v, hbk, hown, hne⟩ := h1
 have c0 : w1.cell? ⟨b, 0, none⟩ = some (.pointer (some ⟨b, 0, none⟩)) := by rw [Lib.cell_of_heap hbk]; rfl
 have c1 : w1.cell? ⟨b, 1, none⟩ = some v := by rw [Lib.cell_of_heap hbk]; rfl
 go_wp2_with (at_builtin; refine Lib.wpList_append_own_string _ rfl _ _ 43 9 rfl B 5 i0 Tryz.underlying43 Tryz.underlying9 hi hz0 hz1 hz2 _ _ _ rfl hown s rfl ?c3 ?c4 ?c5 ?_)
 case c3 => unfold maxLen; omega
 case c4 => omega
 case c5 => have := hb1.size; omega
 intro v' w2 hown' hgrow _
 have hlt : b < w1.heap.size := by
  rcases Nat.lt_or_ge b w1.heap.size with h' | h'
  ·exact h'
  ·simp [Array.getElem?_eq_none h'] at hbk
 have hb2 : w2.heap[b]? = some (.cells #[.pointer (some ⟨b, 0, none⟩), v] 96 (0, 0)) := by
  rw [hgrow.block b hlt (fun e => hne e.symm)]
  exact hbk
 have d0 : w2.cell? ⟨b, 0, none⟩ = some (.pointer (some ⟨b, 0, none⟩)) := by rw [Lib.cell_of_heap hb2]; rfl
 have d1 : w2.cell? ⟨b, 1, none⟩ = some v := by rw [Lib.cell_of_heap hb2]; rfl
 have f1 : w2.frozen? ⟨b, 1, none⟩ = false := Lib.frozen_of_heap hb2 1
 obtain ⟨ao, n', cap, rfl⟩ : ∃ ao n' cap, v' = .slice ao n' cap := by
  rcases hown'.2 with ⟨hv, _⟩ | ⟨g, cap, cur, hv, _⟩
  ·exact ⟨_, _, _, hv⟩
  ·exact ⟨_, _, _, hv⟩
 go_wp2
 go_ret2
 refine ⟨rfl, .inr ?_, ?_⟩
 ·exact Lib.BuilderAt.put hB hb2 (bs' := bs ++ Lib.strCells s) (by simpa [Lib.strCells_length] using hown') (by decide)
 ·exact (hb1.grown hgrow (by have := hb1.size; omega) (fun k hk => (hown.lt k hk).1)).setCell (p := ⟨b, 1, none⟩) hB _
def stringRen : Go.Shelf.Ren := ⟨fun | 169 => 70 | n => n, fun | 70 => 94 | 9 => 9 | 0 => 0 | 72 => 96 | 37 => 43 | 127 => 144 | 3 => 3 | 5 => 5 | n => n, fun | n => n⟩
theorem stringLays : Go.Proofs.Lays.n169 Tryz.prog stringRen := {
 mixed := by kernel_rfl
 f169 := Tryz.func70.trans (congrArg some (by kernel_rfl))
 t0 := Tryz.underlying0
 a0 := Tryz.isAgg0
 z0 := Tryz.sizeOf0
 v0 := Tryz.zeroValue0
 t3 := Tryz.underlying3
 a3 := Tryz.isAgg3
 z3 := Tryz.sizeOf3
 v3 := Tryz.zeroValue3
 t9 := Tryz.underlying9
 a9 := Tryz.isAgg9
 z9 := Tryz.sizeOf9
 v9 := Tryz.zeroValue9
 t37 := Tryz.underlying43
 a37 := Tryz.isAgg43
 z37 := Tryz.sizeOf43
 v37 := Tryz.zeroValue43
 t70 := Tryz.underlying94
 a70 := Tryz.isAgg94
 z70 := Tryz.sizeOf94
 v70 := Tryz.zeroValue94
 t72 := Tryz.underlying96
 a72 := Tryz.isAgg96
 z72 := Tryz.sizeOf96
 v72 := Tryz.zeroValue96
 t127 := Tryz.underlying144
 a127 := Tryz.isAgg144
 z127 := Tryz.sizeOf144
 v127 := Tryz.zeroValue144 }
theorem stringExtra : Builder.Extra Tryz.prog stringRen := {
 sizeBuilder := by kernel_rfl
 liesBuilder := by kernel_rfl
 t5 := Tryz.underlying5
 a5 := Tryz.isAgg5
 z5 := Tryz.sizeOf5
 v5 := Tryz.zeroValue5
 infoByte := by kernel_rfl
 cellsByte := by kernel_rfl
 sizeByte := by kernel_rfl
 neB5 := by decide }
theorem builderString_any (B b : Nat) (l : List UInt8) (w : World) (h : Lib.IsBuilder 96 5 B b (Lib.byteCells l) w) (hBw : B ≤ w.heap.size) :
  Calls Tryz.prog 70 #[.pointer (some ⟨b, 0, none⟩)] w fun e w' => e = .returned (.string ⟨l.toArray⟩) ∧ Below B w w' := Any.Builder_String_any stringLays stringExtra B b l w h hBw
theorem strCells_eq (s : ByteArray) : Lib.strCells s = Lib.byteCells s.data.toList := by
 simp [Lib.strCells, Lib.byteCells]
theorem byteCells_append (a b : List UInt8) : Lib.byteCells (a ++ b) = Lib.byteCells a ++ Lib.byteCells b := by simp [Lib.byteCells]
theorem builder_new (w : World) : Lib.IsBuilder 96 5 w.heap.size w.heap.size [] (w.alloc (.cells #[.pointer none, .slice none 0 0] 96)) :=
 .inl ⟨Nat.le_refl _, .slice none 0 0, heap_alloc_new w _, World.ownsRow_nil _ _ _ _, by simp [Value.ownBlock]⟩
abbrev IsB (B b : Nat) (bs : List Value) (w : World) : Prop := Lib.IsBuilderF 96 5 B b bs w
theorem copyCheckF_any (B b : Nat) (bs : List Value) (w : World) (h : IsB B b bs w) :
  Calls Tryz.prog 108 #[.pointer (some ⟨b, 0, none⟩)] w fun e w' => e = .returned (.tuple #[]) ∧ (Lib.BuilderAtF 96 5 B b (.pointer (some ⟨b, 0, none⟩)) bs w' ∧ Below B w w') := by
 rcases h with h | h
 ·refine (copyFresh_any b w h.cell0 h.shape h.frozen0).mono ?_
  rintro e w' ⟨rfl, rfl⟩
  exact ⟨rfl, h.used _, (Below.refl B w).setCell (p := ⟨b, 0, none⟩) h.1 _⟩
 ·refine (copyUsed_any b w h.cell0).mono ?_
  rintro e w' ⟨rfl, rfl⟩
  exact ⟨rfl, h, Below.refl B _⟩
theorem lenF_any (B b : Nat) (bs : List Value) (w : World) (h : IsB B b bs w) :
  Calls Tryz.prog 177 #[.pointer (some ⟨b, 0, none⟩)] w fun e w' => e = .returned (.int .i64 bs.length) ∧ w' = w := by
 obtain ⟨p, hB, v, hbk, hown, hne⟩ : ∃ p, Lib.BuilderAtF 96 5 B b p bs w := by
  rcases h with h | h
  ·exact ⟨_, h⟩
  ·exact ⟨_, h⟩
 obtain ⟨ao, cap, rfl⟩ : ∃ ao cap, v = .slice ao bs.length cap := by
  rcases hown.2 with ⟨hv, h0⟩ | ⟨g, cap, cur, fz, hv, _⟩
  ·exact ⟨none, 0, by rw [hv, h0]⟩
  ·exact ⟨_, _, hv⟩
 have c1 : w.cell? ⟨b, 1, none⟩ = some (.slice ao bs.length cap) := by rw [Lib.cell_of_heap hbk]; rfl
 go_enter Tryz.func177, Tryz.ntmps177
 go_wp2
 go_ret
 exact ⟨rfl, rfl⟩
theorem writeStringF_any (B b : Nat) (bs : List Value) (s : ByteArray) (w : World) (h : IsB B b bs w) (hlen : bs.length + s.size ≤ 140737488355328) (hBw : B ≤ w.heap.size) :
  Calls Tryz.prog 68 #[.pointer (some ⟨b, 0, none⟩), .string s] w fun e w' => e = .returned (.tuple #[.int .i64 s.size, .nilIface]) ∧ (IsB B b (bs ++ Lib.strCells s) w' ∧ Below B w w') := by
 obtain ⟨i0, hi, hz0, hz1, hz2⟩ := info_parts infoB8
 go_enter Tryz.func68, Tryz.ntmps68
 go_wp2_with fail
 refine (copyCheckF_any B b bs _ h).mono ?_
 rintro e w1 ⟨rfl, h1, hb1⟩
 obtain ⟨hB, v, hbk, hown, hne⟩ := h1
 have c0 : w1.cell? ⟨b, 0, none⟩ = some (.pointer (some ⟨b, 0, none⟩)) := by rw [Lib.cell_of_heap hbk]; rfl
 have c1 : w1.cell? ⟨b, 1, none⟩ = some v := by rw [Lib.cell_of_heap hbk]; rfl
 go_wp2_with (at_builtin; refine Lib.wpList_append_own_stringF _ rfl _ _ 43 9 rfl B 5 i0 Tryz.underlying43 Tryz.underlying9 hi hz0 hz1 hz2 _ _ _ rfl hown s rfl ?c3 ?c4 ?c5 ?_)
 case c3 => unfold maxLen; omega
 case c4 => omega
 case c5 => have := hb1.size; omega
 intro v' w2 hown' hgrow _
 have hlt : b < w1.heap.size := by
  rcases Nat.lt_or_ge b w1.heap.size with h' | h'
  ·exact h'
  ·simp [Array.getElem?_eq_none h'] at hbk
 have hb2 : w2.heap[b]? = some (.cells #[.pointer (some ⟨b, 0, none⟩), v] 96 (0, 0)) := by
  rw [hgrow.block b hlt (fun e => hne e.symm)]
  exact hbk
 have d0 : w2.cell? ⟨b, 0, none⟩ = some (.pointer (some ⟨b, 0, none⟩)) := by rw [Lib.cell_of_heap hb2]; rfl
 have d1 : w2.cell? ⟨b, 1, none⟩ = some v := by rw [Lib.cell_of_heap hb2]; rfl
 have f1 : w2.frozen? ⟨b, 1, none⟩ = false := Lib.frozen_of_heap hb2 1
 obtain ⟨ao, n', cap, rfl⟩ : ∃ ao n' cap, v' = .slice ao n' cap := by
  rcases hown'.2 with ⟨hv, _⟩ | ⟨g, cap, cur, fz, hv, _⟩
  ·exact ⟨_, _, _, hv⟩
  ·exact ⟨_, _, _, hv⟩
 go_wp2
 go_ret2
 refine ⟨rfl, .inr ?_, ?_⟩
 ·exact Lib.BuilderAtF.put (T := 96) (e := 5) hB hb2 (bs' := bs ++ Lib.strCells s) (by simpa [Lib.strCells_length] using hown') (by decide)
 ·exact (hb1.grown hgrow (by have := hb1.size; omega) (fun k hk => (hown.lt k hk).1)).setCell (p := ⟨b, 1, none⟩) hB _
theorem stringF_any (B b : Nat) (l : List UInt8) (w : World) (h : IsB B b (Lib.byteCells l) w) (hBw : B ≤ w.heap.size) :
  Calls Tryz.prog 70 #[.pointer (some ⟨b, 0, none⟩)] w fun e w' => e = .returned (.string ⟨l.toArray⟩) ∧ (IsB B b (Lib.byteCells l) w' ∧ Below B w w') := Any.Builder_String_any_f stringLays stringExtra B b l w h hBw
def growRen : Go.Shelf.Ren := ⟨fun | 241 => 109 | 277 => 141 | n => n, fun | 70 => 94 | 9 => 9 | 0 => 0 | 72 => 96 | 37 => 43 | 127 => 144 | 3 => 3 | 5 => 5 | n => n, fun | n => n⟩
theorem growLays : Go.Proofs.Lays.n241 Tryz.prog growRen := {
 mixed := by kernel_rfl
 f241 := Tryz.func109.trans (congrArg some (by kernel_rfl))
 f277 := Tryz.func141.trans (congrArg some (by kernel_rfl))
 t0 := Tryz.underlying0
 a0 := Tryz.isAgg0
 z0 := Tryz.sizeOf0
 v0 := Tryz.zeroValue0
 t3 := Tryz.underlying3
 a3 := Tryz.isAgg3
 z3 := Tryz.sizeOf3
 v3 := Tryz.zeroValue3
 t37 := Tryz.underlying43
 a37 := Tryz.isAgg43
 z37 := Tryz.sizeOf43
 v37 := Tryz.zeroValue43
 t70 := Tryz.underlying94
 a70 := Tryz.isAgg94
 z70 := Tryz.sizeOf94
 v70 := Tryz.zeroValue94
 t72 := Tryz.underlying96
 a72 := Tryz.isAgg96
 z72 := Tryz.sizeOf96
 v72 := Tryz.zeroValue96 }
theorem growExtra : Builder.Extra Tryz.prog growRen := {
 sizeBuilder := by kernel_rfl
 liesBuilder := by kernel_rfl
 t5 := Tryz.underlying5
 a5 := Tryz.isAgg5
 z5 := Tryz.sizeOf5
 v5 := Tryz.zeroValue5
 infoByte := by kernel_rfl
 cellsByte := by kernel_rfl
 sizeByte := by kernel_rfl
 neB5 := by decide }
abbrev BAt (B b : Nat) (p : Value) (bs : List Value) (w : World) : Prop := Lib.BuilderAt 96 5 B b p bs w
theorem growInner_any (B b n : Nat) (w : World) (hB : B ≤ b) (hbk : w.heap[b]? = some (.cells #[.pointer (some ⟨b, 0, none⟩), .slice none 0 0] 96 (0, 0))) (hBw : B ≤ w.heap.size) (hn : n ≤ 281474976710656) :
  Calls Tryz.prog 109 #[.pointer (some ⟨b, 0, none⟩), .int .i64 n] w fun e w' => e = .returned (.tuple #[]) ∧ (BAt B b (.pointer (some ⟨b, 0, none⟩)) [] w' ∧ Below B w w') := Any.Builder_grow_fresh growLays growExtra B b n w hB hbk hBw hn
theorem grow_any (b n : Nat) (w : World) (hbk : w.heap[b]? = some (.cells #[.pointer none, .slice none 0 0] 96 (0, 0))) (hn : n ≤ 281474976710656) :
  Calls Tryz.prog 71 #[.pointer (some ⟨b, 0, none⟩), .int .i64 n] w fun e w' => e = .returned (.tuple #[]) ∧ (BAt b b (.pointer (some ⟨b, 0, none⟩)) [] w' ∧ Below b w w') := by
 have hlt : b < w.heap.size := (Array.getElem?_eq_some_iff.1 hbk).1
 go_enter Tryz.func71, Tryz.ntmps71
 go_wp2_with fail
 refine (copyFresh_any b w (by rw [Lib.cell_of_heap hbk]; rfl) (by simp [World.shape?, hbk]) (Lib.frozen_of_heap hbk 0)).mono ?_
 rintro e w1 ⟨rfl, hw1⟩
 have hbk1 : w1.heap[b]? = some (.cells #[.pointer (some ⟨b, 0, none⟩), .slice none 0 0] 96 (0, 0)) := by
  rw [hw1]; simp [World.setCell, Array.getElem?_modify, hbk]
 have hb1 : Below b w w1 := by rw [hw1]; exact (Below.refl b w).setCell (p := ⟨b, 0, none⟩) (Nat.le_refl _) _
 have hz1 : b ≤ w1.heap.size := by have := hb1.size; omega
 have c1 : w1.cell? ⟨b, 1, none⟩ = some (.slice none 0 0) := by rw [Lib.cell_of_heap hbk1]; rfl
 have hd := fun q => growInner_any b b n (w1.drewN q) (Nat.le_refl _) hbk1 hz1 hn
 clear hw1 hbk
 by_cases h0 : 0 < n
 ·have d1 : decide ((0 : Int) < (n : Int)) = true := by simpa using h0
  go_wp2_with fail
  go_quiet (fail)
  have hd2 := hd nq
  clear hd
  go_wp2_with fail
  refine hd2.mono ?_
  rintro e w2 ⟨rfl, h2, hb2⟩
  go_wp2_with fail
  go_end0
  exact ⟨rfl, h2, (below_drewN hb1 nq).trans hb2⟩
 ·have hn0 : n = 0 := by omega
  subst hn0
  go_wp2_with fail
  go_quiet (fail)
  go_wp2_with fail
  go_end0
  exact ⟨rfl, ⟨Nat.le_refl _, .slice none 0 0, hbk1, World.ownsRow_nil _ _ _ _, by simp [Value.ownBlock]⟩, below_drewN hb1 nq⟩
theorem Reads.vals {α : Type} (f : α → Value) (d : α) {w : World} {B n k : Nat} {A : Option Addr} {xs : List α} (h : Reads w B 1 A n (xs.map f)) (hk : k < n) :
  ∃ b off, A = some ⟨b, off, none⟩ ∧ b < B ∧ ∀ j, j < n → w.cell? ⟨b, off + j, none⟩ = some (f (xs.getD j d)) := by
 have hl := h.1
 simp at hl
 have key : ∀ j, j < n → (xs.map f)[j]? = some (f (xs.getD j d)) := by
  intro j hj
  rw [List.getElem?_map, List.getElem?_eq_getElem (by omega), List.getD_eq_getElem?_getD, List.getElem?_eq_getElem (by omega)]
  rfl
 obtain ⟨ad, rfl, hb, hc⟩ := h.2 (by omega)
 have h0 := hc 0 _ (key 0 (by omega))
 have e : ad = ⟨ad.block, ad.off, none⟩ := lit_of_cell (a := ad) (by simpa [Addr.add] using h0)
 refine ⟨ad.block, ad.off, by rw [← e], hb, fun j hj => ?_⟩
 have := hc j _ (key j hj)
 rw [e] at this
 unfold Addr.add at this
 by_cases hj0 : j = 0
 ·subst hj0; simpa using this
 ·simpa [hj0] using this
def catB (xs : List ByteArray) : List UInt8 := xs.flatMap (·.data.toList)
theorem catB_snoc (xs : List ByteArray) (x : ByteArray) : catB (xs ++ [x]) = catB xs ++ x.data.toList := by simp [catB]
theorem catB_take (xs : List ByteArray) (k : Nat) (hk : k < xs.length) : catB (xs.take (k + 1)) = catB (xs.take k) ++ (xs.getD k .empty).data.toList := by
 rw [List.take_succ_eq_append_getElem hk, catB_snoc, List.getD_eq_getElem?_getD, List.getElem?_eq_getElem hk]; rfl
theorem catB_le (xs : List ByteArray) (k : Nat) : (catB (xs.take k)).length ≤ (catB xs).length := by
 have h : catB xs = catB (xs.take k) ++ catB (xs.drop k) := by unfold catB; rw [← List.flatMap_append, List.take_append_drop]
 rw [h, List.length_append]; omega
theorem joinMany_any (B : Nat) (A : Option Addr) (n c : Nat) (xs : List ByteArray) (w : World) (hB : B ≤ w.heap.size) (h : Reads w B 1 A n (xs.map Value.string)) (h2 : 2 ≤ n) (hnm : n ≤ 1000000) (hnc : n ≤ c) (hlen : (catB xs).length ≤ 140737488355328) :
  Calls Tryz.prog 27 #[.slice A n c, .string .empty] w fun e w' => e = .returned (.string ⟨(catB xs).toArray⟩) ∧ Below w.heap.size w w' := by
 have hl : xs.length = n := by simpa using h.1
 obtain ⟨b, off, rfl, hbb, hc⟩ := h.vals Value.string .empty (k := 0) (by omega)
 have hne0 : ((n : Int) == 0) = false := beq_eq_false_iff_ne.2 (by omega)
 have hne1 : ((n : Int) == 1) = false := beq_eq_false_iff_ne.2 (by omega)
 have HL := Lib.hid hl; clear hl h
 have HC := Lib.hid hc; clear hc
 have HLEN := Lib.hid hlen; clear hlen
 go_enter Tryz.func27, Tryz.ntmps27
 go_wp2_with fail
 go_loop [5, 41] (fun s i => ∃ k : Nat, k ≤ n ∧ i = .int .i64 (k : Int) ∧ s = .int .i64 ((catB (xs.take k)).length : Int)) (fun _ i => n - (intOf i).toNat)
 case atStart => exact ⟨0, Nat.zero_le _, rfl, rfl⟩
 case round =>
  obtain ⟨k, hk, rfl, rfl⟩ := hrel
  by_cases hlt : k < n
  ·have hck := HC.out k hlt
   have hst := catB_take xs k (by have := HL.out; omega)
   have hle := catB_le xs (k + 1)
   have hst2 : (catB (xs.take (k + 1))).length = (catB (xs.take k)).length + (xs.getD k .empty).size := by rw [hst, List.length_append, ba_len]
   clear hst
   obtain ⟨x, hx⟩ : ∃ x, xs.getD k .empty = x := ⟨_, rfl⟩
   rw [hx] at hck hst2
   have hlen := HLEN.out
   obtain ⟨S1, hS1⟩ : ∃ q, (catB (xs.take (k + 1))).length = q := ⟨_, rfl⟩
   rw [hS1] at hle hst2
   have HS1 := Lib.hid hS1
   clear hS1 hx
   generalize (catB (xs.take k)).length = S at *
   generalize (catB xs).length = T at *
   go_wp2_with fail
   go_round
   case rel => exact ⟨k + 1, by omega, by simp, by rw [HS1.out, hst2]; simp⟩
   case measure => simp [intOf]; omega
  ·have hk2 : k = n := by omega
   have ht : xs.take k = xs := List.take_of_length_le (by have := HL.out; omega)
   rw [ht]
   have hfin : decide ((k : Int) < (n : Int)) = false := by simp; omega
   have hfin2 : decide (k < n) = false := by simp; omega
   clear ht hk2 hlt hk
   obtain ⟨T, hT⟩ : ∃ q, (catB xs).length = q := ⟨_, rfl⟩
   have hTl : T ≤ 140737488355328 := by rw [← hT]; exact HLEN.out
   rw [hT]
   clear hT
   have hn0 : w.heap[w.heap.size]? = none := by simp
   have hb0 : Below w.heap.size w (w.alloc (.cells #[.pointer none, .slice none 0 0] 96)) := (Below.refl _ w).alloc (Nat.le_refl _) _
   have hbk0 := heap_alloc_new w (.cells #[.pointer none, .slice none 0 0] 96)
   go_wp2_with fail
   generalize w.alloc (.cells #[.pointer none, .slice none 0 0] 96) = w1 at *
   refine (grow_any w.heap.size T w1 hbk0 (by omega)).mono ?_
   rintro e w2 ⟨rfl, h2b, hb2⟩
   have hb2' := hb0.trans hb2
   clear hb2 hb0 hbk0
   have hc0 : w2.cell? ⟨b, off, none⟩ = some (.string (xs.getD 0 .empty)) := by
    rw [hb2'.cell (p := ⟨b, off, none⟩) (by show b < w.heap.size; omega)]
    exact HC.out 0 (by omega)
   obtain ⟨x0, hx0⟩ : ∃ x, xs.getD 0 .empty = x := ⟨_, rfl⟩
   rw [hx0] at hc0
   have hs1 : catB (xs.take 1) = x0.data.toList := by rw [catB_take xs 0 (by have := HL.out; omega), hx0]; simp [catB]
   have hs1l := catB_le xs 1
   rw [hs1, ba_len] at hs1l
   have HS1 := Lib.hid hs1; clear hs1 hx0
   have hx0l : x0.size ≤ 140737488355328 := by have := HLEN.out; omega
   clear hs1l
   have hc1 : ¬ c = 1 := by omega
   go_wp2_with fail
   refine (writeString_any w.heap.size w.heap.size [] x0 w2 (.inr h2b) (by simpa using hx0l) hb2'.size).mono ?_
   rintro e w3 ⟨rfl, h3b, hb3⟩
   have hb3' := hb2'.trans hb3
   rw [List.nil_append, strCells_eq, ← HS1.out] at h3b
   clear h2b hb2' hb3 hc0
   go_wp2_with fail
   go_loopw [65] (fun i wr => ∃ k : Nat, k ≤ n - 1 ∧ i = .int .i64 (k : Int) ∧ Lib.IsBuilder 96 5 w.heap.size w.heap.size (Lib.byteCells (catB (xs.take (k + 1)))) wr ∧ Below w.heap.size w wr) (fun i _ => n - 1 - (intOf i).toNat)
   case atStart => exact ⟨0, Nat.zero_le _, rfl, h3b, hb3'⟩
   case round =>
    clear h3b hb3' hx0l
    obtain ⟨k, hk, rfl, hb, hbel⟩ := hrel
    have hsz := hbel.size
    by_cases hlt : k < n - 1
    ·have hck : wr.cell? ⟨b, off + 1 + k, none⟩ = some (.string (xs.getD (k + 1) .empty)) := by
      rw [hbel.cell (p := ⟨b, off + 1 + k, none⟩) (by show b < w.heap.size; omega), show off + 1 + k = off + (k + 1) by omega]
      exact HC.out (k + 1) (by omega)
     have hst := catB_take xs (k + 1) (by have := HL.out; omega)
     have hle := catB_le xs (k + 1 + 1)
     have hlen := HLEN.out
     obtain ⟨x, hx⟩ : ∃ x, xs.getD (k + 1) .empty = x := ⟨_, rfl⟩
     rw [hx] at hck hst
     have hst2 : (catB (xs.take (k + 1))).length + x.size ≤ 140737488355328 := by rw [hst, List.length_append, ba_len] at hle; omega
     have hst3 : Lib.byteCells (catB (xs.take (k + 1 + 1))) = Lib.byteCells (catB (xs.take (k + 1))) ++ Lib.strCells x := by rw [hst, byteCells_append, strCells_eq]
     have HS := Lib.hid hst3
     clear hst hst3 hle hlen hx
     have hz0 : (Lib.byteCells (catB (xs.take (k + 1)))).length + (ByteArray.empty).size ≤ 140737488355328 := by rw [Lib.byteCells_length]; show _ + 0 ≤ _; omega
     have hz1 : (Lib.byteCells (catB (xs.take (k + 1)))).length + x.size ≤ 140737488355328 := by rw [Lib.byteCells_length]; omega
     go_wp2_with fail
     refine (writeString_any w.heap.size w.heap.size _ .empty wr hb hz0 hsz).mono ?_
     rintro e w4 ⟨rfl, h4, hb4⟩
     have hbel4 := hbel.trans hb4
     have he0 : Lib.strCells .empty = [] := rfl
     rw [he0, List.append_nil] at h4
     have hck4 : w4.cell? ⟨b, off + 1 + k, none⟩ = some (.string x) := (hb4.cell (p := ⟨b, off + 1 + k, none⟩) (by show b < w.heap.size; omega)).trans hck
     clear hb hbel hck hb4 hz0
     go_wp2_with fail
     refine (writeString_any w.heap.size w.heap.size _ x w4 h4 hz1 hbel4.size).mono ?_
     rintro e w5 ⟨rfl, h5, hb5⟩
     have hbel5 := hbel4.trans hb5
     rw [← HS.out] at h5
     clear h4 hbel4 hb5 hck4
     go_wp2_with fail
     go_roundw
     case rel => exact ⟨k + 1, by omega, by simp, h5, hbel5⟩
     case measure => simp [intOf]; omega
    ·have hk2 : k + 1 = n := by omega
     have ht : xs.take (k + 1) = xs := List.take_of_length_le (by have := HL.out; omega)
     rw [ht] at hb
     have hfin3 : decide ((k : Int) < (n : Int) - 1) = false := by simp; omega
     clear ht hk2
     go_wp2_with fail
     refine (builderString_any w.heap.size w.heap.size _ wr hb (by omega)).mono ?_
     rintro e w4 ⟨rfl, hb4⟩
     go_wp2_with fail
     go_ret
     exact ⟨rfl, hbel.trans hb4⟩
theorem joinNone_any (A : Option Addr) (c : Nat) (w : World) :
  Calls Tryz.prog 27 #[.slice A 0 c, .string .empty] w fun e w' => e = .returned (.string ⟨#[]⟩) ∧ Below w.heap.size w w' := by
 go_enter Tryz.func27, Tryz.ntmps27
 go_wp2_with fail
 go_ret
 exact ⟨rfl, Below.refl _ _⟩
theorem joinOne_any (B : Nat) (A : Option Addr) (c : Nat) (x : ByteArray) (w : World) (h : Reads w B 1 A 1 [.string x]) :
  Calls Tryz.prog 27 #[.slice A 1 c, .string .empty] w fun e w' => e = .returned (.string x) ∧ Below w.heap.size w w' := by
 obtain ⟨b, off, rfl, hbb, hc⟩ := Reads.vals (xs := [x]) Value.string .empty h (k := 0) (by omega)
 have hck : w.cell? ⟨b, off, none⟩ = some (.string x) := hc 0 (by omega)
 clear hc
 go_enter Tryz.func27, Tryz.ntmps27
 go_wp2_with fail
 go_ret
 exact ⟨rfl, Below.refl _ _⟩
theorem join_any (B : Nat) (A : Option Addr) (n c : Nat) (xs : List ByteArray) (w : World) (hB : B ≤ w.heap.size) (h : Reads w B 1 A n (xs.map Value.string)) (hnm : n ≤ 1000000) (hnc : n ≤ c) (hlen : (catB xs).length ≤ 140737488355328) :
  Calls Tryz.prog 27 #[.slice A n c, .string .empty] w fun e w' => e = .returned (.string ⟨(catB xs).toArray⟩) ∧ Below w.heap.size w w' := by
 have hl : xs.length = n := by simpa using h.1
 match xs, hl with
 | [], hl => subst hl; exact joinNone_any A c w
 | [x], hl =>
  subst hl
  refine (joinOne_any B A c x w h).mono fun e w' ⟨he, hb⟩ => ⟨?_, hb⟩
  rw [he]; exact congrArg _ (congrArg _ (ba_ext (by simp [catB])))
 | x :: y :: r, hl => exact joinMany_any B A n c _ w hB h (by simp at hl; omega) hnm hnc hlen
def prefixRen : Go.Shelf.Ren := ⟨fun | 99 => 155 | 206 => 175 | n => n, fun | 3 => 3 | 4 => 4 | 9 => 9 | n => n, fun | n => n⟩
theorem prefixLays : Go.Proofs.Lays.n99 Tryz.prog prefixRen := {
 mixed := by kernel_rfl
 f99 := Tryz.func155.trans (congrArg some (by kernel_rfl))
 f206 := Tryz.func175.trans (congrArg some (by kernel_rfl))
 t3 := Tryz.underlying3
 a3 := Tryz.isAgg3
 z3 := Tryz.sizeOf3
 v3 := Tryz.zeroValue3
 t4 := Tryz.underlying4
 a4 := Tryz.isAgg4
 z4 := Tryz.sizeOf4
 v4 := Tryz.zeroValue4
 t9 := Tryz.underlying9
 a9 := Tryz.isAgg9
 z9 := Tryz.sizeOf9
 v9 := Tryz.zeroValue9 }
theorem hasPrefix_any (s p : ByteArray) (w : World) :
  Calls Tryz.prog 155 #[.string s, .string p] w fun e w' => e = .returned (.bool (Lib.hasPrefix s.data.toList p.data.toList)) ∧ w' = w := Any.strings_HasPrefix prefixLays s p w
def mulRen : Go.Shelf.Ren := ⟨fun | 212 => 176 | 263 => 193 | 264 => 194 | n => n, fun | 46 => 143 | 51 => 235 | 53 => 23 | 146 => 236 | 148 => 238 | n => n, fun | n => n⟩
theorem mulLays : Go.Proofs.Lays.n212 Tryz.prog mulRen := {
 mixed := by kernel_rfl
 f212 := Tryz.func176.trans (congrArg some (by kernel_rfl))
 f263 := Tryz.func193.trans (congrArg some (by kernel_rfl))
 f264 := Tryz.func194.trans (congrArg some (by kernel_rfl))
 t46 := Tryz.underlying143
 a46 := Tryz.isAgg143
 z46 := Tryz.sizeOf143
 v46 := Tryz.zeroValue143
 t51 := Tryz.underlying235
 a51 := Tryz.isAgg235
 z51 := Tryz.sizeOf235
 v51 := Tryz.zeroValue235
 t53 := Tryz.underlying23
 a53 := Tryz.isAgg23
 z53 := Tryz.sizeOf23
 v53 := Tryz.zeroValue23
 t146 := Tryz.underlying236
 a146 := Tryz.isAgg236
 z146 := Tryz.sizeOf236
 v146 := Tryz.zeroValue236
 t148 := Tryz.underlying238
 a148 := Tryz.isAgg238
 z148 := Tryz.sizeOf238
 v148 := Tryz.zeroValue238 }
theorem mul_any (x y : Nat) (hxy : x * y < 18446744073709551616) (hx : x < 18446744073709551616) (hy : y < 18446744073709551616) (w : World) :
  Calls Tryz.prog 176 #[.int .u64 (x : Int), .int .u64 (y : Int)] w fun e w' => e = .returned (.tuple #[.int .u64 0, .int .u64 ((x * y : Nat) : Int)]) ∧ w' = w := by
 refine (Any.bits_Mul mulLays x y hx hy w).mono ?_
 rintro e w' ⟨he, hw⟩
 rw [Nat.div_eq_of_lt hxy, Nat.mod_eq_of_lt hxy] at he
 exact ⟨he, hw⟩
theorem min3_any {P : Program} {w : World} (ts : Array TypeId) (t : TypeId) (x y z : Int) :
  (Builtin.min_ ts t #[.int .i64 x, .int .i64 y, .int .i64 z]).run P w = .ok (.int .i64 (if z < (if y < x then y else x) then z else (if y < x then y else x))) w := by
 simp [Builtin.min_, Builtin.min2]
abbrev zs (c : Nat) : List UInt8 := List.replicate c 0
theorem repeatMany_any (S : ByteArray) (hS : S.data.toList = [0]) (c : Nat) (w : World) (hc2 : 2 ≤ c) (hc : c ≤ 32) :
  Calls Tryz.prog 156 #[.string S, .int .i64 (c : Int)] w fun e w' => e = .returned (.string ⟨(zs c).toArray⟩) ∧ Below w.heap.size w w' := by
 have hz : S.size = 1 := by have := congrArg List.length hS; rw [Array.length_toList] at this; exact this
 have g0 : 0 < S.size := by omega
 have g2 : ((S[0]'g0).toNat : Int) = 0 := by
  have e2 : S.data[0]? = some 0 := by
   have : S.data.toList[0]? = some 0 := by rw [hS]; rfl
   simpa using this
  obtain ⟨_, e3⟩ := Array.getElem?_eq_some_iff.1 e2
  have : S[0]'g0 = 0 := e3
  rw [this]; rfl
 have hMul := mul_any 1 c (by omega) (by omega) (by omega) w
 rw [Nat.one_mul] at hMul
 have HM : Hid (Calls Tryz.prog 176 #[.int .u64 1, .int .u64 (c : Int)] w fun e w' => e = .returned (.tuple #[.int .u64 0, .int .u64 (c : Int)]) ∧ w' = w) := Lib.hid hMul
 have hzi : (S.size : Int) = 1 := by omega
 have e0 : ((c : Int) == 0) = false := by rw [beq_eq_false_iff_ne]; omega
 have e1 : ((c : Int) == 1) = false := by rw [beq_eq_false_iff_ne]; omega
 have d0 : decide ((c : Int) < 0) = false := decide_eq_false (by omega)
 have d1 : decide ((9223372036854775807 : Int) < (c : Int)) = false := decide_eq_false (by omega)
 have d1' : decide (9223372036854775807 < c) = false := decide_eq_false (by omega)
 have d2 : decide ((8192 : Int) < (c : Int)) = false := decide_eq_false (by omega)
 have d2' : decide (8192 < c) = false := decide_eq_false (by omega)
 have v1 : IntKind.u64.wrap (c : Int) = (c : Int) := by rw [show (c : Int) = ((c : Nat) : Int) from rfl]; simp [IntKind.wrap, IntKind.bits, IntKind.signed]; omega
 have v1' : IntKind.u64.wrap (1 : Int) = 1 := by decide
 have v2 : IntKind.i64.wrap (c : Int) = (c : Int) := IntWalk.i64_in _ (by omega)
 have b0 : Below w.heap.size w (w.alloc (.cells #[.pointer none, .slice none 0 0] 96)) := (Below.refl _ w).alloc (Nat.le_refl _) _
 have HG := Lib.hid (grow_any w.heap.size c (w.alloc (.cells #[.pointer none, .slice none 0 0] 96)) (heap_alloc_new w _) (by omega))
 have HB0 := Lib.hid b0
 have HSS := Lib.hid hS
 clear hS hMul b0
 go_enter Tryz.func156, Tryz.ntmps156
 go_wp2_with fail
 refine HM.out.mono ?_
 rintro e w' ⟨rfl, hw⟩
 rw [hw]
 clear hw HM
 go_wp2_with fail
 refine HG.out.mono ?_
 rintro e W1 ⟨rfl, h1, b1⟩
 have b01 := Lib.hid (HB0.out.trans b1)
 have H1 := Lib.hid h1
 clear h1 b1 HG HB0
 go_wp2_with fail
 refine (writeStringF_any w.heap.size w.heap.size [] S W1 (Lib.IsBuilderF.of (Or.inr H1.out)) (by simp; omega) b01.out.size).mono ?_
 rintro e W2 ⟨rfl, h2, b2⟩
 have H2 : IsB w.heap.size w.heap.size (Lib.byteCells (zs 1)) W2 := by
  rw [List.nil_append, strCells_eq, HSS.out] at h2
  exact h2
 have b02 := b01.out.trans b2
 clear h2 b2 b01 H1
 go_wp2_with fail
 go_loopg [] (c - 1) (fun g wx => ∃ q : Nat, 1 ≤ q ∧ q + g = c ∧ IsB w.heap.size w.heap.size (Lib.byteCells (zs q)) wx ∧ Below w.heap.size w wx)
 case atStart => exact ⟨1, Nat.le_refl _, by omega, H2, b02⟩
 case round =>
  obtain ⟨q, hq1, hqg, hB, hbx⟩ := hrel
  have hlq : (Lib.byteCells (zs q)).length = q := by rw [Lib.byteCells_length, List.length_replicate]
  have cLen := lenF_any w.heap.size w.heap.size _ wr hB
  rw [hlq] at cLen
  have HL := Lib.hid cLen
  have cStr := stringF_any w.heap.size w.heap.size (zs q) wr hB hbx.size
  obtain ⟨R, hR⟩ : ∃ R : ByteArray, (⟨(zs q).toArray⟩ : ByteArray) = R := ⟨_, rfl⟩
  have hRd : R.data.toList = zs q := by rw [← hR]
  have hRz : R.size = q := by have := congrArg List.length hRd; rw [Array.length_toList, List.length_replicate] at this; exact this
  rw [hR] at cStr
  have HT := Lib.hid cStr
  have HRd := Lib.hid hRd; have HR := Lib.hid hR; have HBX := Lib.hid hbx; have HLQ := Lib.hid hlq
  clear cLen cStr hRd hB hbx hlq H2 b02 hR
  cases gk with
  | zero =>
   obtain rfl : q = c := by omega
   have hQn : decide ((q : Int) < (q : Int)) = false := by simp
   go_wp2_with fail
   refine HL.out.mono ?_
   rintro e w' ⟨rfl, hw⟩
   rw [hw]
   clear hw
   go_wp2_with fail
   refine HT.out.mono ?_
   rintro e W3 ⟨rfl, h3, b3⟩
   have HB3 := Lib.hid (HBX.out.trans b3)
   clear h3 b3
   go_wp2_with fail
   go_ret
   exact ⟨by rw [HR.out]; rfl, HB3.out⟩
  | succ g =>
   have hQn : (q : Int) < (c : Int) := by omega
   obtain ⟨k, hk⟩ : ∃ k, min (c - q) q = k := ⟨_, rfl⟩
   have hmin3 : ∀ (ts : Array TypeId) (t : TypeId) (W : World), (Builtin.min_ ts t #[.int .i64 ((c : Int) - (q : Int)), .int .i64 (q : Int), .int .i64 (c : Int)]).run Tryz.prog W = .ok (.int .i64 (k : Int)) W := fun ts t W => by
    rw [min3_any]
    congr 2
    omega
   have v3 : IntKind.i64.wrap ((c : Int) - (q : Int)) = (c : Int) - (q : Int) := IntWalk.i64_in _ (by omega)
   have f1 : (k : Int) ≤ (R.size : Int) := by omega
   have f2 : k ≤ R.size := by omega
   have HK : Hid (min (c - q) q = k) := Lib.hid hk
   clear hk
   go_wp2_with fail
   refine HL.out.mono ?_
   rintro e w' ⟨rfl, hw⟩
   rw [hw]
   clear hw
   go_wp2_with fail
   refine HL.out.mono ?_
   rintro e w' ⟨rfl, hw⟩
   rw [hw]
   clear hw
   go_wp2_with fail
   refine HL.out.mono ?_
   rintro e w' ⟨rfl, hw⟩
   rw [hw]
   clear hw
   go_wp2_with fail
   refine HT.out.mono ?_
   rintro e W3 ⟨rfl, h3, b3⟩
   have hb3 := HBX.out.trans b3
   have HX : Hid ((R.extract 0 k).data.toList = zs k) := Lib.hid (by
    rw [Lib.extract_data, HRd.out]
    simp only [List.drop_zero, Nat.sub_zero, List.take_replicate]
    rw [Nat.min_eq_left (by have := HK.out; omega)])
   have hxz : (R.extract 0 k).size = k := by have := congrArg List.length HX.out; rw [Array.length_toList, List.length_replicate] at this; exact this
   have HW := Lib.hid (writeStringF_any w.heap.size w.heap.size _ (R.extract 0 k) W3 h3 (by rw [HLQ.out]; omega) hb3.size)
   have HB3 := Lib.hid hb3
   clear h3 b3 hb3 hxz
   go_wp2_with fail
   refine HW.out.mono ?_
   rintro e W4 ⟨rfl, h4, b4⟩
   have hb4 := HB3.out.trans b4
   have h5 : IsB w.heap.size w.heap.size (Lib.byteCells (zs (q + k))) W4 := by
    rw [strCells_eq, ← byteCells_append, HX.out, List.replicate_append_replicate] at h4
    exact h4
   clear h4 b4
   go_wp2_with fail
   go_roundg (c - (q + k))
   case measure => have := HK.out; omega
   case rel => exact ⟨q + k, by omega, by have := HK.out; omega, h5, hb4⟩
theorem repeatNone_any (S : ByteArray) (w : World) :
  Calls Tryz.prog 156 #[.string S, .int .i64 0] w fun e w' => e = .returned (.string ⟨#[]⟩) ∧ w' = w := by
 go_enter Tryz.func156, Tryz.ntmps156
 go_wp2_with fail
 go_ret
 exact ⟨rfl, rfl⟩
theorem repeatOne_any (S : ByteArray) (w : World) :
  Calls Tryz.prog 156 #[.string S, .int .i64 1] w fun e w' => e = .returned (.string S) ∧ w' = w := by
 go_enter Tryz.func156, Tryz.ntmps156
 go_wp2_with fail
 go_ret
 exact ⟨rfl, rfl⟩
theorem repeat_any (S : ByteArray) (hS : S.data.toList = [0]) (c : Nat) (w : World) (hc : c ≤ 32) :
  Calls Tryz.prog 156 #[.string S, .int .i64 (c : Int)] w fun e w' => e = .returned (.string ⟨(zs c).toArray⟩) ∧ Below w.heap.size w w' := by
 match c, hc with
 | 0, _ => exact (repeatNone_any S w).mono fun e w' ⟨he, hw⟩ => ⟨he, hw ▸ Below.refl _ _⟩
 | 1, _ => exact (repeatOne_any S w).mono fun e w' ⟨he, hw⟩ => ⟨by rw [he]; congr 2; exact ba_ext hS, hw ▸ Below.refl _ _⟩
 | c + 2, hc => exact repeatMany_any S hS (c + 2) w (by omega) hc
end Go.Proofs.YtgclnikdkfpflaaGreatDoor
