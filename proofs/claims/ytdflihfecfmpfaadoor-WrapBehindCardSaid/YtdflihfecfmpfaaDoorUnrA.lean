/- Texts of bytes (for a program without rows of bytes), and the length of a head. -/
import Derived.Test.YtdflihfecfmpfaaDoorTxt
import Derived.Test.YtdflihfecfmpfaaDoorBytes
import Derived.Test.YtdflihfecfmpfaaDoorRes
import Derived.Test.YtdflihfecfmpfaaDoorClass
import Derived.Test.YtdflihfecfmpfaaDoorRes
import Derived.Laws.IdiomStrings
import Derived.Deep.MidRow
namespace Go.Proofs.YtdflihfecfmpfaaDoor
open Go.RowKit Go.Shelf

theorem take_snoc {α : Type} (xs : List α) (k : Nat) (d : α) (hk : k < xs.length) : xs.take (k + 1) = xs.take k ++ [xs.getD k d] := by
  rw [List.take_succ_eq_append_getElem hk, List.getD_eq_getElem?_getD, List.getElem?_eq_getElem hk]; rfl
theorem at_getD {α : Type} {xs : List α} {k : Nat} (d : α) (hk : k < xs.length) : xs[k]? = some (xs.getD k d) := by
  rw [List.getD_eq_getElem?_getD, List.getElem?_eq_getElem hk]; rfl

/-- the number of bytes, the highest one first -/
def valL (l : List UInt8) : Nat := l.foldl (fun n b => n * 256 + b.toNat) 0
theorem valL_snoc (l : List UInt8) (b : UInt8) : valL (l ++ [b]) = valL l * 256 + b.toNat := by simp [valL]
theorem valL_lt (l : List UInt8) : valL l < 256 ^ l.length := by
  have key : ∀ r : List UInt8, valL r.reverse < 256 ^ r.reverse.length := by
    intro r
    induction r with
    | nil => simp [valL]
    | cons b r ih =>
      rw [List.reverse_cons, valL_snoc, List.length_append, Nat.pow_add]
      have := b.toNat_lt
      simp at *; omega
  have := key l.reverse
  rwa [List.reverse_reverse] at this
theorem or_low (n : Nat) (b : UInt8) : n * 256 ||| b.toNat = n * 256 + b.toNat := by
  have := b.toNat_lt
  rw [show n * 256 = n <<< 8 by rw [Nat.shiftLeft_eq], Nat.shiftLeft_add_eq_or_of_lt (by omega)]

/-- the length in the bytes behind a head -/
def lenB (l : List UInt8) (a m : Nat) : Nat := valL ((l.drop (a + 1)).take m)
def lengthE (l : List UInt8) (a m : Nat) : Int := if 3 < m then 5 else if l.length < a + 1 + m then 3 else if (l.getD (a + 1) 0).toNat = 0 ∨ lenB l a m < 56 then 8 else 0
theorem lenB_lt (l : List UInt8) (a m : Nat) (hm : m ≤ 3) : lenB l a m ≤ 16777215 := by
  unfold lenB
  have h1 := valL_lt ((l.drop (a + 1)).take m)
  have h2 : ((l.drop (a + 1)).take m).length ≤ 3 := by rw [List.length_take]; omega
  have h3 : 256 ^ ((l.drop (a + 1)).take m).length ≤ 256 ^ 3 := Nat.pow_le_pow_right (by omega) h2
  have h4 : (256 : Nat) ^ 3 = 16777216 := rfl
  omega
theorem lenB_succ (l : List UInt8) (a k : Nat) (h : a + 1 + k < l.length) : lenB l a (k + 1) = lenB l a k * 256 + (l.getD (a + 1 + k) 0).toNat := by
  unfold lenB
  rw [take_snoc _ k 0 (by rw [List.length_drop]; omega), valL_snoc]
  congr 2
  rw [List.getD_eq_getElem?_getD, List.getElem?_drop, List.getD_eq_getElem?_getD]

theorem results_ct {P : Program} {fn : Func} {p q : Tmp} {t : TypeId} (h : fn.results = #[.cell p t, .tmp q]) (tmps : Array Value) (w : World) (a : Addr) (x : Value) (hp : tmps.getD p undef = .pointer (some a))
    (hx : (loadVar t a).run P w = .ok x w) : (results fn tmps).run P w = .ok (.tuple #[x, tmps.getD q undef]) w := by
  have hp' : tmps[p]?.getD undef = .pointer (some a) := by simpa using hp
  simp [results, h, hp', asAddr, hx]
theorem load_own {w : World} {g : Nat} {a b c : Value} (hg : Blk w g 84 #[a, b, c]) : (loadVar 84 ⟨g, 0, none⟩).run Tryd.prog w = .ok (.agg #[a, b, c]) w :=
  run_loadVar_row w g 84 84 _ (0, 0) _ hg Tryd.underlying84 rfl (by kernel_rfl)

set_option maxRecDepth 100000 in
set_option maxHeartbeats 2000000 in
theorem length_any (s : ByteArray) (a m : Nat) (ha : a < s.size) (hs : s.size ≤ 9223372036854775807) (hm : 1 ≤ m) (hm8 : m ≤ 8) (w : World) :
    Calls Tryd.prog 58 #[.string s, .int .i64 (a : Int), .int .i64 (m : Int)] w fun e w' => e = .returned (.tuple #[.agg #[.int .i64 (if lengthE s.data.toList a m = 0 then ((a + 1 + m : Nat) : Int) else 0), .int .i64 (if lengthE s.data.toList a m = 0 then ((lenB s.data.toList a m : Nat) : Int) else 0), .bool false], .int .i64 (lengthE s.data.toList a m)]) ∧ w.grownBy w' none := by
  obtain ⟨l, hl⟩ : ∃ l, s.data.toList = l := ⟨_, rfl⟩
  have hlz : l.length = s.size := by rw [← hl, ba_len]
  rw [hl]
  have HS := Lib.hid hl; have HZ := Lib.hid hlz
  clear hl hlz
  have hw0 := Blk.new w 84 #[.int .i64 0, .int .i64 0, .bool false]
  have hG0 : w.grownBy (w.alloc (.cells #[.int .i64 0, .int .i64 0, .bool false] 84)) none := only_alloc (World.grownBy.refl _ _) _
  by_cases h1 : 3 < m
  · have hE : lengthE l a m = 5 := by unfold lengthE; rw [if_pos h1]
    rw [hE]
    have d1 : decide ((3 : Int) < (m : Int)) = true := decide_eq_true (by omega)
    have d1' : decide (3 < m) = true := decide_eq_true h1
    clear hE
    go_enter Tryd.func58, Tryd.ntmps58
    go_wp2_with fail
    refine bodyPost_ret (results_ct (fn := Tryd.f58) rfl _ _ _ _ rfl (load_own hw0)) rfl ?_
    exact ⟨by simp, hG0⟩
  have d1 : decide ((3 : Int) < (m : Int)) = false := decide_eq_false (by omega)
  have d1' : decide (3 < m) = false := decide_eq_false h1
  have v1 : IntKind.i64.wrap ((s.size : Int) - (a : Int)) = (s.size : Int) - (a : Int) := IntWalk.i64_in _ (by omega)
  have v2 : IntKind.i64.wrap ((s.size : Int) - (a : Int) - 1) = (s.size : Int) - (a : Int) - 1 := IntWalk.i64_in _ (by omega)
  by_cases h2 : s.size < a + 1 + m
  · have hE : lengthE l a m = 3 := by unfold lengthE; rw [if_neg h1, if_pos (by have := HZ.out; omega)]
    rw [hE]
    have d2 : decide ((s.size : Int) - (a : Int) - 1 < (m : Int)) = true := decide_eq_true (by omega)
    have d2' : (s.size : Int) - (a : Int) - 1 < (m : Int) := by omega
    clear hE
    go_enter Tryd.func58, Tryd.ntmps58
    go_wp2_with fail
    refine bodyPost_ret (results_ct (fn := Tryd.f58) rfl _ _ _ _ rfl (load_own hw0)) rfl ?_
    exact ⟨by simp, hG0⟩
  have d2 : decide ((s.size : Int) - (a : Int) - 1 < (m : Int)) = false := decide_eq_false (by omega)
  have d2' : ¬ ((s.size : Int) - (a : Int) - 1 < (m : Int)) := by omega
  have hE0 : lengthE l a m = if (l.getD (a + 1) 0).toNat = 0 ∨ lenB l a m < 56 then 8 else 0 := by unfold lengthE; rw [if_neg h1, if_neg (by have := HZ.out; omega)]
  have hl1 : a + 1 < l.length := by have := HZ.out; omega
  have hid1 : ∀ W, (Instr.index 9 (.string s) (.int .i64 ((a : Int) + 1))).run Tryd.prog W = .ok (.int .u8 ((l.getD (a + 1) 0).toNat : Int)) W := fun W => by
    have := idx_str s (a + 1) (l.getD (a + 1) 0) (by rw [HS.out]; exact at_getD 0 hl1) W
    simpa using this
  have hv := lenB_lt l a m (by omega)
  have hcl := (l.getD (a + 1) 0).toNat_lt
  obtain ⟨c, hc⟩ : ∃ c, (l.getD (a + 1) 0).toNat = c := ⟨_, rfl⟩
  obtain ⟨V, hV⟩ : ∃ v, lenB l a m = v := ⟨_, rfl⟩
  rw [hc] at hE0 hcl hid1
  rw [hV] at hE0 hv ⊢
  obtain ⟨E, hE⟩ : ∃ e, lengthE l a m = e := ⟨_, rfl⟩
  rw [hE] at hE0 ⊢
  have HE0 := Lib.hid hE0; have HV := Lib.hid hV
  clear hE0 hE hV hc
  have e1 : IntKind.i64.wrap ((a : Int) + 1) = (a : Int) + 1 := IntWalk.i64_in _ (by omega)
  have e3 : IntKind.i64.wrap ((a : Int) + 1 + (m : Int)) = (a : Int) + 1 + (m : Int) := IntWalk.i64_in _ (by omega)
  go_enter Tryd.func58, Tryd.ntmps58
  go_wp2_with fail
  go_loopw [8, 22] (fun n i wr => ∃ k : Nat, i = .int .i64 (k : Int) ∧ k ≤ m ∧ n = .int .i64 (lenB l a k : Nat) ∧ wr = w.alloc (.cells #[.int .i64 0, .int .i64 0, .bool false] 84)) (fun _ i _ => m - (intOf i).toNat)
  case atStart => exact ⟨0, rfl, by omega, by simp [lenB, valL], by first | rfl | trivial⟩
  case round =>
    obtain ⟨k, rfl, hk, rfl, rfl⟩ := hrel
    by_cases hlt : k < m
    · have hl1 : a + 1 + k < l.length := by have := HZ.out; omega
      have hsn := lenB_succ l a k hl1
      have hid : ∀ W, (Instr.index 9 (.string s) (.int .i64 ((a : Int) + 1 + (k : Int)))).run Tryd.prog W = .ok (.int .u8 ((l.getD (a + 1 + k) 0).toNat : Int)) W := fun W => by
        have := idx_str s (a + 1 + k) (l.getD (a + 1 + k) 0) (by rw [HS.out]; exact at_getD 0 hl1) W
        simpa using this
      have hv := lenB_lt l a k (by omega)
      have hv2 := lenB_lt l a (k + 1) (by omega)
      have hor := or_low (lenB l a k) (l.getD (a + 1 + k) 0)
      generalize l.getD (a + 1 + k) 0 = c at *
      have hcl := c.toNat_lt
      obtain ⟨V1, hV1⟩ : ∃ v, lenB l a (k + 1) = v := ⟨_, rfl⟩
      rw [hV1] at hsn hv2
      have HV := Lib.hid hV1
      clear hV1 hl1
      generalize lenB l a k = V at *
      have hb : bits .or .i64 ((V : Int) * 256) (c.toNat : Int) = (V1 : Int) := by
        have := i64_or_nat (V * 256) c.toNat (by omega) (by omega)
        rw [hor, ← hsn] at this
        rw [← this]; simp
      have HBT := Lib.hid hb
      have e2 : IntKind.i64.wrap ((a : Int) + 1 + (k : Int)) = (a : Int) + 1 + (k : Int) := IntWalk.i64_in _ (by omega)
      clear hb hor hid1
      go_wp2_with fail
      exact ⟨⟨k + 1, by simp, by omega, by rw [HBT.out, HV.out], by first | rfl | trivial⟩, by simp [intOf]; omega⟩
    · obtain rfl : k = m := by omega
      have q1 : decide ((k : Int) < (k : Int)) = false := by simp
      rw [HV.out]
      have hE1 := HE0.out
      clear HE0
      by_cases h3 : c = 0
      · rw [if_pos (.inl h3)] at hE1
        subst hE1
        subst h3
        go_wp2_with fail
        refine bodyPost_ret (results_ct (fn := Tryd.f58) rfl _ _ _ _ rfl (load_own hw0)) rfl ?_
        exact ⟨by simp, hG0⟩
      · have d3 : ((c : Int) == 0) = false := by simp; omega
        by_cases h4 : V < 56
        · rw [if_pos (.inr h4)] at hE1
          subst hE1
          have d4 : decide ((V : Int) < 56) = true := decide_eq_true (by omega)
          have d4' : decide (V < 56) = true := decide_eq_true h4
          clear h3
          go_wp2_with fail
          refine bodyPost_ret (results_ct (fn := Tryd.f58) rfl _ _ _ _ rfl (load_own hw0)) rfl ?_
          exact ⟨by simp, hG0⟩
        · rw [if_neg (by omega)] at hE1
          subst hE1
          have d4 : decide ((V : Int) < 56) = false := decide_eq_false (by omega)
          have d4' : decide (V < 56) = false := decide_eq_false h4
          clear h3
          go_wp2_with fail
          refine bodyPost_ret (results_ct (fn := Tryd.f58) rfl _ _ _ _ rfl (load_own (Blk.new w _ _))) rfl ?_
          exact ⟨by simp, only_alloc (World.grownBy.refl _ _) _⟩
end Go.Proofs.YtdflihfecfmpfaaDoor
