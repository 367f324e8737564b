/- Merged: UnrA, UnrB, UnrCh, UnrC, UnrD, UnrE, UnrF. -/
import Derived.Test.YtagjpbcmhaekpaaDoorMg6
import Derived.Laws.IdiomStrings
import Derived.Deep.MidRow
/- Texts of bytes (for a program without rows of bytes), and the length of a head. -/
namespace Go.Proofs.YtagjpbcmhaekpaaDoor
open Go.RowKit Go.Shelf

theorem take_snoc {α : Type} (xs : List α) (k : Nat) (d : α) (hk : k < xs.length) : xs.take (k + 1) = xs.take k ++ [xs.getD k d] := by
  rw [List.take_succ_eq_append_getElem hk, List.getD_eq_getElem?_getD, List.getElem?_eq_getElem hk]; rfl
theorem at_getD {α : Type} {xs : List α} {k : Nat} (d : α) (hk : k < xs.length) : xs[k]? = some (xs.getD k d) := by
  rw [List.getD_eq_getElem?_getD, List.getElem?_eq_getElem hk]; rfl

/-- the number of bytes, the highest one first -/
def valL (l : List UInt8) : Nat := l.foldl (fun n b => n * 256 + b.toNat) 0
theorem valL_snoc (l : List UInt8) (b : UInt8) : valL (l ++ [b]) = valL l * 256 + b.toNat := by simp [valL]
theorem valL_lt (l : List UInt8) : valL l < 256 ^ l.length := by
  have key : ∀ r : List UInt8, valL r.reverse < 256 ^ r.reverse.length := by
    intro r
    induction r with
    | nil => simp [valL]
    | cons b r ih =>
      rw [List.reverse_cons, valL_snoc, List.length_append, Nat.pow_add]
      have := b.toNat_lt
      simp at *; omega
  have := key l.reverse
  rwa [List.reverse_reverse] at this
theorem or_low (n : Nat) (b : UInt8) : n * 256 ||| b.toNat = n * 256 + b.toNat := by
  have := b.toNat_lt
  rw [show n * 256 = n <<< 8 by rw [Nat.shiftLeft_eq], Nat.shiftLeft_add_eq_or_of_lt (by omega)]

/-- the length in the bytes behind a head -/
def lenB (l : List UInt8) (a m : Nat) : Nat := valL ((l.drop (a + 1)).take m)
def lengthE (l : List UInt8) (a m : Nat) : Int := if 3 < m then 5 else if l.length < a + 1 + m then 3 else if (l.getD (a + 1) 0).toNat = 0 ∨ lenB l a m < 56 then 8 else 0
theorem lenB_lt (l : List UInt8) (a m : Nat) (hm : m ≤ 3) : lenB l a m ≤ 16777215 := by
  unfold lenB
  have h1 := valL_lt ((l.drop (a + 1)).take m)
  have h2 : ((l.drop (a + 1)).take m).length ≤ 3 := by rw [List.length_take]; omega
  have h3 : 256 ^ ((l.drop (a + 1)).take m).length ≤ 256 ^ 3 := Nat.pow_le_pow_right (by omega) h2
  have h4 : (256 : Nat) ^ 3 = 16777216 := rfl
  omega
theorem lenB_succ (l : List UInt8) (a k : Nat) (h : a + 1 + k < l.length) : lenB l a (k + 1) = lenB l a k * 256 + (l.getD (a + 1 + k) 0).toNat := by
  unfold lenB
  rw [take_snoc _ k 0 (by rw [List.length_drop]; omega), valL_snoc]
  congr 2
  rw [List.getD_eq_getElem?_getD, List.getElem?_drop, List.getD_eq_getElem?_getD]

theorem results_ct {P : Program} {fn : Func} {p q : Tmp} {t : TypeId} (h : fn.results = #[.cell p t, .tmp q]) (tmps : Array Value) (w : World) (a : Addr) (x : Value) (hp : tmps.getD p undef = .pointer (some a))
    (hx : (loadVar t a).run P w = .ok x w) : (results fn tmps).run P w = .ok (.tuple #[x, tmps.getD q undef]) w := by
  have hp' : tmps[p]?.getD undef = .pointer (some a) := by simpa using hp
  simp [results, h, hp', asAddr, hx]
theorem load_own {w : World} {g : Nat} {a b c : Value} (hg : Blk w g 100 #[a, b, c]) : (loadVar 100 ⟨g, 0, none⟩).run Tryd.prog w = .ok (.agg #[a, b, c]) w :=
  run_loadVar_row w g 100 100 _ (0, 0) _ hg Tryd.underlying100 rfl (by kernel_rfl)

set_option maxRecDepth 100000 in
set_option maxHeartbeats 2000000 in
theorem length_any (s : ByteArray) (a m : Nat) (ha : a < s.size) (hs : s.size ≤ 9223372036854775807) (hm : 1 ≤ m) (hm8 : m ≤ 8) (w : World) :
    Calls Tryd.prog 60 #[.string s, .int .i64 (a : Int), .int .i64 (m : Int)] w fun e w' => e = .returned (.tuple #[.agg #[.int .i64 (if lengthE s.data.toList a m = 0 then ((a + 1 + m : Nat) : Int) else 0), .int .i64 (if lengthE s.data.toList a m = 0 then ((lenB s.data.toList a m : Nat) : Int) else 0), .bool false], .int .i64 (lengthE s.data.toList a m)]) ∧ w.grownBy w' none := by
  obtain ⟨l, hl⟩ : ∃ l, s.data.toList = l := ⟨_, rfl⟩
  have hlz : l.length = s.size := by rw [← hl, ba_len]
  rw [hl]
  have HS := Lib.hid hl; have HZ := Lib.hid hlz
  clear hl hlz
  have hw0 := Blk.new w 100 #[.int .i64 0, .int .i64 0, .bool false]
  have hG0 : w.grownBy (w.alloc (.cells #[.int .i64 0, .int .i64 0, .bool false] 100)) none := only_alloc (World.grownBy.refl _ _) _
  by_cases h1 : 3 < m
  · have hE : lengthE l a m = 5 := by unfold lengthE; rw [if_pos h1]
    rw [hE]
    have d1 : decide ((3 : Int) < (m : Int)) = true := decide_eq_true (by omega)
    have d1' : decide (3 < m) = true := decide_eq_true h1
    clear hE
    go_enter Tryd.func60, Tryd.ntmps60
    go_wp2_with fail
    refine bodyPost_ret (results_ct (fn := Tryd.f60) rfl _ _ _ _ rfl (load_own hw0)) rfl ?_
    exact ⟨by simp, hG0⟩
  have d1 : decide ((3 : Int) < (m : Int)) = false := decide_eq_false (by omega)
  have d1' : decide (3 < m) = false := decide_eq_false h1
  have v1 : IntKind.i64.wrap ((s.size : Int) - (a : Int)) = (s.size : Int) - (a : Int) := IntWalk.i64_in _ (by omega)
  have v2 : IntKind.i64.wrap ((s.size : Int) - (a : Int) - 1) = (s.size : Int) - (a : Int) - 1 := IntWalk.i64_in _ (by omega)
  by_cases h2 : s.size < a + 1 + m
  · have hE : lengthE l a m = 3 := by unfold lengthE; rw [if_neg h1, if_pos (by have := HZ.out; omega)]
    rw [hE]
    have d2 : decide ((s.size : Int) - (a : Int) - 1 < (m : Int)) = true := decide_eq_true (by omega)
    have d2' : (s.size : Int) - (a : Int) - 1 < (m : Int) := by omega
    clear hE
    go_enter Tryd.func60, Tryd.ntmps60
    go_wp2_with fail
    refine bodyPost_ret (results_ct (fn := Tryd.f60) rfl _ _ _ _ rfl (load_own hw0)) rfl ?_
    exact ⟨by simp, hG0⟩
  have d2 : decide ((s.size : Int) - (a : Int) - 1 < (m : Int)) = false := decide_eq_false (by omega)
  have d2' : ¬ ((s.size : Int) - (a : Int) - 1 < (m : Int)) := by omega
  have hE0 : lengthE l a m = if (l.getD (a + 1) 0).toNat = 0 ∨ lenB l a m < 56 then 8 else 0 := by unfold lengthE; rw [if_neg h1, if_neg (by have := HZ.out; omega)]
  have hl1 : a + 1 < l.length := by have := HZ.out; omega
  have hid1 : ∀ W, (Instr.index 9 (.string s) (.int .i64 ((a : Int) + 1))).run Tryd.prog W = .ok (.int .u8 ((l.getD (a + 1) 0).toNat : Int)) W := fun W => by
    have := idx_str s (a + 1) (l.getD (a + 1) 0) (by rw [HS.out]; exact at_getD 0 hl1) W
    simpa using this
  have hv := lenB_lt l a m (by omega)
  have hcl := (l.getD (a + 1) 0).toNat_lt
  obtain ⟨c, hc⟩ : ∃ c, (l.getD (a + 1) 0).toNat = c := ⟨_, rfl⟩
  obtain ⟨V, hV⟩ : ∃ v, lenB l a m = v := ⟨_, rfl⟩
  rw [hc] at hE0 hcl hid1
  rw [hV] at hE0 hv ⊢
  obtain ⟨E, hE⟩ : ∃ e, lengthE l a m = e := ⟨_, rfl⟩
  rw [hE] at hE0 ⊢
  have HE0 := Lib.hid hE0; have HV := Lib.hid hV
  clear hE0 hE hV hc
  have e1 : IntKind.i64.wrap ((a : Int) + 1) = (a : Int) + 1 := IntWalk.i64_in _ (by omega)
  have e3 : IntKind.i64.wrap ((a : Int) + 1 + (m : Int)) = (a : Int) + 1 + (m : Int) := IntWalk.i64_in _ (by omega)
  go_enter Tryd.func60, Tryd.ntmps60
  go_wp2_with fail
  go_loopw [8, 22] (fun n i wr => ∃ k : Nat, i = .int .i64 (k : Int) ∧ k ≤ m ∧ n = .int .i64 (lenB l a k : Nat) ∧ wr = w.alloc (.cells #[.int .i64 0, .int .i64 0, .bool false] 100)) (fun _ i _ => m - (intOf i).toNat)
  case atStart => exact ⟨0, rfl, by omega, by simp [lenB, valL], by first | rfl | trivial⟩
  case round =>
    obtain ⟨k, rfl, hk, rfl, rfl⟩ := hrel
    by_cases hlt : k < m
    · have hl1 : a + 1 + k < l.length := by have := HZ.out; omega
      have hsn := lenB_succ l a k hl1
      have hid : ∀ W, (Instr.index 9 (.string s) (.int .i64 ((a : Int) + 1 + (k : Int)))).run Tryd.prog W = .ok (.int .u8 ((l.getD (a + 1 + k) 0).toNat : Int)) W := fun W => by
        have := idx_str s (a + 1 + k) (l.getD (a + 1 + k) 0) (by rw [HS.out]; exact at_getD 0 hl1) W
        simpa using this
      have hv := lenB_lt l a k (by omega)
      have hv2 := lenB_lt l a (k + 1) (by omega)
      have hor := or_low (lenB l a k) (l.getD (a + 1 + k) 0)
      generalize l.getD (a + 1 + k) 0 = c at *
      have hcl := c.toNat_lt
      obtain ⟨V1, hV1⟩ : ∃ v, lenB l a (k + 1) = v := ⟨_, rfl⟩
      rw [hV1] at hsn hv2
      have HV := Lib.hid hV1
      clear hV1 hl1
      generalize lenB l a k = V at *
      have hb : bits .or .i64 ((V : Int) * 256) (c.toNat : Int) = (V1 : Int) := by
        have := i64_or_nat (V * 256) c.toNat (by omega) (by omega)
        rw [hor, ← hsn] at this
        rw [← this]; simp
      have HBT := Lib.hid hb
      have e2 : IntKind.i64.wrap ((a : Int) + 1 + (k : Int)) = (a : Int) + 1 + (k : Int) := IntWalk.i64_in _ (by omega)
      clear hb hor hid1
      go_wp2_with fail
      exact ⟨⟨k + 1, by simp, by omega, by rw [HBT.out, HV.out], by first | rfl | trivial⟩, by simp [intOf]; omega⟩
    · obtain rfl : k = m := by omega
      have q1 : decide ((k : Int) < (k : Int)) = false := by simp
      rw [HV.out]
      have hE1 := HE0.out
      clear HE0
      by_cases h3 : c = 0
      · rw [if_pos (.inl h3)] at hE1
        subst hE1
        subst h3
        go_wp2_with fail
        refine bodyPost_ret (results_ct (fn := Tryd.f60) rfl _ _ _ _ rfl (load_own hw0)) rfl ?_
        exact ⟨by simp, hG0⟩
      · have d3 : ((c : Int) == 0) = false := by simp; omega
        by_cases h4 : V < 56
        · rw [if_pos (.inr h4)] at hE1
          subst hE1
          have d4 : decide ((V : Int) < 56) = true := decide_eq_true (by omega)
          have d4' : decide (V < 56) = true := decide_eq_true h4
          clear h3
          go_wp2_with fail
          refine bodyPost_ret (results_ct (fn := Tryd.f60) rfl _ _ _ _ rfl (load_own hw0)) rfl ?_
          exact ⟨by simp, hG0⟩
        · rw [if_neg (by omega)] at hE1
          subst hE1
          have d4 : decide ((V : Int) < 56) = false := decide_eq_false (by omega)
          have d4' : decide (V < 56) = false := decide_eq_false h4
          clear h3
          go_wp2_with fail
          refine bodyPost_ret (results_ct (fn := Tryd.f60) rfl _ _ _ _ rfl (load_own (Blk.new w _ _))) rfl ?_
          exact ⟨by simp, only_alloc (World.grownBy.refl _ _) _⟩
end Go.Proofs.YtagjpbcmhaekpaaDoor
/- What a head tells (look). -/
namespace Go.Proofs.YtagjpbcmhaekpaaDoor
open Go.RowKit Go.Shelf

def headC (l : List UInt8) (a : Nat) : Nat := (l.getD a 0).toNat
/-- a head, whatever stands behind it: what is wrong, where its own begins, how much it is -/
def rawE (l : List UInt8) (a : Nat) : Int := if headC l a < 128 then 0 else if (headC l a - 128) % 64 < 56 then 0 else lengthE l a ((headC l a - 128) % 64 - 55)
def rawFrom (l : List UInt8) (a : Nat) : Nat := if headC l a < 128 then a else if (headC l a - 128) % 64 < 56 then a + 1 else a + 1 + ((headC l a - 128) % 64 - 55)
def rawN (l : List UInt8) (a : Nat) : Nat := if headC l a < 128 then 1 else if (headC l a - 128) % 64 < 56 then (headC l a - 128) % 64 else lenB l a ((headC l a - 128) % 64 - 55)
/-- what is wrong with the head at a place -/
def lookE (l : List UInt8) (i : Int) : Int :=
  if i < 0 ∨ (l.length : Int) < i then 1 else if i = l.length then 3 else if rawE l i.toNat ≠ 0 then rawE l i.toNat else
  if l.length < rawFrom l i.toNat + rawN l i.toNat then 3 else if headC l i.toNat = 129 ∧ headC l (i.toNat + 1) < 128 then 8 else 0
def lookFrom (l : List UInt8) (i : Int) : Nat := if lookE l i = 0 then rawFrom l i.toNat else 0
def lookN (l : List UInt8) (i : Int) : Nat := if lookE l i = 0 then rawN l i.toNat else 0
def lookL (l : List UInt8) (i : Int) : Bool := if lookE l i = 0 then decide (192 ≤ headC l i.toNat) else false

theorem look_bad {l : List UInt8} {i e : Int} (h : lookE l i = e) (h0 : e ≠ 0) : lookFrom l i = 0 ∧ lookN l i = 0 ∧ lookL l i = false := by
  subst h
  exact ⟨if_neg h0, if_neg h0, if_neg h0⟩
theorem headC_lt (l : List UInt8) (a : Nat) : headC l a < 256 := by unfold headC; exact (l.getD a 0).toNat_lt
theorem only_weak {a w : World} (h : a.grownBy w none) (row : Option Nat) : a.grownBy w row := ⟨h.os, h.tape, h.output, h.size, fun i hi _ => h.block i hi (by simp)⟩
theorem rawFrom_le {l : List UInt8} {a : Nat} (ha : a < l.length) (h : rawE l a = 0) : rawFrom l a ≤ l.length ∧ a ≤ rawFrom l a ∧ rawFrom l a ≤ a + 4 ∧ a < rawFrom l a + rawN l a ∧ rawN l a ≤ 16777215 := by
  unfold rawE at h
  unfold rawFrom rawN
  split at h
  · rename_i h1; rw [if_pos h1, if_pos h1]; omega
  · rename_i h1
    rw [if_neg h1, if_neg h1]
    split at h
    · rename_i h2; rw [if_pos h2, if_pos h2]; have := headC_lt l a; omega
    · rename_i h2
      rw [if_neg h2, if_neg h2]
      unfold lengthE at h
      split at h
      · cases h
      · rename_i h3
        split at h
        · cases h
        · have := lenB_lt l a ((headC l a - 128) % 64 - 55) (by omega)
          omega

theorem look_ok {l : List UInt8} {a : Nat} (h : lookE l (a : Int) = 0) : a < l.length ∧ lookFrom l (a : Int) + lookN l (a : Int) ≤ l.length ∧ a ≤ lookFrom l (a : Int) ∧ a < lookFrom l (a : Int) + lookN l (a : Int) ∧ lookFrom l (a : Int) ≤ a + 4 ∧ lookL l (a : Int) = decide (192 ≤ headC l a) := by
  have h1 : lookFrom l (a : Int) = rawFrom l a := by unfold lookFrom; rw [if_pos h, Int.toNat_natCast]
  have h2 : lookN l (a : Int) = rawN l a := by unfold lookN; rw [if_pos h, Int.toNat_natCast]
  have h3 : lookL l (a : Int) = decide (192 ≤ headC l a) := by unfold lookL; rw [if_pos h, Int.toNat_natCast]
  rw [h1, h2, h3]
  unfold lookE at h
  split at h
  · cases h
  rename_i g1
  split at h
  · cases h
  rename_i g2
  rw [Int.toNat_natCast] at h
  split at h
  · rename_i g3; exact absurd h g3
  rename_i g3
  split at h
  · cases h
  have := rawFrom_le (l := l) (a := a) (by omega) (by omega)
  exact ⟨by omega, by omega, by omega, by omega, by omega, rfl⟩
theorem blk_set3 {w : World} {g : Nat} {t : TypeId} {a b c : Value} (h : Blk w g t #[a, b, c]) (x y z : Value) : Blk (((w.setCell ⟨g, 0, none⟩ x).setCell ⟨g, 1, none⟩ y).setCell ⟨g, 2, none⟩ z) g t #[x, y, z] := by
  have := ((h.set_ 0 x).set_ 1 y).set_ 2 z
  simpa using this
theorem only_set3 {a w : World} {row : Option Nat} (h : a.grownBy w row) {g : Nat} (hg : a.heap.size ≤ g) (x y z : Value) : a.grownBy (((w.setCell ⟨g, 0, none⟩ x).setCell ⟨g, 1, none⟩ y).setCell ⟨g, 2, none⟩ z) row :=
  only_set (only_set (only_set h (p := ⟨g, 0, none⟩) hg x) (p := ⟨g, 1, none⟩) hg y) (p := ⟨g, 2, none⟩) hg z

set_option maxRecDepth 100000 in
set_option maxHeartbeats 4000000 in
theorem look_any (s : ByteArray) (i : Int) (hs : s.size ≤ 9223372036854770000) (w : World) :
    Calls Tryd.prog 51 #[.string s, .int .i64 i] w fun e w' => e = .returned (.tuple #[.agg #[.int .i64 (lookFrom s.data.toList i : Nat), .int .i64 (lookN s.data.toList i : Nat), .bool (lookL s.data.toList i)], .int .i64 (lookE s.data.toList i)]) ∧ w.grownBy w' none := by
  obtain ⟨l, hl⟩ : ∃ l, s.data.toList = l := ⟨_, rfl⟩
  have hlz : l.length = s.size := by rw [← hl, ba_len]
  have hlen := fun a m h1 h2 h3 W => length_any s a m h1 (by omega) h2 h3 W
  rw [hl] at hlen ⊢
  have HS := Lib.hid hl; have HZ := Lib.hid hlz
  clear hl
  have hw0 := Blk.new w 100 #[.int .i64 0, .int .i64 0, .bool false]
  have hG0 : w.grownBy (w.alloc (.cells #[.int .i64 0, .int .i64 0, .bool false] 100)) none := only_alloc (World.grownBy.refl _ _) _
  by_cases h1 : i < 0 ∨ (s.size : Int) < i
  · have hE : lookE l i = 1 := by unfold lookE; rw [if_pos (by rw [hlz]; exact h1)]
    obtain ⟨b1, b2, b3⟩ := look_bad hE (by decide)
    rw [hE, b1, b2, b3]
    clear hE b1 b2 b3 hlz hlen
    by_cases h2 : i < 0
    · clear h1
      go_enter Tryd.func51, Tryd.ntmps51
      go_wp2_with fail
      refine bodyPost_ret (results_ct (fn := Tryd.f51) rfl _ _ _ _ rfl (load_own hw0)) rfl ?_
      exact ⟨by simp, hG0⟩
    · have d1 : decide (i < 0) = false := decide_eq_false h2
      have h3 : (s.size : Int) < i := by omega
      clear h1 h2
      go_enter Tryd.func51, Tryd.ntmps51
      go_wp2_with fail
      refine bodyPost_ret (results_ct (fn := Tryd.f51) rfl _ _ _ _ rfl (load_own hw0)) rfl ?_
      exact ⟨by simp, hG0⟩
  obtain ⟨a, rfl⟩ := Int.eq_ofNat_of_zero_le (show 0 ≤ i by omega)
  have ha : a ≤ s.size := by omega
  have d1 : decide ((a : Int) < 0) = false := decide_eq_false (by omega)
  have d1' : decide ((s.size : Int) < (a : Int)) = false := decide_eq_false (by omega)
  have d1'' : decide (s.size < a) = false := decide_eq_false (by omega)
  by_cases h2 : a = s.size
  · have hE : lookE l (a : Int) = 3 := by unfold lookE; rw [if_neg (by rw [hlz]; exact h1), if_pos (by omega)]
    obtain ⟨b1, b2, b3⟩ := look_bad hE (by decide)
    rw [hE, b1, b2, b3]
    clear hE b1 b2 b3 hlz hlen h1
    subst h2
    go_enter Tryd.func51, Tryd.ntmps51
    go_wp2_with fail
    refine bodyPost_ret (results_ct (fn := Tryd.f51) rfl _ _ _ _ rfl (load_own hw0)) rfl ?_
    exact ⟨by simp, hG0⟩
  have hal : a < l.length := by omega
  have d2 : ((a : Int) == (s.size : Int)) = false := by simp; omega
  have d2' : (a == s.size) = false := by simp; omega
  have hE0 : lookE l (a : Int) = if rawE l a ≠ 0 then rawE l a else if l.length < rawFrom l a + rawN l a then 3 else if headC l a = 129 ∧ headC l (a + 1) < 128 then 8 else 0 := by
    unfold lookE; rw [if_neg (by rw [hlz]; exact h1), if_neg (by omega), Int.toNat_natCast]
  have hid := fun W => idx_str s a (l.getD a 0) (by rw [HS.out]; exact at_getD 0 hal) W
  have hcl := headC_lt l a
  have hrle := rawFrom_le hal
  have hfr : lookE l (a : Int) = 0 → lookFrom l (a : Int) = rawFrom l a ∧ lookN l (a : Int) = rawN l a ∧ lookL l (a : Int) = decide (192 ≤ headC l a) := fun h => by
    unfold lookFrom lookN lookL
    rw [if_pos h, if_pos h, if_pos h, Int.toNat_natCast]
    exact ⟨rfl, rfl, rfl⟩
  have hcE : rawE l a = if headC l a < 128 then 0 else if (headC l a - 128) % 64 < 56 then 0 else lengthE l a ((headC l a - 128) % 64 - 55) := rfl
  have hcF : rawFrom l a = if headC l a < 128 then a else if (headC l a - 128) % 64 < 56 then a + 1 else a + 1 + ((headC l a - 128) % 64 - 55) := rfl
  have hcN : rawN l a = if headC l a < 128 then 1 else if (headC l a - 128) % 64 < 56 then (headC l a - 128) % 64 else lenB l a ((headC l a - 128) % 64 - 55) := rfl
  change ∀ W, (Instr.index 9 (.string s) (.int .i64 (a : Int))).run Tryd.prog W = .ok (.int .u8 ((headC l a : Nat) : Int)) W at hid
  obtain ⟨c, hc⟩ : ∃ c, headC l a = c := ⟨_, rfl⟩
  rw [hc] at hid hcl hfr hcE hcF hcN hE0
  obtain ⟨E, hE⟩ : ∃ e, lookE l (a : Int) = e := ⟨_, rfl⟩
  obtain ⟨F, hF⟩ : ∃ e, lookFrom l (a : Int) = e := ⟨_, rfl⟩
  obtain ⟨N, hN⟩ : ∃ e, lookN l (a : Int) = e := ⟨_, rfl⟩
  obtain ⟨L, hL⟩ : ∃ e, lookL l (a : Int) = e := ⟨_, rfl⟩
  have hbad := fun e (h : lookE l (a : Int) = e) h0 => look_bad h h0
  rw [hF, hN, hL] at hbad hfr
  rw [hE] at hE0 hfr hbad
  rw [hE, hF, hN, hL]
  clear hF hN hL hE hc
  have HBAD := Lib.hid hbad; have HFR := Lib.hid hfr; have HE0 := Lib.hid hE0; have HR := Lib.hid hrle
  clear hbad hfr hE0 hrle h1 h2
  by_cases h3 : c < 128
  · rw [if_pos h3] at hcE hcF hcN
    have hE : E = 0 := by rw [HE0.out, hcE, hcF, hcN, if_neg (by simp), if_neg (by omega), if_neg (by omega)]
    obtain ⟨rfl, rfl, rfl⟩ := HFR.out hE
    rw [hcF, hcN, decide_eq_false (by omega)]
    subst hE
    have d3 : decide ((c : Int) < 128) = true := decide_eq_true (by omega)
    have d3' : decide (c < 128) = true := decide_eq_true h3
    clear hcE hcF hcN hlen hlz h3
    go_enter Tryd.func51, Tryd.ntmps51
    go_wp2_with fail
    refine bodyPost_ret (results_ct (fn := Tryd.f51) rfl _ _ _ _ rfl (load_own (Blk.new w _ _))) rfl ?_
    exact ⟨by simp, only_alloc (World.grownBy.refl _ _) _⟩
  rw [if_neg h3] at hcE hcF hcN
  have d3 : decide ((c : Int) < 128) = false := decide_eq_false (by omega)
  have d3' : decide (c < 128) = false := decide_eq_false h3
  obtain ⟨b, hb⟩ : ∃ b, (c - 128) % 64 = b := ⟨_, rfl⟩
  have hb64 : b < 64 := by omega
  have v0 : IntKind.i64.wrap (c : Int) = (c : Int) := IntWalk.i64_in _ (by omega)
  have v1 : IntKind.i64.wrap ((c : Int) - 128) = (c : Int) - 128 := IntWalk.i64_in _ (by omega)
  have v2 : ((c : Int) - 128).tmod 64 = (b : Int) := by rw [Int.tmod_eq_emod_of_nonneg (by omega)]; omega
  have v3 : ((c : Int) - 128) % 64 = (b : Int) := by omega
  have v4 : IntKind.i64.wrap (b : Int) = (b : Int) := IntWalk.i64_in _ (by omega)
  have v5 : IntKind.i64.wrap ((a : Int) + 1) = (a : Int) + 1 := IntWalk.i64_in _ (by omega)
  rw [hb] at hcE hcF hcN
  by_cases h4 : b < 56
  · rw [if_pos h4] at hcE hcF hcN
    have d4 : decide ((56 : Int) ≤ (b : Int)) = false := decide_eq_false (by omega)
    have d4' : decide (56 ≤ b) = false := decide_eq_false (by omega)
    have v6 : IntKind.i64.wrap ((s.size : Int) - ((a : Int) + 1)) = (s.size : Int) - ((a : Int) + 1) := IntWalk.i64_in _ (by omega)
    by_cases h5 : l.length < a + 1 + b
    · have hE : E = 3 := by rw [HE0.out, hcE, hcF, hcN, if_neg (by simp), if_pos h5]
      obtain ⟨rfl, rfl, rfl⟩ := HBAD.out _ rfl (by rw [hE]; decide)
      subst hE
      have d5 : decide ((s.size : Int) - ((a : Int) + 1) < (b : Int)) = true := decide_eq_true (by omega)
      have d5' : (s.size : Int) - ((a : Int) + 1) < (b : Int) := by omega
      clear hcE hcF hcN hlen hlz h3 h4 h5
      go_enter Tryd.func51, Tryd.ntmps51
      go_wp2_with fail
      refine bodyPost_ret (results_ct (fn := Tryd.f51) rfl _ _ _ _ rfl (load_own (hw0.alloc _))) rfl ?_
      exact ⟨by simp, only_alloc hG0 _⟩
    · have d5 : decide ((s.size : Int) - ((a : Int) + 1) < (b : Int)) = false := decide_eq_false (by omega)
      have d5' : ¬ ((s.size : Int) - ((a : Int) + 1) < (b : Int)) := by omega
      have hE1 : E = if c = 129 ∧ headC l (a + 1) < 128 then 8 else 0 := by rw [HE0.out, hcE, hcF, hcN, if_neg (by simp), if_neg h5]
      by_cases h6 : c = 129
      · have hl1 : a + 1 < l.length := by omega
        have hid1 : ∀ W, (Instr.index 9 (.string s) (.int .i64 ((a : Int) + 1))).run Tryd.prog W = .ok (.int .u8 ((headC l (a + 1) : Nat) : Int)) W := fun W => by
          have := idx_str s (a + 1) (l.getD (a + 1) 0) (by rw [HS.out]; exact at_getD 0 hl1) W
          exact this
        generalize headC l (a + 1) = c1 at *
        obtain rfl : b = 1 := by omega
        by_cases h7 : c1 < 128
        · have hE : E = 8 := by rw [hE1, if_pos ⟨h6, h7⟩]
          obtain ⟨rfl, rfl, rfl⟩ := HBAD.out _ rfl (by rw [hE]; decide)
          subst hE; subst h6
          have d7 : decide ((c1 : Int) < 128) = true := decide_eq_true (by omega)
          have d7' : decide (c1 < 128) = true := decide_eq_true h7
          clear hcE hcF hcN hlen hlz h3 h4 h5 hE1 h7 hb
          go_enter Tryd.func51, Tryd.ntmps51
          go_wp2_with fail
          refine bodyPost_ret (results_ct (fn := Tryd.f51) rfl _ _ _ _ rfl (load_own (hw0.alloc _))) rfl ?_
          exact ⟨by simp, only_alloc hG0 _⟩
        · have hE : E = 0 := by rw [hE1, if_neg (by omega)]
          obtain ⟨rfl, rfl, rfl⟩ := HFR.out hE
          rw [hcF, hcN, decide_eq_false (by omega)]
          subst hE; subst h6
          have d7 : decide ((c1 : Int) < 128) = false := decide_eq_false (by omega)
          have d7' : decide (c1 < 128) = false := decide_eq_false h7
          clear hcE hcF hcN hlen hlz h3 h4 h5 hE1 h7 hb
          go_enter Tryd.func51, Tryd.ntmps51
          go_wp2_with fail
          refine bodyPost_ret (results_ct (fn := Tryd.f51) rfl _ _ _ _ rfl (load_own ((Blk.new w _ _).alloc _))) rfl ?_
          exact ⟨by simp, only_alloc (only_alloc (World.grownBy.refl _ _) _) _⟩
      · have hE : E = 0 := by rw [hE1, if_neg (by omega)]
        obtain ⟨rfl, rfl, rfl⟩ := HFR.out hE
        rw [hcF, hcN]
        subst hE
        have d6 : ((c : Int) == 129) = false := by simp; omega
        have d6' : (c == 129) = false := by simpa using h6
        obtain ⟨L0, hL0⟩ : ∃ x, decide (192 ≤ c) = x := ⟨_, rfl⟩
        have d8 : decide ((192 : Int) ≤ (c : Int)) = L0 := by rw [← hL0]; apply decide_eq_decide.2; omega
        rw [hL0]
        clear hcE hcF hcN hlen hlz h3 h4 h5 hE1 h6 hb
        go_enter Tryd.func51, Tryd.ntmps51
        go_wp2_with fail
        refine bodyPost_ret (results_ct (fn := Tryd.f51) rfl _ _ _ _ rfl (load_own ((Blk.new w _ _).alloc _))) rfl ?_
        exact ⟨by simp, only_alloc (only_alloc (World.grownBy.refl _ _) _) _⟩
  · rw [if_neg h4] at hcE hcF hcN
    have d4 : decide ((56 : Int) ≤ (b : Int)) = true := decide_eq_true (by omega)
    have d4' : decide (56 ≤ b) = true := decide_eq_true (by omega)
    obtain ⟨m, hm⟩ : ∃ m, b - 55 = m := ⟨_, rfl⟩
    have v7 : IntKind.i64.wrap ((b : Int) - 56) = (b : Int) - 56 := IntWalk.i64_in _ (by omega)
    have v8 : IntKind.i64.wrap ((b : Int) - 56 + 1) = (m : Int) := by rw [IntWalk.i64_in _ (by omega)]; omega
    have v9 : (b : Int) - 56 + 1 = (m : Int) := by omega
    have v10 : IntKind.i64.wrap (m : Int) = (m : Int) := IntWalk.i64_in _ (by omega)
    have d6 : ((c : Int) == 129) = false := by simp; omega
    have d6' : (c == 129) = false := by simp; omega
    have h6 : ¬ c = 129 := by omega
    rw [hm] at hcE hcF hcN
    have hl := hlen a m (by omega) (by omega) (by omega)
    have hlb := lenB_lt l a m
    have hlE : lengthE l a m = 0 → m ≤ 3 ∧ a + 1 + m ≤ l.length := fun h => by
      unfold lengthE at h
      split at h
      · cases h
      · split at h
        · cases h
        · omega
    generalize lengthE l a m = e0 at *
    generalize lenB l a m = V at *
    have HLB := Lib.hid hlb; have HLE := Lib.hid hlE
    clear hlen hlb hlE
    have hx0 := hw0.alloc (.cells #[.int .i64 ((a : Int) + 1), .int .i64 (b : Int), .bool false] 100)
    have hx1 := Blk.new (w.alloc (.cells #[.int .i64 0, .int .i64 0, .bool false] 100)) 100 #[.int .i64 ((a : Int) + 1), .int .i64 (b : Int), .bool false]
    rw [World.size_alloc] at hx1
    have hG1 : w.grownBy ((w.alloc (.cells #[.int .i64 0, .int .i64 0, .bool false] 100)).alloc (.cells #[.int .i64 ((a : Int) + 1), .int .i64 (b : Int), .bool false] 100)) none := only_alloc hG0 _
    clear h3 h4 hb hm
    go_enter Tryd.func51, Tryd.ntmps51
    go_wp2_with fail
    refine (hl _).mono ?_
    rintro e w2 ⟨rfl, hg⟩
    have y0 := hx0.grown hg (by simp)
    have y1 := hx1.grown hg (by simp)
    have hG2 := only_weak (grown_self hG1 hg (by simp)) none
    clear hl hx0 hx1 hG0 hG1 hg hw0
    have k0 := y0.cell 0; have k1 := y0.cell 1; have k2 := y0.cell 2
    have j0 := y1.cell 0; have j1 := y1.cell 1; have j2 := y1.cell 2
    have f0 := y0.frozen 0; have f1 := y0.frozen 1; have f2 := y0.frozen 2
    have g0 := y1.frozen 0; have g1 := y1.frozen 1; have g2 := y1.frozen 2
    simp only [List.getElem?_toArray, List.getElem?_cons_zero, List.getElem?_cons_succ] at k0 k1 k2 j0 j1 j2
    by_cases h7 : e0 = 0
    · subst h7
      simp only [if_true]
      obtain ⟨hm3, hml⟩ := HLE.out rfl
      have hV := HLB.out hm3
      have w2' : IntKind.i64.wrap ((s.size : Int) - ((a : Int) + 1 + (m : Int))) = (s.size : Int) - ((a : Int) + 1 + (m : Int)) := IntWalk.i64_in _ (by omega)
      by_cases h8 : l.length < a + 1 + m + V
      · have hE : E = 3 := by rw [HE0.out, hcE, hcF, hcN, if_neg (by simp), if_pos h8]
        obtain ⟨rfl, rfl, rfl⟩ := HBAD.out _ rfl (by rw [hE]; decide)
        subst hE
        have d5' : (s.size : Int) - ((a : Int) + 1 + (m : Int)) < (V : Int) := by omega
        clear hcE hcF hcN hlz h6 h8
        have y2 := blk_set3 y1 (.int .i64 ((a : Int) + 1 + (m : Int))) (.int .i64 (V : Int)) (.bool false)
        have hG3 := only_set3 hG2 (g := w.heap.size + 1) (by omega) (.int .i64 ((a : Int) + 1 + (m : Int))) (.int .i64 (V : Int)) (.bool false)
        have y3 : Blk (((w2.setCell ⟨w.heap.size + 1, 0, none⟩ (.int .i64 ((a : Int) + 1 + (m : Int)))).setCell ⟨w.heap.size + 1, 1, none⟩ (.int .i64 (V : Int))).setCell ⟨w.heap.size + 1, 2, none⟩ (.bool false)) w.heap.size 100 #[.int .i64 0, .int .i64 0, .bool false] := ((y0.far (p := ⟨w.heap.size + 1, 0, none⟩) (by simp) _).far (p := ⟨w.heap.size + 1, 1, none⟩) (by simp) _).far (p := ⟨w.heap.size + 1, 2, none⟩) (by simp) _
        go_wp2_with fail
        refine bodyPost_ret (results_ct (fn := Tryd.f51) rfl _ _ _ _ rfl (load_own (blk_set3 y3 _ _ _))) rfl ?_
        exact ⟨by simp, only_set3 hG3 (Nat.le_refl _) _ _ _⟩
      · have hE : E = 0 := by rw [HE0.out, hcE, hcF, hcN, if_neg (by simp), if_neg h8, if_neg (by omega)]
        obtain ⟨hF1, hF2, hF3⟩ := HFR.out hE
        rw [hcF] at hF1
        rw [hcN] at hF2
        subst hF1; subst hF2; subst hE
        have d5' : ¬ ((s.size : Int) - ((a : Int) + 1 + (m : Int)) < (N : Int)) := by omega
        have d5 : decide ((s.size : Int) - ((a : Int) + 1 + (m : Int)) < (N : Int)) = false := decide_eq_false d5'
        obtain ⟨L0, hL0⟩ : ∃ x, decide (192 ≤ c) = x := ⟨_, rfl⟩
        have d8 : decide ((192 : Int) ≤ (c : Int)) = L0 := by rw [← hL0]; apply decide_eq_decide.2; omega
        rw [hL0] at hF3
        subst hF3
        clear hcE hcF hcN hlz h6 h8
        have y2 := (blk_set3 y1 (.int .i64 ((a : Int) + 1 + (m : Int))) (.int .i64 (N : Int)) (.bool false)).set_ 2 (.bool L)
        have hG3 := only_set (only_set3 hG2 (g := w.heap.size + 1) (by omega) (.int .i64 ((a : Int) + 1 + (m : Int))) (.int .i64 (N : Int)) (.bool false)) (p := ⟨w.heap.size + 1, 2, none⟩) (by simp) (.bool L)
        have y3 := (((y0.far (p := ⟨w.heap.size + 1, 0, none⟩) (by simp) (.int .i64 ((a : Int) + 1 + (m : Int)))).far (p := ⟨w.heap.size + 1, 1, none⟩) (by simp) (.int .i64 (N : Int))).far (p := ⟨w.heap.size + 1, 2, none⟩) (by simp) (.bool false)).far (p := ⟨w.heap.size + 1, 2, none⟩) (by simp) (.bool L)
        have hld := load_own y2
        have i0 := y2.cell 0; have i1 := y2.cell 1; have i2 := y2.cell 2
        have h0 := y3.cell 0; have h1 := y3.cell 1; have h2 := y3.cell 2
        have q0 := y3.frozen 0; have q1 := y3.frozen 1; have q2 := y3.frozen 2
        simp only [List.setIfInBounds_toArray, List.set_cons_zero, List.set_cons_succ, List.getElem?_toArray, List.getElem?_cons_zero, List.getElem?_cons_succ] at i0 i1 i2 h0 h1 h2 hld
        go_wp2_with fail
        refine bodyPost_ret (results_ct (fn := Tryd.f51) rfl _ _ _ _ rfl (load_own (blk_set3 y3 _ _ _))) rfl ?_
        exact ⟨by simp, only_set3 hG3 (Nat.le_refl _) _ _ _⟩
    · have hE : E = e0 := by rw [HE0.out, hcE, if_pos h7]
      obtain ⟨rfl, rfl, rfl⟩ := HBAD.out _ rfl (by rw [hE]; exact h7)
      subst hE
      have d9 : (E != 0) = true := by simpa using h7
      have h7' := Lib.hid h7
      clear hcE hcF hcN hlz h6
      simp only [if_neg h7]
      clear h7
      have y3 := ((y0.far (p := ⟨w.heap.size + 1, 0, none⟩) (by simp) (.int .i64 0)).far (p := ⟨w.heap.size + 1, 1, none⟩) (by simp) (.int .i64 0)).far (p := ⟨w.heap.size + 1, 2, none⟩) (by simp) (.bool false)
      have hG3 := only_set3 hG2 (g := w.heap.size + 1) (by omega) (.int .i64 0) (.int .i64 0) (.bool false)
      go_wp2_with fail
      refine bodyPost_ret (results_ct (fn := Tryd.f51) rfl _ _ _ _ rfl (load_own (blk_set3 y3 _ _ _))) rfl ?_
      exact ⟨by simp, only_set3 hG3 (Nat.le_refl _) _ _ _⟩
end Go.Proofs.YtagjpbcmhaekpaaDoor
/- Head. -/
namespace Go.Proofs.YtagjpbcmhaekpaaDoor
open Go.RowKit Go.Shelf

end Go.Proofs.YtagjpbcmhaekpaaDoor
/- Next. -/
namespace Go.Proofs.YtagjpbcmhaekpaaDoor
open Go.RowKit Go.Shelf

end Go.Proofs.YtagjpbcmhaekpaaDoor
/- The iterator of places: a yield, and then a call that reads, in turns. -/
namespace Go.Proofs.YtagjpbcmhaekpaaDoor
open Go.RowKit Go.Shelf
attribute [local go_sem] Oper.semAt_some

/-- what the iterator finds in its boxes -/
structure PlBoxes (pf pe pr rf : Nat) (caps : Array Value) (en p : Int) (W : World) : Prop where
  from_ : Boxed W pf 3 (.int .i64 p)
  end_ : Boxed W pe 3 (.int .i64 en)
  read_ : Boxed W pr 113 (.func (.func rf) #[] caps)

set_option maxRecDepth 100000 in
set_option maxHeartbeats 1000000 in
theorem places_in (n : Nat) (hn : 1 ≤ n) (l pf pe pr rf : Nat) (caps : Array Value) (en p0 : Int) (M : Nat) (hM : M ≤ 1000000) (J J2 : Nat → Int → World → Prop) (Jx : World → Prop)
    (hJ : ∀ i p W, J i p W → PlBoxes pf pe pr rf caps en p W ∧ i ≤ M) (hJ2 : ∀ i p W, J2 i p W → PlBoxes pf pe pr rf caps en p W ∧ i < M)
    (hent : ∀ args W, (callFunc rf args).run Tryd.prog W = .ok (.enter rf args) W)
    (hY : ∀ i p W, J i p W → p < en → YieldAt Fence.wide (n - 1) Tryd.prog l #[.int .i64 (i : Int), .int .i64 p] W fun e W' => (e = .returned (.bool true) ∧ J2 i p W') ∨ (e = .returned (.bool false) ∧ Jx W'))
    (hR : ∀ i p W, J2 i p W → CallsIn Fence.wide (n - 1) Tryd.prog rf (#[.int .i64 p] ++ caps) W fun e W' => ∃ p', e = .returned (.int .i64 p') ∧ Boxed W' pf 3 (.int .i64 p) ∧ J (i + 1) p' (W'.setCell ⟨pf, 0, none⟩ (.int .i64 p')))
    (W : World) (h0 : J 0 p0 W) :
    CallsIn Fence.wide n Tryd.prog 73 #[.func (.yield l) #[] #[], .pointer (some ⟨pf, 0, none⟩), .pointer (some ⟨pe, 0, none⟩), .pointer (some ⟨pr, 0, none⟩)] W fun e W' => (∃ v, e = .returned v) ∧
      ((∃ i p, ¬ p < en ∧ J i p W') ∨ Jx W') := by
  refine callsIn_of_wp Tryd.func73 rfl trivial ?_ rfl
  simp only [Tryd.ntmps73, List.size_toArray, List.length_cons, List.length_nil, Nat.reduceAdd, Nat.reduceSub, Array.replicate_succ, Array.replicate_zero, List.push_toArray, List.append_toArray, List.nil_append, List.cons_append]
  gi_wp2
  gi_loopw [5] (fun i wr => ∃ (k : Nat) (p : Int), i = .int .i64 (k : Int) ∧ J k p wr) (fun i _ => M + 1 - (intOf i).toNat)
  case atStart => exact ⟨0, p0, rfl, h0⟩
  case round =>
    obtain ⟨k, p, rfl, hJk⟩ := hrel
    obtain ⟨⟨b1, b2, b3⟩, hkM⟩ := hJ k p wr hJk
    have c1 := b1.cell; have c2 := b2.cell; have c3 := b3.cell
    by_cases hlt : p < en
    · obtain ⟨fn, tmps, assign, body, hy, hRr⟩ := hY k p wr hJk hlt
      clear b1 b2 b3
      gi_wp2
      refine hRr.mono ?_
      rintro e' W3 (⟨rfl, hJ3⟩ | ⟨rfl, hJx3⟩)
      · obtain ⟨⟨b1, b2, b3⟩, hkM3⟩ := hJ2 k p W3 hJ3
        have hread := hR k p W3 hJ3
        clear c1 c2 c3 hy hRr
        have c1 := b1.cell; have c3 := b3.cell
        gi_wp2
        refine ⟨trivial, hread.mono ?_⟩
        rintro e w4 ⟨p', rfl, bx, hJ4⟩
        clear c1 c3 b1 b2 b3 hread
        have c1 := bx.cell; have f1 := bx.frozen
        gi_wp2
        exact ⟨⟨k + 1, p', by simp, hJ4⟩, by simp [intOf]; omega⟩
      · clear hy hRr c1 c2 c3
        gi_wp2
        refine bodyPost_ret (results_none rfl _ _ _) rfl ?_
        exact ⟨⟨_, rfl⟩, .inr hJx3⟩
    · have d1 : decide (p < en) = false := decide_eq_false hlt
      have hl := Lib.hid hlt
      clear hlt b1 b2 b3
      gi_wp2
      go_end0
      exact ⟨⟨_, rfl⟩, .inl ⟨k, p, hl.out, hJk⟩⟩
end Go.Proofs.YtagjpbcmhaekpaaDoor
/- A range over the iterator of places. -/
namespace Go.Proofs.YtagjpbcmhaekpaaDoor
open Go.RowKit Go.Shelf

/-- a body's word -/
def bodyP (B : Nat) (I2 : World → Prop) (Ix : Code → World → Prop) (W : World) : Exit → Act → World → Prop
  | .normal, _, W' => KeepsFrom B W W' ∧ I2 W'
  | .ret, _, W' => KeepsFrom B W W' ∧ Ix .ret W'
  | .exit id, _, W' => KeepsFrom B W W' ∧ Ix (.exit id) W'
  | .goto t, _, W' => KeepsFrom B W W' ∧ Ix (.goto t) W'
  | .panic _, _, _ => False
  | .outgrown, _, _ => False

theorem range_places {n : Nat} {g : Operand} {ps : Array Tmp} {assign body : Code} {Q : Exit → Act → World → Prop} {a : Act} {w : World} (pf pe pr rf : Nat) (caps : Array Value) (en p0 : Int) (M : Nat) (hM : M ≤ 1000000)
    (h1 : 2 ≤ n) (hg : a.eval g = .func (.func 73) #[] #[.pointer (some ⟨pf, 0, none⟩), .pointer (some ⟨pe, 0, none⟩), .pointer (some ⟨pr, 0, none⟩)])
    (eg : ∀ args w, (callFunc 73 args).run Tryd.prog w = .ok (.enter 73 args) w) (hent : ∀ args W, (callFunc rf args).run Tryd.prog W = .ok (.enter rf args) W) (hps : ps.size = 2)
    (I I2 : Nat → Int → World → Prop) (Ix : Code → World → Prop) (hpf : pf < w.heap.size)
    (hI : OwnFrom w.heap.size (fun (s : Nat × Int) => I s.1 s.2)) (hI2 : OwnFrom w.heap.size (fun (s : Nat × Int) => I2 s.1 s.2)) (hIx : ∀ c, OwnFrom w.heap.size (fun (_ : Unit) => Ix c))
    (hbI : ∀ i p W, I i p W → PlBoxes pf pe pr rf caps en p W ∧ i ≤ M) (hbI2 : ∀ i p W, I2 i p W → PlBoxes pf pe pr rf caps en p W ∧ i < M) (h0 : I 0 p0 w) (Ax : Nat → Int → Act → Prop)
    (hassign : ∀ (l i : Nat) (p : Int) (W : World) (K : Act → World → Prop), I i p W → (∀ a', Ax i p a' → K a' W) → assign.wpIn (Fence.wide.inRound l) (n - 1 - 1) Tryd.prog (Exit.then K (fun _ _ _ => False)) { tmps := (ps.zip #[.int .i64 (i : Int), .int .i64 p]).foldl (fun t (p, v) => t.setIfInBounds p v) a.tmps, defers := [] } W)
    (hbody : ∀ (l i : Nat) (p : Int) (a' : Act) (W : World), I i p W → p < en → Ax i p a' → body.wpIn (Fence.wide.inRound l) (n - 1 - 1) Tryd.prog (bodyP w.heap.size (I2 i p) Ix W) a' W)
    (hread : ∀ i p W, I2 i p W → CallsIn Fence.wide (n - 1 - 1) Tryd.prog rf (#[.int .i64 p] ++ caps) W fun e W' => ∃ p', e = .returned (.int .i64 p') ∧ Boxed W' pf 3 (.int .i64 p) ∧ KeepsFrom w.heap.size W W' ∧ I (i + 1) p' (W'.setCell ⟨pf, 0, none⟩ (.int .i64 p')))
    (hdone : ∀ (E i : Nat) (p : Int) (W : World), w.heap.size ≤ E → ¬ p < en → I i p W → W.heap[E]? = some (.deferred (some [])) → Q .normal { a with defers := { target := .collected E, args := #[] } :: a.defers } W)
    (hstop : ∀ (E : Nat) (c : Code) (W : World), w.heap.size ≤ E → Ix c W → W.heap[E]? = some (.deferred (some [])) → c.wpIn Fence.wide n Tryd.prog Q { a with defers := { target := .collected E, args := #[] } :: a.defers } W) :
    (Code.rangeFunc g ps assign body).wpIn Fence.wide n Tryd.prog Q a w := by
  refine wpIn_rangeFunc fun fn hfn => ?_
  rw [show Fence.wide.round = none from rfl]
  generalize hd : w.heap.size = d at *
  obtain ⟨R, hR⟩ : ∃ R : LoopState → Option Code → Loop, R = fun st pe => { state := st, pending := pe, fn, tmps := a.tmps, params := ps, assign, body, defers := d } := ⟨_, rfl⟩
  obtain ⟨V, hV⟩ : ∃ V, (w.alloc (.deferred (some []))).alloc (.loop (R .ready none)) = V := ⟨_, rfl⟩
  have vL : V.heap[d + 1]? = some (.loop (R .ready none)) := by
    have := World.alloc_heap_new (w.alloc (.deferred (some []))) (.loop (R .ready none))
    rw [World.size_alloc, hd] at this
    rw [← hV]; exact this
  have vD : V.heap[d]? = some (.deferred (some [])) := by
    have := World.alloc_heap_new w (.deferred (some []))
    rw [hd] at this
    rw [← hV]; exact (Below.heap_alloc _ _ _ (by simp [hd])).trans this
  have vI : I 0 p0 V := by
    have e1 := hI.alloc (s := (0, p0)) (.deferred (some [])) h0
    have e2 := hI.alloc (s := (0, p0)) (.loop (R .ready none)) e1
    rw [← hV]; exact e2
  refine ⟨d + 1, [{ target := .collected d, args := #[] }], V, { target := .fn (.func 73) #[.pointer (some ⟨pf, 0, none⟩), .pointer (some ⟨pe, 0, none⟩), .pointer (some ⟨pr, 0, none⟩)], args := #[.func (.yield (d + 1)) #[] #[]] }, V, 73, #[.func (.yield (d + 1)) #[] #[]] ++ #[.pointer (some ⟨pf, 0, none⟩), .pointer (some ⟨pe, 0, none⟩), .pointer (some ⟨pr, 0, none⟩)], V, ?_, ?_, ?_, ?_, fun _ => by omega, ?_⟩
  · rw [← hV, hR, ← hd]; exact run_enterLoop_outer _ _ _ _ _
  · simp only [resolve, hg]
    simp [go_sem]
  · intro f' hf'; simp [Target.leads] at hf'; subst hf'; trivial
  · simp [invoke, go_sem, eg]
  have hs := places_in (n - 1) (by omega) (d + 1) pf pe pr rf caps en p0 M hM
    (fun i p W => I i p W ∧ W.heap[d + 1]? = some (.loop (R .ready none)) ∧ W.heap[d]? = some (.deferred (some [])))
    (fun i p W => I2 i p W ∧ W.heap[d + 1]? = some (.loop (R .ready none)) ∧ W.heap[d]? = some (.deferred (some [])))
    (fun W => ∃ c, Ix c W ∧ W.heap[d + 1]? = some (.loop (R .done (some c))) ∧ W.heap[d]? = some (.deferred (some [])))
    (fun i p W h => hbI i p W h.1) (fun i p W h => hbI2 i p W h.1) hent ?_ ?_ V ⟨vI, vL, vD⟩
  · refine hs.mono ?_
    rintro e Y ⟨⟨v, rfl⟩, (⟨i, p, hlt, y1, y2, y3⟩ | ⟨c, y1, y2, y3⟩)⟩
    · have e := run_endLoop (P := Tryd.prog) y2 (by rw [hR]; simp)
      rw [hR] at e
      exact ⟨none, _, e, hdone d i p _ (by omega) hlt (hI.putObj (s := (i, p)) _ y1 (by omega) y2 rfl) ((World.putObj_heap_other (by omega)).trans y3)⟩
    · have e := run_endLoop (P := Tryd.prog) y2 (by rw [hR]; simp)
      rw [hR] at e
      exact ⟨some c, _, e, hstop d c _ (by omega) ((hIx c).putObj (s := ()) _ y1 (by omega) y2 rfl) ((World.putObj_heap_other (by omega)).trans y3)⟩
  · rintro i p W0 ⟨hi0, hl0, hk0⟩ hlt
    have hy := run_yield (P := Tryd.prog) (args := #[.int .i64 (i : Int), .int .i64 p]) hl0 (by rw [hR]; exact hps.symm)
    rw [hR] at hy
    refine ⟨fn, _, assign, body, hy, roundIn_of_wpIn hfn (hassign _ i p W0 _ hi0 fun a' hax => ?_)⟩
    have hltd : d + 1 < W0.heap.size := (Array.getElem?_eq_some_iff.1 hl0).1
    refine ⟨_, run_beginRound hl0 (by rw [hR]), ?_⟩
    obtain ⟨X, hX⟩ : ∃ X, W0.putObj (d + 1) (.loop { R .ready none with state := .busy }) = X := ⟨_, rfl⟩
    have xL : X.heap[d + 1]? = some (.loop { R .ready none with state := .busy }) := by rw [← hX]; exact World.putObj_heap_same hltd
    have xD : X.heap[d]? = some (.deferred (some [])) := by rw [← hX]; exact (World.putObj_heap_other (by omega)).trans hk0
    have xI : I i p X := by rw [← hX]; exact hI.putObj (s := (i, p)) _ hi0 (by omega) hl0 rfl
    rw [hX]
    have close : ∀ (j : Option Code) (Y : World), KeepsFrom d X Y → ∃ Z, Z = Y.putObj (d + 1) (.loop (R (if j.isNone then .ready else .done) j)) ∧ (Instr.endRound (d + 1) j).run Tryd.prog Y = .ok (.bool j.isNone) Z ∧ Y.heap[d + 1]? = some (.loop { R .ready none with state := .busy }) ∧
        Z.heap[d + 1]? = some (.loop (R (if j.isNone then .ready else .done) j)) ∧ Z.heap[d]? = some (.deferred (some [])) := by
      intro j Y hXY
      have yL := hXY.same _ _ (by omega) xL rfl
      have yD := hXY.same _ _ (Nat.le_refl _) xD rfl
      have he := run_endRound (P := Tryd.prog) j yL
      refine ⟨_, rfl, ?_, yL, World.putObj_heap_same (Array.getElem?_eq_some_iff.1 yL).1, (World.putObj_heap_other (by omega)).trans yD⟩
      rw [hR] at he ⊢
      exact he
    refine wpIn_mono (hbody _ i p a' X xI hlt hax) ?_
    have jump : ∀ (c : Code) (Y : World), KeepsFrom d X Y → Ix c Y → ∃ v Z, (Instr.endRound (d + 1) (some c)).run Tryd.prog Y = .ok v Z ∧
        ((Ending.returned v = .returned (.bool true) ∧ (I2 i p Z ∧ Z.heap[d + 1]? = some (.loop (R .ready none)) ∧ Z.heap[d]? = some (.deferred (some [])))) ∨
          (Ending.returned v = .returned (.bool false) ∧ ∃ c, Ix c Z ∧ Z.heap[d + 1]? = some (.loop (R .done (some c))) ∧ Z.heap[d]? = some (.deferred (some [])))) := by
      intro c Y hXY hc
      obtain ⟨Z, hZ, z1, z2, z3, z4⟩ := close (some c) Y hXY
      exact ⟨_, Z, z1, .inr ⟨rfl, c, by rw [hZ]; exact (hIx c).putObj (s := ()) _ hc (by omega) z2 rfl, z3, z4⟩⟩
    intro e a3 Y hp
    cases e with
    | normal =>
      obtain ⟨p1, p3⟩ := hp
      obtain ⟨Z, hZ, z1, z2, z3, z4⟩ := close none Y p1
      exact ⟨_, Z, z1, .inl ⟨rfl, ⟨by rw [hZ]; exact hI2.putObj (s := (i, p)) _ p3 (by omega) z2 rfl, z3, z4⟩⟩⟩
    | ret => exact jump .ret Y hp.1 hp.2
    | exit id => exact jump (.exit id) Y hp.1 hp.2
    | goto t => exact jump (.goto t) Y hp.1 hp.2
    | panic ch => exact hp.elim
    | outgrown => exact hp.elim
  · rintro i p W0 ⟨hi0, hl0, hk0⟩
    refine (hread i p W0 hi0).mono ?_
    rintro e W' ⟨p', rfl, bx, hk, hi⟩
    refine ⟨p', rfl, bx, hi, ?_, ?_⟩
    · exact (Below.heap_setCell W' ⟨pf, 0, none⟩ _ (d + 1) (by show d + 1 ≠ pf; omega)).trans (hk.same _ _ (by omega) hl0 rfl)
    · exact (Below.heap_setCell W' ⟨pf, 0, none⟩ _ d (by show d ≠ pf; omega)).trans (hk.same _ _ (Nat.le_refl _) hk0 rfl)
end Go.Proofs.YtagjpbcmhaekpaaDoor
/- What bytes are read as. -/
namespace Go.Proofs.YtagjpbcmhaekpaaDoor
open Go.RowKit Go.Shelf

/-- the items that stand from a place up to an end -/
def itemsF (rd : Nat → Except Int (Itm × Nat)) (en : Nat) : Nat → Nat → Nat → Except Int (List Itm)
  | 0, _, _ => .error 5
  | f + 1, i, p => if p < en then (if 512 ≤ i then .error 5 else match rd p with
      | .error e => .error e
      | .ok (x, q) => match itemsF rd en f (i + 1) q with
        | .error e => .error e
        | .ok xs => .ok (x :: xs)) else .ok []
/-- the item at a place, where lists may stand in it that are read so -/
def itemG (sub : Option (List UInt8 → Nat → Except Int (Itm × Nat))) (l : List UInt8) (a : Nat) : Except Int (Itm × Nat) :=
  if a < l.length ∧ 192 ≤ headC l a ∧ sub.isNone = true then .error 7 else
  if lookE l (a : Int) ≠ 0 then .error (lookE l (a : Int)) else
  if lookL l (a : Int) = false then .ok (.mk false ⟨((l.drop (lookFrom l a)).take (lookN l a)).toArray⟩ [], lookFrom l a + lookN l a) else
  match sub with
  | none => .error 7
  | some rd => match itemsF (rd (l.take (lookFrom l a + lookN l a))) (lookFrom l a + lookN l a) 513 0 (lookFrom l a) with
    | .error e => .error e
    | .ok xs => .ok (.mk true .empty xs, lookFrom l a + lookN l a)
/-- the item at a place, so many lists deep at most -/
def itemF : Nat → List UInt8 → Nat → Except Int (Itm × Nat)
  | 0 => itemG none
  | k + 1 => itemG (some (itemF k))

end Go.Proofs.YtagjpbcmhaekpaaDoor
