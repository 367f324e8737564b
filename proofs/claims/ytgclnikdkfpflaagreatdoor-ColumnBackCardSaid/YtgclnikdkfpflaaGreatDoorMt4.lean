/- Merged: UnrB, UnrCh, UnrC, BoxLoop, UnrD, UnrE, UnrF, App. -/
import Derived.Test.YtgclnikdkfpflaaGreatDoorMt1
import Derived.Test.YtgclnikdkfpflaaGreatDoorMt2
import Derived.Test.YtgclnikdkfpflaaGreatDoorMt3
import Derived.Maps.AppendAt
namespace Go.Proofs.YtgclnikdkfpflaaGreatDoor
open Go.RowKit Go.Shelf
open List renaming set_cons_zero → jz, set_cons_succ → js, setIfInBounds_toArray → jb
set_option linter.unusedVariables false
set_option linter.unusedSimpArgs false
set_option maxRecDepth 100000
set_option maxHeartbeats 16000000
def headC (l : List UInt8) (a : Nat) : Nat := (l.getD a 0).toNat
def rawE (l : List UInt8) (a : Nat) : Int := if headC l a < 128 then 0 else if (headC l a - 128) % 64 < 56 then 0 else lengthE l a ((headC l a - 128) % 64 - 55)
def rawFrom (l : List UInt8) (a : Nat) : Nat := if headC l a < 128 then a else if (headC l a - 128) % 64 < 56 then a + 1 else a + 1 + ((headC l a - 128) % 64 - 55)
def rawN (l : List UInt8) (a : Nat) : Nat := if headC l a < 128 then 1 else if (headC l a - 128) % 64 < 56 then (headC l a - 128) % 64 else lenB l a ((headC l a - 128) % 64 - 55)
def lookE (l : List UInt8) (i : Int) : Int :=
 if i < 0 ∨ (l.length : Int) < i then 1 else if i = l.length then 3 else if rawE l i.toNat ≠ 0 then rawE l i.toNat else
 if l.length < rawFrom l i.toNat + rawN l i.toNat then 3 else if headC l i.toNat = 129 ∧ headC l (i.toNat + 1) < 128 then 8 else 0
def lookFrom (l : List UInt8) (i : Int) : Nat := if lookE l i = 0 then rawFrom l i.toNat else 0
def lookN (l : List UInt8) (i : Int) : Nat := if lookE l i = 0 then rawN l i.toNat else 0
def lookL (l : List UInt8) (i : Int) : Bool := if lookE l i = 0 then decide (192 ≤ headC l i.toNat) else false
theorem look_bad {l : List UInt8} {i e : Int} (h : lookE l i = e) (h0 : e ≠ 0) : lookFrom l i = 0 ∧ lookN l i = 0 ∧ lookL l i = false := by
 subst h
 exact ⟨if_neg h0, if_neg h0, if_neg h0⟩
theorem headC_lt (l : List UInt8) (a : Nat) : headC l a < 256 := by unfold headC; exact (l.getD a 0).toNat_lt
theorem only_weak {a w : World} (h : a.grownBy w none) (row : Option Nat) : a.grownBy w row := ⟨h.os, h.tape, h.output, h.size, fun i hi _ => h.block i hi (by simp)⟩
theorem rawFrom_le {l : List UInt8} {a : Nat} (ha : a < l.length) (h : rawE l a = 0) : rawFrom l a ≤ l.length ∧ a ≤ rawFrom l a ∧ rawFrom l a ≤ a + 4 ∧ a < rawFrom l a + rawN l a ∧ rawN l a ≤ 16777215 := by
 unfold rawE at h
 unfold rawFrom rawN
 split at h
 ·rename_i h1; rw [if_pos h1, if_pos h1]; omega
 ·rename_i h1
  rw [if_neg h1, if_neg h1]
  split at h
  ·rename_i h2; rw [if_pos h2, if_pos h2]; have := headC_lt l a; omega
  ·rename_i h2
   rw [if_neg h2, if_neg h2]
   unfold lengthE at h
   split at h
   ·cases h
   ·rename_i h3
    split at h
    ·cases h
    ·have := lenB_lt l a ((headC l a - 128) % 64 - 55) (by omega)
     omega
theorem look_ok {l : List UInt8} {a : Nat} (h : lookE l (a : Int) = 0) : a < l.length ∧ lookFrom l (a : Int) + lookN l (a : Int) ≤ l.length ∧ a ≤ lookFrom l (a : Int) ∧ a < lookFrom l (a : Int) + lookN l (a : Int) ∧ lookFrom l (a : Int) ≤ a + 4 ∧ lookL l (a : Int) = decide (192 ≤ headC l a) := by
 have h1 : lookFrom l (a : Int) = rawFrom l a := by unfold lookFrom; rw [if_pos h, Int.toNat_natCast]
 have h2 : lookN l (a : Int) = rawN l a := by unfold lookN; rw [if_pos h, Int.toNat_natCast]
 have h3 : lookL l (a : Int) = decide (192 ≤ headC l a) := by unfold lookL; rw [if_pos h, Int.toNat_natCast]
 rw [h1, h2, h3]
 unfold lookE at h
 split at h
 ·cases h
 rename_i g1
 split at h
 ·cases h
 rename_i g2
 rw [Int.toNat_natCast] at h
 split at h
 ·rename_i g3; exact absurd h g3
 rename_i g3
 split at h
 ·cases h
 have := rawFrom_le (l := l) (a := a) (by omega) (by omega)
 exact ⟨by omega, by omega, by omega, by omega, by omega, rfl⟩
theorem blk_set3 {w : World} {g : Nat} {t : TypeId} {a b c : Value} (h : Blk w g t #[a, b, c]) (x y z : Value) : Blk (((w.setCell ⟨g, 0, none⟩ x).setCell ⟨g, 1, none⟩ y).setCell ⟨g, 2, none⟩ z) g t #[x, y, z] := by
 have := ((h.set_ 0 x).set_ 1 y).set_ 2 z
 simpa using this
theorem only_set3 {a w : World} {row : Option Nat} (h : a.grownBy w row) {g : Nat} (hg : a.heap.size ≤ g) (x y z : Value) : a.grownBy (((w.setCell ⟨g, 0, none⟩ x).setCell ⟨g, 1, none⟩ y).setCell ⟨g, 2, none⟩ z) row :=
 only_set (only_set (only_set h (p := ⟨g, 0, none⟩) hg x) (p := ⟨g, 1, none⟩) hg y) (p := ⟨g, 2, none⟩) hg z
theorem look_any (s : ByteArray) (i : Int) (hs : s.size ≤ 9223372036854770000) (w : World) :
  Calls Tryz.prog 153 #[.string s, .int .i64 i] w fun e w' => e = .returned (.tuple #[.agg #[.int .i64 (lookFrom s.data.toList i : Nat), .int .i64 (lookN s.data.toList i : Nat), .bool (lookL s.data.toList i)], .int .i64 (lookE s.data.toList i)]) ∧ w.grownBy w' none := by
 obtain ⟨l, hl⟩ : ∃ l, s.data.toList = l := ⟨_, rfl⟩
 have hlz : l.length = s.size := by rw [← hl, ba_len]
 have hlen := fun a m h1 h2 h3 W => length_any s a m h1 (by omega) h2 h3 W
 rw [hl] at hlen ⊢
 have HS := Lib.hid hl; have HZ := Lib.hid hlz
 clear hl
 have hw0 := Blk.new w 188 #[.int .i64 0, .int .i64 0, .bool false]
 have hG0 : w.grownBy (w.alloc (.cells #[.int .i64 0, .int .i64 0, .bool false] 188)) none := only_alloc (World.grownBy.refl _ _) _
 by_cases h1 : i < 0 ∨ (s.size : Int) < i
 ·have hE : lookE l i = 1 := by unfold lookE; rw [if_pos (by rw [hlz]; exact h1)]
  obtain ⟨b1, b2, b3⟩ := look_bad hE (by decide)
  rw [hE, b1, b2, b3]
  clear hE b1 b2 b3 hlz hlen
  by_cases h2 : i < 0
  ·clear h1
   go_enter Tryz.func153, Tryz.ntmps153
   go_wp2_with fail
   refine bodyPost_ret (results_ct (fn := Tryz.f153) rfl _ _ _ _ rfl (load_own hw0)) rfl ?_
   exact ⟨by simp, hG0⟩
  ·have d1 : decide (i < 0) = false := decide_eq_false h2
   have h3 : (s.size : Int) < i := by omega
   clear h1 h2
   go_enter Tryz.func153, Tryz.ntmps153
   go_wp2_with fail
   refine bodyPost_ret (results_ct (fn := Tryz.f153) rfl _ _ _ _ rfl (load_own hw0)) rfl ?_
   exact ⟨by simp, hG0⟩
 obtain ⟨a, rfl⟩ := Int.eq_ofNat_of_zero_le (show 0 ≤ i by omega)
 have ha : a ≤ s.size := by omega
 have d1 : decide ((a : Int) < 0) = false := decide_eq_false (by omega)
 have d1' : decide ((s.size : Int) < (a : Int)) = false := decide_eq_false (by omega)
 have d1'' : decide (s.size < a) = false := decide_eq_false (by omega)
 by_cases h2 : a = s.size
 ·have hE : lookE l (a : Int) = 3 := by unfold lookE; rw [if_neg (by rw [hlz]; exact h1), if_pos (by omega)]
  obtain ⟨b1, b2, b3⟩ := look_bad hE (by decide)
  rw [hE, b1, b2, b3]
  clear hE b1 b2 b3 hlz hlen h1
  subst h2
  go_enter Tryz.func153, Tryz.ntmps153
  go_wp2_with fail
  refine bodyPost_ret (results_ct (fn := Tryz.f153) rfl _ _ _ _ rfl (load_own hw0)) rfl ?_
  exact ⟨by simp, hG0⟩
 have hal : a < l.length := by omega
 have d2 : ((a : Int) == (s.size : Int)) = false := by simp; omega
 have d2' : (a == s.size) = false := by simp; omega
 have hE0 : lookE l (a : Int) = if rawE l a ≠ 0 then rawE l a else if l.length < rawFrom l a + rawN l a then 3 else if headC l a = 129 ∧ headC l (a + 1) < 128 then 8 else 0 := by
  unfold lookE; rw [if_neg (by rw [hlz]; exact h1), if_neg (by omega), Int.toNat_natCast]
 have hid := fun W => idx_str s a (l.getD a 0) (by rw [HS.out]; exact at_getD 0 hal) W
 have hcl := headC_lt l a
 have hrle := rawFrom_le hal
 have hfr : lookE l (a : Int) = 0 → lookFrom l (a : Int) = rawFrom l a ∧ lookN l (a : Int) = rawN l a ∧ lookL l (a : Int) = decide (192 ≤ headC l a) := fun h => by
  unfold lookFrom lookN lookL
  rw [if_pos h, if_pos h, if_pos h, Int.toNat_natCast]
  exact ⟨rfl, rfl, rfl⟩
 have hcE : rawE l a = if headC l a < 128 then 0 else if (headC l a - 128) % 64 < 56 then 0 else lengthE l a ((headC l a - 128) % 64 - 55) := rfl
 have hcF : rawFrom l a = if headC l a < 128 then a else if (headC l a - 128) % 64 < 56 then a + 1 else a + 1 + ((headC l a - 128) % 64 - 55) := rfl
 have hcN : rawN l a = if headC l a < 128 then 1 else if (headC l a - 128) % 64 < 56 then (headC l a - 128) % 64 else lenB l a ((headC l a - 128) % 64 - 55) := rfl
 change ∀ W, (Instr.index 9 (.string s) (.int .i64 (a : Int))).run Tryz.prog W = .ok (.int .u8 ((headC l a : Nat) : Int)) W at hid
 obtain ⟨c, hc⟩ : ∃ c, headC l a = c := ⟨_, rfl⟩
 rw [hc] at hid hcl hfr hcE hcF hcN hE0
 obtain ⟨E, hE⟩ : ∃ e, lookE l (a : Int) = e := ⟨_, rfl⟩
 obtain ⟨F, hF⟩ : ∃ e, lookFrom l (a : Int) = e := ⟨_, rfl⟩
 obtain ⟨N, hN⟩ : ∃ e, lookN l (a : Int) = e := ⟨_, rfl⟩
 obtain ⟨L, hL⟩ : ∃ e, lookL l (a : Int) = e := ⟨_, rfl⟩
 have hbad := fun e (h : lookE l (a : Int) = e) h0 => look_bad h h0
 rw [hF, hN, hL] at hbad hfr
 rw [hE] at hE0 hfr hbad
 rw [hE, hF, hN, hL]
 clear hF hN hL hE hc
 have HBAD := Lib.hid hbad; have HFR := Lib.hid hfr; have HE0 := Lib.hid hE0; have HR := Lib.hid hrle
 clear hbad hfr hE0 hrle h1 h2
 by_cases h3 : c < 128
 ·rw [if_pos h3] at hcE hcF hcN
  have hE : E = 0 := by rw [HE0.out, hcE, hcF, hcN, if_neg (by simp), if_neg (by omega), if_neg (by omega)]
  obtain ⟨rfl, rfl, rfl⟩ := HFR.out hE
  rw [hcF, hcN, decide_eq_false (by omega)]
  subst hE
  have d3 : decide ((c : Int) < 128) = true := decide_eq_true (by omega)
  have d3' : decide (c < 128) = true := decide_eq_true h3
  clear hcE hcF hcN hlen hlz h3
  go_enter Tryz.func153, Tryz.ntmps153
  go_wp2_with fail
  refine bodyPost_ret (results_ct (fn := Tryz.f153) rfl _ _ _ _ rfl (load_own (Blk.new w _ _))) rfl ?_
  exact ⟨by simp, only_alloc (World.grownBy.refl _ _) _⟩
 rw [if_neg h3] at hcE hcF hcN
 have d3 : decide ((c : Int) < 128) = false := decide_eq_false (by omega)
 have d3' : decide (c < 128) = false := decide_eq_false h3
 obtain ⟨b, hb⟩ : ∃ b, (c - 128) % 64 = b := ⟨_, rfl⟩
 have hb64 : b < 64 := by omega
 have v0 : IntKind.i64.wrap (c : Int) = (c : Int) := IntWalk.i64_in _ (by omega)
 have v1 : IntKind.i64.wrap ((c : Int) - 128) = (c : Int) - 128 := IntWalk.i64_in _ (by omega)
 have v2 : ((c : Int) - 128).tmod 64 = (b : Int) := by rw [Int.tmod_eq_emod_of_nonneg (by omega)]; omega
 have v3 : ((c : Int) - 128) % 64 = (b : Int) := by omega
 have v4 : IntKind.i64.wrap (b : Int) = (b : Int) := IntWalk.i64_in _ (by omega)
 have v5 : IntKind.i64.wrap ((a : Int) + 1) = (a : Int) + 1 := IntWalk.i64_in _ (by omega)
 rw [hb] at hcE hcF hcN
 by_cases h4 : b < 56
 ·rw [if_pos h4] at hcE hcF hcN
  have d4 : decide ((56 : Int) ≤ (b : Int)) = false := decide_eq_false (by omega)
  have d4' : decide (56 ≤ b) = false := decide_eq_false (by omega)
  have v6 : IntKind.i64.wrap ((s.size : Int) - ((a : Int) + 1)) = (s.size : Int) - ((a : Int) + 1) := IntWalk.i64_in _ (by omega)
  by_cases h5 : l.length < a + 1 + b
  ·have hE : E = 3 := by rw [HE0.out, hcE, hcF, hcN, if_neg (by simp), if_pos h5]
   obtain ⟨rfl, rfl, rfl⟩ := HBAD.out _ rfl (by rw [hE]; decide)
   subst hE
   have d5 : decide ((s.size : Int) - ((a : Int) + 1) < (b : Int)) = true := decide_eq_true (by omega)
   have d5' : (s.size : Int) - ((a : Int) + 1) < (b : Int) := by omega
   clear hcE hcF hcN hlen hlz h3 h4 h5
   go_enter Tryz.func153, Tryz.ntmps153
   go_wp2_with fail
   refine bodyPost_ret (results_ct (fn := Tryz.f153) rfl _ _ _ _ rfl (load_own (hw0.alloc _))) rfl ?_
   exact ⟨by simp, only_alloc hG0 _⟩
  ·have d5 : decide ((s.size : Int) - ((a : Int) + 1) < (b : Int)) = false := decide_eq_false (by omega)
   have d5' : ¬ ((s.size : Int) - ((a : Int) + 1) < (b : Int)) := by omega
   have hE1 : E = if c = 129 ∧ headC l (a + 1) < 128 then 8 else 0 := by rw [HE0.out, hcE, hcF, hcN, if_neg (by simp), if_neg h5]
   by_cases h6 : c = 129
   ·have hl1 : a + 1 < l.length := by omega
    have hid1 : ∀ W, (Instr.index 9 (.string s) (.int .i64 ((a : Int) + 1))).run Tryz.prog W = .ok (.int .u8 ((headC l (a + 1) : Nat) : Int)) W := fun W => by
     have := idx_str s (a + 1) (l.getD (a + 1) 0) (by rw [HS.out]; exact at_getD 0 hl1) W
     exact this
    generalize headC l (a + 1) = c1 at *
    obtain rfl : b = 1 := by omega
    by_cases h7 : c1 < 128
    ·have hE : E = 8 := by rw [hE1, if_pos ⟨h6, h7⟩]
     obtain ⟨rfl, rfl, rfl⟩ := HBAD.out _ rfl (by rw [hE]; decide)
     subst hE; subst h6
     have d7 : decide ((c1 : Int) < 128) = true := decide_eq_true (by omega)
     have d7' : decide (c1 < 128) = true := decide_eq_true h7
     clear hcE hcF hcN hlen hlz h3 h4 h5 hE1 h7 hb
     go_enter Tryz.func153, Tryz.ntmps153
     go_wp2_with fail
     refine bodyPost_ret (results_ct (fn := Tryz.f153) rfl _ _ _ _ rfl (load_own (hw0.alloc _))) rfl ?_
     exact ⟨by simp, only_alloc hG0 _⟩
    ·have hE : E = 0 := by rw [hE1, if_neg (by omega)]
     obtain ⟨rfl, rfl, rfl⟩ := HFR.out hE
     rw [hcF, hcN, decide_eq_false (by omega)]
     subst hE; subst h6
     have d7 : decide ((c1 : Int) < 128) = false := decide_eq_false (by omega)
     have d7' : decide (c1 < 128) = false := decide_eq_false h7
     clear hcE hcF hcN hlen hlz h3 h4 h5 hE1 h7 hb
     go_enter Tryz.func153, Tryz.ntmps153
     go_wp2_with fail
     refine bodyPost_ret (results_ct (fn := Tryz.f153) rfl _ _ _ _ rfl (load_own ((Blk.new w _ _).alloc _))) rfl ?_
     exact ⟨by simp, only_alloc (only_alloc (World.grownBy.refl _ _) _) _⟩
   ·have hE : E = 0 := by rw [hE1, if_neg (by omega)]
    obtain ⟨rfl, rfl, rfl⟩ := HFR.out hE
    rw [hcF, hcN]
    subst hE
    have d6 : ((c : Int) == 129) = false := by simp; omega
    have d6' : (c == 129) = false := by simpa using h6
    obtain ⟨L0, hL0⟩ : ∃ x, decide (192 ≤ c) = x := ⟨_, rfl⟩
    have d8 : decide ((192 : Int) ≤ (c : Int)) = L0 := by rw [← hL0]; apply decide_eq_decide.2; omega
    rw [hL0]
    clear hcE hcF hcN hlen hlz h3 h4 h5 hE1 h6 hb
    go_enter Tryz.func153, Tryz.ntmps153
    go_wp2_with fail
    refine bodyPost_ret (results_ct (fn := Tryz.f153) rfl _ _ _ _ rfl (load_own ((Blk.new w _ _).alloc _))) rfl ?_
    exact ⟨by simp, only_alloc (only_alloc (World.grownBy.refl _ _) _) _⟩
 ·rw [if_neg h4] at hcE hcF hcN
  have d4 : decide ((56 : Int) ≤ (b : Int)) = true := decide_eq_true (by omega)
  have d4' : decide (56 ≤ b) = true := decide_eq_true (by omega)
  obtain ⟨m, hm⟩ : ∃ m, b - 55 = m := ⟨_, rfl⟩
  have v7 : IntKind.i64.wrap ((b : Int) - 56) = (b : Int) - 56 := IntWalk.i64_in _ (by omega)
  have v8 : IntKind.i64.wrap ((b : Int) - 56 + 1) = (m : Int) := by rw [IntWalk.i64_in _ (by omega)]; omega
  have v9 : (b : Int) - 56 + 1 = (m : Int) := by omega
  have v10 : IntKind.i64.wrap (m : Int) = (m : Int) := IntWalk.i64_in _ (by omega)
  have d6 : ((c : Int) == 129) = false := by simp; omega
  have d6' : (c == 129) = false := by simp; omega
  have h6 : ¬ c = 129 := by omega
  rw [hm] at hcE hcF hcN
  have hl := hlen a m (by omega) (by omega) (by omega)
  have hlb := lenB_lt l a m
  have hlE : lengthE l a m = 0 → m ≤ 3 ∧ a + 1 + m ≤ l.length := fun h => by
   unfold lengthE at h
   split at h
   ·cases h
   ·split at h
    ·cases h
    ·omega
  generalize lengthE l a m = e0 at *
  generalize lenB l a m = V at *
  have HLB := Lib.hid hlb; have HLE := Lib.hid hlE
  clear hlen hlb hlE
  have hx0 := hw0.alloc (.cells #[.int .i64 ((a : Int) + 1), .int .i64 (b : Int), .bool false] 188)
  have hx1 := Blk.new (w.alloc (.cells #[.int .i64 0, .int .i64 0, .bool false] 188)) 188 #[.int .i64 ((a : Int) + 1), .int .i64 (b : Int), .bool false]
  rw [World.size_alloc] at hx1
  have hG1 : w.grownBy ((w.alloc (.cells #[.int .i64 0, .int .i64 0, .bool false] 188)).alloc (.cells #[.int .i64 ((a : Int) + 1), .int .i64 (b : Int), .bool false] 188)) none := only_alloc hG0 _
  clear h3 h4 hb hm
  go_enter Tryz.func153, Tryz.ntmps153
  go_wp2_with fail
  refine (hl _).mono ?_
  rintro e w2 ⟨rfl, hg⟩
  have y0 := hx0.grown hg (by simp)
  have y1 := hx1.grown hg (by simp)
  have hG2 := only_weak (grown_self hG1 hg (by simp)) none
  clear hl hx0 hx1 hG0 hG1 hg hw0
  have k0 := y0.cell 0; have k1 := y0.cell 1; have k2 := y0.cell 2
  have j0 := y1.cell 0; have j1 := y1.cell 1; have j2 := y1.cell 2
  have f0 := y0.frozen 0; have f1 := y0.frozen 1; have f2 := y0.frozen 2
  have g0 := y1.frozen 0; have g1 := y1.frozen 1; have g2 := y1.frozen 2
  simp only [List.getElem?_toArray, List.getElem?_cons_zero, List.getElem?_cons_succ] at k0 k1 k2 j0 j1 j2
  by_cases h7 : e0 = 0
  ·subst h7
   simp only [if_true]
   obtain ⟨hm3, hml⟩ := HLE.out rfl
   have hV := HLB.out hm3
   have w2' : IntKind.i64.wrap ((s.size : Int) - ((a : Int) + 1 + (m : Int))) = (s.size : Int) - ((a : Int) + 1 + (m : Int)) := IntWalk.i64_in _ (by omega)
   by_cases h8 : l.length < a + 1 + m + V
   ·have hE : E = 3 := by rw [HE0.out, hcE, hcF, hcN, if_neg (by simp), if_pos h8]
    obtain ⟨rfl, rfl, rfl⟩ := HBAD.out _ rfl (by rw [hE]; decide)
    subst hE
    have d5' : (s.size : Int) - ((a : Int) + 1 + (m : Int)) < (V : Int) := by omega
    clear hcE hcF hcN hlz h6 h8
    have y2 := blk_set3 y1 (.int .i64 ((a : Int) + 1 + (m : Int))) (.int .i64 (V : Int)) (.bool false)
    have hG3 := only_set3 hG2 (g := w.heap.size + 1) (by omega) (.int .i64 ((a : Int) + 1 + (m : Int))) (.int .i64 (V : Int)) (.bool false)
    have y3 : Blk (((w2.setCell ⟨w.heap.size + 1, 0, none⟩ (.int .i64 ((a : Int) + 1 + (m : Int)))).setCell ⟨w.heap.size + 1, 1, none⟩ (.int .i64 (V : Int))).setCell ⟨w.heap.size + 1, 2, none⟩ (.bool false)) w.heap.size 188 #[.int .i64 0, .int .i64 0, .bool false] := ((y0.far (p := ⟨w.heap.size + 1, 0, none⟩) (by simp) _).far (p := ⟨w.heap.size + 1, 1, none⟩) (by simp) _).far (p := ⟨w.heap.size + 1, 2, none⟩) (by simp) _
    go_wp2_with fail
    refine bodyPost_ret (results_ct (fn := Tryz.f153) rfl _ _ _ _ rfl (load_own (blk_set3 y3 _ _ _))) rfl ?_
    exact ⟨by simp, only_set3 hG3 (Nat.le_refl _) _ _ _⟩
   ·have hE : E = 0 := by rw [HE0.out, hcE, hcF, hcN, if_neg (by simp), if_neg h8, if_neg (by omega)]
    obtain ⟨hF1, hF2, hF3⟩ := HFR.out hE
    rw [hcF] at hF1
    rw [hcN] at hF2
    subst hF1; subst hF2; subst hE
    have d5' : ¬ ((s.size : Int) - ((a : Int) + 1 + (m : Int)) < (N : Int)) := by omega
    have d5 : decide ((s.size : Int) - ((a : Int) + 1 + (m : Int)) < (N : Int)) = false := decide_eq_false d5'
    obtain ⟨L0, hL0⟩ : ∃ x, decide (192 ≤ c) = x := ⟨_, rfl⟩
    have d8 : decide ((192 : Int) ≤ (c : Int)) = L0 := by rw [← hL0]; apply decide_eq_decide.2; omega
    rw [hL0] at hF3
    subst hF3
    clear hcE hcF hcN hlz h6 h8
    have y2 := (blk_set3 y1 (.int .i64 ((a : Int) + 1 + (m : Int))) (.int .i64 (N : Int)) (.bool false)).set_ 2 (.bool L)
    have hG3 := only_set (only_set3 hG2 (g := w.heap.size + 1) (by omega) (.int .i64 ((a : Int) + 1 + (m : Int))) (.int .i64 (N : Int)) (.bool false)) (p := ⟨w.heap.size + 1, 2, none⟩) (by simp) (.bool L)
    have y3 := (((y0.far (p := ⟨w.heap.size + 1, 0, none⟩) (by simp) (.int .i64 ((a : Int) + 1 + (m : Int)))).far (p := ⟨w.heap.size + 1, 1, none⟩) (by simp) (.int .i64 (N : Int))).far (p := ⟨w.heap.size + 1, 2, none⟩) (by simp) (.bool false)).far (p := ⟨w.heap.size + 1, 2, none⟩) (by simp) (.bool L)
    have hld := load_own y2
    have i0 := y2.cell 0; have i1 := y2.cell 1; have i2 := y2.cell 2
    have h0 := y3.cell 0; have h1 := y3.cell 1; have h2 := y3.cell 2
    have q0 := y3.frozen 0; have q1 := y3.frozen 1; have q2 := y3.frozen 2
    simp only [List.setIfInBounds_toArray, List.set_cons_zero, List.set_cons_succ, List.getElem?_toArray, List.getElem?_cons_zero, List.getElem?_cons_succ] at i0 i1 i2 h0 h1 h2 hld
    go_wp2_with fail
    refine bodyPost_ret (results_ct (fn := Tryz.f153) rfl _ _ _ _ rfl (load_own (blk_set3 y3 _ _ _))) rfl ?_
    exact ⟨by simp, only_set3 hG3 (Nat.le_refl _) _ _ _⟩
  ·have hE : E = e0 := by rw [HE0.out, hcE, if_pos h7]
   obtain ⟨rfl, rfl, rfl⟩ := HBAD.out _ rfl (by rw [hE]; exact h7)
   subst hE
   have d9 : (E != 0) = true := by simpa using h7
   have h7' := Lib.hid h7
   clear hcE hcF hcN hlz h6
   simp only [if_neg h7]
   clear h7
   have y3 := ((y0.far (p := ⟨w.heap.size + 1, 0, none⟩) (by simp) (.int .i64 0)).far (p := ⟨w.heap.size + 1, 1, none⟩) (by simp) (.int .i64 0)).far (p := ⟨w.heap.size + 1, 2, none⟩) (by simp) (.bool false)
   have hG3 := only_set3 hG2 (g := w.heap.size + 1) (by omega) (.int .i64 0) (.int .i64 0) (.bool false)
   go_wp2_with fail
   refine bodyPost_ret (results_ct (fn := Tryz.f153) rfl _ _ _ _ rfl (load_own (blk_set3 y3 _ _ _))) rfl ?_
   exact ⟨by simp, only_set3 hG3 (Nat.le_refl _) _ _ _⟩

theorem next_any (s : ByteArray) (i : Int) (hs : s.size ≤ 9223372036854770000) (w : World) (hFN : lookFrom s.data.toList i + lookN s.data.toList i ≤ 9223372036854770000) :
  Calls Tryz.prog 123 #[.string s, .int .i64 i] w fun e w' => e = .returned (.tuple #[.int .i64 ((lookFrom s.data.toList i + lookN s.data.toList i : Nat) : Int), .int .i64 (lookE s.data.toList i)]) ∧ w.grownBy w' none := by
 have hk := fun W => look_any s i hs W
 generalize lookFrom s.data.toList i = F at *
 generalize lookN s.data.toList i = N at *
 generalize lookL s.data.toList i = L at *
 generalize lookE s.data.toList i = E at *
 have v : IntKind.i64.wrap ((F : Int) + (N : Int)) = (F : Int) + (N : Int) := IntWalk.i64_in _ (by omega)
 go_enter Tryz.func123, Tryz.ntmps123
 go_wp2_with fail
 refine (hk w).mono ?_
 rintro e w2 ⟨rfl, hg⟩
 have hG := only_alloc hg (.cells #[.int .i64 (F : Int), .int .i64 (N : Int), .bool L] 188)
 go_wp2_with fail
 go_ret2
 exact ⟨by simp, hG⟩
section
variable {F : Fence} {n : Nat} {P : Program} {α : Type}
end
attribute [local go_sem] Oper.semAt_some
structure PlBoxes (pf pe pr rf : Nat) (caps : Array Value) (en p : Int) (W : World) : Prop where
 from_ : Boxed W pf 3 (.int .i64 p)
 end_ : Boxed W pe 3 (.int .i64 en)
 read_ : Boxed W pr 92 (.func (.func rf) #[] caps)
theorem places_in (n : Nat) (hn : 1 ≤ n) (l pf pe pr rf : Nat) (caps : Array Value) (en p0 : Int) (M : Nat) (hM : M ≤ 1000000) (J J2 : Nat → Int → World → Prop) (Jx : World → Prop)
  (hJ : ∀ i p W, J i p W → PlBoxes pf pe pr rf caps en p W ∧ i ≤ M) (hJ2 : ∀ i p W, J2 i p W → PlBoxes pf pe pr rf caps en p W ∧ i < M)
  (hent : ∀ args W, (callFunc rf args).run Tryz.prog W = .ok (.enter rf args) W)
  (hY : ∀ i p W, J i p W → p < en → YieldAt Fence.wide (n - 1) Tryz.prog l #[.int .i64 (i : Int), .int .i64 p] W fun e W' => (e = .returned (.bool true) ∧ J2 i p W') ∨ (e = .returned (.bool false) ∧ Jx W'))
  (hR : ∀ i p W, J2 i p W → CallsIn Fence.wide (n - 1) Tryz.prog rf (#[.int .i64 p] ++ caps) W fun e W' => ∃ p', e = .returned (.int .i64 p') ∧ Boxed W' pf 3 (.int .i64 p) ∧ J (i + 1) p' (W'.setCell ⟨pf, 0, none⟩ (.int .i64 p')))
  (W : World) (h0 : J 0 p0 W) :
  CallsIn Fence.wide n Tryz.prog 201 #[.func (.yield l) #[] #[], .pointer (some ⟨pf, 0, none⟩), .pointer (some ⟨pe, 0, none⟩), .pointer (some ⟨pr, 0, none⟩)] W fun e W' => (∃ v, e = .returned v) ∧
   ((∃ i p, ¬ p < en ∧ J i p W') ∨ Jx W') := by
 refine callsIn_of_wp Tryz.func201 rfl trivial ?_ rfl
 simp only [Tryz.ntmps201, List.size_toArray, List.length_cons, List.length_nil, Nat.reduceAdd, Nat.reduceSub, Array.replicate_succ, Array.replicate_zero, List.push_toArray, List.append_toArray, List.nil_append, List.cons_append]
 gi_wp2
 gi_loopw [5] (fun i wr => ∃ (k : Nat) (p : Int), i = .int .i64 (k : Int) ∧ J k p wr) (fun i _ => M + 1 - (intOf i).toNat)
 case atStart => exact ⟨0, p0, rfl, h0⟩
 case round =>
  obtain ⟨k, p, rfl, hJk⟩ := hrel
  obtain ⟨⟨b1, b2, b3⟩, hkM⟩ := hJ k p wr hJk
  have c1 := b1.cell; have c2 := b2.cell; have c3 := b3.cell
  by_cases hlt : p < en
  ·obtain ⟨fn, tmps, assign, body, hy, hRr⟩ := hY k p wr hJk hlt
   clear b1 b2 b3
   gi_wp2
   refine hRr.mono ?_
   rintro e' W3 (⟨rfl, hJ3⟩ | ⟨rfl, hJx3⟩)
   ·obtain ⟨⟨b1, b2, b3⟩, hkM3⟩ := hJ2 k p W3 hJ3
    have hread := hR k p W3 hJ3
    clear c1 c2 c3 hy hRr
    have c1 := b1.cell; have c3 := b3.cell
    gi_wp2
    refine ⟨trivial, hread.mono ?_⟩
    rintro e w4 ⟨p', rfl, bx, hJ4⟩
    clear c1 c3 b1 b2 b3 hread
    have c1 := bx.cell; have f1 := bx.frozen
    gi_wp2
    exact ⟨⟨k + 1, p', by simp, hJ4⟩, by simp [intOf]; omega⟩
   ·clear hy hRr c1 c2 c3
    gi_wp2
    refine bodyPost_ret (results_none rfl _ _ _) rfl ?_
    exact ⟨⟨_, rfl⟩, .inr hJx3⟩
  ·have d1 : decide (p < en) = false := decide_eq_false hlt
   have hl := Lib.hid hlt
   clear hlt b1 b2 b3
   gi_wp2
   go_end0
   exact ⟨⟨_, rfl⟩, .inl ⟨k, p, hl.out, hJk⟩⟩
def bodyP (B : Nat) (I2 : World → Prop) (Ix : Code → World → Prop) (W : World) : Exit → Act → World → Prop
 | .normal, _, W' => KeepsFrom B W W' ∧ I2 W'
 | .ret, _, W' => KeepsFrom B W W' ∧ Ix .ret W'
 | .exit id, _, W' => KeepsFrom B W W' ∧ Ix (.exit id) W'
 | .goto t, _, W' => KeepsFrom B W W' ∧ Ix (.goto t) W'
 | .panic _, _, _ => False
 | .outgrown, _, _ => False
theorem range_places {n : Nat} {g : Operand} {ps : Array Tmp} {assign body : Code} {Q : Exit → Act → World → Prop} {a : Act} {w : World} (pf pe pr rf : Nat) (caps : Array Value) (en p0 : Int) (M : Nat) (hM : M ≤ 1000000)
  (h1 : 2 ≤ n) (hg : a.eval g = .func (.func 201) #[] #[.pointer (some ⟨pf, 0, none⟩), .pointer (some ⟨pe, 0, none⟩), .pointer (some ⟨pr, 0, none⟩)])
  (eg : ∀ args w, (callFunc 201 args).run Tryz.prog w = .ok (.enter 201 args) w) (hent : ∀ args W, (callFunc rf args).run Tryz.prog W = .ok (.enter rf args) W) (hps : ps.size = 2)
  (I I2 : Nat → Int → World → Prop) (Ix : Code → World → Prop) (hpf : pf < w.heap.size)
  (hI : OwnFrom w.heap.size (fun (s : Nat × Int) => I s.1 s.2)) (hI2 : OwnFrom w.heap.size (fun (s : Nat × Int) => I2 s.1 s.2)) (hIx : ∀ c, OwnFrom w.heap.size (fun (_ : Unit) => Ix c))
  (hbI : ∀ i p W, I i p W → PlBoxes pf pe pr rf caps en p W ∧ i ≤ M) (hbI2 : ∀ i p W, I2 i p W → PlBoxes pf pe pr rf caps en p W ∧ i < M) (h0 : I 0 p0 w) (Ax : Nat → Int → Act → Prop)
  (hassign : ∀ (l i : Nat) (p : Int) (W : World) (K : Act → World → Prop), I i p W → (∀ a', Ax i p a' → K a' W) → assign.wpIn (Fence.wide.inRound l) (n - 1 - 1) Tryz.prog (Exit.then K (fun _ _ _ => False)) { tmps := (ps.zip #[.int .i64 (i : Int), .int .i64 p]).foldl (fun t (p, v) => t.setIfInBounds p v) a.tmps, defers := [] } W)
  (hbody : ∀ (l i : Nat) (p : Int) (a' : Act) (W : World), I i p W → p < en → Ax i p a' → body.wpIn (Fence.wide.inRound l) (n - 1 - 1) Tryz.prog (bodyP w.heap.size (I2 i p) Ix W) a' W)
  (hread : ∀ i p W, I2 i p W → CallsIn Fence.wide (n - 1 - 1) Tryz.prog rf (#[.int .i64 p] ++ caps) W fun e W' => ∃ p', e = .returned (.int .i64 p') ∧ Boxed W' pf 3 (.int .i64 p) ∧ KeepsFrom w.heap.size W W' ∧ I (i + 1) p' (W'.setCell ⟨pf, 0, none⟩ (.int .i64 p')))
  (hdone : ∀ (E i : Nat) (p : Int) (W : World), w.heap.size ≤ E → ¬ p < en → I i p W → W.heap[E]? = some (.deferred (some [])) → Q .normal { a with defers := { target := .collected E, args := #[] } :: a.defers } W)
  (hstop : ∀ (E : Nat) (c : Code) (W : World), w.heap.size ≤ E → Ix c W → W.heap[E]? = some (.deferred (some [])) → c.wpIn Fence.wide n Tryz.prog Q { a with defers := { target := .collected E, args := #[] } :: a.defers } W) :
  (Code.rangeFunc g ps assign body).wpIn Fence.wide n Tryz.prog Q a w := by
 refine wpIn_rangeFunc fun fn hfn => ?_
 rw [show Fence.wide.round = none from rfl]
 generalize hd : w.heap.size = d at *
 obtain ⟨R, hR⟩ : ∃ R : LoopState → Option Code → Loop, R = fun st pe => { state := st, pending := pe, fn, tmps := a.tmps, params := ps, assign, body, defers := d } := ⟨_, rfl⟩
 obtain ⟨V, hV⟩ : ∃ V, (w.alloc (.deferred (some []))).alloc (.loop (R .ready none)) = V := ⟨_, rfl⟩
 have vL : V.heap[d + 1]? = some (.loop (R .ready none)) := by
  have := World.alloc_heap_new (w.alloc (.deferred (some []))) (.loop (R .ready none))
  rw [World.size_alloc, hd] at this
  rw [← hV]; exact this
 have vD : V.heap[d]? = some (.deferred (some [])) := by
  have := World.alloc_heap_new w (.deferred (some []))
  rw [hd] at this
  rw [← hV]; exact (Below.heap_alloc _ _ _ (by simp [hd])).trans this
 have vI : I 0 p0 V := by
  have e1 := hI.alloc (s := (0, p0)) (.deferred (some [])) h0
  have e2 := hI.alloc (s := (0, p0)) (.loop (R .ready none)) e1
  rw [← hV]; exact e2
 refine ⟨d + 1, [{ target := .collected d, args := #[] }], V, { target := .fn (.func 201) #[.pointer (some ⟨pf, 0, none⟩), .pointer (some ⟨pe, 0, none⟩), .pointer (some ⟨pr, 0, none⟩)], args := #[.func (.yield (d + 1)) #[] #[]] }, V, 201, #[.func (.yield (d + 1)) #[] #[]] ++ #[.pointer (some ⟨pf, 0, none⟩), .pointer (some ⟨pe, 0, none⟩), .pointer (some ⟨pr, 0, none⟩)], V, ?_, ?_, ?_, ?_, fun _ => by omega, ?_⟩
 ·rw [← hV, hR, ← hd]; exact run_enterLoop_outer _ _ _ _ _
 ·simp only [resolve, hg]
  simp [go_sem]
 ·intro f' hf'; simp [Target.leads] at hf'; subst hf'; trivial
 ·simp [invoke, go_sem, eg]
 have hs := places_in (n - 1) (by omega) (d + 1) pf pe pr rf caps en p0 M hM
  (fun i p W => I i p W ∧ W.heap[d + 1]? = some (.loop (R .ready none)) ∧ W.heap[d]? = some (.deferred (some [])))
  (fun i p W => I2 i p W ∧ W.heap[d + 1]? = some (.loop (R .ready none)) ∧ W.heap[d]? = some (.deferred (some [])))
  (fun W => ∃ c, Ix c W ∧ W.heap[d + 1]? = some (.loop (R .done (some c))) ∧ W.heap[d]? = some (.deferred (some [])))
  (fun i p W h => hbI i p W h.1) (fun i p W h => hbI2 i p W h.1) hent ?_ ?_ V ⟨vI, vL, vD⟩
 ·refine hs.mono ?_
  rintro e Y ⟨⟨v, rfl⟩, (⟨i, p, hlt, y1, y2, y3⟩ | ⟨c, y1, y2, y3⟩)⟩
  ·have e := run_endLoop (P := Tryz.prog) y2 (by rw [hR]; simp)
   rw [hR] at e
   exact ⟨none, _, e, hdone d i p _ (by omega) hlt (hI.putObj (s := (i, p)) _ y1 (by omega) y2 rfl) ((World.putObj_heap_other (by omega)).trans y3)⟩
  ·have e := run_endLoop (P := Tryz.prog) y2 (by rw [hR]; simp)
   rw [hR] at e
   exact ⟨some c, _, e, hstop d c _ (by omega) ((hIx c).putObj (s := ()) _ y1 (by omega) y2 rfl) ((World.putObj_heap_other (by omega)).trans y3)⟩
 ·rintro i p W0 ⟨hi0, hl0, hk0⟩ hlt
  have hy := run_yield (P := Tryz.prog) (args := #[.int .i64 (i : Int), .int .i64 p]) hl0 (by rw [hR]; exact hps.symm)
  rw [hR] at hy
  refine ⟨fn, _, assign, body, hy, roundIn_of_wpIn hfn (hassign _ i p W0 _ hi0 fun a' hax => ?_)⟩
  have hltd : d + 1 < W0.heap.size := (Array.getElem?_eq_some_iff.1 hl0).1
  refine ⟨_, run_beginRound hl0 (by rw [hR]), ?_⟩
  obtain ⟨X, hX⟩ : ∃ X, W0.putObj (d + 1) (.loop { R .ready none with state := .busy }) = X := ⟨_, rfl⟩
  have xL : X.heap[d + 1]? = some (.loop { R .ready none with state := .busy }) := by rw [← hX]; exact World.putObj_heap_same hltd
  have xD : X.heap[d]? = some (.deferred (some [])) := by rw [← hX]; exact (World.putObj_heap_other (by omega)).trans hk0
  have xI : I i p X := by rw [← hX]; exact hI.putObj (s := (i, p)) _ hi0 (by omega) hl0 rfl
  rw [hX]
  have close : ∀ (j : Option Code) (Y : World), KeepsFrom d X Y → ∃ Z, Z = Y.putObj (d + 1) (.loop (R (if j.isNone then .ready else .done) j)) ∧ (Instr.endRound (d + 1) j).run Tryz.prog Y = .ok (.bool j.isNone) Z ∧ Y.heap[d + 1]? = some (.loop { R .ready none with state := .busy }) ∧
    Z.heap[d + 1]? = some (.loop (R (if j.isNone then .ready else .done) j)) ∧ Z.heap[d]? = some (.deferred (some [])) := by
   intro j Y hXY
   have yL := hXY.same _ _ (by omega) xL rfl
   have yD := hXY.same _ _ (Nat.le_refl _) xD rfl
   have he := run_endRound (P := Tryz.prog) j yL
   refine ⟨_, rfl, ?_, yL, World.putObj_heap_same (Array.getElem?_eq_some_iff.1 yL).1, (World.putObj_heap_other (by omega)).trans yD⟩
   rw [hR] at he ⊢
   exact he
  refine wpIn_mono (hbody _ i p a' X xI hlt hax) ?_
  have jump : ∀ (c : Code) (Y : World), KeepsFrom d X Y → Ix c Y → ∃ v Z, (Instr.endRound (d + 1) (some c)).run Tryz.prog Y = .ok v Z ∧
    ((Ending.returned v = .returned (.bool true) ∧ (I2 i p Z ∧ Z.heap[d + 1]? = some (.loop (R .ready none)) ∧ Z.heap[d]? = some (.deferred (some [])))) ∨
     (Ending.returned v = .returned (.bool false) ∧ ∃ c, Ix c Z ∧ Z.heap[d + 1]? = some (.loop (R .done (some c))) ∧ Z.heap[d]? = some (.deferred (some [])))) := by
   intro c Y hXY hc
   obtain ⟨Z, hZ, z1, z2, z3, z4⟩ := close (some c) Y hXY
   exact ⟨_, Z, z1, .inr ⟨rfl, c, by rw [hZ]; exact (hIx c).putObj (s := ()) _ hc (by omega) z2 rfl, z3, z4⟩⟩
  intro e a3 Y hp
  cases e with
  | normal =>
   obtain ⟨p1, p3⟩ := hp
   obtain ⟨Z, hZ, z1, z2, z3, z4⟩ := close none Y p1
   exact ⟨_, Z, z1, .inl ⟨rfl, ⟨by rw [hZ]; exact hI2.putObj (s := (i, p)) _ p3 (by omega) z2 rfl, z3, z4⟩⟩⟩
  | ret => exact jump .ret Y hp.1 hp.2
  | exit id => exact jump (.exit id) Y hp.1 hp.2
  | goto t => exact jump (.goto t) Y hp.1 hp.2
  | panic ch => exact hp.elim
  | outgrown => exact hp.elim
 ·rintro i p W0 ⟨hi0, hl0, hk0⟩
  refine (hread i p W0 hi0).mono ?_
  rintro e W' ⟨p', rfl, bx, hk, hi⟩
  refine ⟨p', rfl, bx, hi, ?_, ?_⟩
  ·exact (Below.heap_setCell W' ⟨pf, 0, none⟩ _ (d + 1) (by show d + 1 ≠ pf; omega)).trans (hk.same _ _ (by omega) hl0 rfl)
  ·exact (Below.heap_setCell W' ⟨pf, 0, none⟩ _ d (by show d ≠ pf; omega)).trans (hk.same _ _ (Nat.le_refl _) hk0 rfl)
def itemsF (rd : Nat → Except Int (Itm × Nat)) (en : Nat) : Nat → Nat → Nat → Except Int (List Itm)
 | 0, _, _ => .error 5
 | f + 1, i, p => if p < en then (if 512 ≤ i then .error 5 else match rd p with
   | .error e => .error e
   | .ok (x, q) => match itemsF rd en f (i + 1) q with
    | .error e => .error e
    | .ok xs => .ok (x :: xs)) else .ok []
def itemG (sub : Option (List UInt8 → Nat → Except Int (Itm × Nat))) (l : List UInt8) (a : Nat) : Except Int (Itm × Nat) :=
 if a < l.length ∧ 192 ≤ headC l a ∧ sub.isNone = true then .error 7 else
 if lookE l (a : Int) ≠ 0 then .error (lookE l (a : Int)) else
 if lookL l (a : Int) = false then .ok (.mk false ⟨((l.drop (lookFrom l a)).take (lookN l a)).toArray⟩ [], lookFrom l a + lookN l a) else
 match sub with
 | none => .error 7
 | some rd => match itemsF (rd (l.take (lookFrom l a + lookN l a))) (lookFrom l a + lookN l a) 513 0 (lookFrom l a) with
  | .error e => .error e
  | .ok xs => .ok (.mk true .empty xs, lookFrom l a + lookN l a)
def itemF : Nat → List UInt8 → Nat → Except Int (Itm × Nat)
 | 0 => itemG none
 | k + 1 => itemG (some (itemF k))
structure KeepsW (S : Nat → Prop) (W W' : World) : Prop where
 os : W'.os = W.os
 tape : W'.tape = W.tape
 output : W'.output = W.output
 size : W.heap.size ≤ W'.heap.size
 block : ∀ k, S k → W'.heap[k]? = W.heap[k]?
theorem item_info : (Tryz.prog.info? 106).map (fun i => (i.zero, i.size, i.bytes)) = some (some (.agg #[.bool false, .string .empty, .slice none 0 0]), 3, 48) := by kernel_rfl
theorem exec_load3 {W : World} {a : Act} {o : Oper} {b off : Nat} {x0 x1 x2 : Value} (x : Operand) (ho : o.op = .load 106 x) (hx : a.eval x = .pointer (some ⟨b, off, none⟩))
  (c0 : W.cell? ⟨b, off, none⟩ = some x0) (c1 : W.cell? ⟨b, off + 1, none⟩ = some x1) (c2 : W.cell? ⟨b, off + 2, none⟩ = some x2) :
  (execOp a.eval o).run Tryz.prog W = .ok (.value (.agg #[x0, x1, x2])) W := by
 have hagg := Tryz.isAgg106
 have hsz := Tryz.sizeOf106
 unfold execOp
 simp only [ho, hx]
 simp [go_sem, c0, c1, c2, hagg, hsz]
theorem exec_load1 {P : Program} {a : Act} {o : Oper} {W : World} (ty : TypeId) (x : Operand) (ho : o.op = .load ty x) (p : Addr) (hx : a.eval x = .pointer (some p)) (v : Value) (d : TypeDesc)
  (hu : P.underlying ty = some d) (hd : (match d with | .struct _ | .array _ _ => true | _ => false) = false) (hc : W.cell? p = some v) : (execOp a.eval o).run P W = .ok (.value v) W := by
 unfold execOp
 simp only [ho, hx, Instr.loadAt, Instr.sureAddr, Sem.run_bind, Sem.run_pure, Result.andThen_ok, load_cell hu hd hc]
theorem held_store {P : Program} {ops : Array Oper} {md : Region.Mode} {Q : Exit → Act → World → Prop} {S : World → Prop} {i fuel : Nat} {listed : Array Bool} {oi : Oper} {a : Act} {w w' : World} (hi : ops[i]? = some oi) (hw : Region.wanted oi (yielded ops a.tmps) = true) (hrun : (execOp a.eval oi).run P w = .ok .skip w') (hS : S w')
  (h : wpAnyH P md ops Q S fuel (listed.setIfInBounds i true) (a.put oi.dst undef) w') : wpOp P ops Q i (Behind P ops md Q S fuel listed i) a w := by
 unfold wpOp
 simp only [hi, hw, if_true]
 refine .inl ?_
 unfold Oper.wp
 rw [hrun]
 exact ⟨hS, h⟩
theorem exec_store3 {W : World} {a : Act} {o : Oper} {g off : Nat} {cur : Array Value} {t : TypeId} {b0 : Bool} {s0 : ByteArray} {A : Option Addr} {n c : Nat} (x y : Operand) (ho : o.op = .store 106 x y) (hx : a.eval x = .pointer (some ⟨g, off, none⟩)) (hy : a.eval y = .agg #[.bool b0, .string s0, .slice A n c])
  (hb : Blk W g t cur) (hsz : off + 2 < cur.size) :
  (execOp a.eval o).run Tryz.prog W = .ok .skip (((W.setCell ⟨g, off, none⟩ (.bool b0)).setCell ⟨g, off + 1, none⟩ (.string s0)).setCell ⟨g, off + 2, none⟩ (.slice A n c)) := by
 have hsz' := Tryz.sizeOf106
 have c0 : W.cell? ⟨g, off, none⟩ = some cur[off] := by rw [hb.cell]; exact Array.getElem?_eq_getElem (by omega)
 have c1 : W.cell? ⟨g, off + 1, none⟩ = some cur[off + 1] := by rw [hb.cell]; exact Array.getElem?_eq_getElem (by omega)
 have c2 : W.cell? ⟨g, off + 2, none⟩ = some cur[off + 2] := by rw [hb.cell]; exact Array.getElem?_eq_getElem (by omega)
 have f0 := hb.frozen off; have f1 := hb.frozen (off + 1); have f2 := hb.frozen (off + 2)
 unfold execOp
 simp only [ho, hx, hy]
 simp [go_sem, c0, c1, c2, f0, f1, f2, hsz']
theorem own_last {W : World} {base g cap k : Nat} {cells : List Value} {z0 z1 z2 : Value} (x0 x1 x2 : Value) (hl : cells.length = k * 3) (h : W.ownsRow base 106 3 (.slice (some ⟨g, 0, none⟩) (k + 1) cap) (k + 1) (cells ++ [z0, z1, z2])) :
  ∃ cur, Blk W g 106 cur ∧ k * 3 + 2 < cur.size ∧ (((W.setCell ⟨g, k * 3, none⟩ x0).setCell ⟨g, k * 3 + 1, none⟩ x1).setCell ⟨g, k * 3 + 2, none⟩ x2).ownsRow base 106 3 (.slice (some ⟨g, 0, none⟩) (k + 1) cap) (k + 1) (cells ++ [x0, x1, x2]) := by
 rcases h.2 with ⟨hv, _⟩ | ⟨g', cap', cur, hv, hb, hh, hn, hc, hz, hx⟩
 ·cases hv
 simp only [Value.slice.injEq, Option.some.injEq, Addr.mk.injEq] at hv
 obtain ⟨⟨rfl, _, _⟩, _, rfl⟩ := hv
 have hB : Blk W g 106 cur := hh
 have hsz : k * 3 + 2 < cur.size := by
  have : (k + 1) * 3 ≤ cap * 3 := Nat.mul_le_mul_right _ hn
  omega
 refine ⟨cur, hB, hsz, by simp [hl]; omega, .inr ⟨g, cap, _, rfl, hb, ((hB.set_ (k * 3) x0).set_ (k * 3 + 1) x1).set_ (k * 3 + 2) x2, hn, hc, by simpa using hz, ?_⟩⟩
 refine List.ext_getElem? fun j => ?_
 have hxj : ∀ j, j < (k + 1) * 3 → cur[j]? = (cells ++ [z0, z1, z2])[j]? := fun j hj => by rw [← hx, List.getElem?_take_of_lt hj]; simp
 by_cases hj : j < (k + 1) * 3
 ·rw [List.getElem?_take_of_lt hj, Array.getElem?_toList, Array.getElem?_setIfInBounds, Array.getElem?_setIfInBounds, Array.getElem?_setIfInBounds]
  by_cases h1 : j < k * 3
  ·rw [if_neg (by omega), if_neg (by omega), if_neg (by omega), hxj j hj, List.getElem?_append_left (by omega), List.getElem?_append_left (by omega)]
  ·rw [List.getElem?_append_right (by omega), hl]
   obtain ⟨q, rfl⟩ : ∃ q, j = k * 3 + q := ⟨j - k * 3, by omega⟩
   rw [show k * 3 + q - k * 3 = q by omega]
   have hq : q = 0 ∨ q = 1 ∨ q = 2 := by omega
   rcases hq with rfl | rfl | rfl
   ·rw [if_neg (by omega), if_neg (by omega), if_pos (by omega)]; simp; omega
   ·rw [if_neg (by omega), if_pos (by omega)]; simp; omega
   ·rw [if_pos (by omega)]; simp; omega
 ·rw [List.getElem?_eq_none (by rw [List.length_take]; simp; omega), List.getElem?_eq_none (by simp [hl]; omega)]
theorem exec_append {P : Program} {a : Act} {o : Oper} {w w' : World} (x y : Operand) (t : TypeId) (ho : o.op = .call { callee := .builtin .append, args := #[x, y], argTypes := #[t, t] }) (v u v' : Value) (hx : a.eval x = v) (hy : a.eval y = u) (hr : (Builtin.append_ #[t, t] o.type #[v, u]).run P w = .ok v' w') : (execOp a.eval o).run P w = .ok (.value v') w' := by
 unfold execOp
 simp only [ho, resolve, invoke, builtin, Sem.run_bind, Sem.run_pure, Result.andThen_ok, List.map_toArray, List.map_cons, List.map_nil, hx, hy, hr]
theorem own_far {W : World} {base g size n cap : Nat} {e : TypeId} {xs : List Value} (h : W.ownsRow base e size (.slice (some ⟨g, 0, none⟩) n cap) n xs) {p : Addr} (hp : g ≠ p.block) (u : Value) : (W.setCell p u).ownsRow base e size (.slice (some ⟨g, 0, none⟩) n cap) n xs := by
 refine ⟨h.1, ?_⟩
 rcases h.2 with h1 | ⟨g', cap', cur, hv, hb, hh, rest⟩
 ·exact .inl h1
 ·refine .inr ⟨g', cap', cur, hv, hb, ?_, rest⟩
  have : g = g' := by injection hv with h1; injection h1 with h1; injection h1
  subst this
  exact (Below.heap_setCell W p u g hp).trans hh
theorem KeepsW.set {S : Nat → Prop} {W W' : World} (h : KeepsW S W W') {p : Addr} (hp : ¬ S p.block) (u : Value) : KeepsW S W (W'.setCell p u) :=
 ⟨h.os, h.tape, h.output, by simpa [World.setCell] using h.size, fun k hk => (Below.heap_setCell W' p u k (fun e => hp (e ▸ hk))).trans (h.block k hk)⟩
theorem exec_store1 {W : World} {a : Act} {o : Oper} {g off : Nat} {cur : Array Value} {t : TypeId} {A : Option Addr} {n c : Nat} (x y : Operand) (ho : o.op = .store 104 x y) (hx : a.eval x = .pointer (some ⟨g, off, none⟩)) (hy : a.eval y = .slice A n c)
  (hb : Blk W g t cur) (hsz : off < cur.size) : (execOp a.eval o).run Tryz.prog W = .ok .skip (W.setCell ⟨g, off, none⟩ (.slice A n c)) := by
 have c0 : W.cell? ⟨g, off, none⟩ = some cur[off] := by rw [hb.cell]; exact Array.getElem?_eq_getElem (by omega)
 have f0 := hb.frozen off
 have hu := Tryz.underlying104
 have hagg := Tryz.isAgg104
 unfold execOp
 simp only [ho, hx, hy]
 simp [go_sem, c0, f0]
theorem own_slice3 {w : World} {base : Nat} {e : TypeId} {size : Nat} {v : Value} {n : Nat} {xs : List Value} (h : w.ownsRow base e size v n xs) : ∃ A c, v = .slice A n c := by
 rcases h.2 with ⟨rfl, h0⟩ | ⟨g, cap, cur, rfl, _⟩
 ·exact ⟨none, 0, by rw [h0]⟩
 ·exact ⟨_, _, rfl⟩
theorem own_newB {w : World} {base : Nat} {e : TypeId} {size : Nat} {v : Value} {k : Nat} {xs : List Value} (h : w.ownsRow base e size v k xs) : v.ownBlock ≠ some w.heap.size := by
 rcases h.2 with ⟨rfl, _⟩ | ⟨g, cap, cur, rfl, _, hh, _⟩
 ·simp [Value.ownBlock]
 ·intro e'
  have : g = w.heap.size := by simpa [Value.ownBlock] using e'
  subst this
  have := (Array.getElem?_eq_some_iff.1 hh).1
  omega
theorem own_ltB {w : World} {base : Nat} {e : TypeId} {size : Nat} {v : Value} {k g : Nat} {xs : List Value} (h : w.ownsRow base e size v k xs) (hg : v.ownBlock = some g) : g < w.heap.size := by
 rcases h.2 with ⟨rfl, _⟩ | ⟨g', cap, cur, rfl, _, hh, _⟩
 ·simp [Value.ownBlock] at hg
 ·obtain rfl : g' = g := by simpa [Value.ownBlock] using hg
  exact (Array.getElem?_eq_some_iff.1 hh).1
theorem cell_three_new (W : World) (x0 x1 x2 : Value) (t : TypeId) : ∀ (j : Nat) (u : Value), [x0, x1, x2][j]? = some u → (W.alloc (.cells #[x0, x1, x2] t)).cell? ((⟨W.heap.size, 0, none⟩ : Addr).add j) = some u := by
 intro j u hj
 have hb := Blk.new W t #[x0, x1, x2]
 have := hb.cell j
 rw [Addr.add_mid, Nat.zero_add, this]
 simpa using hj
structure Held3 (w : World) (b3 : Nat) (v : Value) (k : Nat) (cells : List Value) (u : World) : Prop where
 blk : Blk u b3 106 #[.bool true, .string ⟨#[]⟩, v]
 own : u.ownsRow (b3 + 1) 106 3 v k cells
 grown : w.grownBy u none
 size : b3 + 1 ≤ u.heap.size
 low : w.heap.size ≤ b3
theorem Held3.kept {w u u' : World} {b3 k : Nat} {v : Value} {cells : List Value} (h : Held3 w b3 v k cells u) (hg : u.grownBy u' none) : Held3 w b3 v k cells u' := by
 obtain ⟨A, c, rfl⟩ := own_slice3 h.own
 refine ⟨h.blk.grown hg (by simp), h.own.kept hg (by cases A; exact .inl rfl; exact .inr (by simp [Value.ownBlock])), grown_self h.grown hg (by simp), ?_, h.low⟩
 have := hg.size; have := h.size; omega
theorem Held3.drew {w u : World} {b3 k : Nat} {v : Value} {cells : List Value} (h : Held3 w b3 v k cells u) : Held3 w b3 v k cells u.drew := h.kept (only_drew (World.grownBy.refl u none))
theorem Held3.drewN {w u : World} {b3 k : Nat} {v : Value} {cells : List Value} (h : Held3 w b3 v k cells u) (n : Nat) : Held3 w b3 v k cells (u.drewN n) := h.kept (only_drewN (World.grownBy.refl u none) n)
theorem Held3.put {w u u2 : World} {b3 k g' cap' : Nat} {v : Value} {cells news : List Value} (h : Held3 w b3 v k cells u) (hown : u2.ownsRow (b3 + 1) 106 3 (.slice (some ⟨g', 0, none⟩) (k + 1) cap') (k + 1) news) (hg : u.grownBy u2 v.ownBlock) :
  Held3 w b3 (.slice (some ⟨g', 0, none⟩) (k + 1) cap') (k + 1) news (u2.setCell ⟨b3, 2, none⟩ (.slice (some ⟨g', 0, none⟩) (k + 1) cap')) := by
 have hge : b3 + 1 ≤ g' := ownBlock_ge hown rfl
 have hb := (h.blk.grown hg (fun e => by have := ownBlock_ge h.own e.symm; omega)).set_ 2 (.slice (some ⟨g', 0, none⟩) (k + 1) cap')
 refine ⟨by simpa using hb, own_far hown (p := ⟨b3, 2, none⟩) (by show g' ≠ b3; omega) _, only_set (grown_self h.grown hg (fun j hj => .inr (by have := ownBlock_ge h.own hj; have := h.low; omega))) (p := ⟨b3, 2, none⟩) h.low _, ?_, h.low⟩
 have := hg.size; have := h.size; simp [World.setCell]; omega
end Go.Proofs.YtgclnikdkfpflaaGreatDoor
