/- What a head tells (look). -/
import Derived.Test.YtdflihfecfmpfaaDoorUnrA
namespace Go.Proofs.YtdflihfecfmpfaaDoor
open Go.RowKit Go.Shelf

def headC (l : List UInt8) (a : Nat) : Nat := (l.getD a 0).toNat
/-- a head, whatever stands behind it: what is wrong, where its own begins, how much it is -/
def rawE (l : List UInt8) (a : Nat) : Int := if headC l a < 128 then 0 else if (headC l a - 128) % 64 < 56 then 0 else lengthE l a ((headC l a - 128) % 64 - 55)
def rawFrom (l : List UInt8) (a : Nat) : Nat := if headC l a < 128 then a else if (headC l a - 128) % 64 < 56 then a + 1 else a + 1 + ((headC l a - 128) % 64 - 55)
def rawN (l : List UInt8) (a : Nat) : Nat := if headC l a < 128 then 1 else if (headC l a - 128) % 64 < 56 then (headC l a - 128) % 64 else lenB l a ((headC l a - 128) % 64 - 55)
/-- what is wrong with the head at a place -/
def lookE (l : List UInt8) (i : Int) : Int :=
  if i < 0 ∨ (l.length : Int) < i then 1 else if i = l.length then 3 else if rawE l i.toNat ≠ 0 then rawE l i.toNat else
  if l.length < rawFrom l i.toNat + rawN l i.toNat then 3 else if headC l i.toNat = 129 ∧ headC l (i.toNat + 1) < 128 then 8 else 0
def lookFrom (l : List UInt8) (i : Int) : Nat := if lookE l i = 0 then rawFrom l i.toNat else 0
def lookN (l : List UInt8) (i : Int) : Nat := if lookE l i = 0 then rawN l i.toNat else 0
def lookL (l : List UInt8) (i : Int) : Bool := if lookE l i = 0 then decide (192 ≤ headC l i.toNat) else false

theorem look_bad {l : List UInt8} {i e : Int} (h : lookE l i = e) (h0 : e ≠ 0) : lookFrom l i = 0 ∧ lookN l i = 0 ∧ lookL l i = false := by
  subst h
  exact ⟨if_neg h0, if_neg h0, if_neg h0⟩
theorem headC_lt (l : List UInt8) (a : Nat) : headC l a < 256 := by unfold headC; exact (l.getD a 0).toNat_lt
theorem only_weak {a w : World} (h : a.grownBy w none) (row : Option Nat) : a.grownBy w row := ⟨h.os, h.tape, h.output, h.size, fun i hi _ => h.block i hi (by simp)⟩
theorem rawFrom_le {l : List UInt8} {a : Nat} (ha : a < l.length) (h : rawE l a = 0) : rawFrom l a ≤ l.length ∧ a ≤ rawFrom l a ∧ rawFrom l a ≤ a + 4 ∧ a < rawFrom l a + rawN l a ∧ rawN l a ≤ 16777215 := by
  unfold rawE at h
  unfold rawFrom rawN
  split at h
  · rename_i h1; rw [if_pos h1, if_pos h1]; omega
  · rename_i h1
    rw [if_neg h1, if_neg h1]
    split at h
    · rename_i h2; rw [if_pos h2, if_pos h2]; have := headC_lt l a; omega
    · rename_i h2
      rw [if_neg h2, if_neg h2]
      unfold lengthE at h
      split at h
      · cases h
      · rename_i h3
        split at h
        · cases h
        · have := lenB_lt l a ((headC l a - 128) % 64 - 55) (by omega)
          omega

theorem look_ok {l : List UInt8} {a : Nat} (h : lookE l (a : Int) = 0) : a < l.length ∧ lookFrom l (a : Int) + lookN l (a : Int) ≤ l.length ∧ a ≤ lookFrom l (a : Int) ∧ a < lookFrom l (a : Int) + lookN l (a : Int) ∧ lookFrom l (a : Int) ≤ a + 4 ∧ lookL l (a : Int) = decide (192 ≤ headC l a) := by
  have h1 : lookFrom l (a : Int) = rawFrom l a := by unfold lookFrom; rw [if_pos h, Int.toNat_natCast]
  have h2 : lookN l (a : Int) = rawN l a := by unfold lookN; rw [if_pos h, Int.toNat_natCast]
  have h3 : lookL l (a : Int) = decide (192 ≤ headC l a) := by unfold lookL; rw [if_pos h, Int.toNat_natCast]
  rw [h1, h2, h3]
  unfold lookE at h
  split at h
  · cases h
  rename_i g1
  split at h
  · cases h
  rename_i g2
  rw [Int.toNat_natCast] at h
  split at h
  · rename_i g3; exact absurd h g3
  rename_i g3
  split at h
  · cases h
  have := rawFrom_le (l := l) (a := a) (by omega) (by omega)
  exact ⟨by omega, by omega, by omega, by omega, by omega, rfl⟩
theorem blk_set3 {w : World} {g : Nat} {t : TypeId} {a b c : Value} (h : Blk w g t #[a, b, c]) (x y z : Value) : Blk (((w.setCell ⟨g, 0, none⟩ x).setCell ⟨g, 1, none⟩ y).setCell ⟨g, 2, none⟩ z) g t #[x, y, z] := by
  have := ((h.set_ 0 x).set_ 1 y).set_ 2 z
  simpa using this
theorem only_set3 {a w : World} {row : Option Nat} (h : a.grownBy w row) {g : Nat} (hg : a.heap.size ≤ g) (x y z : Value) : a.grownBy (((w.setCell ⟨g, 0, none⟩ x).setCell ⟨g, 1, none⟩ y).setCell ⟨g, 2, none⟩ z) row :=
  only_set (only_set (only_set h (p := ⟨g, 0, none⟩) hg x) (p := ⟨g, 1, none⟩) hg y) (p := ⟨g, 2, none⟩) hg z

set_option maxRecDepth 100000 in
set_option maxHeartbeats 4000000 in
theorem look_any (s : ByteArray) (i : Int) (hs : s.size ≤ 9223372036854770000) (w : World) :
    Calls Tryd.prog 51 #[.string s, .int .i64 i] w fun e w' => e = .returned (.tuple #[.agg #[.int .i64 (lookFrom s.data.toList i : Nat), .int .i64 (lookN s.data.toList i : Nat), .bool (lookL s.data.toList i)], .int .i64 (lookE s.data.toList i)]) ∧ w.grownBy w' none := by
  obtain ⟨l, hl⟩ : ∃ l, s.data.toList = l := ⟨_, rfl⟩
  have hlz : l.length = s.size := by rw [← hl, ba_len]
  have hlen := fun a m h1 h2 h3 W => length_any s a m h1 (by omega) h2 h3 W
  rw [hl] at hlen ⊢
  have HS := Lib.hid hl; have HZ := Lib.hid hlz
  clear hl
  have hw0 := Blk.new w 84 #[.int .i64 0, .int .i64 0, .bool false]
  have hG0 : w.grownBy (w.alloc (.cells #[.int .i64 0, .int .i64 0, .bool false] 84)) none := only_alloc (World.grownBy.refl _ _) _
  by_cases h1 : i < 0 ∨ (s.size : Int) < i
  · have hE : lookE l i = 1 := by unfold lookE; rw [if_pos (by rw [hlz]; exact h1)]
    obtain ⟨b1, b2, b3⟩ := look_bad hE (by decide)
    rw [hE, b1, b2, b3]
    clear hE b1 b2 b3 hlz hlen
    by_cases h2 : i < 0
    · clear h1
      go_enter Tryd.func51, Tryd.ntmps51
      go_wp2_with fail
      refine bodyPost_ret (results_ct (fn := Tryd.f51) rfl _ _ _ _ rfl (load_own hw0)) rfl ?_
      exact ⟨by simp, hG0⟩
    · have d1 : decide (i < 0) = false := decide_eq_false h2
      have h3 : (s.size : Int) < i := by omega
      clear h1 h2
      go_enter Tryd.func51, Tryd.ntmps51
      go_wp2_with fail
      refine bodyPost_ret (results_ct (fn := Tryd.f51) rfl _ _ _ _ rfl (load_own hw0)) rfl ?_
      exact ⟨by simp, hG0⟩
  obtain ⟨a, rfl⟩ := Int.eq_ofNat_of_zero_le (show 0 ≤ i by omega)
  have ha : a ≤ s.size := by omega
  have d1 : decide ((a : Int) < 0) = false := decide_eq_false (by omega)
  have d1' : decide ((s.size : Int) < (a : Int)) = false := decide_eq_false (by omega)
  have d1'' : decide (s.size < a) = false := decide_eq_false (by omega)
  by_cases h2 : a = s.size
  · have hE : lookE l (a : Int) = 3 := by unfold lookE; rw [if_neg (by rw [hlz]; exact h1), if_pos (by omega)]
    obtain ⟨b1, b2, b3⟩ := look_bad hE (by decide)
    rw [hE, b1, b2, b3]
    clear hE b1 b2 b3 hlz hlen h1
    subst h2
    go_enter Tryd.func51, Tryd.ntmps51
    go_wp2_with fail
    refine bodyPost_ret (results_ct (fn := Tryd.f51) rfl _ _ _ _ rfl (load_own hw0)) rfl ?_
    exact ⟨by simp, hG0⟩
  have hal : a < l.length := by omega
  have d2 : ((a : Int) == (s.size : Int)) = false := by simp; omega
  have d2' : (a == s.size) = false := by simp; omega
  have hE0 : lookE l (a : Int) = if rawE l a ≠ 0 then rawE l a else if l.length < rawFrom l a + rawN l a then 3 else if headC l a = 129 ∧ headC l (a + 1) < 128 then 8 else 0 := by
    unfold lookE; rw [if_neg (by rw [hlz]; exact h1), if_neg (by omega), Int.toNat_natCast]
  have hid := fun W => idx_str s a (l.getD a 0) (by rw [HS.out]; exact at_getD 0 hal) W
  have hcl := headC_lt l a
  have hrle := rawFrom_le hal
  have hfr : lookE l (a : Int) = 0 → lookFrom l (a : Int) = rawFrom l a ∧ lookN l (a : Int) = rawN l a ∧ lookL l (a : Int) = decide (192 ≤ headC l a) := fun h => by
    unfold lookFrom lookN lookL
    rw [if_pos h, if_pos h, if_pos h, Int.toNat_natCast]
    exact ⟨rfl, rfl, rfl⟩
  have hcE : rawE l a = if headC l a < 128 then 0 else if (headC l a - 128) % 64 < 56 then 0 else lengthE l a ((headC l a - 128) % 64 - 55) := rfl
  have hcF : rawFrom l a = if headC l a < 128 then a else if (headC l a - 128) % 64 < 56 then a + 1 else a + 1 + ((headC l a - 128) % 64 - 55) := rfl
  have hcN : rawN l a = if headC l a < 128 then 1 else if (headC l a - 128) % 64 < 56 then (headC l a - 128) % 64 else lenB l a ((headC l a - 128) % 64 - 55) := rfl
  change ∀ W, (Instr.index 9 (.string s) (.int .i64 (a : Int))).run Tryd.prog W = .ok (.int .u8 ((headC l a : Nat) : Int)) W at hid
  obtain ⟨c, hc⟩ : ∃ c, headC l a = c := ⟨_, rfl⟩
  rw [hc] at hid hcl hfr hcE hcF hcN hE0
  obtain ⟨E, hE⟩ : ∃ e, lookE l (a : Int) = e := ⟨_, rfl⟩
  obtain ⟨F, hF⟩ : ∃ e, lookFrom l (a : Int) = e := ⟨_, rfl⟩
  obtain ⟨N, hN⟩ : ∃ e, lookN l (a : Int) = e := ⟨_, rfl⟩
  obtain ⟨L, hL⟩ : ∃ e, lookL l (a : Int) = e := ⟨_, rfl⟩
  have hbad := fun e (h : lookE l (a : Int) = e) h0 => look_bad h h0
  rw [hF, hN, hL] at hbad hfr
  rw [hE] at hE0 hfr hbad
  rw [hE, hF, hN, hL]
  clear hF hN hL hE hc
  have HBAD := Lib.hid hbad; have HFR := Lib.hid hfr; have HE0 := Lib.hid hE0; have HR := Lib.hid hrle
  clear hbad hfr hE0 hrle h1 h2
  by_cases h3 : c < 128
  · rw [if_pos h3] at hcE hcF hcN
    have hE : E = 0 := by rw [HE0.out, hcE, hcF, hcN, if_neg (by simp), if_neg (by omega), if_neg (by omega)]
    obtain ⟨rfl, rfl, rfl⟩ := HFR.out hE
    rw [hcF, hcN, decide_eq_false (by omega)]
    subst hE
    have d3 : decide ((c : Int) < 128) = true := decide_eq_true (by omega)
    have d3' : decide (c < 128) = true := decide_eq_true h3
    clear hcE hcF hcN hlen hlz h3
    go_enter Tryd.func51, Tryd.ntmps51
    go_wp2_with fail
    refine bodyPost_ret (results_ct (fn := Tryd.f51) rfl _ _ _ _ rfl (load_own (Blk.new w _ _))) rfl ?_
    exact ⟨by simp, only_alloc (World.grownBy.refl _ _) _⟩
  rw [if_neg h3] at hcE hcF hcN
  have d3 : decide ((c : Int) < 128) = false := decide_eq_false (by omega)
  have d3' : decide (c < 128) = false := decide_eq_false h3
  obtain ⟨b, hb⟩ : ∃ b, (c - 128) % 64 = b := ⟨_, rfl⟩
  have hb64 : b < 64 := by omega
  have v0 : IntKind.i64.wrap (c : Int) = (c : Int) := IntWalk.i64_in _ (by omega)
  have v1 : IntKind.i64.wrap ((c : Int) - 128) = (c : Int) - 128 := IntWalk.i64_in _ (by omega)
  have v2 : ((c : Int) - 128).tmod 64 = (b : Int) := by rw [Int.tmod_eq_emod_of_nonneg (by omega)]; omega
  have v3 : ((c : Int) - 128) % 64 = (b : Int) := by omega
  have v4 : IntKind.i64.wrap (b : Int) = (b : Int) := IntWalk.i64_in _ (by omega)
  have v5 : IntKind.i64.wrap ((a : Int) + 1) = (a : Int) + 1 := IntWalk.i64_in _ (by omega)
  rw [hb] at hcE hcF hcN
  by_cases h4 : b < 56
  · rw [if_pos h4] at hcE hcF hcN
    have d4 : decide ((56 : Int) ≤ (b : Int)) = false := decide_eq_false (by omega)
    have d4' : decide (56 ≤ b) = false := decide_eq_false (by omega)
    have v6 : IntKind.i64.wrap ((s.size : Int) - ((a : Int) + 1)) = (s.size : Int) - ((a : Int) + 1) := IntWalk.i64_in _ (by omega)
    by_cases h5 : l.length < a + 1 + b
    · have hE : E = 3 := by rw [HE0.out, hcE, hcF, hcN, if_neg (by simp), if_pos h5]
      obtain ⟨rfl, rfl, rfl⟩ := HBAD.out _ rfl (by rw [hE]; decide)
      subst hE
      have d5 : decide ((s.size : Int) - ((a : Int) + 1) < (b : Int)) = true := decide_eq_true (by omega)
      have d5' : (s.size : Int) - ((a : Int) + 1) < (b : Int) := by omega
      clear hcE hcF hcN hlen hlz h3 h4 h5
      go_enter Tryd.func51, Tryd.ntmps51
      go_wp2_with fail
      refine bodyPost_ret (results_ct (fn := Tryd.f51) rfl _ _ _ _ rfl (load_own (hw0.alloc _))) rfl ?_
      exact ⟨by simp, only_alloc hG0 _⟩
    · have d5 : decide ((s.size : Int) - ((a : Int) + 1) < (b : Int)) = false := decide_eq_false (by omega)
      have d5' : ¬ ((s.size : Int) - ((a : Int) + 1) < (b : Int)) := by omega
      have hE1 : E = if c = 129 ∧ headC l (a + 1) < 128 then 8 else 0 := by rw [HE0.out, hcE, hcF, hcN, if_neg (by simp), if_neg h5]
      by_cases h6 : c = 129
      · have hl1 : a + 1 < l.length := by omega
        have hid1 : ∀ W, (Instr.index 9 (.string s) (.int .i64 ((a : Int) + 1))).run Tryd.prog W = .ok (.int .u8 ((headC l (a + 1) : Nat) : Int)) W := fun W => by
          have := idx_str s (a + 1) (l.getD (a + 1) 0) (by rw [HS.out]; exact at_getD 0 hl1) W
          exact this
        generalize headC l (a + 1) = c1 at *
        obtain rfl : b = 1 := by omega
        by_cases h7 : c1 < 128
        · have hE : E = 8 := by rw [hE1, if_pos ⟨h6, h7⟩]
          obtain ⟨rfl, rfl, rfl⟩ := HBAD.out _ rfl (by rw [hE]; decide)
          subst hE; subst h6
          have d7 : decide ((c1 : Int) < 128) = true := decide_eq_true (by omega)
          have d7' : decide (c1 < 128) = true := decide_eq_true h7
          clear hcE hcF hcN hlen hlz h3 h4 h5 hE1 h7 hb
          go_enter Tryd.func51, Tryd.ntmps51
          go_wp2_with fail
          refine bodyPost_ret (results_ct (fn := Tryd.f51) rfl _ _ _ _ rfl (load_own (hw0.alloc _))) rfl ?_
          exact ⟨by simp, only_alloc hG0 _⟩
        · have hE : E = 0 := by rw [hE1, if_neg (by omega)]
          obtain ⟨rfl, rfl, rfl⟩ := HFR.out hE
          rw [hcF, hcN, decide_eq_false (by omega)]
          subst hE; subst h6
          have d7 : decide ((c1 : Int) < 128) = false := decide_eq_false (by omega)
          have d7' : decide (c1 < 128) = false := decide_eq_false h7
          clear hcE hcF hcN hlen hlz h3 h4 h5 hE1 h7 hb
          go_enter Tryd.func51, Tryd.ntmps51
          go_wp2_with fail
          refine bodyPost_ret (results_ct (fn := Tryd.f51) rfl _ _ _ _ rfl (load_own ((Blk.new w _ _).alloc _))) rfl ?_
          exact ⟨by simp, only_alloc (only_alloc (World.grownBy.refl _ _) _) _⟩
      · have hE : E = 0 := by rw [hE1, if_neg (by omega)]
        obtain ⟨rfl, rfl, rfl⟩ := HFR.out hE
        rw [hcF, hcN]
        subst hE
        have d6 : ((c : Int) == 129) = false := by simp; omega
        have d6' : (c == 129) = false := by simpa using h6
        obtain ⟨L0, hL0⟩ : ∃ x, decide (192 ≤ c) = x := ⟨_, rfl⟩
        have d8 : decide ((192 : Int) ≤ (c : Int)) = L0 := by rw [← hL0]; apply decide_eq_decide.2; omega
        rw [hL0]
        clear hcE hcF hcN hlen hlz h3 h4 h5 hE1 h6 hb
        go_enter Tryd.func51, Tryd.ntmps51
        go_wp2_with fail
        refine bodyPost_ret (results_ct (fn := Tryd.f51) rfl _ _ _ _ rfl (load_own ((Blk.new w _ _).alloc _))) rfl ?_
        exact ⟨by simp, only_alloc (only_alloc (World.grownBy.refl _ _) _) _⟩
  · rw [if_neg h4] at hcE hcF hcN
    have d4 : decide ((56 : Int) ≤ (b : Int)) = true := decide_eq_true (by omega)
    have d4' : decide (56 ≤ b) = true := decide_eq_true (by omega)
    obtain ⟨m, hm⟩ : ∃ m, b - 55 = m := ⟨_, rfl⟩
    have v7 : IntKind.i64.wrap ((b : Int) - 56) = (b : Int) - 56 := IntWalk.i64_in _ (by omega)
    have v8 : IntKind.i64.wrap ((b : Int) - 56 + 1) = (m : Int) := by rw [IntWalk.i64_in _ (by omega)]; omega
    have v9 : (b : Int) - 56 + 1 = (m : Int) := by omega
    have v10 : IntKind.i64.wrap (m : Int) = (m : Int) := IntWalk.i64_in _ (by omega)
    have d6 : ((c : Int) == 129) = false := by simp; omega
    have d6' : (c == 129) = false := by simp; omega
    have h6 : ¬ c = 129 := by omega
    rw [hm] at hcE hcF hcN
    have hl := hlen a m (by omega) (by omega) (by omega)
    have hlb := lenB_lt l a m
    have hlE : lengthE l a m = 0 → m ≤ 3 ∧ a + 1 + m ≤ l.length := fun h => by
      unfold lengthE at h
      split at h
      · cases h
      · split at h
        · cases h
        · omega
    generalize lengthE l a m = e0 at *
    generalize lenB l a m = V at *
    have HLB := Lib.hid hlb; have HLE := Lib.hid hlE
    clear hlen hlb hlE
    have hx0 := hw0.alloc (.cells #[.int .i64 ((a : Int) + 1), .int .i64 (b : Int), .bool false] 84)
    have hx1 := Blk.new (w.alloc (.cells #[.int .i64 0, .int .i64 0, .bool false] 84)) 84 #[.int .i64 ((a : Int) + 1), .int .i64 (b : Int), .bool false]
    rw [World.size_alloc] at hx1
    have hG1 : w.grownBy ((w.alloc (.cells #[.int .i64 0, .int .i64 0, .bool false] 84)).alloc (.cells #[.int .i64 ((a : Int) + 1), .int .i64 (b : Int), .bool false] 84)) none := only_alloc hG0 _
    clear h3 h4 hb hm
    go_enter Tryd.func51, Tryd.ntmps51
    go_wp2_with fail
    refine (hl _).mono ?_
    rintro e w2 ⟨rfl, hg⟩
    have y0 := hx0.grown hg (by simp)
    have y1 := hx1.grown hg (by simp)
    have hG2 := only_weak (grown_self hG1 hg (by simp)) none
    clear hl hx0 hx1 hG0 hG1 hg hw0
    have k0 := y0.cell 0; have k1 := y0.cell 1; have k2 := y0.cell 2
    have j0 := y1.cell 0; have j1 := y1.cell 1; have j2 := y1.cell 2
    have f0 := y0.frozen 0; have f1 := y0.frozen 1; have f2 := y0.frozen 2
    have g0 := y1.frozen 0; have g1 := y1.frozen 1; have g2 := y1.frozen 2
    simp only [List.getElem?_toArray, List.getElem?_cons_zero, List.getElem?_cons_succ] at k0 k1 k2 j0 j1 j2
    by_cases h7 : e0 = 0
    · subst h7
      simp only [if_true]
      obtain ⟨hm3, hml⟩ := HLE.out rfl
      have hV := HLB.out hm3
      have w2' : IntKind.i64.wrap ((s.size : Int) - ((a : Int) + 1 + (m : Int))) = (s.size : Int) - ((a : Int) + 1 + (m : Int)) := IntWalk.i64_in _ (by omega)
      by_cases h8 : l.length < a + 1 + m + V
      · have hE : E = 3 := by rw [HE0.out, hcE, hcF, hcN, if_neg (by simp), if_pos h8]
        obtain ⟨rfl, rfl, rfl⟩ := HBAD.out _ rfl (by rw [hE]; decide)
        subst hE
        have d5' : (s.size : Int) - ((a : Int) + 1 + (m : Int)) < (V : Int) := by omega
        clear hcE hcF hcN hlz h6 h8
        have y2 := blk_set3 y1 (.int .i64 ((a : Int) + 1 + (m : Int))) (.int .i64 (V : Int)) (.bool false)
        have hG3 := only_set3 hG2 (g := w.heap.size + 1) (by omega) (.int .i64 ((a : Int) + 1 + (m : Int))) (.int .i64 (V : Int)) (.bool false)
        have y3 : Blk (((w2.setCell ⟨w.heap.size + 1, 0, none⟩ (.int .i64 ((a : Int) + 1 + (m : Int)))).setCell ⟨w.heap.size + 1, 1, none⟩ (.int .i64 (V : Int))).setCell ⟨w.heap.size + 1, 2, none⟩ (.bool false)) w.heap.size 84 #[.int .i64 0, .int .i64 0, .bool false] := ((y0.far (p := ⟨w.heap.size + 1, 0, none⟩) (by simp) _).far (p := ⟨w.heap.size + 1, 1, none⟩) (by simp) _).far (p := ⟨w.heap.size + 1, 2, none⟩) (by simp) _
        go_wp2_with fail
        refine bodyPost_ret (results_ct (fn := Tryd.f51) rfl _ _ _ _ rfl (load_own (blk_set3 y3 _ _ _))) rfl ?_
        exact ⟨by simp, only_set3 hG3 (Nat.le_refl _) _ _ _⟩
      · have hE : E = 0 := by rw [HE0.out, hcE, hcF, hcN, if_neg (by simp), if_neg h8, if_neg (by omega)]
        obtain ⟨hF1, hF2, hF3⟩ := HFR.out hE
        rw [hcF] at hF1
        rw [hcN] at hF2
        subst hF1; subst hF2; subst hE
        have d5' : ¬ ((s.size : Int) - ((a : Int) + 1 + (m : Int)) < (N : Int)) := by omega
        have d5 : decide ((s.size : Int) - ((a : Int) + 1 + (m : Int)) < (N : Int)) = false := decide_eq_false d5'
        obtain ⟨L0, hL0⟩ : ∃ x, decide (192 ≤ c) = x := ⟨_, rfl⟩
        have d8 : decide ((192 : Int) ≤ (c : Int)) = L0 := by rw [← hL0]; apply decide_eq_decide.2; omega
        rw [hL0] at hF3
        subst hF3
        clear hcE hcF hcN hlz h6 h8
        have y2 := (blk_set3 y1 (.int .i64 ((a : Int) + 1 + (m : Int))) (.int .i64 (N : Int)) (.bool false)).set_ 2 (.bool L)
        have hG3 := only_set (only_set3 hG2 (g := w.heap.size + 1) (by omega) (.int .i64 ((a : Int) + 1 + (m : Int))) (.int .i64 (N : Int)) (.bool false)) (p := ⟨w.heap.size + 1, 2, none⟩) (by simp) (.bool L)
        have y3 := (((y0.far (p := ⟨w.heap.size + 1, 0, none⟩) (by simp) (.int .i64 ((a : Int) + 1 + (m : Int)))).far (p := ⟨w.heap.size + 1, 1, none⟩) (by simp) (.int .i64 (N : Int))).far (p := ⟨w.heap.size + 1, 2, none⟩) (by simp) (.bool false)).far (p := ⟨w.heap.size + 1, 2, none⟩) (by simp) (.bool L)
        have hld := load_own y2
        have i0 := y2.cell 0; have i1 := y2.cell 1; have i2 := y2.cell 2
        have h0 := y3.cell 0; have h1 := y3.cell 1; have h2 := y3.cell 2
        have q0 := y3.frozen 0; have q1 := y3.frozen 1; have q2 := y3.frozen 2
        simp only [List.setIfInBounds_toArray, List.set_cons_zero, List.set_cons_succ, List.getElem?_toArray, List.getElem?_cons_zero, List.getElem?_cons_succ] at i0 i1 i2 h0 h1 h2 hld
        go_wp2_with fail
        refine bodyPost_ret (results_ct (fn := Tryd.f51) rfl _ _ _ _ rfl (load_own (blk_set3 y3 _ _ _))) rfl ?_
        exact ⟨by simp, only_set3 hG3 (Nat.le_refl _) _ _ _⟩
    · have hE : E = e0 := by rw [HE0.out, hcE, if_pos h7]
      obtain ⟨rfl, rfl, rfl⟩ := HBAD.out _ rfl (by rw [hE]; exact h7)
      subst hE
      have d9 : (E != 0) = true := by simpa using h7
      have h7' := Lib.hid h7
      clear hcE hcF hcN hlz h6
      simp only [if_neg h7]
      clear h7
      have y3 := ((y0.far (p := ⟨w.heap.size + 1, 0, none⟩) (by simp) (.int .i64 0)).far (p := ⟨w.heap.size + 1, 1, none⟩) (by simp) (.int .i64 0)).far (p := ⟨w.heap.size + 1, 2, none⟩) (by simp) (.bool false)
      have hG3 := only_set3 hG2 (g := w.heap.size + 1) (by omega) (.int .i64 0) (.int .i64 0) (.bool false)
      go_wp2_with fail
      refine bodyPost_ret (results_ct (fn := Tryd.f51) rfl _ _ _ _ rfl (load_own (blk_set3 y3 _ _ _))) rfl ?_
      exact ⟨by simp, only_set3 hG3 (Nat.le_refl _) _ _ _⟩
end Go.Proofs.YtdflihfecfmpfaaDoor
