/- Unrow of package bits; the document's Bools and Numbers: what they answer. -/
import Derived.Test.YtdeeclmmfhppgaaBitsU
import Derived.Test.YtdeeclmmfhppgaaUnvar
namespace Go.Proofs.Ytdeeclmmfhppgaa
open Go.RowKit Go.Shelf

/-- numbers, one behind the other, from a place on -/
def unrowGo (l : List UInt8) : Nat → Nat → List Int × Nat × Int
  | 0, a => ([], a, 0)
  | k + 1, a => let r := unvarS l (a : Int)
    if r.2.2 ≠ 0 then ([], 0, r.2.2) else let q := unrowGo l k r.2.1
      if q.2.2 ≠ 0 then ([], 0, q.2.2) else ((r.1.toNat : Int) :: q.1, q.2.1, 0)
def ahead (xs : List Int) (q : List Int × Nat × Int) : List Int × Nat × Int := if q.2.2 ≠ 0 then ([], 0, q.2.2) else (xs ++ q.1, q.2.1, 0)
theorem unrow_bad (l : List UInt8) : ∀ k a, (unrowGo l k a).2.2 ≠ 0 → (unrowGo l k a).1 = [] ∧ (unrowGo l k a).2.1 = 0
  | 0, a, h => absurd rfl h
  | k + 1, a, h => by
    rw [unrowGo] at h ⊢
    simp only at h ⊢
    split at h
    · rename_i h1; rw [if_pos h1]; exact ⟨rfl, rfl⟩
    · rename_i h1
      rw [if_neg h1]
      split at h
      · rename_i h2; rw [if_pos h2]; exact ⟨rfl, rfl⟩
      · exact absurd rfl h
theorem ahead_nil (l : List UInt8) (k a : Nat) : ahead [] (unrowGo l k a) = unrowGo l k a := by
  unfold ahead
  split
  · rename_i h
    obtain ⟨h1, h2⟩ := unrow_bad l k a h
    rw [← h1, ← h2]
  · rename_i h
    have : (unrowGo l k a).2.2 = 0 := Classical.not_not.1 h
    rw [← this]; rfl
theorem ahead_step (l : List UInt8) (xs : List Int) (k a : Nat) (r : BitVec 64) (to : Nat) (h : unvarS l (a : Int) = (r, to, 0)) : ahead xs (unrowGo l (k + 1) a) = ahead (xs ++ [(r.toNat : Int)]) (unrowGo l k to) := by
  rw [unrowGo]
  simp only [h]
  rw [if_neg (by simp)]
  by_cases h2 : (unrowGo l k to).2.2 ≠ 0
  · rw [if_pos h2]; simp [ahead, h2]
  · rw [if_neg h2]; simp [ahead, h2]
theorem ahead_fail (l : List UInt8) (xs : List Int) (k a : Nat) (r : BitVec 64) (to : Nat) (e : Int) (he : e ≠ 0) (h : unvarS l (a : Int) = (r, to, e)) : ahead xs (unrowGo l (k + 1) a) = ([], 0, e) := by
  rw [unrowGo]
  simp only [h]
  rw [if_pos he]
  simp [ahead, he]
def unrowS (l : List UInt8) (at_ n : Int) : List Int × Nat × Int := if n < 0 ∨ 4096 < n ∨ at_ < 0 ∨ (l.length : Int) < at_ then ([], 0, 1) else unrowGo l n.toNat at_.toNat
theorem unvarS_le (l : List UInt8) (a : Nat) (r : BitVec 64) (to : Nat) (h : unvarS l (a : Int) = (r, to, 0)) : to ≤ l.length := (unvarS_only l a r to h).2.1

theorem info_u64 : (Try.prog.info? 38).map (fun i => (i.zero, i.size, i.bytes)) = some (some (.int .u64 0), 1, 8) := by kernel_rfl

set_option maxRecDepth 100000 in
set_option maxHeartbeats 1000000 in
theorem unrow_any (s : ByteArray) (at_ n : Int) (hs : s.size ≤ 1000000000000) (w : World) :
    Calls Try.prog 15 #[.string s, .int .i64 at_, .int .i64 n] w fun e w' => ∃ v, e = .returned (.tuple #[v, .int .i64 ((unrowS s.data.toList at_ n).2.1 : Int), .int .i64 (unrowS s.data.toList at_ n).2.2]) ∧
      w'.ownsRow w.heap.size 38 1 v (unrowS s.data.toList at_ n).1.length ((unrowS s.data.toList at_ n).1.map (Value.int .u64)) ∧ Below w.heap.size w w' := by
  have hsl := ba_len s
  by_cases hbad : n < 0 ∨ 4096 < n ∨ at_ < 0 ∨ (s.size : Int) < at_
  · have he : unrowS s.data.toList at_ n = ([], 0, 1) := by unfold unrowS; rw [if_pos (by rw [hsl]; exact hbad)]
    rw [he]
    clear he hsl
    go_enter Try.func15, Try.ntmps15
    by_cases h1 : n < 0
    · go_wp2_with fail
      go_ret3
      exact ⟨_, rfl, World.ownsRow_nil _ _ _ _, Below.refl _ _⟩
    · by_cases h2 : 4096 < n
      · go_wp2_with fail
        go_ret3
        exact ⟨_, rfl, World.ownsRow_nil _ _ _ _, Below.refl _ _⟩
      · have d1 : decide (n < 0) = false := by simpa using h1
        have d2 : decide (4096 < n) = false := by simpa using h2
        by_cases h3 : at_ < 0
        · go_wp2_with fail
          go_ret3
          exact ⟨_, rfl, World.ownsRow_nil _ _ _ _, Below.refl _ _⟩
        · have d3 : decide (at_ < 0) = false := by simpa using h3
          have h4 : (s.size : Int) < at_ := by omega
          go_wp2_with fail
          go_ret3
          exact ⟨_, rfl, World.ownsRow_nil _ _ _ _, Below.refl _ _⟩
  · obtain ⟨a0, rfl⟩ := Int.eq_ofNat_of_zero_le (show 0 ≤ at_ by omega)
    obtain ⟨N, rfl⟩ := Int.eq_ofNat_of_zero_le (show 0 ≤ n by omega)
    have he : unrowS s.data.toList (a0 : Int) (N : Int) = unrowGo s.data.toList N a0 := by unfold unrowS; rw [if_neg (by rw [hsl]; exact hbad)]; rfl
    rw [he]
    have hN : N ≤ 4096 := by omega
    have ha : a0 ≤ s.size := by omega
    have d1 : decide ((N : Int) < 0) = false := by simp
    have d2 : decide (4096 < (N : Int)) = false := by simp; omega
    have d3 : decide ((a0 : Int) < 0) = false := by simp
    have d4 : decide ((s.size : Int) < (a0 : Int)) = false := by simp; omega
    have d5 : decide (s.size < a0) = false := by simp; omega
    obtain ⟨R, hR⟩ : ∃ R, unrowGo s.data.toList N a0 = R := ⟨_, rfl⟩
    rw [hR]
    have HR := Lib.hid hR
    have HSL := Lib.hid hsl
    clear he hbad hR hsl
    obtain ⟨i0, hi, hz0, hz1, hz2⟩ := info_parts info_u64
    go_enter Try.func15, Try.ntmps15
    go_wp2_with fail
    go_loopw [1, 9, 30] (fun p v i wr => ∃ (k a : Nat) (xs : List Int), i = .int .i64 (k : Int) ∧ p = .int .i64 (a : Int) ∧ k ≤ N ∧ a ≤ s.size ∧ wr.ownsRow w.heap.size 38 1 v xs.length (xs.map (Value.int .u64)) ∧ xs.length ≤ k ∧ Hid (ahead xs (unrowGo s.data.toList (N - k) a) = R) ∧ Below w.heap.size w wr) (fun _ _ i _ => N - (intOf i).toNat)
    case atStart => exact ⟨0, a0, [], rfl, rfl, by omega, ha, World.ownsRow_nil _ _ _ _, by simp, by show ahead [] (unrowGo _ (N - 0) a0) = R; rw [ahead_nil]; exact HR.out, Below.refl _ _⟩
    case round =>
      obtain ⟨k, a, xs, rfl, rfl, hk, ha, hown, hxk, hst, hbel⟩ := hrel
      have hsz := hbel.size
      obtain ⟨A, cc, rfl, _⟩ := own_slice hown
      by_cases hlt : k < N
      · have hun := unvar_any s (a : Int) hs wr
        obtain ⟨r, to, e0, hr⟩ : ∃ r to e0, unvarS s.data.toList (a : Int) = (r, to, e0) := ⟨_, _, _, rfl⟩
        rw [hr] at hun
        obtain ⟨m, hm⟩ : ∃ m, N - k = m + 1 := ⟨N - k - 1, by omega⟩
        have hst' := hst.out
        rw [hm] at hst'
        by_cases he0 : e0 = 0
        · subst he0
          have hto := unvarS_le _ _ _ _ hr
          rw [HSL.out] at hto
          rw [ahead_step _ _ _ _ _ _ hr] at hst'
          have HST := Lib.hid hst'
          have HM := Lib.hid hm
          clear hr hst hst' hm
          go_wp2_with fail
          refine hun.mono ?_
          rintro e w2 ⟨rfl, hb2⟩
          have hown2 := hown.kept (grown_of_below hb2) (Classical.em _)
          have hbel2 : Below w.heap.size w w2 := hbel.trans (hb2.mono hsz)
          have hsz2 := hbel2.size
          clear hun hown hbel hb2
          go_wp2_with (at_builtin; refine wpList_append_own _ rfl _ _ 23 rfl w.heap.size 38 i0 (.int .u64 0) 1 8 Try.underlying23 hi hz0 hz1 hz2 rfl (by decide) _ _ _ rfl (hown2.alloc _) ⟨w2.heap.size, 0, none⟩ 1 1 [.int .u64 (r.toNat : Int)] rfl rfl (cell_one_new _ _ _) (by simp [Value.oneCell']) (by simp only [maxLen]; omega) (by omega) (by simp; omega) ?_; intro v' w4 hown4 hgrow _)
          obtain ⟨g', cap', rfl⟩ := ownsRow_succ hown4
          have hb4 : Below w.heap.size w w4 := (hbel2.alloc hsz2 _).grown hgrow (by simp; omega) (fun j hj => own_ge hown2 hj)
          go_wp2_with fail
          go_roundw
          case rel => exact ⟨k + 1, to, xs ++ [(r.toNat : Int)], by simp, rfl, by omega, hto, by simpa using hown4, by simp; omega, by show ahead _ (unrowGo _ (N - (k + 1)) to) = R; rw [show N - (k + 1) = m by have := HM.out; omega]; exact HST.out, hb4⟩
          case measure => simp [intOf]; omega
        · rw [ahead_fail _ _ _ _ _ _ _ he0 hr] at hst'
          have HST := Lib.hid hst'
          have hne : (e0 != 0) = true := by simpa using he0
          clear hr hst hst' hm he0
          go_wp2_with fail
          refine hun.mono ?_
          rintro e w2 ⟨rfl, hb2⟩
          have hbel2 : Below w.heap.size w w2 := hbel.trans (hb2.mono hsz)
          go_wp2_with fail
          go_ret3
          exact ⟨_, by rw [← HST.out]; rfl, by rw [← HST.out]; exact World.ownsRow_nil _ _ _ _, hbel2⟩
      · have hst' := hst.out
        rw [show N - k = 0 by omega] at hst'
        have hR2 : R = (xs, a, 0) := by rw [← hst']; simp [ahead, unrowGo]
        have HR2 := Lib.hid hR2
        have hfin : decide ((k : Int) < (N : Int)) = false := by simp; omega
        have hfin2 : decide (k < N) = false := by simp; omega
        clear hst hst' hR2
        go_wp2_with fail
        go_ret3
        exact ⟨_, by rw [HR2.out]; rfl, by rw [HR2.out]; exact hown, hbel⟩

set_option maxHeartbeats 1000000 in
theorem bools_any (B B' : Nat) (A A' : Option Addr) (n m c d : Nat) (xs ys : List Bool) (w : World) (h : Reads w B 1 A n (xs.map Value.bool)) (h' : Reads w B' 1 A' m (ys.map Value.bool)) (hn : n ≤ 281474976710656) (hm : m ≤ 281474976710656) :
    Calls Try.prog 16 #[.slice A n c, .slice A' m d] w fun e w' => e = .returned (.bool (decide (xs = ys))) ∧ Below w.heap.size w w' := by
  have hl : xs.length = n := by simpa using h.1
  have hl' : ys.length = m := by simpa using h'.1
  by_cases hnm : n = m
  · subst hnm
    have HL := Lib.hid hl; have HL' := Lib.hid hl'
    clear hl hl'
    go_enter Try.func16, Try.ntmps16
    go_wp2_with fail
    go_loopw [5] (fun i wr => ∃ k : Nat, i = .int .i64 k ∧ k ≤ n ∧ (∃ q, wr = w.drewN q) ∧ Hid (∀ i : Nat, i < k → xs.getD i false = ys.getD i false)) (fun i _ => n - (intOf i).toNat)
    case atStart => exact ⟨0, rfl, by omega, ⟨0, rfl⟩, by intro i h1; omega⟩
    case round =>
      obtain ⟨k, rfl, h1, ⟨q, rfl⟩, h2⟩ := hrel
      by_cases hlt : k < n
      · obtain ⟨b, off, rfl, _, hc⟩ := h.bools hlt
        obtain ⟨b', off', rfl, _, hc'⟩ := h'.bools hlt
        have hc1 := hc k hlt
        have hc2 := hc' k hlt
        have q0 : (k : Int) < (n : Int) := by omega
        have h2' := Lib.hid h2.out
        obtain ⟨x, hx⟩ : ∃ x, xs.getD k false = x := ⟨_, rfl⟩
        obtain ⟨y, hy⟩ : ∃ y, ys.getD k false = y := ⟨_, rfl⟩
        rw [hx] at hc1
        rw [hy] at hc2
        have HX := Lib.hid hx; have HY := Lib.hid hy
        clear h h' h2 hc hc' hx hy
        by_cases hxy : x = y
        · subst hxy
          cases x
          all_goals
            go_wp2
            go_quiet (fail)
            go_wp2
            refine ⟨⟨k + 1, by go_num, by omega, ⟨_, rfl⟩, fun i hi => ?_⟩, by simp [intOf]; omega⟩
            by_cases hik : i = k
            · rw [hik, HX.out, HY.out]
            · exact h2'.out i (by omega)
        · have HE := Lib.hid hxy
          have hne : ¬ xs = ys := by
            intro e
            exact HE.out (by rw [← HX.out, ← HY.out, e])
          have HNE := Lib.hid hne
          cases x <;> cases y
          case false.false => exact absurd rfl hxy
          case true.true => exact absurd rfl hxy
          all_goals
            clear hxy hne
            go_wp2
            go_quiet (fail)
            go_wp2
            go_ret
            refine ⟨?_, below_drewN (below_drewN (Below.refl _ _) _) _⟩
            have hne := HNE.out
            simp [hne]
      · have he : xs = ys := by
          apply List.ext_getElem (by rw [HL.out, HL'.out])
          intro i hi hi'
          have := h2.out i (by have := HL.out; omega)
          rw [List.getD_eq_getElem?_getD, List.getD_eq_getElem?_getD, List.getElem?_eq_getElem hi, List.getElem?_eq_getElem hi'] at this
          exact this
        have HE := Lib.hid he
        have q0 : (n : Int) ≤ (k : Int) := by omega
        clear he h2
        go_wp2
        go_ret
        refine ⟨?_, below_drewN (Below.refl _ _) _⟩
        have := HE.out
        simp [this]
  · have hne : ¬ xs = ys := by rintro rfl; omega
    have HE := Lib.hid hne
    have hb : ((n : Int) != (m : Int)) = true := by simp; omega
    clear hne hl hl'
    go_enter Try.func16, Try.ntmps16
    go_wp2_with fail
    go_ret
    exact ⟨by rw [decide_eq_false HE.out]; rfl, Below.refl _ _⟩
set_option maxHeartbeats 1000000 in
theorem numbers_any (B B' : Nat) (A A' : Option Addr) (n m c d : Nat) (xs ys : List Int) (w : World) (h : Reads w B 1 A n (xs.map (Value.int .u64))) (h' : Reads w B' 1 A' m (ys.map (Value.int .u64))) (hn : n ≤ 281474976710656) (hm : m ≤ 281474976710656) :
    Calls Try.prog 17 #[.slice A n c, .slice A' m d] w fun e w' => e = .returned (.bool (decide (xs = ys))) ∧ Below w.heap.size w w' := by
  have hl : xs.length = n := by simpa using h.1
  have hl' : ys.length = m := by simpa using h'.1
  by_cases hnm : n = m
  · subst hnm
    have HL := Lib.hid hl; have HL' := Lib.hid hl'
    clear hl hl'
    go_enter Try.func17, Try.ntmps17
    go_wp2_with fail
    go_loopw [5] (fun i wr => ∃ k : Nat, i = .int .i64 k ∧ k ≤ n ∧ (∃ q, wr = w.drewN q) ∧ Hid (∀ i : Nat, i < k → xs.getD i 0 = ys.getD i 0)) (fun i _ => n - (intOf i).toNat)
    case atStart => exact ⟨0, rfl, by omega, ⟨0, rfl⟩, by intro i h1; omega⟩
    case round =>
      obtain ⟨k, rfl, h1, ⟨q, rfl⟩, h2⟩ := hrel
      by_cases hlt : k < n
      · obtain ⟨b, off, rfl, _, hc⟩ := h.ints hlt
        obtain ⟨b', off', rfl, _, hc'⟩ := h'.ints hlt
        have hc1 := hc k hlt
        have hc2 := hc' k hlt
        have q0 : (k : Int) < (n : Int) := by omega
        have h2' := Lib.hid h2.out
        obtain ⟨x, hx⟩ : ∃ x, xs.getD k 0 = x := ⟨_, rfl⟩
        obtain ⟨y, hy⟩ : ∃ y, ys.getD k 0 = y := ⟨_, rfl⟩
        rw [hx] at hc1
        rw [hy] at hc2
        have HX := Lib.hid hx; have HY := Lib.hid hy
        clear h h' h2 hc hc' hx hy
        by_cases hxy : x = y
        · have hb : (x != y) = false := by simpa using hxy
          have HE := Lib.hid hxy
          clear hxy
          go_wp2
          go_quiet (fail)
          go_wp2
          refine ⟨⟨k + 1, by go_num, by omega, ⟨_, rfl⟩, fun i hi => ?_⟩, by simp [intOf]; omega⟩
          by_cases hik : i = k
          · rw [hik, HX.out, HY.out, HE.out]
          · exact h2'.out i (by omega)
        · have hb : (x != y) = true := by simpa using hxy
          have HE := Lib.hid hxy
          clear hxy
          go_wp2
          go_quiet (fail)
          go_wp2
          go_ret
          refine ⟨?_, below_drewN (below_drewN (Below.refl _ _) _) _⟩
          have hne : ¬ xs = ys := by
            intro e
            exact HE.out (by rw [← HX.out, ← HY.out, e])
          simp [hne]
      · have he : xs = ys := by
          apply List.ext_getElem (by rw [HL.out, HL'.out])
          intro i hi hi'
          have := h2.out i (by have := HL.out; omega)
          rw [List.getD_eq_getElem?_getD, List.getD_eq_getElem?_getD, List.getElem?_eq_getElem hi, List.getElem?_eq_getElem hi'] at this
          exact this
        have HE := Lib.hid he
        have q0 : (n : Int) ≤ (k : Int) := by omega
        clear he h2
        go_wp2
        go_ret
        refine ⟨?_, below_drewN (Below.refl _ _) _⟩
        have := HE.out
        simp [this]
  · have hne : ¬ xs = ys := by rintro rfl; omega
    have HE := Lib.hid hne
    have hb : ((n : Int) != (m : Int)) = true := by simp; omega
    clear hne hl hl'
    go_enter Try.func17, Try.ntmps17
    go_wp2_with fail
    go_ret
    exact ⟨by rw [decide_eq_false HE.out]; rfl, Below.refl _ _⟩
end Go.Proofs.Ytdeeclmmfhppgaa
