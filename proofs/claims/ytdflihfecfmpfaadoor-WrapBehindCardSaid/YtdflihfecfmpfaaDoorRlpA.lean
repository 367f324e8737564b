/- Heads: what stands ahead of an item's own bytes. -/
import Derived.Test.YtdflihfecfmpfaaDoorWrd
import Derived.Test.YtdflihfecfmpfaaDoorJoin
namespace Go.Proofs.YtdflihfecfmpfaaDoor
open Go.RowKit Go.Shelf
set_option linter.unusedVariables false
set_option linter.unusedSimpArgs false

/-- a head -/
def headL (n base : Nat) : List UInt8 := if n < 56 then [UInt8.ofNat (base + n)] else UInt8.ofNat (base + 55 + (beN n).length) :: beN n

set_option maxRecDepth 100000 in
theorem joinP_any (B : Nat) (A : Option Addr) (n c : Nat) (xs : List ByteArray) (w : World) (hB : B ≤ w.heap.size) (h : Reads w B 1 A n (xs.map Value.string)) (hnm : n ≤ 1000000) (hnc : n ≤ c) (hlen : (catB xs).length ≤ 140737488355328) :
    Calls Tryd.prog 54 #[.slice A n c] w fun e w' => e = .returned (.string ⟨(catB xs).toArray⟩) ∧ Below w.heap.size w w' := by
  have hj := join_any B A n c xs w hB h hnm hnc hlen
  have HJ := Lib.hid hj
  clear hj h
  go_enter Tryd.func54, Tryd.ntmps54
  go_wp2_with fail
  refine HJ.out.mono ?_
  rintro e w2 ⟨rfl, hb⟩
  go_wp2_with fail
  go_ret
  exact ⟨rfl, hb⟩

/-- two texts joined: the row that holds them is the call's own -/
theorem join_two (s t : ByteArray) (w : World) (hlen : s.size + t.size ≤ 140737488355328) :
    Calls Tryd.prog 54 #[.slice (some ⟨w.heap.size, 0, none⟩) 2 2] (w.alloc (.cells #[.string s, .string t] 9)) fun e w' => e = .returned (.string (s ++ t)) ∧ w.grownBy w' none := by
  have hr : Reads (w.alloc (.cells #[.string s, .string t] 9)) (w.heap.size + 1) 1 (some ⟨w.heap.size, 0, none⟩) 2 ([s, t].map Value.string) := reads_blk (heap_alloc_new w _) (by omega) 2 rfl
  have hc : catB [s, t] = (s ++ t).data.toList := by simp [catB]
  refine (joinP_any (w.heap.size + 1) _ 2 2 [s, t] _ (by simp) hr (by omega) (by omega) (by rw [hc]; rw [ba_toList, List.length_append, ba_len, ba_len]; exact hlen)).mono ?_
  rintro e w' ⟨rfl, hb⟩
  refine ⟨by rw [hc], ?_⟩
  exact grown_self (only_alloc (World.grownBy.refl w none) (.cells #[.string s, .string t] 9)) (grown_of_below hb) (by simp)

theorem u8_small (n : Nat) (h : n < 256) : ((UInt8.ofNat n).toNat : Int) = (n : Int) := by
  rw [UInt8.toNat_ofNat']; omega
theorem one_u8 (n : Nat) (h : n < 256) : IntKind.u8.wrap (n : Int) = ((UInt8.ofNat n).toNat : Int) := by
  rw [u8_small n h]
  simp [IntKind.wrap, IntKind.bits, IntKind.signed]; omega
/-- a row of one byte as text -/
theorem conv_one (w : World) (z : UInt8) : (convert 38 9 (.slice (some ⟨w.heap.size, 0, none⟩) 1 1)).run Tryd.prog (w.alloc (.cells #[.int .u8 (z.toNat : Int)] 5)) = .ok (.string ⟨#[z]⟩) (w.alloc (.cells #[.int .u8 (z.toNat : Int)] 5)) :=
  conv_own (own_new1 w z)

set_option maxRecDepth 100000 in
set_option maxHeartbeats 1000000 in
theorem headP_any (n base : Nat) (hn : n ≤ 1000000000) (hb : base ≤ 192) (w : World) :
    Calls Tryd.prog 55 #[.int .i64 (n : Int), .int .i64 (base : Int)] w fun e w' => e = .returned (.string ⟨(headL n base).toArray⟩) ∧ w.grownBy w' none := by
  by_cases h : n < 56
  · have hh : headL n base = [UInt8.ofNat (base + n)] := if_pos h
    have v1 : IntKind.i64.wrap ((base : Int) + (n : Int)) = (base : Int) + (n : Int) := IntWalk.i64_in _ (by omega)
    have v2 : IntKind.u8.wrap ((base : Int) + (n : Int)) = ((UInt8.ofNat (base + n)).toNat : Int) := by rw [show (base : Int) + (n : Int) = ((base + n : Nat) : Int) by omega]; exact one_u8 _ (by omega)
    have d1 : (n : Int) < 56 := by omega
    have hcv := conv_one w (UInt8.ofNat (base + n))
    have HH := Lib.hid hh
    generalize UInt8.ofNat (base + n) = z at *
    clear hh
    go_enter Tryd.func55, Tryd.ntmps55
    go_wp2_with fail
    go_ret
    exact ⟨by rw [HH.out]; rfl, only_alloc (World.grownBy.refl w none) _⟩
  · have hh : headL n base = UInt8.ofNat (base + 55 + (beN n).length) :: beN n := if_neg h
    have d1 : decide ((n : Int) < 56) = false := decide_eq_false (by omega)
    have hl := beN_len8 n (by omega)
    have HB := Lib.hid (fun V => be_any n (by omega) V)
    have v0 : IntKind.u64.wrap (n : Int) = (n : Int) := by simp [IntKind.wrap, IntKind.bits, IntKind.signed]; omega
    have v1 : IntKind.i64.wrap ((base : Int) + 56) = (base : Int) + 56 := IntWalk.i64_in _ (by omega)
    have v2 : IntKind.i64.wrap ((base : Int) + 56 - 1) = (base : Int) + 55 := by rw [IntWalk.i64_in _ (by omega)]; omega
    obtain ⟨q, hq⟩ : ∃ q, beN n = q := ⟨_, rfl⟩
    rw [hq] at hh hl HB
    have v3 : IntKind.i64.wrap ((base : Int) + 55 + (q.length : Int)) = (base : Int) + 55 + (q.length : Int) := IntWalk.i64_in _ (by omega)
    have v4 : IntKind.u8.wrap ((base : Int) + 55 + (q.length : Int)) = ((UInt8.ofNat (base + 55 + q.length)).toNat : Int) := by rw [show (base : Int) + 55 + (q.length : Int) = ((base + 55 + q.length : Nat) : Int) by omega]; exact one_u8 _ (by omega)
    have HH := Lib.hid hh
    obtain ⟨z, hz⟩ : ∃ z, UInt8.ofNat (base + 55 + q.length) = z := ⟨_, rfl⟩
    rw [hz] at v4 HH
    have e1 : (base : Int) + 56 - 1 = (base : Int) + 55 := by omega
    clear hh hq hz
    go_enter Tryd.func55, Tryd.ntmps55
    go_wp2_with fail
    refine (HB.out _).mono ?_
    rintro e w2 ⟨rfl, hg⟩
    have hcv := conv_one w2 z
    have hz0 : q.toArray.size = q.length := by simp
    go_wp2_with fail
    have hj := join_two ⟨#[z]⟩ ⟨q.toArray⟩ (w2.alloc (.cells #[.int .u8 (z.toNat : Int)] 5)) (by show 1 + q.toArray.size ≤ _; omega)
    rw [World.size_alloc] at hj
    have hG := only_alloc hg (.cells #[.int .u8 (z.toNat : Int)] 5)
    refine hj.mono ?_
    rintro e w3 ⟨rfl, hg3⟩
    have hG := Lib.hid (grown_self hG hg3 (by simp))
    clear hg hg3 hj hcv
    go_wp2_with fail
    go_ret
    refine ⟨?_, hG.out⟩
    rw [HH.out]
    show Ending.returned (.string (⟨#[z]⟩ ++ ⟨q.toArray⟩)) = _
    congr 2

set_option maxRecDepth 100000 in
set_option maxHeartbeats 1000000 in
theorem headed_any (s : ByteArray) (base : Nat) (hs : s.size ≤ 1000000000) (hb : base ≤ 192) (w : World) :
    Calls Tryd.prog 48 #[.string s, .int .i64 (base : Int)] w fun e w' => e = .returned (.string ⟨(headL s.size base ++ s.data.toList).toArray⟩) ∧ w.grownBy w' none := by
  have HH := Lib.hid (fun V => headP_any s.size base hs hb V)
  have hl : (headL s.size base).length ≤ 9 := by
    unfold headL
    have := beN_len8 s.size (by omega)
    split <;> simp; omega
  obtain ⟨q, hq⟩ : ∃ q, headL s.size base = q := ⟨_, rfl⟩
  rw [hq] at HH hl
  have HQ := Lib.hid hq
  clear hq
  go_enter Tryd.func48, Tryd.ntmps48
  go_wp2_with fail
  refine (HH.out _).mono ?_
  rintro e w2 ⟨rfl, hg⟩
  go_wp2_with fail
  have hj := join_two ⟨q.toArray⟩ s w2 (by show q.toArray.size + s.size ≤ _; rw [List.size_toArray]; omega)
  refine hj.mono ?_
  rintro e w3 ⟨rfl, hg3⟩
  have hG := Lib.hid (grown_self hg hg3 (by simp))
  clear hg hg3 hj
  go_wp2_with fail
  go_ret
  refine ⟨?_, hG.out⟩
  rw [HQ.out]
  show Ending.returned (.string (⟨q.toArray⟩ ++ s)) = _
  congr 2

end Go.Proofs.YtdflihfecfmpfaaDoor
