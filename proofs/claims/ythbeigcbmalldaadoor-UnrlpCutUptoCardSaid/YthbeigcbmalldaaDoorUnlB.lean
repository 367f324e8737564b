/- UnrlpOnly: the walk. -/
import Derived.Test.YthbeigcbmalldaaDoorUnlA
import Derived.Test.YthbeigcbmalldaaDoorUnrR
import Derived.Test.YthbeigcbmalldaaDoorRlpI0
import Derived.Test.YthbeigcbmalldaaDoorOne
import Derived.Deep.DeepCutAuto
namespace Go.Proofs.YthbeigcbmalldaaDoor
open Go.RowKit Go.Shelf
set_option linter.unusedVariables false
set_option linter.unusedSimpArgs false

theorem ba_same {s : ByteArray} : (⟨s.data.toList.toArray⟩ : ByteArray) = s := by cases s; rfl
theorem encB_only {x : Itm} {s : ByteArray} (h : decodeF s.data.toList = .ok x) : checkI x = 0 ∧ (⟨(encB x).toArray⟩ : ByteArray) = s ∧ (bytesF x).length = s.size := by
  obtain ⟨q1, q2, _⟩ := decode_only h
  refine ⟨q1, ?_, by rw [q2, ba_len]⟩
  rw [show encB x = bytesF x from if_pos q1, q2, ba_same]
theorem zero_ok : (Itm.mk false ⟨#[]⟩ []).Ok := .mk _ _ _ (by decide) (by decide) (fun i hi => by cases hi)

open Classical in
set_option maxRecDepth 100000 in
set_option maxHeartbeats 4000000 in
theorem only_law (s : ByteArray) (W : World) (hs : s.size ≤ 9223372036854775807) :
    Calls Tryd.prog 5 #[.string s] W fun e W' => e = .returned (.bool true) ∧ Below W.heap.size W W' := by
  have hlz : s.data.toList.length = s.size := ba_len s
  have HW := Lib.hid (works_any W)
  rcases Nat.lt_or_ge 1500 s.size with hlong | hlong
  · have d1 : (1500 : Int) < (s.size : Int) := by omega
    go_enter Tryd.func5, Tryd.ntmps5
    go_wp2_with fail
    refine HW.out.mono ?_
    rintro e w1 ⟨rfl, hg1⟩
    go_wp2_with fail
    go_ret
    exact ⟨rfl, below_of_grown hg1⟩
  have d1 : decide ((1500 : Int) < (s.size : Int)) = false := decide_eq_false (by omega)
  have HD := Lib.hid (fun V => decode_any s V hs)
  have eS : (s.toList == s.toList) = true := by simp
  go_enter Tryd.func5, Tryd.ntmps5
  go_wp2_with fail
  refine HW.out.mono ?_
  rintro e w1 ⟨rfl, hg1⟩
  go_wp2_with fail
  refine (HD.out _).mono ?_
  rintro e w2 ⟨l, b, sA, sn, sc, E, rfl, hg2, htail⟩
  have hG := grown_self hg1 hg2 (by simp)
  clear HD HW
  rcases htail with ⟨x, h1, rfl, rfl, rfl, hsub⟩ | ⟨h1, h2, rfl, rfl, hsv⟩
  · obtain ⟨q1, q2, q3⟩ := encB_only h1
    have hwx : wtF x ≤ 1000000000 := by have := (decode_only h1).2.2; omega
    have henc := fun V sv (h : SubW V x.items sv) => encodeP_any x V sv h hwx
    have hsiz := fun V sv (h : SubW V x.items sv) => size_any x sv V h hwx
    rw [q1, q2] at henc
    rw [q3] at hsiz
    have HE := Lib.hid henc; have HZ := Lib.hid hsiz
    have T0 := one_box w2 x _ hsub.here
    have T : One W (w2.alloc (.cells #[.bool x.list, .string x.bytes, .slice sA sn sc] 24)) w2.heap.size x (.slice sA sn sc) := ⟨grown_self hG T0.hg (by simp), T0.bx, T0.sx⟩
    clear henc hsiz T0 q1 q2 q3 hwx h1 hsub hG hg1 hg2 hlz
    go_upto_region 7 with (fail)
    obtain ⟨b4, hb4⟩ : ∃ b4, w2.heap.size = b4 := ⟨_, rfl⟩
    rw [hb4] at T ⊢
    clear hb4
    generalize w2.alloc (.cells #[.bool x.list, .string x.bytes, .slice sA sn sc] 24) = w3 at *
    obtain ⟨c0, c1, c2⟩ := T.cells
    go_wp2_with fail
    refine (HE.out _ _ T.sx).mono ?_
    rintro e w4 ⟨rfl, hg⟩
    replace T := T.grown hg
    clear hg c0 c1 c2
    obtain ⟨c0, c1, c2⟩ := T.cells
    go_wp2_with fail
    refine (HZ.out _ _ T.sx).mono ?_
    rintro e w5 ⟨rfl, hg⟩
    replace T := T.grown hg
    clear hg c0 c1 c2
    go_wp2_with fail
    go_ret
    exact ⟨rfl, T.below⟩
  · obtain ⟨rfl, rfl, rfl⟩ : sA = none ∧ sn = 0 ∧ sc = 0 := by simpa using hsv
    have e1 : (E != 0) = true := by simpa using h2
    have T0 := one_box w2 (.mk false ⟨#[]⟩ []) _ (leafW w2 0)
    have T : One W (w2.alloc (.cells #[.bool false, .string ⟨#[]⟩, .slice none 0 0] 24)) w2.heap.size (.mk false ⟨#[]⟩ []) (.slice none 0 0) := ⟨grown_self hG T0.hg (by simp), T0.bx, T0.sx⟩
    have hsame := fun V => same_any (.mk false ⟨#[]⟩ []) zero_ok V (.mk false ⟨#[]⟩ []) _ _ zero_ok (leafW V 0) (leafW V 0)
    rw [decide_eq_true (rfl : Itm.mk false ⟨#[]⟩ [] = Itm.mk false ⟨#[]⟩ [])] at hsame
    have HS := Lib.hid hsame
    clear hsame T0 hG hg1 hg2 h1 h2 hlz hsv
    go_upto_region 7 with (fail)
    obtain ⟨b4, hb4⟩ : ∃ b4, w2.heap.size = b4 := ⟨_, rfl⟩
    rw [hb4] at T ⊢
    clear hb4
    generalize w2.alloc (.cells #[.bool false, .string ⟨#[]⟩, .slice none 0 0] 24) = w3 at *
    obtain ⟨c0, c1, c2⟩ := T.cells
    go_wp2_with fail
    refine (HS.out _).mono ?_
    rintro e w4 ⟨rfl, hg⟩
    replace T := T.grown hg
    clear hg c0 c1 c2
    go_wp2_with fail
    go_ret
    exact ⟨rfl, T.below⟩
end Go.Proofs.YthbeigcbmalldaaDoor
