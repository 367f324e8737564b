/- The fixed facts (works), and what a head tells of an item (UnrlpHeads). -/
import Derived.Test.YthbeigcbmalldaaDoorUnrQ
namespace Go.Proofs.YthbeigcbmalldaaDoor
open Go.RowKit Go.Shelf
set_option linter.unusedVariables false
set_option linter.unusedSimpArgs false

theorem dec_err {l : List UInt8} {W W1 : World} {lst : Bool} {b : ByteArray} {sv : Value} {E e : Int} (h : DecTail l W lst b sv E W1) (hd : decodeF l = .error e) : E = e := by
  rcases h with ⟨x, h1, _⟩ | ⟨h1, _⟩
  · rw [hd] at h1; cases h1
  · rw [hd] at h1; injection h1 with h1; exact h1.symm
theorem dec_ok {l : List UInt8} {W W1 : World} {lst : Bool} {b : ByteArray} {sv : Value} {E : Int} {x : Itm} (h : DecTail l W lst b sv E W1) (hd : decodeF l = .ok x) : E = 0 ∧ lst = x.list ∧ b = x.bytes ∧ SubV (fun g => W.heap.size ≤ g) W1 x.items sv := by
  rcases h with ⟨y, h1, h2⟩ | ⟨h1, _⟩
  · rw [hd] at h1; injection h1 with h1; subst h1; exact h2
  · rw [hd] at h1; cases h1
theorem works1 : decodeF [129, 5] = .error 8 := by rfl
theorem works2 : decodeF [194, 1] = .error 3 := by rfl
theorem works3 : decodeF [194, 1, 192] = .ok (.mk true .empty [.mk false ⟨#[1]⟩ [], .mk true .empty []]) := by rfl
theorem works4 : decodeF [1, 2] = .error 4 := by rfl

set_option maxRecDepth 100000 in
set_option maxHeartbeats 1000000 in
theorem works_any (W : World) : Calls Tryd.prog 6 #[] W fun e W' => e = .returned (.bool true) ∧ W.grownBy W' none := by
  have hd := fun s V hs => decode_any s V hs
  have HD := Lib.hid hd
  clear hd
  go_enter Tryd.func6, Tryd.ntmps6
  go_wp2_with fail
  refine (HD.out _ _ (by decide)).mono ?_
  rintro e w1 ⟨l1, b1, A1, n1, c1, E1, rfl, hg1, ht1⟩
  obtain rfl := dec_err ht1 works1
  clear ht1
  go_wp2_with fail
  refine (HD.out _ _ (by decide)).mono ?_
  rintro e w2 ⟨l2, b2, A2, n2, c2, E2, rfl, hg2, ht2⟩
  obtain rfl := dec_err ht2 works2
  clear ht2
  go_wp2_with fail
  refine (HD.out _ _ (by decide)).mono ?_
  rintro e w3 ⟨l3, b3, A3, n3, c3, E3, rfl, hg3, ht3⟩
  obtain ⟨rfl, rfl, rfl, hs3⟩ := dec_ok ht3 works3
  obtain ⟨A, c, hs⟩ := hs3.slice
  obtain ⟨rfl, rfl, rfl⟩ : A3 = A ∧ n3 = 2 ∧ c3 = c := by simpa [Itm.items] using hs
  clear ht3 hs hs3
  go_wp2_with fail
  refine (HD.out _ _ (by decide)).mono ?_
  rintro e w4 ⟨l4, b4, A4, n4, c4, E4, rfl, hg4, ht4⟩
  obtain rfl := dec_err ht4 works4
  clear ht4
  go_wp2_with fail
  have hh := fun V => head_any ⟨#[120, 194, 1, 192]⟩ 1 (by decide) V
  rw [show lookFrom (⟨#[120, 194, 1, 192]⟩ : ByteArray).data.toList 1 = 2 from rfl, show lookN (⟨#[120, 194, 1, 192]⟩ : ByteArray).data.toList 1 = 2 from rfl, show lookL (⟨#[120, 194, 1, 192]⟩ : ByteArray).data.toList 1 = true from rfl, show lookE (⟨#[120, 194, 1, 192]⟩ : ByteArray).data.toList 1 = 0 from rfl] at hh
  refine (hh _).mono ?_
  clear hh
  rintro e w5 ⟨rfl, hg5⟩
  go_wp2_with fail
  have hn := fun V => next_any ⟨#[130, 97, 98]⟩ 0 (by decide) V (by decide)
  rw [show lookFrom (⟨#[130, 97, 98]⟩ : ByteArray).data.toList 0 + lookN (⟨#[130, 97, 98]⟩ : ByteArray).data.toList 0 = 3 from rfl, show lookE (⟨#[130, 97, 98]⟩ : ByteArray).data.toList 0 = 0 from rfl] at hn
  refine (hn _).mono ?_
  clear hn
  rintro e w6 ⟨rfl, hg6⟩
  have hG := only_alloc hg1 (.cells #[.bool l1, .string b1, .slice A1 n1 c1] 24)
  have hG := only_alloc (grown_self hG hg2 (by simp)) (.cells #[.bool l2, .string b2, .slice A2 n2 c2] 24)
  have hG := grown_self hG hg3 (by simp)
  obtain ⟨o3, ho3⟩ : ∃ o, Obj.cells #[.bool (Itm.mk true ByteArray.empty [Itm.mk false { data := #[1] } [], Itm.mk true ByteArray.empty []]).list, .string (Itm.mk true ByteArray.empty [Itm.mk false { data := #[1] } [], Itm.mk true ByteArray.empty []]).bytes, .slice A3 2 c3] 24 = o := ⟨_, rfl⟩
  have hbk := Blk.new w3 24 #[.bool (Itm.mk true ByteArray.empty [Itm.mk false { data := #[1] } [], Itm.mk true ByteArray.empty []]).list, .string (Itm.mk true ByteArray.empty [Itm.mk false { data := #[1] } [], Itm.mk true ByteArray.empty []]).bytes, .slice A3 2 c3]
  have hG := grown_self (only_alloc hG (.cells #[.bool (Itm.mk true ByteArray.empty [Itm.mk false { data := #[1] } [], Itm.mk true ByteArray.empty []]).list, .string (Itm.mk true ByteArray.empty [Itm.mk false { data := #[1] } [], Itm.mk true ByteArray.empty []]).bytes, .slice A3 2 c3] 24)) hg4 (by simp)
  have hbk := (hbk.grown hg4 (by simp)).alloc (.cells #[.bool l4, .string b4, .slice A4 n4 c4] 24)
  have hG := only_alloc hG (.cells #[.bool l4, .string b4, .slice A4 n4 c4] 24)
  have hG := grown_self (grown_self hG hg5 (by simp)) hg6 (by simp)
  have hbk := (hbk.grown hg5 (by simp)).grown hg6 (by simp)
  have c2 := hbk.cell 2
  simp only [List.getElem?_toArray, List.getElem?_cons_zero, List.getElem?_cons_succ] at c2
  clear hbk hg1 hg2 hg3 hg4 hg5 hg6 ho3 HD
  go_wp2_with fail
  go_ret
  exact ⟨rfl, hG⟩
end Go.Proofs.YthbeigcbmalldaaDoor
