/- An item's yes or no, its address, its bytes. -/
import Derived.Test.YtmlkjackopiekaaDoorFldB
namespace Go.Proofs.YtmlkjackopiekaaDoor
open Go.RowKit Go.Shelf
set_option linter.unusedVariables false
set_option linter.unusedSimpArgs false

set_option maxRecDepth 100000 in
set_option maxHeartbeats 1000000 in
theorem ofBool_any (l : Bool) (s : ByteArray) (sv : Value) (E : Int) (v : Bool) (hU : ∀ W, Calls Tryd.prog 43 #[.string s] W fun e w' => e = .returned (.tuple #[.bool v, .int .i64 E]) ∧ w' = W) (w : World) :
    Calls Tryd.prog 42 #[.agg #[.bool l, .string s, sv], .func (Fn.func 43) #[] #[]] w fun e w' => e = .returned (.tuple #[.bool (if l = false ∧ E = 0 then v else false), .int .i64 (if l then 2 else E)]) ∧ w.grownBy w' none := by
  have hB := Blk.new w 30 #[.bool l, .string s, sv]
  have hG := only_alloc (World.grownBy.refl w none) (.cells #[.bool l, .string s, sv] 30)
  have HU := Lib.hid hU; have HG := Lib.hid hG
  clear hU hG
  obtain ⟨m, hm⟩ : ∃ m, (if l = false ∧ E = 0 then v else false) = m := ⟨_, rfl⟩
  rw [hm]
  have HM := Lib.hid hm
  clear hm
  cases l with
  | true =>
    obtain rfl : false = m := HM.out
    rw [show (if true = true then (2 : Int) else E) = 2 from rfl]
    clear HU HM
    go_enter Tryd.func42, Tryd.ntmps42
    go_upto_region 1 with (fail)
    obtain ⟨b, hb⟩ : ∃ b, w.heap.size = b := ⟨_, rfl⟩
    rw [hb] at hB ⊢
    generalize w.alloc (.cells #[.bool true, .string s, sv] 30) = W1 at *
    have c0 := hB.cell 0
    simp only [List.getElem?_toArray, List.getElem?_cons_zero, List.getElem?_cons_succ] at c0
    go_wp2_with fail
    go_ret2
    exact ⟨rfl, HG.out⟩
  | false =>
    rw [show (if false = true then (2 : Int) else E) = E from rfl]
    go_enter Tryd.func42, Tryd.ntmps42
    go_upto_region 1 with (fail)
    obtain ⟨b, hb⟩ : ∃ b, w.heap.size = b := ⟨_, rfl⟩
    rw [hb] at hB ⊢
    generalize w.alloc (.cells #[.bool false, .string s, sv] 30) = W1 at *
    have c0 := hB.cell 0; have c1 := hB.cell 1
    simp only [List.getElem?_toArray, List.getElem?_cons_zero, List.getElem?_cons_succ] at c0 c1
    go_wp2_with fail
    refine (HU.out _).mono ?_
    rintro e w3 ⟨rfl, hw3⟩
    rw [hw3]
    clear hw3 c0 c1 hB HU
    by_cases h0 : E = 0
    · subst h0
      obtain rfl : v = m := HM.out
      clear HM
      go_wp2_with fail
      go_ret2
      exact ⟨rfl, HG.out⟩
    · have g1 : (E != 0) = true := by simpa using h0
      obtain rfl : false = m := by have := HM.out; rwa [if_neg (fun h => h0 h.2)] at this
      clear HM
      go_wp2_with fail
      go_ret2
      exact ⟨rfl, HG.out⟩
set_option maxRecDepth 100000 in
set_option maxHeartbeats 1000000 in
theorem ofAddr_any (l : Bool) (s : ByteArray) (sv : Value) (E : Int) (v : ByteArray) (hU : ∀ W, Calls Tryd.prog 50 #[.string s] W fun e w' => e = .returned (.tuple #[.string v, .int .i64 E]) ∧ w' = W) (w : World) :
    Calls Tryd.prog 39 #[.agg #[.bool l, .string s, sv], .func (Fn.func 50) #[] #[]] w fun e w' => e = .returned (.tuple #[.string (if l = false ∧ E = 0 then v else ⟨#[]⟩), .int .i64 (if l then 2 else E)]) ∧ w.grownBy w' none := by
  have hB := Blk.new w 30 #[.bool l, .string s, sv]
  have hG := only_alloc (World.grownBy.refl w none) (.cells #[.bool l, .string s, sv] 30)
  have HU := Lib.hid hU; have HG := Lib.hid hG
  clear hU hG
  obtain ⟨m, hm⟩ : ∃ m, (if l = false ∧ E = 0 then v else ⟨#[]⟩) = m := ⟨_, rfl⟩
  rw [hm]
  have HM := Lib.hid hm
  clear hm
  cases l with
  | true =>
    obtain rfl : ⟨#[]⟩ = m := HM.out
    rw [show (if true = true then (2 : Int) else E) = 2 from rfl]
    clear HU HM
    go_enter Tryd.func39, Tryd.ntmps39
    go_upto_region 1 with (fail)
    obtain ⟨b, hb⟩ : ∃ b, w.heap.size = b := ⟨_, rfl⟩
    rw [hb] at hB ⊢
    generalize w.alloc (.cells #[.bool true, .string s, sv] 30) = W1 at *
    have c0 := hB.cell 0
    simp only [List.getElem?_toArray, List.getElem?_cons_zero, List.getElem?_cons_succ] at c0
    go_wp2_with fail
    go_ret2
    exact ⟨rfl, HG.out⟩
  | false =>
    rw [show (if false = true then (2 : Int) else E) = E from rfl]
    go_enter Tryd.func39, Tryd.ntmps39
    go_upto_region 1 with (fail)
    obtain ⟨b, hb⟩ : ∃ b, w.heap.size = b := ⟨_, rfl⟩
    rw [hb] at hB ⊢
    generalize w.alloc (.cells #[.bool false, .string s, sv] 30) = W1 at *
    have c0 := hB.cell 0; have c1 := hB.cell 1
    simp only [List.getElem?_toArray, List.getElem?_cons_zero, List.getElem?_cons_succ] at c0 c1
    go_wp2_with fail
    refine (HU.out _).mono ?_
    rintro e w3 ⟨rfl, hw3⟩
    rw [hw3]
    clear hw3 c0 c1 hB HU
    by_cases h0 : E = 0
    · subst h0
      obtain rfl : v = m := HM.out
      clear HM
      go_wp2_with fail
      go_ret2
      exact ⟨rfl, HG.out⟩
    · have g1 : (E != 0) = true := by simpa using h0
      obtain rfl : ⟨#[]⟩ = m := by have := HM.out; rwa [if_neg (fun h => h0 h.2)] at this
      clear HM
      go_wp2_with fail
      go_ret2
      exact ⟨rfl, HG.out⟩
set_option maxRecDepth 100000 in
set_option maxHeartbeats 1000000 in
theorem getBool_any (l : Bool) (s : ByteArray) (sv : Value) (w : World) :
    Calls Tryd.prog 23 #[.agg #[.bool l, .string s, sv]] w fun e w' => e = .returned (.tuple #[.bool (if l = false ∧ yesE s = 0 then yesV s else false), .int .i64 (if l then 2 else yesE s)]) ∧ w.grownBy w' none := by
  have hB := Blk.new w 30 #[.bool l, .string s, sv]
  have HG := Lib.hid (only_alloc (World.grownBy.refl w none) (.cells #[.bool l, .string s, sv] 30))
  have ho := fun V => ofBool_any l s sv (yesE s) (yesV s) (fun W => getBool1_any s W) V
  obtain ⟨m, hm⟩ : ∃ m, (if l = false ∧ yesE s = 0 then yesV s else false) = m := ⟨_, rfl⟩
  obtain ⟨q, hq⟩ : ∃ q, (if l then 2 else yesE s) = q := ⟨_, rfl⟩
  rw [hm, hq] at ho
  rw [hm, hq]
  have HO := Lib.hid ho
  clear ho hm hq
  go_enter Tryd.func23, Tryd.ntmps23
  go_wp2_with fail
  refine (HO.out _).mono ?_
  rintro e w3 ⟨rfl, hg3⟩
  have HG3 := Lib.hid (grown_self HG.out hg3 (by simp))
  clear hg3
  go_wp2_with fail
  go_ret2
  exact ⟨rfl, HG3.out⟩
set_option maxRecDepth 100000 in
set_option maxHeartbeats 1000000 in
theorem getAddr_any (l : Bool) (s : ByteArray) (sv : Value) (w : World) :
    Calls Tryd.prog 29 #[.agg #[.bool l, .string s, sv]] w fun e w' => e = .returned (.tuple #[.string (if l = false ∧ addrE s = 0 then addrV s else ⟨#[]⟩), .int .i64 (if l then 2 else addrE s)]) ∧ w.grownBy w' none := by
  have hB := Blk.new w 30 #[.bool l, .string s, sv]
  have HG := Lib.hid (only_alloc (World.grownBy.refl w none) (.cells #[.bool l, .string s, sv] 30))
  have ho := fun V => ofAddr_any l s sv (addrE s) (addrV s) (fun W => getAddr1_any s W) V
  obtain ⟨m, hm⟩ : ∃ m, (if l = false ∧ addrE s = 0 then addrV s else ⟨#[]⟩) = m := ⟨_, rfl⟩
  obtain ⟨q, hq⟩ : ∃ q, (if l then 2 else addrE s) = q := ⟨_, rfl⟩
  rw [hm, hq] at ho
  rw [hm, hq]
  have HO := Lib.hid ho
  clear ho hm hq
  go_enter Tryd.func29, Tryd.ntmps29
  go_wp2_with fail
  refine (HO.out _).mono ?_
  rintro e w3 ⟨rfl, hg3⟩
  have HG3 := Lib.hid (grown_self HG.out hg3 (by simp))
  clear hg3
  go_wp2_with fail
  go_ret2
  exact ⟨rfl, HG3.out⟩
set_option maxRecDepth 100000 in
set_option maxHeartbeats 1000000 in
theorem ofText_any (p q : Addr) (l : Bool) (s : ByteArray) (sv : Value) (w : World) (E : Int) (v : ByteArray) (hU : ∀ W, w.grownBy W none → Calls Tryd.prog 40 #[.string s, .pointer (some p), .pointer (some q)] W fun e w' => e = .returned (.tuple #[.string v, .int .i64 E]) ∧ w' = W) :
    Calls Tryd.prog 39 #[.agg #[.bool l, .string s, sv], .func (Fn.func 40) #[] #[.pointer (some p), .pointer (some q)]] w fun e w' => e = .returned (.tuple #[.string (if l = false ∧ E = 0 then v else ⟨#[]⟩), .int .i64 (if l then 2 else E)]) ∧ w.grownBy w' none := by
  have hB := Blk.new w 30 #[.bool l, .string s, sv]
  have hG := only_alloc (World.grownBy.refl w none) (.cells #[.bool l, .string s, sv] 30)
  have HU := Lib.hid hU; have HG := Lib.hid hG
  clear hU hG
  obtain ⟨m, hm⟩ : ∃ m, (if l = false ∧ E = 0 then v else ⟨#[]⟩) = m := ⟨_, rfl⟩
  rw [hm]
  have HM := Lib.hid hm
  clear hm
  cases l with
  | true =>
    obtain rfl : ⟨#[]⟩ = m := HM.out
    rw [show (if true = true then (2 : Int) else E) = 2 from rfl]
    clear HU HM
    go_enter Tryd.func39, Tryd.ntmps39
    go_upto_region 1 with (fail)
    obtain ⟨b, hb⟩ : ∃ b, w.heap.size = b := ⟨_, rfl⟩
    rw [hb] at hB ⊢
    generalize w.alloc (.cells #[.bool true, .string s, sv] 30) = W1 at *
    have c0 := hB.cell 0
    simp only [List.getElem?_toArray, List.getElem?_cons_zero, List.getElem?_cons_succ] at c0
    go_wp2_with fail
    go_ret2
    exact ⟨rfl, HG.out⟩
  | false =>
    rw [show (if false = true then (2 : Int) else E) = E from rfl]
    go_enter Tryd.func39, Tryd.ntmps39
    go_upto_region 1 with (fail)
    obtain ⟨b, hb⟩ : ∃ b, w.heap.size = b := ⟨_, rfl⟩
    rw [hb] at hB ⊢
    generalize w.alloc (.cells #[.bool false, .string s, sv] 30) = W1 at *
    have c0 := hB.cell 0; have c1 := hB.cell 1
    simp only [List.getElem?_toArray, List.getElem?_cons_zero, List.getElem?_cons_succ] at c0 c1
    go_wp2_with fail
    refine (HU.out _ HG.out).mono ?_
    rintro e w3 ⟨rfl, hw3⟩
    rw [hw3]
    clear hw3 c0 c1 hB HU
    by_cases h0 : E = 0
    · subst h0
      obtain rfl : v = m := HM.out
      clear HM
      go_wp2_with fail
      go_ret2
      exact ⟨rfl, HG.out⟩
    · have g1 : (E != 0) = true := by simpa using h0
      obtain rfl : ⟨#[]⟩ = m := by have := HM.out; rwa [if_neg (fun h => h0 h.2)] at this
      clear HM
      go_wp2_with fail
      go_ret2
      exact ⟨rfl, HG.out⟩
def textE (n : Nat) (least most : Int) : Int := if (n : Int) < least then 3 else if most < (n : Int) then 5 else 0
set_option maxRecDepth 100000 in
set_option maxHeartbeats 1000000 in
theorem getText1_any (s : ByteArray) (ga gb : Nat) (least most : Int) (W : World) (h1 : W.cell? ⟨ga, 0, none⟩ = some (.int .i64 least)) (h2 : W.cell? ⟨gb, 0, none⟩ = some (.int .i64 most)) :
    Calls Tryd.prog 40 #[.string s, .pointer (some ⟨ga, 0, none⟩), .pointer (some ⟨gb, 0, none⟩)] W fun e w' => e = .returned (.tuple #[.string s, .int .i64 (textE s.size least most)]) ∧ w' = W := by
  have hw := fun V => within_any (s.size : Int) least most V
  obtain ⟨E, hE⟩ : ∃ E, textE s.size least most = E := ⟨_, rfl⟩
  unfold textE at hE
  rw [hE] at hw
  rw [show textE s.size least most = E from hE]
  have HW := Lib.hid hw
  clear hw hE
  go_enter Tryd.func40, Tryd.ntmps40
  go_wp2_with fail
  refine (HW.out _).mono ?_
  rintro e w3 ⟨rfl, hw3⟩
  rw [hw3]
  clear hw3
  go_wp2_with fail
  go_ret2
  exact ⟨rfl, rfl⟩
set_option maxRecDepth 100000 in
set_option maxHeartbeats 1000000 in
theorem getText_any (l : Bool) (s : ByteArray) (sv : Value) (least most : Int) (w : World) :
    Calls Tryd.prog 22 #[.agg #[.bool l, .string s, sv], .int .i64 least, .int .i64 most] w fun e w' => e = .returned (.tuple #[.string (if l = false ∧ textE s.size least most = 0 then s else ⟨#[]⟩), .int .i64 (if l then 2 else textE s.size least most)]) ∧ w.grownBy w' none := by
  have hG := only_alloc (only_alloc (only_alloc (World.grownBy.refl w none) (.cells #[.bool l, .string s, sv] 30)) (.cells #[.int .i64 least] 3)) (.cells #[.int .i64 most] 3)
  have hB1 := Blk.new (w.alloc (.cells #[.bool l, .string s, sv] 30)) 3 #[.int .i64 least]
  have hB1 := hB1.alloc (.cells #[.int .i64 most] 3)
  have hB2 := Blk.new ((w.alloc (.cells #[.bool l, .string s, sv] 30)).alloc (.cells #[.int .i64 least] 3)) 3 #[.int .i64 most]
  rw [World.size_alloc] at hB1
  rw [World.size_alloc, World.size_alloc] at hB2
  have ho := fun V (hV1 : Blk V (w.heap.size + 1) 3 #[.int .i64 least]) (hV2 : Blk V (w.heap.size + 1 + 1) 3 #[.int .i64 most]) => ofText_any ⟨w.heap.size + 1, 0, none⟩ ⟨w.heap.size + 1 + 1, 0, none⟩ l s sv V (textE s.size least most) s (fun U hU => getText1_any s (w.heap.size + 1) (w.heap.size + 1 + 1) least most U ((hV1.grown hU (by simp)).cell 0) ((hV2.grown hU (by simp)).cell 0))
  obtain ⟨m, hm⟩ : ∃ m, (if l = false ∧ textE s.size least most = 0 then s else ⟨#[]⟩) = m := ⟨_, rfl⟩
  obtain ⟨q, hq⟩ : ∃ q, (if l then 2 else textE s.size least most) = q := ⟨_, rfl⟩
  rw [hm, hq] at ho
  rw [hm, hq]
  have HO := Lib.hid (ho _ hB1 hB2)
  have HG := Lib.hid hG
  clear ho hm hq hB1 hB2 hG
  go_enter Tryd.func22, Tryd.ntmps22
  go_wp2_with fail
  refine HO.out.mono ?_
  rintro e w3 ⟨rfl, hg3⟩
  have HG3 := Lib.hid (grown_self HG.out hg3 (by simp))
  clear hg3 HO
  go_wp2_with fail
  go_ret2
  exact ⟨rfl, HG3.out⟩
end Go.Proofs.YtmlkjackopiekaaDoor
