/- The items of a list are what their own bytes are (UnrlpParts): the walk. -/
import Derived.Test.YthbeigcbmalldaaUnrU
namespace Go.Proofs.Ythbeigcbmalldaa
open Go.RowKit Go.Shelf
set_option linter.unusedVariables false
set_option linter.unusedSimpArgs false

theorem SubW.below {W W' : World} {xs : List Itm} {v : Value} (h : SubW W xs v) (hg : Below W.heap.size W W') : SubW W' xs v := h.grown (grown_of_below hg)
section
variable {P : Program} {ops : Array Oper} {C : World → Prop} {Q : Act → Prop} {a : Act} {o : Oper} {rest : List Oper}
theorem wpQuiet_load' (v : Value) (ty : TypeId) (x : Operand) (p : Addr) (d : TypeDesc) (ho : o.op = .load ty x) (hw : Region.wanted o (yielded ops a.tmps) = true) (hx : a.eval x = .pointer (some p))
    (hu : P.underlying ty = some d) (hd : (match d with | .struct _ | .array _ _ => true | _ => false) = false) (hc : ∀ W, C W → W.cell? p = some v) (hk : wpQuiet P ops C Q rest (a.put o.dst v)) : wpQuiet P ops C Q (o :: rest) a :=
  wpQuiet_value hw v (fun W hW => exec_load1 ty x ho p hx v d hu hd (hc W hW)) hk
end
theorem below_then_grown {w W W' : World} (h : Below w.heap.size w W) (k : W.grownBy W' none) : Below w.heap.size w W' := below_of_grown (grown_self (grown_of_below h) k (by simp))
theorem drop_get {xs : List Itm} {k : Nat} (h : k < xs.length) : xs.drop k = xs.getD k Itm.none_ :: xs.drop (k + 1) := by
  rw [List.drop_eq_getElem_cons h, List.getD_eq_getElem?_getD, List.getElem?_eq_getElem h]; rfl
theorem decode_item {l : List UInt8} {W W1 : World} {lst : Bool} {b : ByteArray} {sv : Value} {E : Int} {x : Itm} (h : DecTail l W lst b sv E W1) (hd : decodeF l = .ok x) : E = 0 ∧ lst = x.list ∧ b = x.bytes ∧ SubW W1 x.items sv := by
  obtain ⟨h1, h2, h3, h4⟩ := dec_ok h hd
  exact ⟨h1, h2, h3, h4.here⟩

set_option maxRecDepth 100000 in
set_option maxHeartbeats 4000000 in
theorem parts_law (s : ByteArray) (W : World) (hs : s.size ≤ 9223372036854775807) :
    Calls Try.prog 4 #[.string s] W fun e W' => e = .returned (.bool true) ∧ Below W.heap.size W W' := by
  have hlz : s.data.toList.length = s.size := ba_len s
  have HW := Lib.hid (works_any W)
  rcases Nat.lt_or_ge 1500 s.size with hlong | hlong
  · have d1 : (1500 : Int) < (s.size : Int) := by omega
    go_enter Try.func4, Try.ntmps4
    go_wp2_with fail
    refine HW.out.mono ?_
    rintro e w1 ⟨rfl, hg1⟩
    go_wp2_with fail
    go_ret
    exact ⟨rfl, below_of_grown hg1⟩
  have d1 : decide ((1500 : Int) < (s.size : Int)) = false := decide_eq_false (by omega)
  have HD := Lib.hid (fun V => decode_any s V hs)
  go_enter Try.func4, Try.ntmps4
  go_wp2_with fail
  refine HW.out.mono ?_
  rintro e w1 ⟨rfl, hg1⟩
  go_wp2_with fail
  refine (HD.out _).mono ?_
  rintro e w2 ⟨l, b, sA, sn, sc, E, rfl, hg2, htail⟩
  have hG := only_alloc (grown_self hg1 hg2 (by simp)) (.cells #[.bool l, .string b, .slice sA sn sc] 30)
  have hbk := Blk.new w2 30 #[.bool l, .string b, .slice sA sn sc]
  have hw2 := hg2.size
  rcases htail with ⟨x, h1, rfl, rfl, rfl, hsub⟩ | ⟨h1, h2, rfl, rfl, hsv⟩
  · by_cases hxl : x.list = true
    · have hok := decode_okF h1
      obtain ⟨l1, l2, l3, l4, l5⟩ := decode_list h1 hxl
      have hsx : SubW (w2.alloc (.cells #[.bool x.list, .string x.bytes, .slice sA sn sc] 30)) x.items (.slice sA sn sc) := hsub.here.grown (only_alloc (World.grownBy.refl _ _) _)
      have hlk0 := look_ok (l := s.data.toList) (a := 0) (by simpa using l2)
      have hhead := fun V => head_any s 0 (by omega) V
      rw [l2, l3] at hhead
      have HH := Lib.hid hhead
      rw [hlz] at l4 l5
      simp only [Int.ofNat_zero] at hlk0
      obtain ⟨_, _, q2, q3, _, _⟩ := hlk0
      rw [hxl] at hG hbk hsx ⊢
      obtain ⟨hn, _⟩ := hsub.row
      have hit := items_len _ l5
      obtain ⟨xs, hxs⟩ : ∃ xs, x.items = xs := ⟨_, rfl⟩
      have hget := hok.get
      rw [hxs] at hsx hn hit l5 hget
      obtain ⟨F, hF⟩ : ∃ F, lookFrom s.data.toList 0 = F := ⟨_, rfl⟩
      obtain ⟨N, hN⟩ : ∃ N, lookN s.data.toList 0 = N := ⟨_, rfl⟩
      rw [hF, hN] at HH
      rw [hF] at q2 q3 l5
      rw [hF, hN] at l4
      rw [hN] at q3
      subst hn
      have v1 : IntKind.i64.wrap ((F : Int) + (N : Int)) = (F : Int) + (N : Int) := IntWalk.i64_in _ (by omega)
      have e1 : ((F : Int) + (N : Int) != (s.size : Int)) = false := by simp; omega
      have H5 := Lib.hid l5
      have HGET := Lib.hid hget
      have HX := Lib.hid hsx
      generalize x.bytes = b at *
      have hg1s := hg1.size
      clear hhead l5 hsub h1 hok hxs hF hN hxl l2 l3 hg1 hg2 hlz hsx hget
      go_upto_region 7 with (fail)
      obtain ⟨b4, hb4⟩ : ∃ b4, w2.heap.size = b4 := ⟨_, rfl⟩
      rw [hb4] at hbk ⊢
      generalize w2.alloc (.cells #[.bool true, .string b, .slice sA xs.length sc] 30) = w3 at *
      have c0 := hbk.cell 0
      simp only [List.getElem?_toArray, List.getElem?_cons_zero] at c0
      go_wp2_with fail
      refine (HH.out _).mono ?_
      rintro e w4 ⟨rfl, hg4⟩
      have hbk := hbk.grown hg4 (by simp)
      have HX := Lib.hid (HX.out.grown hg4)
      have hG := grown_self hG hg4 (by simp)
      have hb4w : W.heap.size ≤ b4 := by have := hg1s; omega
      clear c0 hg4 HH HW
      go_wp2_with fail
      go_loopw [6, 10] (fun p i wr => ∃ k q : Nat, i = .int .i64 k ∧ p = .int .i64 q ∧ k ≤ xs.length ∧ q ≤ s.size ∧ W.grownBy wr none ∧ Blk wr b4 30 #[.bool true, .string b, .slice sA xs.length sc] ∧ Hid (SubW wr xs (.slice sA xs.length sc)) ∧ Hid (itemsF (itemF 11 s.data.toList) s.size (513 - k) k q = .ok (xs.drop k))) (fun _ i _ => xs.length - (intOf i).toNat)
      case atStart => exact ⟨0, F, rfl, rfl, by omega, by omega, hG, hbk, HX, H5⟩
      case round =>
        obtain ⟨k, p, rfl, rfl, hk, hp, hg, hbk, hX, hI⟩ := hrel
        have HX := Lib.hid hX.out; have HI := Lib.hid hI.out
        have c0 := hbk.cell 2
        simp only [List.getElem?_toArray, List.getElem?_cons_zero, List.getElem?_cons_succ] at c0
        by_cases hlt : k < xs.length
        · have hi := HI.out
          rw [drop_get hlt] at hi
          obtain ⟨p1, q, hrd, hi2⟩ := items_next hi
          obtain ⟨g1, g2, g3⟩ := item_ok hrd
          obtain ⟨b0, b1, b2, b3, b5, _⟩ := look_ok g1
          have hpart := decode_part (by rw [ba_len]; omega) hrd
          rw [← g3] at b1 b3
          have hnx := fun V => next_any s (p : Int) (by omega) V (by rw [← g3]; have := ba_len s; omega)
          rw [← g3, g1] at hnx
          rw [ba_len] at b1
          have hex : s.extract p q = ⟨((s.data.toList.drop p).take (q - p)).toArray⟩ := by rw [← ba_ext', show p + (q - p) = q by omega]
          have hpart2 : decodeF (s.extract p q).data.toList = .ok (xs.getD k Itm.none_) := by rw [hex]; exact hpart
          have hso : (xs.getD k Itm.none_).Ok := HGET.out k hlt
          have hdec := fun V => decode_any (s.extract p q) V (by simp; omega)
          obtain ⟨y, hy⟩ : ∃ y, xs.getD k Itm.none_ = y := ⟨_, rfl⟩
          rw [hy] at hpart2 hso
          have HY := Lib.hid hy
          clear hy
          have HN := Lib.hid hnx; have HI2 := Lib.hid hi2; have HP := Lib.hid hpart2; have HDE := Lib.hid hdec; have HSO := Lib.hid hso
          have f1 : decide ((q : Int) ≤ (p : Int)) = false := decide_eq_false (by omega)
          have f1' : decide (q ≤ p) = false := decide_eq_false (by omega)
          have f2 : decide ((s.size : Int) < (q : Int)) = false := decide_eq_false (by omega)
          have f2' : decide (s.size < q) = false := decide_eq_false (by omega)
          have hqp : p ≤ q := by omega
          clear hi hrd g1 g2 g3 b0 b2 b3 b5 hpart hnx hex hpart2 hi2 hdec hX hI hso
          go_wp2_with fail
          refine (HN.out _).mono ?_
          rintro e w5 ⟨rfl, hg5⟩
          have hbk := hbk.grown hg5 (by simp)
          have HX := Lib.hid (HX.out.grown hg5)
          have hg := grown_self hg hg5 (by simp)
          clear hg5 c0
          go_wp2_with fail
          refine (HDE.out _).mono ?_
          rintro e w6 ⟨l, bb, tA, tn, tc, E, rfl, hg6, htail⟩
          obtain ⟨rfl, rfl, rfl, hsub⟩ := decode_item htail HP.out
          have hnew := Blk.new w6 30 #[.bool y.list, .string y.bytes, .slice tA tn tc]
          have hbk := (hbk.grown hg6 (by simp)).alloc (.cells #[.bool y.list, .string y.bytes, .slice tA tn tc] 30)
          have hX7 := (HX.out.grown hg6).grown (only_alloc (World.grownBy.refl _ _) (.cells #[.bool y.list, .string y.bytes, .slice tA tn tc] 30))
          have hS7 := hsub.grown (only_alloc (World.grownBy.refl _ _) (.cells #[.bool y.list, .string y.bytes, .slice tA tn tc] 30))
          have hg := only_alloc (grown_self hg hg6 (by simp)) (.cells #[.bool y.list, .string y.bytes, .slice tA tn tc] 30)
          clear hg6 htail hsub HX
          go_upto_region 19 with (fail)
          generalize w6.alloc (.cells #[.bool y.list, .string y.bytes, .slice tA tn tc] 30) = w7 at *
          obtain ⟨b6, hb6⟩ : ∃ b6, w6.heap.size = b6 := ⟨_, rfl⟩
          rw [hb6] at hnew ⊢
          clear hb6
          obtain ⟨_, vs, hvs, hr⟩ := hX7.row
          obtain ⟨b', off, rfl, hb', hc'⟩ := hr (by omega)
          obtain ⟨k0, k1, k2⟩ := hc' k hlt
          have hsk := hvs k hlt
          have hso := HSO.out
          rw [HY.out] at k0 k1 hsk
          have hsame := fun V (hV : Below w7.heap.size w7 V) => same_any y hso V y _ _ hso (SubW.below hS7 hV) (SubW.below hsk hV)
          simp only [decide_true] at hsame
          have HSM := Lib.hid hsame
          have HS7 := Lib.hid hS7; have HX7 := Lib.hid hX7
          obtain ⟨us, ucs, hus⟩ := hsk.slice
          rw [hus] at k2 HSM
          clear hvs hr hc' hsk hso hsame hS7 hX7 hus
          have hlb := hbk.lt; have hln := hnew.lt
          have hC0 : (fun V => Below w7.heap.size w7 V) w7.drew := ⟨rfl, rfl, rfl, Nat.le_refl _, fun _ _ => rfl⟩
          refine wp_region_class (fun V => Below w7.heap.size w7 V) (by kernel_rfl) (by kernel_rfl) hC0 ?_
          have hcc := class_const hC0
          have hr0 : ∀ V, Below w7.heap.size w7 V → V.cell? ⟨b4, 2, none⟩ = some (.slice (some ⟨b', off, none⟩) xs.length sc) := fun V hV => (hV.cell (p := ⟨b4, 2, none⟩) hlb).trans (hbk.cell 2)
          have hr1 : ∀ V, Below w7.heap.size w7 V → Blk V b6 30 #[.bool y.list, .string y.bytes, .slice tA tn tc] := fun V hV => hnew.below hV hln
          have hr2 : ∀ V, Below w7.heap.size w7 V → V.cell? ⟨b', off + k * 3, none⟩ = some (.bool y.list) := fun V hV => (hV.cell (p := ⟨b', off + k * 3, none⟩) hb').trans k0
          have hr3 : ∀ V, Below w7.heap.size w7 V → V.cell? ⟨b', off + k * 3 + 1, none⟩ = some (.string y.bytes) := fun V hV => (hV.cell (p := ⟨b', off + k * 3 + 1, none⟩) hb').trans k1
          have hr4 : ∀ V, Below w7.heap.size w7 V → V.cell? ⟨b', off + k * 3 + 2, none⟩ = some (.slice us y.items.length ucs) := fun V hV => (hV.cell (p := ⟨b', off + k * 3 + 2, none⟩) hb').trans k2
          (try simp only [Act.put])
          (repeat go_big_quiet_step (fail))
          refine wpQuiet_value rfl (.agg #[.bool y.list, .string y.bytes, .slice tA tn tc]) (fun V hV => exec_load3 _ rfl rfl ((hr1 V hV).cell 0) ((hr1 V hV).cell 1) ((hr1 V hV).cell 2)) ?_
          simp only [Act.put, List.setIfInBounds_toArray, List.set_cons_zero, List.set_cons_succ]
          (repeat go_big_quiet_step (fail))
          refine wpQuiet_load' _ 28 _ ⟨b4, 2, none⟩ _ rfl rfl rfl Try.underlying28 rfl hr0 ?_
          simp only [Act.put, List.setIfInBounds_toArray, List.set_cons_zero, List.set_cons_succ]
          (repeat go_big_quiet_step (fail))
          refine wpQuiet_value rfl (.agg #[.bool y.list, .string y.bytes, .slice us y.items.length ucs]) (fun V hV => exec_load3 _ rfl rfl (hr2 V hV) (hr3 V hV) (hr4 V hV)) ?_
          simp only [Act.put, List.setIfInBounds_toArray, List.set_cons_zero, List.set_cons_succ]
          refine wpQuiet_enter rfl (.bool true) 9 #[.agg #[.bool y.list, .string y.bytes, .slice tA tn tc], .agg #[.bool y.list, .string y.bytes, .slice us y.items.length ucs]] (fun V hV => exec_call2 _ (.tmp 93) (.tmp 98) _ rfl _ _ rfl rfl rfl) (fun V hV => (HSM.out V hV).mono fun e w' ⟨he, hgg⟩ => ⟨he, below_then_grown hV hgg⟩) ?_
          simp only [Act.put, List.setIfInBounds_toArray, List.set_cons_zero, List.set_cons_succ]
          (repeat go_big_quiet_step (fail))
          refine wpQuiet_nil ?_
          intro w8 hw8
          have hg8 := grown_self hg (grown_of_below hw8) (by simp)
          have hbk8 := hbk.below hw8 hlb
          have HX8 := Lib.hid (SubW.below HX7.out hw8)
          clear hcc hC0 hr0 hr1 hr2 hr3 hr4 hw8 k0 k1 k2 hbk hnew
          go_wp2_with fail
          refine ⟨⟨k + 1, q, by go_num, rfl, by omega, by omega, hg8, hbk8, HX8, Lib.hid (by rw [show 513 - (k + 1) = 513 - k - 1 by omega]; exact HI2.out)⟩, by simp [intOf]; omega⟩
        · have hek : k = xs.length := by omega
          have hlast := HI.out
          rw [hek, List.drop_length] at hlast
          have hp2 := items_last hlast
          have q0 : (xs.length : Int) ≤ (k : Int) := by omega
          have e3 : ((p : Int) == (s.size : Int)) = true := by rw [beq_iff_eq]; omega
          have HB := Lib.hid (below_of_grown hg)
          clear hlast hek hp2 hX hI
          go_wp2_with fail
          go_ret
          exact ⟨rfl, HB.out⟩
    · have e2 : x.list = false := by simpa using hxl
      rw [e2] at hG hbk ⊢
      have c0 := hbk.cell 0
      simp only [List.getElem?_toArray, List.getElem?_cons_zero] at c0
      have HB := Lib.hid (below_of_grown hG)
      clear hsub h1 e2 hxl hbk
      go_wp2_with fail
      go_ret
      exact ⟨rfl, HB.out⟩
  · cases hsv
    have e5 : (E != 0) = true := by simpa using h2
    have HB := Lib.hid (below_of_grown hG)
    clear h1 h2 hbk
    go_wp2_with fail
    go_ret
    exact ⟨rfl, HB.out⟩
end Go.Proofs.Ythbeigcbmalldaa
