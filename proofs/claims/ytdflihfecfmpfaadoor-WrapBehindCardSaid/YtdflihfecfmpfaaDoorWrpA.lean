/- Wrappers: long, is, all, ContainsFunc, Version. -/
import Derived.Test.YtdflihfecfmpfaaDoorWrpQ
import Derived.Test.YtdflihfecfmpfaaDoorRlpA
import Derived.Test.YtdflihfecfmpfaaDoorPerm
import Derived.Deep.DeepCutAuto
namespace Go.Proofs.YtdflihfecfmpfaaDoor
open Go.RowKit Go.Shelf
set_option linter.unusedVariables false
set_option linter.unusedSimpArgs false

section
variable {P : Program} {ops : Array Oper} {Q : Act → Prop} {a : Act} {o : Oper} {rest : List Oper} {W1 : World}
/-- a call in a drawn region walked over the worlds that have grown -/
theorem quiet_callW (v : Value) (f : FuncId) (args : Array Value) (hw : Region.wanted o (yielded ops a.tmps) = true) (hrun : ∀ V, (execOp a.eval o).run P V = .ok (.enter f args) V)
    (hc : ∀ V, Below W1.heap.size W1 V → Calls P f args V fun e w' => e = .returned v ∧ V.grownBy w' none) (hk : wpQuiet P ops (fun V => Below W1.heap.size W1 V) Q rest (a.put o.dst v)) : wpQuiet P ops (fun V => Below W1.heap.size W1 V) Q (o :: rest) a :=
  wpQuiet_enter hw v f args (fun V _ => hrun V) (fun V hV => (hc V hV).mono fun e w' ⟨he, hgg⟩ => ⟨he, below_of_grown (grown_self (grown_of_below hV) hgg (by simp))⟩) hk
end
section
variable {P : Program} {ops : Array Oper} {C : World → Prop} {Q : Act → Prop} {a : Act} {o : Oper} {rest : List Oper}
theorem wpQuiet_loadW (v : Value) (ty : TypeId) (x : Operand) (p : Addr) (d : TypeDesc) (ho : o.op = .load ty x) (hw : Region.wanted o (yielded ops a.tmps) = true) (hx : a.eval x = .pointer (some p))
    (hu : P.underlying ty = some d) (hd : (match d with | .struct _ | .array _ _ => true | _ => false) = false) (hc : ∀ W, C W → W.cell? p = some v) (hk : wpQuiet P ops C Q rest (a.put o.dst v)) : wpQuiet P ops C Q (o :: rest) a :=
  wpQuiet_value hw v (fun W hW => by
    unfold execOp
    simp only [ho, hx, Instr.loadAt, Instr.sureAddr, Sem.run_bind, Sem.run_pure, Result.andThen_ok, load_cell hu hd (hc W hW)]) hk
end

theorem wrap_nat64 {k : Nat} (h : k < 18446744073709551616) : IntKind.u64.wrap (k : Int) = (k : Int) := by
  simp [IntKind.wrap, IntKind.bits, IntKind.signed]
  omega
set_option maxRecDepth 100000 in
theorem long_any (n : Nat) (w : World) :
    Calls Tryd.prog 36 #[.int .u64 (n : Int)] w fun e w' => e = .returned (.int .i64 (longE n)) ∧ w.grownBy w' none := by
  by_cases h1 : n < 2
  · rw [show longE n = 2 from if_pos h1]
    have d1 : decide ((n : Int) < 2) = true := by simp; omega
    go_enter Tryd.func36, Tryd.ntmps36
    go_wp2_with fail
    go_ret
    exact ⟨rfl, World.grownBy.refl _ _⟩
  · have d1 : decide ((n : Int) < 2) = false := by simp; omega
    by_cases h2 : 32768 < n
    · rw [show longE n = 5 by unfold longE; rw [if_neg h1, if_pos h2]]
      have d2 : decide ((32768 : Int) < (n : Int)) = true := by simp; omega
      go_enter Tryd.func36, Tryd.ntmps36
      go_wp2_with fail
      go_ret
      exact ⟨rfl, World.grownBy.refl _ _⟩
    · rw [show longE n = 0 by unfold longE; rw [if_neg h1, if_neg h2]]
      have d2 : decide ((32768 : Int) < (n : Int)) = false := by simp; omega
      go_enter Tryd.func36, Tryd.ntmps36
      go_wp2_with fail
      go_ret
      exact ⟨rfl, World.grownBy.refl _ _⟩
theorem is_any (E : Int) (w : World) :
    Calls Tryd.prog 26 #[.int .i64 E] w fun e w' => e = .returned (.func (.func 35) #[] #[.pointer (some ⟨w.heap.size, 0, none⟩)]) ∧ w' = w.alloc (.cells #[.int .i64 E] 25) := by
  go_enter Tryd.func26, Tryd.ntmps26
  go_wp2
  go_ret
  exact ⟨rfl, rfl⟩
set_option maxRecDepth 100000 in
set_option maxHeartbeats 1000000 in
theorem is1_any (s : ByteArray) (g : Nat) (E : Int) (hs : s.size ≤ 9223372036854775807) (w : World) (hg : Blk w g 25 #[.int .i64 E]) :
    Calls Tryd.prog 35 #[.string s, .pointer (some ⟨g, 0, none⟩)] w fun e w' => e = .returned (.bool (decide (longE s.size = E))) ∧ w.grownBy w' none := by
  have hL := fun V => long_any s.size V
  obtain ⟨F, hF⟩ : ∃ F, longE s.size = F := ⟨_, rfl⟩
  rw [hF] at hL ⊢
  have HL := Lib.hid hL
  have v1 : IntKind.u64.wrap (s.size : Int) = (s.size : Int) := wrap_nat64 (by omega)
  have hc := hg.cell 0
  have hlt := hg.lt
  simp only [List.getElem?_toArray, List.getElem?_cons_zero] at hc
  clear hL hF hs hg
  go_enter Tryd.func35, Tryd.ntmps35
  go_upto_region 1 with (fail)
  have hC0 : (fun V => Below w.heap.size w V) w.drew := ⟨rfl, rfl, rfl, Nat.le_refl _, fun _ _ => rfl⟩
  refine wp_region_class (fun V => Below w.heap.size w V) (by kernel_rfl) (by kernel_rfl) hC0 ?_
  have hcc := class_const hC0
  have hr0 : ∀ V, Below w.heap.size w V → V.cell? ⟨g, 0, none⟩ = some (.int .i64 E) := fun V hV => (hV.cell (p := ⟨g, 0, none⟩) hlt).trans hc
  clear hc hlt
  (try simp only [Act.put])
  (repeat go_big_quiet_step (fail))
  refine quiet_callW (.int .i64 F) 36 #[.int .u64 (s.size : Int)] rfl (fun V => exec_call1 _ (.tmp 6) _ rfl _ rfl rfl) (fun V hV => HL.out V) ?_
  simp only [Act.put, List.setIfInBounds_toArray, List.set_cons_zero, List.set_cons_succ]
  refine wpQuiet_loadW (.int .i64 E) _ _ ⟨g, 0, none⟩ _ rfl rfl rfl Tryd.underlying25 rfl hr0 ?_
  simp only [Act.put, List.setIfInBounds_toArray, List.set_cons_zero, List.set_cons_succ]
  (repeat go_big_quiet_step (fail))
  refine wpQuiet_nil ?_
  intro w3 hw3
  have hg := grown_of_below hw3
  clear hcc hC0 hr0 hw3
  go_wp2_with fail
  go_ret
  exact ⟨by by_cases h : F = E <;> simp [h], hg⟩
theorem getD_mem {xs : List ByteArray} {k : Nat} (h : k < xs.length) : xs.getD k .empty ∈ xs := by
  rw [List.getD_eq_getElem?_getD, List.getElem?_eq_getElem h]
  exact List.getElem_mem h
theorem mem_getD {xs : List ByteArray} {x : ByteArray} (h : x ∈ xs) : ∃ k, k < xs.length ∧ xs.getD k .empty = x := by
  obtain ⟨k, hk, he⟩ := List.getElem_of_mem h
  exact ⟨k, hk, by rw [List.getD_eq_getElem?_getD, List.getElem?_eq_getElem hk]; exact he⟩
set_option maxRecDepth 100000 in
set_option maxHeartbeats 1000000 in
theorem index_any (B : Nat) (A : Option Addr) (n c : Nat) (xs : List ByteArray) (g : Nat) (E : Int) (w : World) (h : Reads w B 1 A n (xs.map Value.string)) (hB : B ≤ w.heap.size) (hs : ∀ x ∈ xs, x.size ≤ 9223372036854775807) (hn : n ≤ 9223372036854775807) (hg : Blk w g 25 #[.int .i64 E]) :
    Calls Tryd.prog 34 #[.slice A n c, .func (.func 35) #[] #[.pointer (some ⟨g, 0, none⟩)]] w fun e w' => ∃ i : Int, e = .returned (.int .i64 i) ∧ (0 ≤ i ↔ hasE E xs = true) ∧ w.grownBy w' none := by
  have hl : xs.length = n := by have := h.1; simpa using this
  have HL := Lib.hid hl; have HS := Lib.hid hs; have HR := Lib.hid h; have HB := Lib.hid hB; have HG := Lib.hid hg
  clear hl hs h hB hg
  go_enter Tryd.func34, Tryd.ntmps34
  go_wp2_with fail
  go_loopw [8] (fun i wr => ∃ k : Nat, i = .int .i64 k ∧ k ≤ n ∧ w.grownBy wr none ∧ Hid (∀ i : Nat, i < k → longE (xs.getD i .empty).size ≠ E)) (fun i _ => n - (intOf i).toNat)
  case atStart => exact ⟨0, rfl, by omega, World.grownBy.refl _ _, Lib.hid (by intro i h1; omega)⟩
  case round =>
    obtain ⟨k, rfl, hk, hgw, h2⟩ := hrel
    have h2' := Lib.hid h2.out
    by_cases hlt : k < n
    · obtain ⟨q, off, rfl, hq, hc⟩ := Reads.vals Value.string .empty (HR.out.grown hgw HB.out (by simp)) hlt
      have c0 := hc k hlt
      have q1 : (k : Int) < (n : Int) := by omega
      have hmem := getD_mem (xs := xs) (k := k) (by have := HL.out; omega)
      obtain ⟨x, hx⟩ : ∃ x, xs.getD k .empty = x := ⟨_, rfl⟩
      rw [hx] at c0 hmem
      have hi := fun V (hV : wr.grownBy V none) => is1_any x g E (HS.out x hmem) V ((HG.out.grown hgw (by simp)).grown hV (by simp))
      have HX := Lib.hid hx; have HI := Lib.hid hi; have HM := Lib.hid hmem
      clear h2 hc hx hi hmem
      go_wp2_with fail
      refine (HI.out _ (World.grownBy.refl _ _)).mono ?_
      rintro e w2 ⟨rfl, hg2⟩
      have hG := grown_self hgw hg2 (by simp)
      by_cases he : longE x.size = E
      · have HE := Lib.hid he
        rw [decide_eq_true he]
        clear hg2 he c0 hgw
        go_wp2_with fail
        go_ret
        exact ⟨(k : Int), rfl, ⟨fun _ => (hasE_iff _ _).2 ⟨x, HM.out, HE.out⟩, fun _ => by omega⟩, hG⟩
      · have HE := Lib.hid he
        rw [decide_eq_false he]
        clear hg2 he c0 hgw
        go_wp2_with fail
        refine ⟨⟨k + 1, by go_num, by omega, hG, Lib.hid fun i hi => ?_⟩, by simp [intOf]; omega⟩
        by_cases hik : i = k
        · rw [hik, HX.out]; exact HE.out
        · exact h2'.out i (by omega)
    · have q1 : (n : Int) ≤ (k : Int) := by omega
      have hno : ¬ hasE E xs = true := fun e => by
        obtain ⟨x, hx, e⟩ := (hasE_iff _ _).1 e
        obtain ⟨i, hi, rfl⟩ := mem_getD hx
        exact h2.out i (by have := HL.out; omega) e
      have HN := Lib.hid hno
      clear h2 hno
      go_wp2_with fail
      go_ret
      exact ⟨-1, rfl, ⟨fun e => absurd e (by decide), fun e => absurd e HN.out⟩, hgw⟩
set_option maxRecDepth 100000 in
theorem contains_any (B : Nat) (A : Option Addr) (n c : Nat) (xs : List ByteArray) (g : Nat) (E : Int) (w : World) (h : Reads w B 1 A n (xs.map Value.string)) (hB : B ≤ w.heap.size) (hs : ∀ x ∈ xs, x.size ≤ 9223372036854775807) (hn : n ≤ 9223372036854775807) (hg : Blk w g 25 #[.int .i64 E]) :
    Calls Tryd.prog 25 #[.slice A n c, .func (.func 35) #[] #[.pointer (some ⟨g, 0, none⟩)]] w fun e w' => e = .returned (.bool (hasE E xs)) ∧ w.grownBy w' none := by
  have HI := Lib.hid (index_any B A n c xs g E w h hB hs hn hg)
  clear h hs hg
  go_enter Tryd.func25, Tryd.ntmps25
  go_wp2_with fail
  refine HI.out.mono ?_
  rintro e w2 ⟨i, rfl, hi, hg2⟩
  have HK := Lib.hid hi
  clear hi HI
  go_wp2_with fail
  go_ret
  have hk := HK.out
  have e1 : decide (0 ≤ i) = hasE E xs := by
    by_cases h0 : 0 ≤ i
    · rw [decide_eq_true h0]; exact (hk.1 h0).symm
    · rw [decide_eq_false h0]
      cases hh : hasE E xs with
      | false => rfl
      | true => exact absurd (hk.2 hh) h0
  exact ⟨congrArg Ending.returned (congrArg Value.bool e1), hg2⟩
set_option maxRecDepth 100000 in
theorem all_any (B : Nat) (A : Option Addr) (n c : Nat) (xs : List ByteArray) (w : World) (hB : B ≤ w.heap.size) (h : Reads w B 1 A n (xs.map Value.string)) (hnm : n ≤ 1000000) (hnc : n ≤ c) (hlen : (catB xs).length ≤ 140737488355328) :
    Calls Tryd.prog 27 #[.slice A n c] w fun e w' => e = .returned (.bool (decide ((catB xs).length ≤ 131072))) ∧ w.grownBy w' none := by
  have HJ := Lib.hid (join_any B A n c xs w hB h hnm hnc hlen)
  obtain ⟨l, hl⟩ : ∃ l, catB xs = l := ⟨_, rfl⟩
  rw [hl] at HJ ⊢
  obtain ⟨s, hs⟩ : ∃ s : ByteArray, (⟨l.toArray⟩ : ByteArray) = s := ⟨_, rfl⟩
  have hz : s.size = l.length := by rw [← hs]; show l.toArray.size = _; simp
  rw [hs] at HJ
  rw [← hz]
  clear hl hlen h hs hz
  go_enter Tryd.func27, Tryd.ntmps27
  go_wp2_with fail
  refine HJ.out.mono ?_
  rintro e w2 ⟨rfl, hg2⟩
  have hg := grown_of_below hg2
  clear hg2 HJ
  go_wp2_with fail
  go_ret
  have e1 : decide ((s.size : Int) ≤ 131072) = decide (s.size ≤ 131072) := decide_eq_decide.2 (by omega)
  exact ⟨congrArg Ending.returned (congrArg Value.bool e1), hg⟩
end Go.Proofs.YtdflihfecfmpfaaDoor
