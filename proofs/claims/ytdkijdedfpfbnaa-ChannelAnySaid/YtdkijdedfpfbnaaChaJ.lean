/- Add. -/
import Derived.Test.YtdkijdedfpfbnaaChaI
namespace Go.Proofs.Ytdkijdedfpfbnaa
open Go.RowKit Go.Shelf

theorem exec_call3 {P : Program} {a : Act} {o : Oper} {W : World} (f : FuncId) (x y z : Operand) (ts : Array TypeId) (ho : o.op = .call { callee := .value (.func f), args := #[x, y, z], argTypes := ts }) (v u t : Value) (hx : a.eval x = v) (hy : a.eval y = u) (hz : a.eval z = t)
    (hf : (callFunc f #[v, u, t]).run P W = .ok (.enter f #[v, u, t]) W) : (execOp a.eval o).run P W = .ok (.enter f #[v, u, t]) W := by
  have he : a.eval (.func f) = .func (.func f) #[] #[] := rfl
  unfold execOp
  generalize a.eval = ev at *
  simp only [ho]
  simp [resolve, invoke, go_sem, hx, hy, hz, he, hf]

section
variable {xs : List Frm} {f : Frm}
theorem addE_1 (h1 : checkF f = 0) (h2 : heardF xs = true) (h3 : 0 < xs.length ∧ (xs.getD 0 Frm.none_).id ≠ f.id) : addE xs f = 1 := by unfold addE; rw [if_neg (by rw [h1]; simp), if_neg (by rw [h2]; simp), if_pos h3]
theorem addE_13 (h1 : checkF f = 0) (h2 : heardF xs = true) (h3 : ¬ (0 < xs.length ∧ (xs.getD 0 Frm.none_).id ≠ f.id)) (h4 : twiceF xs f.num = true) : addE xs f = 13 := by unfold addE; rw [if_neg (by rw [h1]; simp), if_neg (by rw [h2]; simp), if_neg h3, if_pos h4]
theorem addE_11 (h1 : checkF f = 0) (h2 : heardF xs = true) (h3 : ¬ (0 < xs.length ∧ (xs.getD 0 Frm.none_).id ≠ f.id)) (h4 : twiceF xs f.num = false) (h5 : orderF xs f = true) : addE xs f = 11 := by unfold addE; rw [if_neg (by rw [h1]; simp), if_neg (by rw [h2]; simp), if_neg h3, if_neg (by rw [h4]; simp), if_pos h5]
theorem addE_5 (h1 : checkF f = 0) (h2 : heardF xs = true) (h3 : ¬ (0 < xs.length ∧ (xs.getD 0 Frm.none_).id ≠ f.id)) (h4 : twiceF xs f.num = false) (h5 : orderF xs f = false) (h6 : 31 < f.num) : addE xs f = 5 := by unfold addE; rw [if_neg (by rw [h1]; simp), if_neg (by rw [h2]; simp), if_neg h3, if_neg (by rw [h4]; simp), if_neg (by rw [h5]; simp), if_pos h6]
theorem addE_0 (h1 : checkF f = 0) (h2 : heardF xs = true) (h3 : ¬ (0 < xs.length ∧ (xs.getD 0 Frm.none_).id ≠ f.id)) (h4 : twiceF xs f.num = false) (h5 : orderF xs f = false) (h6 : ¬ 31 < f.num) : addE xs f = 0 := by unfold addE; rw [if_neg (by rw [h1]; simp), if_neg (by rw [h2]; simp), if_neg h3, if_neg (by rw [h4]; simp), if_neg (by rw [h5]; simp), if_neg h6]
end
theorem own_new {w : World} {base : Nat} {e : TypeId} {size : Nat} {v : Value} {k : Nat} {xs : List Value} (h : w.ownsRow base e size v k xs) : some w.heap.size ≠ v.ownBlock := by
  rcases h.2 with ⟨rfl, _⟩ | ⟨g, cap, cur, rfl, _, hh, _⟩
  · simp [Value.ownBlock]
  · intro e'
    have : g = w.heap.size := by simpa [Value.ownBlock] using e'.symm
    subst this
    have := (Array.getElem?_eq_some_iff.1 hh).1
    omega
theorem Below.drewN' {B : Nat} {w w' : World} (h : Below B w w') (k : Nat) : Below B w (w'.drewN k) := ⟨h.os, h.tape, h.output, h.size, h.block⟩
/-- what Add answers -/
def AddPost (A : Option Addr) (n c : Nat) (xs : List Frm) (f : Frm) (w : World) (e : Ending) (w' : World) : Prop :=
  ∃ A' n' c', e = .returned (.tuple #[.slice A' n' c', .int .i64 (addE xs f)]) ∧ (addE xs f ≠ 0 → A' = A ∧ n' = n ∧ c' = c) ∧ n' = (addL xs f).length ∧ (addE xs f = 0 → n' ≤ c') ∧ Reads w' w'.heap.size 4 A' n' (framesV (addL xs f)) ∧ Below w.heap.size w w'
theorem AddPost.bad {A : Option Addr} {n c : Nat} {xs : List Frm} {f : Frm} {w w' : World} {E : Int} {B : Nat} (hB : B ≤ w.heap.size) (h : Reads w B 4 A n (framesV xs)) (hl : xs.length = n) (hE : addE xs f = E) (h0 : E ≠ 0) (hb : Below w.heap.size w w') :
    AddPost A n c xs f w (.returned (.tuple #[.slice A n c, .int .i64 E])) w' := by
  have hL : addL xs f = xs := by unfold addL; rw [if_neg (by rw [hE]; exact h0)]
  refine ⟨A, n, c, by rw [hE], fun _ => ⟨rfl, rfl, rfl⟩, by rw [hL, hl], fun h => absurd (hE.symm.trans h) h0, ?_, hb⟩
  rw [hL]
  exact (h.below (hb.mono hB)).more (Nat.le_trans hB hb.size)

set_option maxRecDepth 100000 in
set_option maxHeartbeats 4000000 in
theorem add_any (B : Nat) (A : Option Addr) (n c : Nat) (xs : List Frm) (f : Frm) (w : World) (hB : B ≤ w.heap.size) (h : Reads w B 4 A n (framesV xs)) (hn : n ≤ 1000000) :
    Calls Try.prog 14 #[.slice A n c, .agg #[.string f.id, .int .i64 f.num, .string f.data, .bool f.last]] w (AddPost A n c xs f w) := by
  have hl : xs.length = n := by have := h.1; rw [framesV_len] at this; omega
  have hck := fun W => check_any f W
  have hhd := fun W hB hR => heard_any B A n c xs W hB hR (by omega)
  have hse := fun hs W hB hR => search_any B A n c xs f.num W hB hR hn hs
  obtain ⟨e0, he0⟩ : ∃ e, checkF f = e := ⟨_, rfl⟩
  obtain ⟨H, hH⟩ : ∃ b, heardF xs = b := ⟨_, rfl⟩
  have hbad := fun w' E (hE : addE xs f = E) (h0 : E ≠ 0) (hb : Below w.heap.size w w') => AddPost.bad (c := c) hB h hl hE h0 hb
  rw [he0] at hck
  rw [hH] at hhd
  have hfr : f = ⟨f.id, f.num, f.data, f.last⟩ := rfl
  obtain ⟨id, hid⟩ : ∃ x, f.id = x := ⟨_, rfl⟩
  obtain ⟨num, hnum⟩ : ∃ x, f.num = x := ⟨_, rfl⟩
  obtain ⟨data, hdata⟩ : ∃ x, f.data = x := ⟨_, rfl⟩
  obtain ⟨last, hlast⟩ : ∃ x, f.last = x := ⟨_, rfl⟩
  have hfull : addE xs f = (if e0 ≠ 0 then e0 else if H = false then 2 else if 0 < n ∧ (xs.getD 0 Frm.none_).id ≠ id then 1 else if twiceF xs num = true then 13 else if orderF xs f = true then 11 else if 31 < num then 5 else 0) := by
    unfold addE; rw [he0, hH, hl, hid, hnum]
  rw [hid, hnum, hdata, hlast] at hck ⊢
  rw [hnum] at hse
  have HFR := Lib.hid hfr; have HID := Lib.hid hid; have HNUM := Lib.hid hnum; have HDATA := Lib.hid hdata; have HLAST := Lib.hid hlast
  have HFULL := Lib.hid hfull; have HL := Lib.hid hl; have HH := Lib.hid hH; have HC0 := Lib.hid he0
  clear hfr hid hnum hdata hlast hfull hl he0 hH
  have C0 : Car w (w.alloc (.cells #[.string id, .int .i64 num, .string data, .bool last] 30)) w.heap.size 30 #[.string id, .int .i64 num, .string data, .bool last] := ⟨(Below.refl _ _).alloc (Nat.le_refl _) _, Blk.new w 30 #[.string id, .int .i64 num, .string data, .bool last]⟩
  go_enter Try.func14, Try.ntmps14
  go_wp2_with fail
  generalize w.alloc (.cells #[.string id, .int .i64 num, .string data, .bool last] 30) = w0 at *
  refine (hck w0).mono ?_
  rintro e w1 ⟨rfl, hg⟩
  have C1 := C0.step (below_of_grown hg)
  clear hg C0 hck
  by_cases h0 : e0 = 0
  · subst h0
    have hR1 := h.below (C1.below.mono hB)
    have hs1 := C1.below.size
    go_wp2_with fail
    refine (hhd w1 (by omega) hR1).mono ?_
    rintro e w2 ⟨rfl, hg⟩
    have C2 := C1.step (below_of_grown hg)
    have hs2 := C2.below.size
    have hR2 := h.below (C2.below.mono hB)
    clear hg C1 hR1
    cases H
    · have hE : addE xs f = 2 := by rw [HFULL.out]; rfl
      have HE := Lib.hid hE
      clear hE
      go_wp2_with fail
      refine (hhd w2 (by omega) hR2).mono ?_
      rintro e w3 ⟨rfl, hg⟩
      have C3 := C2.step (below_of_grown hg)
      go_wp2_with fail
      go_ret2
      exact hbad _ _ HE.out (by decide) C3.below
    have hs : Sorted xs := heard_sorted (by first | exact HH.out | (have := HH.out; simpa using this))
    have b2 := C2.blk
    have e1 := b2.cell 1
    simp only [List.getElem?_toArray, List.getElem?_cons_zero, List.getElem?_cons_succ] at e1
    go_wp2_with fail
    refine (hse hs w2 (by omega) hR2).mono ?_
    rintro e w3 ⟨p, rfl, hat, hg⟩
    have C3 := C2.step (below_of_grown hg)
    have hs3 := C3.below.size
    have hR3 := h.below (C3.below.mono hB)
    have htw := twice_at hs hat
    rw [HL.out] at htw
    obtain ⟨F, hF⟩ : ∃ b, (decide (p < n) && decide ((xs.getD p Frm.none_).num = num)) = b := ⟨_, rfl⟩
    rw [hF] at htw ⊢
    have HAT := Lib.hid hat; have HTW := Lib.hid htw
    clear hg C2 hR2 b2 e1 hF htw hat hs hse
    go_wp2_with fail
    refine (hhd w3 (by omega) hR3).mono ?_
    rintro e w4 ⟨rfl, hg⟩
    have C4 := C3.step (below_of_grown hg)
    have hs4 := C4.below.size
    have hR4 := h.below (C4.below.mono hB)
    clear hg C3 hR3 hhd
    have b4 := C4.blk
    have f0 := b4.cell 0; have f1 := b4.cell 1; have f2 := b4.cell 2; have f3 := b4.cell 3
    simp only [List.getElem?_toArray, List.getElem?_cons_zero, List.getElem?_cons_succ] at f0 f1 f2 f3
    have hple : p ≤ n := by have := HAT.out.le; have := HL.out; omega
    by_cases hn0 : n = 0
    · have dn : decide ((0 : Int) < (n : Int)) = false := decide_eq_false (by omega)
      have dn2 : decide (0 < n) = false := decide_eq_false (by omega)
      have h3 : ¬ (0 < xs.length ∧ (xs.getD 0 Frm.none_).id ≠ f.id) := by have := HL.out; omega
      have H3 := Lib.hid h3; have HN0 := Lib.hid hn0
      clear h3
      have hnp : n ≤ 0 := by omega
      clear hn0
      go_wp2_with fail
      go_quiet (fail)
      cases F
      · have hno : twiceF xs num = false := HTW.out
        have hor := order_at (f := f) HH.out (by rw [HNUM.out]; exact HAT.out) (by rw [HNUM.out]; exact hno)
        rw [HLAST.out, HL.out] at hor
        have hno : twiceF xs f.num = false := by rw [HNUM.out]; exact hno
        have HNO := Lib.hid hno; have HOR := Lib.hid hor
        clear hno hor
        have hp0 : p = 0 := by omega
        have dp : decide ((0 : Int) < (p : Int)) = false := by simp; omega
        have dp2 : decide (0 < p) = false := by simp; omega
        have dpn : decide ((p : Int) < (n : Int)) = false := by simp; omega
        have dpn2 : decide (p < n) = false := by simp; omega
        have HP0 := Lib.hid hp0
        clear hp0
        cases last
        · have hor0 : orderF xs f = false := by rw [HOR.out, dp2, dpn2]; rfl
          have HOR0 := Lib.hid hor0
          clear hor0
          by_cases h31 : 31 < num
          · have d31 : decide ((32 : Int) ≤ num) = true := by simp; omega
            have hE := addE_5 HC0.out HH.out H3.out HNO.out HOR0.out (by rw [HNUM.out]; exact h31)
            have HE := Lib.hid hE
            clear hE
            go_wp2_with fail
            go_ret2
            exact hbad _ _ HE.out (by decide) (below_drewN C4.below _)
          · have d31 : decide ((32 : Int) ≤ num) = false := by simp; omega
            have h31' : ¬ 31 < f.num := by rw [HNUM.out]; exact h31
            have H31 := Lib.hid h31'
            clear h31 h31'
            go_wp2_with fail
            have C5 := C4.step (below_drewN (Below.refl _ w4) nq)
            have hR5 := hR4.below ((below_drewN (Below.refl _ w4) nq).mono (by omega))
            generalize w4.drewN nq = w5 at *
            have hs5 := C5.below.size
            have hB5 : B ≤ w5.heap.size := by omega
            have hno := HNO.out; have hor0 := HOR0.out
            have h31 : ¬ 31 < f.num := by first | exact H31.out | exact Int.not_lt.2 H31.out
            clear f0 f1 f2 f3 b4 C4 hR4 hs4
            have hple2 : p ≤ n := hple
            have hE0 := addE_0 HC0.out HH.out H3.out hno hor0 h31
            have hpos := pos_at HAT.out (by rw [← HNUM.out]; exact hno)
            have hL0 : addL xs f = xs.take p ++ f :: xs.drop p := by unfold addL; rw [if_pos hE0, HNUM.out, hpos]
            have hlen : (xs.take p ++ f :: xs.drop p).length = n + 1 := by have := HL.out; simp; omega
            have HE0 := Lib.hid hE0; have HL0 := Lib.hid hL0; have HLEN := Lib.hid hlen
            have hins := fun W A' c' g base hown hbase (hg : Blk W g 30 #[.string id, .int .i64 num, .string data, .bool false]) hgb => insert_any base A' n c' p g xs f W hple2 hn hown hbase (by rw [HID.out, HNUM.out, HDATA.out, HLAST.out]; exact hg) hgb
            clear hE0 hpos hL0 hlen hbad h31 hno hor0
            have hclo := fun W hB hR => clone_any B A n c xs W hB hR hn
            refine wp_region_held (S := fun W => Below w5.heap.size w5 W) (by kernel_rfl) ?_
            change wpAnyH _ _ _ _ _ _ _ _ w5.drew
            have hS0 : Below w5.heap.size w5 w5.drew := ⟨rfl, rfl, rfl, Nat.le_refl _, fun _ _ => rfl⟩
            generalize w5.drew = u0 at *
            have hrow : ∀ W, Below w5.heap.size w5 W → Blk W w.heap.size 30 #[.string id, .int .i64 num, .string data, .bool false] := fun W hW => C5.blk.below hW C5.blk.lt
            refine held_take (i := 0) (v := .slice A n c) (some 83) rfl (by kernel_rfl) (by kernel_rfl) (by kernel_rfl) (fun _ _ _ h => h) rfl (Or.inl ⟨by rfl, fun W hW => exec_move (.tmp 0) rfl _ rfl⟩) hS0 ?_
            simp only [Act.put, List.setIfInBounds_toArray, List.set_cons_zero, List.set_cons_succ]
            refine held_take (i := 2) (v := .int .i64 (p : Int)) (some 85) rfl (by kernel_rfl) (by kernel_rfl) (by kernel_rfl) (fun _ _ _ h => h) rfl (Or.inl ⟨by rfl, fun W hW => exec_move (.tmp 9) rfl _ rfl⟩) hS0 ?_
            simp only [Act.put, List.setIfInBounds_toArray, List.set_cons_zero, List.set_cons_succ]
            refine held_take (i := 3) (v := .agg #[.string id, .int .i64 num, .string data, .bool false]) (some 86) rfl (by kernel_rfl) (by kernel_rfl) (by kernel_rfl) (fun _ _ _ h => h) rfl (Or.inl ⟨by rfl, fun W hW => exec_load4 (.tmp 3) rfl rfl ((hrow W hW).cell 0) ((hrow W hW).cell 1) ((hrow W hW).cell 2) ((hrow W hW).cell 3)⟩) hS0 ?_
            simp only [Act.put, List.setIfInBounds_toArray, List.set_cons_zero, List.set_cons_succ]
            refine held_two (i := 1) (j := 4) (by kernel_rfl) ?_ ?_
            · refine held_enter (some 84) rfl rfl 27 #[.slice A n c] (exec_call1 _ (.tmp 83) _ rfl _ rfl (enters_of Try.func27 (by kernel_rfl) rfl _ _)) rfl ((hclo _ (Nat.le_trans hB5 hS0.size) (hR5.below (hS0.mono hB5))).mono ?_)
              rintro e v1 ⟨A3, c3, rfl, hown, hg1⟩
              have hS1 : Below w5.heap.size w5 v1 := Below.then_grown hS0 hg1
              refine ⟨_, rfl, hS1, ?_⟩
              simp only [Act.put, List.setIfInBounds_toArray, List.set_cons_zero, List.set_cons_succ]
              refine held_one (i := 4) (by kernel_rfl) ?_
              have hS2 : Below w5.heap.size w5 (v1.alloc (.cells #[.string id, .int .i64 num, .string data, .bool false] 30)) := hS1.alloc hS1.size _
              refine held_value (some 87) rfl rfl (.slice (some ⟨v1.heap.size, 0, none⟩) 1 1) (by go_simp <;> rfl) rfl hS2 ?_
              have hblk := Blk.new v1 30 #[.string id, .int .i64 num, .string data, .bool false]
              have hgb : some v1.heap.size ≠ (Value.slice A3 n c3).ownBlock := own_new hown
              replace hown := ownsRow_below hown ((Below.refl _ v1).alloc (Nat.le_refl _) (.cells #[.string id, .int .i64 num, .string data, .bool false] 30))
              have hbase : u0.heap.size ≤ (v1.alloc (.cells #[.string id, .int .i64 num, .string data, .bool false] 30)).heap.size := by have := hg1.size; simp; omega
              generalize v1.alloc (.cells #[.string id, .int .i64 num, .string data, .bool false] 30) = v2 at *
              have hbw : w5.heap.size ≤ u0.heap.size := hS0.size
              simp only [Act.put, List.setIfInBounds_toArray, List.set_cons_zero, List.set_cons_succ]
              refine held_one (i := 5) (by kernel_rfl) ?_
              refine held_enter (some 88) rfl rfl 26 #[.slice A3 n c3, .int .i64 (p : Int), .slice (some ⟨v1.heap.size, 0, none⟩) 1 1] (exec_call3 _ (.tmp 84) (.tmp 85) (.tmp 87) _ rfl _ _ _ rfl rfl rfl (enters_of Try.func26 (by kernel_rfl) rfl _ _)) rfl ((hins v2 A3 c3 v1.heap.size u0.heap.size hown hbase hblk hgb).mono ?_)
              rintro e v3 ⟨A4, c4, rfl, hown4, hbe4⟩
              have hS3 : Below w5.heap.size w5 v3 := hS2.trans (hbe4.mono hbw)
              refine ⟨_, rfl, hS3, ?_⟩
              simp only [Act.put, List.setIfInBounds_toArray, List.set_cons_zero, List.set_cons_succ]
              refine held_take (i := 6) (v := .slice A4 (n + 1) c4) (some 4) rfl (by kernel_rfl) (by kernel_rfl) (by kernel_rfl) (fun _ _ _ h => h) rfl (Or.inl ⟨by rfl, fun W hW => by go_simp⟩) hS3 ?_
              simp only [Act.put, List.setIfInBounds_toArray, List.set_cons_zero, List.set_cons_succ]
              refine held_take (i := 7) (v := .int .i64 0) (some 5) rfl (by kernel_rfl) (by kernel_rfl) (by kernel_rfl) (fun _ _ _ h => h) rfl (Or.inl ⟨by rfl, fun W hW => by go_simp⟩) hS3 ?_
              simp only [Act.put, List.setIfInBounds_toArray, List.set_cons_zero, List.set_cons_succ]
              refine wpAnyH_done (by kernel_rfl) ?_ _
              have hbf := Below.then C5.below hS3
              have hcap := own_cap hown4
              have hrd := Reads.of_own hown4
              clear hown4 hins hclo
              go_wp2_with fail
              go_ret2
              exact ⟨A4, n + 1, c4, by rw [HE0.out]; rfl, fun h => absurd HE0.out h, by rw [HL0.out, HLEN.out], fun _ => hcap, by rw [HL0.out]; exact hrd, hbf⟩
            · have hS1 : Below w5.heap.size w5 (u0.alloc (.cells #[.string id, .int .i64 num, .string data, .bool false] 30)) := hS0.alloc hS0.size _
              refine held_value (some 87) rfl rfl (.slice (some ⟨u0.heap.size, 0, none⟩) 1 1) (by go_simp <;> rfl) rfl hS1 ?_
              have hblk1 := Blk.new u0 30 #[.string id, .int .i64 num, .string data, .bool false]
              have hz1 : (u0.alloc (.cells #[.string id, .int .i64 num, .string data, .bool false] 30)).heap.size = u0.heap.size + 1 := by simp
              generalize u0.alloc (.cells #[.string id, .int .i64 num, .string data, .bool false] 30) = v1 at *
              simp only [Act.put, List.setIfInBounds_toArray, List.set_cons_zero, List.set_cons_succ]
              refine held_one (i := 1) (by kernel_rfl) ?_
              refine held_enter (some 84) rfl rfl 27 #[.slice A n c] (exec_call1 _ (.tmp 83) _ rfl _ rfl (enters_of Try.func27 (by kernel_rfl) rfl _ _)) rfl ((hclo _ (Nat.le_trans hB5 hS1.size) (hR5.below (hS1.mono hB5))).mono ?_)
              rintro e v2 ⟨A3, c3, rfl, hown, hg1⟩
              have hS2 : Below w5.heap.size w5 v2 := Below.then_grown hS1 hg1
              refine ⟨_, rfl, hS2, ?_⟩
              have hblk := hblk1.grown hg1 (by simp)
              have hgb : some u0.heap.size ≠ (Value.slice A3 n c3).ownBlock := fun e => by have := own_ge hown e.symm; omega
              have hbase : v1.heap.size ≤ v2.heap.size := hg1.size
              have hbw : w5.heap.size ≤ v1.heap.size := hS1.size
              simp only [Act.put, List.setIfInBounds_toArray, List.set_cons_zero, List.set_cons_succ]
              refine held_one (i := 5) (by kernel_rfl) ?_
              refine held_enter (some 88) rfl rfl 26 #[.slice A3 n c3, .int .i64 (p : Int), .slice (some ⟨u0.heap.size, 0, none⟩) 1 1] (exec_call3 _ (.tmp 84) (.tmp 85) (.tmp 87) _ rfl _ _ _ rfl rfl rfl (enters_of Try.func26 (by kernel_rfl) rfl _ _)) rfl ((hins v2 A3 c3 u0.heap.size v1.heap.size hown hbase hblk hgb).mono ?_)
              rintro e v3 ⟨A4, c4, rfl, hown4, hbe4⟩
              have hS3 : Below w5.heap.size w5 v3 := hS2.trans (hbe4.mono hbw)
              refine ⟨_, rfl, hS3, ?_⟩
              simp only [Act.put, List.setIfInBounds_toArray, List.set_cons_zero, List.set_cons_succ]
              refine held_take (i := 6) (v := .slice A4 (n + 1) c4) (some 4) rfl (by kernel_rfl) (by kernel_rfl) (by kernel_rfl) (fun _ _ _ h => h) rfl (Or.inl ⟨by rfl, fun W hW => by go_simp⟩) hS3 ?_
              simp only [Act.put, List.setIfInBounds_toArray, List.set_cons_zero, List.set_cons_succ]
              refine held_take (i := 7) (v := .int .i64 0) (some 5) rfl (by kernel_rfl) (by kernel_rfl) (by kernel_rfl) (fun _ _ _ h => h) rfl (Or.inl ⟨by rfl, fun W hW => by go_simp⟩) hS3 ?_
              simp only [Act.put, List.setIfInBounds_toArray, List.set_cons_zero, List.set_cons_succ]
              refine wpAnyH_done (by kernel_rfl) ?_ _
              have hbf := Below.then C5.below hS3
              have hcap := own_cap hown4
              have hrd := Reads.of_own hown4
              clear hown4 hins hclo
              go_wp2_with fail
              go_ret2
              exact ⟨A4, n + 1, c4, by rw [HE0.out]; rfl, fun h => absurd HE0.out h, by rw [HL0.out, HLEN.out], fun _ => hcap, by rw [HL0.out]; exact hrd, hbf⟩
        · have hor0 : orderF xs f = false := by rw [HOR.out, dp2, dpn2]; rfl
          have HOR0 := Lib.hid hor0
          clear hor0
          by_cases h31 : 31 < num
          · have d31 : decide ((32 : Int) ≤ num) = true := by simp; omega
            have hE := addE_5 HC0.out HH.out H3.out HNO.out HOR0.out (by rw [HNUM.out]; exact h31)
            have HE := Lib.hid hE
            clear hE
            go_wp2_with fail
            go_ret2
            exact hbad _ _ HE.out (by decide) (below_drewN C4.below _)
          · have d31 : decide ((32 : Int) ≤ num) = false := by simp; omega
            have h31' : ¬ 31 < f.num := by rw [HNUM.out]; exact h31
            have H31 := Lib.hid h31'
            clear h31 h31'
            go_wp2_with fail
            have C5 := C4.step (below_drewN (Below.refl _ w4) nq)
            have hR5 := hR4.below ((below_drewN (Below.refl _ w4) nq).mono (by omega))
            generalize w4.drewN nq = w5 at *
            have hs5 := C5.below.size
            have hB5 : B ≤ w5.heap.size := by omega
            have hno := HNO.out; have hor0 := HOR0.out
            have h31 : ¬ 31 < f.num := by first | exact H31.out | exact Int.not_lt.2 H31.out
            clear f0 f1 f2 f3 b4 C4 hR4 hs4
            have hple2 : p ≤ n := hple
            have hE0 := addE_0 HC0.out HH.out H3.out hno hor0 h31
            have hpos := pos_at HAT.out (by rw [← HNUM.out]; exact hno)
            have hL0 : addL xs f = xs.take p ++ f :: xs.drop p := by unfold addL; rw [if_pos hE0, HNUM.out, hpos]
            have hlen : (xs.take p ++ f :: xs.drop p).length = n + 1 := by have := HL.out; simp; omega
            have HE0 := Lib.hid hE0; have HL0 := Lib.hid hL0; have HLEN := Lib.hid hlen
            have hins := fun W A' c' g base hown hbase (hg : Blk W g 30 #[.string id, .int .i64 num, .string data, .bool true]) hgb => insert_any base A' n c' p g xs f W hple2 hn hown hbase (by rw [HID.out, HNUM.out, HDATA.out, HLAST.out]; exact hg) hgb
            clear hE0 hpos hL0 hlen hbad h31 hno hor0
            have hclo := fun W hB hR => clone_any B A n c xs W hB hR hn
            refine wp_region_held (S := fun W => Below w5.heap.size w5 W) (by kernel_rfl) ?_
            change wpAnyH _ _ _ _ _ _ _ _ w5.drew
            have hS0 : Below w5.heap.size w5 w5.drew := ⟨rfl, rfl, rfl, Nat.le_refl _, fun _ _ => rfl⟩
            generalize w5.drew = u0 at *
            have hrow : ∀ W, Below w5.heap.size w5 W → Blk W w.heap.size 30 #[.string id, .int .i64 num, .string data, .bool true] := fun W hW => C5.blk.below hW C5.blk.lt
            refine held_take (i := 0) (v := .slice A n c) (some 83) rfl (by kernel_rfl) (by kernel_rfl) (by kernel_rfl) (fun _ _ _ h => h) rfl (Or.inl ⟨by rfl, fun W hW => exec_move (.tmp 0) rfl _ rfl⟩) hS0 ?_
            simp only [Act.put, List.setIfInBounds_toArray, List.set_cons_zero, List.set_cons_succ]
            refine held_take (i := 2) (v := .int .i64 (p : Int)) (some 85) rfl (by kernel_rfl) (by kernel_rfl) (by kernel_rfl) (fun _ _ _ h => h) rfl (Or.inl ⟨by rfl, fun W hW => exec_move (.tmp 9) rfl _ rfl⟩) hS0 ?_
            simp only [Act.put, List.setIfInBounds_toArray, List.set_cons_zero, List.set_cons_succ]
            refine held_take (i := 3) (v := .agg #[.string id, .int .i64 num, .string data, .bool true]) (some 86) rfl (by kernel_rfl) (by kernel_rfl) (by kernel_rfl) (fun _ _ _ h => h) rfl (Or.inl ⟨by rfl, fun W hW => exec_load4 (.tmp 3) rfl rfl ((hrow W hW).cell 0) ((hrow W hW).cell 1) ((hrow W hW).cell 2) ((hrow W hW).cell 3)⟩) hS0 ?_
            simp only [Act.put, List.setIfInBounds_toArray, List.set_cons_zero, List.set_cons_succ]
            refine held_two (i := 1) (j := 4) (by kernel_rfl) ?_ ?_
            · refine held_enter (some 84) rfl rfl 27 #[.slice A n c] (exec_call1 _ (.tmp 83) _ rfl _ rfl (enters_of Try.func27 (by kernel_rfl) rfl _ _)) rfl ((hclo _ (Nat.le_trans hB5 hS0.size) (hR5.below (hS0.mono hB5))).mono ?_)
              rintro e v1 ⟨A3, c3, rfl, hown, hg1⟩
              have hS1 : Below w5.heap.size w5 v1 := Below.then_grown hS0 hg1
              refine ⟨_, rfl, hS1, ?_⟩
              simp only [Act.put, List.setIfInBounds_toArray, List.set_cons_zero, List.set_cons_succ]
              refine held_one (i := 4) (by kernel_rfl) ?_
              have hS2 : Below w5.heap.size w5 (v1.alloc (.cells #[.string id, .int .i64 num, .string data, .bool true] 30)) := hS1.alloc hS1.size _
              refine held_value (some 87) rfl rfl (.slice (some ⟨v1.heap.size, 0, none⟩) 1 1) (by go_simp <;> rfl) rfl hS2 ?_
              have hblk := Blk.new v1 30 #[.string id, .int .i64 num, .string data, .bool true]
              have hgb : some v1.heap.size ≠ (Value.slice A3 n c3).ownBlock := own_new hown
              replace hown := ownsRow_below hown ((Below.refl _ v1).alloc (Nat.le_refl _) (.cells #[.string id, .int .i64 num, .string data, .bool true] 30))
              have hbase : u0.heap.size ≤ (v1.alloc (.cells #[.string id, .int .i64 num, .string data, .bool true] 30)).heap.size := by have := hg1.size; simp; omega
              generalize v1.alloc (.cells #[.string id, .int .i64 num, .string data, .bool true] 30) = v2 at *
              have hbw : w5.heap.size ≤ u0.heap.size := hS0.size
              simp only [Act.put, List.setIfInBounds_toArray, List.set_cons_zero, List.set_cons_succ]
              refine held_one (i := 5) (by kernel_rfl) ?_
              refine held_enter (some 88) rfl rfl 26 #[.slice A3 n c3, .int .i64 (p : Int), .slice (some ⟨v1.heap.size, 0, none⟩) 1 1] (exec_call3 _ (.tmp 84) (.tmp 85) (.tmp 87) _ rfl _ _ _ rfl rfl rfl (enters_of Try.func26 (by kernel_rfl) rfl _ _)) rfl ((hins v2 A3 c3 v1.heap.size u0.heap.size hown hbase hblk hgb).mono ?_)
              rintro e v3 ⟨A4, c4, rfl, hown4, hbe4⟩
              have hS3 : Below w5.heap.size w5 v3 := hS2.trans (hbe4.mono hbw)
              refine ⟨_, rfl, hS3, ?_⟩
              simp only [Act.put, List.setIfInBounds_toArray, List.set_cons_zero, List.set_cons_succ]
              refine held_take (i := 6) (v := .slice A4 (n + 1) c4) (some 4) rfl (by kernel_rfl) (by kernel_rfl) (by kernel_rfl) (fun _ _ _ h => h) rfl (Or.inl ⟨by rfl, fun W hW => by go_simp⟩) hS3 ?_
              simp only [Act.put, List.setIfInBounds_toArray, List.set_cons_zero, List.set_cons_succ]
              refine held_take (i := 7) (v := .int .i64 0) (some 5) rfl (by kernel_rfl) (by kernel_rfl) (by kernel_rfl) (fun _ _ _ h => h) rfl (Or.inl ⟨by rfl, fun W hW => by go_simp⟩) hS3 ?_
              simp only [Act.put, List.setIfInBounds_toArray, List.set_cons_zero, List.set_cons_succ]
              refine wpAnyH_done (by kernel_rfl) ?_ _
              have hbf := Below.then C5.below hS3
              have hcap := own_cap hown4
              have hrd := Reads.of_own hown4
              clear hown4 hins hclo
              go_wp2_with fail
              go_ret2
              exact ⟨A4, n + 1, c4, by rw [HE0.out]; rfl, fun h => absurd HE0.out h, by rw [HL0.out, HLEN.out], fun _ => hcap, by rw [HL0.out]; exact hrd, hbf⟩
            · have hS1 : Below w5.heap.size w5 (u0.alloc (.cells #[.string id, .int .i64 num, .string data, .bool true] 30)) := hS0.alloc hS0.size _
              refine held_value (some 87) rfl rfl (.slice (some ⟨u0.heap.size, 0, none⟩) 1 1) (by go_simp <;> rfl) rfl hS1 ?_
              have hblk1 := Blk.new u0 30 #[.string id, .int .i64 num, .string data, .bool true]
              have hz1 : (u0.alloc (.cells #[.string id, .int .i64 num, .string data, .bool true] 30)).heap.size = u0.heap.size + 1 := by simp
              generalize u0.alloc (.cells #[.string id, .int .i64 num, .string data, .bool true] 30) = v1 at *
              simp only [Act.put, List.setIfInBounds_toArray, List.set_cons_zero, List.set_cons_succ]
              refine held_one (i := 1) (by kernel_rfl) ?_
              refine held_enter (some 84) rfl rfl 27 #[.slice A n c] (exec_call1 _ (.tmp 83) _ rfl _ rfl (enters_of Try.func27 (by kernel_rfl) rfl _ _)) rfl ((hclo _ (Nat.le_trans hB5 hS1.size) (hR5.below (hS1.mono hB5))).mono ?_)
              rintro e v2 ⟨A3, c3, rfl, hown, hg1⟩
              have hS2 : Below w5.heap.size w5 v2 := Below.then_grown hS1 hg1
              refine ⟨_, rfl, hS2, ?_⟩
              have hblk := hblk1.grown hg1 (by simp)
              have hgb : some u0.heap.size ≠ (Value.slice A3 n c3).ownBlock := fun e => by have := own_ge hown e.symm; omega
              have hbase : v1.heap.size ≤ v2.heap.size := hg1.size
              have hbw : w5.heap.size ≤ v1.heap.size := hS1.size
              simp only [Act.put, List.setIfInBounds_toArray, List.set_cons_zero, List.set_cons_succ]
              refine held_one (i := 5) (by kernel_rfl) ?_
              refine held_enter (some 88) rfl rfl 26 #[.slice A3 n c3, .int .i64 (p : Int), .slice (some ⟨u0.heap.size, 0, none⟩) 1 1] (exec_call3 _ (.tmp 84) (.tmp 85) (.tmp 87) _ rfl _ _ _ rfl rfl rfl (enters_of Try.func26 (by kernel_rfl) rfl _ _)) rfl ((hins v2 A3 c3 u0.heap.size v1.heap.size hown hbase hblk hgb).mono ?_)
              rintro e v3 ⟨A4, c4, rfl, hown4, hbe4⟩
              have hS3 : Below w5.heap.size w5 v3 := hS2.trans (hbe4.mono hbw)
              refine ⟨_, rfl, hS3, ?_⟩
              simp only [Act.put, List.setIfInBounds_toArray, List.set_cons_zero, List.set_cons_succ]
              refine held_take (i := 6) (v := .slice A4 (n + 1) c4) (some 4) rfl (by kernel_rfl) (by kernel_rfl) (by kernel_rfl) (fun _ _ _ h => h) rfl (Or.inl ⟨by rfl, fun W hW => by go_simp⟩) hS3 ?_
              simp only [Act.put, List.setIfInBounds_toArray, List.set_cons_zero, List.set_cons_succ]
              refine held_take (i := 7) (v := .int .i64 0) (some 5) rfl (by kernel_rfl) (by kernel_rfl) (by kernel_rfl) (fun _ _ _ h => h) rfl (Or.inl ⟨by rfl, fun W hW => by go_simp⟩) hS3 ?_
              simp only [Act.put, List.setIfInBounds_toArray, List.set_cons_zero, List.set_cons_succ]
              refine wpAnyH_done (by kernel_rfl) ?_ _
              have hbf := Below.then C5.below hS3
              have hcap := own_cap hown4
              have hrd := Reads.of_own hown4
              clear hown4 hins hclo
              go_wp2_with fail
              go_ret2
              exact ⟨A4, n + 1, c4, by rw [HE0.out]; rfl, fun h => absurd HE0.out h, by rw [HL0.out, HLEN.out], fun _ => hcap, by rw [HL0.out]; exact hrd, hbf⟩
      · have hE := addE_13 HC0.out HH.out H3.out (by rw [HNUM.out]; exact HTW.out)
        have HE := Lib.hid hE
        clear hE
        go_wp2_with fail
        go_ret2
        exact hbad _ _ HE.out (by decide) (below_drewN C4.below _)
    · obtain ⟨b, off, rfl, hbb, hcc⟩ := hR4.frames (k := 0) (by omega)
      have dn : decide ((0 : Int) < (n : Int)) = true := decide_eq_true (by omega)
      have dn2 : decide (0 < n) = true := decide_eq_true (by omega)
      have dn3 : (0 : Int) < (n : Int) := by omega
      have z0 := (hcc 0 (by omega)).1
      rw [Nat.zero_mul, Nat.add_zero] at z0
      obtain ⟨z, hz⟩ : ∃ z, (xs.getD 0 Frm.none_).id = z := ⟨_, rfl⟩
      rw [hz] at z0
      by_cases hzi : z = id
      · have h3 : ¬ (0 < xs.length ∧ (xs.getD 0 Frm.none_).id ≠ f.id) := by rw [hz, HID.out]; exact fun h => h.2 hzi
        have dz : (z.toList == id.toList) = true := by rw [hzi]; simp
        have H3 := Lib.hid h3; have HN0 := Lib.hid hn0; have HZI := Lib.hid hzi
        clear h3 hn0 hz hzi
        go_wp2_with fail
        go_quiet (fail)
        clear z0 dz
        cases F
        · have hno : twiceF xs num = false := HTW.out
          have hor := order_at (f := f) HH.out (by rw [HNUM.out]; exact HAT.out) (by rw [HNUM.out]; exact hno)
          rw [HLAST.out, HL.out] at hor
          have hno : twiceF xs f.num = false := by rw [HNUM.out]; exact hno
          have HNO := Lib.hid hno; have HOR := Lib.hid hor
          clear hno hor
          obtain ⟨pl, hpl⟩ : ∃ b, (xs.getD (p - 1) Frm.none_).last = b := ⟨_, rfl⟩
          rw [hpl] at HOR
          by_cases hp0 : 0 < p
          · have dp : decide ((0 : Int) < (p : Int)) = true := decide_eq_true (by omega)
            have dp2 : decide (0 < p) = true := decide_eq_true hp0
            have hc3 := (hcc (p - 1) (by omega)).2.2.2
            rw [hpl] at hc3
            have e9 : IntKind.i64.wrap ((p : Int) - 1) = (p : Int) - 1 := IntWalk.i64_in _ (by omega)
            have e8 : ((p : Int) - 1).toNat = p - 1 := by omega
            have e7 : (0 : Int) ≤ (p : Int) - 1 := by omega
            have e7' : (1 : Int) ≤ (p : Int) := by omega
            have e6 : (p : Int) - 1 < (n : Int) := by omega
            have hpp : (0 : Int) < (p : Int) := by omega
            clear hcc hpl
            cases pl
            · cases last
              · have hor0 : orderF xs f = false := by rw [HOR.out, dp2]; rfl
                have HOR0 := Lib.hid hor0
                clear hor0
                by_cases h31 : 31 < num
                · have d31 : decide ((32 : Int) ≤ num) = true := by simp; omega
                  have hE := addE_5 HC0.out HH.out H3.out HNO.out HOR0.out (by rw [HNUM.out]; exact h31)
                  have HE := Lib.hid hE
                  clear hE
                  go_wp2_with fail
                  go_ret2
                  exact hbad _ _ HE.out (by decide) (below_drewN C4.below _)
                · have d31 : decide ((32 : Int) ≤ num) = false := by simp; omega
                  have h31' : ¬ 31 < f.num := by rw [HNUM.out]; exact h31
                  have H31 := Lib.hid h31'
                  clear h31 h31'
                  go_wp2_with fail
                  have C5 := C4.step (below_drewN (Below.refl _ w4) nq)
                  have hR5 := hR4.below ((below_drewN (Below.refl _ w4) nq).mono (by omega))
                  generalize w4.drewN nq = w5 at *
                  have hs5 := C5.below.size
                  have hB5 : B ≤ w5.heap.size := by omega
                  have hno := HNO.out; have hor0 := HOR0.out
                  have h31 : ¬ 31 < f.num := by first | exact H31.out | exact Int.not_lt.2 H31.out
                  clear f0 f1 f2 f3 b4 C4 hR4 hs4
                  have hple2 : p ≤ n := hple
                  have hE0 := addE_0 HC0.out HH.out H3.out hno hor0 h31
                  have hpos := pos_at HAT.out (by rw [← HNUM.out]; exact hno)
                  have hL0 : addL xs f = xs.take p ++ f :: xs.drop p := by unfold addL; rw [if_pos hE0, HNUM.out, hpos]
                  have hlen : (xs.take p ++ f :: xs.drop p).length = n + 1 := by have := HL.out; simp; omega
                  have HE0 := Lib.hid hE0; have HL0 := Lib.hid hL0; have HLEN := Lib.hid hlen
                  have hins := fun W A' c' g base hown hbase (hg : Blk W g 30 #[.string id, .int .i64 num, .string data, .bool false]) hgb => insert_any base A' n c' p g xs f W hple2 hn hown hbase (by rw [HID.out, HNUM.out, HDATA.out, HLAST.out]; exact hg) hgb
                  clear hE0 hpos hL0 hlen hbad h31 hno hor0
                  have hclo := fun W hB hR => clone_any B (some ⟨b, off, none⟩) n c xs W hB hR hn
                  refine wp_region_held (S := fun W => Below w5.heap.size w5 W) (by kernel_rfl) ?_
                  change wpAnyH _ _ _ _ _ _ _ _ w5.drew
                  have hS0 : Below w5.heap.size w5 w5.drew := ⟨rfl, rfl, rfl, Nat.le_refl _, fun _ _ => rfl⟩
                  generalize w5.drew = u0 at *
                  have hrow : ∀ W, Below w5.heap.size w5 W → Blk W w.heap.size 30 #[.string id, .int .i64 num, .string data, .bool false] := fun W hW => C5.blk.below hW C5.blk.lt
                  refine held_take (i := 0) (v := .slice (some ⟨b, off, none⟩) n c) (some 83) rfl (by kernel_rfl) (by kernel_rfl) (by kernel_rfl) (fun _ _ _ h => h) rfl (Or.inl ⟨by rfl, fun W hW => exec_move (.tmp 0) rfl _ rfl⟩) hS0 ?_
                  simp only [Act.put, List.setIfInBounds_toArray, List.set_cons_zero, List.set_cons_succ]
                  refine held_take (i := 2) (v := .int .i64 (p : Int)) (some 85) rfl (by kernel_rfl) (by kernel_rfl) (by kernel_rfl) (fun _ _ _ h => h) rfl (Or.inl ⟨by rfl, fun W hW => exec_move (.tmp 9) rfl _ rfl⟩) hS0 ?_
                  simp only [Act.put, List.setIfInBounds_toArray, List.set_cons_zero, List.set_cons_succ]
                  refine held_take (i := 3) (v := .agg #[.string id, .int .i64 num, .string data, .bool false]) (some 86) rfl (by kernel_rfl) (by kernel_rfl) (by kernel_rfl) (fun _ _ _ h => h) rfl (Or.inl ⟨by rfl, fun W hW => exec_load4 (.tmp 3) rfl rfl ((hrow W hW).cell 0) ((hrow W hW).cell 1) ((hrow W hW).cell 2) ((hrow W hW).cell 3)⟩) hS0 ?_
                  simp only [Act.put, List.setIfInBounds_toArray, List.set_cons_zero, List.set_cons_succ]
                  refine held_two (i := 1) (j := 4) (by kernel_rfl) ?_ ?_
                  · refine held_enter (some 84) rfl rfl 27 #[.slice (some ⟨b, off, none⟩) n c] (exec_call1 _ (.tmp 83) _ rfl _ rfl (enters_of Try.func27 (by kernel_rfl) rfl _ _)) rfl ((hclo _ (Nat.le_trans hB5 hS0.size) (hR5.below (hS0.mono hB5))).mono ?_)
                    rintro e v1 ⟨A3, c3, rfl, hown, hg1⟩
                    have hS1 : Below w5.heap.size w5 v1 := Below.then_grown hS0 hg1
                    refine ⟨_, rfl, hS1, ?_⟩
                    simp only [Act.put, List.setIfInBounds_toArray, List.set_cons_zero, List.set_cons_succ]
                    refine held_one (i := 4) (by kernel_rfl) ?_
                    have hS2 : Below w5.heap.size w5 (v1.alloc (.cells #[.string id, .int .i64 num, .string data, .bool false] 30)) := hS1.alloc hS1.size _
                    refine held_value (some 87) rfl rfl (.slice (some ⟨v1.heap.size, 0, none⟩) 1 1) (by go_simp <;> rfl) rfl hS2 ?_
                    have hblk := Blk.new v1 30 #[.string id, .int .i64 num, .string data, .bool false]
                    have hgb : some v1.heap.size ≠ (Value.slice A3 n c3).ownBlock := own_new hown
                    replace hown := ownsRow_below hown ((Below.refl _ v1).alloc (Nat.le_refl _) (.cells #[.string id, .int .i64 num, .string data, .bool false] 30))
                    have hbase : u0.heap.size ≤ (v1.alloc (.cells #[.string id, .int .i64 num, .string data, .bool false] 30)).heap.size := by have := hg1.size; simp; omega
                    generalize v1.alloc (.cells #[.string id, .int .i64 num, .string data, .bool false] 30) = v2 at *
                    have hbw : w5.heap.size ≤ u0.heap.size := hS0.size
                    simp only [Act.put, List.setIfInBounds_toArray, List.set_cons_zero, List.set_cons_succ]
                    refine held_one (i := 5) (by kernel_rfl) ?_
                    refine held_enter (some 88) rfl rfl 26 #[.slice A3 n c3, .int .i64 (p : Int), .slice (some ⟨v1.heap.size, 0, none⟩) 1 1] (exec_call3 _ (.tmp 84) (.tmp 85) (.tmp 87) _ rfl _ _ _ rfl rfl rfl (enters_of Try.func26 (by kernel_rfl) rfl _ _)) rfl ((hins v2 A3 c3 v1.heap.size u0.heap.size hown hbase hblk hgb).mono ?_)
                    rintro e v3 ⟨A4, c4, rfl, hown4, hbe4⟩
                    have hS3 : Below w5.heap.size w5 v3 := hS2.trans (hbe4.mono hbw)
                    refine ⟨_, rfl, hS3, ?_⟩
                    simp only [Act.put, List.setIfInBounds_toArray, List.set_cons_zero, List.set_cons_succ]
                    refine held_take (i := 6) (v := .slice A4 (n + 1) c4) (some 4) rfl (by kernel_rfl) (by kernel_rfl) (by kernel_rfl) (fun _ _ _ h => h) rfl (Or.inl ⟨by rfl, fun W hW => by go_simp⟩) hS3 ?_
                    simp only [Act.put, List.setIfInBounds_toArray, List.set_cons_zero, List.set_cons_succ]
                    refine held_take (i := 7) (v := .int .i64 0) (some 5) rfl (by kernel_rfl) (by kernel_rfl) (by kernel_rfl) (fun _ _ _ h => h) rfl (Or.inl ⟨by rfl, fun W hW => by go_simp⟩) hS3 ?_
                    simp only [Act.put, List.setIfInBounds_toArray, List.set_cons_zero, List.set_cons_succ]
                    refine wpAnyH_done (by kernel_rfl) ?_ _
                    have hbf := Below.then C5.below hS3
                    have hcap := own_cap hown4
                    have hrd := Reads.of_own hown4
                    clear hown4 hins hclo
                    go_wp2_with fail
                    go_ret2
                    exact ⟨A4, n + 1, c4, by rw [HE0.out]; rfl, fun h => absurd HE0.out h, by rw [HL0.out, HLEN.out], fun _ => hcap, by rw [HL0.out]; exact hrd, hbf⟩
                  · have hS1 : Below w5.heap.size w5 (u0.alloc (.cells #[.string id, .int .i64 num, .string data, .bool false] 30)) := hS0.alloc hS0.size _
                    refine held_value (some 87) rfl rfl (.slice (some ⟨u0.heap.size, 0, none⟩) 1 1) (by go_simp <;> rfl) rfl hS1 ?_
                    have hblk1 := Blk.new u0 30 #[.string id, .int .i64 num, .string data, .bool false]
                    have hz1 : (u0.alloc (.cells #[.string id, .int .i64 num, .string data, .bool false] 30)).heap.size = u0.heap.size + 1 := by simp
                    generalize u0.alloc (.cells #[.string id, .int .i64 num, .string data, .bool false] 30) = v1 at *
                    simp only [Act.put, List.setIfInBounds_toArray, List.set_cons_zero, List.set_cons_succ]
                    refine held_one (i := 1) (by kernel_rfl) ?_
                    refine held_enter (some 84) rfl rfl 27 #[.slice (some ⟨b, off, none⟩) n c] (exec_call1 _ (.tmp 83) _ rfl _ rfl (enters_of Try.func27 (by kernel_rfl) rfl _ _)) rfl ((hclo _ (Nat.le_trans hB5 hS1.size) (hR5.below (hS1.mono hB5))).mono ?_)
                    rintro e v2 ⟨A3, c3, rfl, hown, hg1⟩
                    have hS2 : Below w5.heap.size w5 v2 := Below.then_grown hS1 hg1
                    refine ⟨_, rfl, hS2, ?_⟩
                    have hblk := hblk1.grown hg1 (by simp)
                    have hgb : some u0.heap.size ≠ (Value.slice A3 n c3).ownBlock := fun e => by have := own_ge hown e.symm; omega
                    have hbase : v1.heap.size ≤ v2.heap.size := hg1.size
                    have hbw : w5.heap.size ≤ v1.heap.size := hS1.size
                    simp only [Act.put, List.setIfInBounds_toArray, List.set_cons_zero, List.set_cons_succ]
                    refine held_one (i := 5) (by kernel_rfl) ?_
                    refine held_enter (some 88) rfl rfl 26 #[.slice A3 n c3, .int .i64 (p : Int), .slice (some ⟨u0.heap.size, 0, none⟩) 1 1] (exec_call3 _ (.tmp 84) (.tmp 85) (.tmp 87) _ rfl _ _ _ rfl rfl rfl (enters_of Try.func26 (by kernel_rfl) rfl _ _)) rfl ((hins v2 A3 c3 u0.heap.size v1.heap.size hown hbase hblk hgb).mono ?_)
                    rintro e v3 ⟨A4, c4, rfl, hown4, hbe4⟩
                    have hS3 : Below w5.heap.size w5 v3 := hS2.trans (hbe4.mono hbw)
                    refine ⟨_, rfl, hS3, ?_⟩
                    simp only [Act.put, List.setIfInBounds_toArray, List.set_cons_zero, List.set_cons_succ]
                    refine held_take (i := 6) (v := .slice A4 (n + 1) c4) (some 4) rfl (by kernel_rfl) (by kernel_rfl) (by kernel_rfl) (fun _ _ _ h => h) rfl (Or.inl ⟨by rfl, fun W hW => by go_simp⟩) hS3 ?_
                    simp only [Act.put, List.setIfInBounds_toArray, List.set_cons_zero, List.set_cons_succ]
                    refine held_take (i := 7) (v := .int .i64 0) (some 5) rfl (by kernel_rfl) (by kernel_rfl) (by kernel_rfl) (fun _ _ _ h => h) rfl (Or.inl ⟨by rfl, fun W hW => by go_simp⟩) hS3 ?_
                    simp only [Act.put, List.setIfInBounds_toArray, List.set_cons_zero, List.set_cons_succ]
                    refine wpAnyH_done (by kernel_rfl) ?_ _
                    have hbf := Below.then C5.below hS3
                    have hcap := own_cap hown4
                    have hrd := Reads.of_own hown4
                    clear hown4 hins hclo
                    go_wp2_with fail
                    go_ret2
                    exact ⟨A4, n + 1, c4, by rw [HE0.out]; rfl, fun h => absurd HE0.out h, by rw [HL0.out, HLEN.out], fun _ => hcap, by rw [HL0.out]; exact hrd, hbf⟩
              · by_cases hpn : p < n
                · have dpn : decide ((p : Int) < (n : Int)) = true := decide_eq_true (by omega)
                  have dpn2 : decide (p < n) = true := decide_eq_true hpn
                  have hE := addE_11 HC0.out HH.out H3.out HNO.out (by rw [HOR.out, dpn2]; simp)
                  have HE := Lib.hid hE
                  clear hE
                  go_wp2_with fail
                  go_ret2
                  exact hbad _ _ HE.out (by decide) (below_drewN C4.below _)
                · have dpn : decide ((p : Int) < (n : Int)) = false := decide_eq_false (by omega)
                  have dpn2 : decide (p < n) = false := decide_eq_false hpn
                  have HPN := Lib.hid hpn
                  clear hpn
                  have hor0 : orderF xs f = false := by rw [HOR.out, dp2, dpn2]; rfl
                  have HOR0 := Lib.hid hor0
                  clear hor0
                  by_cases h31 : 31 < num
                  · have d31 : decide ((32 : Int) ≤ num) = true := by simp; omega
                    have hE := addE_5 HC0.out HH.out H3.out HNO.out HOR0.out (by rw [HNUM.out]; exact h31)
                    have HE := Lib.hid hE
                    clear hE
                    go_wp2_with fail
                    go_ret2
                    exact hbad _ _ HE.out (by decide) (below_drewN C4.below _)
                  · have d31 : decide ((32 : Int) ≤ num) = false := by simp; omega
                    have h31' : ¬ 31 < f.num := by rw [HNUM.out]; exact h31
                    have H31 := Lib.hid h31'
                    clear h31 h31'
                    go_wp2_with fail
                    have C5 := C4.step (below_drewN (Below.refl _ w4) nq)
                    have hR5 := hR4.below ((below_drewN (Below.refl _ w4) nq).mono (by omega))
                    generalize w4.drewN nq = w5 at *
                    have hs5 := C5.below.size
                    have hB5 : B ≤ w5.heap.size := by omega
                    have hno := HNO.out; have hor0 := HOR0.out
                    have h31 : ¬ 31 < f.num := by first | exact H31.out | exact Int.not_lt.2 H31.out
                    clear f0 f1 f2 f3 b4 C4 hR4 hs4
                    have hple2 : p ≤ n := hple
                    have hE0 := addE_0 HC0.out HH.out H3.out hno hor0 h31
                    have hpos := pos_at HAT.out (by rw [← HNUM.out]; exact hno)
                    have hL0 : addL xs f = xs.take p ++ f :: xs.drop p := by unfold addL; rw [if_pos hE0, HNUM.out, hpos]
                    have hlen : (xs.take p ++ f :: xs.drop p).length = n + 1 := by have := HL.out; simp; omega
                    have HE0 := Lib.hid hE0; have HL0 := Lib.hid hL0; have HLEN := Lib.hid hlen
                    have hins := fun W A' c' g base hown hbase (hg : Blk W g 30 #[.string id, .int .i64 num, .string data, .bool true]) hgb => insert_any base A' n c' p g xs f W hple2 hn hown hbase (by rw [HID.out, HNUM.out, HDATA.out, HLAST.out]; exact hg) hgb
                    clear hE0 hpos hL0 hlen hbad h31 hno hor0
                    have hclo := fun W hB hR => clone_any B (some ⟨b, off, none⟩) n c xs W hB hR hn
                    refine wp_region_held (S := fun W => Below w5.heap.size w5 W) (by kernel_rfl) ?_
                    change wpAnyH _ _ _ _ _ _ _ _ w5.drew
                    have hS0 : Below w5.heap.size w5 w5.drew := ⟨rfl, rfl, rfl, Nat.le_refl _, fun _ _ => rfl⟩
                    generalize w5.drew = u0 at *
                    have hrow : ∀ W, Below w5.heap.size w5 W → Blk W w.heap.size 30 #[.string id, .int .i64 num, .string data, .bool true] := fun W hW => C5.blk.below hW C5.blk.lt
                    refine held_take (i := 0) (v := .slice (some ⟨b, off, none⟩) n c) (some 83) rfl (by kernel_rfl) (by kernel_rfl) (by kernel_rfl) (fun _ _ _ h => h) rfl (Or.inl ⟨by rfl, fun W hW => exec_move (.tmp 0) rfl _ rfl⟩) hS0 ?_
                    simp only [Act.put, List.setIfInBounds_toArray, List.set_cons_zero, List.set_cons_succ]
                    refine held_take (i := 2) (v := .int .i64 (p : Int)) (some 85) rfl (by kernel_rfl) (by kernel_rfl) (by kernel_rfl) (fun _ _ _ h => h) rfl (Or.inl ⟨by rfl, fun W hW => exec_move (.tmp 9) rfl _ rfl⟩) hS0 ?_
                    simp only [Act.put, List.setIfInBounds_toArray, List.set_cons_zero, List.set_cons_succ]
                    refine held_take (i := 3) (v := .agg #[.string id, .int .i64 num, .string data, .bool true]) (some 86) rfl (by kernel_rfl) (by kernel_rfl) (by kernel_rfl) (fun _ _ _ h => h) rfl (Or.inl ⟨by rfl, fun W hW => exec_load4 (.tmp 3) rfl rfl ((hrow W hW).cell 0) ((hrow W hW).cell 1) ((hrow W hW).cell 2) ((hrow W hW).cell 3)⟩) hS0 ?_
                    simp only [Act.put, List.setIfInBounds_toArray, List.set_cons_zero, List.set_cons_succ]
                    refine held_two (i := 1) (j := 4) (by kernel_rfl) ?_ ?_
                    · refine held_enter (some 84) rfl rfl 27 #[.slice (some ⟨b, off, none⟩) n c] (exec_call1 _ (.tmp 83) _ rfl _ rfl (enters_of Try.func27 (by kernel_rfl) rfl _ _)) rfl ((hclo _ (Nat.le_trans hB5 hS0.size) (hR5.below (hS0.mono hB5))).mono ?_)
                      rintro e v1 ⟨A3, c3, rfl, hown, hg1⟩
                      have hS1 : Below w5.heap.size w5 v1 := Below.then_grown hS0 hg1
                      refine ⟨_, rfl, hS1, ?_⟩
                      simp only [Act.put, List.setIfInBounds_toArray, List.set_cons_zero, List.set_cons_succ]
                      refine held_one (i := 4) (by kernel_rfl) ?_
                      have hS2 : Below w5.heap.size w5 (v1.alloc (.cells #[.string id, .int .i64 num, .string data, .bool true] 30)) := hS1.alloc hS1.size _
                      refine held_value (some 87) rfl rfl (.slice (some ⟨v1.heap.size, 0, none⟩) 1 1) (by go_simp <;> rfl) rfl hS2 ?_
                      have hblk := Blk.new v1 30 #[.string id, .int .i64 num, .string data, .bool true]
                      have hgb : some v1.heap.size ≠ (Value.slice A3 n c3).ownBlock := own_new hown
                      replace hown := ownsRow_below hown ((Below.refl _ v1).alloc (Nat.le_refl _) (.cells #[.string id, .int .i64 num, .string data, .bool true] 30))
                      have hbase : u0.heap.size ≤ (v1.alloc (.cells #[.string id, .int .i64 num, .string data, .bool true] 30)).heap.size := by have := hg1.size; simp; omega
                      generalize v1.alloc (.cells #[.string id, .int .i64 num, .string data, .bool true] 30) = v2 at *
                      have hbw : w5.heap.size ≤ u0.heap.size := hS0.size
                      simp only [Act.put, List.setIfInBounds_toArray, List.set_cons_zero, List.set_cons_succ]
                      refine held_one (i := 5) (by kernel_rfl) ?_
                      refine held_enter (some 88) rfl rfl 26 #[.slice A3 n c3, .int .i64 (p : Int), .slice (some ⟨v1.heap.size, 0, none⟩) 1 1] (exec_call3 _ (.tmp 84) (.tmp 85) (.tmp 87) _ rfl _ _ _ rfl rfl rfl (enters_of Try.func26 (by kernel_rfl) rfl _ _)) rfl ((hins v2 A3 c3 v1.heap.size u0.heap.size hown hbase hblk hgb).mono ?_)
                      rintro e v3 ⟨A4, c4, rfl, hown4, hbe4⟩
                      have hS3 : Below w5.heap.size w5 v3 := hS2.trans (hbe4.mono hbw)
                      refine ⟨_, rfl, hS3, ?_⟩
                      simp only [Act.put, List.setIfInBounds_toArray, List.set_cons_zero, List.set_cons_succ]
                      refine held_take (i := 6) (v := .slice A4 (n + 1) c4) (some 4) rfl (by kernel_rfl) (by kernel_rfl) (by kernel_rfl) (fun _ _ _ h => h) rfl (Or.inl ⟨by rfl, fun W hW => by go_simp⟩) hS3 ?_
                      simp only [Act.put, List.setIfInBounds_toArray, List.set_cons_zero, List.set_cons_succ]
                      refine held_take (i := 7) (v := .int .i64 0) (some 5) rfl (by kernel_rfl) (by kernel_rfl) (by kernel_rfl) (fun _ _ _ h => h) rfl (Or.inl ⟨by rfl, fun W hW => by go_simp⟩) hS3 ?_
                      simp only [Act.put, List.setIfInBounds_toArray, List.set_cons_zero, List.set_cons_succ]
                      refine wpAnyH_done (by kernel_rfl) ?_ _
                      have hbf := Below.then C5.below hS3
                      have hcap := own_cap hown4
                      have hrd := Reads.of_own hown4
                      clear hown4 hins hclo
                      go_wp2_with fail
                      go_ret2
                      exact ⟨A4, n + 1, c4, by rw [HE0.out]; rfl, fun h => absurd HE0.out h, by rw [HL0.out, HLEN.out], fun _ => hcap, by rw [HL0.out]; exact hrd, hbf⟩
                    · have hS1 : Below w5.heap.size w5 (u0.alloc (.cells #[.string id, .int .i64 num, .string data, .bool true] 30)) := hS0.alloc hS0.size _
                      refine held_value (some 87) rfl rfl (.slice (some ⟨u0.heap.size, 0, none⟩) 1 1) (by go_simp <;> rfl) rfl hS1 ?_
                      have hblk1 := Blk.new u0 30 #[.string id, .int .i64 num, .string data, .bool true]
                      have hz1 : (u0.alloc (.cells #[.string id, .int .i64 num, .string data, .bool true] 30)).heap.size = u0.heap.size + 1 := by simp
                      generalize u0.alloc (.cells #[.string id, .int .i64 num, .string data, .bool true] 30) = v1 at *
                      simp only [Act.put, List.setIfInBounds_toArray, List.set_cons_zero, List.set_cons_succ]
                      refine held_one (i := 1) (by kernel_rfl) ?_
                      refine held_enter (some 84) rfl rfl 27 #[.slice (some ⟨b, off, none⟩) n c] (exec_call1 _ (.tmp 83) _ rfl _ rfl (enters_of Try.func27 (by kernel_rfl) rfl _ _)) rfl ((hclo _ (Nat.le_trans hB5 hS1.size) (hR5.below (hS1.mono hB5))).mono ?_)
                      rintro e v2 ⟨A3, c3, rfl, hown, hg1⟩
                      have hS2 : Below w5.heap.size w5 v2 := Below.then_grown hS1 hg1
                      refine ⟨_, rfl, hS2, ?_⟩
                      have hblk := hblk1.grown hg1 (by simp)
                      have hgb : some u0.heap.size ≠ (Value.slice A3 n c3).ownBlock := fun e => by have := own_ge hown e.symm; omega
                      have hbase : v1.heap.size ≤ v2.heap.size := hg1.size
                      have hbw : w5.heap.size ≤ v1.heap.size := hS1.size
                      simp only [Act.put, List.setIfInBounds_toArray, List.set_cons_zero, List.set_cons_succ]
                      refine held_one (i := 5) (by kernel_rfl) ?_
                      refine held_enter (some 88) rfl rfl 26 #[.slice A3 n c3, .int .i64 (p : Int), .slice (some ⟨u0.heap.size, 0, none⟩) 1 1] (exec_call3 _ (.tmp 84) (.tmp 85) (.tmp 87) _ rfl _ _ _ rfl rfl rfl (enters_of Try.func26 (by kernel_rfl) rfl _ _)) rfl ((hins v2 A3 c3 u0.heap.size v1.heap.size hown hbase hblk hgb).mono ?_)
                      rintro e v3 ⟨A4, c4, rfl, hown4, hbe4⟩
                      have hS3 : Below w5.heap.size w5 v3 := hS2.trans (hbe4.mono hbw)
                      refine ⟨_, rfl, hS3, ?_⟩
                      simp only [Act.put, List.setIfInBounds_toArray, List.set_cons_zero, List.set_cons_succ]
                      refine held_take (i := 6) (v := .slice A4 (n + 1) c4) (some 4) rfl (by kernel_rfl) (by kernel_rfl) (by kernel_rfl) (fun _ _ _ h => h) rfl (Or.inl ⟨by rfl, fun W hW => by go_simp⟩) hS3 ?_
                      simp only [Act.put, List.setIfInBounds_toArray, List.set_cons_zero, List.set_cons_succ]
                      refine held_take (i := 7) (v := .int .i64 0) (some 5) rfl (by kernel_rfl) (by kernel_rfl) (by kernel_rfl) (fun _ _ _ h => h) rfl (Or.inl ⟨by rfl, fun W hW => by go_simp⟩) hS3 ?_
                      simp only [Act.put, List.setIfInBounds_toArray, List.set_cons_zero, List.set_cons_succ]
                      refine wpAnyH_done (by kernel_rfl) ?_ _
                      have hbf := Below.then C5.below hS3
                      have hcap := own_cap hown4
                      have hrd := Reads.of_own hown4
                      clear hown4 hins hclo
                      go_wp2_with fail
                      go_ret2
                      exact ⟨A4, n + 1, c4, by rw [HE0.out]; rfl, fun h => absurd HE0.out h, by rw [HL0.out, HLEN.out], fun _ => hcap, by rw [HL0.out]; exact hrd, hbf⟩
            · have hE := addE_11 HC0.out HH.out H3.out HNO.out (by rw [HOR.out, dp2]; rfl)
              have HE := Lib.hid hE
              clear hE
              go_wp2_with fail
              go_ret2
              exact hbad _ _ HE.out (by decide) (below_drewN C4.below _)
          · have dp : decide ((0 : Int) < (p : Int)) = false := decide_eq_false (by omega)
            have dp2 : decide (0 < p) = false := decide_eq_false hp0
            have HP0 := Lib.hid hp0
            clear hp0 hcc hpl
            cases last
            · have hor0 : orderF xs f = false := by rw [HOR.out, dp2]; rfl
              have HOR0 := Lib.hid hor0
              clear hor0
              by_cases h31 : 31 < num
              · have d31 : decide ((32 : Int) ≤ num) = true := by simp; omega
                have hE := addE_5 HC0.out HH.out H3.out HNO.out HOR0.out (by rw [HNUM.out]; exact h31)
                have HE := Lib.hid hE
                clear hE
                go_wp2_with fail
                go_ret2
                exact hbad _ _ HE.out (by decide) (below_drewN C4.below _)
              · have d31 : decide ((32 : Int) ≤ num) = false := by simp; omega
                have h31' : ¬ 31 < f.num := by rw [HNUM.out]; exact h31
                have H31 := Lib.hid h31'
                clear h31 h31'
                go_wp2_with fail
                have C5 := C4.step (below_drewN (Below.refl _ w4) nq)
                have hR5 := hR4.below ((below_drewN (Below.refl _ w4) nq).mono (by omega))
                generalize w4.drewN nq = w5 at *
                have hs5 := C5.below.size
                have hB5 : B ≤ w5.heap.size := by omega
                have hno := HNO.out; have hor0 := HOR0.out
                have h31 : ¬ 31 < f.num := by first | exact H31.out | exact Int.not_lt.2 H31.out
                clear f0 f1 f2 f3 b4 C4 hR4 hs4
                have hple2 : p ≤ n := hple
                have hE0 := addE_0 HC0.out HH.out H3.out hno hor0 h31
                have hpos := pos_at HAT.out (by rw [← HNUM.out]; exact hno)
                have hL0 : addL xs f = xs.take p ++ f :: xs.drop p := by unfold addL; rw [if_pos hE0, HNUM.out, hpos]
                have hlen : (xs.take p ++ f :: xs.drop p).length = n + 1 := by have := HL.out; simp; omega
                have HE0 := Lib.hid hE0; have HL0 := Lib.hid hL0; have HLEN := Lib.hid hlen
                have hins := fun W A' c' g base hown hbase (hg : Blk W g 30 #[.string id, .int .i64 num, .string data, .bool false]) hgb => insert_any base A' n c' p g xs f W hple2 hn hown hbase (by rw [HID.out, HNUM.out, HDATA.out, HLAST.out]; exact hg) hgb
                clear hE0 hpos hL0 hlen hbad h31 hno hor0
                have hclo := fun W hB hR => clone_any B (some ⟨b, off, none⟩) n c xs W hB hR hn
                refine wp_region_held (S := fun W => Below w5.heap.size w5 W) (by kernel_rfl) ?_
                change wpAnyH _ _ _ _ _ _ _ _ w5.drew
                have hS0 : Below w5.heap.size w5 w5.drew := ⟨rfl, rfl, rfl, Nat.le_refl _, fun _ _ => rfl⟩
                generalize w5.drew = u0 at *
                have hrow : ∀ W, Below w5.heap.size w5 W → Blk W w.heap.size 30 #[.string id, .int .i64 num, .string data, .bool false] := fun W hW => C5.blk.below hW C5.blk.lt
                refine held_take (i := 0) (v := .slice (some ⟨b, off, none⟩) n c) (some 83) rfl (by kernel_rfl) (by kernel_rfl) (by kernel_rfl) (fun _ _ _ h => h) rfl (Or.inl ⟨by rfl, fun W hW => exec_move (.tmp 0) rfl _ rfl⟩) hS0 ?_
                simp only [Act.put, List.setIfInBounds_toArray, List.set_cons_zero, List.set_cons_succ]
                refine held_take (i := 2) (v := .int .i64 (p : Int)) (some 85) rfl (by kernel_rfl) (by kernel_rfl) (by kernel_rfl) (fun _ _ _ h => h) rfl (Or.inl ⟨by rfl, fun W hW => exec_move (.tmp 9) rfl _ rfl⟩) hS0 ?_
                simp only [Act.put, List.setIfInBounds_toArray, List.set_cons_zero, List.set_cons_succ]
                refine held_take (i := 3) (v := .agg #[.string id, .int .i64 num, .string data, .bool false]) (some 86) rfl (by kernel_rfl) (by kernel_rfl) (by kernel_rfl) (fun _ _ _ h => h) rfl (Or.inl ⟨by rfl, fun W hW => exec_load4 (.tmp 3) rfl rfl ((hrow W hW).cell 0) ((hrow W hW).cell 1) ((hrow W hW).cell 2) ((hrow W hW).cell 3)⟩) hS0 ?_
                simp only [Act.put, List.setIfInBounds_toArray, List.set_cons_zero, List.set_cons_succ]
                refine held_two (i := 1) (j := 4) (by kernel_rfl) ?_ ?_
                · refine held_enter (some 84) rfl rfl 27 #[.slice (some ⟨b, off, none⟩) n c] (exec_call1 _ (.tmp 83) _ rfl _ rfl (enters_of Try.func27 (by kernel_rfl) rfl _ _)) rfl ((hclo _ (Nat.le_trans hB5 hS0.size) (hR5.below (hS0.mono hB5))).mono ?_)
                  rintro e v1 ⟨A3, c3, rfl, hown, hg1⟩
                  have hS1 : Below w5.heap.size w5 v1 := Below.then_grown hS0 hg1
                  refine ⟨_, rfl, hS1, ?_⟩
                  simp only [Act.put, List.setIfInBounds_toArray, List.set_cons_zero, List.set_cons_succ]
                  refine held_one (i := 4) (by kernel_rfl) ?_
                  have hS2 : Below w5.heap.size w5 (v1.alloc (.cells #[.string id, .int .i64 num, .string data, .bool false] 30)) := hS1.alloc hS1.size _
                  refine held_value (some 87) rfl rfl (.slice (some ⟨v1.heap.size, 0, none⟩) 1 1) (by go_simp <;> rfl) rfl hS2 ?_
                  have hblk := Blk.new v1 30 #[.string id, .int .i64 num, .string data, .bool false]
                  have hgb : some v1.heap.size ≠ (Value.slice A3 n c3).ownBlock := own_new hown
                  replace hown := ownsRow_below hown ((Below.refl _ v1).alloc (Nat.le_refl _) (.cells #[.string id, .int .i64 num, .string data, .bool false] 30))
                  have hbase : u0.heap.size ≤ (v1.alloc (.cells #[.string id, .int .i64 num, .string data, .bool false] 30)).heap.size := by have := hg1.size; simp; omega
                  generalize v1.alloc (.cells #[.string id, .int .i64 num, .string data, .bool false] 30) = v2 at *
                  have hbw : w5.heap.size ≤ u0.heap.size := hS0.size
                  simp only [Act.put, List.setIfInBounds_toArray, List.set_cons_zero, List.set_cons_succ]
                  refine held_one (i := 5) (by kernel_rfl) ?_
                  refine held_enter (some 88) rfl rfl 26 #[.slice A3 n c3, .int .i64 (p : Int), .slice (some ⟨v1.heap.size, 0, none⟩) 1 1] (exec_call3 _ (.tmp 84) (.tmp 85) (.tmp 87) _ rfl _ _ _ rfl rfl rfl (enters_of Try.func26 (by kernel_rfl) rfl _ _)) rfl ((hins v2 A3 c3 v1.heap.size u0.heap.size hown hbase hblk hgb).mono ?_)
                  rintro e v3 ⟨A4, c4, rfl, hown4, hbe4⟩
                  have hS3 : Below w5.heap.size w5 v3 := hS2.trans (hbe4.mono hbw)
                  refine ⟨_, rfl, hS3, ?_⟩
                  simp only [Act.put, List.setIfInBounds_toArray, List.set_cons_zero, List.set_cons_succ]
                  refine held_take (i := 6) (v := .slice A4 (n + 1) c4) (some 4) rfl (by kernel_rfl) (by kernel_rfl) (by kernel_rfl) (fun _ _ _ h => h) rfl (Or.inl ⟨by rfl, fun W hW => by go_simp⟩) hS3 ?_
                  simp only [Act.put, List.setIfInBounds_toArray, List.set_cons_zero, List.set_cons_succ]
                  refine held_take (i := 7) (v := .int .i64 0) (some 5) rfl (by kernel_rfl) (by kernel_rfl) (by kernel_rfl) (fun _ _ _ h => h) rfl (Or.inl ⟨by rfl, fun W hW => by go_simp⟩) hS3 ?_
                  simp only [Act.put, List.setIfInBounds_toArray, List.set_cons_zero, List.set_cons_succ]
                  refine wpAnyH_done (by kernel_rfl) ?_ _
                  have hbf := Below.then C5.below hS3
                  have hcap := own_cap hown4
                  have hrd := Reads.of_own hown4
                  clear hown4 hins hclo
                  go_wp2_with fail
                  go_ret2
                  exact ⟨A4, n + 1, c4, by rw [HE0.out]; rfl, fun h => absurd HE0.out h, by rw [HL0.out, HLEN.out], fun _ => hcap, by rw [HL0.out]; exact hrd, hbf⟩
                · have hS1 : Below w5.heap.size w5 (u0.alloc (.cells #[.string id, .int .i64 num, .string data, .bool false] 30)) := hS0.alloc hS0.size _
                  refine held_value (some 87) rfl rfl (.slice (some ⟨u0.heap.size, 0, none⟩) 1 1) (by go_simp <;> rfl) rfl hS1 ?_
                  have hblk1 := Blk.new u0 30 #[.string id, .int .i64 num, .string data, .bool false]
                  have hz1 : (u0.alloc (.cells #[.string id, .int .i64 num, .string data, .bool false] 30)).heap.size = u0.heap.size + 1 := by simp
                  generalize u0.alloc (.cells #[.string id, .int .i64 num, .string data, .bool false] 30) = v1 at *
                  simp only [Act.put, List.setIfInBounds_toArray, List.set_cons_zero, List.set_cons_succ]
                  refine held_one (i := 1) (by kernel_rfl) ?_
                  refine held_enter (some 84) rfl rfl 27 #[.slice (some ⟨b, off, none⟩) n c] (exec_call1 _ (.tmp 83) _ rfl _ rfl (enters_of Try.func27 (by kernel_rfl) rfl _ _)) rfl ((hclo _ (Nat.le_trans hB5 hS1.size) (hR5.below (hS1.mono hB5))).mono ?_)
                  rintro e v2 ⟨A3, c3, rfl, hown, hg1⟩
                  have hS2 : Below w5.heap.size w5 v2 := Below.then_grown hS1 hg1
                  refine ⟨_, rfl, hS2, ?_⟩
                  have hblk := hblk1.grown hg1 (by simp)
                  have hgb : some u0.heap.size ≠ (Value.slice A3 n c3).ownBlock := fun e => by have := own_ge hown e.symm; omega
                  have hbase : v1.heap.size ≤ v2.heap.size := hg1.size
                  have hbw : w5.heap.size ≤ v1.heap.size := hS1.size
                  simp only [Act.put, List.setIfInBounds_toArray, List.set_cons_zero, List.set_cons_succ]
                  refine held_one (i := 5) (by kernel_rfl) ?_
                  refine held_enter (some 88) rfl rfl 26 #[.slice A3 n c3, .int .i64 (p : Int), .slice (some ⟨u0.heap.size, 0, none⟩) 1 1] (exec_call3 _ (.tmp 84) (.tmp 85) (.tmp 87) _ rfl _ _ _ rfl rfl rfl (enters_of Try.func26 (by kernel_rfl) rfl _ _)) rfl ((hins v2 A3 c3 u0.heap.size v1.heap.size hown hbase hblk hgb).mono ?_)
                  rintro e v3 ⟨A4, c4, rfl, hown4, hbe4⟩
                  have hS3 : Below w5.heap.size w5 v3 := hS2.trans (hbe4.mono hbw)
                  refine ⟨_, rfl, hS3, ?_⟩
                  simp only [Act.put, List.setIfInBounds_toArray, List.set_cons_zero, List.set_cons_succ]
                  refine held_take (i := 6) (v := .slice A4 (n + 1) c4) (some 4) rfl (by kernel_rfl) (by kernel_rfl) (by kernel_rfl) (fun _ _ _ h => h) rfl (Or.inl ⟨by rfl, fun W hW => by go_simp⟩) hS3 ?_
                  simp only [Act.put, List.setIfInBounds_toArray, List.set_cons_zero, List.set_cons_succ]
                  refine held_take (i := 7) (v := .int .i64 0) (some 5) rfl (by kernel_rfl) (by kernel_rfl) (by kernel_rfl) (fun _ _ _ h => h) rfl (Or.inl ⟨by rfl, fun W hW => by go_simp⟩) hS3 ?_
                  simp only [Act.put, List.setIfInBounds_toArray, List.set_cons_zero, List.set_cons_succ]
                  refine wpAnyH_done (by kernel_rfl) ?_ _
                  have hbf := Below.then C5.below hS3
                  have hcap := own_cap hown4
                  have hrd := Reads.of_own hown4
                  clear hown4 hins hclo
                  go_wp2_with fail
                  go_ret2
                  exact ⟨A4, n + 1, c4, by rw [HE0.out]; rfl, fun h => absurd HE0.out h, by rw [HL0.out, HLEN.out], fun _ => hcap, by rw [HL0.out]; exact hrd, hbf⟩
            · by_cases hpn : p < n
              · have dpn : decide ((p : Int) < (n : Int)) = true := decide_eq_true (by omega)
                have dpn2 : decide (p < n) = true := decide_eq_true hpn
                have hE := addE_11 HC0.out HH.out H3.out HNO.out (by rw [HOR.out, dpn2]; simp)
                have HE := Lib.hid hE
                clear hE
                go_wp2_with fail
                go_ret2
                exact hbad _ _ HE.out (by decide) (below_drewN C4.below _)
              · have dpn : decide ((p : Int) < (n : Int)) = false := decide_eq_false (by omega)
                have dpn2 : decide (p < n) = false := decide_eq_false hpn
                have HPN := Lib.hid hpn
                clear hpn
                have hor0 : orderF xs f = false := by rw [HOR.out, dp2, dpn2]; rfl
                have HOR0 := Lib.hid hor0
                clear hor0
                by_cases h31 : 31 < num
                · have d31 : decide ((32 : Int) ≤ num) = true := by simp; omega
                  have hE := addE_5 HC0.out HH.out H3.out HNO.out HOR0.out (by rw [HNUM.out]; exact h31)
                  have HE := Lib.hid hE
                  clear hE
                  go_wp2_with fail
                  go_ret2
                  exact hbad _ _ HE.out (by decide) (below_drewN C4.below _)
                · have d31 : decide ((32 : Int) ≤ num) = false := by simp; omega
                  have h31' : ¬ 31 < f.num := by rw [HNUM.out]; exact h31
                  have H31 := Lib.hid h31'
                  clear h31 h31'
                  go_wp2_with fail
                  have C5 := C4.step (below_drewN (Below.refl _ w4) nq)
                  have hR5 := hR4.below ((below_drewN (Below.refl _ w4) nq).mono (by omega))
                  generalize w4.drewN nq = w5 at *
                  have hs5 := C5.below.size
                  have hB5 : B ≤ w5.heap.size := by omega
                  have hno := HNO.out; have hor0 := HOR0.out
                  have h31 : ¬ 31 < f.num := by first | exact H31.out | exact Int.not_lt.2 H31.out
                  clear f0 f1 f2 f3 b4 C4 hR4 hs4
                  have hple2 : p ≤ n := hple
                  have hE0 := addE_0 HC0.out HH.out H3.out hno hor0 h31
                  have hpos := pos_at HAT.out (by rw [← HNUM.out]; exact hno)
                  have hL0 : addL xs f = xs.take p ++ f :: xs.drop p := by unfold addL; rw [if_pos hE0, HNUM.out, hpos]
                  have hlen : (xs.take p ++ f :: xs.drop p).length = n + 1 := by have := HL.out; simp; omega
                  have HE0 := Lib.hid hE0; have HL0 := Lib.hid hL0; have HLEN := Lib.hid hlen
                  have hins := fun W A' c' g base hown hbase (hg : Blk W g 30 #[.string id, .int .i64 num, .string data, .bool true]) hgb => insert_any base A' n c' p g xs f W hple2 hn hown hbase (by rw [HID.out, HNUM.out, HDATA.out, HLAST.out]; exact hg) hgb
                  clear hE0 hpos hL0 hlen hbad h31 hno hor0
                  have hclo := fun W hB hR => clone_any B (some ⟨b, off, none⟩) n c xs W hB hR hn
                  refine wp_region_held (S := fun W => Below w5.heap.size w5 W) (by kernel_rfl) ?_
                  change wpAnyH _ _ _ _ _ _ _ _ w5.drew
                  have hS0 : Below w5.heap.size w5 w5.drew := ⟨rfl, rfl, rfl, Nat.le_refl _, fun _ _ => rfl⟩
                  generalize w5.drew = u0 at *
                  have hrow : ∀ W, Below w5.heap.size w5 W → Blk W w.heap.size 30 #[.string id, .int .i64 num, .string data, .bool true] := fun W hW => C5.blk.below hW C5.blk.lt
                  refine held_take (i := 0) (v := .slice (some ⟨b, off, none⟩) n c) (some 83) rfl (by kernel_rfl) (by kernel_rfl) (by kernel_rfl) (fun _ _ _ h => h) rfl (Or.inl ⟨by rfl, fun W hW => exec_move (.tmp 0) rfl _ rfl⟩) hS0 ?_
                  simp only [Act.put, List.setIfInBounds_toArray, List.set_cons_zero, List.set_cons_succ]
                  refine held_take (i := 2) (v := .int .i64 (p : Int)) (some 85) rfl (by kernel_rfl) (by kernel_rfl) (by kernel_rfl) (fun _ _ _ h => h) rfl (Or.inl ⟨by rfl, fun W hW => exec_move (.tmp 9) rfl _ rfl⟩) hS0 ?_
                  simp only [Act.put, List.setIfInBounds_toArray, List.set_cons_zero, List.set_cons_succ]
                  refine held_take (i := 3) (v := .agg #[.string id, .int .i64 num, .string data, .bool true]) (some 86) rfl (by kernel_rfl) (by kernel_rfl) (by kernel_rfl) (fun _ _ _ h => h) rfl (Or.inl ⟨by rfl, fun W hW => exec_load4 (.tmp 3) rfl rfl ((hrow W hW).cell 0) ((hrow W hW).cell 1) ((hrow W hW).cell 2) ((hrow W hW).cell 3)⟩) hS0 ?_
                  simp only [Act.put, List.setIfInBounds_toArray, List.set_cons_zero, List.set_cons_succ]
                  refine held_two (i := 1) (j := 4) (by kernel_rfl) ?_ ?_
                  · refine held_enter (some 84) rfl rfl 27 #[.slice (some ⟨b, off, none⟩) n c] (exec_call1 _ (.tmp 83) _ rfl _ rfl (enters_of Try.func27 (by kernel_rfl) rfl _ _)) rfl ((hclo _ (Nat.le_trans hB5 hS0.size) (hR5.below (hS0.mono hB5))).mono ?_)
                    rintro e v1 ⟨A3, c3, rfl, hown, hg1⟩
                    have hS1 : Below w5.heap.size w5 v1 := Below.then_grown hS0 hg1
                    refine ⟨_, rfl, hS1, ?_⟩
                    simp only [Act.put, List.setIfInBounds_toArray, List.set_cons_zero, List.set_cons_succ]
                    refine held_one (i := 4) (by kernel_rfl) ?_
                    have hS2 : Below w5.heap.size w5 (v1.alloc (.cells #[.string id, .int .i64 num, .string data, .bool true] 30)) := hS1.alloc hS1.size _
                    refine held_value (some 87) rfl rfl (.slice (some ⟨v1.heap.size, 0, none⟩) 1 1) (by go_simp <;> rfl) rfl hS2 ?_
                    have hblk := Blk.new v1 30 #[.string id, .int .i64 num, .string data, .bool true]
                    have hgb : some v1.heap.size ≠ (Value.slice A3 n c3).ownBlock := own_new hown
                    replace hown := ownsRow_below hown ((Below.refl _ v1).alloc (Nat.le_refl _) (.cells #[.string id, .int .i64 num, .string data, .bool true] 30))
                    have hbase : u0.heap.size ≤ (v1.alloc (.cells #[.string id, .int .i64 num, .string data, .bool true] 30)).heap.size := by have := hg1.size; simp; omega
                    generalize v1.alloc (.cells #[.string id, .int .i64 num, .string data, .bool true] 30) = v2 at *
                    have hbw : w5.heap.size ≤ u0.heap.size := hS0.size
                    simp only [Act.put, List.setIfInBounds_toArray, List.set_cons_zero, List.set_cons_succ]
                    refine held_one (i := 5) (by kernel_rfl) ?_
                    refine held_enter (some 88) rfl rfl 26 #[.slice A3 n c3, .int .i64 (p : Int), .slice (some ⟨v1.heap.size, 0, none⟩) 1 1] (exec_call3 _ (.tmp 84) (.tmp 85) (.tmp 87) _ rfl _ _ _ rfl rfl rfl (enters_of Try.func26 (by kernel_rfl) rfl _ _)) rfl ((hins v2 A3 c3 v1.heap.size u0.heap.size hown hbase hblk hgb).mono ?_)
                    rintro e v3 ⟨A4, c4, rfl, hown4, hbe4⟩
                    have hS3 : Below w5.heap.size w5 v3 := hS2.trans (hbe4.mono hbw)
                    refine ⟨_, rfl, hS3, ?_⟩
                    simp only [Act.put, List.setIfInBounds_toArray, List.set_cons_zero, List.set_cons_succ]
                    refine held_take (i := 6) (v := .slice A4 (n + 1) c4) (some 4) rfl (by kernel_rfl) (by kernel_rfl) (by kernel_rfl) (fun _ _ _ h => h) rfl (Or.inl ⟨by rfl, fun W hW => by go_simp⟩) hS3 ?_
                    simp only [Act.put, List.setIfInBounds_toArray, List.set_cons_zero, List.set_cons_succ]
                    refine held_take (i := 7) (v := .int .i64 0) (some 5) rfl (by kernel_rfl) (by kernel_rfl) (by kernel_rfl) (fun _ _ _ h => h) rfl (Or.inl ⟨by rfl, fun W hW => by go_simp⟩) hS3 ?_
                    simp only [Act.put, List.setIfInBounds_toArray, List.set_cons_zero, List.set_cons_succ]
                    refine wpAnyH_done (by kernel_rfl) ?_ _
                    have hbf := Below.then C5.below hS3
                    have hcap := own_cap hown4
                    have hrd := Reads.of_own hown4
                    clear hown4 hins hclo
                    go_wp2_with fail
                    go_ret2
                    exact ⟨A4, n + 1, c4, by rw [HE0.out]; rfl, fun h => absurd HE0.out h, by rw [HL0.out, HLEN.out], fun _ => hcap, by rw [HL0.out]; exact hrd, hbf⟩
                  · have hS1 : Below w5.heap.size w5 (u0.alloc (.cells #[.string id, .int .i64 num, .string data, .bool true] 30)) := hS0.alloc hS0.size _
                    refine held_value (some 87) rfl rfl (.slice (some ⟨u0.heap.size, 0, none⟩) 1 1) (by go_simp <;> rfl) rfl hS1 ?_
                    have hblk1 := Blk.new u0 30 #[.string id, .int .i64 num, .string data, .bool true]
                    have hz1 : (u0.alloc (.cells #[.string id, .int .i64 num, .string data, .bool true] 30)).heap.size = u0.heap.size + 1 := by simp
                    generalize u0.alloc (.cells #[.string id, .int .i64 num, .string data, .bool true] 30) = v1 at *
                    simp only [Act.put, List.setIfInBounds_toArray, List.set_cons_zero, List.set_cons_succ]
                    refine held_one (i := 1) (by kernel_rfl) ?_
                    refine held_enter (some 84) rfl rfl 27 #[.slice (some ⟨b, off, none⟩) n c] (exec_call1 _ (.tmp 83) _ rfl _ rfl (enters_of Try.func27 (by kernel_rfl) rfl _ _)) rfl ((hclo _ (Nat.le_trans hB5 hS1.size) (hR5.below (hS1.mono hB5))).mono ?_)
                    rintro e v2 ⟨A3, c3, rfl, hown, hg1⟩
                    have hS2 : Below w5.heap.size w5 v2 := Below.then_grown hS1 hg1
                    refine ⟨_, rfl, hS2, ?_⟩
                    have hblk := hblk1.grown hg1 (by simp)
                    have hgb : some u0.heap.size ≠ (Value.slice A3 n c3).ownBlock := fun e => by have := own_ge hown e.symm; omega
                    have hbase : v1.heap.size ≤ v2.heap.size := hg1.size
                    have hbw : w5.heap.size ≤ v1.heap.size := hS1.size
                    simp only [Act.put, List.setIfInBounds_toArray, List.set_cons_zero, List.set_cons_succ]
                    refine held_one (i := 5) (by kernel_rfl) ?_
                    refine held_enter (some 88) rfl rfl 26 #[.slice A3 n c3, .int .i64 (p : Int), .slice (some ⟨u0.heap.size, 0, none⟩) 1 1] (exec_call3 _ (.tmp 84) (.tmp 85) (.tmp 87) _ rfl _ _ _ rfl rfl rfl (enters_of Try.func26 (by kernel_rfl) rfl _ _)) rfl ((hins v2 A3 c3 u0.heap.size v1.heap.size hown hbase hblk hgb).mono ?_)
                    rintro e v3 ⟨A4, c4, rfl, hown4, hbe4⟩
                    have hS3 : Below w5.heap.size w5 v3 := hS2.trans (hbe4.mono hbw)
                    refine ⟨_, rfl, hS3, ?_⟩
                    simp only [Act.put, List.setIfInBounds_toArray, List.set_cons_zero, List.set_cons_succ]
                    refine held_take (i := 6) (v := .slice A4 (n + 1) c4) (some 4) rfl (by kernel_rfl) (by kernel_rfl) (by kernel_rfl) (fun _ _ _ h => h) rfl (Or.inl ⟨by rfl, fun W hW => by go_simp⟩) hS3 ?_
                    simp only [Act.put, List.setIfInBounds_toArray, List.set_cons_zero, List.set_cons_succ]
                    refine held_take (i := 7) (v := .int .i64 0) (some 5) rfl (by kernel_rfl) (by kernel_rfl) (by kernel_rfl) (fun _ _ _ h => h) rfl (Or.inl ⟨by rfl, fun W hW => by go_simp⟩) hS3 ?_
                    simp only [Act.put, List.setIfInBounds_toArray, List.set_cons_zero, List.set_cons_succ]
                    refine wpAnyH_done (by kernel_rfl) ?_ _
                    have hbf := Below.then C5.below hS3
                    have hcap := own_cap hown4
                    have hrd := Reads.of_own hown4
                    clear hown4 hins hclo
                    go_wp2_with fail
                    go_ret2
                    exact ⟨A4, n + 1, c4, by rw [HE0.out]; rfl, fun h => absurd HE0.out h, by rw [HL0.out, HLEN.out], fun _ => hcap, by rw [HL0.out]; exact hrd, hbf⟩
        · have hE := addE_13 HC0.out HH.out H3.out (by rw [HNUM.out]; exact HTW.out)
          have HE := Lib.hid hE
          clear hE
          go_wp2_with fail
          go_ret2
          exact hbad _ _ HE.out (by decide) (below_drewN C4.below _)
      · have dz : (z.toList == id.toList) = false := by rw [str_beq]; exact decide_eq_false hzi
        have hE := addE_1 HC0.out HH.out ⟨by have := HL.out; omega, by rw [hz, HID.out]; exact hzi⟩
        have HE := Lib.hid hE
        clear hE hz hzi hcc hn0
        go_wp2_with fail
        go_quiet (fail)
        go_wp2_with fail
        go_ret2
        exact hbad _ _ HE.out (by decide) (below_drewN C4.below _)
  · have d0 : (e0 != 0) = true := by simpa using h0
    have d1 : (e0 == 0) = false := by simpa using h0
    have hE : addE xs f = e0 := by rw [HFULL.out, if_pos h0]
    have HE := Lib.hid hE; have H0 := Lib.hid h0
    clear h0 hE
    go_wp2_with fail
    go_ret2
    exact hbad _ _ HE.out H0.out C1.below
end Go.Proofs.Ytdkijdedfpfbnaa
