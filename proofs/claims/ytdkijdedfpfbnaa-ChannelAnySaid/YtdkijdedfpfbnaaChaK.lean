/- Add, the document's. -/
import Derived.Test.YtdkijdedfpfbnaaChaJ
namespace Go.Proofs.Ytdkijdedfpfbnaa
open Go.RowKit Go.Shelf

def outL (xs : List Frm) (f : Frm) (p k : Nat) : List Frm := if p < k then xs.take p ++ f :: (xs.take k).drop p else xs.take k
section
variable {xs : List Frm} {f : Frm} {p k : Nat}
theorem outL_a (h : p < k) (hk : k < xs.length) : outL xs f p (k + 1) = outL xs f p k ++ [xs.getD k Frm.none_] := by
  unfold outL
  rw [if_pos (by omega), if_pos h, take_snoc xs k Frm.none_ hk, List.drop_append_of_le_length (by rw [List.length_take]; omega)]
  simp
theorem outL_b (h : k < p) (hk : k < xs.length) : outL xs f p (k + 1) = outL xs f p k ++ [xs.getD k Frm.none_] := by
  unfold outL
  rw [if_neg (by omega), if_neg (by omega), take_snoc xs k Frm.none_ hk]
theorem outL_c (hk : k < xs.length) : outL xs f k (k + 1) = outL xs f k k ++ [f] ++ [xs.getD k Frm.none_] := by
  unfold outL
  rw [if_pos (by omega), if_neg (by omega), take_snoc xs k Frm.none_ hk, List.drop_left' (by rw [List.length_take]; omega)]
  simp
theorem outL_len : (outL xs f p k).length ≤ k + 1 := by
  unfold outL
  split
  · simp; omega
  · simp; omega
theorem outL_end : (if p < xs.length then outL xs f p xs.length else outL xs f p xs.length ++ [f]) = xs.take p ++ f :: xs.drop p := by
  unfold outL
  by_cases h : p < xs.length
  · rw [if_pos h, if_pos h, List.take_length]
  · rw [if_neg h, if_neg h, List.take_length, List.take_of_length_le (by omega), List.drop_of_length_le (by omega)]
end
theorem pos_lo (xs : List Frm) (m : Int) (k : Nat) (h : k < posN xs m) : decide (m < (xs.getD k Frm.none_).num) = false := by
  have := List.not_of_lt_findIdx h
  have hk : k < xs.length := Nat.lt_of_lt_of_le h (pos_le xs m)
  rw [List.getD_eq_getElem?_getD, List.getElem?_eq_getElem hk]
  simpa using this
theorem pos_hi (xs : List Frm) (m : Int) (h : posN xs m < xs.length) : decide (m < (xs.getD (posN xs m) Frm.none_).num) = true := by
  rw [List.getD_eq_getElem?_getD, List.getElem?_eq_getElem h]
  exact List.findIdx_getElem (xs := xs) (p := fun g : Frm => decide (m < g.num)) (w := h)

set_option maxRecDepth 100000 in
set_option maxHeartbeats 4000000 in
theorem addR_any (B : Nat) (A : Option Addr) (n c : Nat) (xs : List Frm) (f : Frm) (w : World) (hB : B ≤ w.heap.size) (h : Reads w B 4 A n (framesV xs)) (hn : n ≤ 1000000) :
    Calls Try.prog 15 #[.slice A n c, .agg #[.string f.id, .int .i64 f.num, .string f.data, .bool f.last]] w (AddPost A n c xs f w) := by
  have hl : xs.length = n := by have := h.1; rw [framesV_len] at this; omega
  obtain ⟨i0, hi, hz0, hz1, hz2⟩ := info_parts frame_info
  have hck := fun W => checkR_any f W
  have hhd := fun W hB hR => heardR_any B A n c xs W hB hR (by omega)
  obtain ⟨e0, he0⟩ : ∃ e, checkF f = e := ⟨_, rfl⟩
  obtain ⟨H, hH⟩ : ∃ b, heardF xs = b := ⟨_, rfl⟩
  have hbad := fun w' E (hE : addE xs f = E) (h0 : E ≠ 0) (hb : Below w.heap.size w w') => AddPost.bad (c := c) hB h hl hE h0 hb
  rw [he0] at hck
  rw [hH] at hhd
  obtain ⟨id, hid⟩ : ∃ x, f.id = x := ⟨_, rfl⟩
  obtain ⟨num, hnum⟩ : ∃ x, f.num = x := ⟨_, rfl⟩
  obtain ⟨data, hdata⟩ : ∃ x, f.data = x := ⟨_, rfl⟩
  obtain ⟨last, hlast⟩ : ∃ x, f.last = x := ⟨_, rfl⟩
  have hcells : f.cells = [.string id, .int .i64 num, .string data, .bool last] := by unfold Frm.cells; rw [hid, hnum, hdata, hlast]
  rw [hid, hnum, hdata, hlast] at hck ⊢
  have HID := Lib.hid hid; have HNUM := Lib.hid hnum; have HLAST := Lib.hid hlast; have HCE := Lib.hid hcells
  have HL := Lib.hid hl; have HH := Lib.hid hH; have HC0 := Lib.hid he0
  clear hid hnum hdata hlast hl he0 hH hcells
  have C0 : Car w (w.alloc (.cells #[.string id, .int .i64 num, .string data, .bool last] 30)) w.heap.size 30 #[.string id, .int .i64 num, .string data, .bool last] := ⟨(Below.refl _ _).alloc (Nat.le_refl _) _, Blk.new w 30 #[.string id, .int .i64 num, .string data, .bool last]⟩
  go_enter Try.func15, Try.ntmps15
  go_wp2_with fail
  generalize w.alloc (.cells #[.string id, .int .i64 num, .string data, .bool last] 30) = w0 at *
  refine (hck w0).mono ?_
  rintro e w1 ⟨rfl, hg⟩
  have C1 := C0.step (below_of_grown hg)
  clear hg C0 hck
  by_cases h0 : e0 = 0
  · subst h0
    have hR1 := h.below (C1.below.mono hB)
    have hs1 := C1.below.size
    go_wp2_with fail
    refine (hhd w1 (by omega) hR1).mono ?_
    rintro e w4 ⟨rfl, hg⟩
    have C4 := C1.step (below_of_grown hg)
    have hs4 := C4.below.size
    have hR4 := h.below (C4.below.mono hB)
    clear hg C1 hR1 hhd
    cases H
    · have hE : addE xs f = 2 := by unfold addE; rw [if_neg (by rw [HC0.out]; simp), if_pos (by first | exact HH.out | (have := HH.out; simpa using this))]
      have HE := Lib.hid hE
      clear hE
      go_wp2_with fail
      go_ret2
      exact hbad _ _ HE.out (by decide) C4.below
    have hhe : heardF xs = true := by first | exact HH.out | (have := HH.out; simpa using this)
    have b4 := C4.blk
    have hg4 : w.heap.size < w4.heap.size := b4.lt
    have f0 := b4.cell 0; have f1 := b4.cell 1; have f2 := b4.cell 2; have f3 := b4.cell 3
    simp only [List.getElem?_toArray, List.getElem?_cons_zero, List.getElem?_cons_succ] at f0 f1 f2 f3
    have HHE := Lib.hid hhe
    clear hhe HH
    by_cases hzi : 0 < n ∧ (xs.getD 0 Frm.none_).id ≠ id
    · obtain ⟨hn0, hzi⟩ := hzi
      obtain ⟨b, off, rfl, hbb, hcc⟩ := hR4.frames (k := 0) hn0
      have z0 := (hcc 0 hn0).1
      rw [Nat.zero_mul, Nat.add_zero] at z0
      have hE := addE_1 HC0.out HHE.out ⟨by have := HL.out; omega, by rw [HID.out]; exact hzi⟩
      obtain ⟨z, hz⟩ : ∃ z, (xs.getD 0 Frm.none_).id = z := ⟨_, rfl⟩
      rw [hz] at z0 hzi
      have dn : decide ((0 : Int) < (n : Int)) = true := decide_eq_true (by omega)
      have dn2 : decide (0 < n) = true := decide_eq_true hn0
      have dn3 : (0 : Int) < (n : Int) := by omega
      have dz : (z.toList == id.toList) = false := by rw [str_beq]; exact decide_eq_false hzi
      have HE := Lib.hid hE
      clear hE hz hzi hcc
      go_wp2_with fail
      go_quiet (fail)
      go_wp2_with fail
      go_ret2
      exact hbad _ _ HE.out (by decide) (below_drewN C4.below _)
    · have h3 : ¬ (0 < xs.length ∧ (xs.getD 0 Frm.none_).id ≠ f.id) := by rw [HL.out, HID.out]; exact hzi
      have H3 := Lib.hid h3
      clear h3
      by_cases hn0 : n = 0
      · have dn : decide ((0 : Int) < (n : Int)) = false := decide_eq_false (by omega)
        have dn2 : decide (0 < n) = false := decide_eq_false (by omega)
        have hn00 : n ≤ 0 := by omega
        have HN0 := Lib.hid hn0
        clear hn0
        go_wp2_with fail
        go_quiet (fail)
        have C5 := C4.step (below_drewN (Below.refl _ w4) nq)
        have hB5 : B ≤ w4.heap.size := by omega
        have hg5 : w.heap.size < (w4.drewN nq).heap.size := hg4
        replace f0 : (w4.drewN nq).cell? ⟨w.heap.size, 0, none⟩ = some (.string id) := f0
        replace f1 : (w4.drewN nq).cell? ⟨w.heap.size, 1, none⟩ = some (.int .i64 num) := f1
        replace f2 : (w4.drewN nq).cell? ⟨w.heap.size, 2, none⟩ = some (.string data) := f2
        replace f3 : (w4.drewN nq).cell? ⟨w.heap.size, 3, none⟩ = some (.bool last) := f3
        generalize w4.drewN nq = w5 at *
        have hs5 := C5.below.size
        clear C4 hR4 hs4 b4
        go_wp2_with fail
        go_loopw [7] (fun i wr => ∃ k q : Nat, i = .int .i64 (k : Int) ∧ k ≤ n ∧ wr = w5.drewN q ∧ Hid (∀ t, t < k → (xs.getD t Frm.none_).num ≠ num)) (fun i _ => n - (intOf i).toNat)
        case atStart => exact ⟨0, 0, rfl, by omega, rfl, Lib.hid (fun t ht => absurd ht (by omega))⟩
        case round =>
          obtain ⟨k, q, rfl, hk, rfl, ha⟩ := hrel
          have hkn : ¬ k < n := by omega
          have htw : twiceF xs f.num = false := by
            unfold twiceF
            rw [List.any_eq_false]
            intro g hg
            obtain ⟨t, ht, rfl⟩ := mem_getD xs g hg
            rw [HNUM.out]
            simpa using ha.out t (by have := HL.out; omega)
          have HTW := Lib.hid htw
          have e1 : decide ((k : Int) < (n : Int)) = false := decide_eq_false (by omega)
          have e2 : decide (k < n) = false := decide_eq_false hkn
          clear htw ha hkn
          replace C5 := C5.step (below_drewN (Below.refl _ w5) q)
          replace f0 : (w5.drewN q).cell? ⟨w.heap.size, 0, none⟩ = some (.string id) := f0
          replace f1 : (w5.drewN q).cell? ⟨w.heap.size, 1, none⟩ = some (.int .i64 num) := f1
          replace f2 : (w5.drewN q).cell? ⟨w.heap.size, 2, none⟩ = some (.string data) := f2
          replace f3 : (w5.drewN q).cell? ⟨w.heap.size, 3, none⟩ = some (.bool last) := f3
          replace hg5 : w.heap.size < (w5.drewN q).heap.size := hg5
          go_wp2_with fail
          generalize w5.drewN q = w6 at *
          go_loopw [8] (fun i wr => ∃ k q : Nat, i = .int .i64 (k : Int) ∧ k ≤ n ∧ wr = w6.drewN q ∧ Hid (∀ t, t < k → (((xs.getD t Frm.none_).last && decide ((xs.getD t Frm.none_).num < num)) || (last && decide (num < (xs.getD t Frm.none_).num))) = false)) (fun i _ => n - (intOf i).toNat)
          case atStart => exact ⟨0, 0, rfl, by omega, rfl, Lib.hid (fun t ht => absurd ht (by omega))⟩
          case round =>
            clear e1 e2
            obtain ⟨k, q, rfl, hk, rfl, ha⟩ := hrel
            have hkn : ¬ k < n := by omega
            have hor : orderF xs f = false := by
              unfold orderF
              rw [List.any_eq_false]
              intro g hg
              obtain ⟨t, ht, rfl⟩ := mem_getD xs g hg
              have := ha.out t (by have := HL.out; omega)
              rw [HNUM.out, HLAST.out, this]
              simp
            have HOR := Lib.hid hor
            have e1 : decide ((k : Int) < (n : Int)) = false := decide_eq_false (by omega)
            have e2 : decide (k < n) = false := decide_eq_false hkn
            clear hor ha hkn
            replace C5 := C5.step (below_drewN (Below.refl _ w6) q)
            replace f0 : (w6.drewN q).cell? ⟨w.heap.size, 0, none⟩ = some (.string id) := f0
            replace f1 : (w6.drewN q).cell? ⟨w.heap.size, 1, none⟩ = some (.int .i64 num) := f1
            replace f2 : (w6.drewN q).cell? ⟨w.heap.size, 2, none⟩ = some (.string data) := f2
            replace f3 : (w6.drewN q).cell? ⟨w.heap.size, 3, none⟩ = some (.bool last) := f3
            replace hg5 : w.heap.size < (w6.drewN q).heap.size := hg5
            by_cases h31 : 31 < num
            · have d31 : decide ((31 : Int) < num) = true := decide_eq_true h31
              have HE := Lib.hid (addE_5 HC0.out HHE.out H3.out HTW.out HOR.out (by rw [HNUM.out]; exact h31))
              go_wp2_with fail
              go_ret2
              exact hbad _ _ HE.out (by decide) C5.below
            have d31 : decide ((31 : Int) < num) = false := decide_eq_false h31
            have hE0 := addE_0 HC0.out HHE.out H3.out HTW.out HOR.out (by rw [HNUM.out]; exact h31)
            obtain ⟨P, hP⟩ : ∃ p, posN xs num = p := ⟨_, rfl⟩
            have hL0 : addL xs f = xs.take P ++ f :: xs.drop P := by unfold addL; rw [if_pos hE0, HNUM.out, hP]
            have hPle : P ≤ n := by rw [← hP]; have := pos_le xs num; have := HL.out; omega
            have hlo : ∀ k, k < P → decide (num < (xs.getD k Frm.none_).num) = false := fun k hk => pos_lo xs num k (by rw [hP]; exact hk)
            have hhi : P < n → decide (num < (xs.getD P Frm.none_).num) = true := fun hk => by have := pos_hi xs num (by rw [hP, HL.out]; exact hk); rw [hP] at this; exact this
            have HE0 := Lib.hid hE0; have HL0 := Lib.hid hL0; have HLO := Lib.hid hlo; have HHI := Lib.hid hhi
            clear hE0 hL0 hlo hhi hP h31 hbad
            go_wp2_with fail
            generalize w6.drewN q = w7 at *
            have hs7 := C5.below.size
            go_loopw [9, 10, 11] (fun v pu i wr => ∃ (k : Nat), i = .int .i64 (k : Int) ∧ k ≤ n ∧ pu = .bool (decide (P < k)) ∧ wr.ownsRow (w.heap.size + 1) 30 4 v (outL xs f P k).length (framesV (outL xs f P k)) ∧ Below (w.heap.size + 1) w7 wr) (fun _ _ i _ => n - (intOf i).toNat)
            case atStart => exact ⟨0, rfl, by omega, rfl, by first | exact World.ownsRow_nil _ _ _ _ | (show _; simp [outL, framesV]; exact World.ownsRow_nil _ _ _ _), Below.refl _ _⟩
            case round =>
              clear e1 e2
              obtain ⟨k, rfl, hk, rfl, hown, hbe⟩ := hrel
              have hbz := hbe.size
              have hol : (outL xs f P k).length ≤ k + 1 := outL_len
              replace f0 := (hbe.cell (p := ⟨w.heap.size, 0, none⟩) (Nat.lt_succ_self _)).trans f0
              replace f1 := (hbe.cell (p := ⟨w.heap.size, 1, none⟩) (Nat.lt_succ_self _)).trans f1
              replace f2 := (hbe.cell (p := ⟨w.heap.size, 2, none⟩) (Nat.lt_succ_self _)).trans f2
              replace f3 := (hbe.cell (p := ⟨w.heap.size, 3, none⟩) (Nat.lt_succ_self _)).trans f3
              obtain rfl : k = n := by omega
              have e1 : decide ((k : Int) < (k : Int)) = false := by simp
              have e2 : decide (k < k) = false := by simp
              have hend := outL_end (xs := xs) (f := f) (p := P)
              rw [HL.out] at hend
              have HEND := Lib.hid hend
              clear hend
              obtain ⟨A9, k9, rfl⟩ := own_slice4 hown
              by_cases hPk : P < k
              · have dP : decide (P < k) = true := decide_eq_true hPk
                have hfin : outL xs f P k = addL xs f := by have := HEND.out; rw [if_pos hPk] at this; rw [this, HL0.out]
                rw [hfin] at hown
                have HO := Lib.hid hown
                have hcap := own_cap hown
                have hrd := Reads.of_own hown
                clear hown hPk HEND
                rw [hfin]
                go_wp2_with fail
                go_ret2
                exact ⟨A9, _, k9, by rw [HE0.out]; rfl, fun h => absurd HE0.out h, rfl, fun _ => hcap, hrd, C5.below.trans (hbe.mono (by omega))⟩
              · have dP : decide (P < k) = false := decide_eq_false hPk
                have hfin : outL xs f P k ++ [f] = addL xs f := by have := HEND.out; rw [if_neg hPk] at this; rw [this, HL0.out]
                have HFIN := Lib.hid hfin
                clear hPk HEND hfin
                go_wp2_with (at_builtin; refine wpList_append_own _ rfl _ _ 23 rfl (w.heap.size + 1) 30 i0 (.agg #[.string .empty, .int .i64 0, .string .empty, .bool false]) 4 48 Try.underlying23 hi hz0 hz1 hz2 rfl (by decide) _ _ _ rfl (hown.alloc _) ⟨wr.heap.size, 0, none⟩ 1 1 [.string id, .int .i64 num, .string data, .bool last] rfl rfl (cell_four_new _ _ _ _ _ _) (by simp [Value.oneCell']) (by simp only [maxLen]; omega) (by omega) (by simp; omega) ?_; intro v8 w8 hown8 hgrow8 _; refine veiled ?_)
                refine ⟨?_⟩
                have hb8 : Below (w.heap.size + 1) w7 w8 := (hbe.alloc (by omega) _).grown hgrow8 (by simp; omega) (fun j hj => own_ge hown hj)
                have hV : framesV (addL xs f) = framesV (outL xs f P k) ++ [.string id, .int .i64 num, .string data, .bool last] := by rw [← HFIN.out, framesV_snoc, HCE.out]
                have hLn : (addL xs f).length = (outL xs f P k).length + 1 := by rw [← HFIN.out]; simp
                rw [← hV, ← hLn] at hown8
                obtain ⟨A8, c8, rfl⟩ := own_slice4 hown8
                have hcap := own_cap hown8
                have hrd := Reads.of_own hown8
                clear hown8 hgrow8 hV hLn hown hbe
                go_wp2_with fail
                go_ret2
                exact ⟨A8, _, c8, by rw [HE0.out]; rfl, fun h => absurd HE0.out h, rfl, fun _ => hcap, hrd, C5.below.trans (hb8.mono (by omega))⟩
      · obtain ⟨b, off, rfl, hbb, hcc⟩ := hR4.frames (k := 0) (by omega)
        have z0 := (hcc 0 (by omega)).1
        rw [Nat.zero_mul, Nat.add_zero] at z0
        have hze : (xs.getD 0 Frm.none_).id = id := by
          by_cases e : (xs.getD 0 Frm.none_).id = id
          · exact e
          · exact absurd ⟨by omega, e⟩ hzi
        rw [hze] at z0
        have dn : decide ((0 : Int) < (n : Int)) = true := decide_eq_true (by omega)
        have dn2 : decide (0 < n) = true := decide_eq_true (by omega)
        have dn3 : (0 : Int) < (n : Int) := by omega
        have dz : (id.toList == id.toList) = true := by simp
        have HN0 := Lib.hid hn0; have HZE := Lib.hid hze
        clear hn0 hze hzi
        go_wp2_with fail
        go_quiet (fail)
        clear z0 dz
        have C5 := C4.step (below_drewN (Below.refl _ w4) nq)
        have hB5 : B ≤ w4.heap.size := by omega
        have hg5 : w.heap.size < (w4.drewN nq).heap.size := hg4
        replace hcc : ∀ j, j < n → (w4.drewN nq).cell? ⟨b, off + j * 4, none⟩ = some (.string (xs.getD j Frm.none_).id) ∧ (w4.drewN nq).cell? ⟨b, off + j * 4 + 1, none⟩ = some (.int .i64 (xs.getD j Frm.none_).num) ∧ (w4.drewN nq).cell? ⟨b, off + j * 4 + 2, none⟩ = some (.string (xs.getD j Frm.none_).data) ∧ (w4.drewN nq).cell? ⟨b, off + j * 4 + 3, none⟩ = some (.bool (xs.getD j Frm.none_).last) := hcc
        replace f0 : (w4.drewN nq).cell? ⟨w.heap.size, 0, none⟩ = some (.string id) := f0
        replace f1 : (w4.drewN nq).cell? ⟨w.heap.size, 1, none⟩ = some (.int .i64 num) := f1
        replace f2 : (w4.drewN nq).cell? ⟨w.heap.size, 2, none⟩ = some (.string data) := f2
        replace f3 : (w4.drewN nq).cell? ⟨w.heap.size, 3, none⟩ = some (.bool last) := f3
        generalize w4.drewN nq = w5 at *
        have hs5 := C5.below.size
        have HCC := Lib.hid hcc
        clear hcc
        clear C4 hR4 hs4 b4
        go_wp2_with fail
        go_loopw [7] (fun i wr => ∃ k q : Nat, i = .int .i64 (k : Int) ∧ k ≤ n ∧ wr = w5.drewN q ∧ Hid (∀ t, t < k → (xs.getD t Frm.none_).num ≠ num)) (fun i _ => n - (intOf i).toNat)
        case atStart => exact ⟨0, 0, rfl, by omega, rfl, Lib.hid (fun t ht => absurd ht (by omega))⟩
        case round =>
          obtain ⟨k, q, rfl, hk, rfl, ha⟩ := hrel
          by_cases hkn : k < n
          · have c1 := (HCC.out k hkn).2.1
            have hmem := getD_mem xs k (by have := HL.out; omega)
            have q0 : (k : Int) < (n : Int) := by omega
            obtain ⟨x, hx⟩ : ∃ x, (xs.getD k Frm.none_).num = x := ⟨_, rfl⟩
            rw [hx] at c1
            by_cases hxn : x = num
            · have dx : (x == num) = true := by simpa using hxn
              have hE := addE_13 HC0.out HHE.out H3.out (List.any_eq_true.2 ⟨_, hmem, by rw [hx, HNUM.out]; simpa using hxn⟩)
              have HE := Lib.hid hE
              clear hE hxn hx hmem
              go_wp2
              go_quiet (fail)
              go_wp2
              go_ret2
              exact hbad _ _ HE.out (by decide) (below_drewN (below_drewN C5.below _) _)
            · have dx : (x == num) = false := by simpa using hxn
              have hnx : ∀ t, t < k + 1 → (xs.getD t Frm.none_).num ≠ num := fun t ht => by
                by_cases e : t = k
                · rw [e, hx]; exact hxn
                · exact ha.out t (by omega)
              have HNX := Lib.hid hnx
              clear hnx hxn hx hmem
              go_wp2
              go_quiet (fail)
              go_wp2
              exact ⟨⟨k + 1, _, by simp, by omega, rfl, HNX⟩, by simp [intOf]; omega⟩
          · have htw : twiceF xs f.num = false := by
              unfold twiceF
              rw [List.any_eq_false]
              intro g hg
              obtain ⟨t, ht, rfl⟩ := mem_getD xs g hg
              rw [HNUM.out]
              simpa using ha.out t (by have := HL.out; omega)
            have HTW := Lib.hid htw
            have e1 : decide ((k : Int) < (n : Int)) = false := decide_eq_false (by omega)
            have e2 : decide (k < n) = false := decide_eq_false hkn
            clear htw ha hkn
            replace C5 := C5.step (below_drewN (Below.refl _ w5) q)
            have hcc : ∀ j, j < n → (w5.drewN q).cell? ⟨b, off + j * 4, none⟩ = some (.string (xs.getD j Frm.none_).id) ∧ (w5.drewN q).cell? ⟨b, off + j * 4 + 1, none⟩ = some (.int .i64 (xs.getD j Frm.none_).num) ∧ (w5.drewN q).cell? ⟨b, off + j * 4 + 2, none⟩ = some (.string (xs.getD j Frm.none_).data) ∧ (w5.drewN q).cell? ⟨b, off + j * 4 + 3, none⟩ = some (.bool (xs.getD j Frm.none_).last) := HCC.out
            replace HCC := Lib.hid hcc
            clear hcc
            replace f0 : (w5.drewN q).cell? ⟨w.heap.size, 0, none⟩ = some (.string id) := f0
            replace f1 : (w5.drewN q).cell? ⟨w.heap.size, 1, none⟩ = some (.int .i64 num) := f1
            replace f2 : (w5.drewN q).cell? ⟨w.heap.size, 2, none⟩ = some (.string data) := f2
            replace f3 : (w5.drewN q).cell? ⟨w.heap.size, 3, none⟩ = some (.bool last) := f3
            replace hg5 : w.heap.size < (w5.drewN q).heap.size := hg5
            go_wp2_with fail
            generalize w5.drewN q = w6 at *
            go_loopw [8] (fun i wr => ∃ k q : Nat, i = .int .i64 (k : Int) ∧ k ≤ n ∧ wr = w6.drewN q ∧ Hid (∀ t, t < k → (((xs.getD t Frm.none_).last && decide ((xs.getD t Frm.none_).num < num)) || (last && decide (num < (xs.getD t Frm.none_).num))) = false)) (fun i _ => n - (intOf i).toNat)
            case atStart => exact ⟨0, 0, rfl, by omega, rfl, Lib.hid (fun t ht => absurd ht (by omega))⟩
            case round =>
              clear e1 e2
              obtain ⟨k, q, rfl, hk, rfl, ha⟩ := hrel
              by_cases hkn : k < n
              · have c1 := (HCC.out k hkn).2.1
                have c3 := (HCC.out k hkn).2.2.2
                have hmem := getD_mem xs k (by have := HL.out; omega)
                have q0 : (k : Int) < (n : Int) := by omega
                obtain ⟨x, hx⟩ : ∃ x, (xs.getD k Frm.none_).num = x := ⟨_, rfl⟩
                obtain ⟨y, hy⟩ : ∃ x, (xs.getD k Frm.none_).last = x := ⟨_, rfl⟩
                rw [hx] at c1
                rw [hy] at c3
                have h11 : ((y && decide (x < num)) || (last && decide (num < x))) = true → addE xs f = 11 := fun h0 => addE_11 HC0.out HHE.out H3.out HTW.out (List.any_eq_true.2 ⟨_, hmem, by rw [hx, hy, HNUM.out, HLAST.out]; exact h0⟩)
                have hnx : ((y && decide (x < num)) || (last && decide (num < x))) = false → ∀ t, t < k + 1 → (((xs.getD t Frm.none_).last && decide ((xs.getD t Frm.none_).num < num)) || (last && decide (num < (xs.getD t Frm.none_).num))) = false := fun h0 t ht => by
                  by_cases e : t = k
                  · rw [e, hx, hy]; exact h0
                  · exact ha.out t (by omega)
                have H11 := Lib.hid h11
                have HNX := Lib.hid hnx
                clear h11 hnx ha hx hy hmem
                cases y
                · cases last
                  · skip
                    have HN := Lib.hid (HNX.out (by rfl))
                    clear H11 HNX
                    go_wp2
                    go_quiet (fail)
                    go_wp2
                    exact ⟨⟨k + 1, _, by simp, by omega, rfl, HN⟩, by simp [intOf]; omega⟩
                  · by_cases h2 : num < x
                    · have d2 : decide (num < x) = true := decide_eq_true h2
                      have HE := Lib.hid (H11.out (by rw [d2]; rfl))
                      clear H11 HNX
                      go_wp2
                      go_quiet (fail)
                      go_wp2
                      go_ret2
                      exact hbad _ _ HE.out (by decide) (below_drewN (below_drewN C5.below _) _)
                    · have d2 : decide (num < x) = false := decide_eq_false h2
                      clear h2
                      have HN := Lib.hid (HNX.out (by rw [d2]; rfl))
                      clear H11 HNX
                      go_wp2
                      go_quiet (fail)
                      go_wp2
                      exact ⟨⟨k + 1, _, by simp, by omega, rfl, HN⟩, by simp [intOf]; omega⟩
                · by_cases h1 : x < num
                  · have d1 : decide (x < num) = true := decide_eq_true h1
                    have HE := Lib.hid (H11.out (by rw [d1]; rfl))
                    clear H11 HNX
                    go_wp2
                    go_quiet (fail)
                    go_wp2
                    go_ret2
                    exact hbad _ _ HE.out (by decide) (below_drewN (below_drewN C5.below _) _)
                  · have d1 : decide (x < num) = false := decide_eq_false h1
                    clear h1
                    cases last
                    · skip
                      have HN := Lib.hid (HNX.out (by rw [d1]; rfl))
                      clear H11 HNX
                      go_wp2
                      go_quiet (fail)
                      go_wp2
                      exact ⟨⟨k + 1, _, by simp, by omega, rfl, HN⟩, by simp [intOf]; omega⟩
                    · by_cases h2 : num < x
                      · have d2 : decide (num < x) = true := decide_eq_true h2
                        have HE := Lib.hid (H11.out (by rw [d1, d2]; rfl))
                        clear H11 HNX
                        go_wp2
                        go_quiet (fail)
                        go_wp2
                        go_ret2
                        exact hbad _ _ HE.out (by decide) (below_drewN (below_drewN C5.below _) _)
                      · have d2 : decide (num < x) = false := decide_eq_false h2
                        clear h2
                        have HN := Lib.hid (HNX.out (by rw [d1, d2]; rfl))
                        clear H11 HNX
                        go_wp2
                        go_quiet (fail)
                        go_wp2
                        exact ⟨⟨k + 1, _, by simp, by omega, rfl, HN⟩, by simp [intOf]; omega⟩
              · have hor : orderF xs f = false := by
                  unfold orderF
                  rw [List.any_eq_false]
                  intro g hg
                  obtain ⟨t, ht, rfl⟩ := mem_getD xs g hg
                  have := ha.out t (by have := HL.out; omega)
                  rw [HNUM.out, HLAST.out, this]
                  simp
                have HOR := Lib.hid hor
                have e1 : decide ((k : Int) < (n : Int)) = false := decide_eq_false (by omega)
                have e2 : decide (k < n) = false := decide_eq_false hkn
                clear hor ha hkn
                replace C5 := C5.step (below_drewN (Below.refl _ w6) q)
                have hcc : ∀ j, j < n → (w6.drewN q).cell? ⟨b, off + j * 4, none⟩ = some (.string (xs.getD j Frm.none_).id) ∧ (w6.drewN q).cell? ⟨b, off + j * 4 + 1, none⟩ = some (.int .i64 (xs.getD j Frm.none_).num) ∧ (w6.drewN q).cell? ⟨b, off + j * 4 + 2, none⟩ = some (.string (xs.getD j Frm.none_).data) ∧ (w6.drewN q).cell? ⟨b, off + j * 4 + 3, none⟩ = some (.bool (xs.getD j Frm.none_).last) := HCC.out
                replace HCC := Lib.hid hcc
                clear hcc
                replace f0 : (w6.drewN q).cell? ⟨w.heap.size, 0, none⟩ = some (.string id) := f0
                replace f1 : (w6.drewN q).cell? ⟨w.heap.size, 1, none⟩ = some (.int .i64 num) := f1
                replace f2 : (w6.drewN q).cell? ⟨w.heap.size, 2, none⟩ = some (.string data) := f2
                replace f3 : (w6.drewN q).cell? ⟨w.heap.size, 3, none⟩ = some (.bool last) := f3
                replace hg5 : w.heap.size < (w6.drewN q).heap.size := hg5
                by_cases h31 : 31 < num
                · have d31 : decide ((31 : Int) < num) = true := decide_eq_true h31
                  have HE := Lib.hid (addE_5 HC0.out HHE.out H3.out HTW.out HOR.out (by rw [HNUM.out]; exact h31))
                  go_wp2_with fail
                  go_ret2
                  exact hbad _ _ HE.out (by decide) C5.below
                have d31 : decide ((31 : Int) < num) = false := decide_eq_false h31
                have hE0 := addE_0 HC0.out HHE.out H3.out HTW.out HOR.out (by rw [HNUM.out]; exact h31)
                obtain ⟨P, hP⟩ : ∃ p, posN xs num = p := ⟨_, rfl⟩
                have hL0 : addL xs f = xs.take P ++ f :: xs.drop P := by unfold addL; rw [if_pos hE0, HNUM.out, hP]
                have hPle : P ≤ n := by rw [← hP]; have := pos_le xs num; have := HL.out; omega
                have hlo : ∀ k, k < P → decide (num < (xs.getD k Frm.none_).num) = false := fun k hk => pos_lo xs num k (by rw [hP]; exact hk)
                have hhi : P < n → decide (num < (xs.getD P Frm.none_).num) = true := fun hk => by have := pos_hi xs num (by rw [hP, HL.out]; exact hk); rw [hP] at this; exact this
                have HE0 := Lib.hid hE0; have HL0 := Lib.hid hL0; have HLO := Lib.hid hlo; have HHI := Lib.hid hhi
                clear hE0 hL0 hlo hhi hP h31 hbad
                go_wp2_with fail
                generalize w6.drewN q = w7 at *
                have hs7 := C5.below.size
                go_loopw [9, 10, 11] (fun v pu i wr => ∃ (k : Nat), i = .int .i64 (k : Int) ∧ k ≤ n ∧ pu = .bool (decide (P < k)) ∧ wr.ownsRow (w.heap.size + 1) 30 4 v (outL xs f P k).length (framesV (outL xs f P k)) ∧ Below (w.heap.size + 1) w7 wr) (fun _ _ i _ => n - (intOf i).toNat)
                case atStart => exact ⟨0, rfl, by omega, rfl, by first | exact World.ownsRow_nil _ _ _ _ | (show _; simp [outL, framesV]; exact World.ownsRow_nil _ _ _ _), Below.refl _ _⟩
                case round =>
                  clear e1 e2
                  obtain ⟨k, rfl, hk, rfl, hown, hbe⟩ := hrel
                  have hbz := hbe.size
                  have hol : (outL xs f P k).length ≤ k + 1 := outL_len
                  replace f0 := (hbe.cell (p := ⟨w.heap.size, 0, none⟩) (Nat.lt_succ_self _)).trans f0
                  replace f1 := (hbe.cell (p := ⟨w.heap.size, 1, none⟩) (Nat.lt_succ_self _)).trans f1
                  replace f2 := (hbe.cell (p := ⟨w.heap.size, 2, none⟩) (Nat.lt_succ_self _)).trans f2
                  replace f3 := (hbe.cell (p := ⟨w.heap.size, 3, none⟩) (Nat.lt_succ_self _)).trans f3
                  by_cases hkn : k < n
                  · obtain ⟨c0, c1, c2, c3⟩ := HCC.out k hkn
                    have hbw : b < w.heap.size + 1 := by omega
                    replace c0 := (hbe.cell (p := ⟨b, off + k * 4, none⟩) hbw).trans c0
                    replace c1 := (hbe.cell (p := ⟨b, off + k * 4 + 1, none⟩) hbw).trans c1
                    replace c2 := (hbe.cell (p := ⟨b, off + k * 4 + 2, none⟩) hbw).trans c2
                    replace c3 := (hbe.cell (p := ⟨b, off + k * 4 + 3, none⟩) hbw).trans c3
                    have q0 : (k : Int) < (n : Int) := by omega
                    have hoa := fun h1 : P < k => outL_a (xs := xs) (f := f) h1 (by have := HL.out; omega)
                    have hob := fun h1 : k < P => outL_b (xs := xs) (f := f) h1 (by have := HL.out; omega)
                    have hoc := fun _ : k = P => outL_c (xs := xs) (f := f) (k := k) (by have := HL.out; omega)
                    have hlo := fun h1 : k < P => HLO.out k h1
                    have hhi : k = P → decide (num < (xs.getD k Frm.none_).num) = true := fun h1 => by rw [h1]; exact HHI.out (by omega)
                    have hgc : (xs.getD k Frm.none_).cells = [.string (xs.getD k Frm.none_).id, .int .i64 (xs.getD k Frm.none_).num, .string (xs.getD k Frm.none_).data, .bool (xs.getD k Frm.none_).last] := rfl
                    generalize xs.getD k Frm.none_ = g at *
                    obtain ⟨gid, gnum, gdata, glast⟩ := g
                    simp only at c0 c1 c2 c3 hlo hhi hgc
                    have HOA := Lib.hid hoa; have HOB := Lib.hid hob; have HOC := Lib.hid hoc; have HGC := Lib.hid hgc; have HLO2 := Lib.hid hlo; have HHI2 := Lib.hid hhi
                    clear hoa hob hoc hgc hlo hhi
                    by_cases hPk : P < k
                    · have dP : decide (P < k) = true := decide_eq_true hPk
                      have hput : Value.bool true = Value.bool (decide (P < k + 1)) := by rw [decide_eq_true (by omega)]
                      have HPUT := Lib.hid hput
                      clear hput
                      obtain ⟨A9, k9, rfl⟩ := own_slice4 hown
                      go_wp2_with fail
                      go_quiet (fail)
                      have hownq : (wr.drewN nq).ownsRow (w.heap.size + 1) 30 4 (.slice A9 (outL xs f P k).length k9) (outL xs f P k).length (framesV (outL xs f P k)) := hown
                      have hbq : Below (w.heap.size + 1) w7 (wr.drewN nq) := below_drewN hbe nq
                      have hbqz := hbq.size
                      replace c0 : (wr.drewN nq).cell? ⟨b, off + k * 4, none⟩ = some (.string gid) := c0
                      replace c1 : (wr.drewN nq).cell? ⟨b, off + k * 4 + 1, none⟩ = some (.int .i64 gnum) := c1
                      replace c2 : (wr.drewN nq).cell? ⟨b, off + k * 4 + 2, none⟩ = some (.string gdata) := c2
                      replace c3 : (wr.drewN nq).cell? ⟨b, off + k * 4 + 3, none⟩ = some (.bool glast) := c3
                      clear f0 f1 f2 f3 hown hbe hbz
                      generalize wr.drewN nq = wq at *
                      go_wp2_with (at_builtin; refine wpList_append_own _ rfl _ _ 23 rfl (w.heap.size + 1) 30 i0 (.agg #[.string .empty, .int .i64 0, .string .empty, .bool false]) 4 48 Try.underlying23 hi hz0 hz1 hz2 rfl (by decide) _ _ _ rfl (hownq.alloc _) ⟨wq.heap.size, 0, none⟩ 1 1 [.string gid, .int .i64 gnum, .string gdata, .bool glast] rfl rfl (cell_four_new _ _ _ _ _ _) (by simp [Value.oneCell']) (by simp only [maxLen]; omega) (by omega) (by simp; omega) ?_; intro v8 w8 hown8 hgrow8 _; refine veiled ?_)
                      refine ⟨?_⟩
                      have hb8 : Below (w.heap.size + 1) w7 w8 := (hbq.alloc (by omega) _).grown hgrow8 (by simp; omega) (fun j hj => own_ge hownq hj)
                      have heq := HOA.out hPk
                      have hV : framesV (outL xs f P (k + 1)) = framesV (outL xs f P k) ++ [.string gid, .int .i64 gnum, .string gdata, .bool glast] := by rw [heq, framesV_snoc, HGC.out]
                      have hLn : (outL xs f P (k + 1)).length = (outL xs f P k).length + 1 := by rw [heq]; simp
                      rw [← hV, ← hLn] at hown8
                      have HO8 := Lib.hid hown8
                      obtain ⟨A8, c8, rfl⟩ := own_slice4 hown8
                      clear hgrow8 hownq hbq hV hLn heq hown8
                      go_wp2
                      exact ⟨⟨k + 1, by simp, by omega, HPUT.out, HO8.out, hb8⟩, by simp [intOf]; omega⟩
                    · have dP : decide (P < k) = false := decide_eq_false hPk
                      by_cases hkP : k < P
                      · have dg := HLO2.out hkP
                        have hput : Value.bool false = Value.bool (decide (P < k + 1)) := by rw [decide_eq_false (by omega)]
                        have HPUT := Lib.hid hput
                        clear hput
                        obtain ⟨A9, k9, rfl⟩ := own_slice4 hown
                        go_wp2_with fail
                        go_quiet (fail)
                        have hownq : (wr.drewN nq).ownsRow (w.heap.size + 1) 30 4 (.slice A9 (outL xs f P k).length k9) (outL xs f P k).length (framesV (outL xs f P k)) := hown
                        have hbq : Below (w.heap.size + 1) w7 (wr.drewN nq) := below_drewN hbe nq
                        have hbqz := hbq.size
                        replace c0 : (wr.drewN nq).cell? ⟨b, off + k * 4, none⟩ = some (.string gid) := c0
                        replace c1 : (wr.drewN nq).cell? ⟨b, off + k * 4 + 1, none⟩ = some (.int .i64 gnum) := c1
                        replace c2 : (wr.drewN nq).cell? ⟨b, off + k * 4 + 2, none⟩ = some (.string gdata) := c2
                        replace c3 : (wr.drewN nq).cell? ⟨b, off + k * 4 + 3, none⟩ = some (.bool glast) := c3
                        clear f0 f1 f2 f3 hown hbe hbz
                        generalize wr.drewN nq = wq at *
                        go_wp2_with (at_builtin; refine wpList_append_own _ rfl _ _ 23 rfl (w.heap.size + 1) 30 i0 (.agg #[.string .empty, .int .i64 0, .string .empty, .bool false]) 4 48 Try.underlying23 hi hz0 hz1 hz2 rfl (by decide) _ _ _ rfl (hownq.alloc _) ⟨wq.heap.size, 0, none⟩ 1 1 [.string gid, .int .i64 gnum, .string gdata, .bool glast] rfl rfl (cell_four_new _ _ _ _ _ _) (by simp [Value.oneCell']) (by simp only [maxLen]; omega) (by omega) (by simp; omega) ?_; intro v8 w8 hown8 hgrow8 _; refine veiled ?_)
                        refine ⟨?_⟩
                        have hb8 : Below (w.heap.size + 1) w7 w8 := (hbq.alloc (by omega) _).grown hgrow8 (by simp; omega) (fun j hj => own_ge hownq hj)
                        have heq := HOB.out hkP
                        have hV : framesV (outL xs f P (k + 1)) = framesV (outL xs f P k) ++ [.string gid, .int .i64 gnum, .string gdata, .bool glast] := by rw [heq, framesV_snoc, HGC.out]
                        have hLn : (outL xs f P (k + 1)).length = (outL xs f P k).length + 1 := by rw [heq]; simp
                        rw [← hV, ← hLn] at hown8
                        have HO8 := Lib.hid hown8
                        obtain ⟨A8, c8, rfl⟩ := own_slice4 hown8
                        clear hgrow8 hownq hbq hV hLn heq hown8
                        go_wp2
                        exact ⟨⟨k + 1, by simp, by omega, HPUT.out, HO8.out, hb8⟩, by simp [intOf]; omega⟩
                      · have hkP2 : k = P := by omega
                        have dg := HHI2.out hkP2
                        have hput : Value.bool true = Value.bool (decide (P < k + 1)) := by rw [decide_eq_true (by omega)]
                        have HPUT := Lib.hid hput
                        have heq := HOC.out hkP2
                        have HEQ := Lib.hid heq; have HKP := Lib.hid hkP2
                        clear hput heq hkP2
                        obtain ⟨A9, k9, rfl⟩ := own_slice4 hown
                        go_wp2_with fail
                        go_quiet (fail)
                        have hownq : (wr.drewN nq).ownsRow (w.heap.size + 1) 30 4 (.slice A9 (outL xs f P k).length k9) (outL xs f P k).length (framesV (outL xs f P k)) := hown
                        have hbq : Below (w.heap.size + 1) w7 (wr.drewN nq) := below_drewN hbe nq
                        have hbqz := hbq.size
                        replace c0 : (wr.drewN nq).cell? ⟨b, off + k * 4, none⟩ = some (.string gid) := c0
                        replace c1 : (wr.drewN nq).cell? ⟨b, off + k * 4 + 1, none⟩ = some (.int .i64 gnum) := c1
                        replace c2 : (wr.drewN nq).cell? ⟨b, off + k * 4 + 2, none⟩ = some (.string gdata) := c2
                        replace c3 : (wr.drewN nq).cell? ⟨b, off + k * 4 + 3, none⟩ = some (.bool glast) := c3
                        replace f0 : (wr.drewN nq).cell? ⟨w.heap.size, 0, none⟩ = some (.string id) := f0
                        replace f1 : (wr.drewN nq).cell? ⟨w.heap.size, 1, none⟩ = some (.int .i64 num) := f1
                        replace f2 : (wr.drewN nq).cell? ⟨w.heap.size, 2, none⟩ = some (.string data) := f2
                        replace f3 : (wr.drewN nq).cell? ⟨w.heap.size, 3, none⟩ = some (.bool last) := f3
                        clear hown hbe hbz
                        generalize wr.drewN nq = wq at *
                        go_wp2_with (at_builtin; refine wpList_append_own _ rfl _ _ 23 rfl (w.heap.size + 1) 30 i0 (.agg #[.string .empty, .int .i64 0, .string .empty, .bool false]) 4 48 Try.underlying23 hi hz0 hz1 hz2 rfl (by decide) _ _ _ rfl (hownq.alloc _) ⟨wq.heap.size, 0, none⟩ 1 1 [.string id, .int .i64 num, .string data, .bool last] rfl rfl (cell_four_new _ _ _ _ _ _) (by simp [Value.oneCell']) (by simp only [maxLen]; omega) (by omega) (by simp; omega) ?_; intro v8 w8 hown8 hgrow8 _; refine veiled ?_)
                        refine ⟨?_⟩
                        have hb8q : Below (w.heap.size + 1) wq w8 := ((Below.refl _ wq).alloc (by omega) _).grown hgrow8 (by simp; omega) (fun j hj => own_ge hownq hj)
                        have hb8 : Below (w.heap.size + 1) w7 w8 := hbq.trans hb8q
                        have hb8z := hb8.size
                        replace c0 := (hb8q.cell (p := ⟨b, off + k * 4, none⟩) hbw).trans c0
                        replace c1 := (hb8q.cell (p := ⟨b, off + k * 4 + 1, none⟩) hbw).trans c1
                        replace c2 := (hb8q.cell (p := ⟨b, off + k * 4 + 2, none⟩) hbw).trans c2
                        replace c3 := (hb8q.cell (p := ⟨b, off + k * 4 + 3, none⟩) hbw).trans c3
                        obtain ⟨A8, c8, rfl⟩ := own_slice4 hown8
                        clear hgrow8 hownq hbq f0 f1 f2 f3 hb8q hbqz
                        go_wp2_with (at_builtin; refine wpList_append_own _ rfl _ _ 23 rfl (w.heap.size + 1) 30 i0 (.agg #[.string .empty, .int .i64 0, .string .empty, .bool false]) 4 48 Try.underlying23 hi hz0 hz1 hz2 rfl (by decide) _ _ _ rfl (hown8.alloc _) ⟨w8.heap.size, 0, none⟩ 1 1 [.string gid, .int .i64 gnum, .string gdata, .bool glast] rfl rfl (cell_four_new _ _ _ _ _ _) (by simp [Value.oneCell']) (by simp only [maxLen]; omega) (by omega) (by simp; omega) ?_; intro v9 w9 hown9 hgrow9 _; refine veiled ?_)
                        refine ⟨?_⟩
                        have hb9 : Below (w.heap.size + 1) w7 w9 := (hb8.alloc (by omega) _).grown hgrow9 (by simp; omega) (fun j hj => own_ge hown8 hj)
                        have hV : framesV (outL xs f P (k + 1)) = framesV (outL xs f P k) ++ [.string id, .int .i64 num, .string data, .bool last] ++ [.string gid, .int .i64 gnum, .string gdata, .bool glast] := by rw [← HKP.out, HEQ.out, framesV_snoc, framesV_snoc, HGC.out, HCE.out]
                        have hLn : (outL xs f P (k + 1)).length = (outL xs f P k).length + 1 + 1 := by rw [← HKP.out, HEQ.out]; simp
                        rw [← hV, ← hLn] at hown9
                        have HO9 := Lib.hid hown9
                        obtain ⟨B8, d8, rfl⟩ := own_slice4 hown9
                        clear hgrow9 hown8 hV hLn hown9 hb8
                        go_wp2
                        exact ⟨⟨k + 1, by simp, by omega, HPUT.out, HO9.out, hb9⟩, by simp [intOf]; omega⟩
                  · obtain rfl : k = n := by omega
                    have e1 : decide ((k : Int) < (k : Int)) = false := by simp
                    have e2 : decide (k < k) = false := by simp
                    have hend := outL_end (xs := xs) (f := f) (p := P)
                    rw [HL.out] at hend
                    have HEND := Lib.hid hend
                    clear hend hkn
                    obtain ⟨A9, k9, rfl⟩ := own_slice4 hown
                    by_cases hPk : P < k
                    · have dP : decide (P < k) = true := decide_eq_true hPk
                      have hfin : outL xs f P k = addL xs f := by have := HEND.out; rw [if_pos hPk] at this; rw [this, HL0.out]
                      rw [hfin] at hown
                      have HO := Lib.hid hown
                      have hcap := own_cap hown
                      have hrd := Reads.of_own hown
                      clear hown hPk HEND
                      rw [hfin]
                      go_wp2_with fail
                      go_ret2
                      exact ⟨A9, _, k9, by rw [HE0.out]; rfl, fun h => absurd HE0.out h, rfl, fun _ => hcap, hrd, C5.below.trans (hbe.mono (by omega))⟩
                    · have dP : decide (P < k) = false := decide_eq_false hPk
                      have hfin : outL xs f P k ++ [f] = addL xs f := by have := HEND.out; rw [if_neg hPk] at this; rw [this, HL0.out]
                      have HFIN := Lib.hid hfin
                      clear hPk HEND hfin
                      go_wp2_with (at_builtin; refine wpList_append_own _ rfl _ _ 23 rfl (w.heap.size + 1) 30 i0 (.agg #[.string .empty, .int .i64 0, .string .empty, .bool false]) 4 48 Try.underlying23 hi hz0 hz1 hz2 rfl (by decide) _ _ _ rfl (hown.alloc _) ⟨wr.heap.size, 0, none⟩ 1 1 [.string id, .int .i64 num, .string data, .bool last] rfl rfl (cell_four_new _ _ _ _ _ _) (by simp [Value.oneCell']) (by simp only [maxLen]; omega) (by omega) (by simp; omega) ?_; intro v8 w8 hown8 hgrow8 _; refine veiled ?_)
                      refine ⟨?_⟩
                      have hb8 : Below (w.heap.size + 1) w7 w8 := (hbe.alloc (by omega) _).grown hgrow8 (by simp; omega) (fun j hj => own_ge hown hj)
                      have hV : framesV (addL xs f) = framesV (outL xs f P k) ++ [.string id, .int .i64 num, .string data, .bool last] := by rw [← HFIN.out, framesV_snoc, HCE.out]
                      have hLn : (addL xs f).length = (outL xs f P k).length + 1 := by rw [← HFIN.out]; simp
                      rw [← hV, ← hLn] at hown8
                      obtain ⟨A8, c8, rfl⟩ := own_slice4 hown8
                      have hcap := own_cap hown8
                      have hrd := Reads.of_own hown8
                      clear hown8 hgrow8 hV hLn hown hbe
                      go_wp2_with fail
                      go_ret2
                      exact ⟨A8, _, c8, by rw [HE0.out]; rfl, fun h => absurd HE0.out h, rfl, fun _ => hcap, hrd, C5.below.trans (hb8.mono (by omega))⟩
  · have d0 : (e0 != 0) = true := by simpa using h0
    have d1 : (e0 == 0) = false := by simpa using h0
    have hE : addE xs f = e0 := by unfold addE; rw [HC0.out, if_pos h0]
    have HE := Lib.hid hE; have H0 := Lib.hid h0
    clear h0 hE
    go_wp2_with fail
    go_ret2
    exact hbad _ _ HE.out H0.out C1.below
end Go.Proofs.Ytdkijdedfpfbnaa
