/- Frames that were heard: the document's; are all there: both. -/
import Derived.Test.YtdkijdedfpfbnaaChaB
namespace Go.Proofs.Ytdkijdedfpfbnaa
open Go.RowKit Go.Shelf

/-- are all there, of frames that were heard? -/
def wholeF (xs : List Frm) : Bool := decide (0 < xs.length) && ((xs.getD (xs.length - 1) Frm.none_).last && decide ((xs.getD (xs.length - 1) Frm.none_).num = (xs.length : Int) - 1))

set_option maxRecDepth 100000 in
set_option maxHeartbeats 1000000 in
theorem whole_any (B : Nat) (A : Option Addr) (n c : Nat) (xs : List Frm) (w : World) (h : Reads w B 4 A n (framesV xs)) (hn : n ≤ 281474976710656) :
    Calls Try.prog 30 #[.slice A n c] w fun e w' => e = .returned (.bool (wholeF xs)) ∧ w = w' := by
  have hl : xs.length = n := by have := h.1; rw [framesV_len] at this; omega
  have hw : wholeF xs = (decide (0 < n) && ((xs.getD (n - 1) Frm.none_).last && decide ((xs.getD (n - 1) Frm.none_).num = (n : Int) - 1))) := by unfold wholeF; rw [hl]
  rw [hw]
  go_enter Try.func30, Try.ntmps30
  by_cases h0 : n = 0
  · subst h0
    go_wp2_with fail
    go_ret
    exact ⟨by simp, rfl⟩
  · obtain ⟨b, off, rfl, hbb, hc⟩ := h.frames (k := n - 1) (by omega)
    obtain ⟨_, c1, _, c3⟩ := hc (n - 1) (by omega)
    generalize xs.getD (n - 1) Frm.none_ = f at *
    have e9 : IntKind.i64.wrap ((n : Int) - 1) = (n : Int) - 1 := IntWalk.i64_in _ (by omega)
    have e8 : ((n : Int) - 1).toNat = n - 1 := by omega
    have e7 : (0 : Int) ≤ (n : Int) - 1 := by omega
    have e7' : (1 : Int) ≤ (n : Int) := by omega
    have e6 : (n : Int) - 1 < (n : Int) := by omega
    have d0 : decide ((0 : Int) < (n : Int)) = true := by simp; omega
    have d0' : decide (0 < n) = true := by simp; omega
    obtain ⟨id, num, data, last⟩ := f
    have H0 := Lib.hid h0
    clear hc h0 hw hl h
    cases last
    · go_wp2_with fail
      go_ret
      exact ⟨by simp, rfl⟩
    · go_wp2_with fail
      go_ret
      refine ⟨?_, rfl⟩
      first | rfl | (rw [d0']; rfl)

set_option maxRecDepth 100000 in
set_option maxHeartbeats 4000000 in
theorem heardR_any (B : Nat) (A : Option Addr) (n c : Nat) (xs : List Frm) (w : World) (hB : B ≤ w.heap.size) (h : Reads w B 4 A n (framesV xs)) (hn : n ≤ 281474976710656) :
    Calls Try.prog 29 #[.slice A n c] w fun e w' => e = .returned (.bool (heardF xs)) ∧ w.grownBy w' none := by
  have hl : xs.length = n := by have := h.1; rw [framesV_len] at this; omega
  obtain ⟨R, hR⟩ : ∃ b, heardF xs = b := ⟨_, rfl⟩
  rw [hR]
  have HL := Lib.hid hl; have HR := Lib.hid hR; clear hl hR
  go_enter Try.func29, Try.ntmps29
  go_wp2_with fail
  go_loopw [3] (fun i wr => ∃ k : Nat, i = .int .i64 (k : Int) ∧ k ≤ n ∧ Hid (∀ j, j < k → okAt xs j = true) ∧ w.grownBy wr none) (fun i _ => n - (intOf i).toNat)
  case atStart => exact ⟨0, rfl, by omega, Lib.hid (fun j hj => absurd hj (by omega)), World.grownBy.refl _ _⟩
  case round =>
    obtain ⟨k, rfl, hk, ha, hG⟩ := hrel
    have hsz := hG.size
    by_cases hlt : k < n
    · obtain ⟨b, off, rfl, hbb, hc⟩ := (h.grown hG hB (by simp)).frames hlt
      obtain ⟨c0, c1, c2, c3⟩ := hc k hlt
      obtain ⟨z0, _, _, _⟩ := hc 0 (by omega)
      obtain ⟨_, p1, _, p3⟩ := hc (k - 1) (by omega)
      rw [Nat.zero_mul, Nat.add_zero] at z0
      have hok : okAt xs k = (decide (checkF (xs.getD k Frm.none_) = 0) && (decide ((xs.getD k Frm.none_).id = (xs.getD 0 Frm.none_).id) && (decide (k = 0) || (!(xs.getD (k - 1) Frm.none_).last && decide ((xs.getD (k - 1) Frm.none_).num < (xs.getD k Frm.none_).num))))) := rfl
      have hno : okAt xs k = false → R = false := fun h0 => by rw [← HR.out]; exact heard_no (by rw [HL.out]; exact hlt) h0
      have hyes : okAt xs k = true → ∀ j, j < k + 1 → okAt xs j = true := fun h0 j hj => by
        by_cases e : j = k
        · rw [e]; exact h0
        · exact ha.out j (by omega)
      rw [hok] at hno hyes
      clear hc hok
      generalize xs.getD k Frm.none_ = f at *
      generalize (xs.getD 0 Frm.none_).id = z at *
      generalize xs.getD (k - 1) Frm.none_ = p at *
      have hck := fun W => checkR_any f W
      obtain ⟨e0, he0⟩ : ∃ e, checkF f = e := ⟨_, rfl⟩
      rw [he0] at hck hno hyes
      have HNO := Lib.hid hno; have HYES := Lib.hid hyes
      obtain ⟨id, num, data, last⟩ := f
      obtain ⟨pid, pnum, pdata, plast⟩ := p
      have hzb : b < wr.heap.size := by omega
      have q0 : (k : Int) < (n : Int) := by omega
      have q1 : (0 : Int) < (n : Int) := by omega
      clear hno hyes ha he0
      go_wp2_with fail
      have hC0 : (fun W => Below wr.heap.size wr W) wr.drew := ⟨rfl, rfl, rfl, Nat.le_refl _, fun _ _ => rfl⟩
      refine wp_region_class (fun W => Below wr.heap.size wr W) (by kernel_rfl) (by kernel_rfl) hC0 ?_
      have hcc := class_const hC0
      have hr0 : ∀ W, Below wr.heap.size wr W → W.cell? ⟨b, off + k * 4, none⟩ = some (.string id) := fun W hW => (hW.cell (p := ⟨b, off + k * 4, none⟩) hzb).trans c0
      have hr1 : ∀ W, Below wr.heap.size wr W → W.cell? ⟨b, off + k * 4 + 1, none⟩ = some (.int .i64 num) := fun W hW => (hW.cell (p := ⟨b, off + k * 4 + 1, none⟩) hzb).trans c1
      have hr2 : ∀ W, Below wr.heap.size wr W → W.cell? ⟨b, off + k * 4 + 2, none⟩ = some (.string data) := fun W hW => (hW.cell (p := ⟨b, off + k * 4 + 2, none⟩) hzb).trans c2
      have hr3 : ∀ W, Below wr.heap.size wr W → W.cell? ⟨b, off + k * 4 + 3, none⟩ = some (.bool last) := fun W hW => (hW.cell (p := ⟨b, off + k * 4 + 3, none⟩) hzb).trans c3
      have hq0 : ∀ W, Below wr.heap.size wr W → W.cell? ⟨b, off, none⟩ = some (.string z) := fun W hW => (hW.cell (p := ⟨b, off, none⟩) hzb).trans z0
      (try simp only [Act.put])
      (repeat go_big_quiet_step (fail))
      refine wpQuiet_value rfl (.agg #[.string id, .int .i64 num, .string data, .bool last]) (fun W hW => exec_load4 _ rfl rfl (hr0 W hW) (hr1 W hW) (hr2 W hW) (hr3 W hW)) ?_
      simp only [Act.put, List.setIfInBounds_toArray, List.set_cons_zero, List.set_cons_succ]
      refine wpQuiet_enter rfl (.int .i64 e0) 28 #[.agg #[.string id, .int .i64 num, .string data, .bool last]] (fun W hW => exec_call1 _ (.tmp 13) _ rfl _ rfl (enters_of Try.func28 (by kernel_rfl) rfl _ W)) (fun W hW => (hck W).mono fun e w' ⟨he, hg⟩ => ⟨he, Below.then_grown hW hg⟩) ?_
      simp only [Act.put, List.setIfInBounds_toArray, List.set_cons_zero, List.set_cons_succ]
      by_cases h0 : e0 = 0
      · have d0 : (e0 != 0) = false := by simpa using h0
        by_cases hz : id = z
        · have dz : (id.toList == z.toList) = true := by rw [hz]; simp
          (repeat (first | go_big_quiet_step (fail) | (refine wpQuiet_load _ 9 _ ⟨b, off + k * 4, none⟩ _ rfl rfl rfl Try.underlying9 rfl hr0 ?_; simp only [Act.put, List.setIfInBounds_toArray, List.set_cons_zero, List.set_cons_succ]) | (refine wpQuiet_load _ 9 _ ⟨b, off, none⟩ _ rfl rfl rfl Try.underlying9 rfl hq0 ?_; simp only [Act.put, List.setIfInBounds_toArray, List.set_cons_zero, List.set_cons_succ])))
          refine wpQuiet_nil ?_
          intro w2 hw2
          have hG2 := only_weak (grown_self hG (grown_of_below hw2) (by simp)) none
          have c1 := (hw2.cell (p := ⟨b, off + k * 4 + 1, none⟩) hzb).trans c1
          have p1 := (hw2.cell (p := ⟨b, off + (k - 1) * 4 + 1, none⟩) hzb).trans p1
          have p3 := (hw2.cell (p := ⟨b, off + (k - 1) * 4 + 3, none⟩) hzb).trans p3
          clear hcc hC0 hw2 hr0 hr1 hr2 hr3 hq0 c0 c2 c3 z0
          by_cases hk0 : k = 0
          · have dk : decide ((0 : Int) < (k : Int)) = false := by simp; omega
            have dk2 : decide (0 < k) = false := by simp; omega
            have HK0 := Lib.hid hk0
            clear hk0
            have hY := HYES.out (by simp [h0, hz, HK0.out])
            have HY := Lib.hid hY
            clear HNO HYES hY
            go_wp2_with fail
            go_quiet (fail)
            go_wp2
            exact ⟨⟨k + 1, by simp, by omega, HY, only_drewN hG2 _⟩, by simp [intOf]; omega⟩
          · have dk : decide ((0 : Int) < (k : Int)) = true := by simp; omega
            have dk2 : decide (0 < k) = true := by simp; omega
            have dk3 : (0 : Int) < (k : Int) := by omega
            have e9 : IntKind.i64.wrap ((k : Int) - 1) = (k : Int) - 1 := IntWalk.i64_in _ (by omega)
            have e8 : ((k : Int) - 1).toNat = k - 1 := by omega
            have e7 : (0 : Int) ≤ (k : Int) - 1 := by omega
            have e7' : (1 : Int) ≤ (k : Int) := by omega
            have e6 : (k : Int) - 1 < (n : Int) := by omega
            by_cases hn : pnum < num
            · have dn : decide (num ≤ pnum) = false := by simp; omega
              cases plast
              · have hY := HYES.out (by simp [h0, hz, hk0, hn])
                have HY := Lib.hid hY
                clear HNO HYES hY
                go_wp2_with fail
                go_quiet (fail)
                go_wp2
                exact ⟨⟨k + 1, by simp, by omega, HY, only_drewN hG2 _⟩, by simp [intOf]; omega⟩
              · have hRf := HNO.out (by simp [hk0])
                subst hRf
                clear HNO HYES
                go_wp2_with fail
                go_quiet (fail)
                go_wp2
                go_ret
                exact ⟨rfl, only_drewN hG2 _⟩
            · have dn : decide (num ≤ pnum) = true := by simp; omega
              have hRf := HNO.out (by simp [hk0, hn])
              subst hRf
              clear HNO HYES
              go_wp2_with fail
              go_quiet (fail)
              go_wp2
              go_ret
              exact ⟨rfl, only_drewN hG2 _⟩
        · have dz : (id.toList == z.toList) = false := by rw [str_beq]; simp [hz]
          (repeat (first | go_big_quiet_step (fail) | (refine wpQuiet_load _ 9 _ ⟨b, off + k * 4, none⟩ _ rfl rfl rfl Try.underlying9 rfl hr0 ?_; simp only [Act.put, List.setIfInBounds_toArray, List.set_cons_zero, List.set_cons_succ]) | (refine wpQuiet_load _ 9 _ ⟨b, off, none⟩ _ rfl rfl rfl Try.underlying9 rfl hq0 ?_; simp only [Act.put, List.setIfInBounds_toArray, List.set_cons_zero, List.set_cons_succ])))
          refine wpQuiet_nil ?_
          intro w2 hw2
          have hRf := HNO.out (by simp [hz])
          subst hRf
          have hG2 := only_weak (grown_self hG (grown_of_below hw2) (by simp)) none
          clear hcc hC0 HNO HYES
          go_wp2_with fail
          go_ret
          exact ⟨rfl, hG2⟩
      · have d0 : (e0 != 0) = true := by simpa using h0
        (repeat (first | go_big_quiet_step (fail)))
        refine wpQuiet_nil ?_
        intro w2 hw2
        have hRf := HNO.out (by simp [h0])
        subst hRf
        have hG2 := only_weak (grown_self hG (grown_of_below hw2) (by simp)) none
        clear hcc hC0 HNO HYES
        go_wp2_with fail
        go_ret
        exact ⟨rfl, hG2⟩
    · have hRt : R = true := by rw [← HR.out]; exact heard_yes fun j hj => ha.out j (by have := HL.out; omega)
      have hk1 : decide ((k : Int) < (n : Int)) = false := by simp; omega
      have hk2 : decide (k < n) = false := by simp; omega
      subst hRt
      clear ha hlt
      go_wp2_with fail
      go_ret
      exact ⟨rfl, hG⟩
end Go.Proofs.Ytdkijdedfpfbnaa
