/- Frames that were heard: both. -/
import Derived.Test.YtdkijdedfpfbnaaFrmM
import Derived.Test.YtdkijdedfpfbnaaChaA
namespace Go.Proofs.Ytdkijdedfpfbnaa
open Go.RowKit Go.Shelf

def okAt (xs : List Frm) (i : Nat) : Bool :=
  decide (checkF (xs.getD i Frm.none_) = 0) && (decide ((xs.getD i Frm.none_).id = (xs.getD 0 Frm.none_).id) && (decide (i = 0) || (!(xs.getD (i - 1) Frm.none_).last && decide ((xs.getD (i - 1) Frm.none_).num < (xs.getD i Frm.none_).num))))
/-- were they heard? -/
def heardF (xs : List Frm) : Bool := (List.range xs.length).all (okAt xs)
theorem heard_no {xs : List Frm} {k : Nat} (hk : k < xs.length) (h : okAt xs k = false) : heardF xs = false := by
  unfold heardF
  rw [Bool.eq_false_iff]
  intro ha
  have := List.all_eq_true.1 ha k (List.mem_range.2 hk)
  rw [h] at this
  cases this
theorem heard_yes {xs : List Frm} (h : ∀ k, k < xs.length → okAt xs k = true) : heardF xs = true := by
  unfold heardF
  rw [List.all_eq_true]
  exact fun k hk => h k (List.mem_range.1 hk)
theorem heard_at {xs : List Frm} (h : heardF xs = true) {k : Nat} (hk : k < xs.length) : okAt xs k = true := List.all_eq_true.1 h k (List.mem_range.2 hk)

theorem str_beq (a b : ByteArray) : (a.toList == b.toList) = decide (a = b) := by
  by_cases h : a = b
  · subst h; simp
  · rw [decide_eq_false h, beq_eq_false_iff_ne]
    intro e
    exact h (ba_ext (by rw [← Lib.toList_data, ← Lib.toList_data, e]))

set_option maxRecDepth 100000 in
set_option maxHeartbeats 4000000 in
theorem heard_any (B : Nat) (A : Option Addr) (n c : Nat) (xs : List Frm) (w : World) (hB : B ≤ w.heap.size) (h : Reads w B 4 A n (framesV xs)) (hn : n ≤ 281474976710656) :
    Calls Try.prog 22 #[.slice A n c] w fun e w' => e = .returned (.bool (heardF xs)) ∧ w.grownBy w' none := by
  have hl : xs.length = n := by have := h.1; rw [framesV_len] at this; omega
  obtain ⟨R, hR⟩ : ∃ b, heardF xs = b := ⟨_, rfl⟩
  rw [hR]
  have HL := Lib.hid hl; have HR := Lib.hid hR; clear hl hR
  go_enter Try.func22, Try.ntmps22
  go_wp2_with fail
  go_loopw [7] (fun i wr => ∃ k : Nat, i = .int .i64 (k : Int) ∧ k ≤ n ∧ Hid (∀ j, j < k → okAt xs j = true) ∧ w.grownBy wr none) (fun i _ => n - (intOf i).toNat)
  case atStart => exact ⟨0, rfl, by omega, Lib.hid (fun j hj => absurd hj (by omega)), World.grownBy.refl _ _⟩
  case round =>
    obtain ⟨k, rfl, hk, ha, hG⟩ := hrel
    have hsz := hG.size
    by_cases hlt : k < n
    · obtain ⟨b, off, rfl, hbb, hc⟩ := (h.grown hG hB (by simp)).frames hlt
      obtain ⟨c0, c1, c2, c3⟩ := hc k hlt
      obtain ⟨z0, _, _, _⟩ := hc 0 (by omega)
      obtain ⟨_, p1, _, p3⟩ := hc (k - 1) (by omega)
      rw [Nat.zero_mul, Nat.add_zero] at z0
      have hok : okAt xs k = (decide (checkF (xs.getD k Frm.none_) = 0) && (decide ((xs.getD k Frm.none_).id = (xs.getD 0 Frm.none_).id) && (decide (k = 0) || (!(xs.getD (k - 1) Frm.none_).last && decide ((xs.getD (k - 1) Frm.none_).num < (xs.getD k Frm.none_).num))))) := rfl
      have hno : okAt xs k = false → R = false := fun h0 => by rw [← HR.out]; exact heard_no (by rw [HL.out]; exact hlt) h0
      have hyes : okAt xs k = true → ∀ j, j < k + 1 → okAt xs j = true := fun h0 j hj => by
        by_cases e : j = k
        · rw [e]; exact h0
        · exact ha.out j (by omega)
      rw [hok] at hno hyes
      clear hc hok
      generalize xs.getD k Frm.none_ = f at *
      generalize (xs.getD 0 Frm.none_).id = z at *
      generalize xs.getD (k - 1) Frm.none_ = p at *
      have hck := fun W => check_any f W
      obtain ⟨e0, he0⟩ : ∃ e, checkF f = e := ⟨_, rfl⟩
      rw [he0] at hck hno hyes
      have HNO := Lib.hid hno; have HYES := Lib.hid hyes
      obtain ⟨id, num, data, last⟩ := f
      obtain ⟨pid, pnum, pdata, plast⟩ := p
      have hzb : b < wr.heap.size := by omega
      clear hno hyes ha he0
      go_wp2_with fail
      have bk := Blk.new wr 30 #[.string id, .int .i64 num, .string data, .bool last]
      have hG1 : w.grownBy (wr.alloc (.cells #[.string id, .int .i64 num, .string data, .bool last] 30)) none := only_alloc hG _
      have hbw : Below wr.heap.size wr (wr.alloc (.cells #[.string id, .int .i64 num, .string data, .bool last] 30)) := (Below.refl _ _).alloc (Nat.le_refl _) _
      replace z0 := (hbw.cell (p := ⟨b, off, none⟩) hzb).trans z0
      replace p1 := (hbw.cell (p := ⟨b, off + (k - 1) * 4 + 1, none⟩) hzb).trans p1
      replace p3 := (hbw.cell (p := ⟨b, off + (k - 1) * 4 + 3, none⟩) hzb).trans p3
      have hz1 : (wr.alloc (.cells #[.string id, .int .i64 num, .string data, .bool last] 30)).heap.size = wr.heap.size + 1 := by simp
      generalize wr.heap.size = g at *
      generalize wr.alloc (.cells #[.string id, .int .i64 num, .string data, .bool last] 30) = w1 at *
      have hzb1 : b < w1.heap.size := by omega
      clear hG hbw c0 c1 c2 c3 hz1
      have hC0 : (fun W => Below w1.heap.size w1 W) w1.drew := ⟨rfl, rfl, rfl, Nat.le_refl _, fun _ _ => rfl⟩
      refine wp_region_class (fun W => Below w1.heap.size w1 W) (by kernel_rfl) (by kernel_rfl) hC0 ?_
      have hcc := class_const hC0
      have hrow : ∀ W, Below w1.heap.size w1 W → Blk W g 30 #[.string id, .int .i64 num, .string data, .bool last] := fun W hW => bk.below hW bk.lt
      have hr0 : ∀ W, Below w1.heap.size w1 W → W.cell? ⟨g, 0, none⟩ = some (.string id) := fun W hW => (hrow W hW).cell 0
      have hr1 : ∀ W, Below w1.heap.size w1 W → W.cell? ⟨g, 1, none⟩ = some (.int .i64 num) := fun W hW => (hrow W hW).cell 1
      have hq0 : ∀ W, Below w1.heap.size w1 W → W.cell? ⟨b, off, none⟩ = some (.string z) := fun W hW => (hW.cell (p := ⟨b, off, none⟩) hzb1).trans z0
      have hq1 : ∀ W, Below w1.heap.size w1 W → W.cell? ⟨b, off + (k - 1) * 4 + 1, none⟩ = some (.int .i64 pnum) := fun W hW => (hW.cell (p := ⟨b, off + (k - 1) * 4 + 1, none⟩) hzb1).trans p1
      have hq3 : ∀ W, Below w1.heap.size w1 W → W.cell? ⟨b, off + (k - 1) * 4 + 3, none⟩ = some (.bool plast) := fun W hW => (hW.cell (p := ⟨b, off + (k - 1) * 4 + 3, none⟩) hzb1).trans p3
      (try simp only [Act.put])
      refine wpQuiet_loadrow #[.string id, .int .i64 num, .string data, .bool last] 30 _ g _ rfl rfl rfl Try.underlying30 rfl (by kernel_rfl) hrow ?_
      simp only [Act.put, List.setIfInBounds_toArray, List.set_cons_zero, List.set_cons_succ]
      refine wpQuiet_enter rfl (.int .i64 e0) 20 #[.agg #[.string id, .int .i64 num, .string data, .bool last]] (fun W hW => exec_call1 _ (.tmp 12) _ rfl _ rfl (enters_of Try.func20 (by kernel_rfl) rfl _ W)) (fun W hW => (hck W).mono fun e w' ⟨he, hg⟩ => ⟨he, Below.then_grown hW hg⟩) ?_
      simp only [Act.put, List.setIfInBounds_toArray, List.set_cons_zero, List.set_cons_succ]
      by_cases h0 : e0 = 0
      · have d0 : (e0 != 0) = false := by simpa using h0
        by_cases hz : id = z
        · have dz : (id.toList == z.toList) = true := by rw [hz]; simp
          by_cases hk0 : k = 0
          · have dk : decide ((0 : Int) < (k : Int)) = false := by simp; omega
            have dk2 : decide (0 < k) = false := by simp; omega
            have HK0 := Lib.hid hk0
            clear hk0
            (repeat (first | go_big_quiet_step (fail) | (refine wpQuiet_load (.string id) 9 _ ⟨g, 0, none⟩ _ rfl rfl rfl Try.underlying9 rfl hr0 ?_; simp only [Act.put, List.setIfInBounds_toArray, List.set_cons_zero, List.set_cons_succ]) | (refine wpQuiet_load (.string z) 9 _ ⟨b, off, none⟩ _ rfl rfl rfl Try.underlying9 rfl hq0 ?_; simp only [Act.put, List.setIfInBounds_toArray, List.set_cons_zero, List.set_cons_succ])))
            refine wpQuiet_nil ?_
            intro w2 hw2
            have hY := HYES.out (by simp [h0, hz, HK0.out])
            have HY := Lib.hid hY
            have hG2 := only_weak (grown_self hG1 (grown_of_below hw2) (by simp)) none
            clear hcc hC0 hw2 HNO HYES hY
            go_wp2_with fail
            exact ⟨⟨k + 1, by simp, by omega, HY, hG2⟩, by simp [intOf]; omega⟩
          · have dk : decide ((0 : Int) < (k : Int)) = true := by simp; omega
            have dk2 : decide (0 < k) = true := by simp; omega
            have dk3 : (0 : Int) < (k : Int) := by omega
            have e9 : IntKind.i64.wrap ((k : Int) - 1) = (k : Int) - 1 := IntWalk.i64_in _ (by omega)
            have e8 : ((k : Int) - 1).toNat = k - 1 := by omega
            have e7 : (0 : Int) ≤ (k : Int) - 1 := by omega
            have e7' : (1 : Int) ≤ (k : Int) := by omega
            have e6 : (k : Int) - 1 < (n : Int) := by omega
            cases plast
            · by_cases hn : pnum < num
              · have dn : decide (num ≤ pnum) = false := by simp; omega
                (repeat (first | go_big_quiet_step (fail) | (refine wpQuiet_load (.string id) 9 _ ⟨g, 0, none⟩ _ rfl rfl rfl Try.underlying9 rfl hr0 ?_; simp only [Act.put, List.setIfInBounds_toArray, List.set_cons_zero, List.set_cons_succ]) | (refine wpQuiet_load (.string z) 9 _ ⟨b, off, none⟩ _ rfl rfl rfl Try.underlying9 rfl hq0 ?_; simp only [Act.put, List.setIfInBounds_toArray, List.set_cons_zero, List.set_cons_succ]) | (refine wpQuiet_load _ 4 _ ⟨b, off + (k - 1) * 4 + 3, none⟩ _ rfl rfl rfl Try.underlying4 rfl hq3 ?_; simp only [Act.put, List.setIfInBounds_toArray, List.set_cons_zero, List.set_cons_succ]) | (refine wpQuiet_load (.int .i64 pnum) 3 _ ⟨b, off + (k - 1) * 4 + 1, none⟩ _ rfl rfl rfl Try.underlying3 rfl hq1 ?_; simp only [Act.put, List.setIfInBounds_toArray, List.set_cons_zero, List.set_cons_succ]) | (refine wpQuiet_load (.int .i64 num) 3 _ ⟨g, 1, none⟩ _ rfl rfl rfl Try.underlying3 rfl hr1 ?_; simp only [Act.put, List.setIfInBounds_toArray, List.set_cons_zero, List.set_cons_succ])))
                refine wpQuiet_nil ?_
                intro w2 hw2
                clear e9 e8 e7 e6
                have hY := HYES.out (by simp [h0, hz, hk0, hn])
                have HY := Lib.hid hY
                have hG2 := only_weak (grown_self hG1 (grown_of_below hw2) (by simp)) none
                clear hcc hC0 hw2 HNO HYES hY
                go_wp2_with fail
                exact ⟨⟨k + 1, by simp, by omega, HY, hG2⟩, by simp [intOf]; omega⟩
              · have dn : decide (num ≤ pnum) = true := by simp; omega
                (repeat (first | go_big_quiet_step (fail) | (refine wpQuiet_load (.string id) 9 _ ⟨g, 0, none⟩ _ rfl rfl rfl Try.underlying9 rfl hr0 ?_; simp only [Act.put, List.setIfInBounds_toArray, List.set_cons_zero, List.set_cons_succ]) | (refine wpQuiet_load (.string z) 9 _ ⟨b, off, none⟩ _ rfl rfl rfl Try.underlying9 rfl hq0 ?_; simp only [Act.put, List.setIfInBounds_toArray, List.set_cons_zero, List.set_cons_succ]) | (refine wpQuiet_load _ 4 _ ⟨b, off + (k - 1) * 4 + 3, none⟩ _ rfl rfl rfl Try.underlying4 rfl hq3 ?_; simp only [Act.put, List.setIfInBounds_toArray, List.set_cons_zero, List.set_cons_succ]) | (refine wpQuiet_load (.int .i64 pnum) 3 _ ⟨b, off + (k - 1) * 4 + 1, none⟩ _ rfl rfl rfl Try.underlying3 rfl hq1 ?_; simp only [Act.put, List.setIfInBounds_toArray, List.set_cons_zero, List.set_cons_succ]) | (refine wpQuiet_load (.int .i64 num) 3 _ ⟨g, 1, none⟩ _ rfl rfl rfl Try.underlying3 rfl hr1 ?_; simp only [Act.put, List.setIfInBounds_toArray, List.set_cons_zero, List.set_cons_succ])))
                refine wpQuiet_nil ?_
                intro w2 hw2
                clear e9 e8 e7 e6
                have hRf := HNO.out (by simp [hk0, hn])
                subst hRf
                have hG2 := only_weak (grown_self hG1 (grown_of_below hw2) (by simp)) none
                clear hcc hC0 hw2 HNO HYES
                go_wp2_with fail
                go_ret
                exact ⟨rfl, hG2⟩
            · (repeat (first | go_big_quiet_step (fail) | (refine wpQuiet_load (.string id) 9 _ ⟨g, 0, none⟩ _ rfl rfl rfl Try.underlying9 rfl hr0 ?_; simp only [Act.put, List.setIfInBounds_toArray, List.set_cons_zero, List.set_cons_succ]) | (refine wpQuiet_load (.string z) 9 _ ⟨b, off, none⟩ _ rfl rfl rfl Try.underlying9 rfl hq0 ?_; simp only [Act.put, List.setIfInBounds_toArray, List.set_cons_zero, List.set_cons_succ]) | (refine wpQuiet_load _ 4 _ ⟨b, off + (k - 1) * 4 + 3, none⟩ _ rfl rfl rfl Try.underlying4 rfl hq3 ?_; simp only [Act.put, List.setIfInBounds_toArray, List.set_cons_zero, List.set_cons_succ])))
              refine wpQuiet_nil ?_
              intro w2 hw2
              clear e9 e8 e7 e6
              have hRf := HNO.out (by simp [hk0])
              subst hRf
              have hG2 := only_weak (grown_self hG1 (grown_of_below hw2) (by simp)) none
              clear hcc hC0 hw2 HNO HYES
              go_wp2_with fail
              go_ret
              exact ⟨rfl, hG2⟩
        · have dz : (id.toList == z.toList) = false := by rw [str_beq]; simp [hz]
          (repeat (first | go_big_quiet_step (fail) | (refine wpQuiet_load (.string id) 9 _ ⟨g, 0, none⟩ _ rfl rfl rfl Try.underlying9 rfl hr0 ?_; simp only [Act.put, List.setIfInBounds_toArray, List.set_cons_zero, List.set_cons_succ]) | (refine wpQuiet_load (.string z) 9 _ ⟨b, off, none⟩ _ rfl rfl rfl Try.underlying9 rfl hq0 ?_; simp only [Act.put, List.setIfInBounds_toArray, List.set_cons_zero, List.set_cons_succ])))
          refine wpQuiet_nil ?_
          intro w2 hw2
          have hRf := HNO.out (by simp [hz])
          subst hRf
          have hG2 := only_weak (grown_self hG1 (grown_of_below hw2) (by simp)) none
          clear hcc hC0 hw2 HNO HYES
          go_wp2_with fail
          go_ret
          exact ⟨rfl, hG2⟩
      · have d0 : (e0 != 0) = true := by simpa using h0
        (repeat (first | go_big_quiet_step (fail)))
        refine wpQuiet_nil ?_
        intro w2 hw2
        have hRf := HNO.out (by simp [h0])
        subst hRf
        have hG2 := only_weak (grown_self hG1 (grown_of_below hw2) (by simp)) none
        clear hcc hC0 hw2 HNO HYES
        go_wp2_with fail
        go_ret
        exact ⟨rfl, hG2⟩
    · have hRt : R = true := by rw [← HR.out]; exact heard_yes fun j hj => ha.out j (by have := HL.out; omega)
      have hk1 : decide ((k : Int) < (n : Int)) = false := by simp; omega
      have hk2 : decide (k < n) = false := by simp; omega
      subst hRt
      clear ha hlt
      go_wp2_with fail
      go_ret
      exact ⟨rfl, hG⟩
end Go.Proofs.Ytdkijdedfpfbnaa
