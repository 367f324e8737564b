/- The document's Pad: what it answers. -/
import Derived.Test.YtihkbhogapopdaaKecN
namespace Go.Proofs.Ytihkbhogapopdaa
open Go.RowKit Go.Shelf

/-- bytes as values -/
def u8s (l : List UInt8) : List Value := l.map fun b => Value.int .u8 (b.toNat : Int)
theorem u8s_one (l : List UInt8) : ∀ u ∈ u8s l, u.oneCell' = true := by
  intro u hu
  obtain ⟨b, _, rfl⟩ := List.mem_map.1 hu
  rfl
/-- a byte's type, as the program knows it -/
theorem byte_info : ∃ i z, Try.prog.info? 5 = some i ∧ i.zero = some z ∧ i.size = 1 ∧ i.bytes = 1 ∧ z.cells.size = 1 := by
  have hs : (Try.prog.info? 5).isSome = true := by kernel_rfl
  obtain ⟨i, hi⟩ := Option.isSome_iff_exists.1 hs
  have hb : (Try.prog.info? 5).map (·.bytes) = some 1 := by kernel_rfl
  have hsz : (Try.prog.info? 5).map (·.size) = some 1 := by kernel_rfl
  have hz : (Try.prog.info? 5).bind (·.zero) = some (.int .u8 0) := by kernel_rfl
  rw [hi] at hb hsz hz
  simp only [Option.map_some, Option.some.injEq, Option.bind_some] at hb hsz hz
  exact ⟨i, _, hi, hz, hsz, hb, rfl⟩
theorem own_new1 (w : World) (b : UInt8) : (w.alloc (.cells #[.int .u8 (b.toNat : Int)] 5)).ownsRow w.heap.size 5 1 (.slice (some ⟨w.heap.size, 0, none⟩) 1 1) 1 (u8s [b]) :=
  ⟨rfl, .inr ⟨w.heap.size, 1, _, rfl, Nat.le_refl _, heap_alloc_new w _, Nat.le_refl _, by simp only [maxLen]; omega, rfl, rfl⟩⟩

theorem own_ge {w : World} {base : Nat} {e : TypeId} {size : Nat} {v : Value} {k : Nat} {xs : List Value} (h : w.ownsRow base e size v k xs) {g : Nat} (hg : v.ownBlock = some g) : base ≤ g := by
  rcases h.2 with ⟨rfl, _⟩ | ⟨g', cap, cur, rfl, hb, _⟩
  · cases hg
  · cases hg; exact hb
theorem own_cell {w : World} {base g cap n : Nat} {e : TypeId} {l : List UInt8} (h : w.ownsRow base e 1 (.slice (some ⟨g, 0, none⟩) n cap) n (u8s l)) (j : Nat) (hj : j < n) : w.cell? ⟨g, j, none⟩ = some (.int .u8 ((l.getD j 0).toNat : Int)) := by
  obtain ⟨hl, h⟩ := h
  rcases h with ⟨h, _⟩ | ⟨g', cap', cur, hv, hb, hg, hn, hc, hs, ht⟩
  · cases h
  · cases hv
    have hlen : l.length = n := by simpa [u8s] using hl
    rw [cell_of_row w g j cur e (0, 0) hg]
    have h2 : (cur.toList.take (n * 1))[j]? = (u8s l)[j]? := by rw [ht]
    rw [List.getElem?_take_of_lt (by omega)] at h2
    rw [← Array.getElem?_toList, h2]
    simp [u8s, List.getD_eq_getElem?_getD, List.getElem?_eq_getElem (show j < l.length by omega)]
theorem own_frozen {w : World} {base g cap n : Nat} {e : TypeId} {xs : List Value} (h : w.ownsRow base e 1 (.slice (some ⟨g, 0, none⟩) n cap) n xs) (j : Nat) : w.frozen? ⟨g, j, none⟩ = false := by
  rcases h.2 with ⟨h, _⟩ | ⟨g', cap', cur, hv, hb, hg, hn, hc, hs, ht⟩
  · cases h
  · cases hv; exact frozen_of_row w g j cur e hg

set_option maxRecDepth 100000 in
set_option maxHeartbeats 2000000 in
theorem padR_any (n : Nat) (hn : n ≤ 1099511627776) (w : World) :
    Calls Try.prog 13 #[.int .i64 (n : Int)] w fun e w' => e = .returned (.tuple #[.string ⟨(padL (136 - n % 136)).toArray⟩, .int .i64 0]) ∧ w.grownBy w' none := by
  obtain ⟨i0, z0, hi, hz0, hz1, hz2, hz3⟩ := byte_info
  obtain ⟨m, hm⟩ : ∃ m, 136 - n % 136 = m := ⟨_, rfl⟩
  have hm1 : 1 ≤ m := by omega
  have hm2 : m ≤ 136 := by omega
  rw [hm]
  have hnb : (decide ((n : Int) < 0) || decide (1099511627776 < (n : Int))) = false := by simp; omega
  go_enter Try.func13, Try.ntmps13
  have o1 := own_new1 w 1
  have g1 : w.grownBy (w.alloc (.cells #[.int .u8 1] 5)) none := only_alloc (World.grownBy.refl _ _) _
  go_wp2_with fail
  go_loopw [4] (fun v W => ∃ k : Nat, k + 1 ≤ m ∧ W.ownsRow w.heap.size 5 1 v (k + 1) (u8s (1 :: List.replicate k 0)) ∧ w.grownBy W none ∧ w.heap.size ≤ W.heap.size) (fun v _ => match v with | .slice _ n _ => 136 - n | _ => 0)
  case atStart => exact ⟨0, hm1, o1, g1, by simp⟩
  case round =>
    obtain ⟨k, hk, hown, hg, hsz⟩ := hrel
    obtain ⟨g, cap, rfl⟩ := ownsRow_succ hown
    have p1 : IntKind.i64.wrap ((n : Int) + ((k + 1 : Nat) : Int)) = (n : Int) + ((k + 1 : Nat) : Int) := IntWalk.i64_in _ (by omega)
    by_cases hlt : k + 1 < m
    · obtain ⟨q, hq⟩ : ∃ q, (n + (k + 1)) % 136 = q := ⟨_, rfl⟩
      have hq0 : 0 < q := by omega
      have p2 : ((n : Int) + ((k + 1 : Nat) : Int)).tmod 136 = (q : Int) := by rw [Int.tmod_eq_emod_of_nonneg (by omega)]; omega
      have p3 : decide ((q : Int) = 0) = false := by simp; omega
      have p4 : ((q : Int) == 0) = false := by simp; omega
      go_wp2_with (at_builtin; refine wpList_append_own _ rfl _ _ 43 rfl w.heap.size 5 i0 z0 1 1 Try.underlying43 hi hz0 hz1 hz2 hz3 (by decide) _ _ _ rfl (hown.alloc _) ⟨wr.heap.size, 0, none⟩ 1 1 [.int .u8 0] rfl rfl (cell_one_new _ _ _) (by simp [Value.oneCell']) (by simp only [maxLen]; omega) (by omega) (by simp; omega) ?_; intro v' w4 hown4 hgrow _)
      obtain ⟨g', cap', rfl⟩ := ownsRow_succ hown4
      have e1 : u8s (1 :: List.replicate (k + 1) 0) = u8s (1 :: List.replicate k 0) ++ [.int .u8 0] := by simp [u8s, List.replicate_succ']
      refine ⟨⟨k + 1, by omega, by rw [e1]; exact hown4, ?_, ?_⟩, by show 136 - (k + 1 + 1) < 136 - (k + 1); omega⟩
      · exact grown_self (only_alloc hg _) hgrow (fun j hj => .inr (own_ge hown hj))
      · have := hgrow.size; simp at this; omega
    · obtain rfl : k + 1 = m := by omega
      have p2 : ((n : Int) + ((k + 1 : Nat) : Int)).tmod 136 = 0 := by rw [Int.tmod_eq_emod_of_nonneg (by omega)]; omega
      have p3 : IntKind.i64.wrap (((k + 1 : Nat) : Int) - 1) = (k : Int) := by rw [IntWalk.i64_in _ (by omega)]; omega
      obtain ⟨L1, hL1⟩ : ∃ l : List UInt8, 1 :: List.replicate k 0 = l := ⟨_, rfl⟩
      have hl1 : L1.length = k + 1 := by rw [← hL1]; simp
      obtain ⟨v, hv⟩ : ∃ v, L1.getD k 0 = v := ⟨_, rfl⟩
      obtain ⟨r, hr⟩ : ∃ r : UInt8, v + 128 = r := ⟨_, rfl⟩
      have hv01 : (k = 0 ∧ v = 1) ∨ (k ≠ 0 ∧ v = 0) := by
        rw [← hv, ← hL1]
        by_cases h : k = 0
        · subst h; exact .inl ⟨rfl, rfl⟩
        · refine .inr ⟨h, ?_⟩
          obtain ⟨q, rfl⟩ : ∃ q, k = q + 1 := ⟨k - 1, by omega⟩
          simp [List.getD_eq_getElem?_getD]
      have hpad : padL (k + 1) = L1.set k r := by
        unfold padL
        rw [← hL1]
        rcases hv01 with ⟨h, hv1⟩ | ⟨h, hv0⟩
        · subst h; rw [← hr, hv1]; rfl
        · obtain ⟨q, rfl⟩ : ∃ q, k = q + 1 := ⟨k - 1, by omega⟩
          rw [if_neg (by omega), ← hr, hv0, List.set_cons_succ, show q + 1 + 1 - 2 = q by omega, List.replicate_succ', List.set_append_right _ _ (by simp)]
          simp
      have hadd : IntKind.u8.wrap ((v.toNat : Int) + 128) = (r.toNat : Int) := by
        rcases hv01 with ⟨_, h⟩ | ⟨_, h⟩ <;> · rw [← hr, h]; decide
      rw [hL1] at hown
      have hcell := own_cell hown
      have hfro := own_frozen hown
      have c1 := hcell k (by omega)
      rw [List.getD_eq_getElem?_getD, ← List.getD_eq_getElem?_getD, hv] at c1
      have hcv := run_convert_bytes_back (P := Try.prog) (wr.setCell ⟨g, k, none⟩ (.int .u8 (r.toNat : Int))) 43 9 5 ⟨g, 0, none⟩ cap (L1.set k r) (by kernel_rfl) (by kernel_rfl) (by kernel_rfl) (fun j hj => by
        have hj' : j < k + 1 := by simpa [hl1] using hj
        rw [Addr.add_mid, Nat.zero_add]
        by_cases e : k = j
        · subst e
          rw [World.cell?_setCell_same _ _ _ c1]
          simp
        · rw [World.cell?_setCell_other _ _ _ _ (by simp only [ne_eq, Addr.mk.injEq, not_and]; intro _ h; omega), hcell j (by omega)]
          rw [List.getElem_set_ne e, List.getD_eq_getElem?_getD, List.getElem?_eq_getElem (by omega)]
          rfl)
      rw [List.length_set, hl1, ← hpad] at hcv
      have hgw : w.heap.size ≤ g := own_ge hown rfl
      have hf1 := hfro k
      clear hcell hfro hown hv hL1 hr hv01 hl1 hpad
      go_wp2_with fail
      go_ret2
      exact ⟨rfl, only_set hg (p := ⟨g, k, none⟩) hgw _⟩
end Go.Proofs.Ytihkbhogapopdaa
