/- The document's Ever. -/
import Derived.Test.YtdejpiffmogenaaForkE
namespace Go.Proofs.Ytdejpiffmogenaa
open Go.RowKit

theorem ownsRow_below {w w' : World} {base : Nat} {e : TypeId} {size : Nat} {v : Value} {k : Nat} {xs : List Value} (h : w.ownsRow base e size v k xs) (hb : Below w.heap.size w w') : w'.ownsRow base e size v k xs := by
  refine h.kept (only_of_below hb none) ?_
  rcases h.2 with ⟨rfl, _⟩ | ⟨g, cap, cur, rfl, _⟩
  · exact .inl rfl
  · exact .inr (by simp [Value.ownBlock])
theorem ownsRow_mono {w : World} {base base' : Nat} {e : TypeId} {size : Nat} {v : Value} {k : Nat} {xs : List Value} (h : w.ownsRow base e size v k xs) (hb : base' ≤ base) : w.ownsRow base' e size v k xs := by
  obtain ⟨h1, h2⟩ := h
  refine ⟨h1, ?_⟩
  rcases h2 with h2 | ⟨g, cap, cur, hv, hg, r⟩
  · exact .inl h2
  · exact .inr ⟨g, cap, cur, hv, by omega, r⟩

/-- what the document's loop gathers of the first k -/
def refEv (xs : List Int) (k : Nat) : List Nat := (List.range k).filter fun i => decide ((act xs (xs.getD i 0)).1 = (i : Int))
theorem refEv_hit {xs : List Int} {k : Nat} (h : (act xs (xs.getD k 0)).1 = (k : Int)) : refEv xs (k + 1) = refEv xs k ++ [k] := by
  unfold refEv
  rw [List.range_succ, List.filter_append, List.filter_cons]
  first | rw [if_pos (by simpa using h)] | rw [if_neg (by simpa using h)]
  simp
theorem refEv_miss {xs : List Int} {k : Nat} (h : ¬ (act xs (xs.getD k 0)).1 = (k : Int)) : refEv xs (k + 1) = refEv xs k := by
  unfold refEv
  rw [List.range_succ, List.filter_append, List.filter_cons]
  first | rw [if_pos (by simpa using h)] | rw [if_neg (by simpa using h)]
  simp
theorem refEv_len (xs : List Int) (k : Nat) : (refEv xs k).length ≤ k := by
  unfold refEv
  have := List.length_filter_le (fun i => decide ((act xs (xs.getD i 0)).1 = (i : Int))) (List.range k)
  simpa using this
theorem act_at {xs : List Int} {k : Nat} (h : ck xs = 0) (hk : k < xs.length) : ((act xs (xs.getD k 0)).1 = (k : Int)) ↔ lastAt xs k = true := by
  have hc := ck_zero h
  have hs := hc.2.2
  have h1 : k + 1 ≤ cnt xs (xs.getD k 0) := by
    rcases Nat.lt_or_ge (cnt xs (xs.getD k 0)) (k + 1) with hlt | hge
    · exfalso
      have a := cnt_stop (xs := xs) (t := xs.getD k 0) (by omega)
      have b := srt_le hs (k - cnt xs (xs.getD k 0)) (cnt xs (xs.getD k 0)) (by omega)
      rw [show cnt xs (xs.getD k 0) + (k - cnt xs (xs.getD k 0)) = k by omega] at b
      omega
    · exact hge
  unfold act
  rw [if_pos h, if_neg (by omega)]
  unfold lastAt
  simp only [Bool.or_eq_true, decide_eq_true_eq]
  constructor
  · intro e
    have e' : cnt xs (xs.getD k 0) = k + 1 := by
      have : ((cnt xs (xs.getD k 0) : Nat) : Int) - 1 = (k : Int) := e
      omega
    by_cases hl : k + 1 = xs.length
    · exact .inl hl
    · right
      have a := cnt_stop (xs := xs) (t := xs.getD k 0) (by omega)
      rwa [e'] at a
  · intro e
    have e' : cnt xs (xs.getD k 0) = k + 1 := by
      rcases e with e | e
      · have := cnt_le xs (xs.getD k 0); omega
      · rcases Nat.lt_or_ge (k + 1) (cnt xs (xs.getD k 0)) with hlt | hge
        · have := cnt_at hlt; omega
        · omega
    show ((cnt xs (xs.getD k 0) : Nat) : Int) - 1 = (k : Int)
    omega
theorem refEv_eq {xs : List Int} (h : ck xs = 0) : refEv xs xs.length = everOf xs := by
  unfold everOf
  rw [if_pos h]
  have key : ∀ n, n ≤ xs.length → refEv xs n = evPick (upto (fun k => (k, lastAt xs k)) n) := by
    intro n
    induction n with
    | zero => intro _; rfl
    | succ n ih =>
      intro hn
      rw [upto_succ]
      have ha := act_at h (k := n) (by omega)
      by_cases hl : lastAt xs n = true
      · rw [refEv_hit (ha.2 hl), hl, evPick_hit, ih (by omega)]
      · have hf : lastAt xs n = false := by simpa using hl
        rw [refEv_miss (fun e => hl (ha.1 e)), hf, evPick_miss, ih (by omega)]
  exact key _ (Nat.le_refl _)

set_option maxRecDepth 100000 in
set_option maxHeartbeats 2000000 in
theorem refEver_any (B : Nat) (A : Option Addr) (n c : Nat) (xs : List Int) (w : World) (hB : B ≤ w.heap.size) (h : Reads w B 1 A n (xs.map (Value.int .u64))) :
    Calls Try.prog 16 #[.agg #[.slice A n c]] w fun e w' => ∃ v, e = .returned v ∧ w'.ownsRow w.heap.size 3 1 v (everOf xs).length ((everOf xs).map iv) ∧ Below w.heap.size w w' := by
  have hl : xs.length = n := by simpa using h.1
  have HL := Lib.hid hl; clear hl
  obtain ⟨i0, hi, hz0, hz1, hz2⟩ := info_parts info_int
  have bS := Boxed.new w 24 (.slice A n c)
  have hr2 := h.alloc hB (.cells #[.slice A n c] 24)
  have hb2 : Below w.heap.size w (w.alloc (.cells #[.slice A n c] 24)) := (Below.refl _ w).alloc (Nat.le_refl _) _
  have hz : w.heap.size + 1 ≤ (w.alloc (.cells #[.slice A n c] 24)).heap.size := by simp
  go_enter Try.func16, Try.ntmps16
  go_wp2_with fail
  refine (refCheck_any _ _ _ _ xs _ (by simp; omega) hr2).mono ?_
  generalize w.alloc (.cells #[.slice A n c] 24) = w2 at *
  rintro e w3 ⟨rfl, hb3⟩
  have bS3' := Boxed.below bS hb3
  have bS3 := bS3'.cell
  have hr3 := hr2.below (hb3.mono (by omega))
  have hb4 := hb2.trans (hb3.mono (by omega))
  have hz3 := hb3.size
  clear bS hr2 hb2 hb3 h
  by_cases hck : ck xs = 0
  · have HE := Lib.hid (refEv_eq hck)
    have hn6 : n ≤ 6 := by have := HL.out; have := ck_zero hck; omega
    rw [hck]
    clear hck
    go_wp2_with fail
    go_loopw [3, 4] (fun v i wr => ∃ k : Nat, i = .int .i64 k ∧ k ≤ n ∧ wr.ownsRow (w.heap.size + 1) 3 1 v (refEv xs k).length ((refEv xs k).map iv) ∧ Below (w.heap.size + 1) w3 wr) (fun _ i _ => n - (intOf i).toNat)
    case atStart => exact ⟨0, rfl, by omega, World.ownsRow_nil _ _ _ _, Below.refl _ _⟩
    case round =>
      obtain ⟨k, rfl, hk, hown, hbr⟩ := hrel
      have bSr := hbr.cell (p := ⟨w.heap.size, 0, none⟩) (by simp)
      rw [bS3] at bSr
      have hrr := hr3.below (hbr.mono (by omega))
      have hzr := hbr.size
      by_cases hlt : k < n
      · obtain ⟨b, off, rfl, hb, hc⟩ := hrr.ints hlt
        have hck := hc k hlt
        have hkn : (k : Int) < (n : Int) := by omega
        have hlen := refEv_len xs k
        go_wp2_with fail
        have hbw : b < wr.heap.size := by omega
        have HRR := hide hrr
        generalize hx : xs.getD k 0 = x at *
        have HX := Lib.hid hx
        clear hx hc hrr
        go_region_held3 (fun w' => w'.cell? ⟨w.heap.size, 0, none⟩ = some (.slice (some ⟨b, off, none⟩) n c) ∧ w'.cell? ⟨b, off + k, none⟩ = some (.int .u64 x))
          (first | go_keep | exact ⟨(hb1.cell (p := ⟨w.heap.size, 0, none⟩) (by simp; omega)).trans bSr, (hb1.cell (p := ⟨b, off + k, none⟩) (by simp; omega)).trans hck⟩)
          (first | (go_at_call 11; refine (refActive_any B _ _ _ xs _ _ ?_ ?_).mono ?_; (simp; omega); (exact (unhide HRR).drew); rintro e w1 ⟨rfl, hb1⟩))
        have hown1 := ownsRow_below hown.drew hb1
        have hsz1 : wr.heap.size ≤ w1.heap.size := hb1.size
        have hbr1 := hbr.trans (Below.drew (Below.refl _ _) |>.trans (hb1.mono (by simp; omega)))
        clear hown hb1 HRR
        by_cases hx : (act xs x).1 = (k : Int)
        · have hb2 : ((act xs x).1 == (k : Int)) = true := by simpa using hx
          have HH := Lib.hid (refEv_hit (xs := xs) (k := k) (by rw [HX.out]; exact hx))
          clear hx
          go_wp2_with (at_builtin; refine wpList_append_own _ rfl _ _ 34 rfl (w.heap.size + 1) 3 i0 (.int .i64 0) 1 8 Try.underlying34 hi hz0 hz1 hz2 rfl (by decide) _ _ _ rfl (hown1.alloc _) ⟨w1.heap.size, 0, none⟩ 1 1 [.int .i64 (k : Int)] rfl rfl (cell_one_new _ _ _) (by simp [Value.oneCell']) (by simp only [maxLen]; omega) (by omega) (by simp; omega) ?_; intro v' w4 hown4 hgrow _)
          refine ⟨⟨k + 1, by go_num, by omega, by rw [HH.out]; simpa [iv] using hown4, ?_⟩, by simp [intOf]; omega⟩
          exact (hbr1.alloc (by omega) _).grown hgrow (by simp; omega) (fun g hg => ownBlock_ge hown1 hg)
        · have hb2 : ((act xs x).1 == (k : Int)) = false := by simpa using hx
          have HH := Lib.hid (refEv_miss (xs := xs) (k := k) (by rw [HX.out]; exact hx))
          clear hx
          go_wp2_with fail
          exact ⟨⟨k + 1, by go_num, by omega, by rw [HH.out]; exact hown1, hbr1⟩, by simp [intOf]; omega⟩
      · obtain rfl : k = n := by omega
        go_wp2_with fail
        go_ret
        refine ⟨_, rfl, ?_, hb4.trans (hbr.mono (by omega))⟩
        rw [← HE.out, HL.out]
        exact ownsRow_mono hown (by omega)
  · have he : everOf xs = [] := by unfold everOf; rw [if_neg hck]
    have hne : (ck xs != 0) = true := by simpa using hck
    have HE := Lib.hid he; clear he hck
    go_wp2_with fail
    go_ret
    exact ⟨_, rfl, by rw [HE.out]; exact World.ownsRow_nil _ _ _ _, hb4⟩
end Go.Proofs.Ytdejpiffmogenaa
