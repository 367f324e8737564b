/- cmp.Compare, the comparison of Add, slices.BinarySearchFunc over frames that were heard. -/
import Derived.Test.YtdkijdedfpfbnaaChaG
namespace Go.Proofs.Ytdkijdedfpfbnaa
open Go.RowKit Go.Shelf

def cmpI (a b : Int) : Int := if a < b then -1 else if b < a then 1 else 0
theorem isnan_any (x : Int) (w : World) : Calls Try.prog 34 #[.int .i64 x] w fun e w' => e = .returned (.bool false) ∧ w = w' := by
  have hx : (x != x) = false := by simp
  go_enter Try.func34, Try.ntmps34
  go_wp2_with fail
  go_ret
  exact ⟨by first | rfl | simp, rfl⟩
theorem cmp_any (x y : Int) (w : World) : Calls Try.prog 24 #[.int .i64 x, .int .i64 y] w fun e w' => e = .returned (.int .i64 (cmpI x y)) ∧ w = w' := by
  obtain ⟨r, hr⟩ : ∃ r, cmpI x y = r := ⟨_, rfl⟩
  rw [hr]
  have HR := Lib.hid hr
  clear hr
  go_enter Try.func24, Try.ntmps24
  go_wp2_with fail
  refine (isnan_any x w).mono ?_
  rintro e w' ⟨rfl, rfl⟩
  go_wp2_with fail
  refine (isnan_any y w).mono ?_
  rintro e w' ⟨rfl, rfl⟩
  by_cases h1 : x < y
  · have hr : r = -1 := by rw [← HR.out]; unfold cmpI; rw [if_pos h1]
    subst hr
    go_wp2_with fail
    go_ret
    exact ⟨rfl, rfl⟩
  · have d1 : decide (x < y) = false := by simpa using h1
    by_cases h2 : y < x
    · have hr : r = 1 := by rw [← HR.out]; unfold cmpI; rw [if_neg h1, if_pos h2]
      subst hr
      clear h1
      go_wp2_with fail
      go_ret
      exact ⟨rfl, rfl⟩
    · have d2 : decide (y < x) = false := by simpa using h2
      have hr : r = 0 := by rw [← HR.out]; unfold cmpI; rw [if_neg h1, if_neg h2]
      subst hr
      clear h1 h2
      go_wp2_with fail
      go_ret
      exact ⟨rfl, rfl⟩
theorem by_any (f : Frm) (y : Int) (w : World) : Calls Try.prog 23 #[.agg #[.string f.id, .int .i64 f.num, .string f.data, .bool f.last], .int .i64 y] w fun e w' => e = .returned (.int .i64 (cmpI f.num y)) ∧ w.grownBy w' none := by
  obtain ⟨id, num, data, last⟩ := f
  go_enter Try.func23, Try.ntmps23
  go_wp2_with fail
  refine (cmp_any num y _).mono ?_
  rintro e w' ⟨rfl, rfl⟩
  go_wp2_with fail
  go_ret
  exact ⟨rfl, only_alloc (World.grownBy.refl _ _) _⟩

/-- where a number is, or would be -/
structure IsAt (xs : List Frm) (m : Int) (p : Nat) : Prop where
  le : p ≤ xs.length
  lo : ∀ t, t < p → (xs.getD t Frm.none_).num < m
  hi : ∀ t, p ≤ t → t < xs.length → m ≤ (xs.getD t Frm.none_).num
def Sorted (xs : List Frm) : Prop := ∀ s t, s ≤ t → t < xs.length → (xs.getD s Frm.none_).num ≤ (xs.getD t Frm.none_).num
theorem heard_sorted {xs : List Frm} (h : heardF xs = true) : Sorted xs := by
  intro s t hst ht
  induction t with
  | zero => obtain rfl : s = 0 := by omega
            exact Int.le_refl _
  | succ t ih =>
    by_cases he : s = t + 1
    · rw [he]; exact Int.le_refl _
    · have h1 := ih (by omega) (by omega)
      have h2 := heard_at h ht
      unfold okAt at h2
      simp only [Bool.and_eq_true, Bool.or_eq_true, decide_eq_true_eq, Nat.add_sub_cancel] at h2
      obtain ⟨_, _, (h3 | h3)⟩ := h2
      · omega
      · omega

set_option maxRecDepth 100000 in
set_option maxHeartbeats 2000000 in
theorem search_any (B : Nat) (A : Option Addr) (n c : Nat) (xs : List Frm) (m : Int) (w : World) (hB : B ≤ w.heap.size) (h : Reads w B 4 A n (framesV xs)) (hn : n ≤ 1000000) (hs : Sorted xs) :
    Calls Try.prog 25 #[.slice A n c, .int .i64 m, .func (.func 23) #[] #[]] w fun e w' => ∃ p : Nat, e = .returned (.tuple #[.int .i64 (p : Int), .bool (decide (p < n) && decide ((xs.getD p Frm.none_).num = m))]) ∧ IsAt xs m p ∧ w.grownBy w' none := by
  have hl : xs.length = n := by have := h.1; rw [framesV_len] at this; omega
  have HL := Lib.hid hl; have HS := Lib.hid hs
  clear hl hs
  go_enter Try.func25, Try.ntmps25
  go_wp2_with fail
  go_loopw [9, 10] (fun i j wr => ∃ a b : Nat, i = .int .i64 (a : Int) ∧ j = .int .i64 (b : Int) ∧ a ≤ b ∧ b ≤ n ∧ Hid (∀ t, t < a → (xs.getD t Frm.none_).num < m) ∧ Hid (∀ t, b ≤ t → t < n → m ≤ (xs.getD t Frm.none_).num) ∧ w.grownBy wr none) (fun i j _ => (intOf j).toNat - (intOf i).toNat)
  case atStart => exact ⟨0, n, rfl, rfl, by omega, by omega, Lib.hid (fun t ht => absurd ht (by omega)), Lib.hid (fun t h1 h2 => absurd h2 (by omega)), World.grownBy.refl _ _⟩
  case round =>
    obtain ⟨a, b, rfl, rfl, hab, hbn, hlo, hhi, hG⟩ := hrel
    by_cases hlt : a < b
    · obtain ⟨q, hq⟩ : ∃ q, (a + b) / 2 = q := ⟨_, rfl⟩
      have hq1 : a ≤ q := by omega
      have hq2 : q < b := by omega
      have hqn : q < n := by omega
      obtain ⟨bl, off, rfl, hbb, hc⟩ := (h.grown hG hB (by simp)).frames hqn
      obtain ⟨c0, c1, c2, c3⟩ := hc q hqn
      have hlow : (xs.getD q Frm.none_).num < m → ∀ t, t < q + 1 → (xs.getD t Frm.none_).num < m := fun h0 t ht => by
        have := HS.out t q (by omega) (by have := HL.out; omega); omega
      have hhig : ¬ (xs.getD q Frm.none_).num < m → ∀ t, q ≤ t → t < n → m ≤ (xs.getD t Frm.none_).num := fun h0 t h1 h2 => by
        have := HS.out q t h1 (by have := HL.out; omega); omega
      generalize xs.getD q Frm.none_ = f at c0 c1 c2 c3 hlow hhig
      have hby := fun W => by_any f m W
      obtain ⟨id, num, data, last⟩ := f
      simp only at hby hlow hhig
      have HLOW := Lib.hid hlow; have HHIG := Lib.hid hhig
      have q0 : (q : Int) < (n : Int) := by omega
      have q3 : (0 : Int) ≤ (q : Int) := by omega
      have hqI : ((a : Int) + (b : Int)) / 2 = (q : Int) := by omega
      have hG2 := fun W' (h : wr.grownBy W' none) => grown_self hG h (by simp)
      clear hc hlow hhig
      go_wp2_with fail
      refine (hby _).mono ?_
      rintro e w2 ⟨rfl, hg⟩
      have hGG := hG2 _ hg
      clear hG2 hg hby hG
      by_cases hcm : num < m
      · have hr : cmpI num m = -1 := by unfold cmpI; rw [if_pos hcm]
        have HL2 := HLOW.out hcm
        have HLL := Lib.hid HL2
        rw [hr]
        clear hr HLOW HHIG HL2
        go_wp2_with fail
        exact ⟨⟨q + 1, b, by simp, rfl, by omega, hbn, HLL, hhi, hGG⟩, by simp [intOf]; omega⟩
      · obtain ⟨r, hr, hr0⟩ : ∃ r, cmpI num m = r ∧ 0 ≤ r := by
          unfold cmpI
          rw [if_neg hcm]
          split
          · exact ⟨1, rfl, by omega⟩
          · exact ⟨0, rfl, by omega⟩
        have HL2 : ∀ t, q ≤ t → t < n → m ≤ (xs.getD t Frm.none_).num := by first | exact HHIG.out hcm | exact HHIG.out (Int.not_lt.1 hcm)
        have HLL := Lib.hid HL2
        rw [hr]
        have d1 : decide (r < 0) = false := by simp; omega
        clear hr HLOW HHIG HL2 hr0
        go_wp2_with fail
        exact ⟨⟨a, q, rfl, rfl, hq1, by omega, hlo, HLL, hGG⟩, by simp [intOf]; omega⟩
    · obtain rfl : a = b := by omega
      have hat : IsAt xs m a := ⟨by have := HL.out; omega, hlo.out, fun t h1 h2 => hhi.out t h1 (by have := HL.out; omega)⟩
      have HAT := Lib.hid hat
      have hG2 := fun W' (h : wr.grownBy W' none) => grown_self hG h (by simp)
      have d1 : decide ((a : Int) < (a : Int)) = false := by simp
      clear hat hlo hhi hlt
      by_cases han : a < n
      · obtain ⟨bl, off, rfl, hbb, hc⟩ := (h.grown hG hB (by simp)).frames han
        obtain ⟨c0, c1, c2, c3⟩ := hc a han
        have hby := fun W => by_any (xs.getD a Frm.none_) m W
        have hres : ∀ b : Bool, (decide ((xs.getD a Frm.none_).num = m)) = b → (decide (a < n) && decide ((xs.getD a Frm.none_).num = m)) = b := fun b hb => by rw [hb, decide_eq_true han]; simp
        have HRES := Lib.hid hres
        obtain ⟨f, hf⟩ : ∃ f, xs.getD a Frm.none_ = f := ⟨_, rfl⟩
        rw [hf] at c0 c1 c2 c3 hby
        have HF := Lib.hid hf
        have q0 : (a : Int) < (n : Int) := by omega
        have d2 : decide ((a : Int) < (n : Int)) = true := decide_eq_true q0
        obtain ⟨id, num, data, last⟩ := f
        simp only at hby
        clear hc hres hf
        go_wp2_with fail
        refine (hby _).mono ?_
        rintro e w2 ⟨rfl, hg⟩
        have hGG := hG2 _ hg
        clear hG2 hg hby
        have hcz : (cmpI num m == 0) = decide (num = m) := by
          unfold cmpI
          by_cases e : num = m
          · subst e; simp
          · rw [decide_eq_false e]
            by_cases h1 : num < m
            · rw [if_pos h1]; rfl
            · rw [if_neg h1, if_pos (by omega)]; rfl
        go_wp2_with fail
        go_ret2
        refine ⟨a, ?_, HAT.out, hGG⟩
        rw [HRES.out (decide (num = m)) (by rw [HF.out])]
        rfl
      · have q0 : ¬ (a : Int) < (n : Int) := by omega
        have d2 : decide ((a : Int) < (n : Int)) = false := decide_eq_false q0
        have d3 : decide (a < n) = false := decide_eq_false han
        clear hG2
        go_wp2_with fail
        go_ret2
        exact ⟨a, by rw [d3]; rfl, HAT.out, hG⟩
end Go.Proofs.Ytdkijdedfpfbnaa
