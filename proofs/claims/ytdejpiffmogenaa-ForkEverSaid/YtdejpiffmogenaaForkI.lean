/- Plain laws of layer 12, with no program in sight; and the calls of ForkLater, ForkLatest, ForkFewer. -/
import Derived.Test.YtdejpiffmogenaaForkH
namespace Go.Proofs.Ytdejpiffmogenaa
open Go.RowKit

theorem act_err {xs : List Int} {t : Int} (h : (act xs t).2 ≠ 0) : (act xs t).1 = 0 := by
  unfold act at h ⊢
  split
  · rename_i hc
    rw [if_pos hc] at h
    split
    · rfl
    · rename_i h0
      rw [if_neg h0] at h
      exact absurd rfl h
  · rfl
theorem act_ok {xs : List Int} {t : Int} (h : (act xs t).2 = 0) : ck xs = 0 ∧ 1 ≤ cnt xs t ∧ (act xs t).1 = (cnt xs t : Int) - 1 := by
  unfold act at h ⊢
  split
  · rename_i hc
    rw [if_pos hc] at h
    split
    · rename_i h0
      rw [if_pos h0] at h
      exact absurd h (by decide)
    · rename_i h0
      exact ⟨hc, by omega, rfl⟩
  · rename_i hc
    rw [if_neg hc] at h
    exact absurd h hc
theorem cnt_mono {xs : List Int} {t u : Int} (h : t ≤ u) : cnt xs t ≤ cnt xs u := by
  rcases Nat.lt_or_ge (cnt xs u) (cnt xs t) with hlt | hge
  · exfalso
    have a := cnt_at hlt
    have b := cnt_stop (xs := xs) (t := u) (by have := cnt_le xs t; omega)
    omega
  · exact hge
theorem act_mono {xs : List Int} {t u : Int} (h : t ≤ u) (h0 : (act xs t).2 = 0) : (act xs u).2 = 0 ∧ (act xs t).1 ≤ (act xs u).1 := by
  obtain ⟨hc, h1, h2⟩ := act_ok h0
  have hm := cnt_mono (xs := xs) h
  have e : act xs u = ((cnt xs u : Int) - 1, 0) := by unfold act; rw [if_pos hc, if_neg (by omega)]
  rw [e, h2]
  exact ⟨rfl, by show (cnt xs t : Int) - 1 ≤ (cnt xs u : Int) - 1; omega⟩
theorem latest_law {xs : List Int} {t : Int} (h : (act xs t).2 = 0) :
    0 ≤ (act xs t).1 ∧ (act xs t).1 ≤ 5 ∧ (frm xs (act xs t).1).2 = 0 ∧ (frm xs (act xs t).1).1 ≤ t ∧ ((frm xs ((act xs t).1 + 1)).2 = 10 ∨ ((frm xs ((act xs t).1 + 1)).2 = 0 ∧ t < (frm xs ((act xs t).1 + 1)).1)) := by
  obtain ⟨hc, h1, h2⟩ := act_ok h
  have hl := cnt_le xs t
  have h6 := ck_zero hc
  rw [h2]
  have e : frm xs ((cnt xs t : Int) - 1) = (xs.getD (cnt xs t - 1) 0, 0) := by
    unfold frm
    rw [if_pos hc, if_neg (by omega)]
    rw [show ((cnt xs t : Int) - 1).toNat = cnt xs t - 1 by omega]
  refine ⟨by omega, by omega, by rw [e], by rw [e]; exact cnt_at (by omega), ?_⟩
  rw [show (cnt xs t : Int) - 1 + 1 = (cnt xs t : Int) by omega]
  by_cases hn : cnt xs t = xs.length
  · left
    unfold frm
    rw [if_pos hc, if_pos (by right; omega)]
  · right
    have e2 : frm xs (cnt xs t : Int) = (xs.getD (cnt xs t) 0, 0) := by
      unfold frm
      rw [if_pos hc, if_neg (by omega), Int.toNat_natCast]
    rw [e2]
    exact ⟨rfl, cnt_stop (by omega)⟩
theorem srt_take {xs : List Int} (hs : srt xs = true) (k : Nat) : srt (xs.take k) = true := by
  rw [srt_iff] at hs ⊢
  intro i hi
  rw [List.length_take] at hi
  have := hs i (by omega)
  simp only [List.getD_eq_getElem?_getD, List.getElem?_take] at this ⊢
  rw [if_pos (by omega), if_pos (by omega)]
  exact this
theorem fewer_law {xs : List Int} {t : Int} {k : Nat} (hc : ck xs = 0) (h1 : 1 ≤ k) (h2 : k ≤ xs.length) : (act (xs.take k) t).2 = (act xs t).2 ∧ (act (xs.take k) t).1 = min (act xs t).1 ((k : Int) - 1) := by
  have hz := ck_zero hc
  have hlen : (xs.take k).length = k := by rw [List.length_take]; omega
  have hck : ck (xs.take k) = 0 := by
    unfold ck
    rw [hlen, if_neg (by omega), srt_take hz.2.2]
    rfl
  have hcnt : cnt (xs.take k) t = min (cnt xs t) k := by
    symm
    have hg : ∀ i, i < k → (xs.take k).getD i 0 = xs.getD i 0 := by
      intro i hi
      simp only [List.getD_eq_getElem?_getD, List.getElem?_take]
      rw [if_pos hi]
    refine cnt_unique (srt_take hz.2.2 k) (by rw [hlen]; omega) (fun h => ?_) (fun h => ?_)
    · rw [hg _ (by omega)]
      exact cnt_at (by omega)
    · rw [hlen] at h
      rw [hg _ h, show min (cnt xs t) k = cnt xs t by omega]
      exact cnt_stop (by omega)
  unfold act
  rw [if_pos hc, if_pos hck, hcnt]
  by_cases h0 : cnt xs t = 0
  · rw [if_pos (by omega), if_pos h0]
    refine ⟨rfl, ?_⟩
    show (0 : Int) = min 0 ((k : Int) - 1)
    omega
  · rw [if_neg (by omega), if_neg h0]
    refine ⟨rfl, ?_⟩
    show ((min (cnt xs t) k : Nat) : Int) - 1 = min ((cnt xs t : Int) - 1) ((k : Int) - 1)
    omega

set_option maxRecDepth 100000 in
set_option maxHeartbeats 2000000 in
theorem later_any (A : Option Addr) (n c : Nat) (xs : List Int) (t u : Int) (w : World) (h : Reads w w.heap.size 1 A n (xs.map (Value.int .u64))) :
    Calls Try.prog 4 #[.agg #[.slice A n c], .int .u64 t, .int .u64 u] w fun e w' => e = .returned (.bool true) ∧ Below w.heap.size w w' := by
  have s0 := LS.start (c := c) h
  clear h
  go_enter Try.func4, Try.ntmps4
  go_wp2_with fail
  generalize w.alloc (.cells #[.slice A n c] 24) = W at *
  refine (works_any _).mono ?_
  rintro e w1 ⟨rfl, hb1⟩
  have s1 := s0.step hb1
  clear s0 hb1
  have c1 := s1.box.cell
  by_cases htu : u < t
  · go_wp2_with fail
    go_ret
    exact ⟨rfl, s1.below⟩
  · go_wp2_with fail
    refine (active_any _ _ _ _ xs _ _ s1.le s1.reads).mono ?_
    rintro e w2 ⟨rfl, hb2⟩
    have s2 := s1.step hb2
    clear s1 hb2 c1
    have c2 := s2.box.cell
    go_wp2_with fail
    refine (active_any _ _ _ _ xs _ _ s2.le s2.reads).mono ?_
    rintro e w3 ⟨rfl, hb3⟩
    have s3 := s2.step hb3
    clear s2 hb3 c2
    have hm := act_mono (xs := xs) (t := t) (u := u) (by omega)
    generalize act xs t = a1 at *
    obtain ⟨a, e⟩ := a1
    generalize act xs u = b1 at *
    obtain ⟨b, f⟩ := b1
    dsimp only at hm ⊢
    by_cases he : e = 0
    · obtain ⟨hf, hab⟩ := hm he
      subst he
      subst hf
      clear htu
      go_wp2_with fail
      go_ret
      exact ⟨rfl, s3.below⟩
    · have he1 : (e != 0) = true := by simpa using he
      clear hm htu he
      by_cases hf : f = 0
      · subst hf
        go_wp2_with fail
        go_ret
        exact ⟨rfl, s3.below⟩
      · have hf1 : (f == 0) = false := by simpa using hf
        clear hf
        go_wp2_with fail
        go_ret
        exact ⟨rfl, s3.below⟩

set_option maxRecDepth 100000 in
set_option maxHeartbeats 2000000 in
theorem latest_any (A : Option Addr) (n c : Nat) (xs : List Int) (t : Int) (w : World) (h : Reads w w.heap.size 1 A n (xs.map (Value.int .u64))) :
    Calls Try.prog 5 #[.agg #[.slice A n c], .int .u64 t] w fun e w' => e = .returned (.bool true) ∧ Below w.heap.size w w' := by
  have s0 := LS.start (c := c) h
  clear h
  go_enter Try.func5, Try.ntmps5
  go_wp2_with fail
  generalize w.alloc (.cells #[.slice A n c] 24) = W at *
  refine (works_any _).mono ?_
  rintro e w1 ⟨rfl, hb1⟩
  have s1 := s0.step hb1
  clear s0 hb1
  have c1 := s1.box.cell
  go_wp2_with fail
  refine (active_any _ _ _ _ xs _ _ s1.le s1.reads).mono ?_
  rintro e w2 ⟨rfl, hb2⟩
  have s2 := s1.step hb2
  clear s1 hb2 c1
  have c2 := s2.box.cell
  have hm := latest_law (xs := xs) (t := t)
  have hz := act_err (xs := xs) (t := t)
  generalize act xs t = a1 at *
  obtain ⟨a, e⟩ := a1
  dsimp only at hm hz ⊢
  by_cases he : e = 0
  · subst he
    obtain ⟨h0, h5, h1, h2, h3⟩ := hm rfl
    clear hm hz
    have H1 := Lib.hid h1; have H2 := Lib.hid h2; have H3 := Lib.hid h3
    clear h1 h2 h3
    go_wp2_with fail
    refine (from_any _ _ _ _ xs _ _ s2.le s2.reads).mono ?_
    rintro e w3 ⟨rfl, hb3⟩
    have s3 := s2.step hb3
    clear s2 hb3 c2
    have c3 := s3.box.cell
    go_wp2_with fail
    refine (from_any _ _ _ _ xs _ _ s3.le s3.reads).mono ?_
    rintro e w4 ⟨rfl, hb4⟩
    have s4 := s3.step hb4
    clear s3 hb4 c3
    have h1 := H1.out; have h2 := H2.out; have h3 := H3.out
    clear H1 H2 H3
    generalize frm xs a = x1 at *
    obtain ⟨p, f⟩ := x1
    generalize frm xs (a + 1) = x2 at *
    obtain ⟨q, g⟩ := x2
    dsimp only at h1 h2 h3 ⊢
    subst h1
    rcases h3 with h3 | ⟨h3, h4⟩
    · subst h3
      go_wp2_with fail
      go_ret
      exact ⟨rfl, s4.below⟩
    · subst h3
      go_wp2_with fail
      go_ret
      exact ⟨rfl, s4.below⟩
  · obtain rfl := hz he
    have he1 : (e != 0) = true := by simpa using he
    clear hm hz he
    go_wp2_with fail
    go_ret
    exact ⟨rfl, s2.below⟩
end Go.Proofs.Ytdejpiffmogenaa
