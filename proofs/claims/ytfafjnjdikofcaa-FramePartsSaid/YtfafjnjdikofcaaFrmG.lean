/- Put. -/
import Derived.Test.YtfafjnjdikofcaaFrmF
namespace Go.Proofs.Ytfafjnjdikofcaa
open Go.RowKit Go.Shelf

theorem str_info : ∃ i, Try.prog.info? 9 = some i ∧ i.zero = some (.string .empty) ∧ i.size = 1 ∧ i.bytes = 16 := by
  have hs : (Try.prog.info? 9).isSome = true := by kernel_rfl
  obtain ⟨i, hi⟩ := Option.isSome_iff_exists.1 hs
  have hb : (Try.prog.info? 9).map (·.bytes) = some 16 := by kernel_rfl
  have hsz : (Try.prog.info? 9).map (·.size) = some 1 := by kernel_rfl
  have hz : (Try.prog.info? 9).bind (·.zero) = some (.string .empty) := by kernel_rfl
  rw [hi] at hb hsz hz
  simp only [Option.map_some, Option.some.injEq, Option.bind_some] at hb hsz hz
  exact ⟨i, hi, hz, hsz, hb⟩

theorem ownsRow_below {w w' : World} {base : Nat} {e : TypeId} {size : Nat} {v : Value} {k : Nat} {xs : List Value} (h : w.ownsRow base e size v k xs) (hb : Below w.heap.size w w') : w'.ownsRow base e size v k xs := by
  refine h.kept (only_of_below hb none) ?_
  rcases h.2 with ⟨rfl, _⟩ | ⟨g, cap, cur, rfl, _⟩
  · exact .inl rfl
  · exact .inr (by simp [Value.ownBlock])
theorem own_cap {w : World} {base : Nat} {e : TypeId} {size : Nat} {A : Option Addr} {c k : Nat} {xs : List Value} (h : w.ownsRow base e size (.slice A k c) k xs) : k ≤ c := by
  rcases h.2 with ⟨hv, hk⟩ | ⟨g, cap, cur, hv, _, _, hn, _⟩
  · injection hv; omega
  · injection hv; omega

set_option maxRecDepth 100000 in
set_option maxHeartbeats 1000000 in
theorem put_any (B : Nat) (A : Option Addr) (n c : Nat) (xs : List Frm) (w : World) (hB : B ≤ w.heap.size) (h : Reads w B 4 A n (framesV xs)) :
    Calls Try.prog 13 #[.slice A n c] w fun e w' => e = .returned (.tuple #[.string ⟨(putL xs).toArray⟩, .int .i64 (putE xs)]) ∧ w.grownBy w' none := by
  obtain ⟨i0, hi, hz0, hz1, hz2⟩ := str_info
  have hl : xs.length = n := by have := h.1; rw [framesV_len] at this; omega
  have HL := Lib.hid hl
  obtain ⟨E, hE⟩ : ∃ x, putE xs = x := ⟨_, rfl⟩
  obtain ⟨L, hLL⟩ : ∃ l : ByteArray, (⟨(putL xs).toArray⟩ : ByteArray) = l := ⟨_, rfl⟩
  have hz : E ≠ 0 → L = .empty := by intro h0; rw [← hLL]; unfold putL; rw [if_neg (by rw [hE]; exact h0)]; rfl
  have hz0 : E = 0 → (0 :: xs.flatMap bytesF) = L.data.toList := by intro h0; rw [← hLL]; unfold putL; rw [if_pos (by rw [hE]; exact h0)]
  rw [hE, hLL]
  have HE := Lib.hid hE; have HZ := Lib.hid hz; have HZ0 := Lib.hid hz0
  clear hl hE hLL hz hz0
  go_enter Try.func13, Try.ntmps13
  by_cases h0 : n = 0
  · subst h0
    have he : E = 2 := by rw [← HE.out]; unfold putE; rw [if_pos HL.out]
    obtain rfl := HZ.out (by rw [he]; decide)
    subst he
    go_wp2_with fail
    go_ret2
    exact ⟨rfl, World.grownBy.refl _ _⟩
  by_cases h1 : 32 < n
  · have he : E = 5 := by rw [← HE.out]; unfold putE; rw [if_neg (by have := HL.out; omega), if_pos (by have := HL.out; omega)]
    obtain rfl := HZ.out (by rw [he]; decide)
    subst he
    go_wp2_with fail
    go_ret2
    exact ⟨rfl, World.grownBy.refl _ _⟩
  have he : firstBad xs = E := by rw [← HE.out]; unfold putE; rw [if_neg (by have := HL.out; omega), if_neg (by have := HL.out; omega)]
  have HB := Lib.hid he
  clear he HE
  have hn0 : ((n : Int) == 0) = false := beq_eq_false_iff_ne.2 (by omega)
  have hn1 : decide (32 < (n : Int)) = false := by simp; omega
  have hcv := conv1_new 0 w
  simp only [UInt8.toNat_zero, Int.cast_ofNat_Int] at hcv
  have hG0 : w.grownBy (w.alloc (.cells #[.int .u8 0] 5)) none := only_alloc (World.grownBy.refl _ _) _
  go_wp2_with fail
  have hown0 : ((w.alloc (.cells #[.int .u8 0] 5)).alloc (.cells #[.string (oneB 0)] 9)).ownsRow w.heap.size 9 1 (.slice (some ⟨w.heap.size + 1, 0, none⟩) 1 1) 1 ([oneB 0].map Value.string) :=
    ⟨rfl, .inr ⟨w.heap.size + 1, 1, _, rfl, by omega, (by have := heap_alloc_new (w.alloc (.cells #[.int .u8 0] 5)) (.cells #[.string (oneB 0)] 9); simpa using this), Nat.le_refl _, by simp only [maxLen]; omega, rfl, rfl⟩⟩
  have hG1 : w.grownBy ((w.alloc (.cells #[.int .u8 0] 5)).alloc (.cells #[.string (oneB 0)] 9)) none := only_alloc hG0 _
  generalize (w.alloc (.cells #[.int .u8 0] 5)).alloc (.cells #[.string (oneB 0)] 9) = w1 at *
  go_loopw [4, 22] (fun v i wr => ∃ (k : Nat) (bs : List ByteArray), i = .int .i64 (k : Int) ∧ k ≤ n ∧ bs.length = k + 1 ∧ wr.ownsRow w.heap.size 9 1 v (k + 1) (bs.map Value.string) ∧ Hid (catB bs = 0 :: (xs.take k).flatMap bytesF) ∧ Hid (firstBad (xs.take k) = 0) ∧ Hid ((catB bs).length ≤ 1 + 4119 * k) ∧ w.grownBy wr none) (fun _ i _ => n - (intOf i).toNat)
  case atStart => exact ⟨0, [oneB 0], rfl, by omega, rfl, hown0, rfl, rfl, by show 1 ≤ _; omega, hG1⟩
  case round =>
    clear hcv hG0 hG1 hown0
    obtain ⟨k, bs, rfl, hk, hbl, hown, hs, hf, hsz0, hG⟩ := hrel
    have hsz := hG.size
    by_cases hlt : k < n
    · obtain ⟨b, off, rfl, hbb, hc⟩ := (h.grown hG hB (by simp)).frames hlt
      obtain ⟨c0, c1, c2, c3⟩ := hc k hlt
      have hst := take_snoc xs k Frm.none_ (by have := HL.out; omega)
      have hdr : xs = xs.take (k + 1) ++ xs.drop (k + 1) := (List.take_append_drop _ _).symm
      clear hc
      generalize xs.getD k Frm.none_ = f at *
      have hfb := firstBad_snoc (xs.take k) f hf.out
      rw [← hst] at hfb
      have hone := fun W => one_any f W
      have hol := oneF_len f
      obtain ⟨x, hx⟩ : ∃ x, checkF f = x := ⟨_, rfl⟩
      obtain ⟨O, hO⟩ : ∃ l : ByteArray, (⟨(oneF f).toArray⟩ : ByteArray) = l := ⟨_, rfl⟩
      have hOz : O.data.toList.length ≤ 4119 := by rw [← hO]; exact hol
      rw [hx, hO] at hone
      rw [hx] at hfb
      have hbad : x ≠ 0 → E = x := by
        intro h0
        rw [← HB.out, hdr, firstBad_more _ _ (by rw [hfb]; exact h0), hfb]
      have hgood : x = 0 → catB (bs ++ [O]) = 0 :: (xs.take (k + 1)).flatMap bytesF := by
        intro h0
        rw [catB_snoc, hs.out, hst, ← hO]
        unfold oneF
        rw [if_pos (by rw [hx]; exact h0)]
        simp
      have hsz1 : (catB (bs ++ [O])).length ≤ 1 + 4119 * (k + 1) := by
        rw [catB_snoc, List.length_append]; have := hsz0.out; omega
      have HBAD := Lib.hid hbad; have HGOOD := Lib.hid hgood; have HFB := Lib.hid hfb; have HS1 := Lib.hid hsz1
      clear hst hdr hol hx hO hbad hgood hfb hs hf hsz1 hsz0 hOz
      obtain ⟨id, num, data, last⟩ := f
      obtain ⟨A', cc, rfl, _⟩ := own_slice hown
      have hd : ∀ o, Below wr.heap.size wr (wr.alloc o) := fun o => (Below.refl _ wr).alloc (Nat.le_refl _) _
      have hown1 := fun o => ownsRow_below hown (hd o)
      have hGa := fun o => only_alloc hG o
      have hza : ∀ o, (wr.alloc o).heap.size = wr.heap.size + 1 := fun o => by simp
      clear hd
      go_wp2_with fail
      generalize hq : (Obj.cells #[.string id, .int .i64 num, .string data, .bool last] 24) = o at *
      have hownq := hown1 o
      have hGq := hGa o
      have hzq := hza o
      generalize wr.alloc o = wq at *
      clear hown1 hGa hza hq hown hG
      refine (hone wq).mono ?_
      rintro e w2 ⟨rfl, hg2⟩
      have hG2 := grown_self hGq hg2 (by simp)
      have hown2 := ownsRow_below hownq (below_of_grown hg2)
      have hsz2 := hg2.size
      clear hone hg2 hGq hownq c0 c1 c2 c3
      by_cases hx0 : x = 0
      · subst hx0
        clear HBAD
        go_wp2_with (at_builtin; refine wpList_append_own _ rfl _ _ 44 rfl w.heap.size 9 i0 (.string .empty) 1 16 Try.underlying44 hi hz0 hz1 hz2 rfl (by decide) _ _ _ rfl (hown2.alloc _) ⟨w2.heap.size, 0, none⟩ 1 1 [.string O] rfl rfl (cell_one_new _ _ _) (by simp [Value.oneCell']) (by simp only [maxLen]; omega) (by omega) (by simp; omega) ?_; intro v' w4 hown4 hgrow _)
        have hG4 : w.grownBy w4 none := grown_self (only_alloc hG2 _) hgrow (fun j hj => .inr (own_ge hown2 hj))
        exact ⟨⟨k + 1, bs ++ [O], by simp, by omega, by simp; omega, by simpa using hown4, HGOOD.out trivial, HFB.out, HS1.out, hG4⟩, by simp [intOf]; omega⟩
      · have hne : (x != 0) = true := by simpa using hx0
        have hne2 : (x == 0) = false := by simpa using hx0
        obtain rfl := HBAD.out hx0
        obtain rfl := HZ.out hx0
        clear HGOOD HBAD HFB HS1
        go_wp2_with fail
        go_ret2
        exact ⟨rfl, hG2⟩
    · have ht : xs.take k = xs := List.take_of_length_le (by have := HL.out; omega)
      rw [ht] at hs hf
      have he : E = 0 := by rw [← HB.out]; exact hf.out
      have hkn : k = n := by omega
      have hfin : decide ((k : Int) < (n : Int)) = false := by simp; omega
      have hfin2 : decide (k < n) = false := by simp; omega
      obtain ⟨A', cc, rfl, hr⟩ := own_slice hown
      have hcc : k + 1 ≤ cc := own_cap hown
      have hj := cat_any wr.heap.size A' (k + 1) cc bs wr (Nat.le_refl _) hr (by omega) hcc (by have := hsz0.out; omega)
      have hLb : (⟨(catB bs).toArray⟩ : ByteArray) = L := ba_ext (by rw [hs.out]; exact HZ0.out he)
      rw [hLb] at hj
      subst he
      clear ht hs hf HZ0 hown hr hLb hkn hsz0
      go_wp2_with fail
      refine hj.mono ?_
      rintro e w2 ⟨rfl, hg2⟩
      go_wp2_with fail
      go_ret2
      exact ⟨rfl, grown_self hG (grown_of_below hg2) (by simp)⟩
end Go.Proofs.Ytfafjnjdikofcaa
