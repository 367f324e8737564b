/- One of the document; Put of both. -/
import Derived.Test.YtfafjnjdikofcaaFrmE
namespace Go.Proofs.Ytfafjnjdikofcaa
open Go.RowKit Go.Shelf

set_option maxRecDepth 100000 in
set_option maxHeartbeats 1000000 in
theorem oneR_any (f : Frm) (w : World) :
    Calls Try.prog 12 #[.agg #[.string f.id, .int .i64 f.num, .string f.data, .bool f.last]] w fun e w' => e = .returned (.tuple #[.string ⟨(oneF f).toArray⟩, .int .i64 (checkF f)]) ∧ w.grownBy w' none := by
  have hck := fun W => checkR_any f W
  have hbt := fun h W => bytesR_any f h W
  obtain ⟨L, hL⟩ : ∃ l : ByteArray, (⟨(oneF f).toArray⟩ : ByteArray) = l := ⟨_, rfl⟩
  obtain ⟨x, hx⟩ : ∃ x, checkF f = x := ⟨_, rfl⟩
  have hone : x = 0 → (⟨(bytesF f).toArray⟩ : ByteArray) = L := by
    intro h0
    rw [← hL]; unfold oneF; rw [if_pos (by rw [hx]; exact h0)]
  have hone2 : x ≠ 0 → L = .empty := by
    intro h0
    rw [← hL]; unfold oneF; rw [if_neg (by rw [hx]; exact h0)]; rfl
  rw [hx] at hck hbt
  rw [hL, hx]
  have H1 := Lib.hid hone; have H2 := Lib.hid hone2
  have HB := Lib.hid hbt
  clear hL hx hone hone2 hbt
  obtain ⟨id, num, data, last⟩ := f
  have hB0 := Blk.new w 24 #[.string id, .int .i64 num, .string data, .bool last]
  have hG0 : w.grownBy (w.alloc (.cells #[.string id, .int .i64 num, .string data, .bool last] 24)) none := only_alloc (World.grownBy.refl _ _) _
  go_enter Try.func12, Try.ntmps12
  go_wp2_with fail
  refine (hck _).mono ?_
  rintro e w2 ⟨rfl, hg⟩
  have hB := hB0.grown hg (by simp)
  have hG := grown_self hG0 hg (by simp)
  clear hck hg hB0 hG0
  have c0 := hB.cell 0
  have c1 := hB.cell 1
  have c2 := hB.cell 2
  have c3 := hB.cell 3
  simp only [List.getElem?_toArray, List.getElem?_cons_zero, List.getElem?_cons_succ] at c0 c1 c2 c3
  by_cases h0 : x = 0
  · subst h0
    have hb := HB.out rfl
    rw [H1.out rfl] at hb
    clear H1 H2 HB
    go_wp2_with fail
    refine (hb _).mono ?_
    rintro e w3 ⟨rfl, hg⟩
    go_wp2_with fail
    go_ret2
    exact ⟨rfl, grown_self hG hg (by simp)⟩
  · have hne : (x != 0) = true := by simpa using h0
    have hne2 : (x == 0) = false := by simpa using h0
    obtain rfl := H2.out h0
    clear H1 H2 HB
    go_wp2_with fail
    go_ret2
    exact ⟨rfl, hG⟩

/-- the bytes of frames -/
def firstBad (xs : List Frm) : Int := match xs.find? (fun f => checkF f != 0) with | some f => checkF f | none => 0
def putE (xs : List Frm) : Int := if xs.length = 0 then 2 else if 32 < xs.length then 5 else firstBad xs
def putL (xs : List Frm) : List UInt8 := if putE xs = 0 then 0 :: xs.flatMap bytesF else []
theorem firstBad_nil : firstBad [] = 0 := rfl
theorem firstBad_snoc (xs : List Frm) (f : Frm) (h : firstBad xs = 0) : firstBad (xs ++ [f]) = checkF f := by
  unfold firstBad at *
  rw [List.find?_append]
  cases hx : xs.find? (fun f => checkF f != 0) with
  | some g =>
    rw [hx] at h
    have := List.find?_some hx
    simp [h] at this
  | none =>
    by_cases hf : checkF f = 0
    · simp [hf]
    · simp [hf]
theorem firstBad_more (xs ys : List Frm) (h : firstBad xs ≠ 0) : firstBad (xs ++ ys) = firstBad xs := by
  unfold firstBad at *
  rw [List.find?_append]
  cases hx : xs.find? (fun f => checkF f != 0) with
  | some g => simp
  | none => rw [hx] at h; exact absurd rfl h
theorem bytesF_len (f : Frm) (h : checkF f = 0) : (bytesF f).length = 23 + f.data.size := by
  obtain ⟨k1, _, _, _⟩ := check_ok h
  simp only [bytesF, List.length_append, highL_len, ba_len, List.length_singleton]; omega
theorem oneF_len (f : Frm) : (oneF f).length ≤ 4119 := by
  unfold oneF
  split
  · rename_i h
    rw [bytesF_len f h]; have := check_ok h; omega
  · simp

set_option maxRecDepth 100000 in
set_option maxHeartbeats 1000000 in
theorem putR_any (B : Nat) (A : Option Addr) (n c : Nat) (xs : List Frm) (w : World) (hB : B ≤ w.heap.size) (h : Reads w B 4 A n (framesV xs)) :
    Calls Try.prog 14 #[.slice A n c] w fun e w' => e = .returned (.tuple #[.string ⟨(putL xs).toArray⟩, .int .i64 (putE xs)]) ∧ w.grownBy w' none := by
  have hl : xs.length = n := by have := h.1; rw [framesV_len] at this; omega
  have HL := Lib.hid hl
  obtain ⟨E, hE⟩ : ∃ x, putE xs = x := ⟨_, rfl⟩
  obtain ⟨L, hLL⟩ : ∃ l : ByteArray, (⟨(putL xs).toArray⟩ : ByteArray) = l := ⟨_, rfl⟩
  have hz : E ≠ 0 → L = .empty := by intro h0; rw [← hLL]; unfold putL; rw [if_neg (by rw [hE]; exact h0)]; rfl
  have hz0 : E = 0 → (0 :: xs.flatMap bytesF) = L.data.toList := by intro h0; rw [← hLL]; unfold putL; rw [if_pos (by rw [hE]; exact h0)]
  rw [hE, hLL]
  have HE := Lib.hid hE; have HZ := Lib.hid hz; have HZ0 := Lib.hid hz0
  clear hl hE hLL hz hz0
  go_enter Try.func14, Try.ntmps14
  by_cases h0 : n = 0
  · subst h0
    have he : E = 2 := by rw [← HE.out]; unfold putE; rw [if_pos HL.out]
    obtain rfl := HZ.out (by rw [he]; decide)
    subst he
    go_wp2_with fail
    go_ret2
    exact ⟨rfl, World.grownBy.refl _ _⟩
  by_cases h1 : 32 < n
  · have he : E = 5 := by rw [← HE.out]; unfold putE; rw [if_neg (by have := HL.out; omega), if_pos (by have := HL.out; omega)]
    obtain rfl := HZ.out (by rw [he]; decide)
    subst he
    go_wp2_with fail
    go_ret2
    exact ⟨rfl, World.grownBy.refl _ _⟩
  have he : firstBad xs = E := by rw [← HE.out]; unfold putE; rw [if_neg (by have := HL.out; omega), if_neg (by have := HL.out; omega)]
  have HB := Lib.hid he
  clear he HE
  have hn0 : ((n : Int) == 0) = false := beq_eq_false_iff_ne.2 (by omega)
  have hn1 : decide (32 < (n : Int)) = false := by simp; omega
  have hcv := conv1_new 0 w
  simp only [UInt8.toNat_zero, Int.cast_ofNat_Int] at hcv
  have hG0 : w.grownBy (w.alloc (.cells #[.int .u8 0] 5)) none := only_alloc (World.grownBy.refl _ _) _
  go_wp2_with fail
  go_loopw [4, 5] (fun s i wr => ∃ (k : Nat) (sb : ByteArray), i = .int .i64 (k : Int) ∧ s = .string sb ∧ k ≤ n ∧ Hid (sb.data.toList = 0 :: (xs.take k).flatMap bytesF) ∧ Hid (firstBad (xs.take k) = 0) ∧ sb.size ≤ 1 + 4119 * k ∧ w.grownBy wr none) (fun _ i _ => n - (intOf i).toNat)
  case atStart => exact ⟨0, oneB 0, rfl, rfl, by omega, rfl, rfl, by show 1 ≤ _; omega, hG0⟩
  case round =>
    clear hcv hG0
    obtain ⟨k, sb, rfl, rfl, hk, hs, hf, hsz0, hG⟩ := hrel
    have hsz := hG.size
    by_cases hlt : k < n
    · obtain ⟨b, off, rfl, hbb, hc⟩ := (h.grown hG hB (by simp)).frames hlt
      obtain ⟨c0, c1, c2, c3⟩ := hc k hlt
      have hst := take_snoc xs k Frm.none_ (by have := HL.out; omega)
      have hdr : xs = xs.take (k + 1) ++ xs.drop (k + 1) := (List.take_append_drop _ _).symm
      generalize xs.getD k Frm.none_ = f at *
      have hfb := firstBad_snoc (xs.take k) f hf.out
      rw [← hst] at hfb
      have hone := oneR_any f wr
      have hol := oneF_len f
      obtain ⟨x, hx⟩ : ∃ x, checkF f = x := ⟨_, rfl⟩
      obtain ⟨O, hO⟩ : ∃ l : ByteArray, (⟨(oneF f).toArray⟩ : ByteArray) = l := ⟨_, rfl⟩
      have hOz : O.size ≤ 4119 := by rw [← hO]; exact hol
      rw [hx, hO] at hone
      rw [hx] at hfb
      have hbad : x ≠ 0 → E = x := by
        intro h0
        rw [← HB.out, hdr, firstBad_more _ _ (by rw [hfb]; exact h0), hfb]
      have hgood : x = 0 → ∀ t : ByteArray, t = sb ++ O → t.data.toList = 0 :: (xs.take (k + 1)).flatMap bytesF := by
        intro h0 t ht
        rw [ht, ba_toList, hs.out, hst, ← hO]
        unfold oneF
        rw [if_pos (by rw [hx]; exact h0)]
        simp
      have HBAD := Lib.hid hbad; have HGOOD := Lib.hid hgood; have HFB := Lib.hid hfb
      clear hc hst hdr hol hx hO hbad hgood hfb hs hf
      obtain ⟨id, num, data, last⟩ := f
      go_wp2_with fail
      refine hone.mono ?_
      rintro e w2 ⟨rfl, hg2⟩
      have hG2 := grown_self hG hg2 (by simp)
      clear hone hg2 hG c0 c1 c2 c3
      by_cases hx0 : x = 0
      · subst hx0
        obtain ⟨t, ht⟩ : ∃ t : ByteArray, sb ++ O = t := ⟨_, rfl⟩
        have htz : t.size = sb.size + O.size := by rw [← ht, ByteArray.size_append]
        have HT := Lib.hid (HGOOD.out rfl t ht.symm)
        have HTZ := Lib.hid htz
        clear HGOOD HBAD htz
        go_wp2_with fail
        go_roundw
        case rel => exact ⟨k + 1, t, by simp, rfl, by omega, HT.out, HFB.out, by have := HTZ.out; omega, hG2⟩
        case measure => simp [intOf]; omega
      · have hne : (x != 0) = true := by simpa using hx0
        have hne2 : (x == 0) = false := by simpa using hx0
        obtain rfl := HBAD.out hx0
        obtain rfl := HZ.out hx0
        clear HGOOD HBAD HFB
        go_wp2_with fail
        go_ret2
        exact ⟨rfl, hG2⟩
    · have ht : xs.take k = xs := List.take_of_length_le (by have := HL.out; omega)
      rw [ht] at hs hf
      have he : E = 0 := by rw [← HB.out]; exact hf.out
      have hsb : sb = L := ba_ext (by rw [hs.out]; exact HZ0.out he)
      subst hsb; subst he
      have hfin : decide ((k : Int) < (n : Int)) = false := by simp; omega
      have hfin2 : decide (k < n) = false := by simp; omega
      clear ht hs hf HZ0
      go_wp2_with fail
      go_ret2
      exact ⟨rfl, hG⟩
end Go.Proofs.Ytfafjnjdikofcaa
