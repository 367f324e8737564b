/- A frame's bytes: both. -/
import Derived.Test.YtfafjnjdikofcaaFrmB
import Derived.Deep.RegionHeld3
namespace Go.Proofs.Ytfafjnjdikofcaa
open Go.RowKit Go.Shelf

def lastB (b : Bool) : UInt8 := if b then 1 else 0
/-- the bytes of a frame that may be -/
def bytesF (f : Frm) : List UInt8 := f.id.data.toList ++ highL f.num.toNat 2 ++ highL f.data.size 4 ++ f.data.data.toList ++ [lastB f.last]
def oneF (f : Frm) : List UInt8 := if checkF f = 0 then bytesF f else []
theorem check_ok {f : Frm} (h : checkF f = 0) : f.id.size = 16 ∧ 0 ≤ f.num ∧ f.num ≤ 65535 ∧ f.data.size ≤ 4096 := by
  unfold checkF at h
  split at h
  · cases h
  · split at h
    · cases h
    · omega
theorem check_is (f : Frm) : checkF f = 0 ∨ checkF f = 2 ∨ checkF f = 5 := by unfold checkF; split <;> (try split) <;> simp

set_option maxRecDepth 100000 in
theorem cat_any (B : Nat) (A : Option Addr) (n c : Nat) (xs : List ByteArray) (w : World) (hB : B ≤ w.heap.size) (h : Reads w B 1 A n (xs.map Value.string)) (hnm : n ≤ 1000000) (hnc : n ≤ c) (hlen : (catB xs).length ≤ 140737488355328) :
    Calls Try.prog 19 #[.slice A n c] w fun e w' => e = .returned (.string ⟨(catB xs).toArray⟩) ∧ Below w.heap.size w w' := by
  have hj := join_any B A n c xs w hB h hnm hnc hlen
  obtain ⟨L, hL⟩ : ∃ l : ByteArray, (⟨(catB xs).toArray⟩ : ByteArray) = l := ⟨_, rfl⟩
  rw [hL] at hj ⊢
  clear h hL hlen
  go_enter Try.func19, Try.ntmps19
  go_wp2_with fail
  refine hj.mono ?_
  rintro e w1 ⟨rfl, hb⟩
  go_wp2_with fail
  go_ret
  exact ⟨rfl, hb⟩

theorem cat5_any (a b c d e : ByteArray) (W : World) (hl : (catB [a, b, c, d, e]).length ≤ 140737488355328) :
    Calls Try.prog 19 #[.slice (some ⟨W.heap.size, 0, none⟩) 5 5] (W.alloc (.cells #[.string a, .string b, .string c, .string d, .string e] 9)) fun r w' => r = .returned (.string ⟨(catB [a, b, c, d, e]).toArray⟩) ∧ (W.alloc (.cells #[.string a, .string b, .string c, .string d, .string e] 9)).grownBy w' none := by
  have hr : Reads (W.alloc (.cells #[.string a, .string b, .string c, .string d, .string e] 9)) (W.heap.size + 1) 1 (some ⟨W.heap.size, 0, none⟩) 5 ([a, b, c, d, e].map Value.string) := reads_blk (heap_alloc_new W _) (Nat.lt_succ_self _) 5 rfl
  refine (cat_any _ _ 5 5 [a, b, c, d, e] _ (by simp) hr (by omega) (by omega) hl).mono fun r w' ⟨hr, hb⟩ => ⟨hr, grown_of_below hb⟩

def highB (n : Nat) (k : Int) : ByteArray := ⟨(highL n k.toNat).toArray⟩
theorem numB_any (n : Nat) (k : Int) (hk : k = 2 ∨ k = 4) (w : World) :
    Calls Try.prog 20 #[.int .i64 (n : Int), .int .i64 k] w fun e w' => e = .returned (.string (highB n k)) ∧ w.grownBy w' none := by
  rcases hk with rfl | rfl
  · exact number_any n 2 (by omega) w
  · exact number_any n 4 (by omega) w
theorem highB_list (n k : Nat) : (highB n k).data.toList = highL n k := rfl

abbrev BoxS (w : World) (b : Nat) (v0 v1 v2 : Value) (W : World) : Prop := W.cell? ⟨b, 0, none⟩ = some v0 ∧ W.cell? ⟨b, 1, none⟩ = some v1 ∧ W.cell? ⟨b, 2, none⟩ = some v2 ∧ b < W.heap.size ∧ w.grownBy W none
theorem BoxS.grown {w : World} {b : Nat} {v0 v1 v2 : Value} {W W' : World} (h : BoxS w b v0 v1 v2 W) (hg : W.grownBy W' none) : BoxS w b v0 v1 v2 W' :=
  ⟨(World.cell?_of_block (hg.block b h.2.2.2.1 (by simp))).trans h.1, (World.cell?_of_block (hg.block b h.2.2.2.1 (by simp))).trans h.2.1, (World.cell?_of_block (hg.block b h.2.2.2.1 (by simp))).trans h.2.2.1, Nat.lt_of_lt_of_le h.2.2.2.1 hg.size, grown_self h.2.2.2.2 hg (by simp)⟩
theorem BoxS.alloc {w : World} {b : Nat} {v0 v1 v2 : Value} {W : World} (h : BoxS w b v0 v1 v2 W) (o : Obj) : BoxS w b v0 v1 v2 (W.alloc o) := h.grown (only_alloc (World.grownBy.refl _ _) _)
theorem BoxS.drew {w : World} {b : Nat} {v0 v1 v2 : Value} {W : World} (h : BoxS w b v0 v1 v2 W) : BoxS w b v0 v1 v2 W.drew := h.grown (only_drew (World.grownBy.refl _ _))

set_option maxRecDepth 100000 in
set_option maxHeartbeats 1000000 in
theorem one_any (f : Frm) (w : World) :
    Calls Try.prog 11 #[.agg #[.string f.id, .int .i64 f.num, .string f.data, .bool f.last]] w fun e w' => e = .returned (.tuple #[.string ⟨(oneF f).toArray⟩, .int .i64 (checkF f)]) ∧ w.grownBy w' none := by
  have hck := fun W => check_any f W
  have hok := fun h => check_ok (f := f) h
  obtain ⟨L, hL⟩ : ∃ l : ByteArray, (⟨(oneF f).toArray⟩ : ByteArray) = l := ⟨_, rfl⟩
  obtain ⟨x, hx⟩ : ∃ x, checkF f = x := ⟨_, rfl⟩
  rw [hx] at hck hok
  rw [hL, hx]
  have HL := Lib.hid hL; have HX := Lib.hid hx; have HOK := Lib.hid hok
  clear hL hx hok
  obtain ⟨id, num, data, last⟩ := f
  have hB0 := Blk.new w 24 #[.string id, .int .i64 num, .string data, .bool last]
  have hG0 : w.grownBy (w.alloc (.cells #[.string id, .int .i64 num, .string data, .bool last] 24)) none := only_alloc (World.grownBy.refl _ _) _
  go_enter Try.func11, Try.ntmps11
  go_wp2_with fail
  refine (hck _).mono ?_
  rintro e w2 ⟨rfl, hg⟩
  have hB := hB0.grown hg (by simp)
  have hG := grown_self hG0 hg (by simp)
  clear hck hg hB0 hG0
  have hlt := hB.lt
  have c0 := hB.cell 0
  have c1 := hB.cell 1
  have c2 := hB.cell 2
  have c3 := hB.cell 3
  simp only [List.getElem?_toArray, List.getElem?_cons_zero, List.getElem?_cons_succ] at c0 c1 c2 c3
  by_cases h0 : x = 0
  · subst h0
    obtain ⟨k1, k2, k3, k4⟩ := HOK.out rfl
    replace k1 : id.size = 16 := k1
    replace k2 : 0 ≤ num := k2
    replace k3 : num ≤ 65535 := k3
    replace k4 : data.size ≤ 4096 := k4
    obtain ⟨m, rfl⟩ := Int.eq_ofNat_of_zero_le k2
    have hbt : L = ⟨(bytesF ⟨id, m, data, last⟩).toArray⟩ := by rw [← HL.out]; unfold oneF; rw [if_pos HX.out]
    have HBT := Lib.hid hbt
    clear hbt HX HL HOK
    cases last
    · go_wp2_with fail
      have hS0 : BoxS w w.heap.size (.string id) (.int .i64 m) (.string data) w2 := ⟨c0, c1, c2, hlt, hG⟩
      obtain ⟨LB, hLB⟩ : ∃ p : ByteArray, (⟨#[0]⟩ : ByteArray) = p := ⟨_, rfl⟩
      obtain ⟨A2, hA2⟩ : ∃ p : ByteArray, highB m 2 = p := ⟨_, rfl⟩
      obtain ⟨A4, hA4⟩ : ∃ p : ByteArray, highB data.size 4 = p := ⟨_, rfl⟩
      have H2 := Lib.hid hA2; have H4 := Lib.hid hA4
      have hcat : catB [id, A2, A4, data, LB] = bytesF ⟨id, m, data, false⟩ := by rw [← hA2, ← hA4, ← hLB]; simp [catB, bytesF, lastB, highB]
      have hlen : (catB [id, A2, A4, data, LB]).length ≤ 140737488355328 := by
        rw [hcat]; simp only [bytesF, List.length_append, highL_len, ba_len, List.length_singleton]; omega
      have j5 := fun W => cat5_any id A2 A4 data LB W hlen
      rw [hcat, show (⟨(bytesF ⟨id, m, data, false⟩).toArray⟩ : ByteArray) = L from HBT.out.symm, ← hA2, ← hA4] at j5
      rw [hLB]
      clear hcat hlen hA2 hA4 hLB hB c0 c1 c2 c3 HBT hlt hG k1 k2 k3 k4 H2 H4
      go_region_held3 (fun W => W.cell? ⟨w.heap.size, 0, none⟩ = some (.string id) ∧ W.cell? ⟨w.heap.size, 1, none⟩ = some (.int .i64 m) ∧ W.cell? ⟨w.heap.size, 2, none⟩ = some (.string data) ∧ w.heap.size < W.heap.size ∧ w.grownBy W none)
        (first | exact BoxS.drew hS0 | exact BoxS.grown (by assumption) hg1 | exact BoxS.alloc (by assumption) _)
        (first | (go_at_call 20; refine (numB_any _ _ (by first | exact .inl rfl | exact .inr rfl) _).mono ?_; rintro e w3 ⟨rfl, hg1⟩) | (go_at_call 19; refine (j5 _).mono ?_; rintro e w5 ⟨rfl, hg1⟩))
      have hH : w.grownBy w5 none := by rename_i hx; exact hx.2.2.2.2
      clear hS0 j5 hg1
      go_wp2_with fail
      go_ret2
      exact ⟨rfl, hH⟩
    · go_wp2_with fail
      have hS0 : BoxS w w.heap.size (.string id) (.int .i64 m) (.string data) w2 := ⟨c0, c1, c2, hlt, hG⟩
      obtain ⟨LB, hLB⟩ : ∃ p : ByteArray, (⟨#[1]⟩ : ByteArray) = p := ⟨_, rfl⟩
      obtain ⟨A2, hA2⟩ : ∃ p : ByteArray, highB m 2 = p := ⟨_, rfl⟩
      obtain ⟨A4, hA4⟩ : ∃ p : ByteArray, highB data.size 4 = p := ⟨_, rfl⟩
      have H2 := Lib.hid hA2; have H4 := Lib.hid hA4
      have hcat : catB [id, A2, A4, data, LB] = bytesF ⟨id, m, data, true⟩ := by rw [← hA2, ← hA4, ← hLB]; simp [catB, bytesF, lastB, highB]
      have hlen : (catB [id, A2, A4, data, LB]).length ≤ 140737488355328 := by
        rw [hcat]; simp only [bytesF, List.length_append, highL_len, ba_len, List.length_singleton]; omega
      have j5 := fun W => cat5_any id A2 A4 data LB W hlen
      rw [hcat, show (⟨(bytesF ⟨id, m, data, true⟩).toArray⟩ : ByteArray) = L from HBT.out.symm, ← hA2, ← hA4] at j5
      rw [hLB]
      clear hcat hlen hA2 hA4 hLB hB c0 c1 c2 c3 HBT hlt hG k1 k2 k3 k4 H2 H4
      go_region_held3 (fun W => W.cell? ⟨w.heap.size, 0, none⟩ = some (.string id) ∧ W.cell? ⟨w.heap.size, 1, none⟩ = some (.int .i64 m) ∧ W.cell? ⟨w.heap.size, 2, none⟩ = some (.string data) ∧ w.heap.size < W.heap.size ∧ w.grownBy W none)
        (first | exact BoxS.drew hS0 | exact BoxS.grown (by assumption) hg1 | exact BoxS.alloc (by assumption) _)
        (first | (go_at_call 20; refine (numB_any _ _ (by first | exact .inl rfl | exact .inr rfl) _).mono ?_; rintro e w3 ⟨rfl, hg1⟩) | (go_at_call 19; refine (j5 _).mono ?_; rintro e w5 ⟨rfl, hg1⟩))
      have hH : w.grownBy w5 none := by rename_i hx; exact hx.2.2.2.2
      clear hS0 j5 hg1
      go_wp2_with fail
      go_ret2
      exact ⟨rfl, hH⟩
  · have hl0 : L = .empty := by rw [← HL.out]; unfold oneF; rw [if_neg (by rw [HX.out]; exact h0)]; rfl
    subst hl0
    have hne : (x != 0) = true := by simpa using h0
    have hne2 : (x == 0) = false := by simpa using h0
    go_wp2_with fail
    go_ret2
    exact ⟨rfl, hG⟩
end Go.Proofs.Ytfafjnjdikofcaa
