/- Merged: FldR, FldS, RcpG, RcpG2. -/
import Derived.Test.YthalohloneojlaaGreatDoorMi4
import Derived.Test.YthalohloneojlaaGreatDoorMi9
import Derived.Test.YthalohloneojlaaGreatDoorMi10
import Derived.Test.YthalohloneojlaaGreatDoorMi14
/- A number, a word, bytes, a list as an item: the document's. -/
namespace Go.Proofs.YthalohloneojlaaGreatDoor
open Go.RowKit Go.Shelf
set_option linter.unusedVariables false
set_option linter.unusedSimpArgs false

set_option maxRecDepth 100000 in
set_option maxHeartbeats 1000000 in
theorem numberR6_any (n : Nat) (hn : n < 18446744073709551616) (w : World) :
    Calls Tryz.prog 52 #[.int .u64 (n : Int)] w fun e w' => e = .returned (.agg #[.bool false, .string ⟨(beN n).toArray⟩, .slice none 0 0]) ∧ w.grownBy w' none := by
  have hB := Blk.new w 45 #[.bool false, .string ⟨#[]⟩, .slice none 0 0]
  have HG := Lib.hid (only_alloc (World.grownBy.refl w none) (.cells #[.bool false, .string ⟨#[]⟩, .slice none 0 0] 45))
  have hbe := fun V => beR_any n hn V
  obtain ⟨t, ht⟩ : ∃ t : ByteArray, (⟨(beN n).toArray⟩ : ByteArray) = t := ⟨_, rfl⟩
  rw [ht] at hbe ⊢
  have HBe := Lib.hid hbe
  clear hbe ht
  go_enter Tryz.func52, Tryz.ntmps52
  go_upto_region 1 with (fail)
  obtain ⟨b, hb⟩ : ∃ b, w.heap.size = b := ⟨_, rfl⟩
  have HW := Lib.hid hb
  rw [hb] at hB ⊢
  clear hb
  generalize w.alloc (.cells #[.bool false, .string ⟨#[]⟩, .slice none 0 0] 45) = W1 at *
  go_wp2_with fail
  refine (HBe.out _).mono ?_
  rintro e w3 ⟨rfl, hg3⟩
  have hB := hB.grown hg3 (by simp)
  have hG4 := grown_self HG.out hg3 (by simp)
  have hle : w.heap.size ≤ b := by have := HW.out; omega
  have HG5 := Lib.hid (only_set (only_set (only_set hG4 (p := ⟨b, 0, none⟩) hle (.bool false)) (p := ⟨b, 1, none⟩) hle (.string t)) (p := ⟨b, 2, none⟩) hle (.slice none 0 0))
  have HB5 := Lib.hid (((hB.set_ 0 (.bool false)).set_ 1 (.string t)).set_ 2 (.slice none 0 0))
  have c0 := hB.cell 0; have c1 := hB.cell 1; have c2 := hB.cell 2
  have d0 := hB.frozen 0; have d1 := hB.frozen 1; have d2 := hB.frozen 2
  simp only [List.getElem?_toArray, List.getElem?_cons_zero, List.getElem?_cons_succ] at c0 c1 c2
  clear hg3 hG4 hB hle
  go_wp2_with fail
  refine bodyPost_ret (results_cell1 (fn := Tryz.f52) rfl _ _ _ _ rfl (load_itemF HB5.out)) rfl ?_
  exact ⟨rfl, HG5.out⟩
set_option maxRecDepth 100000 in
theorem textR6_any (s : ByteArray) (w : World) :
    Calls Tryz.prog 86 #[.string s] w fun e w' => e = .returned (.agg #[.bool false, .string s, .slice none 0 0]) ∧ w.grownBy w' none := by
  have hB := Blk.new w 45 #[.bool false, .string s, .slice none 0 0]
  have hG := only_alloc (World.grownBy.refl w none) (.cells #[.bool false, .string s, .slice none 0 0] 45)
  go_enter Tryz.func86, Tryz.ntmps86
  go_wp2_with fail
  refine bodyPost_ret (results_cell1 (fn := Tryz.f86) rfl _ _ _ _ rfl (load_itemF hB)) rfl ?_
  exact ⟨rfl, hG⟩

set_option maxRecDepth 100000 in
theorem listR6_any (sv : Value) (hsv : ∃ A n c, sv = .slice A n c) (w : World) :
    Calls Tryz.prog 55 #[sv] w fun e w' => e = .returned (.agg #[.bool true, .string ⟨#[]⟩, sv]) ∧ w.grownBy w' none := by
  obtain ⟨A, n, c, rfl⟩ := hsv
  have hB := Blk.new w 45 #[.bool true, .string ⟨#[]⟩, .slice A n c]
  have hG := only_alloc (World.grownBy.refl w none) (.cells #[.bool true, .string ⟨#[]⟩, .slice A n c] 45)
  go_enter Tryz.func55, Tryz.ntmps55
  go_wp2_with fail
  refine bodyPost_ret (results_cell1 (fn := Tryz.f55) rfl _ _ _ _ rfl (load_itemF hB)) rfl ?_
  exact ⟨rfl, hG⟩
end Go.Proofs.YthalohloneojlaaGreatDoor
/- Yes or no as an item: the document's. -/
namespace Go.Proofs.YthalohloneojlaaGreatDoor
open Go.RowKit Go.Shelf
set_option linter.unusedVariables false
set_option linter.unusedSimpArgs false

set_option maxRecDepth 100000 in
set_option maxHeartbeats 1000000 in
theorem boolR6_no (w : World) :
    Calls Tryz.prog 51 #[.bool false] w fun e w' => e = .returned (.agg #[.bool false, .string ⟨#[]⟩, .slice none 0 0]) ∧ w.grownBy w' none := by
  have hB := Blk.new w 45 #[.bool false, .string ⟨#[]⟩, .slice none 0 0]
  have hG := only_alloc (World.grownBy.refl w none) (.cells #[.bool false, .string ⟨#[]⟩, .slice none 0 0] 45)
  go_enter Tryz.func51, Tryz.ntmps51
  go_wp2_with fail
  refine bodyPost_ret (results_cell1 (fn := Tryz.f51) rfl _ _ _ _ rfl (load_itemF hB)) rfl ?_
  exact ⟨rfl, hG⟩
set_option maxRecDepth 100000 in
set_option maxHeartbeats 1000000 in
theorem boolR6_yes (w : World) :
    Calls Tryz.prog 51 #[.bool true] w fun e w' => e = .returned (.agg #[.bool false, .string ⟨#[1]⟩, .slice none 0 0]) ∧ w.grownBy w' none := by
  have hB := (Blk.new w 45 #[.bool false, .string ⟨#[]⟩, .slice none 0 0]).alloc (.cells #[.int .u8 1] 5)
  have hG := only_alloc (only_alloc (World.grownBy.refl w none) (.cells #[.bool false, .string ⟨#[]⟩, .slice none 0 0] 45)) (.cells #[.int .u8 1] 5)
  have hcv : (convert 52 9 (.slice (some ⟨(w.alloc (.cells #[.bool false, .string ⟨#[]⟩, .slice none 0 0] 45)).heap.size, 0, none⟩) 1 1)).run Tryz.prog ((w.alloc (.cells #[.bool false, .string ⟨#[]⟩, .slice none 0 0] 45)).alloc (.cells #[.int .u8 1] 5)) = .ok (.string ⟨#[1]⟩) ((w.alloc (.cells #[.bool false, .string ⟨#[]⟩, .slice none 0 0] 45)).alloc (.cells #[.int .u8 1] 5)) := conv_one (w.alloc (.cells #[.bool false, .string ⟨#[]⟩, .slice none 0 0] 45)) 1
  rw [World.size_alloc] at hcv
  have HB5 := Lib.hid ((Blk.new w 45 #[.bool false, .string ⟨#[1]⟩, .slice none 0 0]).alloc (.cells #[.int .u8 1] 5))
  have HG5 := Lib.hid (only_alloc (only_alloc (World.grownBy.refl w none) (.cells #[.bool false, .string ⟨#[1]⟩, .slice none 0 0] 45)) (.cells #[.int .u8 1] 5))
  have c0 := hB.cell 0; have c1 := hB.cell 1; have c2 := hB.cell 2
  have d0 := hB.frozen 0; have d1 := hB.frozen 1; have d2 := hB.frozen 2
  simp only [List.getElem?_toArray, List.getElem?_cons_zero, List.getElem?_cons_succ] at c0 c1 c2
  clear hG hB
  go_enter Tryz.func51, Tryz.ntmps51
  go_wp2_with fail
  refine bodyPost_ret (results_cell1 (fn := Tryz.f51) rfl _ _ _ _ rfl (load_itemF HB5.out)) rfl ?_
  exact ⟨rfl, HG5.out⟩
theorem boolR6_any (v : Bool) (w : World) :
    Calls Tryz.prog 51 #[.bool v] w fun e w' => e = .returned (.agg #[.bool false, .string (yesS v), .slice none 0 0]) ∧ w.grownBy w' none := by
  cases v
  · exact boolR6_no w
  · exact boolR6_yes w
end Go.Proofs.YthalohloneojlaaGreatDoor
/- Receipts: the reader: keep, take. -/
namespace Go.Proofs.YthalohloneojlaaGreatDoor
open Go.RowKit Go.Shelf
set_option linter.unusedVariables false
set_option linter.unusedSimpArgs false

/-- an error as it is kept -/
def errV (wh : ByteArray) (E : Int) : Value := if E = 0 then .nilIface else .iface 159 (.agg #[.string wh, .iface 28 (.int .i64 E)])
theorem errV_0 (wh : ByteArray) : errV wh 0 = .nilIface := if_pos rfl
theorem errV_n (wh : ByteArray) {E : Int} (h : E ≠ 0) : errV wh E = .iface 159 (.agg #[.string wh, .iface 28 (.int .i64 E)]) := if_neg h
/-- the first error -/
def fst1 (E e : Int) : Int := if E = 0 then e else E
/-- a reader: the items left, in blocks below B; what is wrong -/
structure RdR (B : Nat) (w : World) (r : Nat) (l : List Itm) (E : Int) : Prop where
  ex : ∃ A c wh, Blk w r 67 #[.slice A l.length c, errV wh E] ∧ SubV (fun g => g < B) w l (.slice A l.length c)
  le : B ≤ r
theorem sub_kept {B : Nat} {w w' : World} {l : List Itm} {v : Value} {row : Option Nat} (h : SubV (fun g => g < B) w l v) (hg : w.grownBy w' row) (hr : ∀ k, row = some k → B ≤ k) : SubV (fun g => g < B) w' l v :=
  h.keep fun p hp u hu => hg.cell hu fun e => by have := hr _ e.symm; have h2 : p.block < B := hp; omega
theorem RdR.kept {B : Nat} {w w' : World} {r : Nat} {l : List Itm} {E : Int} {row : Option Nat} (h : RdR B w r l E) (hg : w.grownBy w' row) (hne : some r ≠ row) (hr : ∀ k, row = some k → B ≤ k) : RdR B w' r l E := by
  obtain ⟨A, c, wh, hb, hs⟩ := h.ex
  exact ⟨⟨A, c, wh, hb.grown hg hne, sub_kept hs hg hr⟩, h.le⟩
theorem RdR.lt {B : Nat} {w : World} {r : Nat} {l : List Itm} {E : Int} (h : RdR B w r l E) : r < w.heap.size := by
  obtain ⟨A, c, wh, hb, hs⟩ := h.ex
  exact hb.lt
theorem only_setR {a w : World} {g : Nat} (h : a.grownBy w (some g)) (i : Nat) (u : Value) : a.grownBy (w.setCell ⟨g, i, none⟩ u) (some g) := only_setCell h (p := ⟨g, i, none⟩) (.inl rfl) u
theorem grown_row {a w : World} (h : a.grownBy w none) (r : Option Nat) : a.grownBy w r := ⟨h.os, h.tape, h.output, h.size, fun k hk hne => h.block k hk (by simp)⟩

set_option maxRecDepth 100000 in
set_option maxHeartbeats 1000000 in
theorem keepR_any (wh : ByteArray) (e : Int) (B r : Nat) (l : List Itm) (E : Int) (w : World) (h : RdR B w r l E) :
    Calls Tryz.prog 62 #[.pointer (some ⟨r, 0, none⟩), .string wh, .int .i64 e] w fun x w' => x = .returned (.tuple #[]) ∧ RdR B w' r l (fst1 E e) ∧ w.grownBy w' (some r) := by
  obtain ⟨A, c, wh0, hb, hs⟩ := h.ex
  have hle := h.le
  have HR := Lib.hid h
  have HS := Lib.hid hs; have HB := Lib.hid hb
  clear h hs
  by_cases h0 : E = 0
  · subst h0
    rw [errV_0] at hb
    have c1 := hb.cell 1
    simp only [List.getElem?_toArray, List.getElem?_cons_zero, List.getElem?_cons_succ] at c1
    have f1 := hb.frozen 1
    by_cases h1 : e = 0
    · subst h1
      clear hb
      go_enter Tryz.func62, Tryz.ntmps62
      go_wp2_with fail
      go_end0
      exact ⟨rfl, HR.out, World.grownBy.refl w _⟩
    · have e1 : (e != 0) = true := by simpa using h1
      have HN := Lib.hid h1
      clear h1 hb
      go_enter Tryz.func62, Tryz.ntmps62
      go_wp2_with fail
      go_end0
      refine ⟨rfl, ⟨⟨A, c, wh, ?_, ?_⟩, hle⟩, only_setR (World.grownBy.refl w _) 1 _⟩
      · have := HB.out.set_ 1 (errV wh (fst1 0 e))
        rw [show fst1 0 e = e from if_pos rfl] at this ⊢
        rw [errV_n wh HN.out] at this ⊢
        exact this
      · exact sub_kept HS.out (only_setR (World.grownBy.refl w _) 1 _) fun k hk => by cases hk; exact hle
  · rw [errV_n wh0 h0] at hb
    have c1 := hb.cell 1
    simp only [List.getElem?_toArray, List.getElem?_cons_zero, List.getElem?_cons_succ] at c1
    have HN := Lib.hid h0
    clear hb h0
    go_enter Tryz.func62, Tryz.ntmps62
    go_wp2_with fail
    go_end0
    refine ⟨rfl, ?_, World.grownBy.refl w _⟩
    rw [show fst1 E e = E from if_neg HN.out]
    exact HR.out

theorem SubV.tail {S : Nat → Prop} {W : World} {x : Itm} {xs : List Itm} {b off c : Nat} (h : SubV S W (x :: xs) (.slice (some ⟨b, off, none⟩) (xs.length + 1) c)) : SubV S W xs (.slice (some ⟨b, off + 3, none⟩) xs.length (c - 1)) := by
  have hc := h.cap
  obtain ⟨_, vs, hx, hr⟩ := h.row
  refine .mk xs _ (c - 1) vs.tail (fun h0 => ?_) (fun i hi => ?_) (by omega)
  · obtain ⟨b', off', hA, hb, hcell⟩ := hr (by simp)
    cases hA
    refine ⟨b, off + 3, rfl, hb, fun i hi => ?_⟩
    have := hcell (i + 1) (by simp; omega)
    rw [show off + (i + 1) * 3 = off + 3 + i * 3 by omega] at this
    have e : vs.getD (i + 1) undef = vs.tail.getD i undef := by cases vs <;> rfl
    rw [e] at this
    exact this
  · have := hx (i + 1) (by simp; omega)
    have e : vs.getD (i + 1) undef = vs.tail.getD i undef := by cases vs <;> rfl
    rw [e] at this
    exact this
set_option maxRecDepth 100000 in
set_option maxHeartbeats 2000000 in
theorem takeR_any (B r : Nat) (l : List Itm) (E : Int) (w : World) (h : RdR B w r l E) :
    Calls Tryz.prog 61 #[.pointer (some ⟨r, 0, none⟩)] w fun x w' => ∃ sA sn sc, x = .returned (.agg #[.bool (l.headD Itm.none_).list, .string (l.headD Itm.none_).bytes, .slice sA sn sc]) ∧ SubV (fun g => g < B) w' (l.headD Itm.none_).items (.slice sA sn sc) ∧ RdR B w' r l.tail E ∧ w.grownBy w' (some r) := by
  have hlt := h.lt
  obtain ⟨A, c, wh0, hb, hs⟩ := h.ex
  have hle := h.le
  have hG1 := only_alloc (World.grownBy.refl w (some r)) (.cells #[.bool false, .string ⟨#[]⟩, .slice none 0 0] 45)
  have hb1 := hb.alloc (.cells #[.bool false, .string ⟨#[]⟩, .slice none 0 0] 45)
  have hx1 := Blk.new w 45 #[.bool false, .string ⟨#[]⟩, .slice none 0 0]
  have hR1 := h.kept (only_alloc (World.grownBy.refl w none) (.cells #[.bool false, .string ⟨#[]⟩, .slice none 0 0] 45)) (by simp) (by simp)
  have hs1 := sub_kept hs (only_alloc (World.grownBy.refl w none) (.cells #[.bool false, .string ⟨#[]⟩, .slice none 0 0] 45)) (by simp)
  obtain ⟨g, hg⟩ : ∃ g, w.heap.size = g := ⟨_, rfl⟩
  have HW := Lib.hid hg
  have c0 := hb1.cell 0
  simp only [List.getElem?_toArray, List.getElem?_cons_zero, List.getElem?_cons_succ] at c0
  clear hb hs h
  cases l with
  | nil =>
    rw [hg] at hx1
    have HB := Lib.hid hx1; have HR := Lib.hid hR1; have HG := Lib.hid hG1
    have x0 := hx1.cell 0; have x1 := hx1.cell 1; have x2 := hx1.cell 2
    simp only [List.getElem?_toArray, List.getElem?_cons_zero, List.getElem?_cons_succ] at x0 x1 x2
    clear hx1 hR1 hG1 hs1 hb1
    go_enter Tryz.func61, Tryz.ntmps61
    go_wp2_with fail
    refine bodyPost_ret (results_cell1 (fn := Tryz.f61) rfl _ _ _ _ rfl (load_itemF HB.out)) rfl ?_
    exact ⟨none, 0, 0, rfl, .mk [] none 0 [] (fun h => by cases h) (fun i h => by cases h), HR.out, HG.out⟩
  | cons x xs =>
    have hcap := hs1.cap
    obtain ⟨vs, hvs, hrow⟩ := hs1.row.2
    obtain ⟨b, off, rfl, hbS, hc⟩ := hrow (by simp)
    obtain ⟨i0, i1, i2⟩ := hc 0 (by simp)
    have hv0 := hvs 0 (by simp)
    simp only [Nat.zero_mul, Nat.add_zero, List.getD_cons_zero] at i0 i1 i2 hv0
    obtain ⟨sA, sc, hsv⟩ := hv0.slice
    rw [hsv] at hv0 i2
    have q0 : (0 : Int) < ((xs.length + 1 : Nat) : Int) := by omega
    have hz : (w.alloc (.cells #[.bool false, .string ⟨#[]⟩, .slice none 0 0] 45)).heap.size = g + 1 := by simp [hg]
    have hst := hs1.tail
    rw [hg] at hx1
    have hne : r < g := by omega
    have HL := Lib.hid hlt; have HSV := Lib.hid hv0
    clear hvs hrow hc hsv vs hlt hs1
    go_enter Tryz.func61, Tryz.ntmps61
    go_upto_region 1 with (fail)
    generalize w.alloc (.cells #[.bool false, .string ⟨#[]⟩, .slice none 0 0] 45) = W1 at *
    have f1 := hb1.frozen 0
    have x0 := hx1.cell 0; have x1 := hx1.cell 1; have x2 := hx1.cell 2
    have y0 := hx1.frozen 0; have y1 := hx1.frozen 1; have y2 := hx1.frozen 2
    simp only [List.getElem?_toArray, List.getElem?_cons_zero, List.getElem?_cons_succ] at x0 x1 x2
    have HX := Lib.hid hx1; have HR := Lib.hid hR1; have HG := Lib.hid hG1; have HT := Lib.hid hst; have HBL := Lib.hid hb1
    simp only [List.length_cons] at c0 hcap
    obtain ⟨il, hil⟩ : ∃ il, x.items.length = il := ⟨_, rfl⟩
    rw [hil] at i2 HSV
    clear hx1 hR1 hG1 hst hb1 hil hv0
    obtain ⟨A', hA', hS'⟩ : ∃ A', (if c = 1 then some (⟨b, off, none⟩ : Addr) else some ⟨b, off + 3, none⟩) = A' ∧ Hid (SubV (fun g => g < B) W1 xs (.slice A' xs.length (c - 1))) := by
      by_cases h1 : c = 1
      · subst h1
        have hx0 : xs = [] := List.eq_nil_of_length_eq_zero (by omega)
        subst hx0
        exact ⟨_, rfl, Lib.hid (.mk [] _ 0 [] (fun h => by cases h) (fun i h => by cases h))⟩
      · exact ⟨_, rfl, by rw [if_neg h1]; exact HT.out⟩
    have hend : ∀ (w' : World), w' = (((((W1.setCell ⟨r, 0, none⟩ (.slice A' xs.length (c - 1))).setCell ⟨g, 0, none⟩ (.bool x.list)).setCell ⟨g, 1, none⟩ (.string x.bytes)).setCell ⟨g, 2, none⟩ (.slice sA il sc)).alloc (.cells #[.bool x.list, .string x.bytes, .slice sA il sc] 45)) →
        Blk w' g 45 #[.bool x.list, .string x.bytes, .slice sA il sc] ∧ SubV (fun g => g < B) w' x.items (.slice sA il sc) ∧ RdR B w' r xs E ∧ w.grownBy w' (some r) := by
      rintro w' rfl
      have hBg : B ≤ g := by omega
      have ga : W1.grownBy (W1.setCell ⟨r, 0, none⟩ (.slice A' xs.length (c - 1))) (some r) := only_setR (World.grownBy.refl W1 _) 0 _
      have gc := only_setR (only_setR (only_setR (World.grownBy.refl (W1.setCell ⟨r, 0, none⟩ (.slice A' xs.length (c - 1))) (some g)) 0 (.bool x.list)) 1 (.string x.bytes)) 2 (.slice sA il sc)
      have gb := only_alloc (World.grownBy.refl ((((W1.setCell ⟨r, 0, none⟩ (.slice A' xs.length (c - 1))).setCell ⟨g, 0, none⟩ (.bool x.list)).setCell ⟨g, 1, none⟩ (.string x.bytes)).setCell ⟨g, 2, none⟩ (.slice sA il sc)) none) (.cells #[.bool x.list, .string x.bytes, .slice sA il sc] 45)
      have hB1 := ((((HX.out.grown ga (by simp; omega)).set_ 0 (.bool x.list)).set_ 1 (.string x.bytes)).set_ 2 (.slice sA il sc)).grown gb (by simp)
      have hR1 : RdR B (W1.setCell ⟨r, 0, none⟩ (.slice A' xs.length (c - 1))) r xs E := ⟨⟨A', c - 1, wh0, by simpa using HBL.out.set_ 0 (.slice A' xs.length (c - 1)), sub_kept hS'.out ga (fun k hk => by cases hk; exact hle)⟩, hle⟩
      exact ⟨by simpa using hB1, sub_kept (sub_kept (sub_kept HSV.out ga (fun k hk => by cases hk; exact hle)) gc (fun k hk => by cases hk; exact hBg)) gb (by simp), (hR1.kept gc (by simp; omega) (fun k hk => by cases hk; exact hBg)).kept gb (by simp) (by simp),
        grown_self (grown_self (grown_self HG.out ga (fun k hk => .inl hk)) gc (fun k hk => .inr (by cases hk; omega))) (grown_row gb (some r)) (fun k hk => .inl hk)⟩
    have HEND := Lib.hid hend
    clear hend HT HBL HX HR HG hS' HSV
    by_cases h1 : c = 1
    · subst h1
      have hx0 : xs = [] := List.eq_nil_of_length_eq_zero (by omega)
      subst hx0
      rw [if_pos rfl] at hA'
      subst hA'
      clear hcap
      go_wp2_with fail
      obtain ⟨e1, e2, e3, e4⟩ := HEND.out _ rfl
      refine bodyPost_ret (results_cell1 (fn := Tryz.f61) rfl _ _ _ _ rfl (load_itemF e1)) rfl ?_
      exact ⟨sA, il, sc, rfl, e2, e3, e4⟩
    · rw [if_neg h1] at hA'
      subst hA'
      go_wp2_with fail
      obtain ⟨e1, e2, e3, e4⟩ := HEND.out _ rfl
      refine bodyPost_ret (results_cell1 (fn := Tryz.f61) rfl _ _ _ _ rfl (load_itemF e1)) rfl ?_
      exact ⟨sA, il, sc, rfl, e2, e3, e4⟩
end Go.Proofs.YthalohloneojlaaGreatDoor
/- Receipts: the reader: yes, number, exact, data, row. -/
namespace Go.Proofs.YthalohloneojlaaGreatDoor
open Go.RowKit Go.Shelf
set_option linter.unusedVariables false
set_option linter.unusedSimpArgs false

def yesEI (y : Itm) : Int := if y.list then 2 else yesE y.bytes
def yesVI (y : Itm) : Bool := if y.list = false ∧ yesE y.bytes = 0 then yesV y.bytes else false
def exE (n : Nat) (y : Itm) : Int := if y.list = false ∧ y.bytes.size = n then 0 else 2
def datE (y : Itm) : Int := if y.list then 2 else textE y.bytes.size 0 4096
def datV (y : Itm) : ByteArray := if y.list = false ∧ textE y.bytes.size 0 4096 = 0 then y.bytes else ⟨#[]⟩
def rowE (lo hi : Int) (y : Itm) : Int := if y.list then textE y.items.length lo hi else 2
def rowL (lo hi : Int) (y : Itm) : List Itm := if y.list = true ∧ textE y.items.length lo hi = 0 then y.items else []

theorem fst1_0 (E : Int) : fst1 E 0 = E := by unfold fst1; split <;> simp_all
set_option maxRecDepth 100000 in
set_option maxHeartbeats 1000000 in
theorem yesR_any (B r : Nat) (l : List Itm) (E : Int) (w : World) (h : RdR B w r l E) :
    Calls Tryz.prog 63 #[.pointer (some ⟨r, 0, none⟩)] w fun x w' => x = .returned (.bool (yesVI (l.headD Itm.none_))) ∧ RdR B w' r l.tail (fst1 E (yesEI (l.headD Itm.none_))) ∧ w.grownBy w' (some r) := by
  have HT := Lib.hid (takeR_any B r l E w h)
  clear h
  generalize l.headD Itm.none_ = y at *
  have hc := fun sv V => getBool_any y.list y.bytes sv V
  rw [show (if y.list = false ∧ yesE y.bytes = 0 then yesV y.bytes else false) = yesVI y from rfl, show (if y.list = true then (2 : Int) else yesE y.bytes) = yesEI y from rfl] at hc
  generalize yesEI y = ee at *
  generalize yesVI y = vv at *
  have HC := Lib.hid hc
  clear hc
  go_enter Tryz.func63, Tryz.ntmps63
  go_wp2_with fail
  refine HT.out.mono ?_
  rintro e w2 ⟨sA, sn, sc, rfl, hs, hR, hG⟩
  have HR := Lib.hid hR; have HG := Lib.hid hG
  clear HT hs hR hG
  go_wp2_with fail
  refine (HC.out _ _).mono ?_
  rintro e w3 ⟨rfl, hg⟩
  have HK := Lib.hid (keepR_any ⟨#[121, 101, 115]⟩ ee B r l.tail E w3 (HR.out.kept hg (by simp) (by simp)))
  have HG2 := Lib.hid (grown_self HG.out (grown_row hg (some r)) (fun k hk => .inl hk))
  clear hg HR HG HC
  go_wp2_with fail
  refine HK.out.mono ?_
  rintro e w4 ⟨rfl, hR4, hG4⟩
  have HR := Lib.hid hR4; have HG := Lib.hid (grown_self HG2.out hG4 (fun k hk => .inl hk))
  clear HK HG2 hR4 hG4
  go_wp2_with fail
  go_ret
  exact ⟨rfl, HR.out, HG.out⟩
set_option maxRecDepth 100000 in
set_option maxHeartbeats 1000000 in
theorem numberR_any (B r : Nat) (l : List Itm) (E : Int) (w : World) (h : RdR B w r l E) (hsz : (l.headD Itm.none_).bytes.size ≤ 9223372036854775807) :
    Calls Tryz.prog 64 #[.pointer (some ⟨r, 0, none⟩)] w fun x w' => x = .returned (.int .u64 (numV (l.headD Itm.none_).list (l.headD Itm.none_).bytes : Nat)) ∧ RdR B w' r l.tail (fst1 E (numE (l.headD Itm.none_).list (l.headD Itm.none_).bytes)) ∧ w.grownBy w' (some r) := by
  have HT := Lib.hid (takeR_any B r l E w h)
  clear h
  generalize l.headD Itm.none_ = y at *
  have hc := fun sv V => getNumber_any y.list y.bytes sv hsz V
  generalize numE y.list y.bytes = ee at *
  generalize numV y.list y.bytes = vv at *
  have HC := Lib.hid hc
  clear hc
  go_enter Tryz.func64, Tryz.ntmps64
  go_wp2_with fail
  refine HT.out.mono ?_
  rintro e w2 ⟨sA, sn, sc, rfl, hs, hR, hG⟩
  have HR := Lib.hid hR; have HG := Lib.hid hG
  clear HT hs hR hG
  go_wp2_with fail
  refine (HC.out _ _).mono ?_
  rintro e w3 ⟨rfl, hg⟩
  have HK := Lib.hid (keepR_any ⟨#[110, 117, 109, 98, 101, 114]⟩ ee B r l.tail E w3 (HR.out.kept hg (by simp) (by simp)))
  have HG2 := Lib.hid (grown_self HG.out (grown_row hg (some r)) (fun k hk => .inl hk))
  clear hg HR HG HC
  go_wp2_with fail
  refine HK.out.mono ?_
  rintro e w4 ⟨rfl, hR4, hG4⟩
  have HR := Lib.hid hR4; have HG := Lib.hid (grown_self HG2.out hG4 (fun k hk => .inl hk))
  clear HK HG2 hR4 hG4
  go_wp2_with fail
  go_ret
  exact ⟨rfl, HR.out, HG.out⟩
set_option maxRecDepth 100000 in
set_option maxHeartbeats 1000000 in
theorem dataR_any (B r : Nat) (l : List Itm) (E : Int) (w : World) (h : RdR B w r l E) :
    Calls Tryz.prog 101 #[.pointer (some ⟨r, 0, none⟩)] w fun x w' => x = .returned (.string (datV (l.headD Itm.none_))) ∧ RdR B w' r l.tail (fst1 E (datE (l.headD Itm.none_))) ∧ w.grownBy w' (some r) := by
  have HT := Lib.hid (takeR_any B r l E w h)
  clear h
  generalize l.headD Itm.none_ = y at *
  have hc := fun sv V => getText_any y.list y.bytes sv 0 4096 V
  rw [show (if y.list = false ∧ textE y.bytes.size 0 4096 = 0 then y.bytes else ⟨#[]⟩) = datV y from rfl, show (if y.list = true then (2 : Int) else textE y.bytes.size 0 4096) = datE y from rfl] at hc
  generalize datE y = ee at *
  generalize datV y = vv at *
  have HC := Lib.hid hc
  clear hc
  go_enter Tryz.func101, Tryz.ntmps101
  go_wp2_with fail
  refine HT.out.mono ?_
  rintro e w2 ⟨sA, sn, sc, rfl, hs, hR, hG⟩
  have HR := Lib.hid hR; have HG := Lib.hid hG
  clear HT hs hR hG
  go_wp2_with fail
  refine (HC.out _ _).mono ?_
  rintro e w3 ⟨rfl, hg⟩
  have HK := Lib.hid (keepR_any ⟨#[100, 97, 116, 97]⟩ ee B r l.tail E w3 (HR.out.kept hg (by simp) (by simp)))
  have HG2 := Lib.hid (grown_self HG.out (grown_row hg (some r)) (fun k hk => .inl hk))
  clear hg HR HG HC
  go_wp2_with fail
  refine HK.out.mono ?_
  rintro e w4 ⟨rfl, hR4, hG4⟩
  have HR := Lib.hid hR4; have HG := Lib.hid (grown_self HG2.out hG4 (fun k hk => .inl hk))
  clear HK HG2 hR4 hG4
  go_wp2_with fail
  go_ret
  exact ⟨rfl, HR.out, HG.out⟩
set_option maxRecDepth 100000 in
set_option maxHeartbeats 2000000 in
theorem exactR_any (n : Nat) (B r : Nat) (l : List Itm) (E : Int) (w : World) (h : RdR B w r l E) :
    Calls Tryz.prog 100 #[.pointer (some ⟨r, 0, none⟩), .int .i64 (n : Int)] w fun x w' => x = .returned (.string (l.headD Itm.none_).bytes) ∧ RdR B w' r l.tail (fst1 E (exE n (l.headD Itm.none_))) ∧ w.grownBy w' (some r) := by
  have HT := Lib.hid (takeR_any B r l E w h)
  clear h
  generalize l.headD Itm.none_ = y at *
  obtain ⟨yl, s, yi⟩ := y
  obtain ⟨ee, hee⟩ : ∃ ee, exE n (.mk yl s yi) = ee := ⟨_, rfl⟩
  rw [hee]
  have hee2 : ee = if yl = false ∧ s.size = n then 0 else 2 := hee.symm
  simp only [Itm.list, Itm.bytes, Itm.items] at HT ⊢
  have q2 : ((s.size : Int) != (n : Int)) = !decide (s.size = n) := by
    by_cases hh : s.size = n
    · simp [hh]
    · have : (s.size : Int) ≠ n := by omega
      simp [hh, this]
  have HE := Lib.hid hee2
  clear hee hee2
  go_enter Tryz.func100, Tryz.ntmps100
  go_wp2_with fail
  refine HT.out.mono ?_
  rintro e w2 ⟨sA, sn, sc, rfl, hs, hR, hG⟩
  have hB := Blk.new w2 45 #[.bool yl, .string s, .slice sA sn sc]
  have hg2 := only_alloc (World.grownBy.refl w2 none) (.cells #[.bool yl, .string s, .slice sA sn sc] 45)
  have HLT := Lib.hid hR.lt
  have HR := Lib.hid (hR.kept hg2 (by simp) (by simp)); have HG := Lib.hid (grown_self hG (grown_row hg2 (some r)) (fun k hk => .inl hk))
  obtain ⟨g, hg⟩ : ∃ g, w2.heap.size = g := ⟨_, rfl⟩
  rw [hg] at hB HLT
  have HBB := Lib.hid hB
  have HW := Lib.hid hg
  have Q2 := Lib.hid q2
  clear HT hs hR hG hg2 q2
  go_upto_region 2 with (fail)
  generalize w2.alloc (.cells #[.bool yl, .string s, .slice sA sn sc] 45) = W3 at *
  have x0 := hB.cell 0; have x1 := hB.cell 1
  simp only [List.getElem?_toArray, List.getElem?_cons_zero, List.getElem?_cons_succ] at x0 x1
  clear hB hg
  have HN := Lib.hid (fun V (hV : RdR B V r l.tail E) => keepR_any ⟨#[98, 121, 116, 101, 115]⟩ 2 B r l.tail E V hV)
  generalize hd : decide (s.size = n) = d at *
  have HD := Lib.hid hd
  clear hd
  cases yl with
  | false =>
    cases d with
    | true =>
      have HS : Hid (ee = 0) := Lib.hid (by rw [HE.out, if_pos ⟨rfl, of_decide_eq_true HD.out⟩])
      have q2 : ((s.size : Int) != (n : Int)) = false := Q2.out
      clear HE
      go_wp2_with fail
      go_ret
      exact ⟨rfl, by rw [HS.out, fst1_0]; exact HR.out, HG.out⟩
    | false =>
      have HS : Hid (ee = 2) := Lib.hid (by rw [HE.out, if_neg (fun h => of_decide_eq_false HD.out h.2)])
      have q2 : ((s.size : Int) != (n : Int)) = true := Q2.out
      clear HE
      go_wp2_with fail
      refine (HN.out _ HR.out).mono ?_
      rintro e w4 ⟨rfl, hR4, hG4⟩
      have hlt := HLT.out
      have hb4 := HBB.out.grown hG4 (by simp; omega)
      have x1 := hb4.cell 1
      simp only [List.getElem?_toArray, List.getElem?_cons_zero, List.getElem?_cons_succ] at x1
      have HR4 := Lib.hid hR4; have HG4 := Lib.hid (grown_self HG.out hG4 (fun k hk => .inl hk))
      clear hR4 hG4 hb4 hlt
      go_wp2_with fail
      go_ret
      exact ⟨rfl, by rw [HS.out]; exact HR4.out, HG4.out⟩
  | true =>
      have HS : Hid (ee = 2) := Lib.hid (by rw [HE.out, if_neg (fun h => by simp at h)])
      clear HE
      go_wp2_with fail
      refine (HN.out _ HR.out).mono ?_
      rintro e w4 ⟨rfl, hR4, hG4⟩
      have hlt := HLT.out
      have hb4 := HBB.out.grown hG4 (by simp; omega)
      have x1 := hb4.cell 1
      simp only [List.getElem?_toArray, List.getElem?_cons_zero, List.getElem?_cons_succ] at x1
      have HR4 := Lib.hid hR4; have HG4 := Lib.hid (grown_self HG.out hG4 (fun k hk => .inl hk))
      clear hR4 hG4 hb4 hlt
      go_wp2_with fail
      go_ret
      exact ⟨rfl, by rw [HS.out]; exact HR4.out, HG4.out⟩
set_option maxRecDepth 100000 in
set_option maxHeartbeats 1000000 in
theorem rowR_any (lo hi : Int) (B r : Nat) (l : List Itm) (E : Int) (w : World) (h : RdR B w r l E) :
    Calls Tryz.prog 40 #[.pointer (some ⟨r, 0, none⟩), .int .i64 lo, .int .i64 hi] w fun x w' => ∃ r2, x = .returned (.pointer (some ⟨r2, 0, none⟩)) ∧ w.heap.size ≤ r2 ∧ RdR B w' r l.tail (fst1 E (rowE lo hi (l.headD Itm.none_))) ∧ RdR B w' r2 (rowL lo hi (l.headD Itm.none_)) (fst1 E (rowE lo hi (l.headD Itm.none_))) ∧ w.grownBy w' (some r) := by
  have HT := Lib.hid (takeR_any B r l E w h)
  have HLT := Lib.hid h.lt; have HLE := Lib.hid h.le
  clear h
  generalize l.headD Itm.none_ = y at *
  have hc := fun A c V => getList_any y.list y.bytes A y.items.length c lo hi V
  rw [show (if y.list = true then textE y.items.length lo hi else (2 : Int)) = rowE lo hi y from rfl] at hc
  have hy : rowL lo hi y = if y.list = true ∧ textE y.items.length lo hi = 0 then y.items else [] := rfl
  generalize rowE lo hi y = ee at *
  generalize rowL lo hi y = zs at *
  have HC := Lib.hid hc; have HY := Lib.hid hy
  obtain ⟨E2, hE2⟩ : ∃ E2, fst1 E ee = E2 := ⟨_, rfl⟩
  rw [hE2]
  have HE2 := Lib.hid hE2
  clear hc hy hE2
  go_enter Tryz.func40, Tryz.ntmps40
  go_wp2_with fail
  refine HT.out.mono ?_
  rintro e w2 ⟨sA, sn, sc, rfl, hs, hR, hG⟩
  obtain rfl := hs.row.1
  have HR := Lib.hid hR; have HG := Lib.hid hG; have HS := Lib.hid hs
  clear HT hs hR hG
  go_wp2_with fail
  refine (HC.out _ _ _).mono ?_
  rintro e w3 ⟨rfl, hg⟩
  have HK := Lib.hid (keepR_any ⟨#[108, 105, 115, 116]⟩ ee B r l.tail E w3 (HR.out.kept hg (by simp) (by simp)))
  have HG2 := Lib.hid (grown_self HG.out (grown_row hg (some r)) (fun k hk => .inl hk))
  have hlv : ∃ A' c', (if y.list = true ∧ textE y.items.length lo hi = 0 then Value.slice sA y.items.length sc else .slice none 0 0) = .slice A' zs.length c' ∧ SubV (fun g => g < B) w3 zs (.slice A' zs.length c') := by
    have hy := HY.out
    by_cases hh : y.list = true ∧ textE y.items.length lo hi = 0
    · rw [if_pos hh] at hy ⊢
      subst hy
      exact ⟨sA, sc, rfl, sub_kept HS.out hg (by simp)⟩
    · rw [if_neg hh] at hy ⊢
      subst hy
      exact ⟨none, 0, rfl, .mk [] none 0 [] (fun h => by cases h) (fun i h => by cases h)⟩
  obtain ⟨A', c', hv, hS3⟩ := hlv
  rw [hv]
  have HS3 := Lib.hid hS3
  clear hg HR HG HS hS3 hv HC HY
  go_wp2_with fail
  refine HK.out.mono ?_
  rintro e w4 ⟨rfl, hR4, hG4⟩
  rw [HE2.out] at hR4
  obtain ⟨Al, cl, wh, hb4, hs4⟩ := hR4.ex
  have c1 := hb4.cell 1
  simp only [List.getElem?_toArray, List.getElem?_cons_zero, List.getElem?_cons_succ] at c1
  have hle := HLE.out
  have HS4 := Lib.hid (sub_kept HS3.out hG4 (fun k hk => by cases hk; exact hle))
  have HR := Lib.hid hR4; have HG := Lib.hid (grown_self HG2.out hG4 (fun k hk => .inl hk))
  clear HK HG2 hR4 hG4 hb4 hs4 HS3 hle
  have hfin : Hid (∃ r2, w4.heap.size = r2) := Lib.hid ⟨_, rfl⟩
  have HEND : Hid (w.heap.size ≤ w4.heap.size ∧ RdR B (w4.alloc (.cells #[.slice A' zs.length c', errV wh E2] 67)) r l.tail E2 ∧ RdR B (w4.alloc (.cells #[.slice A' zs.length c', errV wh E2] 67)) w4.heap.size zs E2 ∧ w.grownBy (w4.alloc (.cells #[.slice A' zs.length c', errV wh E2] 67)) (some r)) := by
    have hg5 := only_alloc (World.grownBy.refl w4 none) (.cells #[.slice A' zs.length c', errV wh E2] 67)
    refine Lib.hid ⟨HG.out.size, HR.out.kept hg5 (by simp) (by simp), ⟨⟨A', c', wh, Blk.new w4 _ _, sub_kept HS4.out hg5 (by simp)⟩, ?_⟩, grown_self HG.out (grown_row hg5 (some r)) (fun k hk => .inl hk)⟩
    have h1 := HLT.out; have h2 := HG.out.size; have h3 := HLE.out
    omega
  clear HG HR HS4 hfin
  by_cases h0 : E2 = 0
  · subst h0
    rw [errV_0] at c1
    rw [errV_0] at HEND
    go_wp2_with fail
    go_ret
    exact ⟨_, rfl, HEND.out⟩
  · rw [errV_n _ h0] at c1 HEND
    go_wp2_with fail
    go_ret
    exact ⟨_, rfl, HEND.out⟩
end Go.Proofs.YthalohloneojlaaGreatDoor
