/- The item of bytes (Decode). -/
import Derived.Test.YthbeigcbmalldaaDoorUnrP
namespace Go.Proofs.YthbeigcbmalldaaDoor
open Go.RowKit Go.Shelf
set_option linter.unusedVariables false
set_option linter.unusedSimpArgs false

/-- the item of bytes, as Decode has it -/
def decodeF (l : List UInt8) : Except Int Itm :=
  if 65536 < l.length then .error 5 else match itemF 12 l 0 with
    | .error e => .error e
    | .ok (x, q) => if q < l.length then .error 4 else .ok x
/-- what Decode answers -/
def DecTail (l : List UInt8) (W : World) (lst : Bool) (b : ByteArray) (sv : Value) (E : Int) (W1 : World) : Prop :=
  (∃ x, decodeF l = .ok x ∧ E = 0 ∧ lst = x.list ∧ b = x.bytes ∧ SubV (fun g => W.heap.size ≤ g) W1 x.items sv) ∨
  (decodeF l = .error E ∧ E ≠ 0 ∧ lst = false ∧ b = ⟨#[]⟩ ∧ sv = .slice none 0 0)
def DecEnd (l : List UInt8) (W : World) (e : Ending) (W1 : World) : Prop :=
  ∃ lst b sA sn sc E, e = .returned (.tuple #[.agg #[.bool lst, .string b, .slice sA sn sc], .int .i64 E]) ∧ W.grownBy W1 none ∧ DecTail l W lst b (.slice sA sn sc) E W1

set_option maxRecDepth 100000 in
set_option maxHeartbeats 600000 in
theorem decode_long (s : ByteArray) (W : World) (hs : 65536 < s.size) (hs2 : s.size ≤ 9223372036854775807) :
    Calls Tryd.prog 9 #[.string s] W (DecEnd s.data.toList W) := by
  have hd : Hid (decodeF s.data.toList = .error 5) := Lib.hid (by unfold decodeF; rw [if_pos (by rw [ba_len]; exact hs)])
  have d1 : (65536 : Int) < (s.size : Int) := by omega
  have hxA := Blk.new W 24 #[.bool false, .string ⟨#[]⟩, .slice none 0 0]
  have hGA : W.grownBy (W.alloc (.cells #[.bool false, .string ⟨#[]⟩, .slice none 0 0] 24)) none := only_alloc (World.grownBy.refl _ _) _
  go_enter Tryd.func9, Tryd.ntmps9
  go_wp2_with fail
  refine bodyPost_ret (results_ct (fn := Tryd.f9) rfl _ _ _ _ rfl (load_item hxA)) rfl ?_
  exact ⟨_, _, _, _, _, _, rfl, hGA, .inr ⟨hd.out, by decide, rfl, rfl, rfl⟩⟩

set_option maxRecDepth 100000 in
set_option maxHeartbeats 600000 in
theorem decode_short (s : ByteArray) (W : World) (hs : s.size ≤ 65536) :
    Calls Tryd.prog 9 #[.string s] W (DecEnd s.data.toList W) := by
  have hlz : s.data.toList.length = s.size := ba_len s
  have d1 : decide ((65536 : Int) < (s.size : Int)) = false := decide_eq_false (by omega)
  have hxA := Blk.new W 24 #[.bool false, .string ⟨#[]⟩, .slice none 0 0]
  have hGA : W.grownBy (W.alloc (.cells #[.bool false, .string ⟨#[]⟩, .slice none 0 0] 24)) none := only_alloc (World.grownBy.refl _ _) _
  have hit := fun V (h : Blk V (W.heap.size + 1) 45 #[.int .i64 0, .int .i64 0]) => item_any 12 (by decide) s 0 (W.heap.size + 1) V hs (by omega) h
  have HIT := Lib.hid hit
  clear hit
  go_enter Tryd.func9, Tryd.ntmps9
  go_wp2_with fail
  have hrB := Blk.new (W.alloc (.cells #[.bool false, .string ⟨#[]⟩, .slice none 0 0] 24)) 45 #[.int .i64 0, .int .i64 0]
  rw [World.size_alloc] at hrB
  have hxB := hxA.alloc (.cells #[.int .i64 0, .int .i64 0] 45)
  have hGB := only_alloc hGA (.cells #[.int .i64 0, .int .i64 0] 45)
  refine (HIT.out _ hrB).mono ?_
  rintro e w4 ⟨l, b, sA, sn, sc, tq, rfl, hg, hpost⟩
  have hxC := hxB.grown hg (by simp)
  have hGC := grown_self hGB hg (fun q e => .inr (by injection e; omega))
  have hz4 := hg.size
  simp only [World.size_alloc] at hz4
  have e12 : (12 - 12 : Nat) = 0 := rfl
  unfold ItemTail at hpost
  rw [e12, Int.ofNat_zero] at hpost
  have hnew := Blk.new w4 24 #[.bool l, .string b, .slice sA sn sc]
  have hxD := hxC.alloc (.cells #[.bool l, .string b, .slice sA sn sc] 24)
  have hGD := only_alloc hGC (.cells #[.bool l, .string b, .slice sA sn sc] 24)
  have hlt : W.heap.size + 1 < w4.heap.size := by omega
  have hz5 : (w4.alloc (.cells #[.bool l, .string b, .slice sA sn sc] 24)).heap.size = w4.heap.size + 1 := by simp
  have hz2 : W.heap.size ≤ ((W.alloc (.cells #[.bool false, .string ⟨#[]⟩, .slice none 0 0] 24)).alloc (.cells #[.int .i64 0, .int .i64 0] 45)).heap.size := by simp; omega
  rcases hpost with ⟨x, q, h1, rfl, rfl, rfl, h2, h3⟩ | ⟨E, h1, h2, h3⟩
  · have hrD := h2.alloc (.cells #[.bool x.list, .string x.bytes, .slice sA sn sc] 24)
    have hsub := h3.keep (W' := w4.alloc (.cells #[.bool x.list, .string x.bytes, .slice sA sn sc] 24)) (fun p hp u hu => by rw [World.cell?_alloc_lt w4 _ p (World.block_lt_of_cell? w4 p hu)]; exact hu)
    have hsub := hsub.weak (S' := fun g => W.heap.size + 2 ≤ g) (fun g hg' => by simpa using hg')
    have hne : w4.heap.size ≠ W.heap.size := by omega
    clear hxA hxB hxC hrB hGA hGB hGC hg h2 h3 HIT
    go_upto_region 5 with (fail)
    generalize w4.alloc (.cells #[.bool x.list, .string x.bytes, .slice sA sn sc] 24) = w5 at *
    have c1 := hrD.cell 1
    simp only [List.getElem?_toArray, List.getElem?_cons_zero, List.getElem?_cons_succ] at c1
    by_cases hq : q < s.size
    · have hd : Hid (decodeF s.data.toList = .error 4) := Lib.hid (by unfold decodeF; rw [if_neg (by omega), h1]; exact if_pos (by omega))
      have d2 : (q : Int) < (s.size : Int) := by omega
      have c0 := hxD.cell 0; have c2 := hxD.cell 1; have c3 := hxD.cell 2
      have f0 := hxD.frozen 0; have f1 := hxD.frozen 1; have f2 := hxD.frozen 2
      simp only [List.getElem?_toArray, List.getElem?_cons_zero, List.getElem?_cons_succ] at c0 c2 c3
      have t2 := blk_set3 hxD (.bool false) (.string ⟨#[]⟩) (.slice none 0 0)
      have t4 := only_set3 hGD (g := W.heap.size) (Nat.le_refl _) (.bool false) (.string ⟨#[]⟩) (.slice none 0 0)
      have T2 := Lib.hid t2; have T4 := Lib.hid t4
      clear t2 t4 hxD hGD hrD hnew h1 hsub
      go_wp2_with fail
      refine bodyPost_ret (results_ct (fn := Tryd.f9) rfl _ _ _ _ rfl (load_item T2.out)) rfl ?_
      exact ⟨_, _, _, _, _, _, rfl, T4.out, .inr ⟨hd.out, by decide, rfl, rfl, rfl⟩⟩
    · have hd : Hid (decodeF s.data.toList = .ok x) := Lib.hid (by unfold decodeF; rw [if_neg (by omega), h1]; exact if_neg (by omega))
      have d2 : decide ((q : Int) < (s.size : Int)) = false := decide_eq_false (by omega)
      have d3 : decide (q < s.size) = false := decide_eq_false hq
      go_upto_region 9 with (fail)
      have c0 := hxD.cell 0; have c2 := hxD.cell 1; have c3 := hxD.cell 2
      have f0 := hxD.frozen 0; have f1 := hxD.frozen 1; have f2 := hxD.frozen 2
      have l0 := hnew.cell 0; have l2 := hnew.cell 1; have l3 := hnew.cell 2
      simp only [List.getElem?_toArray, List.getElem?_cons_zero, List.getElem?_cons_succ] at c0 c2 c3 l0 l2 l3
      have t2 := blk_set3 hxD (.bool x.list) (.string x.bytes) (.slice sA sn sc)
      have t4 := only_set3 hGD (g := W.heap.size) (Nat.le_refl _) (.bool x.list) (.string x.bytes) (.slice sA sn sc)
      have t5 := (hsub.keep (W' := ((w5.setCell ⟨W.heap.size, 0, none⟩ (.bool x.list)).setCell ⟨W.heap.size, 1, none⟩ (.string x.bytes)).setCell ⟨W.heap.size, 2, none⟩ (.slice sA sn sc)) (fun p hp u hu => by
        rw [World.cell?_setCell_other _ _ _ _ (by intro e; subst e; have hp' : W.heap.size + 2 ≤ W.heap.size := hp; omega), World.cell?_setCell_other _ _ _ _ (by intro e; subst e; have hp' : W.heap.size + 2 ≤ W.heap.size := hp; omega), World.cell?_setCell_other _ _ _ _ (by intro e; subst e; have hp' : W.heap.size + 2 ≤ W.heap.size := hp; omega)]; exact hu)).weak (S' := fun g => W.heap.size ≤ g) (fun g hg' => by omega)
      have T2 := Lib.hid t2; have T4 := Lib.hid t4; have T5 := Lib.hid t5
      clear t2 t4 t5 hxD hGD hrD hnew h1 hsub
      go_wp2_with fail
      refine bodyPost_ret (results_ct (fn := Tryd.f9) rfl _ _ _ _ rfl (load_item T2.out)) rfl ?_
      exact ⟨_, _, _, _, _, _, rfl, T4.out, .inl ⟨x, hd.out, rfl, rfl, rfl, T5.out⟩⟩
  · have hd : Hid (decodeF s.data.toList = .error E) := Lib.hid (by unfold decodeF; rw [if_neg (by omega), h1])
    have hrD := h3.alloc (.cells #[.bool l, .string b, .slice sA sn sc] 24)
    have e1 : (E != 0) = true := by simpa using h2
    have HE := Lib.hid h2
    clear hxA hxB hxC hrB hGA hGB hGC hg h3 h2 HIT
    go_upto_region 5 with (fail)
    generalize w4.alloc (.cells #[.bool l, .string b, .slice sA sn sc] 24) = w5 at *
    have c1 := hrD.cell 1
    have c0 := hxD.cell 0; have c2 := hxD.cell 1; have c3 := hxD.cell 2
    have f0 := hxD.frozen 0; have f1 := hxD.frozen 1; have f2 := hxD.frozen 2
    simp only [List.getElem?_toArray, List.getElem?_cons_zero, List.getElem?_cons_succ] at c0 c2 c3 c1
    have t2 := blk_set3 hxD (.bool false) (.string ⟨#[]⟩) (.slice none 0 0)
    have t4 := only_set3 hGD (g := W.heap.size) (Nat.le_refl _) (.bool false) (.string ⟨#[]⟩) (.slice none 0 0)
    have T2 := Lib.hid t2; have T4 := Lib.hid t4
    clear t2 t4 hxD hGD hrD hnew h1
    go_upto_region 6 with (fail)
    go_region
    all_goals go_wp2_with fail
    all_goals
      refine bodyPost_ret (results_ct (fn := Tryd.f9) rfl _ _ _ _ rfl (load_item (Blk.drew T2.out))) rfl ?_
      exact ⟨_, _, _, _, _, _, rfl, ⟨T4.out.os, T4.out.tape, T4.out.output, T4.out.size, T4.out.block⟩, .inr ⟨hd.out, HE.out, rfl, rfl, rfl⟩⟩

theorem decode_any (s : ByteArray) (W : World) (hs : s.size ≤ 9223372036854775807) : Calls Tryd.prog 9 #[.string s] W (DecEnd s.data.toList W) := by
  rcases Nat.lt_or_ge 65536 s.size with h | h
  · exact decode_long s W h hs
  · exact decode_short s W h
end Go.Proofs.YthbeigcbmalldaaDoor
