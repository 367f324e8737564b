/- One item: bytes. -/
import Derived.Test.YthbeigcbmalldaaDoorUnrN
namespace Go.Proofs.YthbeigcbmalldaaDoor
open Go.RowKit Go.Shelf
set_option linter.unusedVariables false

theorem ba_ext' {s : ByteArray} {F N : Nat} : s.extract F (F + N) = ⟨((s.data.toList.drop F).take N).toArray⟩ := by
  apply ByteArray.ext
  apply Array.ext'
  rw [Lib.extract_data]
  simp
theorem no_items (S : Nat → Prop) (W : World) (c : Nat) : SubV S W [] (.slice none 0 c) := .mk [] none c [] (fun h => by cases h) (fun i h => by cases h)
set_option maxRecDepth 100000 in
set_option maxHeartbeats 600000 in
theorem item_txt (k : Nat) (s : ByteArray) (a r : Nat) (W : World) (hs : s.size ≤ 65536) (ha : a ≤ s.size) (hr : Blk W r 45 #[.int .i64 ((12 - k : Nat) : Int), .int .i64 0])
    (h1 : ¬ (a < s.size ∧ 192 ≤ headC s.data.toList a ∧ k = 0)) (he : lookE s.data.toList (a : Int) = 0) (hl : lookL s.data.toList (a : Int) = false) :
    Calls Tryd.prog 17 #[.pointer (some ⟨r, 0, none⟩), .string s, .int .i64 (a : Int)] W fun e W1 => ∃ l b sA sn sc tq, e = .returned (.tuple #[.agg #[.bool l, .string b, .slice sA sn sc], .int .i64 tq]) ∧ W.grownBy W1 (some r) ∧ ItemTail k s.data.toList a r W l b (.slice sA sn sc) tq W1 := by
  have hlz : s.data.toList.length = s.size := ba_len s
  have hlk := fun V => look_any s (a : Int) (by omega) V
  have hrl := hr.lt
  have hG := guard_no ha h1
  have hi := item_bytes (k := k) (by rw [hlz]; exact h1) he hl
  obtain ⟨b0, b1, _⟩ := look_ok he
  rw [hl, he] at hlk
  have HI := Lib.hid hi
  have hxA := Blk.new W 24 #[.bool false, .string ⟨#[]⟩, .slice none 0 0]
  have hrA := hr.alloc (.cells #[.bool false, .string ⟨#[]⟩, .slice none 0 0] 24)
  have hGA : W.grownBy (W.alloc (.cells #[.bool false, .string ⟨#[]⟩, .slice none 0 0] 24)) none := only_alloc (World.grownBy.refl _ _) _
  have k1 := (hr.alloc (.cells #[.bool false, .string ⟨#[]⟩, .slice none 0 0] 24)).cell 0
  simp only [List.getElem?_toArray, List.getElem?_cons_zero] at k1
  rw [hlz] at b1
  clear hi h1 hlz he hl
  generalize lookFrom s.data.toList (a : Int) = F at *
  generalize lookN s.data.toList (a : Int) = N at *
  generalize headC s.data.toList a = c at *
  have v1 : IntKind.i64.wrap ((F : Int) + (N : Int)) = (F : Int) + (N : Int) := IntWalk.i64_in _ (by omega)
  rcases hG with ⟨d1, d1'⟩ | ⟨d1, hid, d2⟩ | ⟨d1, hid, d2, d3⟩
  all_goals
    go_enter Tryd.func17, Tryd.ntmps17
    go_wp2_with fail
    refine (hlk _).mono ?_
    rintro e w2 ⟨rfl, hg⟩
    have y0 := hxA.grown hg (by simp)
    have y1 := hrA.grown hg (by simp)
    have hG2 := only_weak (grown_self hGA hg (by simp)) (some r)
    have z0 := y0.alloc (.cells #[.int .i64 (F : Int), .int .i64 (N : Int), .bool false] 49)
    have z1 := y1.alloc (.cells #[.int .i64 (F : Int), .int .i64 (N : Int), .bool false] 49)
    have z2 := Blk.new w2 49 #[.int .i64 (F : Int), .int .i64 (N : Int), .bool false]
    have hG3 := only_alloc hG2 (.cells #[.int .i64 (F : Int), .int .i64 (N : Int), .bool false] 49)
    clear hxA hrA hGA hg hlk hG2 y0 y1 k1 hr
    go_upto_region 8 with (fail)
    generalize w2.alloc (.cells #[.int .i64 (F : Int), .int .i64 (N : Int), .bool false] 49) = w3 at *
    have r0 := z2.cell 0; have r1 := z2.cell 1; have r2 := z2.cell 2
    have c0 := z0.cell 0; have c1 := z0.cell 1; have c2 := z0.cell 2
    have f0 := z0.frozen 0; have f1 := z0.frozen 1; have f2 := z0.frozen 2
    simp only [List.getElem?_toArray, List.getElem?_cons_zero, List.getElem?_cons_succ] at r0 r1 r2 c0 c1 c2
    have t2 := blk_set3 z0 (.bool false) (.string (s.extract F (F + N))) (.slice none 0 0)
    have t3 := ((z1.far (p := ⟨W.heap.size, 0, none⟩) (by show r ≠ W.heap.size; omega) (.bool false)).far (p := ⟨W.heap.size, 1, none⟩) (by show r ≠ W.heap.size; omega) (.string (s.extract F (F + N)))).far (p := ⟨W.heap.size, 2, none⟩) (by show r ≠ W.heap.size; omega) (.slice none 0 0)
    have t4 := only_set3 hG3 (g := W.heap.size) (Nat.le_refl _) (.bool false) (.string (s.extract F (F + N))) (.slice none 0 0)
    have T2 := Lib.hid t2; have T3 := Lib.hid t3; have T4 := Lib.hid t4
    clear z0 z1 z2 hG3 t2 t3 t4
    go_wp2_with fail
    refine bodyPost_ret (results_ct (fn := Tryd.f17) rfl _ _ _ _ rfl (load_item T2.out)) rfl ?_
    exact ⟨false, s.extract F (F + N), none, 0, 0, ((F : Int) + (N : Int)), rfl, T4.out, .inl ⟨_, _, HI.out, by simp, rfl, by rw [ba_ext']; rfl, T3.out, no_items _ _ _⟩⟩
end Go.Proofs.YthbeigcbmalldaaDoor
