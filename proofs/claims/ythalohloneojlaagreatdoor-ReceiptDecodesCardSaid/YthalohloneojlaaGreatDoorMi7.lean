/- Merged: UnrJ, UnrM, UnrN, UnrO, Set5, TxA, TxB. -/
import Derived.Test.YthalohloneojlaaGreatDoorMi1
import Derived.Test.YthalohloneojlaaGreatDoorMi4
import Derived.Test.YthalohloneojlaaGreatDoorMi6
import Derived.Laws.EntriesVeiled
import Derived.Deep.DeepCutAuto
import Derived.Laws.StructEq
/- The items of a list (items). -/
namespace Go.Proofs.YthalohloneojlaaGreatDoor
open Go.RowKit Go.Shelf
set_option linter.unnecessarySimpa false
attribute [local go_sem] Oper.semAt_some

/-- the boxes that items lays -/
theorem boxes5 (w : World) (r : Nat) (s : ByteArray) (d e : Int) (hr : Blk w r 95 #[.int .i64 d, .int .i64 e]) :
    Blk (((((w.alloc (.cells #[.pointer (some ⟨r, 0, none⟩)] 93)).alloc (.cells #[.string s] 9)).alloc (.cells #[.bool false, .string ⟨#[]⟩, .slice none 0 0] 45)).alloc (.cells #[.bool true, .string ⟨#[]⟩, .slice none 0 0] 45)).alloc (.cells #[(.func (.func 59) #[.pointer (some ⟨r, 0, none⟩)] #[])] 97)) r 95 #[.int .i64 d, .int .i64 e] ∧ Boxed (((((w.alloc (.cells #[.pointer (some ⟨r, 0, none⟩)] 93)).alloc (.cells #[.string s] 9)).alloc (.cells #[.bool false, .string ⟨#[]⟩, .slice none 0 0] 45)).alloc (.cells #[.bool true, .string ⟨#[]⟩, .slice none 0 0] 45)).alloc (.cells #[(.func (.func 59) #[.pointer (some ⟨r, 0, none⟩)] #[])] 97)) w.heap.size 93 (.pointer (some ⟨r, 0, none⟩)) ∧ Boxed (((((w.alloc (.cells #[.pointer (some ⟨r, 0, none⟩)] 93)).alloc (.cells #[.string s] 9)).alloc (.cells #[.bool false, .string ⟨#[]⟩, .slice none 0 0] 45)).alloc (.cells #[.bool true, .string ⟨#[]⟩, .slice none 0 0] 45)).alloc (.cells #[(.func (.func 59) #[.pointer (some ⟨r, 0, none⟩)] #[])] 97)) (w.heap.size + 1) 9 (.string s) ∧ Blk (((((w.alloc (.cells #[.pointer (some ⟨r, 0, none⟩)] 93)).alloc (.cells #[.string s] 9)).alloc (.cells #[.bool false, .string ⟨#[]⟩, .slice none 0 0] 45)).alloc (.cells #[.bool true, .string ⟨#[]⟩, .slice none 0 0] 45)).alloc (.cells #[(.func (.func 59) #[.pointer (some ⟨r, 0, none⟩)] #[])] 97)) (w.heap.size + 1 + 1) 45 #[.bool false, .string ⟨#[]⟩, .slice none 0 0] ∧
    Blk (((((w.alloc (.cells #[.pointer (some ⟨r, 0, none⟩)] 93)).alloc (.cells #[.string s] 9)).alloc (.cells #[.bool false, .string ⟨#[]⟩, .slice none 0 0] 45)).alloc (.cells #[.bool true, .string ⟨#[]⟩, .slice none 0 0] 45)).alloc (.cells #[(.func (.func 59) #[.pointer (some ⟨r, 0, none⟩)] #[])] 97)) (w.heap.size + 1 + 1 + 1) 45 #[.bool true, .string ⟨#[]⟩, .slice none 0 0] ∧ Boxed (((((w.alloc (.cells #[.pointer (some ⟨r, 0, none⟩)] 93)).alloc (.cells #[.string s] 9)).alloc (.cells #[.bool false, .string ⟨#[]⟩, .slice none 0 0] 45)).alloc (.cells #[.bool true, .string ⟨#[]⟩, .slice none 0 0] 45)).alloc (.cells #[(.func (.func 59) #[.pointer (some ⟨r, 0, none⟩)] #[])] 97)) (w.heap.size + 1 + 1 + 1 + 1) 97 (.func (.func 59) #[.pointer (some ⟨r, 0, none⟩)] #[]) ∧ w.grownBy (((((w.alloc (.cells #[.pointer (some ⟨r, 0, none⟩)] 93)).alloc (.cells #[.string s] 9)).alloc (.cells #[.bool false, .string ⟨#[]⟩, .slice none 0 0] 45)).alloc (.cells #[.bool true, .string ⟨#[]⟩, .slice none 0 0] 45)).alloc (.cells #[(.func (.func 59) #[.pointer (some ⟨r, 0, none⟩)] #[])] 97)) none ∧ (((((w.alloc (.cells #[.pointer (some ⟨r, 0, none⟩)] 93)).alloc (.cells #[.string s] 9)).alloc (.cells #[.bool false, .string ⟨#[]⟩, .slice none 0 0] 45)).alloc (.cells #[.bool true, .string ⟨#[]⟩, .slice none 0 0] 45)).alloc (.cells #[(.func (.func 59) #[.pointer (some ⟨r, 0, none⟩)] #[])] 97)).heap.size = w.heap.size + 5 := by
  have h0 := Boxed.new w 93 (.pointer (some ⟨r, 0, none⟩))
  have h1 := Boxed.new (w.alloc (.cells #[.pointer (some ⟨r, 0, none⟩)] 93)) 9 (.string s)
  have h2 := Blk.new ((w.alloc (.cells #[.pointer (some ⟨r, 0, none⟩)] 93)).alloc (.cells #[.string s] 9)) 45 #[.bool false, .string ⟨#[]⟩, .slice none 0 0]
  have h3 := Blk.new (((w.alloc (.cells #[.pointer (some ⟨r, 0, none⟩)] 93)).alloc (.cells #[.string s] 9)).alloc (.cells #[.bool false, .string ⟨#[]⟩, .slice none 0 0] 45)) 45 #[.bool true, .string ⟨#[]⟩, .slice none 0 0]
  have h4 := Boxed.new ((((w.alloc (.cells #[.pointer (some ⟨r, 0, none⟩)] 93)).alloc (.cells #[.string s] 9)).alloc (.cells #[.bool false, .string ⟨#[]⟩, .slice none 0 0] 45)).alloc (.cells #[.bool true, .string ⟨#[]⟩, .slice none 0 0] 45)) 97 (.func (.func 59) #[.pointer (some ⟨r, 0, none⟩)] #[])
  simp only [World.size_alloc] at h1 h2 h3 h4
  exact ⟨(((((hr.alloc _).alloc _).alloc _).alloc _).alloc _), (((h0.alloc _).alloc _).alloc _).alloc _, ((h1.alloc _).alloc _).alloc _, (h2.alloc _).alloc _, h3.alloc _, h4, only_alloc (only_alloc (only_alloc (only_alloc (only_alloc (World.grownBy.refl _ _) _) _) _) _) _, by simp⟩

set_option maxRecDepth 100000 in
set_option maxHeartbeats 4000000 in
theorem items_any (k : Nat) (hk : k ≤ 11) (hC : ItemC k) (s : ByteArray) (F r : Nat) (w : World) (hs : s.size ≤ 65536) (hr : Blk w r 95 #[.int .i64 ((11 - k : Nat) : Int), .int .i64 0]) :
    Calls Tryz.prog 96 #[.pointer (some ⟨r, 0, none⟩), .string s, .int .i64 (F : Int)] w fun e w' => ∃ sA sn sc, e = .returned (.agg #[.bool true, .string .empty, .slice sA sn sc]) ∧ w.grownBy w' (some r) ∧
      ((∃ xs, itemsF (itemF k s.data.toList) s.size 513 0 F = .ok xs ∧ Blk w' r 95 #[.int .i64 ((11 - k : Nat) : Int), .int .i64 0] ∧ SubV (fun g => w.heap.size ≤ g) w' xs (.slice sA sn sc)) ∨
       (∃ E, itemsF (itemF k s.data.toList) s.size 513 0 F = .error E ∧ E ≠ 0 ∧ Blk w' r 95 #[.int .i64 ((11 - k : Nat) : Int), .int .i64 E])) := by
  refine (callsIn_wide (n := 6)).1 ?_
  refine callsIn_of_wp_marks Tryz.func96 rfl trivial ?_ rfl
  simp only [Tryz.ntmps96, List.size_toArray, List.length_cons, List.length_nil, Nat.reduceAdd, Nat.reduceSub, Array.replicate_succ, Array.replicate_zero, List.push_toArray, List.append_toArray, List.nil_append, List.cons_append]
  obtain ⟨q, q0, q1, q2, q3, q4, hg5, hz5⟩ := boxes5 w r s ((11 - k : Nat) : Int) 0 hr
  have hrl := hr.lt
  have p := q.set_ 0 (.int .i64 ((12 - k : Nat) : Int))
  simp only [List.setIfInBounds_toArray, List.set_cons_zero] at p
  have p0 := q0.other (B' := r) (by omega) (.int .i64 ((12 - k : Nat) : Int))
  have p1 := q1.other (B' := r) (by omega) (.int .i64 ((12 - k : Nat) : Int))
  have p2 := q2.far (p := ⟨r, 0, none⟩) (by show w.heap.size + 1 + 1 ≠ r; omega) (.int .i64 ((12 - k : Nat) : Int))
  have p3 := q3.far (p := ⟨r, 0, none⟩) (by show w.heap.size + 1 + 1 + 1 ≠ r; omega) (.int .i64 ((12 - k : Nat) : Int))
  have p4 := q4.other (B' := r) (by omega) (.int .i64 ((12 - k : Nat) : Int))
  have c0 := q.cell 0; have f0 := q.frozen 0
  have c1 := p0.cell; have c2 := p1.cell
  simp only [List.getElem?_toArray, List.getElem?_cons_zero] at c0
  have v1 : IntKind.i64.wrap (((11 - k : Nat) : Int) + 1) = ((12 - k : Nat) : Int) := by rw [IntWalk.i64_in _ (by omega)]; omega
  have v2 : ((11 - k : Nat) : Int) + 1 = ((12 - k : Nat) : Int) := by omega
  gi_wp2_with fail
  refine ⟨trivial, callsIn_wide.2 ((places_any _ _ _ _ _ _).mono ?_)⟩
  have hg6 : w.grownBy ((((((w.alloc (.cells #[.pointer (some ⟨r, 0, none⟩)] 93)).alloc (.cells #[.string s] 9)).alloc (.cells #[.bool false, .string ⟨#[]⟩, .slice none 0 0] 45)).alloc (.cells #[.bool true, .string ⟨#[]⟩, .slice none 0 0] 45)).alloc (.cells #[(.func (.func 59) #[.pointer (some ⟨r, 0, none⟩)] #[])] 97)).setCell ⟨r, 0, none⟩ (.int .i64 ((12 - k : Nat) : Int))) (some r) := ⟨hg5.os, hg5.tape, hg5.output, by simpa [World.setCell] using hg5.size, fun g h1 h2 => (Below.heap_setCell _ ⟨r, 0, none⟩ _ g (by simpa using h2)).trans (hg5.block g h1 (by simp))⟩
  have hz6 : ((((((w.alloc (.cells #[.pointer (some ⟨r, 0, none⟩)] 93)).alloc (.cells #[.string s] 9)).alloc (.cells #[.bool false, .string ⟨#[]⟩, .slice none 0 0] 45)).alloc (.cells #[.bool true, .string ⟨#[]⟩, .slice none 0 0] 45)).alloc (.cells #[(.func (.func 59) #[.pointer (some ⟨r, 0, none⟩)] #[])] 97)).setCell ⟨r, 0, none⟩ (.int .i64 ((12 - k : Nat) : Int))).heap.size = w.heap.size + 5 := by simpa [World.setCell] using hz5
  generalize ((((((w.alloc (.cells #[.pointer (some ⟨r, 0, none⟩)] 93)).alloc (.cells #[.string s] 9)).alloc (.cells #[.bool false, .string ⟨#[]⟩, .slice none 0 0] 45)).alloc (.cells #[.bool true, .string ⟨#[]⟩, .slice none 0 0] 45)).alloc (.cells #[(.func (.func 59) #[.pointer (some ⟨r, 0, none⟩)] #[])] 97)).setCell ⟨r, 0, none⟩ (.int .i64 ((12 - k : Nat) : Int))) = w6 at *
  clear c0 c1 c2 f0 q q0 q1 q2 q3 q4 hg5 hz5
  rintro e w7 ⟨rfl, hw7⟩
  rw [hz6]
  obtain ⟨b, hb⟩ : ∃ b, w.heap.size = b := ⟨_, rfl⟩
  rw [hb] at p0 p1 p2 p3 p4 hz6 hrl ⊢
  have z1 : (w6.alloc (.cells #[.int .i64 (F : Int)] 3)).heap.size = b + 6 := by simp [hz6]
  have z2 : ((w6.alloc (.cells #[.int .i64 (F : Int)] 3)).alloc (.cells #[.int .i64 (s.size : Int)] 3)).heap.size = b + 7 := by simp [hz6]
  have n5 := Boxed.new w6 3 (.int .i64 (F : Int))
  have n6 := Boxed.new (w6.alloc (.cells #[.int .i64 (F : Int)] 3)) 3 (.int .i64 (s.size : Int))
  have n7 := Boxed.new ((w6.alloc (.cells #[.int .i64 (F : Int)] 3)).alloc (.cells #[.int .i64 (s.size : Int)] 3)) 41 (.func (.func 125) #[] #[.pointer (some ⟨b + 4, 0, none⟩), .pointer (some ⟨b + 1, 0, none⟩), .pointer (some ⟨b + 3, 0, none⟩)])
  rw [hz6] at n5
  rw [z1] at n6
  rw [z2] at n7
  have m5 := (n5.alloc (.cells #[.int .i64 (s.size : Int)] 3)).alloc (.cells #[.func (.func 125) #[] #[.pointer (some ⟨b + 4, 0, none⟩), .pointer (some ⟨b + 1, 0, none⟩), .pointer (some ⟨b + 3, 0, none⟩)]] 41)
  have m6 := n6.alloc (.cells #[.func (.func 125) #[] #[.pointer (some ⟨b + 4, 0, none⟩), .pointer (some ⟨b + 1, 0, none⟩), .pointer (some ⟨b + 3, 0, none⟩)]] 41)
  rw [hb] at hw7
  rw [show b + 1 + 1 + 1 + 1 = b + 4 from rfl, show b + 1 + 1 + 1 = b + 3 from rfl] at hw7
  rw [← hw7] at m5 m6 n7
  have hg7 : w.grownBy w7 (some r) := by rw [hw7]; exact only_alloc (only_alloc (only_alloc hg6 _) _) _
  have hz7 : w7.heap.size = b + 8 := by rw [hw7]; simp [hz6]
  have hIB : IB w b r s w7 := ⟨hg7, by rw [hw7]; exact ((p0.alloc _).alloc _).alloc _, by rw [hw7]; exact ((p1.alloc _).alloc _).alloc _, by rw [hw7]; exact ((p2.alloc _).alloc _).alloc _, by rw [hw7]; exact ((p4.alloc _).alloc _).alloc _, m6, n7⟩
  have h3 : Blk w7 (b + 3) 45 #[.bool true, .string ⟨#[]⟩, .slice none 0 0] := by rw [hw7]; exact ((p3.alloc _).alloc _).alloc _
  have hrd : Blk w7 r 95 #[.int .i64 ((12 - k : Nat) : Int), .int .i64 0] := by rw [hw7]; exact ((p.alloc _).alloc _).alloc _
  have hI0 : II w b r s k F 0 (F : Int) w7 := ⟨hIB, m5, by omega, 0, none, 0, 0, h3, hrd, .inl ⟨rfl, F, [], [], rfl, rfl, rfl, World.ownsRow_nil _ _ _ _, fun j hj => absurd hj (by omega), by show _ = prepR [] (itemsF (itemF k s.data.toList) s.size 513 0 F); cases itemsF (itemF k s.data.toList) s.size 513 0 F <;> rfl⟩⟩
  clear m5 m6 n5 n6 n7 z1 z2 hw7 p0 p1 p2 p3 p4 p hg6 hz6 hIB h3 hrd hg7
  gi_wp2_with fail
  have HZ := Lib.hid hz7; have HB := Lib.hid hb
  clear hb
  refine range_places (b + 5) (b + 6) (b + 7) 125 #[.pointer (some ⟨b + 4, 0, none⟩), .pointer (some ⟨b + 1, 0, none⟩), .pointer (some ⟨b + 3, 0, none⟩)] (s.size : Int) (F : Int) 512 (by omega) (by omega) rfl
    (enters_of Tryz.func145 (by kernel_rfl) rfl) (enters_of Tryz.func125 (by kernel_rfl) rfl) rfl
    (II w b r s k F) (II2 w b r s k F) (IX w b r s k F 0) (by omega) (II.own (by rw [HB.out]; omega)) (II2.own (by rw [HB.out]; omega)) (IX.own (by rw [HB.out]; omega))
    (fun i p W h => ⟨⟨h.2.1, h.1.q6, h.1.q7⟩, h.2.2.1⟩) (fun i p W h => ⟨⟨h.2.1, h.1.q6, h.1.q7⟩, h.2.2.1⟩) hI0
    (fun i p a' => a' = { tmps := #[.pointer (some ⟨r, 0, none⟩), .string s, .int .i64 (F : Int), .pointer (some ⟨b, 0, none⟩), .pointer (some ⟨b + 1, 0, none⟩), undef, .pointer (some ⟨b + 1 + 1, 0, none⟩), .pointer (some ⟨b + 1 + 1 + 1, 0, none⟩), .pointer (some ⟨b + 1 + 1 + 1 + 1, 0, none⟩), .func (.func 125) #[] #[.pointer (some ⟨b + 1 + 1 + 1 + 1, 0, none⟩), .pointer (some ⟨b + 1, 0, none⟩), .pointer (some ⟨b + 1 + 1 + 1, 0, none⟩)], .int .i64 (i : Int), .agg #[.bool true, .string ⟨#[]⟩, .slice none 0 0], .pointer (some ⟨r, 0, none⟩), (.func (.func 59) #[.pointer (some ⟨r, 0, none⟩)] #[]), .pointer (some ⟨r, 0, none⟩), .pointer (some ⟨r, 0, none⟩), .pointer (some ⟨r, 0, none⟩), .int .i64 ((11 - k : Nat) : Int), .int .i64 ((12 - k : Nat) : Int), .pointer (some ⟨r, 0, none⟩), .pointer (some ⟨r, 0, none⟩), .func (.func 124) #[] #[.pointer (some ⟨b, 0, none⟩)], .func (.func 125) #[] #[.pointer (some ⟨b + 1 + 1 + 1 + 1, 0, none⟩), .pointer (some ⟨b + 1, 0, none⟩), .pointer (some ⟨b + 1 + 1 + 1, 0, none⟩)], .int .i64 (F : Int), .string s, .int .i64 (s.size : Int), .func (.func 125) #[] #[.pointer (some ⟨b + 1 + 1 + 1 + 1, 0, none⟩), .pointer (some ⟨b + 1, 0, none⟩), .pointer (some ⟨b + 1 + 1 + 1, 0, none⟩)], .func (.func 145) #[] #[.pointer (some ⟨b + 5, 0, none⟩), .pointer (some ⟨b + 5 + 1, 0, none⟩), .pointer (some ⟨b + 5 + 1 + 1, 0, none⟩)], .int .i64 (i : Int), .int .i64 p, undef, undef, undef, undef, undef, undef, undef, undef, undef, undef, undef, undef, undef, undef, undef, undef, undef, undef], defers := [] }) ?assign ?body (fun i p W h => callsIn_wide.2 (read_step hC hs HB.out hrl w7.heap.size h)) ?done ?stop
  case assign =>
    intro l i p W K hi hK
    have hK' := hK _ rfl
    have HK := Lib.hid hK'
    clear hK hK'
    gi_wp2
    exact HK.out
  case body =>
    rintro l i p a' W ⟨h1, h2, h3, E, A, n, c, h4, h5, h6⟩ hlt rfl
    have c0 := h1.q0.cell
    have c1 := h5.cell 1; have f1 := h5.frozen 1
    simp only [List.getElem?_toArray, List.getElem?_cons_zero, List.getElem?_cons_succ] at c1
    rcases h6 with ⟨rfl, h6⟩ | ⟨hE, h6⟩
    · by_cases hi : i = 512
      · subst hi
        have hd : decide ((512 : Int) ≤ ((512 : Nat) : Int)) = true := by simp
        obtain ⟨p', xs, vs, rfl, _, _, _, _, hspec⟩ := h6
        have hsp := itemsF_many (by omega) hspec
        have HSP := Lib.hid hsp
        clear hspec hsp
        have hst : Stays (fun g => g = r) W (W.setCell ⟨r, 1, none⟩ (.int .i64 5)) := fun g o ho _ hx => (Below.heap_setCell W ⟨r, 1, none⟩ _ g hx).trans ho
        have hgw : w.grownBy (W.setCell ⟨r, 1, none⟩ (.int .i64 5)) (some r) := ⟨h1.hg.os, h1.hg.tape, h1.hg.output, by simpa [World.setCell] using h1.hg.size, fun g g1 g2 => (Below.heap_setCell W ⟨r, 1, none⟩ _ g (by simpa using g2)).trans (h1.hg.block g g1 g2)⟩
        have h5' := h5.set_ 1 (.int .i64 5)
        simp only [List.setIfInBounds_toArray, List.set_cons_zero, List.set_cons_succ] at h5'
        have k1 := h5'.cell 1
        have k0 := (h1.q0.other (B' := r) (by omega) (.int .i64 5)).cell
        simp only [List.getElem?_toArray, List.getElem?_cons_zero, List.getElem?_cons_succ] at k1
        have HX : Hid (IX w b r s k F 0 (.exit 0) (W.setCell ⟨r, 1, none⟩ (.int .i64 5))) := ⟨rfl, h1.stays hst hgw (fun g g1 _ _ _ => by omega), 5, A, n, c, by decide, hst.blk h4 (by omega), h5', HSP.out⟩
        have HKF : Hid (KeepsFrom w7.heap.size W (W.setCell ⟨r, 1, none⟩ (.int .i64 5))) := Lib.hid ((KeepsOthers.setCell W ⟨r, 1, none⟩ (.int .i64 5)).from _)
        clear h1 h2 h4 h5 h5' hst hgw hI0
        gi_wp2
        exact ⟨HKF.out, HX.out⟩
      · have hd : decide ((512 : Int) ≤ (i : Int)) = false := decide_eq_false (by omega)
        have hd' : decide (512 ≤ i) = false := decide_eq_false (by omega)
        have HX : Hid (II2 w b r s k F i p W) := ⟨h1, h2, by omega, hlt, A, n, c, h4, h5, h6⟩
        clear h1 h2 h4 h5 h6 hI0
        gi_wp2
        exact ⟨KeepsFrom.refl _ _, HX.out⟩
    · have he : (E == 0) = false := by simpa using hE
      have he' : (E != 0) = true := by simpa using hE
      have HX : Hid (IX w b r s k F 0 (.exit 0) W) := ⟨rfl, h1, E, A, n, c, hE, h4, h5, h6⟩
      clear h1 h2 h4 h5 h6 hI0 hE
      gi_wp2
      exact ⟨KeepsFrom.refl _ _, HX.out⟩
  case done =>
    rintro D i p W hD hlt ⟨h1, h2, h3, E, A, n, c, h4, h5, h6⟩ hK
    have HEE : (E = 0 ∧ IOk (itemF k s.data.toList) s.size F b (.slice A n c) i p W ∧ i ≤ 512 ∧ (s.size : Int) ≤ p) ∨ (E ≠ 0 ∧ itemsF (itemF k s.data.toList) s.size 513 0 F = .error E) := by
      rcases h6 with ⟨e, h6⟩ | h6
      · exact .inl ⟨e, h6, h3, by omega⟩
      · exact .inr h6
    have c0 := h4.cell 0; have c1 := h4.cell 1; have c2 := h4.cell 2
    have d0 := h1.q2.cell 0; have d1 := h1.q2.cell 1; have d2 := h1.q2.cell 2
    have f0 := h1.q2.frozen 0; have f1 := h1.q2.frozen 1; have f2 := h1.q2.frozen 2
    simp only [List.getElem?_toArray, List.getElem?_cons_zero, List.getElem?_cons_succ] at c0 c1 c2 d0 d1 d2
    have hDW : b + 8 ≤ D := by have := HZ.out; omega
    have HD := Lib.hid hDW
    have H1 := Lib.hid h1; have H5 := Lib.hid h5; have HE := Lib.hid HEE; have HK := Lib.hid hK
    have q2' := blk_set3 h1.q2 (.bool true) (.string ⟨#[]⟩) (.slice A n c)
    have q0' := ((h1.q0.other (B' := b + 2) (by omega) (.bool true)))
    clear h4 h5 h1 hK hI0 hD hDW h6 h2 hlt
    gi_wp2
    have q0w : Boxed (((W.setCell ⟨b + 2, 0, none⟩ (.bool true)).setCell ⟨b + 2, 1, none⟩ (.string ⟨#[]⟩)).setCell ⟨b + 2, 2, none⟩ (.slice A n c)) b 93 (.pointer (some ⟨r, 0, none⟩)) := (Below.heap_setCell _ ⟨b + 2, 2, none⟩ _ b (by show b ≠ b + 2; omega)).trans ((Below.heap_setCell _ ⟨b + 2, 1, none⟩ _ b (by show b ≠ b + 2; omega)).trans q0')
    have h5w := ((H5.out.far (p := ⟨b + 2, 0, none⟩) (by show r ≠ b + 2; omega) (.bool true)).far (p := ⟨b + 2, 1, none⟩) (by show r ≠ b + 2; omega) (.string ⟨#[]⟩)).far (p := ⟨b + 2, 2, none⟩) (by show r ≠ b + 2; omega) (.slice A n c)
    have hKw := ((((KeepsOthers.setCell W ⟨b + 2, 0, none⟩ (.bool true)).trans (KeepsOthers.setCell _ ⟨b + 2, 1, none⟩ (.string ⟨#[]⟩))).trans (KeepsOthers.setCell _ ⟨b + 2, 2, none⟩ (.slice A n c))).same D _ HK.out rfl)
    refine items_leave hk hrl HD.out rfl q0w q2' h5w hKw fun W' hbr hkw => ?_
    refine items_close HB.out hrl HD.out H1.out HK.out HE.out ⟨hkw.os, hkw.tape, hkw.output, by simpa [World.setCell] using hkw.size, fun j hj => (hkw.block j ⟨hj.1, hj.2.1⟩).trans ?_⟩ hbr
    exact (Below.heap_setCell _ ⟨b + 2, 2, none⟩ _ j hj.2.2).trans ((Below.heap_setCell _ ⟨b + 2, 1, none⟩ _ j hj.2.2).trans (Below.heap_setCell _ ⟨b + 2, 0, none⟩ _ j hj.2.2))
  case stop =>
    rintro D cd W hD ⟨rfl, h1, E, A, n, c, hE, h4, h5, h6⟩ hK
    have HEE : (E = 0 ∧ IOk (itemF k s.data.toList) s.size F b (.slice A n c) 0 0 W ∧ 0 ≤ 512 ∧ (s.size : Int) ≤ 0) ∨ (E ≠ 0 ∧ itemsF (itemF k s.data.toList) s.size 513 0 F = .error E) := .inr ⟨hE, h6⟩
    have c0 := h4.cell 0; have c1 := h4.cell 1; have c2 := h4.cell 2
    have d0 := h1.q2.cell 0; have d1 := h1.q2.cell 1; have d2 := h1.q2.cell 2
    have f0 := h1.q2.frozen 0; have f1 := h1.q2.frozen 1; have f2 := h1.q2.frozen 2
    simp only [List.getElem?_toArray, List.getElem?_cons_zero, List.getElem?_cons_succ] at c0 c1 c2 d0 d1 d2
    have hDW : b + 8 ≤ D := by have := HZ.out; omega
    have HD := Lib.hid hDW
    have H1 := Lib.hid h1; have H5 := Lib.hid h5; have HE := Lib.hid HEE; have HK := Lib.hid hK
    have q2' := blk_set3 h1.q2 (.bool true) (.string ⟨#[]⟩) (.slice A n c)
    have q0' := ((h1.q0.other (B' := b + 2) (by omega) (.bool true)))
    clear h4 h5 h1 hK hI0 hD hDW h6 hE
    gi_wp2
    have q0w : Boxed (((W.setCell ⟨b + 2, 0, none⟩ (.bool true)).setCell ⟨b + 2, 1, none⟩ (.string ⟨#[]⟩)).setCell ⟨b + 2, 2, none⟩ (.slice A n c)) b 93 (.pointer (some ⟨r, 0, none⟩)) := (Below.heap_setCell _ ⟨b + 2, 2, none⟩ _ b (by show b ≠ b + 2; omega)).trans ((Below.heap_setCell _ ⟨b + 2, 1, none⟩ _ b (by show b ≠ b + 2; omega)).trans q0')
    have h5w := ((H5.out.far (p := ⟨b + 2, 0, none⟩) (by show r ≠ b + 2; omega) (.bool true)).far (p := ⟨b + 2, 1, none⟩) (by show r ≠ b + 2; omega) (.string ⟨#[]⟩)).far (p := ⟨b + 2, 2, none⟩) (by show r ≠ b + 2; omega) (.slice A n c)
    have hKw := ((((KeepsOthers.setCell W ⟨b + 2, 0, none⟩ (.bool true)).trans (KeepsOthers.setCell _ ⟨b + 2, 1, none⟩ (.string ⟨#[]⟩))).trans (KeepsOthers.setCell _ ⟨b + 2, 2, none⟩ (.slice A n c))).same D _ HK.out rfl)
    refine items_leave hk hrl HD.out rfl q0w q2' h5w hKw fun W' hbr hkw => ?_
    refine items_close HB.out hrl HD.out H1.out HK.out HE.out ⟨hkw.os, hkw.tape, hkw.output, by simpa [World.setCell] using hkw.size, fun j hj => (hkw.block j ⟨hj.1, hj.2.1⟩).trans ?_⟩ hbr
    exact (Below.heap_setCell _ ⟨b + 2, 2, none⟩ _ j hj.2.2).trans ((Below.heap_setCell _ ⟨b + 2, 1, none⟩ _ j hj.2.2).trans (Below.heap_setCell _ ⟨b + 2, 0, none⟩ _ j hj.2.2))
end Go.Proofs.YthalohloneojlaaGreatDoor
/- One item (item): the contract at every depth. -/
namespace Go.Proofs.YthalohloneojlaaGreatDoor
open Go.RowKit Go.Shelf

theorem item_err {k : Nat} {l : List UInt8} {a : Nat} (h1 : ¬ (a < l.length ∧ 192 ≤ headC l a ∧ k = 0)) (he : lookE l (a : Int) ≠ 0) : itemF k l a = .error (lookE l (a : Int)) := by
  cases k with
  | zero => show itemG none l a = _; unfold itemG; rw [if_neg (by rintro ⟨x, y, _⟩; exact h1 ⟨x, y, rfl⟩), if_pos he]
  | succ k' => show itemG (some (itemF k')) l a = _; unfold itemG; rw [if_neg (by rintro ⟨_, _, x⟩; cases x), if_pos he]
theorem item_bytes {k : Nat} {l : List UInt8} {a : Nat} (h1 : ¬ (a < l.length ∧ 192 ≤ headC l a ∧ k = 0)) (he : lookE l (a : Int) = 0) (hl : lookL l (a : Int) = false) : itemF k l a = .ok (.mk false ⟨((l.drop (lookFrom l a)).take (lookN l a)).toArray⟩ [], lookFrom l a + lookN l a) := by
  cases k with
  | zero => show itemG none l a = _; unfold itemG; rw [if_neg (by rintro ⟨x, y, _⟩; exact h1 ⟨x, y, rfl⟩), if_neg (by simpa using he), if_pos hl]
  | succ k' => show itemG (some (itemF k')) l a = _; unfold itemG; rw [if_neg (by rintro ⟨_, _, x⟩; cases x), if_neg (by simpa using he), if_pos hl]
theorem item_list {k : Nat} {l : List UInt8} {a : Nat} (he : lookE l (a : Int) = 0) (hl : lookL l (a : Int) = true) : itemF (k + 1) l a = match itemsF (itemF k (l.take (lookFrom l a + lookN l a))) (lookFrom l a + lookN l a) 513 0 (lookFrom l a) with
    | .error e => .error e
    | .ok xs => .ok (.mk true .empty xs, lookFrom l a + lookN l a) := by
  show itemG (some (itemF k)) l a = _; unfold itemG; rw [if_neg (by rintro ⟨_, _, x⟩; cases x), if_neg (by simpa using he), if_neg (by rw [hl]; decide)]
  rfl
theorem set_grown (W : World) (r i : Nat) (v : Value) : W.grownBy (W.setCell ⟨r, i, none⟩ v) (some r) :=
  ⟨rfl, rfl, rfl, by simp [World.setCell], fun g _ h => Below.heap_setCell W ⟨r, i, none⟩ v g (by simpa using h)⟩
end Go.Proofs.YthalohloneojlaaGreatDoor
/- One item: an error of the head. -/
namespace Go.Proofs.YthalohloneojlaaGreatDoor
open Go.RowKit Go.Shelf
set_option linter.unusedVariables false

/-- the guard of the depth does not hold, in one of three ways -/
theorem guard_no {s : ByteArray} {a k : Nat} (ha : a ≤ s.size) (h : ¬ (a < s.size ∧ 192 ≤ headC s.data.toList a ∧ k = 0)) :
    (decide ((a : Int) < (s.size : Int)) = false ∧ decide (a < s.size) = false) ∨
    (((a : Int) < (s.size : Int)) ∧ (∀ V, (Instr.index 9 (.string s) (.int .i64 (a : Int))).run Tryz.prog V = .ok (.int .u8 ((headC s.data.toList a : Nat) : Int)) V) ∧ decide ((192 : Int) ≤ ((headC s.data.toList a : Nat) : Int)) = false) ∨
    (((a : Int) < (s.size : Int)) ∧ (∀ V, (Instr.index 9 (.string s) (.int .i64 (a : Int))).run Tryz.prog V = .ok (.int .u8 ((headC s.data.toList a : Nat) : Int)) V) ∧ decide ((192 : Int) ≤ ((headC s.data.toList a : Nat) : Int)) = true ∧ decide ((12 : Int) ≤ ((12 - k : Nat) : Int)) = false) := by
  have hlz : s.data.toList.length = s.size := ba_len s
  by_cases h1 : a < s.size
  · have hid := fun V => idx_str s a (s.data.toList.getD a 0) (at_getD 0 (by omega)) V
    change ∀ V, (Instr.index 9 (.string s) (.int .i64 (a : Int))).run Tryz.prog V = .ok (.int .u8 ((headC s.data.toList a : Nat) : Int)) V at hid
    by_cases h2 : 192 ≤ headC s.data.toList a
    · exact .inr (.inr ⟨by omega, hid, decide_eq_true (by omega), decide_eq_false (by omega)⟩)
    · exact .inr (.inl ⟨by omega, hid, decide_eq_false (by omega)⟩)
  · exact .inl ⟨decide_eq_false (by omega), decide_eq_false h1⟩

set_option maxRecDepth 100000 in
set_option maxHeartbeats 600000 in
theorem item_bad (k : Nat) (s : ByteArray) (a r : Nat) (W : World) (hs : s.size ≤ 65536) (ha : a ≤ s.size) (hr : Blk W r 95 #[.int .i64 ((12 - k : Nat) : Int), .int .i64 0])
    (h1 : ¬ (a < s.size ∧ 192 ≤ headC s.data.toList a ∧ k = 0)) (he : lookE s.data.toList (a : Int) ≠ 0) :
    Calls Tryz.prog 59 #[.pointer (some ⟨r, 0, none⟩), .string s, .int .i64 (a : Int)] W fun e W1 => ∃ l b sA sn sc tq, e = .returned (.tuple #[.agg #[.bool l, .string b, .slice sA sn sc], .int .i64 tq]) ∧ W.grownBy W1 (some r) ∧ ItemTail k s.data.toList a r W l b (.slice sA sn sc) tq W1 := by
  have hlz : s.data.toList.length = s.size := ba_len s
  have hlk := fun V => look_any s (a : Int) (by omega) V
  have hrl := hr.lt
  have hG := guard_no ha h1
  have hi := item_err (k := k) (by rw [hlz]; exact h1) he
  obtain ⟨b1, b2, b3⟩ := look_bad rfl he
  rw [b1, b2, b3] at hlk
  have HI := Lib.hid hi
  have hxA := Blk.new W 45 #[.bool false, .string ⟨#[]⟩, .slice none 0 0]
  have hrA := hr.alloc (.cells #[.bool false, .string ⟨#[]⟩, .slice none 0 0] 45)
  have hGA : W.grownBy (W.alloc (.cells #[.bool false, .string ⟨#[]⟩, .slice none 0 0] 45)) none := only_alloc (World.grownBy.refl _ _) _
  have k1 := (hr.alloc (.cells #[.bool false, .string ⟨#[]⟩, .slice none 0 0] 45)).cell 0
  simp only [List.getElem?_toArray, List.getElem?_cons_zero] at k1
  clear hi b1 b2 b3 h1 hlz
  generalize lookE s.data.toList (a : Int) = E at *
  generalize headC s.data.toList a = c at *
  have e1 : (E != 0) = true := by simpa using he
  have HE := Lib.hid he
  clear he
  rcases hG with ⟨d1, d1'⟩ | ⟨d1, hid, d2⟩ | ⟨d1, hid, d2, d3⟩
  all_goals
    go_enter Tryz.func59, Tryz.ntmps59
    go_wp2_with fail
    refine (hlk _).mono ?_
    rintro e w2 ⟨rfl, hg⟩
    have y0 := hxA.grown hg (by simp)
    have y1 := hrA.grown hg (by simp)
    have hG2 := only_weak (grown_self hGA hg (by simp)) (some r)
    have z0 := y0.alloc (.cells #[.int .i64 0, .int .i64 0, .bool false] 153)
    have z1 := y1.alloc (.cells #[.int .i64 0, .int .i64 0, .bool false] 153)
    have hG3 := only_alloc hG2 (.cells #[.int .i64 0, .int .i64 0, .bool false] 153)
    clear hxA hrA hGA hg hlk hG2 y0 y1 k1 hr
    go_upto_region 6 with (fail)
    generalize w2.alloc (.cells #[.int .i64 0, .int .i64 0, .bool false] 153) = w3 at *
    have r1 := z1.cell 1; have rf := z1.frozen 1
    have t0 := z0.far (p := ⟨r, 1, none⟩) (by show W.heap.size ≠ r; omega) (.int .i64 E)
    have t1 := z1.set_ 1 (.int .i64 E)
    have tG : W.grownBy (w3.setCell ⟨r, 1, none⟩ (.int .i64 E)) (some r) := grown_self hG3 (set_grown w3 r 1 (.int .i64 E)) (fun q e => .inl e)
    simp only [List.setIfInBounds_toArray, List.set_cons_zero, List.set_cons_succ, List.getElem?_toArray, List.getElem?_cons_zero, List.getElem?_cons_succ] at t1 r1
    clear z0 z1 hG3
    go_upto_region 7 with (fail)
    clear r1 rf
    generalize w3.setCell ⟨r, 1, none⟩ (.int .i64 E) = w4 at *
    have c0 := t0.cell 0; have c1 := t0.cell 1; have c2 := t0.cell 2
    have f0 := t0.frozen 0; have f1 := t0.frozen 1; have f2 := t0.frozen 2
    simp only [List.getElem?_toArray, List.getElem?_cons_zero, List.getElem?_cons_succ] at c0 c1 c2
    have t2 := blk_set3 t0 (.bool false) (.string ⟨#[]⟩) (.slice none 0 0)
    have t3 := ((t1.far (p := ⟨W.heap.size, 0, none⟩) (by show r ≠ W.heap.size; omega) (.bool false)).far (p := ⟨W.heap.size, 1, none⟩) (by show r ≠ W.heap.size; omega) (.string ⟨#[]⟩)).far (p := ⟨W.heap.size, 2, none⟩) (by show r ≠ W.heap.size; omega) (.slice none 0 0)
    have t4 := only_set3 tG (g := W.heap.size) (Nat.le_refl _) (.bool false) (.string ⟨#[]⟩) (.slice none 0 0)
    have T2 := Lib.hid t2; have T3 := Lib.hid t3; have T4 := Lib.hid t4
    clear t0 t1 t2 t3 t4 tG
    go_wp2_with fail
    refine bodyPost_ret (results_ct (fn := Tryz.f59) rfl _ _ _ _ rfl (load_item T2.out)) rfl ?_
    exact ⟨false, ⟨#[]⟩, none, 0, 0, (a : Int), rfl, T4.out, .inr ⟨E, HI.out, HE.out, T3.out⟩⟩
set_option maxRecDepth 100000 in
set_option maxHeartbeats 600000 in
theorem item_deep (s : ByteArray) (a r : Nat) (W : World) (hs : s.size ≤ 65536) (h2 : a < s.size) (h3 : 192 ≤ headC s.data.toList a) (hr : Blk W r 95 #[.int .i64 ((12 - 0 : Nat) : Int), .int .i64 0]) :
    Calls Tryz.prog 59 #[.pointer (some ⟨r, 0, none⟩), .string s, .int .i64 (a : Int)] W fun e W1 => ∃ l b sA sn sc tq, e = .returned (.tuple #[.agg #[.bool l, .string b, .slice sA sn sc], .int .i64 tq]) ∧ W.grownBy W1 (some r) ∧ ItemTail 0 s.data.toList a r W l b (.slice sA sn sc) tq W1 := by
  have hlz : s.data.toList.length = s.size := ba_len s
  have hr0 := hr.cell 0; have hr1 := hr.cell 1; have hf1 := hr.frozen 1
  simp only [List.getElem?_toArray, List.getElem?_cons_zero, List.getElem?_cons_succ] at hr0 hr1
  have hrl := hr.lt
  have hi : itemF 0 s.data.toList a = .error 7 := by
    show itemG none s.data.toList a = .error 7
    unfold itemG; rw [if_pos ⟨by omega, h3, rfl⟩]
  have hid := fun V => idx_str s a (s.data.toList.getD a 0) (at_getD 0 (by omega)) V
  change ∀ V, (Instr.index 9 (.string s) (.int .i64 (a : Int))).run Tryz.prog V = .ok (.int .u8 ((headC s.data.toList a : Nat) : Int)) V at hid
  have HI := Lib.hid hi
  generalize headC s.data.toList a = c at *
  have d1 : (a : Int) < (s.size : Int) := by omega
  have d2 : (192 : Int) ≤ (c : Int) := by omega
  clear hi
  go_enter Tryz.func59, Tryz.ntmps59
  go_wp2_with fail
  have hxb := Blk.new (W.setCell ⟨r, 1, none⟩ (.int .i64 7)) 45 #[.bool false, .string ⟨#[]⟩, .slice none 0 0]
  rw [show (W.setCell ⟨r, 1, none⟩ (.int .i64 7)).heap.size = W.heap.size by simp [World.setCell]] at hxb
  have hrx := (hr.set_ 1 (.int .i64 7)).alloc (.cells #[.bool false, .string ⟨#[]⟩, .slice none 0 0] 45)
  simp only [List.setIfInBounds_toArray, List.set_cons_zero, List.set_cons_succ] at hrx
  have hgx := only_alloc (set_grown W r 1 (.int .i64 7)) (.cells #[.bool false, .string ⟨#[]⟩, .slice none 0 0] 45)
  refine bodyPost_ret (results_ct (fn := Tryz.f59) rfl _ _ _ _ rfl (load_item hxb)) rfl ?_
  exact ⟨false, ⟨#[]⟩, none, 0, 0, (a : Int), rfl, hgx, .inr ⟨7, HI.out, by decide, hrx⟩⟩
end Go.Proofs.YthalohloneojlaaGreatDoor
/- One item: bytes. -/
namespace Go.Proofs.YthalohloneojlaaGreatDoor
open Go.RowKit Go.Shelf
set_option linter.unusedVariables false

theorem ba_ext' {s : ByteArray} {F N : Nat} : s.extract F (F + N) = ⟨((s.data.toList.drop F).take N).toArray⟩ := by
  apply ByteArray.ext
  apply Array.ext'
  rw [Lib.extract_data]
  simp
theorem no_items (S : Nat → Prop) (W : World) (c : Nat) : SubV S W [] (.slice none 0 c) := .mk [] none c [] (fun h => by cases h) (fun i h => by cases h)
set_option maxRecDepth 100000 in
set_option maxHeartbeats 600000 in
theorem item_txt (k : Nat) (s : ByteArray) (a r : Nat) (W : World) (hs : s.size ≤ 65536) (ha : a ≤ s.size) (hr : Blk W r 95 #[.int .i64 ((12 - k : Nat) : Int), .int .i64 0])
    (h1 : ¬ (a < s.size ∧ 192 ≤ headC s.data.toList a ∧ k = 0)) (he : lookE s.data.toList (a : Int) = 0) (hl : lookL s.data.toList (a : Int) = false) :
    Calls Tryz.prog 59 #[.pointer (some ⟨r, 0, none⟩), .string s, .int .i64 (a : Int)] W fun e W1 => ∃ l b sA sn sc tq, e = .returned (.tuple #[.agg #[.bool l, .string b, .slice sA sn sc], .int .i64 tq]) ∧ W.grownBy W1 (some r) ∧ ItemTail k s.data.toList a r W l b (.slice sA sn sc) tq W1 := by
  have hlz : s.data.toList.length = s.size := ba_len s
  have hlk := fun V => look_any s (a : Int) (by omega) V
  have hrl := hr.lt
  have hG := guard_no ha h1
  have hi := item_bytes (k := k) (by rw [hlz]; exact h1) he hl
  obtain ⟨b0, b1, _⟩ := look_ok he
  rw [hl, he] at hlk
  have HI := Lib.hid hi
  have hxA := Blk.new W 45 #[.bool false, .string ⟨#[]⟩, .slice none 0 0]
  have hrA := hr.alloc (.cells #[.bool false, .string ⟨#[]⟩, .slice none 0 0] 45)
  have hGA : W.grownBy (W.alloc (.cells #[.bool false, .string ⟨#[]⟩, .slice none 0 0] 45)) none := only_alloc (World.grownBy.refl _ _) _
  have k1 := (hr.alloc (.cells #[.bool false, .string ⟨#[]⟩, .slice none 0 0] 45)).cell 0
  simp only [List.getElem?_toArray, List.getElem?_cons_zero] at k1
  rw [hlz] at b1
  clear hi h1 hlz he hl
  generalize lookFrom s.data.toList (a : Int) = F at *
  generalize lookN s.data.toList (a : Int) = N at *
  generalize headC s.data.toList a = c at *
  have v1 : IntKind.i64.wrap ((F : Int) + (N : Int)) = (F : Int) + (N : Int) := IntWalk.i64_in _ (by omega)
  rcases hG with ⟨d1, d1'⟩ | ⟨d1, hid, d2⟩ | ⟨d1, hid, d2, d3⟩
  all_goals
    go_enter Tryz.func59, Tryz.ntmps59
    go_wp2_with fail
    refine (hlk _).mono ?_
    rintro e w2 ⟨rfl, hg⟩
    have y0 := hxA.grown hg (by simp)
    have y1 := hrA.grown hg (by simp)
    have hG2 := only_weak (grown_self hGA hg (by simp)) (some r)
    have z0 := y0.alloc (.cells #[.int .i64 (F : Int), .int .i64 (N : Int), .bool false] 153)
    have z1 := y1.alloc (.cells #[.int .i64 (F : Int), .int .i64 (N : Int), .bool false] 153)
    have z2 := Blk.new w2 153 #[.int .i64 (F : Int), .int .i64 (N : Int), .bool false]
    have hG3 := only_alloc hG2 (.cells #[.int .i64 (F : Int), .int .i64 (N : Int), .bool false] 153)
    clear hxA hrA hGA hg hlk hG2 y0 y1 k1 hr
    go_upto_region 8 with (fail)
    generalize w2.alloc (.cells #[.int .i64 (F : Int), .int .i64 (N : Int), .bool false] 153) = w3 at *
    have r0 := z2.cell 0; have r1 := z2.cell 1; have r2 := z2.cell 2
    have c0 := z0.cell 0; have c1 := z0.cell 1; have c2 := z0.cell 2
    have f0 := z0.frozen 0; have f1 := z0.frozen 1; have f2 := z0.frozen 2
    simp only [List.getElem?_toArray, List.getElem?_cons_zero, List.getElem?_cons_succ] at r0 r1 r2 c0 c1 c2
    have t2 := blk_set3 z0 (.bool false) (.string (s.extract F (F + N))) (.slice none 0 0)
    have t3 := ((z1.far (p := ⟨W.heap.size, 0, none⟩) (by show r ≠ W.heap.size; omega) (.bool false)).far (p := ⟨W.heap.size, 1, none⟩) (by show r ≠ W.heap.size; omega) (.string (s.extract F (F + N)))).far (p := ⟨W.heap.size, 2, none⟩) (by show r ≠ W.heap.size; omega) (.slice none 0 0)
    have t4 := only_set3 hG3 (g := W.heap.size) (Nat.le_refl _) (.bool false) (.string (s.extract F (F + N))) (.slice none 0 0)
    have T2 := Lib.hid t2; have T3 := Lib.hid t3; have T4 := Lib.hid t4
    clear z0 z1 z2 hG3 t2 t3 t4
    go_wp2_with fail
    refine bodyPost_ret (results_ct (fn := Tryz.f59) rfl _ _ _ _ rfl (load_item T2.out)) rfl ?_
    exact ⟨false, s.extract F (F + N), none, 0, 0, ((F : Int) + (N : Int)), rfl, T4.out, .inl ⟨_, _, HI.out, by simp, rfl, by rw [ba_ext']; rfl, T3.out, no_items _ _ _⟩⟩
end Go.Proofs.YthalohloneojlaaGreatDoor
/- Five cells set; a string that is not empty. -/
namespace Go.Proofs.YthalohloneojlaaGreatDoor
open Go.RowKit Go.Shelf
set_option linter.unusedVariables false
set_option linter.unusedSimpArgs false

theorem only_set5 {a W : World} {b : Nat} (h : a.grownBy W none) (hb : a.heap.size ≤ b) (x y z u v : Value) : a.grownBy (((((W.setCell ⟨b, 0, none⟩ x).setCell ⟨b, 1, none⟩ y).setCell ⟨b, 2, none⟩ z).setCell ⟨b, 3, none⟩ u).setCell ⟨b, 4, none⟩ v) none :=
  only_set (only_set (only_set (only_set (only_set h (p := ⟨b, 0, none⟩) hb x) (p := ⟨b, 1, none⟩) hb y) (p := ⟨b, 2, none⟩) hb z) (p := ⟨b, 3, none⟩) hb u) (p := ⟨b, 4, none⟩) hb v
theorem blk_set5 {W : World} {b : Nat} {t : TypeId} {p q r s c : Value} (h : Blk W b t #[p, q, r, s, c]) (x y z u v : Value) : Blk (((((W.setCell ⟨b, 0, none⟩ x).setCell ⟨b, 1, none⟩ y).setCell ⟨b, 2, none⟩ z).setCell ⟨b, 3, none⟩ u).setCell ⟨b, 4, none⟩ v) b t #[x, y, z, u, v] :=
  ((((h.set_ 0 x).set_ 1 y).set_ 2 z).set_ 3 u).set_ 4 v
theorem some_str {s : ByteArray} (h : s ≠ ⟨#[]⟩) : ∃ g0 : 0 < s.size, s.data.toList ≠ [] ∧ (s.toList == []) = false ∧ s.toList.isEmpty = false ∧ s.data.toList.getD 0 0 = s[0]'g0 := by
  have hl0 : s.data.toList ≠ [] := fun e => h (by cases s; simp_all)
  have g0 : 0 < s.size := by
    have := ba_len s
    cases hh : s.data.toList with
    | nil => exact absurd hh hl0
    | cons a b => rw [hh] at this; simp at this; omega
  refine ⟨g0, hl0, by rw [beq_eq_false_iff_ne, Lib.toList_data]; exact hl0, by rw [Lib.toList_data]; cases hh : s.data.toList with | nil => exact absurd hh hl0 | cons a b => rfl, ?_⟩
  have e2 : s.data[0]? = some (s[0]'g0) := Array.getElem?_eq_getElem g0
  rw [List.getD_eq_getElem?_getD, Array.getElem?_toList, e2]; rfl
theorem drop1 (s : ByteArray) : (s.extract 1 s.size).data.toList = s.data.toList.drop 1 := by
  have := ba_len s
  rw [Lib.extract_data, ← this]
  simp [List.take_of_length_le]
end Go.Proofs.YthalohloneojlaaGreatDoor
/- A transaction that has a kind alone: no rows; what is compared of it. -/
namespace Go.Proofs.YthalohloneojlaaGreatDoor
open Go.RowKit Go.Shelf
set_option linter.unusedVariables false
set_option linter.unusedSimpArgs false

/-- a transaction that has a kind alone -/
def txK (n : Int) : Array Value := #[.int .i64 n, .int .u64 0, .int .u64 0, .int .u64 0, .int .u64 0, .int .u64 0, .int .u64 0, .int .u64 0, .int .u64 0, .int .u64 0, .int .u64 0, .int .u64 0, .string ⟨#[]⟩, .int .u64 0, .int .u64 0, .int .u64 0, .int .u64 0, .string ⟨#[]⟩, .slice none 0 0, .slice none 0 0, .int .u64 0, .int .u64 0, .int .u64 0, .int .u64 0, .int .u64 0, .int .u64 0, .int .u64 0, .int .u64 0, .int .u64 0, .string ⟨#[]⟩, .string ⟨#[]⟩, .int .u64 0, .int .u64 0, .int .u64 0, .int .u64 0, .bool false]
/-- what is compared of it -/
def restK (n : Int) : Array Value := #[.int .i64 n, .int .u64 0, .int .u64 0, .int .u64 0, .int .u64 0, .int .u64 0, .int .u64 0, .int .u64 0, .int .u64 0, .int .u64 0, .int .u64 0, .int .u64 0, .int .u64 0, .int .u64 0, .int .u64 0, .int .u64 0, .int .u64 0, .int .u64 0, .int .u64 0, .int .u64 0, .int .u64 0, .int .u64 0, .int .u64 0, .int .u64 0, .int .u64 0, .int .u64 0, .int .u64 0, .int .u64 0, .int .u64 0, .string ⟨#[]⟩, .string ⟨#[]⟩, .string ⟨#[]⟩, .string ⟨#[]⟩, .bool false]
theorem blk_setRow {w : World} {g : Nat} {t : TypeId} {cs cs' : Array Value} (h : Blk w g t cs) : Blk (w.setRow g cs') g t cs' := setRow_heap w g cs cs' t (0, 0) h
theorem only_setRow {a w : World} {g : Nat} (h : a.grownBy w none) (hg : a.heap.size ≤ g) (cs : Array Value) : a.grownBy (w.setRow g cs) none :=
  ⟨h.os, h.tape, h.output, by simpa using h.size, fun k hk hn => (setRow_other w g k cs (by omega)).trans (h.block k hk hn)⟩
set_option maxRecDepth 100000 in
theorem restK_one (n : Int) : ((restK n).all fun x => x.oneCell') = true := by unfold restK; simp [Value.oneCell']
set_option maxRecDepth 100000 in
theorem txK_one (n : Int) : ((txK n).all fun x => x.oneCell') = true := by unfold txK; simp [Value.oneCell']
set_option maxRecDepth 100000 in
theorem accessSame_nil (f : Value) (w : World) : Calls Tryz.prog 115 #[.slice none 0 0, .slice none 0 0, f] w fun e w' => e = .returned (.bool true) ∧ w' = w := by
  go_enter Tryz.func115, Tryz.ntmps115
  go_wp2_with fail
  go_loopw [17] (fun i wr => i = .int .i64 0 ∧ w = wr) (fun i _ => 1)
  case atStart => exact ⟨rfl, rfl⟩
  case round =>
    obtain ⟨rfl, rfl⟩ := hrel
    go_wp2_with fail
    go_ret
    exact ⟨rfl, rfl⟩
set_option maxRecDepth 100000 in
theorem authsSame_nil (w : World) : Calls Tryz.prog 116 #[.slice none 0 0, .slice none 0 0] w fun e w' => e = .returned (.bool true) ∧ w' = w := by
  go_enter Tryz.func116, Tryz.ntmps116
  go_wp2_with fail
  go_loopw [13] (fun i wr => i = .int .i64 0 ∧ w = wr) (fun i _ => 1)
  case atStart => exact ⟨rfl, rfl⟩
  case round =>
    obtain ⟨rfl, rfl⟩ := hrel
    go_wp2_with fail
    go_ret
    exact ⟨rfl, rfl⟩
set_option maxRecDepth 100000 in
theorem accessIndex_nil (f : Value) (w : World) : Calls Tryz.prog 122 #[.slice none 0 0, f] w fun e w' => e = .returned (.int .i64 (-1)) ∧ w' = w := by
  go_enter Tryz.func122, Tryz.ntmps122
  go_wp2_with fail
  go_loopw [8] (fun i wr => i = .int .i64 0 ∧ w = wr) (fun i _ => 1)
  case atStart => exact ⟨rfl, rfl⟩
  case round =>
    obtain ⟨rfl, rfl⟩ := hrel
    go_wp2_with fail
    go_ret
    exact ⟨rfl, rfl⟩
set_option maxRecDepth 100000 in
theorem accessContains_nil (f : Value) (w : World) : Calls Tryz.prog 94 #[.slice none 0 0, f] w fun e w' => e = .returned (.bool false) ∧ w' = w := by
  go_enter Tryz.func94, Tryz.ntmps94
  go_wp2_with fail
  refine (accessIndex_nil f _).mono ?_
  rintro e w2 ⟨rfl, rfl⟩
  go_wp2_with fail
  go_ret
  exact ⟨rfl, rfl⟩
set_option maxRecDepth 100000 in
theorem authIndex_nil (f : Value) (w : World) : Calls Tryz.prog 144 #[.slice none 0 0, f] w fun e w' => e = .returned (.int .i64 (-1)) ∧ w' = w := by
  go_enter Tryz.func144, Tryz.ntmps144
  go_wp2_with fail
  go_loopw [8] (fun i wr => i = .int .i64 0 ∧ w = wr) (fun i _ => 1)
  case atStart => exact ⟨rfl, rfl⟩
  case round =>
    obtain ⟨rfl, rfl⟩ := hrel
    go_wp2_with fail
    go_ret
    exact ⟨rfl, rfl⟩
set_option maxRecDepth 100000 in
theorem authContains_nil (f : Value) (w : World) : Calls Tryz.prog 121 #[.slice none 0 0, f] w fun e w' => e = .returned (.bool false) ∧ w' = w := by
  go_enter Tryz.func121, Tryz.ntmps121
  go_wp2_with fail
  refine (authIndex_nil f _).mono ?_
  rintro e w2 ⟨rfl, rfl⟩
  go_wp2_with fail
  go_ret
  exact ⟨rfl, rfl⟩
set_option maxRecDepth 100000 in
set_option maxHeartbeats 2000000 in
theorem txRest_any (n : Int) (w : World) : Calls Tryz.prog 117 #[.agg (txK n)] w fun e w' => e = .returned (.agg (restK n)) ∧ w.grownBy w' none := by
  have hB := Blk.new w 91 (txK n)
  have hG := only_alloc (World.grownBy.refl w none) (.cells (txK n) 91)
  go_enter Tryz.func117, Tryz.ntmps117
  go_upto_region 1 with (fail)
  have hR := Blk.new (w.alloc (.cells (txK n) 91)) 190 (restK 0)
  rw [World.size_alloc] at hR
  have hB2 := hB.alloc (.cells (restK 0) 190)
  have hG2 := only_alloc hG (.cells (restK 0) 190)
  change Code.wp _ _ _ _ ((w.alloc (.cells (txK n) 91)).alloc (.cells (restK 0) 190))
  obtain ⟨g, hg⟩ : ∃ g, w.heap.size = g := ⟨_, rfl⟩
  have HW := Lib.hid hg
  rw [hg] at hR hB2 ⊢
  clear hg hB hG
  generalize (w.alloc (.cells (txK n) 91)).alloc (.cells (restK 0) 190) = w1 at *
  have c0 : w1.cell? ⟨g, 0, none⟩ = some (.int .i64 n) := hB2.cell 0
  have c1 : w1.cell? ⟨g, 1, none⟩ = some (.int .u64 0) := hB2.cell 1
  have c2 : w1.cell? ⟨g, 2, none⟩ = some (.int .u64 0) := hB2.cell 2
  have c3 : w1.cell? ⟨g, 3, none⟩ = some (.int .u64 0) := hB2.cell 3
  have c4 : w1.cell? ⟨g, 4, none⟩ = some (.int .u64 0) := hB2.cell 4
  have c5 : w1.cell? ⟨g, 5, none⟩ = some (.int .u64 0) := hB2.cell 5
  have c6 : w1.cell? ⟨g, 6, none⟩ = some (.int .u64 0) := hB2.cell 6
  have c7 : w1.cell? ⟨g, 7, none⟩ = some (.int .u64 0) := hB2.cell 7
  have c8 : w1.cell? ⟨g, 8, none⟩ = some (.int .u64 0) := hB2.cell 8
  have c9 : w1.cell? ⟨g, 9, none⟩ = some (.int .u64 0) := hB2.cell 9
  have c10 : w1.cell? ⟨g, 10, none⟩ = some (.int .u64 0) := hB2.cell 10
  have c11 : w1.cell? ⟨g, 11, none⟩ = some (.int .u64 0) := hB2.cell 11
  have c12 : w1.cell? ⟨g, 12, none⟩ = some (.string ⟨#[]⟩) := hB2.cell 12
  have c13 : w1.cell? ⟨g, 13, none⟩ = some (.int .u64 0) := hB2.cell 13
  have c14 : w1.cell? ⟨g, 14, none⟩ = some (.int .u64 0) := hB2.cell 14
  have c15 : w1.cell? ⟨g, 15, none⟩ = some (.int .u64 0) := hB2.cell 15
  have c16 : w1.cell? ⟨g, 16, none⟩ = some (.int .u64 0) := hB2.cell 16
  have c17 : w1.cell? ⟨g, 17, none⟩ = some (.string ⟨#[]⟩) := hB2.cell 17
  have c20 : w1.cell? ⟨g, 20, none⟩ = some (.int .u64 0) := hB2.cell 20
  have c21 : w1.cell? ⟨g, 21, none⟩ = some (.int .u64 0) := hB2.cell 21
  have c22 : w1.cell? ⟨g, 22, none⟩ = some (.int .u64 0) := hB2.cell 22
  have c23 : w1.cell? ⟨g, 23, none⟩ = some (.int .u64 0) := hB2.cell 23
  have c24 : w1.cell? ⟨g, 24, none⟩ = some (.int .u64 0) := hB2.cell 24
  have c25 : w1.cell? ⟨g, 25, none⟩ = some (.int .u64 0) := hB2.cell 25
  have c26 : w1.cell? ⟨g, 26, none⟩ = some (.int .u64 0) := hB2.cell 26
  have c27 : w1.cell? ⟨g, 27, none⟩ = some (.int .u64 0) := hB2.cell 27
  have c28 : w1.cell? ⟨g, 28, none⟩ = some (.int .u64 0) := hB2.cell 28
  have c29 : w1.cell? ⟨g, 29, none⟩ = some (.string ⟨#[]⟩) := hB2.cell 29
  have c30 : w1.cell? ⟨g, 30, none⟩ = some (.string ⟨#[]⟩) := hB2.cell 30
  have c31 : w1.cell? ⟨g, 31, none⟩ = some (.int .u64 0) := hB2.cell 31
  have c32 : w1.cell? ⟨g, 32, none⟩ = some (.int .u64 0) := hB2.cell 32
  have c33 : w1.cell? ⟨g, 33, none⟩ = some (.int .u64 0) := hB2.cell 33
  have c34 : w1.cell? ⟨g, 34, none⟩ = some (.int .u64 0) := hB2.cell 34
  have c35 : w1.cell? ⟨g, 35, none⟩ = some (.bool false) := hB2.cell 35
  have HR := Lib.hid hR; have HG2 := Lib.hid hG2
  clear hB2 hR hG2
  refine wp_region_list ?_
  iterate 99 go_step
  refine wp_store_row 190 (.tmp 2) (.tmp 35) rfl (g + 1) (restK n) rfl rfl 190 (restK 0) HR.out (by kernel_rfl) rfl (restK_one n) ?_
  have hR2 : Blk (w1.setRow (g + 1) (restK n)) (g + 1) 190 (restK n) := blk_setRow HR.out
  have hG3 : w.grownBy (w1.setRow (g + 1) (restK n)) none := only_setRow HG2.out (by have := HW.out; omega) _
  have HR2 := Lib.hid hR2; have HG3 := Lib.hid hG3
  clear hR2 hG3 HR HG2
  generalize w1.setRow (g + 1) (restK n) = w2 at *
  simp only [Act.put]
  go_wp2_with fail
  refine bodyPost_ret (results_cell_row (fn := Tryz.f117) rfl _ _ _ _ _ _ _ rfl HR2.out Tryz.underlying190 rfl (by kernel_rfl)) rfl ?_
  exact ⟨rfl, HG3.out⟩
end Go.Proofs.YthalohloneojlaaGreatDoor
/- A transaction that has a kind alone: it is like itself. -/
namespace Go.Proofs.YthalohloneojlaaGreatDoor
open Go.RowKit Go.Shelf
set_option linter.unusedVariables false
set_option linter.unusedSimpArgs false

set_option maxRecDepth 100000 in
theorem eq_word0 (w : World) : (Op.equalIn 9999 87 (.agg #[.int .u64 0, .int .u64 0, .int .u64 0, .int .u64 0]) (.agg #[.int .u64 0, .int .u64 0, .int .u64 0, .int .u64 0])).run Tryz.prog w = .ok true w := by kernel_rfl
set_option maxRecDepth 100000 in
set_option maxHeartbeats 4000000 in
theorem eq_restK (n : Int) (w : World) : (Op.equalIn 10000 190 (.agg (restK n)) (.agg (restK n))).run Tryz.prog w = .ok true w := by
  have hS : Tryz.prog.underlying 190 = some (.struct (Tryz.prog.fieldsOf 190)) := by kernel_rfl
  have hp : Tryz.prog.stoodInHeld 190 = false := by kernel_rfl
  rw [show (10000 : Nat) = 9999 + 1 from rfl, run_equalIn_agg w 9999 190 _ _ hS hp]
  simp only [Program.fieldsOf, Tryz.underlying190]
  unfold restK
  have h := eq_word0
  go_simp
/-- a row loaded whole -/
theorem exec_load_rowT {P : Program} {W : World} {a : Act} {o : Oper} {ty : TypeId} {x : Operand} {g : Nat} (ho : o.op = .load ty x) (hx : a.eval x = .pointer (some ⟨g, 0, none⟩)) (t : TypeId) (cs : Array Value) (d : TypeDesc) (hg : Blk W g t cs)
    (hu : P.underlying ty = some d) (hd : (match d with | .struct _ | .array _ _ => true | _ => false) = true) (hi : (P.info? ty).map (·.size) = some cs.size) : (execOp a.eval o).run P W = .ok (.value (.agg cs)) W := by
  unfold execOp
  simp only [ho, hx, Instr.loadAt, Instr.sureAddr, Sem.run_bind, Sem.run_pure, Result.andThen_ok, run_loadVar_row W g t ty cs (0, 0) d hg hu hd hi]
theorem exec_callv1 {P : Program} {a : Act} {o : Oper} {W : World} (f : FuncId) (y x : Operand) (ts : Array TypeId) (ho : o.op = .call { callee := .value y, args := #[x], argTypes := ts }) (hy : a.eval y = .func (.func f) #[] #[]) (v : Value) (hx : a.eval x = v)
    (hf : (callFunc f #[v]).run P W = .ok (.enter f #[v]) W) : (execOp a.eval o).run P W = .ok (.enter f #[v]) W := by
  unfold execOp
  generalize a.eval = ev at *
  simp only [ho]
  simp [resolve, invoke, go_sem, hx, hy, hf]
theorem exec_eqR {a : Act} {o : Oper} {x y : Value} {r : Bool} (h : ∀ w, (Op.equalIn 10000 190 x y).run Tryz.prog w = .ok r w) (W : World) {p q : Operand} {u : TypeId} (ho : o.op = .binOp .eql 190 p q u) (hp : a.eval p = x) (hq : a.eval q = y) {xs ys : Array Value} (hx : x = .agg xs) (hy : y = .agg ys) :
    (execOp a.eval o).run Tryz.prog W = .ok (.value (.bool r)) W := by
  have hm : Tryz.prog.eqGuardType Tryz.prog.depth 190 = false := by kernel_rfl
  subst hx; subst hy
  have h1 := run_eqGuard_agg (P := Tryz.prog) W .eql 190 p q xs ys hm
  have h2 := run_eql_struct (P := Tryz.prog) W 190 xs ys
  rw [h W] at h2
  unfold execOp
  generalize a.eval = ev at *
  simp only [ho, hp, hq]
  generalize eqGuard .eql 190 p q (.agg xs) (.agg ys) = G at *
  generalize binOp .eql 190 (.agg xs) (.agg ys) = M at *
  simp [go_sem, h1, h2]
set_option maxRecDepth 100000 in
set_option maxHeartbeats 4000000 in
theorem txSame_any (n : Int) (w : World) : Calls Tryz.prog 91 #[.agg (txK n), .agg (txK n)] w fun e w' => e = .returned (.bool true) ∧ w.grownBy w' none := by
  have hG := only_alloc (only_alloc (World.grownBy.refl w none) (.cells (txK n) 91)) (.cells (txK n) 91)
  have hb1 := (Blk.new w 91 (txK n)).alloc (.cells (txK n) 91)
  have hb2 := Blk.new (w.alloc (.cells (txK n) 91)) 91 (txK n)
  rw [World.size_alloc] at hb2
  have HG := Lib.hid hG
  have HO := Lib.hid (fun V => txRest_any n V)
  have HEQ := Lib.hid (eq_restK n)
  clear hG
  go_enter Tryz.func91, Tryz.ntmps91
  go_upto_region 1 with (fail)
  obtain ⟨g, hg⟩ : ∃ g, w.heap.size = g := ⟨_, rfl⟩
  rw [hg] at hb1 hb2 ⊢
  clear hg
  generalize (w.alloc (.cells (txK n) 91)).alloc (.cells (txK n) 91) = w1 at *
  have c18 : w1.cell? ⟨g, 18, none⟩ = some (.slice none 0 0) := hb1.cell 18
  have c19 : w1.cell? ⟨g, 19, none⟩ = some (.slice none 0 0) := hb1.cell 19
  have d18 : w1.cell? ⟨g + 1, 18, none⟩ = some (.slice none 0 0) := hb2.cell 18
  have d19 : w1.cell? ⟨g + 1, 19, none⟩ = some (.slice none 0 0) := hb2.cell 19
  have HB1 := Lib.hid hb1; have HB2 := Lib.hid hb2
  clear hb1 hb2
  go_wp2_with fail
  refine (accessSame_nil _ _).mono ?_
  rintro e w2 ⟨rfl, rfl⟩
  go_wp2_with fail
  refine (authsSame_nil _).mono ?_
  rintro e w2 ⟨rfl, rfl⟩
  clear c18 c19 d18 d19
  go_upto_region 5 with (fail)
  have l1 := HB1.out.lt; have l2 := HB2.out.lt
  have hC0 : (fun V => Below w2.heap.size w2 V) w2.drew := ⟨rfl, rfl, rfl, Nat.le_refl _, fun _ _ => rfl⟩
  refine wp_region_class (fun V => Below w2.heap.size w2 V) (by kernel_rfl) (by kernel_rfl) hC0 ?_
  have hcc := class_const hC0
  (try simp only [Act.put])
  (repeat go_big_quiet_step (fail))
  refine wpQuiet_value rfl (.agg (txK n)) (fun V hV => exec_load_rowT rfl rfl 91 (txK n) _ (HB1.out.below hV l1) Tryz.underlying91 rfl (by kernel_rfl)) ?_
  simp only [Act.put, List.setIfInBounds_toArray, List.set_cons_zero, List.set_cons_succ]
  refine quiet_callW (.agg (restK n)) 117 #[.agg (txK n)] rfl (fun V => exec_callv1 _ (.tmp 22) (.tmp 23) _ rfl rfl _ rfl (enters_of Tryz.func117 (by kernel_rfl) rfl _ _)) (fun V hV => HO.out V) ?_
  simp only [Act.put, List.setIfInBounds_toArray, List.set_cons_zero, List.set_cons_succ]
  (repeat go_big_quiet_step (fail))
  refine wpQuiet_value rfl (.agg (txK n)) (fun V hV => exec_load_rowT rfl rfl 91 (txK n) _ (HB2.out.below hV l2) Tryz.underlying91 rfl (by kernel_rfl)) ?_
  simp only [Act.put, List.setIfInBounds_toArray, List.set_cons_zero, List.set_cons_succ]
  refine quiet_callW (.agg (restK n)) 117 #[.agg (txK n)] rfl (fun V => exec_callv1 _ (.tmp 25) (.tmp 26) _ rfl rfl _ rfl (enters_of Tryz.func117 (by kernel_rfl) rfl _ _)) (fun V hV => HO.out V) ?_
  simp only [Act.put, List.setIfInBounds_toArray, List.set_cons_zero, List.set_cons_succ]
  refine wpQuiet_value rfl (.bool true) (fun V hV => exec_eqR HEQ.out V rfl rfl rfl rfl rfl) ?_
  simp only [Act.put, List.setIfInBounds_toArray, List.set_cons_zero, List.set_cons_succ]
  (repeat go_big_quiet_step (fail))
  refine wpQuiet_nil ?_
  intro w3 hw3
  have HG := Lib.hid (grown_self HG.out (grown_of_below hw3) (by simp))
  clear hcc hC0 hw3
  go_wp2_with fail
  go_ret
  exact ⟨rfl, HG.out⟩
end Go.Proofs.YthalohloneojlaaGreatDoor
