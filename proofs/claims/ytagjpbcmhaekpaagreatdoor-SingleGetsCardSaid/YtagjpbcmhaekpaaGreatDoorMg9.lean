/- Merged: UnrJ, UnrM, UnrN, UnrO, UnrP, UnrQ, UnrR, UnrS0. -/
import Derived.Test.YtagjpbcmhaekpaaGreatDoorMg8
import Derived.Laws.EntriesVeiled
import Derived.Deep.DeepCutAuto
/- The items of a list (items). -/
namespace Go.Proofs.YtagjpbcmhaekpaaGreatDoor
open Go.RowKit Go.Shelf
set_option linter.unnecessarySimpa false
attribute [local go_sem] Oper.semAt_some

/-- the boxes that items lays -/
theorem boxes5 (w : World) (r : Nat) (s : ByteArray) (d e : Int) (hr : Blk w r 74 #[.int .i64 d, .int .i64 e]) :
    Blk (((((w.alloc (.cells #[.pointer (some ⟨r, 0, none⟩)] 72)).alloc (.cells #[.string s] 9)).alloc (.cells #[.bool false, .string ⟨#[]⟩, .slice none 0 0] 40)).alloc (.cells #[.bool true, .string ⟨#[]⟩, .slice none 0 0] 40)).alloc (.cells #[(.func (.func 52) #[.pointer (some ⟨r, 0, none⟩)] #[])] 76)) r 74 #[.int .i64 d, .int .i64 e] ∧ Boxed (((((w.alloc (.cells #[.pointer (some ⟨r, 0, none⟩)] 72)).alloc (.cells #[.string s] 9)).alloc (.cells #[.bool false, .string ⟨#[]⟩, .slice none 0 0] 40)).alloc (.cells #[.bool true, .string ⟨#[]⟩, .slice none 0 0] 40)).alloc (.cells #[(.func (.func 52) #[.pointer (some ⟨r, 0, none⟩)] #[])] 76)) w.heap.size 72 (.pointer (some ⟨r, 0, none⟩)) ∧ Boxed (((((w.alloc (.cells #[.pointer (some ⟨r, 0, none⟩)] 72)).alloc (.cells #[.string s] 9)).alloc (.cells #[.bool false, .string ⟨#[]⟩, .slice none 0 0] 40)).alloc (.cells #[.bool true, .string ⟨#[]⟩, .slice none 0 0] 40)).alloc (.cells #[(.func (.func 52) #[.pointer (some ⟨r, 0, none⟩)] #[])] 76)) (w.heap.size + 1) 9 (.string s) ∧ Blk (((((w.alloc (.cells #[.pointer (some ⟨r, 0, none⟩)] 72)).alloc (.cells #[.string s] 9)).alloc (.cells #[.bool false, .string ⟨#[]⟩, .slice none 0 0] 40)).alloc (.cells #[.bool true, .string ⟨#[]⟩, .slice none 0 0] 40)).alloc (.cells #[(.func (.func 52) #[.pointer (some ⟨r, 0, none⟩)] #[])] 76)) (w.heap.size + 1 + 1) 40 #[.bool false, .string ⟨#[]⟩, .slice none 0 0] ∧
    Blk (((((w.alloc (.cells #[.pointer (some ⟨r, 0, none⟩)] 72)).alloc (.cells #[.string s] 9)).alloc (.cells #[.bool false, .string ⟨#[]⟩, .slice none 0 0] 40)).alloc (.cells #[.bool true, .string ⟨#[]⟩, .slice none 0 0] 40)).alloc (.cells #[(.func (.func 52) #[.pointer (some ⟨r, 0, none⟩)] #[])] 76)) (w.heap.size + 1 + 1 + 1) 40 #[.bool true, .string ⟨#[]⟩, .slice none 0 0] ∧ Boxed (((((w.alloc (.cells #[.pointer (some ⟨r, 0, none⟩)] 72)).alloc (.cells #[.string s] 9)).alloc (.cells #[.bool false, .string ⟨#[]⟩, .slice none 0 0] 40)).alloc (.cells #[.bool true, .string ⟨#[]⟩, .slice none 0 0] 40)).alloc (.cells #[(.func (.func 52) #[.pointer (some ⟨r, 0, none⟩)] #[])] 76)) (w.heap.size + 1 + 1 + 1 + 1) 76 (.func (.func 52) #[.pointer (some ⟨r, 0, none⟩)] #[]) ∧ w.grownBy (((((w.alloc (.cells #[.pointer (some ⟨r, 0, none⟩)] 72)).alloc (.cells #[.string s] 9)).alloc (.cells #[.bool false, .string ⟨#[]⟩, .slice none 0 0] 40)).alloc (.cells #[.bool true, .string ⟨#[]⟩, .slice none 0 0] 40)).alloc (.cells #[(.func (.func 52) #[.pointer (some ⟨r, 0, none⟩)] #[])] 76)) none ∧ (((((w.alloc (.cells #[.pointer (some ⟨r, 0, none⟩)] 72)).alloc (.cells #[.string s] 9)).alloc (.cells #[.bool false, .string ⟨#[]⟩, .slice none 0 0] 40)).alloc (.cells #[.bool true, .string ⟨#[]⟩, .slice none 0 0] 40)).alloc (.cells #[(.func (.func 52) #[.pointer (some ⟨r, 0, none⟩)] #[])] 76)).heap.size = w.heap.size + 5 := by
  have h0 := Boxed.new w 72 (.pointer (some ⟨r, 0, none⟩))
  have h1 := Boxed.new (w.alloc (.cells #[.pointer (some ⟨r, 0, none⟩)] 72)) 9 (.string s)
  have h2 := Blk.new ((w.alloc (.cells #[.pointer (some ⟨r, 0, none⟩)] 72)).alloc (.cells #[.string s] 9)) 40 #[.bool false, .string ⟨#[]⟩, .slice none 0 0]
  have h3 := Blk.new (((w.alloc (.cells #[.pointer (some ⟨r, 0, none⟩)] 72)).alloc (.cells #[.string s] 9)).alloc (.cells #[.bool false, .string ⟨#[]⟩, .slice none 0 0] 40)) 40 #[.bool true, .string ⟨#[]⟩, .slice none 0 0]
  have h4 := Boxed.new ((((w.alloc (.cells #[.pointer (some ⟨r, 0, none⟩)] 72)).alloc (.cells #[.string s] 9)).alloc (.cells #[.bool false, .string ⟨#[]⟩, .slice none 0 0] 40)).alloc (.cells #[.bool true, .string ⟨#[]⟩, .slice none 0 0] 40)) 76 (.func (.func 52) #[.pointer (some ⟨r, 0, none⟩)] #[])
  simp only [World.size_alloc] at h1 h2 h3 h4
  exact ⟨(((((hr.alloc _).alloc _).alloc _).alloc _).alloc _), (((h0.alloc _).alloc _).alloc _).alloc _, ((h1.alloc _).alloc _).alloc _, (h2.alloc _).alloc _, h3.alloc _, h4, only_alloc (only_alloc (only_alloc (only_alloc (only_alloc (World.grownBy.refl _ _) _) _) _) _) _, by simp⟩

set_option maxRecDepth 100000 in
set_option maxHeartbeats 4000000 in
theorem items_any (k : Nat) (hk : k ≤ 11) (hC : ItemC k) (s : ByteArray) (F r : Nat) (w : World) (hs : s.size ≤ 65536) (hr : Blk w r 74 #[.int .i64 ((11 - k : Nat) : Int), .int .i64 0]) :
    Calls Tryz.prog 72 #[.pointer (some ⟨r, 0, none⟩), .string s, .int .i64 (F : Int)] w fun e w' => ∃ sA sn sc, e = .returned (.agg #[.bool true, .string .empty, .slice sA sn sc]) ∧ w.grownBy w' (some r) ∧
      ((∃ xs, itemsF (itemF k s.data.toList) s.size 513 0 F = .ok xs ∧ Blk w' r 74 #[.int .i64 ((11 - k : Nat) : Int), .int .i64 0] ∧ SubV (fun g => w.heap.size ≤ g) w' xs (.slice sA sn sc)) ∨
       (∃ E, itemsF (itemF k s.data.toList) s.size 513 0 F = .error E ∧ E ≠ 0 ∧ Blk w' r 74 #[.int .i64 ((11 - k : Nat) : Int), .int .i64 E])) := by
  refine (callsIn_wide (n := 6)).1 ?_
  refine callsIn_of_wp_marks Tryz.func72 rfl trivial ?_ rfl
  simp only [Tryz.ntmps72, List.size_toArray, List.length_cons, List.length_nil, Nat.reduceAdd, Nat.reduceSub, Array.replicate_succ, Array.replicate_zero, List.push_toArray, List.append_toArray, List.nil_append, List.cons_append]
  obtain ⟨q, q0, q1, q2, q3, q4, hg5, hz5⟩ := boxes5 w r s ((11 - k : Nat) : Int) 0 hr
  have hrl := hr.lt
  have p := q.set_ 0 (.int .i64 ((12 - k : Nat) : Int))
  simp only [List.setIfInBounds_toArray, List.set_cons_zero] at p
  have p0 := q0.other (B' := r) (by omega) (.int .i64 ((12 - k : Nat) : Int))
  have p1 := q1.other (B' := r) (by omega) (.int .i64 ((12 - k : Nat) : Int))
  have p2 := q2.far (p := ⟨r, 0, none⟩) (by show w.heap.size + 1 + 1 ≠ r; omega) (.int .i64 ((12 - k : Nat) : Int))
  have p3 := q3.far (p := ⟨r, 0, none⟩) (by show w.heap.size + 1 + 1 + 1 ≠ r; omega) (.int .i64 ((12 - k : Nat) : Int))
  have p4 := q4.other (B' := r) (by omega) (.int .i64 ((12 - k : Nat) : Int))
  have c0 := q.cell 0; have f0 := q.frozen 0
  have c1 := p0.cell; have c2 := p1.cell
  simp only [List.getElem?_toArray, List.getElem?_cons_zero] at c0
  have v1 : IntKind.i64.wrap (((11 - k : Nat) : Int) + 1) = ((12 - k : Nat) : Int) := by rw [IntWalk.i64_in _ (by omega)]; omega
  have v2 : ((11 - k : Nat) : Int) + 1 = ((12 - k : Nat) : Int) := by omega
  gi_wp2_with fail
  refine ⟨trivial, callsIn_wide.2 ((places_any _ _ _ _ _ _).mono ?_)⟩
  have hg6 : w.grownBy ((((((w.alloc (.cells #[.pointer (some ⟨r, 0, none⟩)] 72)).alloc (.cells #[.string s] 9)).alloc (.cells #[.bool false, .string ⟨#[]⟩, .slice none 0 0] 40)).alloc (.cells #[.bool true, .string ⟨#[]⟩, .slice none 0 0] 40)).alloc (.cells #[(.func (.func 52) #[.pointer (some ⟨r, 0, none⟩)] #[])] 76)).setCell ⟨r, 0, none⟩ (.int .i64 ((12 - k : Nat) : Int))) (some r) := ⟨hg5.os, hg5.tape, hg5.output, by simpa [World.setCell] using hg5.size, fun g h1 h2 => (Below.heap_setCell _ ⟨r, 0, none⟩ _ g (by simpa using h2)).trans (hg5.block g h1 (by simp))⟩
  have hz6 : ((((((w.alloc (.cells #[.pointer (some ⟨r, 0, none⟩)] 72)).alloc (.cells #[.string s] 9)).alloc (.cells #[.bool false, .string ⟨#[]⟩, .slice none 0 0] 40)).alloc (.cells #[.bool true, .string ⟨#[]⟩, .slice none 0 0] 40)).alloc (.cells #[(.func (.func 52) #[.pointer (some ⟨r, 0, none⟩)] #[])] 76)).setCell ⟨r, 0, none⟩ (.int .i64 ((12 - k : Nat) : Int))).heap.size = w.heap.size + 5 := by simpa [World.setCell] using hz5
  generalize ((((((w.alloc (.cells #[.pointer (some ⟨r, 0, none⟩)] 72)).alloc (.cells #[.string s] 9)).alloc (.cells #[.bool false, .string ⟨#[]⟩, .slice none 0 0] 40)).alloc (.cells #[.bool true, .string ⟨#[]⟩, .slice none 0 0] 40)).alloc (.cells #[(.func (.func 52) #[.pointer (some ⟨r, 0, none⟩)] #[])] 76)).setCell ⟨r, 0, none⟩ (.int .i64 ((12 - k : Nat) : Int))) = w6 at *
  clear c0 c1 c2 f0 q q0 q1 q2 q3 q4 hg5 hz5
  rintro e w7 ⟨rfl, hw7⟩
  rw [hz6]
  obtain ⟨b, hb⟩ : ∃ b, w.heap.size = b := ⟨_, rfl⟩
  rw [hb] at p0 p1 p2 p3 p4 hz6 hrl ⊢
  have z1 : (w6.alloc (.cells #[.int .i64 (F : Int)] 3)).heap.size = b + 6 := by simp [hz6]
  have z2 : ((w6.alloc (.cells #[.int .i64 (F : Int)] 3)).alloc (.cells #[.int .i64 (s.size : Int)] 3)).heap.size = b + 7 := by simp [hz6]
  have n5 := Boxed.new w6 3 (.int .i64 (F : Int))
  have n6 := Boxed.new (w6.alloc (.cells #[.int .i64 (F : Int)] 3)) 3 (.int .i64 (s.size : Int))
  have n7 := Boxed.new ((w6.alloc (.cells #[.int .i64 (F : Int)] 3)).alloc (.cells #[.int .i64 (s.size : Int)] 3)) 121 (.func (.func 85) #[] #[.pointer (some ⟨b + 4, 0, none⟩), .pointer (some ⟨b + 1, 0, none⟩), .pointer (some ⟨b + 3, 0, none⟩)])
  rw [hz6] at n5
  rw [z1] at n6
  rw [z2] at n7
  have m5 := (n5.alloc (.cells #[.int .i64 (s.size : Int)] 3)).alloc (.cells #[.func (.func 85) #[] #[.pointer (some ⟨b + 4, 0, none⟩), .pointer (some ⟨b + 1, 0, none⟩), .pointer (some ⟨b + 3, 0, none⟩)]] 121)
  have m6 := n6.alloc (.cells #[.func (.func 85) #[] #[.pointer (some ⟨b + 4, 0, none⟩), .pointer (some ⟨b + 1, 0, none⟩), .pointer (some ⟨b + 3, 0, none⟩)]] 121)
  rw [hb] at hw7
  rw [show b + 1 + 1 + 1 + 1 = b + 4 from rfl, show b + 1 + 1 + 1 = b + 3 from rfl] at hw7
  rw [← hw7] at m5 m6 n7
  have hg7 : w.grownBy w7 (some r) := by rw [hw7]; exact only_alloc (only_alloc (only_alloc hg6 _) _) _
  have hz7 : w7.heap.size = b + 8 := by rw [hw7]; simp [hz6]
  have hIB : IB w b r s w7 := ⟨hg7, by rw [hw7]; exact ((p0.alloc _).alloc _).alloc _, by rw [hw7]; exact ((p1.alloc _).alloc _).alloc _, by rw [hw7]; exact ((p2.alloc _).alloc _).alloc _, by rw [hw7]; exact ((p4.alloc _).alloc _).alloc _, m6, n7⟩
  have h3 : Blk w7 (b + 3) 40 #[.bool true, .string ⟨#[]⟩, .slice none 0 0] := by rw [hw7]; exact ((p3.alloc _).alloc _).alloc _
  have hrd : Blk w7 r 74 #[.int .i64 ((12 - k : Nat) : Int), .int .i64 0] := by rw [hw7]; exact ((p.alloc _).alloc _).alloc _
  have hI0 : II w b r s k F 0 (F : Int) w7 := ⟨hIB, m5, by omega, 0, none, 0, 0, h3, hrd, .inl ⟨rfl, F, [], [], rfl, rfl, rfl, World.ownsRow_nil _ _ _ _, fun j hj => absurd hj (by omega), by show _ = prepR [] (itemsF (itemF k s.data.toList) s.size 513 0 F); cases itemsF (itemF k s.data.toList) s.size 513 0 F <;> rfl⟩⟩
  clear m5 m6 n5 n6 n7 z1 z2 hw7 p0 p1 p2 p3 p4 p hg6 hz6 hIB h3 hrd hg7
  gi_wp2_with fail
  have HZ := Lib.hid hz7; have HB := Lib.hid hb
  clear hb
  refine range_places (b + 5) (b + 6) (b + 7) 85 #[.pointer (some ⟨b + 4, 0, none⟩), .pointer (some ⟨b + 1, 0, none⟩), .pointer (some ⟨b + 3, 0, none⟩)] (s.size : Int) (F : Int) 512 (by omega) (by omega) rfl
    (enters_of Tryz.func99 (by kernel_rfl) rfl) (enters_of Tryz.func85 (by kernel_rfl) rfl) rfl
    (II w b r s k F) (II2 w b r s k F) (IX w b r s k F 0) (by omega) (II.own (by rw [HB.out]; omega)) (II2.own (by rw [HB.out]; omega)) (IX.own (by rw [HB.out]; omega))
    (fun i p W h => ⟨⟨h.2.1, h.1.q6, h.1.q7⟩, h.2.2.1⟩) (fun i p W h => ⟨⟨h.2.1, h.1.q6, h.1.q7⟩, h.2.2.1⟩) hI0
    (fun i p a' => a' = { tmps := #[.pointer (some ⟨r, 0, none⟩), .string s, .int .i64 (F : Int), .pointer (some ⟨b, 0, none⟩), .pointer (some ⟨b + 1, 0, none⟩), undef, .pointer (some ⟨b + 1 + 1, 0, none⟩), .pointer (some ⟨b + 1 + 1 + 1, 0, none⟩), .pointer (some ⟨b + 1 + 1 + 1 + 1, 0, none⟩), .func (.func 85) #[] #[.pointer (some ⟨b + 1 + 1 + 1 + 1, 0, none⟩), .pointer (some ⟨b + 1, 0, none⟩), .pointer (some ⟨b + 1 + 1 + 1, 0, none⟩)], .int .i64 (i : Int), .agg #[.bool true, .string ⟨#[]⟩, .slice none 0 0], .pointer (some ⟨r, 0, none⟩), (.func (.func 52) #[.pointer (some ⟨r, 0, none⟩)] #[]), .pointer (some ⟨r, 0, none⟩), .pointer (some ⟨r, 0, none⟩), .pointer (some ⟨r, 0, none⟩), .int .i64 ((11 - k : Nat) : Int), .int .i64 ((12 - k : Nat) : Int), .pointer (some ⟨r, 0, none⟩), .pointer (some ⟨r, 0, none⟩), .func (.func 84) #[] #[.pointer (some ⟨b, 0, none⟩)], .func (.func 85) #[] #[.pointer (some ⟨b + 1 + 1 + 1 + 1, 0, none⟩), .pointer (some ⟨b + 1, 0, none⟩), .pointer (some ⟨b + 1 + 1 + 1, 0, none⟩)], .int .i64 (F : Int), .string s, .int .i64 (s.size : Int), .func (.func 85) #[] #[.pointer (some ⟨b + 1 + 1 + 1 + 1, 0, none⟩), .pointer (some ⟨b + 1, 0, none⟩), .pointer (some ⟨b + 1 + 1 + 1, 0, none⟩)], .func (.func 99) #[] #[.pointer (some ⟨b + 5, 0, none⟩), .pointer (some ⟨b + 5 + 1, 0, none⟩), .pointer (some ⟨b + 5 + 1 + 1, 0, none⟩)], .int .i64 (i : Int), .int .i64 p, undef, undef, undef, undef, undef, undef, undef, undef, undef, undef, undef, undef, undef, undef, undef, undef, undef, undef], defers := [] }) ?assign ?body (fun i p W h => callsIn_wide.2 (read_step hC hs HB.out hrl w7.heap.size h)) ?done ?stop
  case assign =>
    intro l i p W K hi hK
    have hK' := hK _ rfl
    have HK := Lib.hid hK'
    clear hK hK'
    gi_wp2
    exact HK.out
  case body =>
    rintro l i p a' W ⟨h1, h2, h3, E, A, n, c, h4, h5, h6⟩ hlt rfl
    have c0 := h1.q0.cell
    have c1 := h5.cell 1; have f1 := h5.frozen 1
    simp only [List.getElem?_toArray, List.getElem?_cons_zero, List.getElem?_cons_succ] at c1
    rcases h6 with ⟨rfl, h6⟩ | ⟨hE, h6⟩
    · by_cases hi : i = 512
      · subst hi
        have hd : decide ((512 : Int) ≤ ((512 : Nat) : Int)) = true := by simp
        obtain ⟨p', xs, vs, rfl, _, _, _, _, hspec⟩ := h6
        have hsp := itemsF_many (by omega) hspec
        have HSP := Lib.hid hsp
        clear hspec hsp
        have hst : Stays (fun g => g = r) W (W.setCell ⟨r, 1, none⟩ (.int .i64 5)) := fun g o ho _ hx => (Below.heap_setCell W ⟨r, 1, none⟩ _ g hx).trans ho
        have hgw : w.grownBy (W.setCell ⟨r, 1, none⟩ (.int .i64 5)) (some r) := ⟨h1.hg.os, h1.hg.tape, h1.hg.output, by simpa [World.setCell] using h1.hg.size, fun g g1 g2 => (Below.heap_setCell W ⟨r, 1, none⟩ _ g (by simpa using g2)).trans (h1.hg.block g g1 g2)⟩
        have h5' := h5.set_ 1 (.int .i64 5)
        simp only [List.setIfInBounds_toArray, List.set_cons_zero, List.set_cons_succ] at h5'
        have k1 := h5'.cell 1
        have k0 := (h1.q0.other (B' := r) (by omega) (.int .i64 5)).cell
        simp only [List.getElem?_toArray, List.getElem?_cons_zero, List.getElem?_cons_succ] at k1
        have HX : Hid (IX w b r s k F 0 (.exit 0) (W.setCell ⟨r, 1, none⟩ (.int .i64 5))) := ⟨rfl, h1.stays hst hgw (fun g g1 _ _ _ => by omega), 5, A, n, c, by decide, hst.blk h4 (by omega), h5', HSP.out⟩
        have HKF : Hid (KeepsFrom w7.heap.size W (W.setCell ⟨r, 1, none⟩ (.int .i64 5))) := Lib.hid ((KeepsOthers.setCell W ⟨r, 1, none⟩ (.int .i64 5)).from _)
        clear h1 h2 h4 h5 h5' hst hgw hI0
        gi_wp2
        exact ⟨HKF.out, HX.out⟩
      · have hd : decide ((512 : Int) ≤ (i : Int)) = false := decide_eq_false (by omega)
        have hd' : decide (512 ≤ i) = false := decide_eq_false (by omega)
        have HX : Hid (II2 w b r s k F i p W) := ⟨h1, h2, by omega, hlt, A, n, c, h4, h5, h6⟩
        clear h1 h2 h4 h5 h6 hI0
        gi_wp2
        exact ⟨KeepsFrom.refl _ _, HX.out⟩
    · have he : (E == 0) = false := by simpa using hE
      have he' : (E != 0) = true := by simpa using hE
      have HX : Hid (IX w b r s k F 0 (.exit 0) W) := ⟨rfl, h1, E, A, n, c, hE, h4, h5, h6⟩
      clear h1 h2 h4 h5 h6 hI0 hE
      gi_wp2
      exact ⟨KeepsFrom.refl _ _, HX.out⟩
  case done =>
    rintro D i p W hD hlt ⟨h1, h2, h3, E, A, n, c, h4, h5, h6⟩ hK
    have HEE : (E = 0 ∧ IOk (itemF k s.data.toList) s.size F b (.slice A n c) i p W ∧ i ≤ 512 ∧ (s.size : Int) ≤ p) ∨ (E ≠ 0 ∧ itemsF (itemF k s.data.toList) s.size 513 0 F = .error E) := by
      rcases h6 with ⟨e, h6⟩ | h6
      · exact .inl ⟨e, h6, h3, by omega⟩
      · exact .inr h6
    have c0 := h4.cell 0; have c1 := h4.cell 1; have c2 := h4.cell 2
    have d0 := h1.q2.cell 0; have d1 := h1.q2.cell 1; have d2 := h1.q2.cell 2
    have f0 := h1.q2.frozen 0; have f1 := h1.q2.frozen 1; have f2 := h1.q2.frozen 2
    simp only [List.getElem?_toArray, List.getElem?_cons_zero, List.getElem?_cons_succ] at c0 c1 c2 d0 d1 d2
    have hDW : b + 8 ≤ D := by have := HZ.out; omega
    have HD := Lib.hid hDW
    have H1 := Lib.hid h1; have H5 := Lib.hid h5; have HE := Lib.hid HEE; have HK := Lib.hid hK
    have q2' := blk_set3 h1.q2 (.bool true) (.string ⟨#[]⟩) (.slice A n c)
    have q0' := ((h1.q0.other (B' := b + 2) (by omega) (.bool true)))
    clear h4 h5 h1 hK hI0 hD hDW h6 h2 hlt
    gi_wp2
    have q0w : Boxed (((W.setCell ⟨b + 2, 0, none⟩ (.bool true)).setCell ⟨b + 2, 1, none⟩ (.string ⟨#[]⟩)).setCell ⟨b + 2, 2, none⟩ (.slice A n c)) b 72 (.pointer (some ⟨r, 0, none⟩)) := (Below.heap_setCell _ ⟨b + 2, 2, none⟩ _ b (by show b ≠ b + 2; omega)).trans ((Below.heap_setCell _ ⟨b + 2, 1, none⟩ _ b (by show b ≠ b + 2; omega)).trans q0')
    have h5w := ((H5.out.far (p := ⟨b + 2, 0, none⟩) (by show r ≠ b + 2; omega) (.bool true)).far (p := ⟨b + 2, 1, none⟩) (by show r ≠ b + 2; omega) (.string ⟨#[]⟩)).far (p := ⟨b + 2, 2, none⟩) (by show r ≠ b + 2; omega) (.slice A n c)
    have hKw := ((((KeepsOthers.setCell W ⟨b + 2, 0, none⟩ (.bool true)).trans (KeepsOthers.setCell _ ⟨b + 2, 1, none⟩ (.string ⟨#[]⟩))).trans (KeepsOthers.setCell _ ⟨b + 2, 2, none⟩ (.slice A n c))).same D _ HK.out rfl)
    refine items_leave hk hrl HD.out rfl q0w q2' h5w hKw fun W' hbr hkw => ?_
    refine items_close HB.out hrl HD.out H1.out HK.out HE.out ⟨hkw.os, hkw.tape, hkw.output, by simpa [World.setCell] using hkw.size, fun j hj => (hkw.block j ⟨hj.1, hj.2.1⟩).trans ?_⟩ hbr
    exact (Below.heap_setCell _ ⟨b + 2, 2, none⟩ _ j hj.2.2).trans ((Below.heap_setCell _ ⟨b + 2, 1, none⟩ _ j hj.2.2).trans (Below.heap_setCell _ ⟨b + 2, 0, none⟩ _ j hj.2.2))
  case stop =>
    rintro D cd W hD ⟨rfl, h1, E, A, n, c, hE, h4, h5, h6⟩ hK
    have HEE : (E = 0 ∧ IOk (itemF k s.data.toList) s.size F b (.slice A n c) 0 0 W ∧ 0 ≤ 512 ∧ (s.size : Int) ≤ 0) ∨ (E ≠ 0 ∧ itemsF (itemF k s.data.toList) s.size 513 0 F = .error E) := .inr ⟨hE, h6⟩
    have c0 := h4.cell 0; have c1 := h4.cell 1; have c2 := h4.cell 2
    have d0 := h1.q2.cell 0; have d1 := h1.q2.cell 1; have d2 := h1.q2.cell 2
    have f0 := h1.q2.frozen 0; have f1 := h1.q2.frozen 1; have f2 := h1.q2.frozen 2
    simp only [List.getElem?_toArray, List.getElem?_cons_zero, List.getElem?_cons_succ] at c0 c1 c2 d0 d1 d2
    have hDW : b + 8 ≤ D := by have := HZ.out; omega
    have HD := Lib.hid hDW
    have H1 := Lib.hid h1; have H5 := Lib.hid h5; have HE := Lib.hid HEE; have HK := Lib.hid hK
    have q2' := blk_set3 h1.q2 (.bool true) (.string ⟨#[]⟩) (.slice A n c)
    have q0' := ((h1.q0.other (B' := b + 2) (by omega) (.bool true)))
    clear h4 h5 h1 hK hI0 hD hDW h6 hE
    gi_wp2
    have q0w : Boxed (((W.setCell ⟨b + 2, 0, none⟩ (.bool true)).setCell ⟨b + 2, 1, none⟩ (.string ⟨#[]⟩)).setCell ⟨b + 2, 2, none⟩ (.slice A n c)) b 72 (.pointer (some ⟨r, 0, none⟩)) := (Below.heap_setCell _ ⟨b + 2, 2, none⟩ _ b (by show b ≠ b + 2; omega)).trans ((Below.heap_setCell _ ⟨b + 2, 1, none⟩ _ b (by show b ≠ b + 2; omega)).trans q0')
    have h5w := ((H5.out.far (p := ⟨b + 2, 0, none⟩) (by show r ≠ b + 2; omega) (.bool true)).far (p := ⟨b + 2, 1, none⟩) (by show r ≠ b + 2; omega) (.string ⟨#[]⟩)).far (p := ⟨b + 2, 2, none⟩) (by show r ≠ b + 2; omega) (.slice A n c)
    have hKw := ((((KeepsOthers.setCell W ⟨b + 2, 0, none⟩ (.bool true)).trans (KeepsOthers.setCell _ ⟨b + 2, 1, none⟩ (.string ⟨#[]⟩))).trans (KeepsOthers.setCell _ ⟨b + 2, 2, none⟩ (.slice A n c))).same D _ HK.out rfl)
    refine items_leave hk hrl HD.out rfl q0w q2' h5w hKw fun W' hbr hkw => ?_
    refine items_close HB.out hrl HD.out H1.out HK.out HE.out ⟨hkw.os, hkw.tape, hkw.output, by simpa [World.setCell] using hkw.size, fun j hj => (hkw.block j ⟨hj.1, hj.2.1⟩).trans ?_⟩ hbr
    exact (Below.heap_setCell _ ⟨b + 2, 2, none⟩ _ j hj.2.2).trans ((Below.heap_setCell _ ⟨b + 2, 1, none⟩ _ j hj.2.2).trans (Below.heap_setCell _ ⟨b + 2, 0, none⟩ _ j hj.2.2))
end Go.Proofs.YtagjpbcmhaekpaaGreatDoor
/- One item (item): the contract at every depth. -/
namespace Go.Proofs.YtagjpbcmhaekpaaGreatDoor
open Go.RowKit Go.Shelf

theorem item_err {k : Nat} {l : List UInt8} {a : Nat} (h1 : ¬ (a < l.length ∧ 192 ≤ headC l a ∧ k = 0)) (he : lookE l (a : Int) ≠ 0) : itemF k l a = .error (lookE l (a : Int)) := by
  cases k with
  | zero => show itemG none l a = _; unfold itemG; rw [if_neg (by rintro ⟨x, y, _⟩; exact h1 ⟨x, y, rfl⟩), if_pos he]
  | succ k' => show itemG (some (itemF k')) l a = _; unfold itemG; rw [if_neg (by rintro ⟨_, _, x⟩; cases x), if_pos he]
theorem item_bytes {k : Nat} {l : List UInt8} {a : Nat} (h1 : ¬ (a < l.length ∧ 192 ≤ headC l a ∧ k = 0)) (he : lookE l (a : Int) = 0) (hl : lookL l (a : Int) = false) : itemF k l a = .ok (.mk false ⟨((l.drop (lookFrom l a)).take (lookN l a)).toArray⟩ [], lookFrom l a + lookN l a) := by
  cases k with
  | zero => show itemG none l a = _; unfold itemG; rw [if_neg (by rintro ⟨x, y, _⟩; exact h1 ⟨x, y, rfl⟩), if_neg (by simpa using he), if_pos hl]
  | succ k' => show itemG (some (itemF k')) l a = _; unfold itemG; rw [if_neg (by rintro ⟨_, _, x⟩; cases x), if_neg (by simpa using he), if_pos hl]
theorem item_list {k : Nat} {l : List UInt8} {a : Nat} (he : lookE l (a : Int) = 0) (hl : lookL l (a : Int) = true) : itemF (k + 1) l a = match itemsF (itemF k (l.take (lookFrom l a + lookN l a))) (lookFrom l a + lookN l a) 513 0 (lookFrom l a) with
    | .error e => .error e
    | .ok xs => .ok (.mk true .empty xs, lookFrom l a + lookN l a) := by
  show itemG (some (itemF k)) l a = _; unfold itemG; rw [if_neg (by rintro ⟨_, _, x⟩; cases x), if_neg (by simpa using he), if_neg (by rw [hl]; decide)]
  rfl
theorem set_grown (W : World) (r i : Nat) (v : Value) : W.grownBy (W.setCell ⟨r, i, none⟩ v) (some r) :=
  ⟨rfl, rfl, rfl, by simp [World.setCell], fun g _ h => Below.heap_setCell W ⟨r, i, none⟩ v g (by simpa using h)⟩
end Go.Proofs.YtagjpbcmhaekpaaGreatDoor
/- One item: an error of the head. -/
namespace Go.Proofs.YtagjpbcmhaekpaaGreatDoor
open Go.RowKit Go.Shelf
set_option linter.unusedVariables false

/-- the guard of the depth does not hold, in one of three ways -/
theorem guard_no {s : ByteArray} {a k : Nat} (ha : a ≤ s.size) (h : ¬ (a < s.size ∧ 192 ≤ headC s.data.toList a ∧ k = 0)) :
    (decide ((a : Int) < (s.size : Int)) = false ∧ decide (a < s.size) = false) ∨
    (((a : Int) < (s.size : Int)) ∧ (∀ V, (Instr.index 9 (.string s) (.int .i64 (a : Int))).run Tryz.prog V = .ok (.int .u8 ((headC s.data.toList a : Nat) : Int)) V) ∧ decide ((192 : Int) ≤ ((headC s.data.toList a : Nat) : Int)) = false) ∨
    (((a : Int) < (s.size : Int)) ∧ (∀ V, (Instr.index 9 (.string s) (.int .i64 (a : Int))).run Tryz.prog V = .ok (.int .u8 ((headC s.data.toList a : Nat) : Int)) V) ∧ decide ((192 : Int) ≤ ((headC s.data.toList a : Nat) : Int)) = true ∧ decide ((12 : Int) ≤ ((12 - k : Nat) : Int)) = false) := by
  have hlz : s.data.toList.length = s.size := ba_len s
  by_cases h1 : a < s.size
  · have hid := fun V => idx_str s a (s.data.toList.getD a 0) (at_getD 0 (by omega)) V
    change ∀ V, (Instr.index 9 (.string s) (.int .i64 (a : Int))).run Tryz.prog V = .ok (.int .u8 ((headC s.data.toList a : Nat) : Int)) V at hid
    by_cases h2 : 192 ≤ headC s.data.toList a
    · exact .inr (.inr ⟨by omega, hid, decide_eq_true (by omega), decide_eq_false (by omega)⟩)
    · exact .inr (.inl ⟨by omega, hid, decide_eq_false (by omega)⟩)
  · exact .inl ⟨decide_eq_false (by omega), decide_eq_false h1⟩

set_option maxRecDepth 100000 in
set_option maxHeartbeats 600000 in
theorem item_bad (k : Nat) (s : ByteArray) (a r : Nat) (W : World) (hs : s.size ≤ 65536) (ha : a ≤ s.size) (hr : Blk W r 74 #[.int .i64 ((12 - k : Nat) : Int), .int .i64 0])
    (h1 : ¬ (a < s.size ∧ 192 ≤ headC s.data.toList a ∧ k = 0)) (he : lookE s.data.toList (a : Int) ≠ 0) :
    Calls Tryz.prog 52 #[.pointer (some ⟨r, 0, none⟩), .string s, .int .i64 (a : Int)] W fun e W1 => ∃ l b sA sn sc tq, e = .returned (.tuple #[.agg #[.bool l, .string b, .slice sA sn sc], .int .i64 tq]) ∧ W.grownBy W1 (some r) ∧ ItemTail k s.data.toList a r W l b (.slice sA sn sc) tq W1 := by
  have hlz : s.data.toList.length = s.size := ba_len s
  have hlk := fun V => look_any s (a : Int) (by omega) V
  have hrl := hr.lt
  have hG := guard_no ha h1
  have hi := item_err (k := k) (by rw [hlz]; exact h1) he
  obtain ⟨b1, b2, b3⟩ := look_bad rfl he
  rw [b1, b2, b3] at hlk
  have HI := Lib.hid hi
  have hxA := Blk.new W 40 #[.bool false, .string ⟨#[]⟩, .slice none 0 0]
  have hrA := hr.alloc (.cells #[.bool false, .string ⟨#[]⟩, .slice none 0 0] 40)
  have hGA : W.grownBy (W.alloc (.cells #[.bool false, .string ⟨#[]⟩, .slice none 0 0] 40)) none := only_alloc (World.grownBy.refl _ _) _
  have k1 := (hr.alloc (.cells #[.bool false, .string ⟨#[]⟩, .slice none 0 0] 40)).cell 0
  simp only [List.getElem?_toArray, List.getElem?_cons_zero] at k1
  clear hi b1 b2 b3 h1 hlz
  generalize lookE s.data.toList (a : Int) = E at *
  generalize headC s.data.toList a = c at *
  have e1 : (E != 0) = true := by simpa using he
  have HE := Lib.hid he
  clear he
  rcases hG with ⟨d1, d1'⟩ | ⟨d1, hid, d2⟩ | ⟨d1, hid, d2, d3⟩
  all_goals
    go_enter Tryz.func52, Tryz.ntmps52
    go_wp2_with fail
    refine (hlk _).mono ?_
    rintro e w2 ⟨rfl, hg⟩
    have y0 := hxA.grown hg (by simp)
    have y1 := hrA.grown hg (by simp)
    have hG2 := only_weak (grown_self hGA hg (by simp)) (some r)
    have z0 := y0.alloc (.cells #[.int .i64 0, .int .i64 0, .bool false] 106)
    have z1 := y1.alloc (.cells #[.int .i64 0, .int .i64 0, .bool false] 106)
    have hG3 := only_alloc hG2 (.cells #[.int .i64 0, .int .i64 0, .bool false] 106)
    clear hxA hrA hGA hg hlk hG2 y0 y1 k1 hr
    go_upto_region 6 with (fail)
    generalize w2.alloc (.cells #[.int .i64 0, .int .i64 0, .bool false] 106) = w3 at *
    have r1 := z1.cell 1; have rf := z1.frozen 1
    have t0 := z0.far (p := ⟨r, 1, none⟩) (by show W.heap.size ≠ r; omega) (.int .i64 E)
    have t1 := z1.set_ 1 (.int .i64 E)
    have tG : W.grownBy (w3.setCell ⟨r, 1, none⟩ (.int .i64 E)) (some r) := grown_self hG3 (set_grown w3 r 1 (.int .i64 E)) (fun q e => .inl e)
    simp only [List.setIfInBounds_toArray, List.set_cons_zero, List.set_cons_succ, List.getElem?_toArray, List.getElem?_cons_zero, List.getElem?_cons_succ] at t1 r1
    clear z0 z1 hG3
    go_upto_region 7 with (fail)
    clear r1 rf
    generalize w3.setCell ⟨r, 1, none⟩ (.int .i64 E) = w4 at *
    have c0 := t0.cell 0; have c1 := t0.cell 1; have c2 := t0.cell 2
    have f0 := t0.frozen 0; have f1 := t0.frozen 1; have f2 := t0.frozen 2
    simp only [List.getElem?_toArray, List.getElem?_cons_zero, List.getElem?_cons_succ] at c0 c1 c2
    have t2 := blk_set3 t0 (.bool false) (.string ⟨#[]⟩) (.slice none 0 0)
    have t3 := ((t1.far (p := ⟨W.heap.size, 0, none⟩) (by show r ≠ W.heap.size; omega) (.bool false)).far (p := ⟨W.heap.size, 1, none⟩) (by show r ≠ W.heap.size; omega) (.string ⟨#[]⟩)).far (p := ⟨W.heap.size, 2, none⟩) (by show r ≠ W.heap.size; omega) (.slice none 0 0)
    have t4 := only_set3 tG (g := W.heap.size) (Nat.le_refl _) (.bool false) (.string ⟨#[]⟩) (.slice none 0 0)
    have T2 := Lib.hid t2; have T3 := Lib.hid t3; have T4 := Lib.hid t4
    clear t0 t1 t2 t3 t4 tG
    go_wp2_with fail
    refine bodyPost_ret (results_ct (fn := Tryz.f52) rfl _ _ _ _ rfl (load_item T2.out)) rfl ?_
    exact ⟨false, ⟨#[]⟩, none, 0, 0, (a : Int), rfl, T4.out, .inr ⟨E, HI.out, HE.out, T3.out⟩⟩
set_option maxRecDepth 100000 in
set_option maxHeartbeats 600000 in
theorem item_deep (s : ByteArray) (a r : Nat) (W : World) (hs : s.size ≤ 65536) (h2 : a < s.size) (h3 : 192 ≤ headC s.data.toList a) (hr : Blk W r 74 #[.int .i64 ((12 - 0 : Nat) : Int), .int .i64 0]) :
    Calls Tryz.prog 52 #[.pointer (some ⟨r, 0, none⟩), .string s, .int .i64 (a : Int)] W fun e W1 => ∃ l b sA sn sc tq, e = .returned (.tuple #[.agg #[.bool l, .string b, .slice sA sn sc], .int .i64 tq]) ∧ W.grownBy W1 (some r) ∧ ItemTail 0 s.data.toList a r W l b (.slice sA sn sc) tq W1 := by
  have hlz : s.data.toList.length = s.size := ba_len s
  have hr0 := hr.cell 0; have hr1 := hr.cell 1; have hf1 := hr.frozen 1
  simp only [List.getElem?_toArray, List.getElem?_cons_zero, List.getElem?_cons_succ] at hr0 hr1
  have hrl := hr.lt
  have hi : itemF 0 s.data.toList a = .error 7 := by
    show itemG none s.data.toList a = .error 7
    unfold itemG; rw [if_pos ⟨by omega, h3, rfl⟩]
  have hid := fun V => idx_str s a (s.data.toList.getD a 0) (at_getD 0 (by omega)) V
  change ∀ V, (Instr.index 9 (.string s) (.int .i64 (a : Int))).run Tryz.prog V = .ok (.int .u8 ((headC s.data.toList a : Nat) : Int)) V at hid
  have HI := Lib.hid hi
  generalize headC s.data.toList a = c at *
  have d1 : (a : Int) < (s.size : Int) := by omega
  have d2 : (192 : Int) ≤ (c : Int) := by omega
  clear hi
  go_enter Tryz.func52, Tryz.ntmps52
  go_wp2_with fail
  have hxb := Blk.new (W.setCell ⟨r, 1, none⟩ (.int .i64 7)) 40 #[.bool false, .string ⟨#[]⟩, .slice none 0 0]
  rw [show (W.setCell ⟨r, 1, none⟩ (.int .i64 7)).heap.size = W.heap.size by simp [World.setCell]] at hxb
  have hrx := (hr.set_ 1 (.int .i64 7)).alloc (.cells #[.bool false, .string ⟨#[]⟩, .slice none 0 0] 40)
  simp only [List.setIfInBounds_toArray, List.set_cons_zero, List.set_cons_succ] at hrx
  have hgx := only_alloc (set_grown W r 1 (.int .i64 7)) (.cells #[.bool false, .string ⟨#[]⟩, .slice none 0 0] 40)
  refine bodyPost_ret (results_ct (fn := Tryz.f52) rfl _ _ _ _ rfl (load_item hxb)) rfl ?_
  exact ⟨false, ⟨#[]⟩, none, 0, 0, (a : Int), rfl, hgx, .inr ⟨7, HI.out, by decide, hrx⟩⟩
end Go.Proofs.YtagjpbcmhaekpaaGreatDoor
/- One item: bytes. -/
namespace Go.Proofs.YtagjpbcmhaekpaaGreatDoor
open Go.RowKit Go.Shelf
set_option linter.unusedVariables false

theorem ba_ext' {s : ByteArray} {F N : Nat} : s.extract F (F + N) = ⟨((s.data.toList.drop F).take N).toArray⟩ := by
  apply ByteArray.ext
  apply Array.ext'
  rw [Lib.extract_data]
  simp
theorem no_items (S : Nat → Prop) (W : World) (c : Nat) : SubV S W [] (.slice none 0 c) := .mk [] none c [] (fun h => by cases h) (fun i h => by cases h)
set_option maxRecDepth 100000 in
set_option maxHeartbeats 600000 in
theorem item_txt (k : Nat) (s : ByteArray) (a r : Nat) (W : World) (hs : s.size ≤ 65536) (ha : a ≤ s.size) (hr : Blk W r 74 #[.int .i64 ((12 - k : Nat) : Int), .int .i64 0])
    (h1 : ¬ (a < s.size ∧ 192 ≤ headC s.data.toList a ∧ k = 0)) (he : lookE s.data.toList (a : Int) = 0) (hl : lookL s.data.toList (a : Int) = false) :
    Calls Tryz.prog 52 #[.pointer (some ⟨r, 0, none⟩), .string s, .int .i64 (a : Int)] W fun e W1 => ∃ l b sA sn sc tq, e = .returned (.tuple #[.agg #[.bool l, .string b, .slice sA sn sc], .int .i64 tq]) ∧ W.grownBy W1 (some r) ∧ ItemTail k s.data.toList a r W l b (.slice sA sn sc) tq W1 := by
  have hlz : s.data.toList.length = s.size := ba_len s
  have hlk := fun V => look_any s (a : Int) (by omega) V
  have hrl := hr.lt
  have hG := guard_no ha h1
  have hi := item_bytes (k := k) (by rw [hlz]; exact h1) he hl
  obtain ⟨b0, b1, _⟩ := look_ok he
  rw [hl, he] at hlk
  have HI := Lib.hid hi
  have hxA := Blk.new W 40 #[.bool false, .string ⟨#[]⟩, .slice none 0 0]
  have hrA := hr.alloc (.cells #[.bool false, .string ⟨#[]⟩, .slice none 0 0] 40)
  have hGA : W.grownBy (W.alloc (.cells #[.bool false, .string ⟨#[]⟩, .slice none 0 0] 40)) none := only_alloc (World.grownBy.refl _ _) _
  have k1 := (hr.alloc (.cells #[.bool false, .string ⟨#[]⟩, .slice none 0 0] 40)).cell 0
  simp only [List.getElem?_toArray, List.getElem?_cons_zero] at k1
  rw [hlz] at b1
  clear hi h1 hlz he hl
  generalize lookFrom s.data.toList (a : Int) = F at *
  generalize lookN s.data.toList (a : Int) = N at *
  generalize headC s.data.toList a = c at *
  have v1 : IntKind.i64.wrap ((F : Int) + (N : Int)) = (F : Int) + (N : Int) := IntWalk.i64_in _ (by omega)
  rcases hG with ⟨d1, d1'⟩ | ⟨d1, hid, d2⟩ | ⟨d1, hid, d2, d3⟩
  all_goals
    go_enter Tryz.func52, Tryz.ntmps52
    go_wp2_with fail
    refine (hlk _).mono ?_
    rintro e w2 ⟨rfl, hg⟩
    have y0 := hxA.grown hg (by simp)
    have y1 := hrA.grown hg (by simp)
    have hG2 := only_weak (grown_self hGA hg (by simp)) (some r)
    have z0 := y0.alloc (.cells #[.int .i64 (F : Int), .int .i64 (N : Int), .bool false] 106)
    have z1 := y1.alloc (.cells #[.int .i64 (F : Int), .int .i64 (N : Int), .bool false] 106)
    have z2 := Blk.new w2 106 #[.int .i64 (F : Int), .int .i64 (N : Int), .bool false]
    have hG3 := only_alloc hG2 (.cells #[.int .i64 (F : Int), .int .i64 (N : Int), .bool false] 106)
    clear hxA hrA hGA hg hlk hG2 y0 y1 k1 hr
    go_upto_region 8 with (fail)
    generalize w2.alloc (.cells #[.int .i64 (F : Int), .int .i64 (N : Int), .bool false] 106) = w3 at *
    have r0 := z2.cell 0; have r1 := z2.cell 1; have r2 := z2.cell 2
    have c0 := z0.cell 0; have c1 := z0.cell 1; have c2 := z0.cell 2
    have f0 := z0.frozen 0; have f1 := z0.frozen 1; have f2 := z0.frozen 2
    simp only [List.getElem?_toArray, List.getElem?_cons_zero, List.getElem?_cons_succ] at r0 r1 r2 c0 c1 c2
    have t2 := blk_set3 z0 (.bool false) (.string (s.extract F (F + N))) (.slice none 0 0)
    have t3 := ((z1.far (p := ⟨W.heap.size, 0, none⟩) (by show r ≠ W.heap.size; omega) (.bool false)).far (p := ⟨W.heap.size, 1, none⟩) (by show r ≠ W.heap.size; omega) (.string (s.extract F (F + N)))).far (p := ⟨W.heap.size, 2, none⟩) (by show r ≠ W.heap.size; omega) (.slice none 0 0)
    have t4 := only_set3 hG3 (g := W.heap.size) (Nat.le_refl _) (.bool false) (.string (s.extract F (F + N))) (.slice none 0 0)
    have T2 := Lib.hid t2; have T3 := Lib.hid t3; have T4 := Lib.hid t4
    clear z0 z1 z2 hG3 t2 t3 t4
    go_wp2_with fail
    refine bodyPost_ret (results_ct (fn := Tryz.f52) rfl _ _ _ _ rfl (load_item T2.out)) rfl ?_
    exact ⟨false, s.extract F (F + N), none, 0, 0, ((F : Int) + (N : Int)), rfl, T4.out, .inl ⟨_, _, HI.out, by simp, rfl, by rw [ba_ext']; rfl, T3.out, no_items _ _ _⟩⟩
end Go.Proofs.YtagjpbcmhaekpaaGreatDoor
/- One item: a list. -/
namespace Go.Proofs.YtagjpbcmhaekpaaGreatDoor
open Go.RowKit Go.Shelf
set_option linter.unusedVariables false
set_option linter.unusedSimpArgs false

theorem exec_call3 {P : Program} {a : Act} {o : Oper} {W : World} (f : FuncId) (x y z : Operand) (ts : Array TypeId) (ho : o.op = .call { callee := .value (.func f), args := #[x, y, z], argTypes := ts }) (v u t : Value) (hx : a.eval x = v) (hy : a.eval y = u) (hz : a.eval z = t)
    (hf : (callFunc f #[v, u, t]).run P W = .ok (.enter f #[v, u, t]) W) : (execOp a.eval o).run P W = .ok (.enter f #[v, u, t]) W := by
  have he : a.eval (.func f) = .func (.func f) #[] #[] := rfl
  unfold execOp
  generalize a.eval = ev at *
  simp only [ho]
  simp [resolve, invoke, go_sem, hx, hy, hz, he, hf]

theorem ba_take {s : ByteArray} {N : Nat} : (s.extract 0 N).data.toList = s.data.toList.take N := by
  rw [Lib.extract_data]; simp

set_option maxRecDepth 100000 in
set_option maxHeartbeats 1000000 in
theorem item_sub (k : Nat) (hk : k ≤ 11) (hC : ItemC k) (s : ByteArray) (a r : Nat) (W : World) (hs : s.size ≤ 65536) (ha : a ≤ s.size) (hr : Blk W r 74 #[.int .i64 ((12 - (k + 1) : Nat) : Int), .int .i64 0])
    (he : lookE s.data.toList (a : Int) = 0) (hl : lookL s.data.toList (a : Int) = true) :
    Calls Tryz.prog 52 #[.pointer (some ⟨r, 0, none⟩), .string s, .int .i64 (a : Int)] W fun e W1 => ∃ l b sA sn sc tq, e = .returned (.tuple #[.agg #[.bool l, .string b, .slice sA sn sc], .int .i64 tq]) ∧ W.grownBy W1 (some r) ∧ ItemTail (k + 1) s.data.toList a r W l b (.slice sA sn sc) tq W1 := by
  have hlz : s.data.toList.length = s.size := ba_len s
  have hlk := fun V => look_any s (a : Int) (by omega) V
  have hrl := hr.lt
  have hG := guard_no (k := k + 1) ha (by omega)
  have hi := item_list (k := k) he hl
  obtain ⟨b0, b1, b2, b3, b4, b5⟩ := look_ok he
  rw [hl] at b5
  have b6 : 192 ≤ headC s.data.toList a := by simpa using b5.symm
  rw [hl, he] at hlk
  have hxA := Blk.new W 40 #[.bool false, .string ⟨#[]⟩, .slice none 0 0]
  have hrA := hr.alloc (.cells #[.bool false, .string ⟨#[]⟩, .slice none 0 0] 40)
  have hGA : W.grownBy (W.alloc (.cells #[.bool false, .string ⟨#[]⟩, .slice none 0 0] 40)) none := only_alloc (World.grownBy.refl _ _) _
  have k1 := (hr.alloc (.cells #[.bool false, .string ⟨#[]⟩, .slice none 0 0] 40)).cell 0
  simp only [List.getElem?_toArray, List.getElem?_cons_zero] at k1
  have hcalls := fun V (hV : Blk V r 74 #[.int .i64 ((11 - k : Nat) : Int), .int .i64 0]) => items_any k hk hC (s.extract 0 (lookFrom s.data.toList (a : Int) + lookN s.data.toList (a : Int))) (lookFrom s.data.toList (a : Int)) r V (by simp; omega) hV
  rw [hlz] at b1
  have hex : (s.extract 0 (lookFrom s.data.toList (a : Int) + lookN s.data.toList (a : Int))).size = lookFrom s.data.toList (a : Int) + lookN s.data.toList (a : Int) := by simp; omega
  rw [ba_take, hex] at hcalls
  have hd : (12 - (k + 1) : Nat) = 11 - k := by omega
  rw [hd] at hr hrA hG k1
  clear he hl b5 hex hd
  generalize lookFrom s.data.toList (a : Int) = F at *
  generalize lookN s.data.toList (a : Int) = N at *
  generalize hR : itemsF (itemF k (s.data.toList.take (F + N))) (F + N) 513 0 F = R at *
  have HI := Lib.hid hi
  have HC := Lib.hid hcalls
  clear hi hcalls hR
  have v1 : IntKind.i64.wrap ((F : Int) + (N : Int)) = (F : Int) + (N : Int) := IntWalk.i64_in _ (by omega)
  rcases hG with ⟨d1, d1'⟩ | ⟨d1, hid, d2⟩ | ⟨d1, hid, d2, d3⟩
  · exfalso; simp at d1'; omega
  · exfalso; simp at d2; omega
  generalize headC s.data.toList a = c at *
  go_enter Tryz.func52, Tryz.ntmps52
  go_wp2_with fail
  refine (hlk _).mono ?_
  rintro e w2 ⟨rfl, hg⟩
  have y0 := hxA.grown hg (by simp)
  have y1 := hrA.grown hg (by simp)
  have hG2 := only_weak (grown_self hGA hg (by simp)) (some r)
  have z0 := y0.alloc (.cells #[.int .i64 (F : Int), .int .i64 (N : Int), .bool true] 106)
  have z1 := y1.alloc (.cells #[.int .i64 (F : Int), .int .i64 (N : Int), .bool true] 106)
  have z2 := Blk.new w2 106 #[.int .i64 (F : Int), .int .i64 (N : Int), .bool true]
  have hG3 := only_alloc hG2 (.cells #[.int .i64 (F : Int), .int .i64 (N : Int), .bool true] 106)
  have hz2 : W.heap.size < w2.heap.size := by have := hg.size; simp at this; omega
  clear hxA hrA hGA hg hlk hG2 y0 y1 k1 hr
  go_upto_region 8 with (fail)
  generalize w2.alloc (.cells #[.int .i64 (F : Int), .int .i64 (N : Int), .bool true] 106) = w3 at *
  have r0 := z2.cell 0; have r1 := z2.cell 1; have r2 := z2.cell 2
  simp only [List.getElem?_toArray, List.getElem?_cons_zero, List.getElem?_cons_succ] at r0 r1 r2
  go_upto_region 11 with (fail)
  generalize w2.heap.size = b2 at *
  clear r0 r1 r2
  refine wp_region_held (S := fun V => Blk V b2 106 #[.int .i64 (F : Int), .int .i64 (N : Int), .bool true]) (by kernel_rfl) ?_
  change wpAnyH _ _ _ _ _ _ _ _ w3.drew
  replace z0 : Blk w3.drew W.heap.size 40 #[.bool false, .string ⟨#[]⟩, .slice none 0 0] := z0
  replace z1 : Blk w3.drew r 74 #[.int .i64 ((11 - k : Nat) : Int), .int .i64 0] := z1
  replace z2 : Blk w3.drew b2 106 #[.int .i64 (F : Int), .int .i64 (N : Int), .bool true] := z2
  replace hG3 : W.grownBy w3.drew (some r) := ⟨hG3.os, hG3.tape, hG3.output, hG3.size, hG3.block⟩
  generalize w3.drew = u0 at *
  refine held_take (i := 0) (v := .pointer (some ⟨r, 0, none⟩)) (some 62) rfl (by kernel_rfl) (by kernel_rfl) (by kernel_rfl) (fun _ _ _ h => h) rfl (Or.inl ⟨by rfl, fun V hV => by go_simp⟩) z2 ?_
  simp only [Act.put, List.setIfInBounds_toArray, List.set_cons_zero, List.set_cons_succ]
  refine held_take (i := 1) (v := .string s) (some 63) rfl (by kernel_rfl) (by kernel_rfl) (by kernel_rfl) (fun _ _ _ h => h) rfl (Or.inl ⟨by rfl, fun V hV => by go_simp⟩) z2 ?_
  simp only [Act.put, List.setIfInBounds_toArray, List.set_cons_zero, List.set_cons_succ]
  refine held_take (i := 2) (v := .int .i64 ((F : Int) + (N : Int))) (some 64) rfl (by kernel_rfl) (by kernel_rfl) (by kernel_rfl) (fun _ _ _ h => h) rfl (Or.inl ⟨by rfl, fun V hV => by go_simp⟩) z2 ?_
  simp only [Act.put, List.setIfInBounds_toArray, List.set_cons_zero, List.set_cons_succ]
  refine held_take (i := 3) (v := .string (s.extract 0 (F + N))) (some 65) rfl (by kernel_rfl) (by kernel_rfl) (by kernel_rfl) (fun _ _ _ h => h) rfl (Or.inl ⟨by rfl, fun V hV => by go_simp; rw [if_pos ⟨by omega, by omega⟩, show ((F : Int) + (N : Int)).toNat = F + N by omega]⟩) z2 ?_
  simp only [Act.put, List.setIfInBounds_toArray, List.set_cons_zero, List.set_cons_succ]
  refine held_take (i := 4) (v := .pointer (some ⟨b2, 0, none⟩)) (some 66) rfl (by kernel_rfl) (by kernel_rfl) (by kernel_rfl) (fun _ _ _ h => h) rfl (Or.inl ⟨by rfl, fun V hV => by go_simp⟩) z2 ?_
  simp only [Act.put, List.setIfInBounds_toArray, List.set_cons_zero, List.set_cons_succ]
  refine held_take (i := 5) (v := .int .i64 (F : Int)) (some 67) rfl (by kernel_rfl) (by kernel_rfl) (by kernel_rfl) (fun _ _ _ h => h) rfl (Or.inl ⟨by rfl, fun V hV => exec_load1 3 (.tmp 66) rfl _ rfl _ _ Tryz.underlying3 rfl (hV.cell 0)⟩) z2 ?_
  simp only [Act.put, List.setIfInBounds_toArray, List.set_cons_zero, List.set_cons_succ]
  refine held_take (i := 7) (v := .int .i64 ((F : Int) + (N : Int))) (some 69) rfl (by kernel_rfl) (by kernel_rfl) (by kernel_rfl) (fun _ _ _ h => h) rfl (Or.inl ⟨by rfl, fun V hV => by go_simp⟩) z2 ?_
  simp only [Act.put, List.setIfInBounds_toArray, List.set_cons_zero, List.set_cons_succ]
  refine held_one (i := 6) (by kernel_rfl) ?_
  refine held_enter (some 68) rfl rfl 72 #[.pointer (some ⟨r, 0, none⟩), .string (s.extract 0 (F + N)), .int .i64 (F : Int)] (exec_call3 _ (.tmp 62) (.tmp 65) (.tmp 67) _ rfl _ _ _ rfl rfl rfl rfl) rfl ?_
  refine (HC.out u0 z1).mono ?_
  rintro e w4 ⟨sA, sn, sc, rfl, hg, hpost⟩
  have z2' := z2.grown hg (by simp; omega)
  have z0' := z0.grown hg (by simp; omega)
  refine ⟨_, rfl, z2', ?_⟩
  simp only [Act.put, List.setIfInBounds_toArray, List.set_cons_zero, List.set_cons_succ]
  have t2 := blk_set3 z0' (.bool true) (.string .empty) (.slice sA sn sc)
  have t4 := only_set3 (grown_self hG3 hg (fun q e => .inl e)) (g := W.heap.size) (Nat.le_refl _) (.bool true) (.string .empty) (.slice sA sn sc)
  have t5 := ((z2'.far (p := ⟨W.heap.size, 0, none⟩) (by show b2 ≠ W.heap.size; omega) (.bool true)).far (p := ⟨W.heap.size, 1, none⟩) (by show b2 ≠ W.heap.size; omega) (.string .empty)).far (p := ⟨W.heap.size, 2, none⟩) (by show b2 ≠ W.heap.size; omega) (.slice sA sn sc)
  refine held_one (i := 8) (by kernel_rfl) ?_
  refine held_store rfl rfl (exec_store3 (.tmp 6) (.tmp 68) rfl rfl rfl z0' (by simp)) t5 ?_
  simp only [Act.put, List.setIfInBounds_toArray, List.set_cons_zero, List.set_cons_succ]
  refine held_one (i := 9) (by kernel_rfl) ?_
  refine held_value (some 7) rfl rfl (.int .i64 ((F : Int) + (N : Int))) (by go_simp) rfl t5 ?_
  simp only [Act.put, List.setIfInBounds_toArray, List.set_cons_zero, List.set_cons_succ]
  refine wpAnyH_done (by kernel_rfl) ?_ _
  have T2 := Lib.hid t2; have T4 := Lib.hid t4
  have st : Stays (fun g => g = W.heap.size) w4 (((w4.setCell ⟨W.heap.size, 0, none⟩ (.bool true)).setCell ⟨W.heap.size, 1, none⟩ (.string .empty)).setCell ⟨W.heap.size, 2, none⟩ (.slice sA sn sc)) := by
    intro g o ho _ hx
    exact (Below.heap_setCell _ _ _ g hx).trans ((Below.heap_setCell _ _ _ g hx).trans ((Below.heap_setCell _ _ _ g hx).trans ho))
  have hsz := z2.lt
  have HP : Hid (ItemTail (k + 1) s.data.toList a r W true .empty (.slice sA sn sc) ((F : Int) + (N : Int)) (((w4.setCell ⟨W.heap.size, 0, none⟩ (.bool true)).setCell ⟨W.heap.size, 1, none⟩ (.string .empty)).setCell ⟨W.heap.size, 2, none⟩ (.slice sA sn sc))) := by
    refine Lib.hid ?_
    have e12 : (12 - (k + 1) : Nat) = 11 - k := by omega
    unfold ItemTail
    rw [e12]
    rcases hpost with ⟨xs, h1, h2, h3⟩ | ⟨E, h1, h2, h3⟩
    · refine .inl ⟨_, _, by rw [HI.out, h1], by simp, rfl, rfl, st.blk h2 (by omega), ?_⟩
      exact (st.sub (h3.weak (S' := fun g => u0.heap.size ≤ g) fun g h => h) (by intro g h e; omega)).weak fun g h => by omega
    · exact .inr ⟨E, by rw [HI.out, h1], h2, st.blk h3 (by omega)⟩
  clear t2 t4 t5 z2' z0' z0 z1 z2 hG3 hg hpost st
  go_wp2_with fail
  refine bodyPost_ret (results_ct (fn := Tryz.f52) rfl _ _ _ _ rfl (load_item T2.out)) rfl ?_
  exact .inr ⟨.empty, sA, sn, sc, (F : Int) + (N : Int), rfl, T4.out, HP.out⟩

/-- THE CONTRACT OF AN ITEM'S READER, at every depth -/
theorem item_any (k : Nat) (hk : k ≤ 12) : ItemC k := by
  induction k with
  | zero =>
    intro s a r W hs ha hr
    have hlz : s.data.toList.length = s.size := ba_len s
    by_cases h1 : a < s.size ∧ 192 ≤ headC s.data.toList a
    · exact item_deep s a r W hs h1.1 h1.2 hr
    · by_cases he : lookE s.data.toList (a : Int) = 0
      · refine item_txt 0 s a r W hs ha hr (by rintro ⟨h2, h3, _⟩; exact h1 ⟨h2, h3⟩) he ?_
        obtain ⟨b0, _, _, _, _, b5⟩ := look_ok he
        rw [b5]
        exact decide_eq_false (fun h => h1 ⟨by omega, h⟩)
      · exact item_bad 0 s a r W hs ha hr (by rintro ⟨h2, h3, _⟩; exact h1 ⟨h2, h3⟩) he
  | succ k ih =>
    intro s a r W hs ha hr
    by_cases he : lookE s.data.toList (a : Int) = 0
    · by_cases hl : lookL s.data.toList (a : Int) = true
      · exact item_sub k (by omega) (ih (by omega)) s a r W hs ha hr he hl
      · exact item_txt (k + 1) s a r W hs ha hr (by omega) he (by simpa using hl)
    · exact item_bad (k + 1) s a r W hs ha hr (by omega) he
end Go.Proofs.YtagjpbcmhaekpaaGreatDoor
/- The item of bytes (Decode). -/
namespace Go.Proofs.YtagjpbcmhaekpaaGreatDoor
open Go.RowKit Go.Shelf
set_option linter.unusedVariables false
set_option linter.unusedSimpArgs false

/-- the item of bytes, as Decode has it -/
def decodeF (l : List UInt8) : Except Int Itm :=
  if 65536 < l.length then .error 5 else match itemF 12 l 0 with
    | .error e => .error e
    | .ok (x, q) => if q < l.length then .error 4 else .ok x
/-- what Decode answers -/
def DecTail (l : List UInt8) (W : World) (lst : Bool) (b : ByteArray) (sv : Value) (E : Int) (W1 : World) : Prop :=
  (∃ x, decodeF l = .ok x ∧ E = 0 ∧ lst = x.list ∧ b = x.bytes ∧ SubV (fun g => W.heap.size ≤ g) W1 x.items sv) ∨
  (decodeF l = .error E ∧ E ≠ 0 ∧ lst = false ∧ b = ⟨#[]⟩ ∧ sv = .slice none 0 0)
def DecEnd (l : List UInt8) (W : World) (e : Ending) (W1 : World) : Prop :=
  ∃ lst b sA sn sc E, e = .returned (.tuple #[.agg #[.bool lst, .string b, .slice sA sn sc], .int .i64 E]) ∧ W.grownBy W1 none ∧ DecTail l W lst b (.slice sA sn sc) E W1

set_option maxRecDepth 100000 in
set_option maxHeartbeats 600000 in
theorem decode_long (s : ByteArray) (W : World) (hs : 65536 < s.size) (hs2 : s.size ≤ 9223372036854775807) :
    Calls Tryz.prog 31 #[.string s] W (DecEnd s.data.toList W) := by
  have hd : Hid (decodeF s.data.toList = .error 5) := Lib.hid (by unfold decodeF; rw [if_pos (by rw [ba_len]; exact hs)])
  have d1 : (65536 : Int) < (s.size : Int) := by omega
  have hxA := Blk.new W 40 #[.bool false, .string ⟨#[]⟩, .slice none 0 0]
  have hGA : W.grownBy (W.alloc (.cells #[.bool false, .string ⟨#[]⟩, .slice none 0 0] 40)) none := only_alloc (World.grownBy.refl _ _) _
  go_enter Tryz.func31, Tryz.ntmps31
  go_wp2_with fail
  refine bodyPost_ret (results_ct (fn := Tryz.f31) rfl _ _ _ _ rfl (load_item hxA)) rfl ?_
  exact ⟨_, _, _, _, _, _, rfl, hGA, .inr ⟨hd.out, by decide, rfl, rfl, rfl⟩⟩

set_option maxRecDepth 100000 in
set_option maxHeartbeats 600000 in
theorem decode_short (s : ByteArray) (W : World) (hs : s.size ≤ 65536) :
    Calls Tryz.prog 31 #[.string s] W (DecEnd s.data.toList W) := by
  have hlz : s.data.toList.length = s.size := ba_len s
  have d1 : decide ((65536 : Int) < (s.size : Int)) = false := decide_eq_false (by omega)
  have hxA := Blk.new W 40 #[.bool false, .string ⟨#[]⟩, .slice none 0 0]
  have hGA : W.grownBy (W.alloc (.cells #[.bool false, .string ⟨#[]⟩, .slice none 0 0] 40)) none := only_alloc (World.grownBy.refl _ _) _
  have hit := fun V (h : Blk V (W.heap.size + 1) 74 #[.int .i64 0, .int .i64 0]) => item_any 12 (by decide) s 0 (W.heap.size + 1) V hs (by omega) h
  have HIT := Lib.hid hit
  clear hit
  go_enter Tryz.func31, Tryz.ntmps31
  go_wp2_with fail
  have hrB := Blk.new (W.alloc (.cells #[.bool false, .string ⟨#[]⟩, .slice none 0 0] 40)) 74 #[.int .i64 0, .int .i64 0]
  rw [World.size_alloc] at hrB
  have hxB := hxA.alloc (.cells #[.int .i64 0, .int .i64 0] 74)
  have hGB := only_alloc hGA (.cells #[.int .i64 0, .int .i64 0] 74)
  refine (HIT.out _ hrB).mono ?_
  rintro e w4 ⟨l, b, sA, sn, sc, tq, rfl, hg, hpost⟩
  have hxC := hxB.grown hg (by simp)
  have hGC := grown_self hGB hg (fun q e => .inr (by injection e; omega))
  have hz4 := hg.size
  simp only [World.size_alloc] at hz4
  have e12 : (12 - 12 : Nat) = 0 := rfl
  unfold ItemTail at hpost
  rw [e12, Int.ofNat_zero] at hpost
  have hnew := Blk.new w4 40 #[.bool l, .string b, .slice sA sn sc]
  have hxD := hxC.alloc (.cells #[.bool l, .string b, .slice sA sn sc] 40)
  have hGD := only_alloc hGC (.cells #[.bool l, .string b, .slice sA sn sc] 40)
  have hlt : W.heap.size + 1 < w4.heap.size := by omega
  have hz5 : (w4.alloc (.cells #[.bool l, .string b, .slice sA sn sc] 40)).heap.size = w4.heap.size + 1 := by simp
  have hz2 : W.heap.size ≤ ((W.alloc (.cells #[.bool false, .string ⟨#[]⟩, .slice none 0 0] 40)).alloc (.cells #[.int .i64 0, .int .i64 0] 74)).heap.size := by simp; omega
  rcases hpost with ⟨x, q, h1, rfl, rfl, rfl, h2, h3⟩ | ⟨E, h1, h2, h3⟩
  · have hrD := h2.alloc (.cells #[.bool x.list, .string x.bytes, .slice sA sn sc] 40)
    have hsub := h3.keep (W' := w4.alloc (.cells #[.bool x.list, .string x.bytes, .slice sA sn sc] 40)) (fun p hp u hu => by rw [World.cell?_alloc_lt w4 _ p (World.block_lt_of_cell? w4 p hu)]; exact hu)
    have hsub := hsub.weak (S' := fun g => W.heap.size + 2 ≤ g) (fun g hg' => by simpa using hg')
    have hne : w4.heap.size ≠ W.heap.size := by omega
    clear hxA hxB hxC hrB hGA hGB hGC hg h2 h3 HIT
    go_upto_region 5 with (fail)
    generalize w4.alloc (.cells #[.bool x.list, .string x.bytes, .slice sA sn sc] 40) = w5 at *
    have c1 := hrD.cell 1
    simp only [List.getElem?_toArray, List.getElem?_cons_zero, List.getElem?_cons_succ] at c1
    by_cases hq : q < s.size
    · have hd : Hid (decodeF s.data.toList = .error 4) := Lib.hid (by unfold decodeF; rw [if_neg (by omega), h1]; exact if_pos (by omega))
      have d2 : (q : Int) < (s.size : Int) := by omega
      have c0 := hxD.cell 0; have c2 := hxD.cell 1; have c3 := hxD.cell 2
      have f0 := hxD.frozen 0; have f1 := hxD.frozen 1; have f2 := hxD.frozen 2
      simp only [List.getElem?_toArray, List.getElem?_cons_zero, List.getElem?_cons_succ] at c0 c2 c3
      have t2 := blk_set3 hxD (.bool false) (.string ⟨#[]⟩) (.slice none 0 0)
      have t4 := only_set3 hGD (g := W.heap.size) (Nat.le_refl _) (.bool false) (.string ⟨#[]⟩) (.slice none 0 0)
      have T2 := Lib.hid t2; have T4 := Lib.hid t4
      clear t2 t4 hxD hGD hrD hnew h1 hsub
      go_wp2_with fail
      refine bodyPost_ret (results_ct (fn := Tryz.f31) rfl _ _ _ _ rfl (load_item T2.out)) rfl ?_
      exact ⟨_, _, _, _, _, _, rfl, T4.out, .inr ⟨hd.out, by decide, rfl, rfl, rfl⟩⟩
    · have hd : Hid (decodeF s.data.toList = .ok x) := Lib.hid (by unfold decodeF; rw [if_neg (by omega), h1]; exact if_neg (by omega))
      have d2 : decide ((q : Int) < (s.size : Int)) = false := decide_eq_false (by omega)
      have d3 : decide (q < s.size) = false := decide_eq_false hq
      go_upto_region 9 with (fail)
      have c0 := hxD.cell 0; have c2 := hxD.cell 1; have c3 := hxD.cell 2
      have f0 := hxD.frozen 0; have f1 := hxD.frozen 1; have f2 := hxD.frozen 2
      have l0 := hnew.cell 0; have l2 := hnew.cell 1; have l3 := hnew.cell 2
      simp only [List.getElem?_toArray, List.getElem?_cons_zero, List.getElem?_cons_succ] at c0 c2 c3 l0 l2 l3
      have t2 := blk_set3 hxD (.bool x.list) (.string x.bytes) (.slice sA sn sc)
      have t4 := only_set3 hGD (g := W.heap.size) (Nat.le_refl _) (.bool x.list) (.string x.bytes) (.slice sA sn sc)
      have t5 := (hsub.keep (W' := ((w5.setCell ⟨W.heap.size, 0, none⟩ (.bool x.list)).setCell ⟨W.heap.size, 1, none⟩ (.string x.bytes)).setCell ⟨W.heap.size, 2, none⟩ (.slice sA sn sc)) (fun p hp u hu => by
        rw [World.cell?_setCell_other _ _ _ _ (by intro e; subst e; have hp' : W.heap.size + 2 ≤ W.heap.size := hp; omega), World.cell?_setCell_other _ _ _ _ (by intro e; subst e; have hp' : W.heap.size + 2 ≤ W.heap.size := hp; omega), World.cell?_setCell_other _ _ _ _ (by intro e; subst e; have hp' : W.heap.size + 2 ≤ W.heap.size := hp; omega)]; exact hu)).weak (S' := fun g => W.heap.size ≤ g) (fun g hg' => by omega)
      have T2 := Lib.hid t2; have T4 := Lib.hid t4; have T5 := Lib.hid t5
      clear t2 t4 t5 hxD hGD hrD hnew h1 hsub
      go_wp2_with fail
      refine bodyPost_ret (results_ct (fn := Tryz.f31) rfl _ _ _ _ rfl (load_item T2.out)) rfl ?_
      exact ⟨_, _, _, _, _, _, rfl, T4.out, .inl ⟨x, hd.out, rfl, rfl, rfl, T5.out⟩⟩
  · have hd : Hid (decodeF s.data.toList = .error E) := Lib.hid (by unfold decodeF; rw [if_neg (by omega), h1])
    have hrD := h3.alloc (.cells #[.bool l, .string b, .slice sA sn sc] 40)
    have e1 : (E != 0) = true := by simpa using h2
    have HE := Lib.hid h2
    clear hxA hxB hxC hrB hGA hGB hGC hg h3 h2 HIT
    go_upto_region 5 with (fail)
    generalize w4.alloc (.cells #[.bool l, .string b, .slice sA sn sc] 40) = w5 at *
    have c1 := hrD.cell 1
    have c0 := hxD.cell 0; have c2 := hxD.cell 1; have c3 := hxD.cell 2
    have f0 := hxD.frozen 0; have f1 := hxD.frozen 1; have f2 := hxD.frozen 2
    simp only [List.getElem?_toArray, List.getElem?_cons_zero, List.getElem?_cons_succ] at c0 c2 c3 c1
    have t2 := blk_set3 hxD (.bool false) (.string ⟨#[]⟩) (.slice none 0 0)
    have t4 := only_set3 hGD (g := W.heap.size) (Nat.le_refl _) (.bool false) (.string ⟨#[]⟩) (.slice none 0 0)
    have T2 := Lib.hid t2; have T4 := Lib.hid t4
    clear t2 t4 hxD hGD hrD hnew h1
    go_upto_region 6 with (fail)
    go_region
    all_goals go_wp2_with fail
    all_goals
      refine bodyPost_ret (results_ct (fn := Tryz.f31) rfl _ _ _ _ rfl (load_item (Blk.drew T2.out))) rfl ?_
      exact ⟨_, _, _, _, _, _, rfl, ⟨T4.out.os, T4.out.tape, T4.out.output, T4.out.size, T4.out.block⟩, .inr ⟨hd.out, HE.out, rfl, rfl, rfl⟩⟩

theorem decode_any (s : ByteArray) (W : World) (hs : s.size ≤ 9223372036854775807) : Calls Tryz.prog 31 #[.string s] W (DecEnd s.data.toList W) := by
  rcases Nat.lt_or_ge 65536 s.size with h | h
  · exact decode_long s W h hs
  · exact decode_short s W h
end Go.Proofs.YtagjpbcmhaekpaaGreatDoor
/- The fixed facts (works), and what a head tells of an item (UnrlpHeads). -/
namespace Go.Proofs.YtagjpbcmhaekpaaGreatDoor
open Go.RowKit Go.Shelf
set_option linter.unusedVariables false
set_option linter.unusedSimpArgs false

theorem dec_err {l : List UInt8} {W W1 : World} {lst : Bool} {b : ByteArray} {sv : Value} {E e : Int} (h : DecTail l W lst b sv E W1) (hd : decodeF l = .error e) : E = e := by
  rcases h with ⟨x, h1, _⟩ | ⟨h1, _⟩
  · rw [hd] at h1; cases h1
  · rw [hd] at h1; injection h1 with h1; exact h1.symm
theorem dec_ok {l : List UInt8} {W W1 : World} {lst : Bool} {b : ByteArray} {sv : Value} {E : Int} {x : Itm} (h : DecTail l W lst b sv E W1) (hd : decodeF l = .ok x) : E = 0 ∧ lst = x.list ∧ b = x.bytes ∧ SubV (fun g => W.heap.size ≤ g) W1 x.items sv := by
  rcases h with ⟨y, h1, h2⟩ | ⟨h1, _⟩
  · rw [hd] at h1; injection h1 with h1; subst h1; exact h2
  · rw [hd] at h1; cases h1
theorem works1 : decodeF [129, 5] = .error 8 := by rfl
theorem works2 : decodeF [194, 1] = .error 3 := by rfl
theorem works3 : decodeF [194, 1, 192] = .ok (.mk true .empty [.mk false ⟨#[1]⟩ [], .mk true .empty []]) := by rfl
theorem works4 : decodeF [1, 2] = .error 4 := by rfl

end Go.Proofs.YtagjpbcmhaekpaaGreatDoor
/- What is read without fault begins with a head: plain laws. -/
namespace Go.Proofs.YtagjpbcmhaekpaaGreatDoor
open Go.RowKit Go.Shelf
set_option linter.unusedVariables false
set_option linter.unusedSimpArgs false

theorem item_ok {k : Nat} {l : List UInt8} {a q : Nat} {x : Itm} (h : itemF k l a = .ok (x, q)) : lookE l (a : Int) = 0 ∧ x.list = lookL l (a : Int) ∧ q = lookFrom l (a : Int) + lookN l (a : Int) := by
  have key : ∀ sub, itemG sub l a = .ok (x, q) → lookE l (a : Int) = 0 ∧ x.list = lookL l (a : Int) ∧ q = lookFrom l (a : Int) + lookN l (a : Int) := by
    intro sub h
    unfold itemG at h
    split at h
    · cases h
    split at h
    · cases h
    rename_i h2
    have h2 : lookE l (a : Int) = 0 := by simpa using h2
    split at h
    · rename_i h3
      injection h with h; injection h with h4 h5
      subst h4
      exact ⟨h2, by rw [h3]; rfl, h5.symm⟩
    rename_i h3
    split at h
    · cases h
    · split at h
      · cases h
      · injection h with h; injection h with h4 h5
        subst h4
        exact ⟨h2, by rw [show lookL l (a : Int) = true by simpa using h3]; rfl, h5.symm⟩
  cases k with
  | zero => exact key none h
  | succ k => exact key _ h
theorem decode_head {l : List UInt8} {x : Itm} (h : decodeF l = .ok x) : lookE l 0 = 0 ∧ x.list = lookL l 0 ∧ lookFrom l 0 + lookN l 0 = l.length := by
  unfold decodeF at h
  split at h
  · cases h
  · split at h
    · cases h
    · rename_i y q hi
      split at h
      · cases h
      · rename_i hq
        injection h with h; subst h
        obtain ⟨h1, h2, h3⟩ := item_ok hi
        have h4 := (look_ok h1).2.1
        simp only [Int.ofNat_zero] at h1 h2 h3 h4
        exact ⟨h1, h2, by omega⟩
theorem look_nonneg {l : List UInt8} {i : Int} (h : lookE l i = 0) : 0 ≤ i := by
  unfold lookE at h
  split at h
  · cases h
  · omega
end Go.Proofs.YtagjpbcmhaekpaaGreatDoor
