/- The items of a list (items). -/
import Derived.Test.YthbeigcbmalldaaDoorUnrL
import Derived.Laws.EntriesVeiled
namespace Go.Proofs.YthbeigcbmalldaaDoor
open Go.RowKit Go.Shelf
set_option linter.unnecessarySimpa false
attribute [local go_sem] Oper.semAt_some

/-- the boxes that items lays -/
theorem boxes5 (w : World) (r : Nat) (s : ByteArray) (d e : Int) (hr : Blk w r 45 #[.int .i64 d, .int .i64 e]) :
    Blk (((((w.alloc (.cells #[.pointer (some ⟨r, 0, none⟩)] 43)).alloc (.cells #[.string s] 9)).alloc (.cells #[.bool false, .string ⟨#[]⟩, .slice none 0 0] 24)).alloc (.cells #[.bool true, .string ⟨#[]⟩, .slice none 0 0] 24)).alloc (.cells #[(.func (.func 17) #[.pointer (some ⟨r, 0, none⟩)] #[])] 47)) r 45 #[.int .i64 d, .int .i64 e] ∧ Boxed (((((w.alloc (.cells #[.pointer (some ⟨r, 0, none⟩)] 43)).alloc (.cells #[.string s] 9)).alloc (.cells #[.bool false, .string ⟨#[]⟩, .slice none 0 0] 24)).alloc (.cells #[.bool true, .string ⟨#[]⟩, .slice none 0 0] 24)).alloc (.cells #[(.func (.func 17) #[.pointer (some ⟨r, 0, none⟩)] #[])] 47)) w.heap.size 43 (.pointer (some ⟨r, 0, none⟩)) ∧ Boxed (((((w.alloc (.cells #[.pointer (some ⟨r, 0, none⟩)] 43)).alloc (.cells #[.string s] 9)).alloc (.cells #[.bool false, .string ⟨#[]⟩, .slice none 0 0] 24)).alloc (.cells #[.bool true, .string ⟨#[]⟩, .slice none 0 0] 24)).alloc (.cells #[(.func (.func 17) #[.pointer (some ⟨r, 0, none⟩)] #[])] 47)) (w.heap.size + 1) 9 (.string s) ∧ Blk (((((w.alloc (.cells #[.pointer (some ⟨r, 0, none⟩)] 43)).alloc (.cells #[.string s] 9)).alloc (.cells #[.bool false, .string ⟨#[]⟩, .slice none 0 0] 24)).alloc (.cells #[.bool true, .string ⟨#[]⟩, .slice none 0 0] 24)).alloc (.cells #[(.func (.func 17) #[.pointer (some ⟨r, 0, none⟩)] #[])] 47)) (w.heap.size + 1 + 1) 24 #[.bool false, .string ⟨#[]⟩, .slice none 0 0] ∧
    Blk (((((w.alloc (.cells #[.pointer (some ⟨r, 0, none⟩)] 43)).alloc (.cells #[.string s] 9)).alloc (.cells #[.bool false, .string ⟨#[]⟩, .slice none 0 0] 24)).alloc (.cells #[.bool true, .string ⟨#[]⟩, .slice none 0 0] 24)).alloc (.cells #[(.func (.func 17) #[.pointer (some ⟨r, 0, none⟩)] #[])] 47)) (w.heap.size + 1 + 1 + 1) 24 #[.bool true, .string ⟨#[]⟩, .slice none 0 0] ∧ Boxed (((((w.alloc (.cells #[.pointer (some ⟨r, 0, none⟩)] 43)).alloc (.cells #[.string s] 9)).alloc (.cells #[.bool false, .string ⟨#[]⟩, .slice none 0 0] 24)).alloc (.cells #[.bool true, .string ⟨#[]⟩, .slice none 0 0] 24)).alloc (.cells #[(.func (.func 17) #[.pointer (some ⟨r, 0, none⟩)] #[])] 47)) (w.heap.size + 1 + 1 + 1 + 1) 47 (.func (.func 17) #[.pointer (some ⟨r, 0, none⟩)] #[]) ∧ w.grownBy (((((w.alloc (.cells #[.pointer (some ⟨r, 0, none⟩)] 43)).alloc (.cells #[.string s] 9)).alloc (.cells #[.bool false, .string ⟨#[]⟩, .slice none 0 0] 24)).alloc (.cells #[.bool true, .string ⟨#[]⟩, .slice none 0 0] 24)).alloc (.cells #[(.func (.func 17) #[.pointer (some ⟨r, 0, none⟩)] #[])] 47)) none ∧ (((((w.alloc (.cells #[.pointer (some ⟨r, 0, none⟩)] 43)).alloc (.cells #[.string s] 9)).alloc (.cells #[.bool false, .string ⟨#[]⟩, .slice none 0 0] 24)).alloc (.cells #[.bool true, .string ⟨#[]⟩, .slice none 0 0] 24)).alloc (.cells #[(.func (.func 17) #[.pointer (some ⟨r, 0, none⟩)] #[])] 47)).heap.size = w.heap.size + 5 := by
  have h0 := Boxed.new w 43 (.pointer (some ⟨r, 0, none⟩))
  have h1 := Boxed.new (w.alloc (.cells #[.pointer (some ⟨r, 0, none⟩)] 43)) 9 (.string s)
  have h2 := Blk.new ((w.alloc (.cells #[.pointer (some ⟨r, 0, none⟩)] 43)).alloc (.cells #[.string s] 9)) 24 #[.bool false, .string ⟨#[]⟩, .slice none 0 0]
  have h3 := Blk.new (((w.alloc (.cells #[.pointer (some ⟨r, 0, none⟩)] 43)).alloc (.cells #[.string s] 9)).alloc (.cells #[.bool false, .string ⟨#[]⟩, .slice none 0 0] 24)) 24 #[.bool true, .string ⟨#[]⟩, .slice none 0 0]
  have h4 := Boxed.new ((((w.alloc (.cells #[.pointer (some ⟨r, 0, none⟩)] 43)).alloc (.cells #[.string s] 9)).alloc (.cells #[.bool false, .string ⟨#[]⟩, .slice none 0 0] 24)).alloc (.cells #[.bool true, .string ⟨#[]⟩, .slice none 0 0] 24)) 47 (.func (.func 17) #[.pointer (some ⟨r, 0, none⟩)] #[])
  simp only [World.size_alloc] at h1 h2 h3 h4
  exact ⟨(((((hr.alloc _).alloc _).alloc _).alloc _).alloc _), (((h0.alloc _).alloc _).alloc _).alloc _, ((h1.alloc _).alloc _).alloc _, (h2.alloc _).alloc _, h3.alloc _, h4, only_alloc (only_alloc (only_alloc (only_alloc (only_alloc (World.grownBy.refl _ _) _) _) _) _) _, by simp⟩

set_option maxRecDepth 100000 in
set_option maxHeartbeats 4000000 in
theorem items_any (k : Nat) (hk : k ≤ 11) (hC : ItemC k) (s : ByteArray) (F r : Nat) (w : World) (hs : s.size ≤ 65536) (hr : Blk w r 45 #[.int .i64 ((11 - k : Nat) : Int), .int .i64 0]) :
    Calls Tryd.prog 27 #[.pointer (some ⟨r, 0, none⟩), .string s, .int .i64 (F : Int)] w fun e w' => ∃ sA sn sc, e = .returned (.agg #[.bool true, .string .empty, .slice sA sn sc]) ∧ w.grownBy w' (some r) ∧
      ((∃ xs, itemsF (itemF k s.data.toList) s.size 513 0 F = .ok xs ∧ Blk w' r 45 #[.int .i64 ((11 - k : Nat) : Int), .int .i64 0] ∧ SubV (fun g => w.heap.size ≤ g) w' xs (.slice sA sn sc)) ∨
       (∃ E, itemsF (itemF k s.data.toList) s.size 513 0 F = .error E ∧ E ≠ 0 ∧ Blk w' r 45 #[.int .i64 ((11 - k : Nat) : Int), .int .i64 E])) := by
  refine (callsIn_wide (n := 6)).1 ?_
  refine callsIn_of_wp_marks Tryd.func27 rfl trivial ?_ rfl
  simp only [Tryd.ntmps27, List.size_toArray, List.length_cons, List.length_nil, Nat.reduceAdd, Nat.reduceSub, Array.replicate_succ, Array.replicate_zero, List.push_toArray, List.append_toArray, List.nil_append, List.cons_append]
  obtain ⟨q, q0, q1, q2, q3, q4, hg5, hz5⟩ := boxes5 w r s ((11 - k : Nat) : Int) 0 hr
  have hrl := hr.lt
  have p := q.set_ 0 (.int .i64 ((12 - k : Nat) : Int))
  simp only [List.setIfInBounds_toArray, List.set_cons_zero] at p
  have p0 := q0.other (B' := r) (by omega) (.int .i64 ((12 - k : Nat) : Int))
  have p1 := q1.other (B' := r) (by omega) (.int .i64 ((12 - k : Nat) : Int))
  have p2 := q2.far (p := ⟨r, 0, none⟩) (by show w.heap.size + 1 + 1 ≠ r; omega) (.int .i64 ((12 - k : Nat) : Int))
  have p3 := q3.far (p := ⟨r, 0, none⟩) (by show w.heap.size + 1 + 1 + 1 ≠ r; omega) (.int .i64 ((12 - k : Nat) : Int))
  have p4 := q4.other (B' := r) (by omega) (.int .i64 ((12 - k : Nat) : Int))
  have c0 := q.cell 0; have f0 := q.frozen 0
  have c1 := p0.cell; have c2 := p1.cell
  simp only [List.getElem?_toArray, List.getElem?_cons_zero] at c0
  have v1 : IntKind.i64.wrap (((11 - k : Nat) : Int) + 1) = ((12 - k : Nat) : Int) := by rw [IntWalk.i64_in _ (by omega)]; omega
  have v2 : ((11 - k : Nat) : Int) + 1 = ((12 - k : Nat) : Int) := by omega
  gi_wp2_with fail
  refine ⟨trivial, callsIn_wide.2 ((places_any _ _ _ _ _ _).mono ?_)⟩
  have hg6 : w.grownBy ((((((w.alloc (.cells #[.pointer (some ⟨r, 0, none⟩)] 43)).alloc (.cells #[.string s] 9)).alloc (.cells #[.bool false, .string ⟨#[]⟩, .slice none 0 0] 24)).alloc (.cells #[.bool true, .string ⟨#[]⟩, .slice none 0 0] 24)).alloc (.cells #[(.func (.func 17) #[.pointer (some ⟨r, 0, none⟩)] #[])] 47)).setCell ⟨r, 0, none⟩ (.int .i64 ((12 - k : Nat) : Int))) (some r) := ⟨hg5.os, hg5.tape, hg5.output, by simpa [World.setCell] using hg5.size, fun g h1 h2 => (Below.heap_setCell _ ⟨r, 0, none⟩ _ g (by simpa using h2)).trans (hg5.block g h1 (by simp))⟩
  have hz6 : ((((((w.alloc (.cells #[.pointer (some ⟨r, 0, none⟩)] 43)).alloc (.cells #[.string s] 9)).alloc (.cells #[.bool false, .string ⟨#[]⟩, .slice none 0 0] 24)).alloc (.cells #[.bool true, .string ⟨#[]⟩, .slice none 0 0] 24)).alloc (.cells #[(.func (.func 17) #[.pointer (some ⟨r, 0, none⟩)] #[])] 47)).setCell ⟨r, 0, none⟩ (.int .i64 ((12 - k : Nat) : Int))).heap.size = w.heap.size + 5 := by simpa [World.setCell] using hz5
  generalize ((((((w.alloc (.cells #[.pointer (some ⟨r, 0, none⟩)] 43)).alloc (.cells #[.string s] 9)).alloc (.cells #[.bool false, .string ⟨#[]⟩, .slice none 0 0] 24)).alloc (.cells #[.bool true, .string ⟨#[]⟩, .slice none 0 0] 24)).alloc (.cells #[(.func (.func 17) #[.pointer (some ⟨r, 0, none⟩)] #[])] 47)).setCell ⟨r, 0, none⟩ (.int .i64 ((12 - k : Nat) : Int))) = w6 at *
  clear c0 c1 c2 f0 q q0 q1 q2 q3 q4 hg5 hz5
  rintro e w7 ⟨rfl, hw7⟩
  rw [hz6]
  obtain ⟨b, hb⟩ : ∃ b, w.heap.size = b := ⟨_, rfl⟩
  rw [hb] at p0 p1 p2 p3 p4 hz6 hrl ⊢
  have z1 : (w6.alloc (.cells #[.int .i64 (F : Int)] 3)).heap.size = b + 6 := by simp [hz6]
  have z2 : ((w6.alloc (.cells #[.int .i64 (F : Int)] 3)).alloc (.cells #[.int .i64 (s.size : Int)] 3)).heap.size = b + 7 := by simp [hz6]
  have n5 := Boxed.new w6 3 (.int .i64 (F : Int))
  have n6 := Boxed.new (w6.alloc (.cells #[.int .i64 (F : Int)] 3)) 3 (.int .i64 (s.size : Int))
  have n7 := Boxed.new ((w6.alloc (.cells #[.int .i64 (F : Int)] 3)).alloc (.cells #[.int .i64 (s.size : Int)] 3)) 74 (.func (.func 33) #[] #[.pointer (some ⟨b + 4, 0, none⟩), .pointer (some ⟨b + 1, 0, none⟩), .pointer (some ⟨b + 3, 0, none⟩)])
  rw [hz6] at n5
  rw [z1] at n6
  rw [z2] at n7
  have m5 := (n5.alloc (.cells #[.int .i64 (s.size : Int)] 3)).alloc (.cells #[.func (.func 33) #[] #[.pointer (some ⟨b + 4, 0, none⟩), .pointer (some ⟨b + 1, 0, none⟩), .pointer (some ⟨b + 3, 0, none⟩)]] 74)
  have m6 := n6.alloc (.cells #[.func (.func 33) #[] #[.pointer (some ⟨b + 4, 0, none⟩), .pointer (some ⟨b + 1, 0, none⟩), .pointer (some ⟨b + 3, 0, none⟩)]] 74)
  rw [hb] at hw7
  rw [show b + 1 + 1 + 1 + 1 = b + 4 from rfl, show b + 1 + 1 + 1 = b + 3 from rfl] at hw7
  rw [← hw7] at m5 m6 n7
  have hg7 : w.grownBy w7 (some r) := by rw [hw7]; exact only_alloc (only_alloc (only_alloc hg6 _) _) _
  have hz7 : w7.heap.size = b + 8 := by rw [hw7]; simp [hz6]
  have hIB : IB w b r s w7 := ⟨hg7, by rw [hw7]; exact ((p0.alloc _).alloc _).alloc _, by rw [hw7]; exact ((p1.alloc _).alloc _).alloc _, by rw [hw7]; exact ((p2.alloc _).alloc _).alloc _, by rw [hw7]; exact ((p4.alloc _).alloc _).alloc _, m6, n7⟩
  have h3 : Blk w7 (b + 3) 24 #[.bool true, .string ⟨#[]⟩, .slice none 0 0] := by rw [hw7]; exact ((p3.alloc _).alloc _).alloc _
  have hrd : Blk w7 r 45 #[.int .i64 ((12 - k : Nat) : Int), .int .i64 0] := by rw [hw7]; exact ((p.alloc _).alloc _).alloc _
  have hI0 : II w b r s k F 0 (F : Int) w7 := ⟨hIB, m5, by omega, 0, none, 0, 0, h3, hrd, .inl ⟨rfl, F, [], [], rfl, rfl, rfl, World.ownsRow_nil _ _ _ _, fun j hj => absurd hj (by omega), by show _ = prepR [] (itemsF (itemF k s.data.toList) s.size 513 0 F); cases itemsF (itemF k s.data.toList) s.size 513 0 F <;> rfl⟩⟩
  clear m5 m6 n5 n6 n7 z1 z2 hw7 p0 p1 p2 p3 p4 p hg6 hz6 hIB h3 hrd hg7
  gi_wp2_with fail
  have HZ := Lib.hid hz7; have HB := Lib.hid hb
  clear hb
  refine range_places (b + 5) (b + 6) (b + 7) 33 #[.pointer (some ⟨b + 4, 0, none⟩), .pointer (some ⟨b + 1, 0, none⟩), .pointer (some ⟨b + 3, 0, none⟩)] (s.size : Int) (F : Int) 512 (by omega) (by omega) rfl
    (enters_of Tryd.func38 (by kernel_rfl) rfl) (enters_of Tryd.func33 (by kernel_rfl) rfl) rfl
    (II w b r s k F) (II2 w b r s k F) (IX w b r s k F 0) (by omega) (II.own (by rw [HB.out]; omega)) (II2.own (by rw [HB.out]; omega)) (IX.own (by rw [HB.out]; omega))
    (fun i p W h => ⟨⟨h.2.1, h.1.q6, h.1.q7⟩, h.2.2.1⟩) (fun i p W h => ⟨⟨h.2.1, h.1.q6, h.1.q7⟩, h.2.2.1⟩) hI0
    (fun i p a' => a' = { tmps := #[.pointer (some ⟨r, 0, none⟩), .string s, .int .i64 (F : Int), .pointer (some ⟨b, 0, none⟩), .pointer (some ⟨b + 1, 0, none⟩), undef, .pointer (some ⟨b + 1 + 1, 0, none⟩), .pointer (some ⟨b + 1 + 1 + 1, 0, none⟩), .pointer (some ⟨b + 1 + 1 + 1 + 1, 0, none⟩), .func (.func 33) #[] #[.pointer (some ⟨b + 1 + 1 + 1 + 1, 0, none⟩), .pointer (some ⟨b + 1, 0, none⟩), .pointer (some ⟨b + 1 + 1 + 1, 0, none⟩)], .int .i64 (i : Int), .agg #[.bool true, .string ⟨#[]⟩, .slice none 0 0], .pointer (some ⟨r, 0, none⟩), (.func (.func 17) #[.pointer (some ⟨r, 0, none⟩)] #[]), .pointer (some ⟨r, 0, none⟩), .pointer (some ⟨r, 0, none⟩), .pointer (some ⟨r, 0, none⟩), .int .i64 ((11 - k : Nat) : Int), .int .i64 ((12 - k : Nat) : Int), .pointer (some ⟨r, 0, none⟩), .pointer (some ⟨r, 0, none⟩), .func (.func 32) #[] #[.pointer (some ⟨b, 0, none⟩)], .func (.func 33) #[] #[.pointer (some ⟨b + 1 + 1 + 1 + 1, 0, none⟩), .pointer (some ⟨b + 1, 0, none⟩), .pointer (some ⟨b + 1 + 1 + 1, 0, none⟩)], .int .i64 (F : Int), .string s, .int .i64 (s.size : Int), .func (.func 33) #[] #[.pointer (some ⟨b + 1 + 1 + 1 + 1, 0, none⟩), .pointer (some ⟨b + 1, 0, none⟩), .pointer (some ⟨b + 1 + 1 + 1, 0, none⟩)], .func (.func 38) #[] #[.pointer (some ⟨b + 5, 0, none⟩), .pointer (some ⟨b + 5 + 1, 0, none⟩), .pointer (some ⟨b + 5 + 1 + 1, 0, none⟩)], .int .i64 (i : Int), .int .i64 p, undef, undef, undef, undef, undef, undef, undef, undef, undef, undef, undef, undef, undef, undef, undef, undef, undef, undef], defers := [] }) ?assign ?body (fun i p W h => callsIn_wide.2 (read_step hC hs HB.out hrl w7.heap.size h)) ?done ?stop
  case assign =>
    intro l i p W K hi hK
    have hK' := hK _ rfl
    have HK := Lib.hid hK'
    clear hK hK'
    gi_wp2
    exact HK.out
  case body =>
    rintro l i p a' W ⟨h1, h2, h3, E, A, n, c, h4, h5, h6⟩ hlt rfl
    have c0 := h1.q0.cell
    have c1 := h5.cell 1; have f1 := h5.frozen 1
    simp only [List.getElem?_toArray, List.getElem?_cons_zero, List.getElem?_cons_succ] at c1
    rcases h6 with ⟨rfl, h6⟩ | ⟨hE, h6⟩
    · by_cases hi : i = 512
      · subst hi
        have hd : decide ((512 : Int) ≤ ((512 : Nat) : Int)) = true := by simp
        obtain ⟨p', xs, vs, rfl, _, _, _, _, hspec⟩ := h6
        have hsp := itemsF_many (by omega) hspec
        have HSP := Lib.hid hsp
        clear hspec hsp
        have hst : Stays (fun g => g = r) W (W.setCell ⟨r, 1, none⟩ (.int .i64 5)) := fun g o ho _ hx => (Below.heap_setCell W ⟨r, 1, none⟩ _ g hx).trans ho
        have hgw : w.grownBy (W.setCell ⟨r, 1, none⟩ (.int .i64 5)) (some r) := ⟨h1.hg.os, h1.hg.tape, h1.hg.output, by simpa [World.setCell] using h1.hg.size, fun g g1 g2 => (Below.heap_setCell W ⟨r, 1, none⟩ _ g (by simpa using g2)).trans (h1.hg.block g g1 g2)⟩
        have h5' := h5.set_ 1 (.int .i64 5)
        simp only [List.setIfInBounds_toArray, List.set_cons_zero, List.set_cons_succ] at h5'
        have k1 := h5'.cell 1
        have k0 := (h1.q0.other (B' := r) (by omega) (.int .i64 5)).cell
        simp only [List.getElem?_toArray, List.getElem?_cons_zero, List.getElem?_cons_succ] at k1
        have HX : Hid (IX w b r s k F 0 (.exit 0) (W.setCell ⟨r, 1, none⟩ (.int .i64 5))) := ⟨rfl, h1.stays hst hgw (fun g g1 _ _ _ => by omega), 5, A, n, c, by decide, hst.blk h4 (by omega), h5', HSP.out⟩
        have HKF : Hid (KeepsFrom w7.heap.size W (W.setCell ⟨r, 1, none⟩ (.int .i64 5))) := Lib.hid ((KeepsOthers.setCell W ⟨r, 1, none⟩ (.int .i64 5)).from _)
        clear h1 h2 h4 h5 h5' hst hgw hI0
        gi_wp2
        exact ⟨HKF.out, HX.out⟩
      · have hd : decide ((512 : Int) ≤ (i : Int)) = false := decide_eq_false (by omega)
        have hd' : decide (512 ≤ i) = false := decide_eq_false (by omega)
        have HX : Hid (II2 w b r s k F i p W) := ⟨h1, h2, by omega, hlt, A, n, c, h4, h5, h6⟩
        clear h1 h2 h4 h5 h6 hI0
        gi_wp2
        exact ⟨KeepsFrom.refl _ _, HX.out⟩
    · have he : (E == 0) = false := by simpa using hE
      have he' : (E != 0) = true := by simpa using hE
      have HX : Hid (IX w b r s k F 0 (.exit 0) W) := ⟨rfl, h1, E, A, n, c, hE, h4, h5, h6⟩
      clear h1 h2 h4 h5 h6 hI0 hE
      gi_wp2
      exact ⟨KeepsFrom.refl _ _, HX.out⟩
  case done =>
    rintro D i p W hD hlt ⟨h1, h2, h3, E, A, n, c, h4, h5, h6⟩ hK
    have HEE : (E = 0 ∧ IOk (itemF k s.data.toList) s.size F b (.slice A n c) i p W ∧ i ≤ 512 ∧ (s.size : Int) ≤ p) ∨ (E ≠ 0 ∧ itemsF (itemF k s.data.toList) s.size 513 0 F = .error E) := by
      rcases h6 with ⟨e, h6⟩ | h6
      · exact .inl ⟨e, h6, h3, by omega⟩
      · exact .inr h6
    have c0 := h4.cell 0; have c1 := h4.cell 1; have c2 := h4.cell 2
    have d0 := h1.q2.cell 0; have d1 := h1.q2.cell 1; have d2 := h1.q2.cell 2
    have f0 := h1.q2.frozen 0; have f1 := h1.q2.frozen 1; have f2 := h1.q2.frozen 2
    simp only [List.getElem?_toArray, List.getElem?_cons_zero, List.getElem?_cons_succ] at c0 c1 c2 d0 d1 d2
    have hDW : b + 8 ≤ D := by have := HZ.out; omega
    have HD := Lib.hid hDW
    have H1 := Lib.hid h1; have H5 := Lib.hid h5; have HE := Lib.hid HEE; have HK := Lib.hid hK
    have q2' := blk_set3 h1.q2 (.bool true) (.string ⟨#[]⟩) (.slice A n c)
    have q0' := ((h1.q0.other (B' := b + 2) (by omega) (.bool true)))
    clear h4 h5 h1 hK hI0 hD hDW h6 h2 hlt
    gi_wp2
    have q0w : Boxed (((W.setCell ⟨b + 2, 0, none⟩ (.bool true)).setCell ⟨b + 2, 1, none⟩ (.string ⟨#[]⟩)).setCell ⟨b + 2, 2, none⟩ (.slice A n c)) b 43 (.pointer (some ⟨r, 0, none⟩)) := (Below.heap_setCell _ ⟨b + 2, 2, none⟩ _ b (by show b ≠ b + 2; omega)).trans ((Below.heap_setCell _ ⟨b + 2, 1, none⟩ _ b (by show b ≠ b + 2; omega)).trans q0')
    have h5w := ((H5.out.far (p := ⟨b + 2, 0, none⟩) (by show r ≠ b + 2; omega) (.bool true)).far (p := ⟨b + 2, 1, none⟩) (by show r ≠ b + 2; omega) (.string ⟨#[]⟩)).far (p := ⟨b + 2, 2, none⟩) (by show r ≠ b + 2; omega) (.slice A n c)
    have hKw := ((((KeepsOthers.setCell W ⟨b + 2, 0, none⟩ (.bool true)).trans (KeepsOthers.setCell _ ⟨b + 2, 1, none⟩ (.string ⟨#[]⟩))).trans (KeepsOthers.setCell _ ⟨b + 2, 2, none⟩ (.slice A n c))).same D _ HK.out rfl)
    refine items_leave hk hrl HD.out rfl q0w q2' h5w hKw fun W' hbr hkw => ?_
    refine items_close HB.out hrl HD.out H1.out HK.out HE.out ⟨hkw.os, hkw.tape, hkw.output, by simpa [World.setCell] using hkw.size, fun j hj => (hkw.block j ⟨hj.1, hj.2.1⟩).trans ?_⟩ hbr
    exact (Below.heap_setCell _ ⟨b + 2, 2, none⟩ _ j hj.2.2).trans ((Below.heap_setCell _ ⟨b + 2, 1, none⟩ _ j hj.2.2).trans (Below.heap_setCell _ ⟨b + 2, 0, none⟩ _ j hj.2.2))
  case stop =>
    rintro D cd W hD ⟨rfl, h1, E, A, n, c, hE, h4, h5, h6⟩ hK
    have HEE : (E = 0 ∧ IOk (itemF k s.data.toList) s.size F b (.slice A n c) 0 0 W ∧ 0 ≤ 512 ∧ (s.size : Int) ≤ 0) ∨ (E ≠ 0 ∧ itemsF (itemF k s.data.toList) s.size 513 0 F = .error E) := .inr ⟨hE, h6⟩
    have c0 := h4.cell 0; have c1 := h4.cell 1; have c2 := h4.cell 2
    have d0 := h1.q2.cell 0; have d1 := h1.q2.cell 1; have d2 := h1.q2.cell 2
    have f0 := h1.q2.frozen 0; have f1 := h1.q2.frozen 1; have f2 := h1.q2.frozen 2
    simp only [List.getElem?_toArray, List.getElem?_cons_zero, List.getElem?_cons_succ] at c0 c1 c2 d0 d1 d2
    have hDW : b + 8 ≤ D := by have := HZ.out; omega
    have HD := Lib.hid hDW
    have H1 := Lib.hid h1; have H5 := Lib.hid h5; have HE := Lib.hid HEE; have HK := Lib.hid hK
    have q2' := blk_set3 h1.q2 (.bool true) (.string ⟨#[]⟩) (.slice A n c)
    have q0' := ((h1.q0.other (B' := b + 2) (by omega) (.bool true)))
    clear h4 h5 h1 hK hI0 hD hDW h6 hE
    gi_wp2
    have q0w : Boxed (((W.setCell ⟨b + 2, 0, none⟩ (.bool true)).setCell ⟨b + 2, 1, none⟩ (.string ⟨#[]⟩)).setCell ⟨b + 2, 2, none⟩ (.slice A n c)) b 43 (.pointer (some ⟨r, 0, none⟩)) := (Below.heap_setCell _ ⟨b + 2, 2, none⟩ _ b (by show b ≠ b + 2; omega)).trans ((Below.heap_setCell _ ⟨b + 2, 1, none⟩ _ b (by show b ≠ b + 2; omega)).trans q0')
    have h5w := ((H5.out.far (p := ⟨b + 2, 0, none⟩) (by show r ≠ b + 2; omega) (.bool true)).far (p := ⟨b + 2, 1, none⟩) (by show r ≠ b + 2; omega) (.string ⟨#[]⟩)).far (p := ⟨b + 2, 2, none⟩) (by show r ≠ b + 2; omega) (.slice A n c)
    have hKw := ((((KeepsOthers.setCell W ⟨b + 2, 0, none⟩ (.bool true)).trans (KeepsOthers.setCell _ ⟨b + 2, 1, none⟩ (.string ⟨#[]⟩))).trans (KeepsOthers.setCell _ ⟨b + 2, 2, none⟩ (.slice A n c))).same D _ HK.out rfl)
    refine items_leave hk hrl HD.out rfl q0w q2' h5w hKw fun W' hbr hkw => ?_
    refine items_close HB.out hrl HD.out H1.out HK.out HE.out ⟨hkw.os, hkw.tape, hkw.output, by simpa [World.setCell] using hkw.size, fun j hj => (hkw.block j ⟨hj.1, hj.2.1⟩).trans ?_⟩ hbr
    exact (Below.heap_setCell _ ⟨b + 2, 2, none⟩ _ j hj.2.2).trans ((Below.heap_setCell _ ⟨b + 2, 1, none⟩ _ j hj.2.2).trans (Below.heap_setCell _ ⟨b + 2, 0, none⟩ _ j hj.2.2))
end Go.Proofs.YthbeigcbmalldaaDoor
