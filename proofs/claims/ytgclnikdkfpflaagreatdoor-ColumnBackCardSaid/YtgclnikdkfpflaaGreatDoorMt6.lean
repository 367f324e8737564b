/- Merged: UnrJ, UnrM, UnrN, UnrO, Set5, CoA, CoB, TxA, TxB, TxC. -/
import Derived.Test.YtgclnikdkfpflaaGreatDoorMt1
import Derived.Test.YtgclnikdkfpflaaGreatDoorMt3
import Derived.Test.YtgclnikdkfpflaaGreatDoorMt5
import Derived.Laws.EntriesVeiled
import Derived.Deep.DeepCutAuto
import Derived.Deep.MidRow
import Derived.Laws.StructEq
import Derived.Deep.WholeRow
namespace Go.Proofs.YtgclnikdkfpflaaGreatDoor
open Go.RowKit Go.Shelf
open List renaming set_cons_zero → jz, set_cons_succ → js, setIfInBounds_toArray → jb
set_option linter.unusedVariables false
set_option linter.unusedSimpArgs false
set_option maxRecDepth 100000
set_option maxHeartbeats 16000000
set_option linter.unnecessarySimpa false
attribute [local go_sem] Oper.semAt_some
theorem boxes5 (w : World) (r : Nat) (s : ByteArray) (d e : Int) (hr : Blk w r 193 #[.int .i64 d, .int .i64 e]) :
  Blk (((((w.alloc (.cells #[.pointer (some ⟨r, 0, none⟩)] 191)).alloc (.cells #[.string s] 9)).alloc (.cells #[.bool false, .string ⟨#[]⟩, .slice none 0 0] 106)).alloc (.cells #[.bool true, .string ⟨#[]⟩, .slice none 0 0] 106)).alloc (.cells #[(.func (.func 154) #[.pointer (some ⟨r, 0, none⟩)] #[])] 195)) r 193 #[.int .i64 d, .int .i64 e] ∧ Boxed (((((w.alloc (.cells #[.pointer (some ⟨r, 0, none⟩)] 191)).alloc (.cells #[.string s] 9)).alloc (.cells #[.bool false, .string ⟨#[]⟩, .slice none 0 0] 106)).alloc (.cells #[.bool true, .string ⟨#[]⟩, .slice none 0 0] 106)).alloc (.cells #[(.func (.func 154) #[.pointer (some ⟨r, 0, none⟩)] #[])] 195)) w.heap.size 191 (.pointer (some ⟨r, 0, none⟩)) ∧ Boxed (((((w.alloc (.cells #[.pointer (some ⟨r, 0, none⟩)] 191)).alloc (.cells #[.string s] 9)).alloc (.cells #[.bool false, .string ⟨#[]⟩, .slice none 0 0] 106)).alloc (.cells #[.bool true, .string ⟨#[]⟩, .slice none 0 0] 106)).alloc (.cells #[(.func (.func 154) #[.pointer (some ⟨r, 0, none⟩)] #[])] 195)) (w.heap.size + 1) 9 (.string s) ∧ Blk (((((w.alloc (.cells #[.pointer (some ⟨r, 0, none⟩)] 191)).alloc (.cells #[.string s] 9)).alloc (.cells #[.bool false, .string ⟨#[]⟩, .slice none 0 0] 106)).alloc (.cells #[.bool true, .string ⟨#[]⟩, .slice none 0 0] 106)).alloc (.cells #[(.func (.func 154) #[.pointer (some ⟨r, 0, none⟩)] #[])] 195)) (w.heap.size + 1 + 1) 106 #[.bool false, .string ⟨#[]⟩, .slice none 0 0] ∧
  Blk (((((w.alloc (.cells #[.pointer (some ⟨r, 0, none⟩)] 191)).alloc (.cells #[.string s] 9)).alloc (.cells #[.bool false, .string ⟨#[]⟩, .slice none 0 0] 106)).alloc (.cells #[.bool true, .string ⟨#[]⟩, .slice none 0 0] 106)).alloc (.cells #[(.func (.func 154) #[.pointer (some ⟨r, 0, none⟩)] #[])] 195)) (w.heap.size + 1 + 1 + 1) 106 #[.bool true, .string ⟨#[]⟩, .slice none 0 0] ∧ Boxed (((((w.alloc (.cells #[.pointer (some ⟨r, 0, none⟩)] 191)).alloc (.cells #[.string s] 9)).alloc (.cells #[.bool false, .string ⟨#[]⟩, .slice none 0 0] 106)).alloc (.cells #[.bool true, .string ⟨#[]⟩, .slice none 0 0] 106)).alloc (.cells #[(.func (.func 154) #[.pointer (some ⟨r, 0, none⟩)] #[])] 195)) (w.heap.size + 1 + 1 + 1 + 1) 195 (.func (.func 154) #[.pointer (some ⟨r, 0, none⟩)] #[]) ∧ w.grownBy (((((w.alloc (.cells #[.pointer (some ⟨r, 0, none⟩)] 191)).alloc (.cells #[.string s] 9)).alloc (.cells #[.bool false, .string ⟨#[]⟩, .slice none 0 0] 106)).alloc (.cells #[.bool true, .string ⟨#[]⟩, .slice none 0 0] 106)).alloc (.cells #[(.func (.func 154) #[.pointer (some ⟨r, 0, none⟩)] #[])] 195)) none ∧ (((((w.alloc (.cells #[.pointer (some ⟨r, 0, none⟩)] 191)).alloc (.cells #[.string s] 9)).alloc (.cells #[.bool false, .string ⟨#[]⟩, .slice none 0 0] 106)).alloc (.cells #[.bool true, .string ⟨#[]⟩, .slice none 0 0] 106)).alloc (.cells #[(.func (.func 154) #[.pointer (some ⟨r, 0, none⟩)] #[])] 195)).heap.size = w.heap.size + 5 := by
 have h0 := Boxed.new w 191 (.pointer (some ⟨r, 0, none⟩))
 have h1 := Boxed.new (w.alloc (.cells #[.pointer (some ⟨r, 0, none⟩)] 191)) 9 (.string s)
 have h2 := Blk.new ((w.alloc (.cells #[.pointer (some ⟨r, 0, none⟩)] 191)).alloc (.cells #[.string s] 9)) 106 #[.bool false, .string ⟨#[]⟩, .slice none 0 0]
 have h3 := Blk.new (((w.alloc (.cells #[.pointer (some ⟨r, 0, none⟩)] 191)).alloc (.cells #[.string s] 9)).alloc (.cells #[.bool false, .string ⟨#[]⟩, .slice none 0 0] 106)) 106 #[.bool true, .string ⟨#[]⟩, .slice none 0 0]
 have h4 := Boxed.new ((((w.alloc (.cells #[.pointer (some ⟨r, 0, none⟩)] 191)).alloc (.cells #[.string s] 9)).alloc (.cells #[.bool false, .string ⟨#[]⟩, .slice none 0 0] 106)).alloc (.cells #[.bool true, .string ⟨#[]⟩, .slice none 0 0] 106)) 195 (.func (.func 154) #[.pointer (some ⟨r, 0, none⟩)] #[])
 simp only [World.size_alloc] at h1 h2 h3 h4
 exact ⟨(((((hr.alloc _).alloc _).alloc _).alloc _).alloc _), (((h0.alloc _).alloc _).alloc _).alloc _, ((h1.alloc _).alloc _).alloc _, (h2.alloc _).alloc _, h3.alloc _, h4, only_alloc (only_alloc (only_alloc (only_alloc (only_alloc (World.grownBy.refl _ _) _) _) _) _) _, by simp⟩
theorem items_any (k : Nat) (hk : k ≤ 11) (hC : ItemC k) (s : ByteArray) (F r : Nat) (w : World) (hs : s.size ≤ 65536) (hr : Blk w r 193 #[.int .i64 ((11 - k : Nat) : Int), .int .i64 0]) :
  Calls Tryz.prog 174 #[.pointer (some ⟨r, 0, none⟩), .string s, .int .i64 (F : Int)] w fun e w' => ∃ sA sn sc, e = .returned (.agg #[.bool true, .string .empty, .slice sA sn sc]) ∧ w.grownBy w' (some r) ∧
   ((∃ xs, itemsF (itemF k s.data.toList) s.size 513 0 F = .ok xs ∧ Blk w' r 193 #[.int .i64 ((11 - k : Nat) : Int), .int .i64 0] ∧ SubV (fun g => w.heap.size ≤ g) w' xs (.slice sA sn sc)) ∨
    (∃ E, itemsF (itemF k s.data.toList) s.size 513 0 F = .error E ∧ E ≠ 0 ∧ Blk w' r 193 #[.int .i64 ((11 - k : Nat) : Int), .int .i64 E])) := by
 refine (callsIn_wide (n := 6)).1 ?_
 refine callsIn_of_wp_marks Tryz.func174 rfl trivial ?_ rfl
 simp only [Tryz.ntmps174, List.size_toArray, List.length_cons, List.length_nil, Nat.reduceAdd, Nat.reduceSub, Array.replicate_succ, Array.replicate_zero, List.push_toArray, List.append_toArray, List.nil_append, List.cons_append]
 obtain ⟨q, q0, q1, q2, q3, q4, hg5, hz5⟩ := boxes5 w r s ((11 - k : Nat) : Int) 0 hr
 have hrl := hr.lt
 have p := q.set_ 0 (.int .i64 ((12 - k : Nat) : Int))
 simp only [List.setIfInBounds_toArray, List.set_cons_zero] at p
 have p0 := q0.other (B' := r) (by omega) (.int .i64 ((12 - k : Nat) : Int))
 have p1 := q1.other (B' := r) (by omega) (.int .i64 ((12 - k : Nat) : Int))
 have p2 := q2.far (p := ⟨r, 0, none⟩) (by show w.heap.size + 1 + 1 ≠ r; omega) (.int .i64 ((12 - k : Nat) : Int))
 have p3 := q3.far (p := ⟨r, 0, none⟩) (by show w.heap.size + 1 + 1 + 1 ≠ r; omega) (.int .i64 ((12 - k : Nat) : Int))
 have p4 := q4.other (B' := r) (by omega) (.int .i64 ((12 - k : Nat) : Int))
 have c0 := q.cell 0; have f0 := q.frozen 0
 have c1 := p0.cell; have c2 := p1.cell
 simp only [List.getElem?_toArray, List.getElem?_cons_zero] at c0
 have v1 : IntKind.i64.wrap (((11 - k : Nat) : Int) + 1) = ((12 - k : Nat) : Int) := by rw [IntWalk.i64_in _ (by omega)]; omega
 have v2 : ((11 - k : Nat) : Int) + 1 = ((12 - k : Nat) : Int) := by omega
 gi_wp2_with fail
 refine ⟨trivial, callsIn_wide.2 ((places_any _ _ _ _ _ _).mono ?_)⟩
 have hg6 : w.grownBy ((((((w.alloc (.cells #[.pointer (some ⟨r, 0, none⟩)] 191)).alloc (.cells #[.string s] 9)).alloc (.cells #[.bool false, .string ⟨#[]⟩, .slice none 0 0] 106)).alloc (.cells #[.bool true, .string ⟨#[]⟩, .slice none 0 0] 106)).alloc (.cells #[(.func (.func 154) #[.pointer (some ⟨r, 0, none⟩)] #[])] 195)).setCell ⟨r, 0, none⟩ (.int .i64 ((12 - k : Nat) : Int))) (some r) := ⟨hg5.os, hg5.tape, hg5.output, by simpa [World.setCell] using hg5.size, fun g h1 h2 => (Below.heap_setCell _ ⟨r, 0, none⟩ _ g (by simpa using h2)).trans (hg5.block g h1 (by simp))⟩
 have hz6 : ((((((w.alloc (.cells #[.pointer (some ⟨r, 0, none⟩)] 191)).alloc (.cells #[.string s] 9)).alloc (.cells #[.bool false, .string ⟨#[]⟩, .slice none 0 0] 106)).alloc (.cells #[.bool true, .string ⟨#[]⟩, .slice none 0 0] 106)).alloc (.cells #[(.func (.func 154) #[.pointer (some ⟨r, 0, none⟩)] #[])] 195)).setCell ⟨r, 0, none⟩ (.int .i64 ((12 - k : Nat) : Int))).heap.size = w.heap.size + 5 := by simpa [World.setCell] using hz5
 generalize ((((((w.alloc (.cells #[.pointer (some ⟨r, 0, none⟩)] 191)).alloc (.cells #[.string s] 9)).alloc (.cells #[.bool false, .string ⟨#[]⟩, .slice none 0 0] 106)).alloc (.cells #[.bool true, .string ⟨#[]⟩, .slice none 0 0] 106)).alloc (.cells #[(.func (.func 154) #[.pointer (some ⟨r, 0, none⟩)] #[])] 195)).setCell ⟨r, 0, none⟩ (.int .i64 ((12 - k : Nat) : Int))) = w6 at *
 clear c0 c1 c2 f0 q q0 q1 q2 q3 q4 hg5 hz5
 rintro e w7 ⟨rfl, hw7⟩
 rw [hz6]
 obtain ⟨b, hb⟩ : ∃ b, w.heap.size = b := ⟨_, rfl⟩
 rw [hb] at p0 p1 p2 p3 p4 hz6 hrl ⊢
 have z1 : (w6.alloc (.cells #[.int .i64 (F : Int)] 3)).heap.size = b + 6 := by simp [hz6]
 have z2 : ((w6.alloc (.cells #[.int .i64 (F : Int)] 3)).alloc (.cells #[.int .i64 (s.size : Int)] 3)).heap.size = b + 7 := by simp [hz6]
 have n5 := Boxed.new w6 3 (.int .i64 (F : Int))
 have n6 := Boxed.new (w6.alloc (.cells #[.int .i64 (F : Int)] 3)) 3 (.int .i64 (s.size : Int))
 have n7 := Boxed.new ((w6.alloc (.cells #[.int .i64 (F : Int)] 3)).alloc (.cells #[.int .i64 (s.size : Int)] 3)) 92 (.func (.func 191) #[] #[.pointer (some ⟨b + 4, 0, none⟩), .pointer (some ⟨b + 1, 0, none⟩), .pointer (some ⟨b + 3, 0, none⟩)])
 rw [hz6] at n5
 rw [z1] at n6
 rw [z2] at n7
 have m5 := (n5.alloc (.cells #[.int .i64 (s.size : Int)] 3)).alloc (.cells #[.func (.func 191) #[] #[.pointer (some ⟨b + 4, 0, none⟩), .pointer (some ⟨b + 1, 0, none⟩), .pointer (some ⟨b + 3, 0, none⟩)]] 92)
 have m6 := n6.alloc (.cells #[.func (.func 191) #[] #[.pointer (some ⟨b + 4, 0, none⟩), .pointer (some ⟨b + 1, 0, none⟩), .pointer (some ⟨b + 3, 0, none⟩)]] 92)
 rw [hb] at hw7
 rw [show b + 1 + 1 + 1 + 1 = b + 4 from rfl, show b + 1 + 1 + 1 = b + 3 from rfl] at hw7
 rw [← hw7] at m5 m6 n7
 have hg7 : w.grownBy w7 (some r) := by rw [hw7]; exact only_alloc (only_alloc (only_alloc hg6 _) _) _
 have hz7 : w7.heap.size = b + 8 := by rw [hw7]; simp [hz6]
 have hIB : IB w b r s w7 := ⟨hg7, by rw [hw7]; exact ((p0.alloc _).alloc _).alloc _, by rw [hw7]; exact ((p1.alloc _).alloc _).alloc _, by rw [hw7]; exact ((p2.alloc _).alloc _).alloc _, by rw [hw7]; exact ((p4.alloc _).alloc _).alloc _, m6, n7⟩
 have h3 : Blk w7 (b + 3) 106 #[.bool true, .string ⟨#[]⟩, .slice none 0 0] := by rw [hw7]; exact ((p3.alloc _).alloc _).alloc _
 have hrd : Blk w7 r 193 #[.int .i64 ((12 - k : Nat) : Int), .int .i64 0] := by rw [hw7]; exact ((p.alloc _).alloc _).alloc _
 have hI0 : II w b r s k F 0 (F : Int) w7 := ⟨hIB, m5, by omega, 0, none, 0, 0, h3, hrd, .inl ⟨rfl, F, [], [], rfl, rfl, rfl, World.ownsRow_nil _ _ _ _, fun j hj => absurd hj (by omega), by show _ = prepR [] (itemsF (itemF k s.data.toList) s.size 513 0 F); cases itemsF (itemF k s.data.toList) s.size 513 0 F <;> rfl⟩⟩
 clear m5 m6 n5 n6 n7 z1 z2 hw7 p0 p1 p2 p3 p4 p hg6 hz6 hIB h3 hrd hg7
 gi_wp2_with fail
 have HZ := Lib.hid hz7; have HB := Lib.hid hb
 clear hb
 refine range_places (b + 5) (b + 6) (b + 7) 191 #[.pointer (some ⟨b + 4, 0, none⟩), .pointer (some ⟨b + 1, 0, none⟩), .pointer (some ⟨b + 3, 0, none⟩)] (s.size : Int) (F : Int) 512 (by omega) (by omega) rfl
  (enters_of Tryz.func201 (by kernel_rfl) rfl) (enters_of Tryz.func191 (by kernel_rfl) rfl) rfl
  (II w b r s k F) (II2 w b r s k F) (IX w b r s k F 0) (by omega) (II.own (by rw [HB.out]; omega)) (II2.own (by rw [HB.out]; omega)) (IX.own (by rw [HB.out]; omega))
  (fun i p W h => ⟨⟨h.2.1, h.1.q6, h.1.q7⟩, h.2.2.1⟩) (fun i p W h => ⟨⟨h.2.1, h.1.q6, h.1.q7⟩, h.2.2.1⟩) hI0
  (fun i p a' => a' = { tmps := #[.pointer (some ⟨r, 0, none⟩), .string s, .int .i64 (F : Int), .pointer (some ⟨b, 0, none⟩), .pointer (some ⟨b + 1, 0, none⟩), undef, .pointer (some ⟨b + 1 + 1, 0, none⟩), .pointer (some ⟨b + 1 + 1 + 1, 0, none⟩), .pointer (some ⟨b + 1 + 1 + 1 + 1, 0, none⟩), .func (.func 191) #[] #[.pointer (some ⟨b + 1 + 1 + 1 + 1, 0, none⟩), .pointer (some ⟨b + 1, 0, none⟩), .pointer (some ⟨b + 1 + 1 + 1, 0, none⟩)], .int .i64 (i : Int), .agg #[.bool true, .string ⟨#[]⟩, .slice none 0 0], .pointer (some ⟨r, 0, none⟩), (.func (.func 154) #[.pointer (some ⟨r, 0, none⟩)] #[]), .pointer (some ⟨r, 0, none⟩), .pointer (some ⟨r, 0, none⟩), .pointer (some ⟨r, 0, none⟩), .int .i64 ((11 - k : Nat) : Int), .int .i64 ((12 - k : Nat) : Int), .pointer (some ⟨r, 0, none⟩), .pointer (some ⟨r, 0, none⟩), .func (.func 190) #[] #[.pointer (some ⟨b, 0, none⟩)], .func (.func 191) #[] #[.pointer (some ⟨b + 1 + 1 + 1 + 1, 0, none⟩), .pointer (some ⟨b + 1, 0, none⟩), .pointer (some ⟨b + 1 + 1 + 1, 0, none⟩)], .int .i64 (F : Int), .string s, .int .i64 (s.size : Int), .func (.func 191) #[] #[.pointer (some ⟨b + 1 + 1 + 1 + 1, 0, none⟩), .pointer (some ⟨b + 1, 0, none⟩), .pointer (some ⟨b + 1 + 1 + 1, 0, none⟩)], .func (.func 201) #[] #[.pointer (some ⟨b + 5, 0, none⟩), .pointer (some ⟨b + 5 + 1, 0, none⟩), .pointer (some ⟨b + 5 + 1 + 1, 0, none⟩)], .int .i64 (i : Int), .int .i64 p, undef, undef, undef, undef, undef, undef, undef, undef, undef, undef, undef, undef, undef, undef, undef, undef, undef, undef], defers := [] }) ?assign ?body (fun i p W h => callsIn_wide.2 (read_step hC hs HB.out hrl w7.heap.size h)) ?done ?stop
 case assign =>
  intro l i p W K hi hK
  have hK' := hK _ rfl
  have HK := Lib.hid hK'
  clear hK hK'
  gi_wp2
  exact HK.out
 case body =>
  rintro l i p a' W ⟨h1, h2, h3, E, A, n, c, h4, h5, h6⟩ hlt rfl
  have c0 := h1.q0.cell
  have c1 := h5.cell 1; have f1 := h5.frozen 1
  simp only [List.getElem?_toArray, List.getElem?_cons_zero, List.getElem?_cons_succ] at c1
  rcases h6 with ⟨rfl, h6⟩ | ⟨hE, h6⟩
  ·by_cases hi : i = 512
   ·subst hi
    have hd : decide ((512 : Int) ≤ ((512 : Nat) : Int)) = true := by simp
    obtain ⟨p', xs, vs, rfl, _, _, _, _, hspec⟩ := h6
    have hsp := itemsF_many (by omega) hspec
    have HSP := Lib.hid hsp
    clear hspec hsp
    have hst : Stays (fun g => g = r) W (W.setCell ⟨r, 1, none⟩ (.int .i64 5)) := fun g o ho _ hx => (Below.heap_setCell W ⟨r, 1, none⟩ _ g hx).trans ho
    have hgw : w.grownBy (W.setCell ⟨r, 1, none⟩ (.int .i64 5)) (some r) := ⟨h1.hg.os, h1.hg.tape, h1.hg.output, by simpa [World.setCell] using h1.hg.size, fun g g1 g2 => (Below.heap_setCell W ⟨r, 1, none⟩ _ g (by simpa using g2)).trans (h1.hg.block g g1 g2)⟩
    have h5' := h5.set_ 1 (.int .i64 5)
    simp only [List.setIfInBounds_toArray, List.set_cons_zero, List.set_cons_succ] at h5'
    have k1 := h5'.cell 1
    have k0 := (h1.q0.other (B' := r) (by omega) (.int .i64 5)).cell
    simp only [List.getElem?_toArray, List.getElem?_cons_zero, List.getElem?_cons_succ] at k1
    have HX : Hid (IX w b r s k F 0 (.exit 0) (W.setCell ⟨r, 1, none⟩ (.int .i64 5))) := ⟨rfl, h1.stays hst hgw (fun g g1 _ _ _ => by omega), 5, A, n, c, by decide, hst.blk h4 (by omega), h5', HSP.out⟩
    have HKF : Hid (KeepsFrom w7.heap.size W (W.setCell ⟨r, 1, none⟩ (.int .i64 5))) := Lib.hid ((KeepsOthers.setCell W ⟨r, 1, none⟩ (.int .i64 5)).from _)
    clear h1 h2 h4 h5 h5' hst hgw hI0
    gi_wp2
    exact ⟨HKF.out, HX.out⟩
   ·have hd : decide ((512 : Int) ≤ (i : Int)) = false := decide_eq_false (by omega)
    have hd' : decide (512 ≤ i) = false := decide_eq_false (by omega)
    have HX : Hid (II2 w b r s k F i p W) := ⟨h1, h2, by omega, hlt, A, n, c, h4, h5, h6⟩
    clear h1 h2 h4 h5 h6 hI0
    gi_wp2
    exact ⟨KeepsFrom.refl _ _, HX.out⟩
  ·have he : (E == 0) = false := by simpa using hE
   have he' : (E != 0) = true := by simpa using hE
   have HX : Hid (IX w b r s k F 0 (.exit 0) W) := ⟨rfl, h1, E, A, n, c, hE, h4, h5, h6⟩
   clear h1 h2 h4 h5 h6 hI0 hE
   gi_wp2
   exact ⟨KeepsFrom.refl _ _, HX.out⟩
 case done =>
  rintro D i p W hD hlt ⟨h1, h2, h3, E, A, n, c, h4, h5, h6⟩ hK
  have HEE : (E = 0 ∧ IOk (itemF k s.data.toList) s.size F b (.slice A n c) i p W ∧ i ≤ 512 ∧ (s.size : Int) ≤ p) ∨ (E ≠ 0 ∧ itemsF (itemF k s.data.toList) s.size 513 0 F = .error E) := by
   rcases h6 with ⟨e, h6⟩ | h6
   ·exact .inl ⟨e, h6, h3, by omega⟩
   ·exact .inr h6
  have c0 := h4.cell 0; have c1 := h4.cell 1; have c2 := h4.cell 2
  have d0 := h1.q2.cell 0; have d1 := h1.q2.cell 1; have d2 := h1.q2.cell 2
  have f0 := h1.q2.frozen 0; have f1 := h1.q2.frozen 1; have f2 := h1.q2.frozen 2
  simp only [List.getElem?_toArray, List.getElem?_cons_zero, List.getElem?_cons_succ] at c0 c1 c2 d0 d1 d2
  have hDW : b + 8 ≤ D := by have := HZ.out; omega
  have HD := Lib.hid hDW
  have H1 := Lib.hid h1; have H5 := Lib.hid h5; have HE := Lib.hid HEE; have HK := Lib.hid hK
  have q2' := blk_set3 h1.q2 (.bool true) (.string ⟨#[]⟩) (.slice A n c)
  have q0' := ((h1.q0.other (B' := b + 2) (by omega) (.bool true)))
  clear h4 h5 h1 hK hI0 hD hDW h6 h2 hlt
  gi_wp2
  have q0w : Boxed (((W.setCell ⟨b + 2, 0, none⟩ (.bool true)).setCell ⟨b + 2, 1, none⟩ (.string ⟨#[]⟩)).setCell ⟨b + 2, 2, none⟩ (.slice A n c)) b 191 (.pointer (some ⟨r, 0, none⟩)) := (Below.heap_setCell _ ⟨b + 2, 2, none⟩ _ b (by show b ≠ b + 2; omega)).trans ((Below.heap_setCell _ ⟨b + 2, 1, none⟩ _ b (by show b ≠ b + 2; omega)).trans q0')
  have h5w := ((H5.out.far (p := ⟨b + 2, 0, none⟩) (by show r ≠ b + 2; omega) (.bool true)).far (p := ⟨b + 2, 1, none⟩) (by show r ≠ b + 2; omega) (.string ⟨#[]⟩)).far (p := ⟨b + 2, 2, none⟩) (by show r ≠ b + 2; omega) (.slice A n c)
  have hKw := ((((KeepsOthers.setCell W ⟨b + 2, 0, none⟩ (.bool true)).trans (KeepsOthers.setCell _ ⟨b + 2, 1, none⟩ (.string ⟨#[]⟩))).trans (KeepsOthers.setCell _ ⟨b + 2, 2, none⟩ (.slice A n c))).same D _ HK.out rfl)
  refine items_leave hk hrl HD.out rfl q0w q2' h5w hKw fun W' hbr hkw => ?_
  refine items_close HB.out hrl HD.out H1.out HK.out HE.out ⟨hkw.os, hkw.tape, hkw.output, by simpa [World.setCell] using hkw.size, fun j hj => (hkw.block j ⟨hj.1, hj.2.1⟩).trans ?_⟩ hbr
  exact (Below.heap_setCell _ ⟨b + 2, 2, none⟩ _ j hj.2.2).trans ((Below.heap_setCell _ ⟨b + 2, 1, none⟩ _ j hj.2.2).trans (Below.heap_setCell _ ⟨b + 2, 0, none⟩ _ j hj.2.2))
 case stop =>
  rintro D cd W hD ⟨rfl, h1, E, A, n, c, hE, h4, h5, h6⟩ hK
  have HEE : (E = 0 ∧ IOk (itemF k s.data.toList) s.size F b (.slice A n c) 0 0 W ∧ 0 ≤ 512 ∧ (s.size : Int) ≤ 0) ∨ (E ≠ 0 ∧ itemsF (itemF k s.data.toList) s.size 513 0 F = .error E) := .inr ⟨hE, h6⟩
  have c0 := h4.cell 0; have c1 := h4.cell 1; have c2 := h4.cell 2
  have d0 := h1.q2.cell 0; have d1 := h1.q2.cell 1; have d2 := h1.q2.cell 2
  have f0 := h1.q2.frozen 0; have f1 := h1.q2.frozen 1; have f2 := h1.q2.frozen 2
  simp only [List.getElem?_toArray, List.getElem?_cons_zero, List.getElem?_cons_succ] at c0 c1 c2 d0 d1 d2
  have hDW : b + 8 ≤ D := by have := HZ.out; omega
  have HD := Lib.hid hDW
  have H1 := Lib.hid h1; have H5 := Lib.hid h5; have HE := Lib.hid HEE; have HK := Lib.hid hK
  have q2' := blk_set3 h1.q2 (.bool true) (.string ⟨#[]⟩) (.slice A n c)
  have q0' := ((h1.q0.other (B' := b + 2) (by omega) (.bool true)))
  clear h4 h5 h1 hK hI0 hD hDW h6 hE
  gi_wp2
  have q0w : Boxed (((W.setCell ⟨b + 2, 0, none⟩ (.bool true)).setCell ⟨b + 2, 1, none⟩ (.string ⟨#[]⟩)).setCell ⟨b + 2, 2, none⟩ (.slice A n c)) b 191 (.pointer (some ⟨r, 0, none⟩)) := (Below.heap_setCell _ ⟨b + 2, 2, none⟩ _ b (by show b ≠ b + 2; omega)).trans ((Below.heap_setCell _ ⟨b + 2, 1, none⟩ _ b (by show b ≠ b + 2; omega)).trans q0')
  have h5w := ((H5.out.far (p := ⟨b + 2, 0, none⟩) (by show r ≠ b + 2; omega) (.bool true)).far (p := ⟨b + 2, 1, none⟩) (by show r ≠ b + 2; omega) (.string ⟨#[]⟩)).far (p := ⟨b + 2, 2, none⟩) (by show r ≠ b + 2; omega) (.slice A n c)
  have hKw := ((((KeepsOthers.setCell W ⟨b + 2, 0, none⟩ (.bool true)).trans (KeepsOthers.setCell _ ⟨b + 2, 1, none⟩ (.string ⟨#[]⟩))).trans (KeepsOthers.setCell _ ⟨b + 2, 2, none⟩ (.slice A n c))).same D _ HK.out rfl)
  refine items_leave hk hrl HD.out rfl q0w q2' h5w hKw fun W' hbr hkw => ?_
  refine items_close HB.out hrl HD.out H1.out HK.out HE.out ⟨hkw.os, hkw.tape, hkw.output, by simpa [World.setCell] using hkw.size, fun j hj => (hkw.block j ⟨hj.1, hj.2.1⟩).trans ?_⟩ hbr
  exact (Below.heap_setCell _ ⟨b + 2, 2, none⟩ _ j hj.2.2).trans ((Below.heap_setCell _ ⟨b + 2, 1, none⟩ _ j hj.2.2).trans (Below.heap_setCell _ ⟨b + 2, 0, none⟩ _ j hj.2.2))
theorem item_err {k : Nat} {l : List UInt8} {a : Nat} (h1 : ¬ (a < l.length ∧ 192 ≤ headC l a ∧ k = 0)) (he : lookE l (a : Int) ≠ 0) : itemF k l a = .error (lookE l (a : Int)) := by
 cases k with
 | zero => show itemG none l a = _; unfold itemG; rw [if_neg (by rintro ⟨x, y, _⟩; exact h1 ⟨x, y, rfl⟩), if_pos he]
 | succ k' => show itemG (some (itemF k')) l a = _; unfold itemG; rw [if_neg (by rintro ⟨_, _, x⟩; cases x), if_pos he]
theorem item_bytes {k : Nat} {l : List UInt8} {a : Nat} (h1 : ¬ (a < l.length ∧ 192 ≤ headC l a ∧ k = 0)) (he : lookE l (a : Int) = 0) (hl : lookL l (a : Int) = false) : itemF k l a = .ok (.mk false ⟨((l.drop (lookFrom l a)).take (lookN l a)).toArray⟩ [], lookFrom l a + lookN l a) := by
 cases k with
 | zero => show itemG none l a = _; unfold itemG; rw [if_neg (by rintro ⟨x, y, _⟩; exact h1 ⟨x, y, rfl⟩), if_neg (by simpa using he), if_pos hl]
 | succ k' => show itemG (some (itemF k')) l a = _; unfold itemG; rw [if_neg (by rintro ⟨_, _, x⟩; cases x), if_neg (by simpa using he), if_pos hl]
theorem item_list {k : Nat} {l : List UInt8} {a : Nat} (he : lookE l (a : Int) = 0) (hl : lookL l (a : Int) = true) : itemF (k + 1) l a = match itemsF (itemF k (l.take (lookFrom l a + lookN l a))) (lookFrom l a + lookN l a) 513 0 (lookFrom l a) with
  | .error e => .error e
  | .ok xs => .ok (.mk true .empty xs, lookFrom l a + lookN l a) := by
 show itemG (some (itemF k)) l a = _; unfold itemG; rw [if_neg (by rintro ⟨_, _, x⟩; cases x), if_neg (by simpa using he), if_neg (by rw [hl]; decide)]
 rfl
theorem set_grown (W : World) (r i : Nat) (v : Value) : W.grownBy (W.setCell ⟨r, i, none⟩ v) (some r) :=
 ⟨rfl, rfl, rfl, by simp [World.setCell], fun g _ h => Below.heap_setCell W ⟨r, i, none⟩ v g (by simpa using h)⟩
theorem guard_no {s : ByteArray} {a k : Nat} (ha : a ≤ s.size) (h : ¬ (a < s.size ∧ 192 ≤ headC s.data.toList a ∧ k = 0)) :
  (decide ((a : Int) < (s.size : Int)) = false ∧ decide (a < s.size) = false) ∨
  (((a : Int) < (s.size : Int)) ∧ (∀ V, (Instr.index 9 (.string s) (.int .i64 (a : Int))).run Tryz.prog V = .ok (.int .u8 ((headC s.data.toList a : Nat) : Int)) V) ∧ decide ((192 : Int) ≤ ((headC s.data.toList a : Nat) : Int)) = false) ∨
  (((a : Int) < (s.size : Int)) ∧ (∀ V, (Instr.index 9 (.string s) (.int .i64 (a : Int))).run Tryz.prog V = .ok (.int .u8 ((headC s.data.toList a : Nat) : Int)) V) ∧ decide ((192 : Int) ≤ ((headC s.data.toList a : Nat) : Int)) = true ∧ decide ((12 : Int) ≤ ((12 - k : Nat) : Int)) = false) := by
 have hlz : s.data.toList.length = s.size := ba_len s
 by_cases h1 : a < s.size
 ·have hid := fun V => idx_str s a (s.data.toList.getD a 0) (at_getD 0 (by omega)) V
  change ∀ V, (Instr.index 9 (.string s) (.int .i64 (a : Int))).run Tryz.prog V = .ok (.int .u8 ((headC s.data.toList a : Nat) : Int)) V at hid
  by_cases h2 : 192 ≤ headC s.data.toList a
  ·exact .inr (.inr ⟨by omega, hid, decide_eq_true (by omega), decide_eq_false (by omega)⟩)
  ·exact .inr (.inl ⟨by omega, hid, decide_eq_false (by omega)⟩)
 ·exact .inl ⟨decide_eq_false (by omega), decide_eq_false h1⟩
theorem item_bad (k : Nat) (s : ByteArray) (a r : Nat) (W : World) (hs : s.size ≤ 65536) (ha : a ≤ s.size) (hr : Blk W r 193 #[.int .i64 ((12 - k : Nat) : Int), .int .i64 0])
  (h1 : ¬ (a < s.size ∧ 192 ≤ headC s.data.toList a ∧ k = 0)) (he : lookE s.data.toList (a : Int) ≠ 0) :
  Calls Tryz.prog 154 #[.pointer (some ⟨r, 0, none⟩), .string s, .int .i64 (a : Int)] W fun e W1 => ∃ l b sA sn sc tq, e = .returned (.tuple #[.agg #[.bool l, .string b, .slice sA sn sc], .int .i64 tq]) ∧ W.grownBy W1 (some r) ∧ ItemTail k s.data.toList a r W l b (.slice sA sn sc) tq W1 := by
 have hlz : s.data.toList.length = s.size := ba_len s
 have hlk := fun V => look_any s (a : Int) (by omega) V
 have hrl := hr.lt
 have hG := guard_no ha h1
 have hi := item_err (k := k) (by rw [hlz]; exact h1) he
 obtain ⟨b1, b2, b3⟩ := look_bad rfl he
 rw [b1, b2, b3] at hlk
 have HI := Lib.hid hi
 have hxA := Blk.new W 106 #[.bool false, .string ⟨#[]⟩, .slice none 0 0]
 have hrA := hr.alloc (.cells #[.bool false, .string ⟨#[]⟩, .slice none 0 0] 106)
 have hGA : W.grownBy (W.alloc (.cells #[.bool false, .string ⟨#[]⟩, .slice none 0 0] 106)) none := only_alloc (World.grownBy.refl _ _) _
 have k1 := (hr.alloc (.cells #[.bool false, .string ⟨#[]⟩, .slice none 0 0] 106)).cell 0
 simp only [List.getElem?_toArray, List.getElem?_cons_zero] at k1
 clear hi b1 b2 b3 h1 hlz
 generalize lookE s.data.toList (a : Int) = E at *
 generalize headC s.data.toList a = c at *
 have e1 : (E != 0) = true := by simpa using he
 have HE := Lib.hid he
 clear he
 rcases hG with ⟨d1, d1'⟩ | ⟨d1, hid, d2⟩ | ⟨d1, hid, d2, d3⟩
 all_goals
  go_enter Tryz.func154, Tryz.ntmps154
  go_wp2_with fail
  refine (hlk _).mono ?_
  rintro e w2 ⟨rfl, hg⟩
  have y0 := hxA.grown hg (by simp)
  have y1 := hrA.grown hg (by simp)
  have hG2 := only_weak (grown_self hGA hg (by simp)) (some r)
  have z0 := y0.alloc (.cells #[.int .i64 0, .int .i64 0, .bool false] 188)
  have z1 := y1.alloc (.cells #[.int .i64 0, .int .i64 0, .bool false] 188)
  have hG3 := only_alloc hG2 (.cells #[.int .i64 0, .int .i64 0, .bool false] 188)
  clear hxA hrA hGA hg hlk hG2 y0 y1 k1 hr
  go_upto_region 6 with (fail)
  generalize w2.alloc (.cells #[.int .i64 0, .int .i64 0, .bool false] 188) = w3 at *
  have r1 := z1.cell 1; have rf := z1.frozen 1
  have t0 := z0.far (p := ⟨r, 1, none⟩) (by show W.heap.size ≠ r; omega) (.int .i64 E)
  have t1 := z1.set_ 1 (.int .i64 E)
  have tG : W.grownBy (w3.setCell ⟨r, 1, none⟩ (.int .i64 E)) (some r) := grown_self hG3 (set_grown w3 r 1 (.int .i64 E)) (fun q e => .inl e)
  simp only [List.setIfInBounds_toArray, List.set_cons_zero, List.set_cons_succ, List.getElem?_toArray, List.getElem?_cons_zero, List.getElem?_cons_succ] at t1 r1
  clear z0 z1 hG3
  go_upto_region 7 with (fail)
  clear r1 rf
  generalize w3.setCell ⟨r, 1, none⟩ (.int .i64 E) = w4 at *
  have c0 := t0.cell 0; have c1 := t0.cell 1; have c2 := t0.cell 2
  have f0 := t0.frozen 0; have f1 := t0.frozen 1; have f2 := t0.frozen 2
  simp only [List.getElem?_toArray, List.getElem?_cons_zero, List.getElem?_cons_succ] at c0 c1 c2
  have t2 := blk_set3 t0 (.bool false) (.string ⟨#[]⟩) (.slice none 0 0)
  have t3 := ((t1.far (p := ⟨W.heap.size, 0, none⟩) (by show r ≠ W.heap.size; omega) (.bool false)).far (p := ⟨W.heap.size, 1, none⟩) (by show r ≠ W.heap.size; omega) (.string ⟨#[]⟩)).far (p := ⟨W.heap.size, 2, none⟩) (by show r ≠ W.heap.size; omega) (.slice none 0 0)
  have t4 := only_set3 tG (g := W.heap.size) (Nat.le_refl _) (.bool false) (.string ⟨#[]⟩) (.slice none 0 0)
  have T2 := Lib.hid t2; have T3 := Lib.hid t3; have T4 := Lib.hid t4
  clear t0 t1 t2 t3 t4 tG
  go_wp2_with fail
  refine bodyPost_ret (results_ct (fn := Tryz.f154) rfl _ _ _ _ rfl (load_item T2.out)) rfl ?_
  exact ⟨false, ⟨#[]⟩, none, 0, 0, (a : Int), rfl, T4.out, .inr ⟨E, HI.out, HE.out, T3.out⟩⟩
theorem item_deep (s : ByteArray) (a r : Nat) (W : World) (hs : s.size ≤ 65536) (h2 : a < s.size) (h3 : 192 ≤ headC s.data.toList a) (hr : Blk W r 193 #[.int .i64 ((12 - 0 : Nat) : Int), .int .i64 0]) :
  Calls Tryz.prog 154 #[.pointer (some ⟨r, 0, none⟩), .string s, .int .i64 (a : Int)] W fun e W1 => ∃ l b sA sn sc tq, e = .returned (.tuple #[.agg #[.bool l, .string b, .slice sA sn sc], .int .i64 tq]) ∧ W.grownBy W1 (some r) ∧ ItemTail 0 s.data.toList a r W l b (.slice sA sn sc) tq W1 := by
 have hlz : s.data.toList.length = s.size := ba_len s
 have hr0 := hr.cell 0; have hr1 := hr.cell 1; have hf1 := hr.frozen 1
 simp only [List.getElem?_toArray, List.getElem?_cons_zero, List.getElem?_cons_succ] at hr0 hr1
 have hrl := hr.lt
 have hi : itemF 0 s.data.toList a = .error 7 := by
  show itemG none s.data.toList a = .error 7
  unfold itemG; rw [if_pos ⟨by omega, h3, rfl⟩]
 have hid := fun V => idx_str s a (s.data.toList.getD a 0) (at_getD 0 (by omega)) V
 change ∀ V, (Instr.index 9 (.string s) (.int .i64 (a : Int))).run Tryz.prog V = .ok (.int .u8 ((headC s.data.toList a : Nat) : Int)) V at hid
 have HI := Lib.hid hi
 generalize headC s.data.toList a = c at *
 have d1 : (a : Int) < (s.size : Int) := by omega
 have d2 : (192 : Int) ≤ (c : Int) := by omega
 clear hi
 go_enter Tryz.func154, Tryz.ntmps154
 go_wp2_with fail
 have hxb := Blk.new (W.setCell ⟨r, 1, none⟩ (.int .i64 7)) 106 #[.bool false, .string ⟨#[]⟩, .slice none 0 0]
 rw [show (W.setCell ⟨r, 1, none⟩ (.int .i64 7)).heap.size = W.heap.size by simp [World.setCell]] at hxb
 have hrx := (hr.set_ 1 (.int .i64 7)).alloc (.cells #[.bool false, .string ⟨#[]⟩, .slice none 0 0] 106)
 simp only [List.setIfInBounds_toArray, List.set_cons_zero, List.set_cons_succ] at hrx
 have hgx := only_alloc (set_grown W r 1 (.int .i64 7)) (.cells #[.bool false, .string ⟨#[]⟩, .slice none 0 0] 106)
 refine bodyPost_ret (results_ct (fn := Tryz.f154) rfl _ _ _ _ rfl (load_item hxb)) rfl ?_
 exact ⟨false, ⟨#[]⟩, none, 0, 0, (a : Int), rfl, hgx, .inr ⟨7, HI.out, by decide, hrx⟩⟩
theorem ba_ext' {s : ByteArray} {F N : Nat} : s.extract F (F + N) = ⟨((s.data.toList.drop F).take N).toArray⟩ := by
 apply ByteArray.ext
 apply Array.ext'
 rw [Lib.extract_data]
 simp
theorem no_items (S : Nat → Prop) (W : World) (c : Nat) : SubV S W [] (.slice none 0 c) := .mk [] none c [] (fun h => by cases h) (fun i h => by cases h)
theorem item_txt (k : Nat) (s : ByteArray) (a r : Nat) (W : World) (hs : s.size ≤ 65536) (ha : a ≤ s.size) (hr : Blk W r 193 #[.int .i64 ((12 - k : Nat) : Int), .int .i64 0])
  (h1 : ¬ (a < s.size ∧ 192 ≤ headC s.data.toList a ∧ k = 0)) (he : lookE s.data.toList (a : Int) = 0) (hl : lookL s.data.toList (a : Int) = false) :
  Calls Tryz.prog 154 #[.pointer (some ⟨r, 0, none⟩), .string s, .int .i64 (a : Int)] W fun e W1 => ∃ l b sA sn sc tq, e = .returned (.tuple #[.agg #[.bool l, .string b, .slice sA sn sc], .int .i64 tq]) ∧ W.grownBy W1 (some r) ∧ ItemTail k s.data.toList a r W l b (.slice sA sn sc) tq W1 := by
 have hlz : s.data.toList.length = s.size := ba_len s
 have hlk := fun V => look_any s (a : Int) (by omega) V
 have hrl := hr.lt
 have hG := guard_no ha h1
 have hi := item_bytes (k := k) (by rw [hlz]; exact h1) he hl
 obtain ⟨b0, b1, _⟩ := look_ok he
 rw [hl, he] at hlk
 have HI := Lib.hid hi
 have hxA := Blk.new W 106 #[.bool false, .string ⟨#[]⟩, .slice none 0 0]
 have hrA := hr.alloc (.cells #[.bool false, .string ⟨#[]⟩, .slice none 0 0] 106)
 have hGA : W.grownBy (W.alloc (.cells #[.bool false, .string ⟨#[]⟩, .slice none 0 0] 106)) none := only_alloc (World.grownBy.refl _ _) _
 have k1 := (hr.alloc (.cells #[.bool false, .string ⟨#[]⟩, .slice none 0 0] 106)).cell 0
 simp only [List.getElem?_toArray, List.getElem?_cons_zero] at k1
 rw [hlz] at b1
 clear hi h1 hlz he hl
 generalize lookFrom s.data.toList (a : Int) = F at *
 generalize lookN s.data.toList (a : Int) = N at *
 generalize headC s.data.toList a = c at *
 have v1 : IntKind.i64.wrap ((F : Int) + (N : Int)) = (F : Int) + (N : Int) := IntWalk.i64_in _ (by omega)
 rcases hG with ⟨d1, d1'⟩ | ⟨d1, hid, d2⟩ | ⟨d1, hid, d2, d3⟩
 all_goals
  go_enter Tryz.func154, Tryz.ntmps154
  go_wp2_with fail
  refine (hlk _).mono ?_
  rintro e w2 ⟨rfl, hg⟩
  have y0 := hxA.grown hg (by simp)
  have y1 := hrA.grown hg (by simp)
  have hG2 := only_weak (grown_self hGA hg (by simp)) (some r)
  have z0 := y0.alloc (.cells #[.int .i64 (F : Int), .int .i64 (N : Int), .bool false] 188)
  have z1 := y1.alloc (.cells #[.int .i64 (F : Int), .int .i64 (N : Int), .bool false] 188)
  have z2 := Blk.new w2 188 #[.int .i64 (F : Int), .int .i64 (N : Int), .bool false]
  have hG3 := only_alloc hG2 (.cells #[.int .i64 (F : Int), .int .i64 (N : Int), .bool false] 188)
  clear hxA hrA hGA hg hlk hG2 y0 y1 k1 hr
  go_upto_region 8 with (fail)
  generalize w2.alloc (.cells #[.int .i64 (F : Int), .int .i64 (N : Int), .bool false] 188) = w3 at *
  have r0 := z2.cell 0; have r1 := z2.cell 1; have r2 := z2.cell 2
  have c0 := z0.cell 0; have c1 := z0.cell 1; have c2 := z0.cell 2
  have f0 := z0.frozen 0; have f1 := z0.frozen 1; have f2 := z0.frozen 2
  simp only [List.getElem?_toArray, List.getElem?_cons_zero, List.getElem?_cons_succ] at r0 r1 r2 c0 c1 c2
  have t2 := blk_set3 z0 (.bool false) (.string (s.extract F (F + N))) (.slice none 0 0)
  have t3 := ((z1.far (p := ⟨W.heap.size, 0, none⟩) (by show r ≠ W.heap.size; omega) (.bool false)).far (p := ⟨W.heap.size, 1, none⟩) (by show r ≠ W.heap.size; omega) (.string (s.extract F (F + N)))).far (p := ⟨W.heap.size, 2, none⟩) (by show r ≠ W.heap.size; omega) (.slice none 0 0)
  have t4 := only_set3 hG3 (g := W.heap.size) (Nat.le_refl _) (.bool false) (.string (s.extract F (F + N))) (.slice none 0 0)
  have T2 := Lib.hid t2; have T3 := Lib.hid t3; have T4 := Lib.hid t4
  clear z0 z1 z2 hG3 t2 t3 t4
  go_wp2_with fail
  refine bodyPost_ret (results_ct (fn := Tryz.f154) rfl _ _ _ _ rfl (load_item T2.out)) rfl ?_
  exact ⟨false, s.extract F (F + N), none, 0, 0, ((F : Int) + (N : Int)), rfl, T4.out, .inl ⟨_, _, HI.out, by simp, rfl, by rw [ba_ext']; rfl, T3.out, no_items _ _ _⟩⟩

structure AccV where
 addr : ByteArray
 keys : List ByteArray
deriving DecidableEq
def AccV.none_ : AccV := ⟨⟨#[]⟩, []⟩
structure AutV where
 chain : Nat
 addr : ByteArray
 nonce : Nat
 y : Nat
 r : Nat
 s : Nat
deriving DecidableEq
def AutV.none_ : AutV := ⟨0, ⟨#[]⟩, 0, 0, 0, 0⟩
structure AutV.Ok (t : AutV) : Prop where
 chain : t.chain < 18446744073709551616
 nonce : t.nonce < 18446744073709551616
 y : t.y < 18446744073709551616
 r : t.r < 115792089237316195423570985008687907853269984665640564039457584007913129639936
 s : t.s < 115792089237316195423570985008687907853269984665640564039457584007913129639936
def autL (t : AutV) : List Value :=
 [.int .u64 (t.chain : Int), .string t.addr, .int .u64 (t.nonce : Int), .int .u64 (t.y : Int),
  .int .u64 (wp t.r 0 : Nat), .int .u64 (wp t.r 1 : Nat), .int .u64 (wp t.r 2 : Nat), .int .u64 (wp t.r 3 : Nat),
  .int .u64 (wp t.s 0 : Nat), .int .u64 (wp t.s 1 : Nat), .int .u64 (wp t.s 2 : Nat), .int .u64 (wp t.s 3 : Nat)]
structure TxV where
 kind : Int
 chain : Nat
 nonce : Nat
 tip : Nat
 price : Nat
 gas : Nat
 dst : ByteArray
 value : Nat
 data : ByteArray
 acc : List AccV
 auths : List AutV
 y : Nat
 r : Nat
 s : Nat
 source : ByteArray
 frm : ByteArray
 mint : Nat
 system : Bool
deriving DecidableEq
def TxV.zero : TxV := ⟨0, 0, 0, 0, 0, 0, ⟨#[]⟩, 0, ⟨#[]⟩, [], [], 0, 0, 0, ⟨#[]⟩, ⟨#[]⟩, 0, false⟩
structure TxV.Ok (t : TxV) : Prop where
 chain : t.chain < 18446744073709551616
 nonce : t.nonce < 18446744073709551616
 tip : t.tip < 115792089237316195423570985008687907853269984665640564039457584007913129639936
 price : t.price < 115792089237316195423570985008687907853269984665640564039457584007913129639936
 gas : t.gas < 18446744073709551616
 value : t.value < 115792089237316195423570985008687907853269984665640564039457584007913129639936
 y : t.y < 18446744073709551616
 r : t.r < 115792089237316195423570985008687907853269984665640564039457584007913129639936
 s : t.s < 115792089237316195423570985008687907853269984665640564039457584007913129639936
 mint : t.mint < 115792089237316195423570985008687907853269984665640564039457584007913129639936
 auths : ∀ a ∈ t.auths, a.Ok
def txL (t : TxV) (sa sb : Value) : List Value :=
 [.int .i64 t.kind, .int .u64 (t.chain : Int), .int .u64 (t.nonce : Int),
  .int .u64 (wp t.tip 0 : Nat), .int .u64 (wp t.tip 1 : Nat), .int .u64 (wp t.tip 2 : Nat), .int .u64 (wp t.tip 3 : Nat),
  .int .u64 (wp t.price 0 : Nat), .int .u64 (wp t.price 1 : Nat), .int .u64 (wp t.price 2 : Nat), .int .u64 (wp t.price 3 : Nat),
  .int .u64 (t.gas : Int), .string t.dst,
  .int .u64 (wp t.value 0 : Nat), .int .u64 (wp t.value 1 : Nat), .int .u64 (wp t.value 2 : Nat), .int .u64 (wp t.value 3 : Nat),
  .string t.data, sa, sb, .int .u64 (t.y : Int),
  .int .u64 (wp t.r 0 : Nat), .int .u64 (wp t.r 1 : Nat), .int .u64 (wp t.r 2 : Nat), .int .u64 (wp t.r 3 : Nat),
  .int .u64 (wp t.s 0 : Nat), .int .u64 (wp t.s 1 : Nat), .int .u64 (wp t.s 2 : Nat), .int .u64 (wp t.s 3 : Nat),
  .string t.source, .string t.frm,
  .int .u64 (wp t.mint 0 : Nat), .int .u64 (wp t.mint 1 : Nat), .int .u64 (wp t.mint 2 : Nat), .int .u64 (wp t.mint 3 : Nat),
  .bool t.system]
def txC (t : TxV) (sa sb : Value) : Array Value := (txL t sa sb).toArray
theorem txC_one (t : TxV) (A A' : Option Addr) (n c n' c' : Nat) : ((txC t (.slice A n c) (.slice A' n' c')).all fun x => x.oneCell') = true := by unfold txC txL; simp [Value.oneCell']
def AccR (B : Nat) (W : World) (ls : List AccV) (A : Option Addr) (n : Nat) : Prop :=
 ls.length = n ∧ (0 < n → ∃ g off, A = some ⟨g, off, none⟩ ∧ g < B ∧ ∀ i, i < n → ∃ T tc, W.cell? ⟨g, off + i * 2, none⟩ = some (.string (ls.getD i AccV.none_).addr) ∧ W.cell? ⟨g, off + i * 2 + 1, none⟩ = some (.slice T (ls.getD i AccV.none_).keys.length tc) ∧
  Reads W B 1 T (ls.getD i AccV.none_).keys.length ((ls.getD i AccV.none_).keys.map Value.string) ∧ (ls.getD i AccV.none_).keys.length ≤ 9223372036854775807)
theorem AccR.grown {B : Nat} {W W' : World} {ls : List AccV} {A : Option Addr} {n : Nat} (h : AccR B W ls A n) (hg : W.grownBy W' none) (hB : B ≤ W.heap.size) : AccR B W' ls A n := by
 refine ⟨h.1, fun h0 => ?_⟩
 obtain ⟨g, off, h1, h2, h3⟩ := h.2 h0
 refine ⟨g, off, h1, h2, fun i hi => ?_⟩
 obtain ⟨T, tc, a, b, c, d⟩ := h3 i hi
 exact ⟨T, tc, hg.cell a (by simp), hg.cell b (by simp), c.grown hg hB (by simp), d⟩
theorem AccR.at_ {B : Nat} {W : World} {ls : List AccV} {A : Option Addr} {n k : Nat} (h : AccR B W ls A n) (hk : k < n) : ∃ g off T tc x, A = some ⟨g, off, none⟩ ∧ ls.getD k AccV.none_ = x ∧ x ∈ ls ∧ W.cell? ⟨g, off + k * 2, none⟩ = some (.string x.addr) ∧ W.cell? ⟨g, off + k * 2 + 1, none⟩ = some (.slice T x.keys.length tc) ∧ Reads W B 1 T x.keys.length (x.keys.map Value.string) ∧ x.keys.length ≤ 9223372036854775807 := by
 obtain ⟨g, off, hA, _, hc⟩ := h.2 (by omega)
 obtain ⟨T, tc, a, b, c, d⟩ := hc k hk
 refine ⟨g, off, T, tc, _, hA, rfl, ?_, a, b, c, d⟩
 rw [List.getD_eq_getElem?_getD, List.getElem?_eq_getElem (by rw [h.1]; exact hk)]
 exact List.getElem_mem _
theorem AccR.nil (B : Nat) (W : World) (A : Option Addr) : AccR B W [] A 0 := ⟨rfl, fun h => by omega⟩
def AutR (B : Nat) (W : World) (ls : List AutV) (A : Option Addr) (n : Nat) : Prop :=
 ls.length = n ∧ (0 < n → ∃ g off, A = some ⟨g, off, none⟩ ∧ g < B ∧ ∀ i, i < n → W.rangeAt g (off + i * 12) (autL (ls.getD i AutV.none_)))
theorem rangeAt_grown {W W' : World} {g o : Nat} {cs : List Value} (h : W.rangeAt g o cs) (hg : W.grownBy W' none) : W'.rangeAt g o cs := fun j v hv => hg.cell (h j v hv) (by simp)
theorem AutR.grown {B : Nat} {W W' : World} {ls : List AutV} {A : Option Addr} {n : Nat} (h : AutR B W ls A n) (hg : W.grownBy W' none) : AutR B W' ls A n := by
 refine ⟨h.1, fun h0 => ?_⟩
 obtain ⟨g, off, h1, h2, h3⟩ := h.2 h0
 exact ⟨g, off, h1, h2, fun i hi => rangeAt_grown (h3 i hi) hg⟩
theorem AutR.at_ {B : Nat} {W : World} {ls : List AutV} {A : Option Addr} {n k : Nat} (h : AutR B W ls A n) (hk : k < n) : ∃ g off x, A = some ⟨g, off, none⟩ ∧ ls.getD k AutV.none_ = x ∧ x ∈ ls ∧ W.rangeAt g (off + k * 12) (autL x) := by
 obtain ⟨g, off, hA, _, hc⟩ := h.2 (by omega)
 refine ⟨g, off, _, hA, rfl, ?_, hc k hk⟩
 rw [List.getD_eq_getElem?_getD, List.getElem?_eq_getElem (by rw [h.1]; exact hk)]
 exact List.getElem_mem _
theorem AutR.nil (B : Nat) (W : World) (A : Option Addr) : AutR B W [] A 0 := ⟨rfl, fun h => by omega⟩
structure TxIn (B : Nat) (W : World) (t : TxV) (sa sb : Value) : Prop where
 acc : ∃ A c, sa = .slice A t.acc.length c ∧ AccR B W t.acc A t.acc.length
 aut : ∃ A c, sb = .slice A t.auths.length c ∧ AutR B W t.auths A t.auths.length
 la : t.acc.length ≤ 9223372036854775807
 lb : t.auths.length ≤ 9223372036854775807
theorem TxIn.grown {B : Nat} {W W' : World} {t : TxV} {sa sb : Value} (h : TxIn B W t sa sb) (hg : W.grownBy W' none) (hB : B ≤ W.heap.size) : TxIn B W' t sa sb := by
 obtain ⟨⟨A, c, h1, h2⟩, ⟨A', c', h3, h4⟩, h5, h6⟩ := h
 exact ⟨⟨A, c, h1, h2.grown hg hB⟩, ⟨A', c', h3, h4.grown hg⟩, h5, h6⟩
def TxsR (B : Nat) (W : World) (ls : List TxV) (A : Option Addr) (n : Nat) : Prop :=
 ls.length = n ∧ (0 < n → ∃ g off, A = some ⟨g, off, none⟩ ∧ g < B ∧ ∀ i, i < n → ∃ sa sb, W.rangeAt g (off + i * 36) (txL (ls.getD i TxV.zero) sa sb) ∧ TxIn B W (ls.getD i TxV.zero) sa sb)
theorem TxsR.grown {B : Nat} {W W' : World} {ls : List TxV} {A : Option Addr} {n : Nat} (h : TxsR B W ls A n) (hg : W.grownBy W' none) (hB : B ≤ W.heap.size) : TxsR B W' ls A n := by
 refine ⟨h.1, fun h0 => ?_⟩
 obtain ⟨g, off, h1, h2, h3⟩ := h.2 h0
 refine ⟨g, off, h1, h2, fun i hi => ?_⟩
 obtain ⟨sa, sb, a, b⟩ := h3 i hi
 exact ⟨sa, sb, rangeAt_grown a hg, b.grown hg hB⟩
theorem TxsR.at_ {B : Nat} {W : World} {ls : List TxV} {A : Option Addr} {n k : Nat} (h : TxsR B W ls A n) (hk : k < n) : ∃ g off sa sb x, A = some ⟨g, off, none⟩ ∧ ls.getD k TxV.zero = x ∧ x ∈ ls ∧ W.rangeAt g (off + k * 36) (txL x sa sb) ∧ TxIn B W x sa sb := by
 obtain ⟨g, off, hA, _, hc⟩ := h.2 (by omega)
 obtain ⟨sa, sb, a, b⟩ := hc k hk
 refine ⟨g, off, sa, sb, _, hA, rfl, ?_, a, b⟩
 rw [List.getD_eq_getElem?_getD, List.getElem?_eq_getElem (by rw [h.1]; exact hk)]
 exact List.getElem_mem _
theorem wp_ext {a b : Nat} (ha : a < 115792089237316195423570985008687907853269984665640564039457584007913129639936) (hb : b < 115792089237316195423570985008687907853269984665640564039457584007913129639936) (h : ∀ q, q < 4 → wp a q = wp b q) : a = b := by
 rw [← wp_join a (by simpa using ha), ← wp_join b (by simpa using hb), h 0 (by omega), h 1 (by omega), h 2 (by omega), h 3 (by omega)]
def wordV (a : Nat) : Value := .agg #[.int .u64 (wp a 0 : Nat), .int .u64 (wp a 1 : Nat), .int .u64 (wp a 2 : Nat), .int .u64 (wp a 3 : Nat)]
theorem eq_wordN (d : Nat) {a b : Nat} (ha : a < 115792089237316195423570985008687907853269984665640564039457584007913129639936) (hb : b < 115792089237316195423570985008687907853269984665640564039457584007913129639936) (w : World) : (Op.equalIn (d + 2) 38 (wordV a) (wordV b)).run Tryz.prog w = .ok (decide (a = b)) w := by
 have := run_equalIn_words (P := Tryz.prog) w d 38 23 4 (by kernel_rfl) (by kernel_rfl) size_u64w [wp a 0, wp a 1, wp a 2, wp a 3] [wp b 0, wp b 1, wp b 2, wp b 3] rfl rfl
 have e : ([wp a 0, wp a 1, wp a 2, wp a 3] == [wp b 0, wp b 1, wp b 2, wp b 3]) = decide (a = b) := by
  by_cases h : a = b
  ·subst h; simp
  ·rw [decide_eq_false h]
   simp only [beq_eq_false_iff_ne, ne_eq]
   intro e
   simp only [List.cons.injEq, and_true] at e
   refine h (wp_ext ha hb fun q hq => ?_)
   match q, hq with
   | 0, _ => exact e.1
   | 1, _ => exact e.2.1
   | 2, _ => exact e.2.2.1
   | 3, _ => exact e.2.2.2
 rw [e] at this
 exact this
theorem eqFields_cons {P : Program} {w : World} {d : Nat} {xs ys : Array Value} {f : Field} {fs : List Field} {a b : Value} {r R : Bool} (hn : f.name ≠ "_") (ha : (part f.type xs f.offset).run P w = .ok a w) (hb : (part f.type ys f.offset).run P w = .ok b w)
  (he : (Op.equalIn d f.type a b).run P w = .ok r w) (hR : (Op.eqFields d xs ys fs).run P w = .ok R w) : (Op.eqFields d xs ys (f :: fs)).run P w = .ok (r && R) w := by
 simp only [Op.eqFields, Sem.run_bind, Sem.run_ite, if_pos hn, ha, hb, he, Result.andThen_ok]
 cases r
 ·simp
 ·simpa using hR
theorem beq_nat (a b : Nat) : ((a : Int) == (b : Int)) = decide (a = b) := by
 by_cases h : a = b
 ·subst h; simp
 ·rw [decide_eq_false h]; simp; omega
theorem beq_int (a b : Int) : (a == b) = decide (a = b) := by
 by_cases h : a = b
 ·subst h; simp
 ·rw [decide_eq_false h]; simpa using h
theorem beq_str (a b : ByteArray) : (a.toList == b.toList) = decide (a = b) := by
 by_cases h : a = b
 ·subst h; simp
 ·rw [decide_eq_false h]; exact str_ne h
theorem beq_boo (a b : Bool) : (a == b) = decide (a = b) := by cases a <;> cases b <;> rfl
def restC (t : TxV) : Array Value := #[.int .i64 t.kind, .int .u64 (t.chain : Int), .int .u64 (t.nonce : Int), .int .u64 (t.gas : Int), .int .u64 (t.y : Int), .int .u64 (wp t.tip 0 : Nat), .int .u64 (wp t.tip 1 : Nat), .int .u64 (wp t.tip 2 : Nat), .int .u64 (wp t.tip 3 : Nat), .int .u64 (wp t.price 0 : Nat), .int .u64 (wp t.price 1 : Nat), .int .u64 (wp t.price 2 : Nat), .int .u64 (wp t.price 3 : Nat), .int .u64 (wp t.value 0 : Nat), .int .u64 (wp t.value 1 : Nat), .int .u64 (wp t.value 2 : Nat), .int .u64 (wp t.value 3 : Nat), .int .u64 (wp t.r 0 : Nat), .int .u64 (wp t.r 1 : Nat), .int .u64 (wp t.r 2 : Nat), .int .u64 (wp t.r 3 : Nat), .int .u64 (wp t.s 0 : Nat), .int .u64 (wp t.s 1 : Nat), .int .u64 (wp t.s 2 : Nat), .int .u64 (wp t.s 3 : Nat), .int .u64 (wp t.mint 0 : Nat), .int .u64 (wp t.mint 1 : Nat), .int .u64 (wp t.mint 2 : Nat), .int .u64 (wp t.mint 3 : Nat), .string t.dst, .string t.data, .string t.source, .string t.frm, .bool t.system]
def restB (a b : TxV) : Bool := decide (a.kind = b.kind) && (decide (a.chain = b.chain) && (decide (a.nonce = b.nonce) && (decide (a.gas = b.gas) && (decide (a.y = b.y) && (decide (a.tip = b.tip) && (decide (a.price = b.price) && (decide (a.value = b.value) && (decide (a.r = b.r) && (decide (a.s = b.s) && (decide (a.mint = b.mint) && (decide (a.dst = b.dst) && (decide (a.data = b.data) && (decide (a.source = b.source) && (decide (a.frm = b.frm) && (decide (a.system = b.system) && true)))))))))))))))
theorem eq_rest {a b : TxV} (ha : a.Ok) (hb : b.Ok) (w : World) : (Op.equalIn 10000 136 (.agg (restC a)) (.agg (restC b))).run Tryz.prog w = .ok (restB a b) w := by
 have hS : Tryz.prog.underlying 136 = some (.struct (Tryz.prog.fieldsOf 136)) := by kernel_rfl
 have hp : Tryz.prog.stoodInHeld 136 = false := by kernel_rfl
 rw [show (10000 : Nat) = 9999 + 1 from rfl, run_equalIn_agg w 9999 136 _ _ hS hp]
 simp only [Program.fieldsOf, Tryz.underlying136]
 unfold restB
 refine eqFields_cons (a := .int .i64 a.kind) (b := .int .i64 b.kind) (by decide) (by kernel_rfl) (by kernel_rfl) ((run_equalIn_int w 9998 _ .i64 .i64 _ _ (by kernel_rfl)).trans (by rw [beq_int])) ?_
 refine eqFields_cons (a := .int .u64 (a.chain : Int)) (b := .int .u64 (b.chain : Int)) (by decide) (by kernel_rfl) (by kernel_rfl) ((run_equalIn_int w 9998 _ .u64 .u64 _ _ (by kernel_rfl)).trans (by rw [beq_nat])) ?_
 refine eqFields_cons (a := .int .u64 (a.nonce : Int)) (b := .int .u64 (b.nonce : Int)) (by decide) (by kernel_rfl) (by kernel_rfl) ((run_equalIn_int w 9998 _ .u64 .u64 _ _ (by kernel_rfl)).trans (by rw [beq_nat])) ?_
 refine eqFields_cons (a := .int .u64 (a.gas : Int)) (b := .int .u64 (b.gas : Int)) (by decide) (by kernel_rfl) (by kernel_rfl) ((run_equalIn_int w 9998 _ .u64 .u64 _ _ (by kernel_rfl)).trans (by rw [beq_nat])) ?_
 refine eqFields_cons (a := .int .u64 (a.y : Int)) (b := .int .u64 (b.y : Int)) (by decide) (by kernel_rfl) (by kernel_rfl) ((run_equalIn_int w 9998 _ .u64 .u64 _ _ (by kernel_rfl)).trans (by rw [beq_nat])) ?_
 refine eqFields_cons (a := wordV a.tip) (b := wordV b.tip) (by decide) (by kernel_rfl) (by kernel_rfl) (eq_wordN 9997 ha.tip hb.tip w) ?_
 refine eqFields_cons (a := wordV a.price) (b := wordV b.price) (by decide) (by kernel_rfl) (by kernel_rfl) (eq_wordN 9997 ha.price hb.price w) ?_
 refine eqFields_cons (a := wordV a.value) (b := wordV b.value) (by decide) (by kernel_rfl) (by kernel_rfl) (eq_wordN 9997 ha.value hb.value w) ?_
 refine eqFields_cons (a := wordV a.r) (b := wordV b.r) (by decide) (by kernel_rfl) (by kernel_rfl) (eq_wordN 9997 ha.r hb.r w) ?_
 refine eqFields_cons (a := wordV a.s) (b := wordV b.s) (by decide) (by kernel_rfl) (by kernel_rfl) (eq_wordN 9997 ha.s hb.s w) ?_
 refine eqFields_cons (a := wordV a.mint) (b := wordV b.mint) (by decide) (by kernel_rfl) (by kernel_rfl) (eq_wordN 9997 ha.mint hb.mint w) ?_
 refine eqFields_cons (a := .string a.dst) (b := .string b.dst) (by decide) (by kernel_rfl) (by kernel_rfl) ((run_equalIn_string w 9998 _ _ _ (by kernel_rfl)).trans (by rw [beq_str])) ?_
 refine eqFields_cons (a := .string a.data) (b := .string b.data) (by decide) (by kernel_rfl) (by kernel_rfl) ((run_equalIn_string w 9998 _ _ _ (by kernel_rfl)).trans (by rw [beq_str])) ?_
 refine eqFields_cons (a := .string a.source) (b := .string b.source) (by decide) (by kernel_rfl) (by kernel_rfl) ((run_equalIn_string w 9998 _ _ _ (by kernel_rfl)).trans (by rw [beq_str])) ?_
 refine eqFields_cons (a := .string a.frm) (b := .string b.frm) (by decide) (by kernel_rfl) (by kernel_rfl) ((run_equalIn_string w 9998 _ _ _ (by kernel_rfl)).trans (by rw [beq_str])) ?_
 refine eqFields_cons (a := .bool a.system) (b := .bool b.system) (by decide) (by kernel_rfl) (by kernel_rfl) ((run_equalIn_bool' w 9998 _ _ _ (by kernel_rfl)).trans (by rw [beq_boo])) ?_
 rfl
def autB (a b : AutV) : Bool := decide (a.chain = b.chain) && (decide (a.addr = b.addr) && (decide (a.nonce = b.nonce) && (decide (a.y = b.y) && (decide (a.r = b.r) && (decide (a.s = b.s) && true)))))
theorem eq_aut {a b : AutV} (ha : a.Ok) (hb : b.Ok) (w : World) : (Op.equalIn 10000 89 (.agg (autL a).toArray) (.agg (autL b).toArray)).run Tryz.prog w = .ok (autB a b) w := by
 have hS : Tryz.prog.underlying 89 = some (.struct (Tryz.prog.fieldsOf 89)) := by kernel_rfl
 have hp : Tryz.prog.stoodInHeld 89 = false := by kernel_rfl
 rw [show (10000 : Nat) = 9999 + 1 from rfl, run_equalIn_agg w 9999 89 _ _ hS hp]
 simp only [Program.fieldsOf, Tryz.underlying89]
 unfold autB
 refine eqFields_cons (a := .int .u64 (a.chain : Int)) (b := .int .u64 (b.chain : Int)) (by decide) (by kernel_rfl) (by kernel_rfl) ((run_equalIn_int w 9998 _ .u64 .u64 _ _ (by kernel_rfl)).trans (by rw [beq_nat])) ?_
 refine eqFields_cons (a := .string a.addr) (b := .string b.addr) (by decide) (by kernel_rfl) (by kernel_rfl) ((run_equalIn_string w 9998 _ _ _ (by kernel_rfl)).trans (by rw [beq_str])) ?_
 refine eqFields_cons (a := .int .u64 (a.nonce : Int)) (b := .int .u64 (b.nonce : Int)) (by decide) (by kernel_rfl) (by kernel_rfl) ((run_equalIn_int w 9998 _ .u64 .u64 _ _ (by kernel_rfl)).trans (by rw [beq_nat])) ?_
 refine eqFields_cons (a := .int .u64 (a.y : Int)) (b := .int .u64 (b.y : Int)) (by decide) (by kernel_rfl) (by kernel_rfl) ((run_equalIn_int w 9998 _ .u64 .u64 _ _ (by kernel_rfl)).trans (by rw [beq_nat])) ?_
 refine eqFields_cons (a := wordV a.r) (b := wordV b.r) (by decide) (by kernel_rfl) (by kernel_rfl) (eq_wordN 9997 ha.r hb.r w) ?_
 refine eqFields_cons (a := wordV a.s) (b := wordV b.s) (by decide) (by kernel_rfl) (by kernel_rfl) (eq_wordN 9997 ha.s hb.s w) ?_
 rfl
theorem autB_eq (a b : AutV) : autB a b = decide (a = b) := by
 unfold autB
 by_cases h : a = b
 ·subst h; simp
 ·rw [decide_eq_false h]
  rw [Bool.eq_false_iff]
  intro hh
  simp only [Bool.and_true, Bool.and_eq_true, decide_eq_true_eq] at hh
  obtain ⟨h1, h2, h3, h4, h5, h6⟩ := hh
  apply h
  obtain ⟨a1, a2, a3, a4, a5, a6⟩ := a
  obtain ⟨b1, b2, b3, b4, b5, b6⟩ := b
  simp_all
theorem restB_eq (a b : TxV) : (decide (a.acc = b.acc) && (decide (a.auths = b.auths) && restB a b)) = decide (a = b) := by
 unfold restB
 by_cases h : a = b
 ·subst h; simp
 ·rw [decide_eq_false h]
  rw [Bool.eq_false_iff]
  intro hh
  simp only [Bool.and_true, Bool.and_eq_true, decide_eq_true_eq] at hh
  obtain ⟨h1, h2, h3, h4, h5, h6, h7, h8, h9, h10, h11, h12, h13, h14, h15, h16, h17, h18⟩ := hh
  apply h
  obtain ⟨a1, a2, a3, a4, a5, a6, a7, a8, a9, a10, a11, a12, a13, a14, a15, a16, a17, a18⟩ := a
  obtain ⟨b1, b2, b3, b4, b5, b6, b7, b8, b9, b10, b11, b12, b13, b14, b15, b16, b17, b18⟩ := b
  simp_all
theorem blk_setRow {w : World} {g : Nat} {t : TypeId} {cs cs' : Array Value} (h : Blk w g t cs) : Blk (w.setRow g cs') g t cs' := setRow_heap w g cs cs' t (0, 0) h
theorem only_setRow {a w : World} {g : Nat} (h : a.grownBy w none) (hg : a.heap.size ≤ g) (cs : Array Value) : a.grownBy (w.setRow g cs) none :=
 ⟨h.os, h.tape, h.output, by simpa using h.size, fun k hk hn => (setRow_other w g k cs (by omega)).trans (h.block k hk hn)⟩
theorem exec_load_rowT {P : Program} {W : World} {a : Act} {o : Oper} {ty : TypeId} {x : Operand} {g : Nat} (ho : o.op = .load ty x) (hx : a.eval x = .pointer (some ⟨g, 0, none⟩)) (t : TypeId) (cs : Array Value) (d : TypeDesc) (hg : Blk W g t cs)
  (hu : P.underlying ty = some d) (hd : (match d with | .struct _ | .array _ _ => true | _ => false) = true) (hi : (P.info? ty).map (·.size) = some cs.size) : (execOp a.eval o).run P W = .ok (.value (.agg cs)) W := by
 unfold execOp
 simp only [ho, hx, Instr.loadAt, Instr.sureAddr, Sem.run_bind, Sem.run_pure, Result.andThen_ok, run_loadVar_row W g t ty cs (0, 0) d hg hu hd hi]
theorem exec_callv1 {P : Program} {a : Act} {o : Oper} {W : World} (f : FuncId) (y x : Operand) (ts : Array TypeId) (ho : o.op = .call { callee := .value y, args := #[x], argTypes := ts }) (hy : a.eval y = .func (.func f) #[] #[]) (v : Value) (hx : a.eval x = v)
  (hf : (callFunc f #[v]).run P W = .ok (.enter f #[v]) W) : (execOp a.eval o).run P W = .ok (.enter f #[v]) W := by
 unfold execOp
 generalize a.eval = ev at *
 simp only [ho]
 simp [resolve, invoke, go_sem, hx, hy, hf]
theorem exec_eqR {a : Act} {o : Oper} {x y : Value} {r : Bool} (h : ∀ w, (Op.equalIn 10000 136 x y).run Tryz.prog w = .ok r w) (W : World) {p q : Operand} {u : TypeId} (ho : o.op = .binOp .eql 136 p q u) (hp : a.eval p = x) (hq : a.eval q = y) {xs ys : Array Value} (hx : x = .agg xs) (hy : y = .agg ys) :
  (execOp a.eval o).run Tryz.prog W = .ok (.value (.bool r)) W := by
 have hm : Tryz.prog.eqGuardType Tryz.prog.depth 136 = false := by kernel_rfl
 subst hx; subst hy
 have h1 := run_eqGuard_agg (P := Tryz.prog) W .eql 136 p q xs ys hm
 have h2 := run_eql_struct (P := Tryz.prog) W 136 xs ys
 rw [h W] at h2
 unfold execOp
 generalize a.eval = ev at *
 simp only [ho, hp, hq]
 generalize eqGuard .eql 136 p q (.agg xs) (.agg ys) = G at *
 generalize binOp .eql 136 (.agg xs) (.agg ys) = M at *
 simp [go_sem, h1, h2]
theorem set_self {W : World} {g i : Nat} {t : TypeId} {cs : Array Value} {v : Value} (h : Blk W g t cs) (hv : cs[i]? = some v) : W.setCell ⟨g, i, none⟩ v = W := by
 have h : W.heap[g]? = some (.cells cs t (0, 0)) := h
 obtain ⟨hg, hc⟩ := Array.getElem?_eq_some_iff.1 h
 obtain ⟨hi, hvi⟩ := Array.getElem?_eq_some_iff.1 hv
 have key : W.heap.modify g (fun
   | .cells c elem frozen => .cells (if (none : Option Nat).isSome then c else c.setIfInBounds i v) elem frozen
   | o => o) = W.heap := by
  apply Array.ext
  ·simp
  ·intro j h1 h2
   rw [Array.getElem_modify]
   split
   ·rename_i e
    subst e
    rw [hc]
    have : cs.setIfInBounds i v = cs := by
     apply Array.ext
     ·simp
     ·intro k k1 k2
      rw [Array.getElem_setIfInBounds]
      split
      ·rename_i e; subst e; exact hvi.symm
      ·rfl
    simp [this]
   ·rfl
 have hh : (W.setCell ⟨g, i, none⟩ v).heap = W.heap := key
 calc W.setCell ⟨g, i, none⟩ v = { W with heap := (W.setCell ⟨g, i, none⟩ v).heap } := rfl
  _ = W := by rw [hh]
section
variable {P : Program} {ops : Array Oper} {C : World → Prop} {Q : Act → Prop} {a : Act} {o : Oper} {rest : List Oper}
end
end Go.Proofs.YtgclnikdkfpflaaGreatDoor
