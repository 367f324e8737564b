/- The document's move: what it answers. -/
import Derived.Test.YtihkbhogapopdaaKecH
namespace Go.Proofs.Ytihkbhogapopdaa
open Go.RowKit Go.Shelf

def moveStep (a b : List (BitVec 64)) (i : Fin 25) : List (BitVec 64) := b.set (rhoAt i) (a.getD i.val 0)
def moveR (a : List (BitVec 64)) : List (BitVec 64) := (List.finRange 25).foldl (moveStep a) (List.replicate 25 0)
theorem move_len (a : List (BitVec 64)) : ∀ (l : List (Fin 25)) (b : List (BitVec 64)), (l.foldl (moveStep a) b).length = b.length
  | [], _ => rfl
  | t :: l, b => by rw [List.foldl_cons, move_len a l]; simp [moveStep]

set_option maxRecDepth 100000 in
set_option maxHeartbeats 2000000 in
theorem move_any (a : List (BitVec 64)) (ha : a.length = 25) (w : World) :
    Calls Try.prog 15 #[.agg (a.map u64v).toArray] w fun e w' => e = .returned (.agg ((moveR a).map u64v).toArray) ∧ w.grownBy w' none := by
  go_enter Try.func15, Try.ntmps15
  have h0 := Lanes.new w 23 a
  generalize hcs : (a.map u64v).toArray = cs at *
  refine wp_seq (wp_region_lit ?_)
  refine Go.Great.wpList_boxTo rfl 23 _ rfl _ rfl w.heap.size rfl cs rfl ?_
  have hb := Blk.new (w.alloc (.cells cs 23)) 23 #[.int .u64 0, .int .u64 0, .int .u64 0, .int .u64 0, .int .u64 0, .int .u64 0, .int .u64 0, .int .u64 0, .int .u64 0, .int .u64 0, .int .u64 0, .int .u64 0, .int .u64 0, .int .u64 0, .int .u64 0, .int .u64 0, .int .u64 0, .int .u64 0, .int .u64 0, .int .u64 0, .int .u64 0, .int .u64 0, .int .u64 0, .int .u64 0, .int .u64 0]
  have hc := Lanes.new ((w.alloc (.cells cs 23)).alloc (.cells #[.int .u64 0, .int .u64 0, .int .u64 0, .int .u64 0, .int .u64 0, .int .u64 0, .int .u64 0, .int .u64 0, .int .u64 0, .int .u64 0, .int .u64 0, .int .u64 0, .int .u64 0, .int .u64 0, .int .u64 0, .int .u64 0, .int .u64 0, .int .u64 0, .int .u64 0, .int .u64 0, .int .u64 0, .int .u64 0, .int .u64 0, .int .u64 0, .int .u64 0] 23)) 23 (List.replicate 25 0)
  have h0' := (h0.alloc (.cells #[.int .u64 0, .int .u64 0, .int .u64 0, .int .u64 0, .int .u64 0, .int .u64 0, .int .u64 0, .int .u64 0, .int .u64 0, .int .u64 0, .int .u64 0, .int .u64 0, .int .u64 0, .int .u64 0, .int .u64 0, .int .u64 0, .int .u64 0, .int .u64 0, .int .u64 0, .int .u64 0, .int .u64 0, .int .u64 0, .int .u64 0, .int .u64 0, .int .u64 0] 23)).alloc (.cells #[.int .u64 0, .int .u64 0, .int .u64 0, .int .u64 0, .int .u64 0, .int .u64 0, .int .u64 0, .int .u64 0, .int .u64 0, .int .u64 0, .int .u64 0, .int .u64 0, .int .u64 0, .int .u64 0, .int .u64 0, .int .u64 0, .int .u64 0, .int .u64 0, .int .u64 0, .int .u64 0, .int .u64 0, .int .u64 0, .int .u64 0, .int .u64 0, .int .u64 0] 23)
  have hb' := hb.alloc (.cells #[.int .u64 0, .int .u64 0, .int .u64 0, .int .u64 0, .int .u64 0, .int .u64 0, .int .u64 0, .int .u64 0, .int .u64 0, .int .u64 0, .int .u64 0, .int .u64 0, .int .u64 0, .int .u64 0, .int .u64 0, .int .u64 0, .int .u64 0, .int .u64 0, .int .u64 0, .int .u64 0, .int .u64 0, .int .u64 0, .int .u64 0, .int .u64 0, .int .u64 0] 23)
  have hG : w.grownBy (((w.alloc (.cells cs 23)).alloc (.cells #[.int .u64 0, .int .u64 0, .int .u64 0, .int .u64 0, .int .u64 0, .int .u64 0, .int .u64 0, .int .u64 0, .int .u64 0, .int .u64 0, .int .u64 0, .int .u64 0, .int .u64 0, .int .u64 0, .int .u64 0, .int .u64 0, .int .u64 0, .int .u64 0, .int .u64 0, .int .u64 0, .int .u64 0, .int .u64 0, .int .u64 0, .int .u64 0, .int .u64 0] 23)).alloc (.cells #[.int .u64 0, .int .u64 0, .int .u64 0, .int .u64 0, .int .u64 0, .int .u64 0, .int .u64 0, .int .u64 0, .int .u64 0, .int .u64 0, .int .u64 0, .int .u64 0, .int .u64 0, .int .u64 0, .int .u64 0, .int .u64 0, .int .u64 0, .int .u64 0, .int .u64 0, .int .u64 0, .int .u64 0, .int .u64 0, .int .u64 0, .int .u64 0, .int .u64 0] 23)) none := only_alloc (only_alloc (only_alloc (World.grownBy.refl _ _) _) _) _
  rw [World.size_alloc] at hb' hc
  rw [World.size_alloc] at hc
  change Lanes (((w.alloc (.cells cs 23)).alloc (.cells #[.int .u64 0, .int .u64 0, .int .u64 0, .int .u64 0, .int .u64 0, .int .u64 0, .int .u64 0, .int .u64 0, .int .u64 0, .int .u64 0, .int .u64 0, .int .u64 0, .int .u64 0, .int .u64 0, .int .u64 0, .int .u64 0, .int .u64 0, .int .u64 0, .int .u64 0, .int .u64 0, .int .u64 0, .int .u64 0, .int .u64 0, .int .u64 0, .int .u64 0] 23)).alloc (.cells #[.int .u64 0, .int .u64 0, .int .u64 0, .int .u64 0, .int .u64 0, .int .u64 0, .int .u64 0, .int .u64 0, .int .u64 0, .int .u64 0, .int .u64 0, .int .u64 0, .int .u64 0, .int .u64 0, .int .u64 0, .int .u64 0, .int .u64 0, .int .u64 0, .int .u64 0, .int .u64 0, .int .u64 0, .int .u64 0, .int .u64 0, .int .u64 0, .int .u64 0] 23)) (w.heap.size + 2) 23 (List.replicate 25 0) at hc
  repeat go_step
  generalize ((w.alloc (.cells cs 23)).alloc (.cells #[.int .u64 0, .int .u64 0, .int .u64 0, .int .u64 0, .int .u64 0, .int .u64 0, .int .u64 0, .int .u64 0, .int .u64 0, .int .u64 0, .int .u64 0, .int .u64 0, .int .u64 0, .int .u64 0, .int .u64 0, .int .u64 0, .int .u64 0, .int .u64 0, .int .u64 0, .int .u64 0, .int .u64 0, .int .u64 0, .int .u64 0, .int .u64 0, .int .u64 0] 23)).alloc (.cells #[.int .u64 0, .int .u64 0, .int .u64 0, .int .u64 0, .int .u64 0, .int .u64 0, .int .u64 0, .int .u64 0, .int .u64 0, .int .u64 0, .int .u64 0, .int .u64 0, .int .u64 0, .int .u64 0, .int .u64 0, .int .u64 0, .int .u64 0, .int .u64 0, .int .u64 0, .int .u64 0, .int .u64 0, .int .u64 0, .int .u64 0, .int .u64 0, .int .u64 0] 23) = w1 at *
  clear hb h0
  go_loopw [4] (fun i wr => ∃ k : Nat, i = .int .i64 k ∧ k ≤ 25 ∧ Lanes wr w.heap.size 23 a ∧ Blk wr (w.heap.size + 1) 23 #[.int .u64 0, .int .u64 0, .int .u64 0, .int .u64 0, .int .u64 0, .int .u64 0, .int .u64 0, .int .u64 0, .int .u64 0, .int .u64 0, .int .u64 0, .int .u64 0, .int .u64 0, .int .u64 0, .int .u64 0, .int .u64 0, .int .u64 0, .int .u64 0, .int .u64 0, .int .u64 0, .int .u64 0, .int .u64 0, .int .u64 0, .int .u64 0, .int .u64 0] ∧ Lanes wr (w.heap.size + 2) 23 (((List.finRange 25).take k).foldl (moveStep a) (List.replicate 25 0)) ∧ w.grownBy wr none) (fun i _ => 25 - (intOf i).toNat)
  case atStart => exact ⟨0, rfl, by omega, h0', hb', hc, hG⟩
  case round =>
    clear h0' hb' hc hG
    obtain ⟨k, rfl, hk, hA, hR, hC, hG⟩ := hrel
    have hal : (((List.finRange 25).take k).foldl (moveStep a) (List.replicate 25 0)).length = 25 := by rw [move_len]; simp
    by_cases hlt : k < 25
    · have hst : ((List.finRange 25).take (k + 1)).foldl (moveStep a) (List.replicate 25 0) = moveStep a (((List.finRange 25).take k).foldl (moveStep a) (List.replicate 25 0)) ⟨k, hlt⟩ := by
        rw [take_snoc k hlt, List.foldl_append, List.foldl_cons, List.foldl_nil]
      generalize ((List.finRange 25).take k).foldl (moveStep a) (List.replicate 25 0) = b1 at *
      have hst2 : moveStep a b1 ⟨k, hlt⟩ = b1.set (k / 5 + 5 * ((2 * (k % 5) + 3 * (k / 5)) % 5)) (a.getD k 0) := rfl
      rw [hst2] at hst
      clear hst2
      obtain ⟨x, hx⟩ : ∃ x, k % 5 = x := ⟨_, rfl⟩
      obtain ⟨y, hy⟩ : ∃ y, k / 5 = y := ⟨_, rfl⟩
      obtain ⟨z, hz⟩ : ∃ z, (2 * x + 3 * y) % 5 = z := ⟨_, rfl⟩
      obtain ⟨p, hp⟩ : ∃ p, y + 5 * z = p := ⟨_, rfl⟩
      rw [hx, hy, hz, hp] at hst
      have f3 := hA.cell (i := k) (by omega)
      have f4 := hC.frozen p
      have f5 := hC.cell (i := p) (by omega)
      generalize a.getD k 0 = v1 at *
      have q1 : (p : Int) < 25 := by omega
      have q2 : (k : Int) < 25 := by omega
      have p1 : (k : Int).tmod 5 = (x : Int) := by rw [Int.tmod_eq_emod_of_nonneg (by omega)]; omega
      have p2 : (k : Int).tdiv 5 = (y : Int) := by rw [Int.tdiv_eq_ediv_of_nonneg (by omega)]; omega
      have p2b : IntKind.i64.wrap (y : Int) = (y : Int) := IntWalk.i64_in _ (by omega)
      have p7 : IntKind.i64.wrap (2 * (x : Int)) = 2 * (x : Int) := IntWalk.i64_in _ (by omega)
      have p8 : IntKind.i64.wrap (3 * (y : Int)) = 3 * (y : Int) := IntWalk.i64_in _ (by omega)
      have p9 : IntKind.i64.wrap (2 * (x : Int) + 3 * (y : Int)) = 2 * (x : Int) + 3 * (y : Int) := IntWalk.i64_in _ (by omega)
      have p10 : (2 * (x : Int) + 3 * (y : Int)).tmod 5 = (z : Int) := by rw [Int.tmod_eq_emod_of_nonneg (by omega)]; omega
      have p11 : IntKind.i64.wrap (5 * (z : Int)) = 5 * (z : Int) := IntWalk.i64_in _ (by omega)
      have p12 : IntKind.i64.wrap ((y : Int) + 5 * (z : Int)) = (p : Int) := by rw [IntWalk.i64_in _ (by omega)]; omega
      have HS := Lib.hid hst
      clear hst hp hz hx hy
      go_wp2_with fail
      go_roundw
      case rel =>
        refine ⟨k + 1, by simp, by omega, ?_, ?_, ?_, ?_⟩
        · exact hA.far (p := ⟨w.heap.size + 2, p, none⟩) (by show w.heap.size ≠ w.heap.size + 2; omega) _
        · exact Blk.far hR (p := ⟨w.heap.size + 2, p, none⟩) (by show w.heap.size + 1 ≠ w.heap.size + 2; omega) _
        · rw [HS.out]
          exact hC.set p v1
        · exact only_set hG (p := ⟨w.heap.size + 2, p, none⟩) (by show w.heap.size ≤ w.heap.size + 2; omega) _
      case measure => simp [intOf]; omega
    · have hk25 : k = 25 := by omega
      have e25 : (List.finRange 25).take k = List.finRange 25 := List.take_of_length_le (by simp; omega)
      rw [e25] at hC hal
      have hfin : decide ((k : Int) < 25) = false := by simp; omega
      obtain ⟨a2, ha2⟩ : ∃ x, moveR a = x := ⟨_, rfl⟩
      have ha3 : (List.finRange 25).foldl (moveStep a) (List.replicate 25 0) = a2 := by rw [← ha2]; unfold moveR; exact Eq.refl _
      rw [ha3] at hC hal
      have HT2 := Lib.hid ha2
      clear hk25 hlt hk e25 ha2 ha3
      unfold Lanes at hC
      have hsz : (a2.map u64v).toArray.size = 25 := by simpa using hal
      have hone : (a2.map u64v).toArray.all (·.oneCell') = true := by simp [u64v, Value.oneCell']
      obtain ⟨cs2, hcs2⟩ : ∃ x, (a2.map u64v).toArray = x := ⟨_, rfl⟩
      rw [hcs2] at hC hsz hone
      have HC2 := Lib.hid hcs2
      clear hcs2
      repeat (first | refine wpList_load_row rfl 23 (.tmp 3) rfl (w.heap.size + 2) rfl 23 cs2 _ (.array 25 22) hC (by kernel_rfl) (by kernel_rfl) (by rw [hsz]; kernel_rfl) ?_ | refine wpList_store_mid rfl 23 (.tmp 2) (.tmp 28) rfl (w.heap.size + 1) 0 cs2 rfl rfl (there_blk' hR hsz) (by rw [hsz]; kernel_rfl) hone ?_ | go_step)
      have hR2 := hR.setAll (cs' := cs2) hsz
      exact bodyPost_ret (results_cell_row (g := w.heap.size + 1) rfl _ _ _ cs2 _ (.array 25 22) (by simp [Act.put]) hR2 (by kernel_rfl) (by kernel_rfl) (by rw [hsz]; kernel_rfl)) rfl ⟨by rw [HT2.out, HC2.out], only_setCells (.inr (by omega)) _ _ _ hG⟩

end Go.Proofs.Ytihkbhogapopdaa
