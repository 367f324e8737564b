/- The document's turn and move: what they answer. -/
import Derived.Test.YtihkbhogapopdaaKecG
namespace Go.Proofs.Ytihkbhogapopdaa
open Go.RowKit Go.Shelf

def tp : Nat → Nat × Nat
  | 0 => (1, 0)
  | t + 1 => ((tp t).2, (2 * (tp t).1 + 3 * (tp t).2) % 5)
theorem tp_lt : ∀ t, (tp t).1 < 5 ∧ (tp t).2 < 5
  | 0 => ⟨by decide, by decide⟩
  | t + 1 => ⟨(tp_lt t).2, Nat.mod_lt _ (by omega)⟩
def turnStep (a : List (BitVec 64)) (t : Nat) : List (BitVec 64) := a.set ((tp t).1 + 5 * (tp t).2) (rotR (a.getD ((tp t).1 + 5 * (tp t).2) 0) ((t + 1) * (t + 2) / 2))
def turnR (a : List (BitVec 64)) : List (BitVec 64) := (List.range 24).foldl turnStep a
theorem turn_len : ∀ (l : List Nat) (a : List (BitVec 64)), (l.foldl turnStep a).length = a.length
  | [], _ => rfl
  | t :: l, a => by rw [List.foldl_cons, turn_len l]; simp [turnStep]

set_option maxRecDepth 100000 in
set_option maxHeartbeats 2000000 in
theorem turn_any (a : List (BitVec 64)) (ha : a.length = 25) (w : World) :
    Calls Try.prog 16 #[.agg (a.map u64v).toArray] w fun e w' => e = .returned (.agg ((turnR a).map u64v).toArray) ∧ w.grownBy w' none := by
  go_enter Try.func16, Try.ntmps16
  have h0 := Lanes.new w 23 a
  generalize hcs : (a.map u64v).toArray = cs at *
  refine wp_seq (wp_region_lit ?_)
  refine Go.Great.wpList_boxTo rfl 23 _ rfl _ rfl w.heap.size rfl cs rfl ?_
  have hb := Blk.new (w.alloc (.cells cs 23)) 23 #[.int .u64 0, .int .u64 0, .int .u64 0, .int .u64 0, .int .u64 0, .int .u64 0, .int .u64 0, .int .u64 0, .int .u64 0, .int .u64 0, .int .u64 0, .int .u64 0, .int .u64 0, .int .u64 0, .int .u64 0, .int .u64 0, .int .u64 0, .int .u64 0, .int .u64 0, .int .u64 0, .int .u64 0, .int .u64 0, .int .u64 0, .int .u64 0, .int .u64 0]
  have h0' := h0.alloc (.cells #[.int .u64 0, .int .u64 0, .int .u64 0, .int .u64 0, .int .u64 0, .int .u64 0, .int .u64 0, .int .u64 0, .int .u64 0, .int .u64 0, .int .u64 0, .int .u64 0, .int .u64 0, .int .u64 0, .int .u64 0, .int .u64 0, .int .u64 0, .int .u64 0, .int .u64 0, .int .u64 0, .int .u64 0, .int .u64 0, .int .u64 0, .int .u64 0, .int .u64 0] 23)
  have hG : w.grownBy ((w.alloc (.cells cs 23)).alloc (.cells #[.int .u64 0, .int .u64 0, .int .u64 0, .int .u64 0, .int .u64 0, .int .u64 0, .int .u64 0, .int .u64 0, .int .u64 0, .int .u64 0, .int .u64 0, .int .u64 0, .int .u64 0, .int .u64 0, .int .u64 0, .int .u64 0, .int .u64 0, .int .u64 0, .int .u64 0, .int .u64 0, .int .u64 0, .int .u64 0, .int .u64 0, .int .u64 0, .int .u64 0] 23)) none := only_alloc (only_alloc (World.grownBy.refl _ _) _) _
  rw [World.size_alloc] at hb
  repeat go_step
  generalize (w.alloc (.cells cs 23)).alloc (.cells #[.int .u64 0, .int .u64 0, .int .u64 0, .int .u64 0, .int .u64 0, .int .u64 0, .int .u64 0, .int .u64 0, .int .u64 0, .int .u64 0, .int .u64 0, .int .u64 0, .int .u64 0, .int .u64 0, .int .u64 0, .int .u64 0, .int .u64 0, .int .u64 0, .int .u64 0, .int .u64 0, .int .u64 0, .int .u64 0, .int .u64 0, .int .u64 0, .int .u64 0] 23) = w1 at *
  clear h0
  go_loopw [3, 4, 5] (fun x y t wr => ∃ k : Nat, t = .int .i64 k ∧ k ≤ 24 ∧ x = .int .i64 ((tp k).1 : Nat) ∧ y = .int .i64 ((tp k).2 : Nat) ∧ Lanes wr w.heap.size 23 ((List.range k).foldl turnStep a) ∧ Blk wr (w.heap.size + 1) 23 #[.int .u64 0, .int .u64 0, .int .u64 0, .int .u64 0, .int .u64 0, .int .u64 0, .int .u64 0, .int .u64 0, .int .u64 0, .int .u64 0, .int .u64 0, .int .u64 0, .int .u64 0, .int .u64 0, .int .u64 0, .int .u64 0, .int .u64 0, .int .u64 0, .int .u64 0, .int .u64 0, .int .u64 0, .int .u64 0, .int .u64 0, .int .u64 0, .int .u64 0] ∧ w.grownBy wr none) (fun _ _ t _ => 24 - (intOf t).toNat)
  case atStart => exact ⟨0, rfl, by omega, rfl, rfl, h0', hb, hG⟩
  case round =>
    clear h0' hb hG
    obtain ⟨k, rfl, hk, rfl, rfl, hA, hR, hG⟩ := hrel
    have hal : ((List.range k).foldl turnStep a).length = 25 := by rw [turn_len]; exact ha
    by_cases hlt : k < 24
    · have hst : (List.range (k + 1)).foldl turnStep a = turnStep ((List.range k).foldl turnStep a) k := by
        rw [List.range_succ, List.foldl_append, List.foldl_cons, List.foldl_nil]
      generalize (List.range k).foldl turnStep a = a1 at *
      have hst2 : turnStep a1 k = a1.set ((tp k).1 + 5 * (tp k).2) (rotR (a1.getD ((tp k).1 + 5 * (tp k).2) 0) ((k + 1) * (k + 2) / 2)) := rfl
      rw [hst2] at hst
      clear hst2
      have ht1 : (tp (k + 1)).1 = (tp k).2 := rfl
      have ht2 : (tp (k + 1)).2 = (2 * (tp k).1 + 3 * (tp k).2) % 5 := rfl
      obtain ⟨hx5, hy5⟩ := tp_lt k
      generalize (tp k).1 = x at *
      generalize (tp k).2 = y at *
      obtain ⟨p, hp⟩ : ∃ p, x + 5 * y = p := ⟨_, rfl⟩
      obtain ⟨z, hz⟩ : ∃ z, (2 * x + 3 * y) % 5 = z := ⟨_, rfl⟩
      obtain ⟨e, he⟩ : ∃ e, (k + 1) * (k + 2) = e := ⟨_, rfl⟩
      have he2 : e ≤ 24 * 25 := by rw [← he]; exact Nat.mul_le_mul (by omega) (by omega)
      have heI : ((k : Int) + 1) * ((k : Int) + 2) = (e : Int) := by rw [← he]; simp
      obtain ⟨d, hd⟩ : ∃ d, e / 2 = d := ⟨_, rfl⟩
      rw [hp, he, hd] at hst
      rw [hz] at ht2
      have f3 := hA.cell (i := p) (by omega)
      have f4 := hA.frozen p
      generalize a1.getD p 0 = v1 at *
      have hrot := rot_any v1 d (by omega) wr
      generalize rotR v1 d = r1 at *
      have q1 : (p : Int) < 25 := by omega
      have p1 : IntKind.i64.wrap (5 * (y : Int)) = 5 * (y : Int) := IntWalk.i64_in _ (by omega)
      have p2 : IntKind.i64.wrap ((x : Int) + 5 * (y : Int)) = (p : Int) := by rw [IntWalk.i64_in _ (by omega)]; omega
      have p3 : IntKind.i64.wrap ((k : Int) + 1) = (k : Int) + 1 := IntWalk.i64_in _ (by omega)
      have p4 : IntKind.i64.wrap ((k : Int) + 2) = (k : Int) + 2 := IntWalk.i64_in _ (by omega)
      have p5 : IntKind.i64.wrap (((k : Int) + 1) * ((k : Int) + 2)) = (e : Int) := by rw [heI, IntWalk.i64_in _ (by omega)]
      have p6 : (e : Int).tdiv 2 = (d : Int) := by rw [Int.tdiv_eq_ediv_of_nonneg (by omega)]; omega
      have p6b : IntKind.i64.wrap (d : Int) = (d : Int) := IntWalk.i64_in _ (by omega)
      have p7 : IntKind.i64.wrap (2 * (x : Int)) = 2 * (x : Int) := IntWalk.i64_in _ (by omega)
      have p8 : IntKind.i64.wrap (3 * (y : Int)) = 3 * (y : Int) := IntWalk.i64_in _ (by omega)
      have p9 : IntKind.i64.wrap (2 * (x : Int) + 3 * (y : Int)) = 2 * (x : Int) + 3 * (y : Int) := IntWalk.i64_in _ (by omega)
      have p10 : (2 * (x : Int) + 3 * (y : Int)).tmod 5 = (z : Int) := by rw [Int.tmod_eq_emod_of_nonneg (by omega)]; omega
      have HS := Lib.hid hst
      have HT1 := Lib.hid ht1
      have HT2 := Lib.hid ht2
      clear hst ht1 ht2 hp hz he hd heI
      go_wp2_with fail
      refine hrot.mono ?_
      rintro e2 W ⟨rfl, rfl⟩
      clear hrot p5 p6 p6b
      go_wp2_with fail
      go_roundw
      case rel =>
        refine ⟨k + 1, by simp, by omega, by rw [HT1.out], by rw [HT2.out], ?_, ?_, ?_⟩
        · rw [HS.out]
          exact hA.set p r1
        · exact Blk.far hR (p := ⟨w.heap.size, p, none⟩) (by show w.heap.size + 1 ≠ w.heap.size; omega) _
        · exact only_set hG (p := ⟨w.heap.size, p, none⟩) (Nat.le_refl _) _
      case measure => simp [intOf]; omega
    · have hk24 : k = 24 := by omega
      have e24 : (List.range k).foldl turnStep a = turnR a := by unfold turnR; rw [hk24]
      rw [e24] at hA hal
      have hfin : decide ((k : Int) < 24) = false := by simp; omega
      obtain ⟨a2, ha2⟩ : ∃ x, turnR a = x := ⟨_, rfl⟩
      rw [ha2] at hA hal
      have HT2 := Lib.hid ha2
      clear hk24 hlt hk e24 ha2
      unfold Lanes at hA
      have hsz : (a2.map u64v).toArray.size = 25 := by simpa using hal
      have hone : (a2.map u64v).toArray.all (·.oneCell') = true := by simp [u64v, Value.oneCell']
      obtain ⟨cs2, hcs2⟩ : ∃ x, (a2.map u64v).toArray = x := ⟨_, rfl⟩
      rw [hcs2] at hA hsz hone
      have HC2 := Lib.hid hcs2
      clear hcs2
      repeat (first | refine wpList_load_row rfl 23 (.tmp 1) rfl w.heap.size rfl 23 cs2 _ (.array 25 22) hA (by kernel_rfl) (by kernel_rfl) (by rw [hsz]; kernel_rfl) ?_ | refine wpList_store_mid rfl 23 (.tmp 2) (.tmp 37) rfl (w.heap.size + 1) 0 cs2 rfl rfl (there_blk' hR hsz) (by rw [hsz]; kernel_rfl) hone ?_ | go_step)
      have hR2 := hR.setAll (cs' := cs2) hsz
      exact bodyPost_ret (results_cell_row (g := w.heap.size + 1) rfl _ _ _ cs2 _ (.array 25 22) (by simp [Act.put]) hR2 (by kernel_rfl) (by kernel_rfl) (by rw [hsz]; kernel_rfl)) rfl ⟨by rw [HT2.out, HC2.out], only_setCells (.inr (by omega)) _ _ _ hG⟩

end Go.Proofs.Ytihkbhogapopdaa
