/- Merged: DerF, UwA, UwB, DgA, DgB, DgC. -/
import Derived.Test.YtagjpbcmhaekpaaGreatDoorMg14
/- The document's decoder: Decode. -/
namespace Go.Proofs.YtagjpbcmhaekpaaGreatDoor
open Go.RowKit Go.Shelf
set_option linter.unusedVariables false
set_option linter.unusedSimpArgs false

set_option maxRecDepth 100000 in
set_option maxHeartbeats 2000000 in
theorem decode05_long (s : ByteArray) (W : World) (hs : 65536 < s.size) (hs2 : s.size ≤ 9223372036854775807) :
    Calls Tryz.prog 39 #[.string s] W (DecEnd s.data.toList W) := by
  have hd : Hid (decodeF s.data.toList = .error 5) := Lib.hid (by unfold decodeF; rw [if_pos (by rw [ba_len]; exact hs)])
  have d1 : (65536 : Int) < (s.size : Int) := by omega
  go_enter Tryz.func39, Tryz.ntmps39
  go_wp2_with fail
  refine bodyPost_ret (results_ct (fn := Tryz.f39) rfl _ _ _ _ rfl (load_item (Blk.new W _ _))) rfl ?_
  exact ⟨_, _, _, _, _, _, rfl, only_alloc (World.grownBy.refl _ _) _, .inr ⟨hd.out, by decide, rfl, rfl, rfl⟩⟩
set_option maxRecDepth 100000 in
set_option maxHeartbeats 2000000 in
theorem decode05_short (s : ByteArray) (W : World) (hs : s.size ≤ 65536) :
    Calls Tryz.prog 39 #[.string s] W (DecEnd s.data.toList W) := by
  have hlz : s.data.toList.length = s.size := ba_len s
  have d1 : decide ((65536 : Int) < (s.size : Int)) = false := decide_eq_false (by omega)
  have hxA := Blk.new W 40 #[.bool false, .string ⟨#[]⟩, .slice none 0 0]
  have hGA : W.grownBy (W.alloc (.cells #[.bool false, .string ⟨#[]⟩, .slice none 0 0] 40)) none := only_alloc (World.grownBy.refl _ _) _
  have HIT : Hid (∀ V, Calls Tryz.prog 58 #[.string s, .int .i64 0, .int .i64 0] V (RdEnd 12 s.data.toList 0 V)) := Lib.hid (fun V => read05_any 12 (by decide) s 0 V hs (by omega))
  go_enter Tryz.func39, Tryz.ntmps39
  go_upto_region 1 with (fail)
  obtain ⟨b, hb⟩ : ∃ b, W.heap.size = b := ⟨_, rfl⟩
  have HW := Lib.hid hb
  have hz1 : (W.alloc (.cells #[.bool false, .string ⟨#[]⟩, .slice none 0 0] 40)).heap.size = W.heap.size + 1 := by simp
  rw [hb] at hxA hz1 ⊢
  clear hb
  generalize W.alloc (.cells #[.bool false, .string ⟨#[]⟩, .slice none 0 0] 40) = W1 at *
  go_wp2_with fail
  refine (HIT.out _).mono ?_
  rintro e w2 ⟨hg, ⟨E, hE, hi, rfl⟩ | ⟨x, q, A, n, c, hi, rfl, hsub⟩⟩
  · have hd : Hid (decodeF s.data.toList = .error E) := Lib.hid (by unfold decodeF; rw [if_neg (by omega), hi])
    have hB2 := hxA.grown hg (by simp)
    have hlt := hB2.lt
    have HB3 := Lib.hid (hB2.alloc (.cells #[.bool false, .string ⟨#[]⟩, .slice none 0 0, .int .i64 0, .int .i64 E] 83))
    have HG2 := Lib.hid (only_alloc (grown_self hGA hg (by simp)) (.cells #[.bool false, .string ⟨#[]⟩, .slice none 0 0, .int .i64 0, .int .i64 E] 83))
    have z2 := Blk.new w2 83 #[.bool false, .string ⟨#[]⟩, .slice none 0 0, .int .i64 0, .int .i64 E]
    have e1 : (E != 0) = true := by simpa using hE
    have HE := Lib.hid hE
    clear hE hi hxA hGA hg hB2 HIT
    go_upto_region 4 with (fail)
    obtain ⟨g, hg⟩ : ∃ g, w2.heap.size = g := ⟨_, rfl⟩
    rw [hg] at z2 hlt ⊢
    have n1 : g ≠ b := by omega
    have n2 : b ≠ g := by omega
    clear hg
    generalize w2.alloc (.cells #[.bool false, .string ⟨#[]⟩, .slice none 0 0, .int .i64 0, .int .i64 E] 83) = w3 at *
    have T2 := Lib.hid (blk_set3 HB3.out (.bool false) (.string ⟨#[]⟩) (.slice none 0 0))
    have T4 := Lib.hid (only_set3 HG2.out (Nat.le_of_eq HW.out) (.bool false) (.string ⟨#[]⟩) (.slice none 0 0))
    have j4 := z2.cell 4
    have c0 := HB3.out.cell 0; have c1 := HB3.out.cell 1; have c2 := HB3.out.cell 2
    have f0 := HB3.out.frozen 0; have f1 := HB3.out.frozen 1; have f2 := HB3.out.frozen 2
    simp only [List.getElem?_toArray, List.getElem?_cons_zero, List.getElem?_cons_succ] at j4 c0 c1 c2
    clear HB3 HG2 hlt z2
    go_upto_region 5 with (fail)
    go_region
    all_goals go_wp2_with fail
    all_goals
      refine bodyPost_ret (results_ct (fn := Tryz.f39) rfl _ _ _ _ rfl (load_item (Blk.drew T2.out))) rfl ?_
      exact ⟨_, _, _, _, _, _, rfl, ⟨T4.out.os, T4.out.tape, T4.out.output, T4.out.size, T4.out.block⟩, .inr ⟨hd.out, HE.out, rfl, rfl, rfl⟩⟩
  · have hB3 := (hxA.grown hg (by simp)).alloc (.cells #[.bool x.list, .string x.bytes, .slice A n c, .int .i64 (q : Int), .int .i64 0] 83)
    have hG3 := only_alloc (grown_self hGA hg (by simp)) (.cells #[.bool x.list, .string x.bytes, .slice A n c, .int .i64 (q : Int), .int .i64 0] 83)
    have z2 := Blk.new w2 83 #[.bool x.list, .string x.bytes, .slice A n c, .int .i64 (q : Int), .int .i64 0]
    have hs2 := hsub.keep (W' := w2.alloc (.cells #[.bool x.list, .string x.bytes, .slice A n c, .int .i64 (q : Int), .int .i64 0] 83)) (fun p hp u hu => by rw [World.cell?_alloc_lt w2 _ p (World.block_lt_of_cell? w2 p hu)]; exact hu)
    obtain ⟨xl, xb, xi⟩ := x
    simp only [Itm.list, Itm.bytes, Itm.items] at *
    clear hxA hGA hg hsub HIT
    go_upto_region 4 with (fail)
    obtain ⟨g, hg⟩ : ∃ g, w2.heap.size = g := ⟨_, rfl⟩
    rw [hg] at z2 ⊢
    clear hg
    generalize w2.alloc (.cells #[.bool xl, .string xb, .slice A n c, .int .i64 (q : Int), .int .i64 0] 83) = w3 at *
    have j0 := z2.cell 0; have j1 := z2.cell 1; have j2 := z2.cell 2; have j3 := z2.cell 3; have j4 := z2.cell 4
    have c0 := hB3.cell 0; have c1 := hB3.cell 1; have c2 := hB3.cell 2
    have f0 := hB3.frozen 0; have f1 := hB3.frozen 1; have f2 := hB3.frozen 2
    simp only [List.getElem?_toArray, List.getElem?_cons_zero, List.getElem?_cons_succ] at j0 j1 j2 j3 j4 c0 c1 c2
    by_cases hq : q < s.size
    · have hd : Hid (decodeF s.data.toList = .error 4) := Lib.hid (by unfold decodeF; rw [if_neg (by omega), hi]; exact if_pos (by omega))
      have d2 : (q : Int) < (s.size : Int) := by omega
      have T2 := Lib.hid (blk_set3 hB3 (.bool false) (.string ⟨#[]⟩) (.slice none 0 0))
      have T4 := Lib.hid (only_set3 hG3 (Nat.le_of_eq HW.out) (.bool false) (.string ⟨#[]⟩) (.slice none 0 0))
      clear hB3 hG3 z2 hi hs2
      go_wp2_with fail
      refine bodyPost_ret (results_ct (fn := Tryz.f39) rfl _ _ _ _ rfl (load_item T2.out)) rfl ?_
      exact ⟨_, _, _, _, _, _, rfl, T4.out, .inr ⟨hd.out, by decide, rfl, rfl, rfl⟩⟩
    · have hd : Hid (decodeF s.data.toList = .ok (.mk xl xb xi)) := Lib.hid (by unfold decodeF; rw [if_neg (by omega), hi]; exact if_neg (by omega))
      have d2 : decide ((q : Int) < (s.size : Int)) = false := decide_eq_false (by omega)
      have d3 : decide (q < s.size) = false := decide_eq_false hq
      have T2 := Lib.hid (blk_set3 hB3 (.bool xl) (.string xb) (.slice A n c))
      have T4 := Lib.hid (only_set3 hG3 (Nat.le_of_eq HW.out) (.bool xl) (.string xb) (.slice A n c))
      have T5 := Lib.hid ((sub_set3 (g := b) hs2 (by omega) (.bool xl) (.string xb) (.slice A n c)).weak (fun k (hk : W1.heap.size ≤ k) => (show W.heap.size ≤ k by have := HW.out; omega)))
      clear hB3 hG3 z2 hi hs2
      go_wp2_with fail
      refine bodyPost_ret (results_ct (fn := Tryz.f39) rfl _ _ _ _ rfl (load_item T2.out)) rfl ?_
      exact ⟨_, _, _, _, _, _, rfl, T4.out, .inl ⟨.mk xl xb xi, hd.out, rfl, rfl, rfl, T5.out⟩⟩
theorem decode05_any (s : ByteArray) (W : World) (hs : s.size ≤ 9223372036854775807) : Calls Tryz.prog 39 #[.string s] W (DecEnd s.data.toList W) := by
  by_cases h : s.size ≤ 65536
  · exact decode05_short s W h
  · exact decode05_long s W (by omega) hs
end Go.Proofs.YtagjpbcmhaekpaaGreatDoor
/- The document's words: of 32 digits, of 32 bytes (rescriptref01.of, Unfixed). -/
namespace Go.Proofs.YtagjpbcmhaekpaaGreatDoor
open Go.RowKit Go.Shelf
set_option linter.unusedVariables false
set_option linter.unusedSimpArgs false

/-- the digits of 32 bytes, the lowest one first -/
def digL (l : List UInt8) (m : Nat) : List Int := (List.range m).map fun i => ((l.getD (31 - i) 0).toNat : Int)
theorem digL_len (l : List UInt8) (m : Nat) : (digL l m).length = m := by simp [digL]
theorem digL_get (l : List UInt8) (m i : Nat) (h : i < m) : (digL l m).getD i 0 = ((l.getD (31 - i) 0).toNat : Int) := by
  unfold digL
  rw [List.getD_eq_getElem?_getD, List.getElem?_map, List.getElem?_range h]; rfl
theorem digL_succ (l : List UInt8) (m : Nat) : digL l (m + 1) = digL l m ++ [((l.getD (31 - m) 0).toNat : Int)] := by simp [digL, List.range_succ]
set_option maxRecDepth 100000 in
set_option maxHeartbeats 2000000 in
theorem of01_any (l : List UInt8) (hlz : l.length = 32) (B : Nat) (A : Option Addr) (c : Nat) (w : World) (h : Reads w B 1 A 32 ((digL l 32).map (Value.int .i64))) (hB0 : B ≤ w.heap.size) :
    Calls Tryz.prog 105 #[.slice A 32 c] w fun e w' => e = .returned (.agg (wordC (beV l))) ∧ w.grownBy w' none := by
  have hall : lowN l 32 = beV l := by rw [← hlz]; exact lowN_all l
  rw [← hall]
  clear hall
  have HRD := Lib.hid h; have HB0 := Lib.hid hB0
  have hZ4 : Hid ((#[.int .u64 0, .int .u64 0, .int .u64 0, .int .u64 0] : Array Value) = wordC 0) := Lib.hid (by unfold wordC; rw [wp_zero, wp_zero, wp_zero, wp_zero]; rfl)
  have hB := Blk.new w 103 #[.int .u64 0, .int .u64 0, .int .u64 0, .int .u64 0]
  have hO := Blk.new (w.alloc (.cells #[.int .u64 0, .int .u64 0, .int .u64 0, .int .u64 0] 103)) 103 #[.int .u64 0, .int .u64 0, .int .u64 0, .int .u64 0]
  rw [World.size_alloc] at hO
  have hB := hB.alloc (.cells #[.int .u64 0, .int .u64 0, .int .u64 0, .int .u64 0] 103)
  have hG := only_alloc (only_alloc (World.grownBy.refl w none) (.cells #[.int .u64 0, .int .u64 0, .int .u64 0, .int .u64 0] 103)) (.cells #[.int .u64 0, .int .u64 0, .int .u64 0, .int .u64 0] 103)
  clear h hB0
  go_enter Tryz.func105, Tryz.ntmps105
  go_upto_region 2 with (fail)
  obtain ⟨b, hb⟩ : ∃ b, w.heap.size = b := ⟨_, rfl⟩
  have HW := Lib.hid hb
  rw [hb] at hB hO ⊢
  generalize (w.alloc (.cells #[.int .u64 0, .int .u64 0, .int .u64 0, .int .u64 0] 103)).alloc (.cells #[.int .u64 0, .int .u64 0, .int .u64 0, .int .u64 0] 103) = W1 at *
  rw [hZ4.out, ← lowN_zero l] at hO
  clear hZ4 hb
  go_wp2_with fail
  go_loopw [4] (fun i wr => ∃ m : Nat, i = .int .i64 (m : Int) ∧ m ≤ 32 ∧ Blk wr (b + 1) 103 (wordC (lowN l m)) ∧ Blk wr b 103 #[.int .u64 0, .int .u64 0, .int .u64 0, .int .u64 0] ∧ w.grownBy wr none) (fun i _ => 32 - (intOf i).toNat)
  case atStart => exact ⟨0, rfl, by omega, hO, hB, hG⟩
  case round =>
    clear hO hB hG
    obtain ⟨m, rfl, hm, hO, hB, hG⟩ := hrel
    by_cases hlt : m < 32
    · obtain ⟨q, hq⟩ : ∃ q, m / 8 = q := ⟨_, rfl⟩
      obtain ⟨r8, hr8⟩ : ∃ r, m % 8 = r := ⟨_, rfl⟩
      obtain ⟨r, hr⟩ : ∃ r, r8 * 8 = r := ⟨_, rfl⟩
      obtain ⟨p, hp⟩ : ∃ p, 31 - m = p := ⟨_, rfl⟩
      have hst := wordC_step l m (by omega) hlt
      have hwz := lowN_step l m (m / 8) (by omega)
      rw [if_pos rfl, hr8, hr, hlz, show 32 - 1 - m = p by omega, hq] at hwz
      rw [hq] at hst
      have f2 := wordC_cell hO q (by omega)
      have f3 := hO.frozen q
      obtain ⟨gl, off, rfl, hgl, hcl⟩ := (HRD.out.grown hG HB0.out (by simp)).ints hlt
      have f4 := hcl m hlt
      rw [digL_get l 32 m hlt, hp] at f4
      have hzl := wp_lt (lowN l (m + 1)) q
      have hvl := wp_lt (lowN l m) q
      have hrm := wp_room (lowN l m) m (lowN_lt l m)
      rw [hq, hr8, hr] at hrm
      obtain ⟨z, hz⟩ : ∃ z, wp (lowN l (m + 1)) q = z := ⟨_, rfl⟩
      obtain ⟨v, hv⟩ : ∃ v, wp (lowN l m) q = v := ⟨_, rfl⟩
      rw [hv] at hwz f2 hvl hrm
      rw [hz] at hwz hzl hst
      have hch := (l.getD p 0).toNat_lt
      obtain ⟨ch, hch2⟩ : ∃ ch, (l.getD p 0).toNat = ch := ⟨_, rfl⟩
      rw [hch2] at hwz hch f4
      have hadd := wp_or v ch r hrm
      obtain ⟨x, hx⟩ : ∃ x, ch * 2 ^ r = x := ⟨_, rfl⟩
      rw [hx] at hwz hadd
      have p8 : IntKind.u64.wrap ((v : Int) + (x : Int)) = (z : Int) := by
        rw [show (v : Int) + (x : Int) = ((v + x : Nat) : Int) by simp, ← hadd, ← hwz, u64_wrap_of z hzl]
      have p5 : IntKind.u64.wrap ((ch : Int) * 2 ^ r) = (x : Int) := by
        have : (ch : Int) * 2 ^ r = (x : Int) := by rw [← hx]; simp
        rw [this, u64_wrap_of x (by omega)]
      have p9 : IntKind.u64.wrap (ch : Int) = (ch : Int) := u64_wrap_of ch (by omega)
      have p1 : (m : Int).tdiv 8 = (q : Int) := by rw [Int.tdiv_eq_ediv_of_nonneg (by omega)]; omega
      have p2 : IntKind.i64.wrap (q : Int) = (q : Int) := IntWalk.i64_in _ (by omega)
      have p3 : (m : Int).tmod 8 = (r8 : Int) := by rw [Int.tmod_eq_emod_of_nonneg (by omega)]; omega
      have p4 : IntKind.i64.wrap ((r8 : Int) * 8) = (r : Int) := by rw [IntWalk.i64_in _ (by omega)]; omega
      have p11 := wrap_u r (by omega)
      have q1 : (q : Int) < 4 := by omega
      have q1' : q < 4 := by omega
      have q2 : (m : Int) < 32 := by omega
      have q3 : r < 64 := by omega
      have HST := Lib.hid hst
      clear hq hr8 hr hst hwz hzl hvl hrm hz hv hch2 hadd hx hp hcl
      have hO2 := hO.set_ q (.int .u64 (z : Int))
      rw [HST.out] at hO2
      go_wp2_with fail
      go_still_tail 18, (by kernel_rfl)
      clear p1 p2 p3 p4 p5 p8 p9 p11
      repeat go_step
      go_roundw
      case rel => exact ⟨m + 1, by go_num, by omega, hO2, hB.far (p := ⟨b + 1, q, none⟩) (by show b ≠ b + 1; omega) _, only_drew (only_set hG (p := ⟨b + 1, q, none⟩) (by have := HW.out; show w.heap.size ≤ b + 1; omega) _)⟩
      case measure => simp [intOf]; omega
    · obtain rfl : m = 32 := by omega
      have hO' := hO
      unfold wordC at hO'
      have c0 := hO'.cell 0; have c1 := hO'.cell 1; have c2 := hO'.cell 2; have c3 := hO'.cell 3
      have d0 := hB.frozen 0; have d1 := hB.frozen 1; have d2 := hB.frozen 2; have d3 := hB.frozen 3
      have x0 := hB.cell 0; have x1 := hB.cell 1; have x2 := hB.cell 2; have x3 := hB.cell 3
      simp only [List.getElem?_toArray, List.getElem?_cons_zero, List.getElem?_cons_succ] at c0 c1 c2 c3 x0 x1 x2 x3
      have HG2 := Lib.hid (only_set4 hG (Nat.le_of_eq HW.out) (.int .u64 (wp (lowN l 32) 0 : Nat)) (.int .u64 (wp (lowN l 32) 1 : Nat)) (.int .u64 (wp (lowN l 32) 2 : Nat)) (.int .u64 (wp (lowN l 32) 3 : Nat)))
      have HB2 := Lib.hid (blk_set4 hB (.int .u64 (wp (lowN l 32) 0 : Nat)) (.int .u64 (wp (lowN l 32) 1 : Nat)) (.int .u64 (wp (lowN l 32) 2 : Nat)) (.int .u64 (wp (lowN l 32) 3 : Nat)))
      go_wp2_with fail
      refine bodyPost_ret (results_cell1 (fn := Tryz.f105) rfl _ _ _ _ rfl (load_word HB2.out)) rfl ?_
      exact ⟨rfl, HG2.out⟩
theorem int_info : ∃ i, Tryz.prog.info? 3 = some i ∧ i.zero = some (.int .i64 0) ∧ i.size = 1 ∧ i.bytes = 8 := by
  have h : (Tryz.prog.info? 3).map (fun i => (i.zero, i.size, i.bytes)) = some (some (.int .i64 0), 1, 8) := by kernel_rfl
  cases hi : Tryz.prog.info? 3 with
  | none => rw [hi] at h; cases h
  | some i =>
    rw [hi] at h
    simp only [Option.map_some, Option.some.injEq, Prod.mk.injEq] at h
    exact ⟨i, rfl, h.1, h.2.1, h.2.2⟩
set_option maxRecDepth 100000 in
set_option maxHeartbeats 2000000 in
theorem unfixedR_any (S : ByteArray) (hS : S.size = 32) (w : World) :
    Calls Tryz.prog 91 #[.string S] w fun e w' => e = .returned (.tuple #[.agg (wordC (beV S.data.toList)), .int .i64 0]) ∧ w.grownBy w' none := by
  obtain ⟨l, hl⟩ : ∃ l, S.data.toList = l := ⟨_, rfl⟩
  have hlz : l.length = 32 := by rw [← hl, Array.length_toList]; exact hS
  rw [hl]
  have HS := Lib.hid hl; have HZ := Lib.hid hlz
  have e0 : ((S.size : Int) != 32) = false := by simp; omega
  have hB := Blk.new w 103 #[.int .u64 0, .int .u64 0, .int .u64 0, .int .u64 0]
  have hG := only_alloc (World.grownBy.refl w none) (.cells #[.int .u64 0, .int .u64 0, .int .u64 0, .int .u64 0] 103)
  have hZ : (w.alloc (.cells #[.int .u64 0, .int .u64 0, .int .u64 0, .int .u64 0] 103)).heap.size = w.heap.size + 1 := by simp
  obtain ⟨i0, hi, hz0, hz1, hz2⟩ := int_info
  clear hl hlz
  go_enter Tryz.func91, Tryz.ntmps91
  go_upto_region 1 with (fail)
  obtain ⟨b, hb⟩ : ∃ b, w.heap.size = b := ⟨_, rfl⟩
  have HW := Lib.hid hb
  rw [hb] at hB hZ ⊢
  generalize w.alloc (.cells #[.int .u64 0, .int .u64 0, .int .u64 0, .int .u64 0] 103) = W at *
  clear hb
  go_wp2_with fail
  go_loopw [4, 5] (fun v i wr => ∃ m : Nat, i = .int .i64 (31 - (m : Int)) ∧ m ≤ 32 ∧ wr.ownsRow (b + 1) 3 1 v m ((digL l m).map (Value.int .i64)) ∧ Blk wr b 103 #[.int .u64 0, .int .u64 0, .int .u64 0, .int .u64 0] ∧ w.grownBy wr none ∧ b + 1 ≤ wr.heap.size) (fun _ i _ => (1 + intOf i).toNat)
  case atStart => exact ⟨0, rfl, by omega, World.ownsRow_nil _ _ _ _, hB, hG, by omega⟩
  case round =>
    clear hB hG hZ
    obtain ⟨m, rfl, hm, hO, hB, hG, hsz⟩ := hrel
    by_cases hlt : m < 32
    · obtain ⟨p, hp⟩ : ∃ p, 31 - m = p := ⟨_, rfl⟩
      have d0 : (0 : Int) ≤ 31 - (m : Int) := by omega
      have e1 : 31 - (m : Int) = (p : Int) := by omega
      rw [e1] at d0 ⊢
      have hst := digL_succ l m
      rw [hp] at hst
      have hid := fun W => idx_str S p (l.getD p 0) (by rw [HS.out, List.getD_eq_getElem?_getD, List.getElem?_eq_getElem (by have := HZ.out; omega)]; rfl) W
      have hch := (l.getD p 0).toNat_lt
      obtain ⟨ch, hch2⟩ : ∃ ch, (l.getD p 0).toNat = ch := ⟨_, rfl⟩
      rw [hch2] at hid hch hst
      have p9 : IntKind.i64.wrap (ch : Int) = (ch : Int) := IntWalk.i64_in _ (by omega)
      have d9 : (p : Int) ≤ 31 := by omega
      have HST := Lib.hid hst
      have HP0 := Lib.hid e1
      clear hst hp e1 hch2
      obtain ⟨A, cc, rfl⟩ := own_slice3 hO
      go_wp2_with (at_builtin; refine wpList_append_own _ rfl _ _ 143 rfl (b + 1) 3 i0 (.int .i64 0) 1 8 Tryz.underlying143 hi hz0 hz1 hz2 rfl (by decide) _ _ _ rfl (hO.alloc _) ⟨wr.heap.size, 0, none⟩ 1 1 [.int .i64 (ch : Int)] rfl rfl (cell_one_new _ _ _) (by simp [Value.oneCell']) (by simp only [maxLen]; omega) (by omega) (by simp; omega) ?_; intro v' w4 hown4 hgrow _)
      obtain ⟨g', cap', rfl⟩ := ownsRow_succ hown4
      have hne : ∀ k, Value.ownBlock (.slice A m cc) = some k → b + 1 ≤ k := fun k hk => own_ge hO hk
      go_wp2_with fail
      go_roundw
      case rel =>
        refine ⟨m + 1, by have := HP0.out; simp; omega, by omega, by rw [HST.out, List.map_append]; exact hown4, ?_, ?_, ?_⟩
        · exact (hB.alloc _).grown hgrow (fun e => by have := hne b e.symm; omega)
        · exact grown_self (only_alloc hG _) hgrow (fun j hj => .inr (by have := hne j hj; have := HW.out; omega))
        · have := hgrow.size; simp at this; omega
      case measure => simp [intOf]; omega
    · have hm : m = 32 := by omega
      have hfin : decide ((0 : Int) ≤ 31 - (m : Int)) = false := by simp; omega
      have d2 : (31 : Int) - (m : Int) < 0 := by omega
      subst hm
      obtain ⟨A, cc, rfl⟩ := own_slice3 hO
      have hC := of01_any l HZ.out _ A cc wr (Reads.of_own hO) (Nat.le_refl _)
      clear hO hlt
      go_wp2_with fail
      refine hC.mono ?_
      rintro e w2 ⟨rfl, hg2⟩
      have hB2 := hB.grown hg2 (by simp)
      have d0 := hB2.frozen 0; have d1 := hB2.frozen 1; have d2' := hB2.frozen 2; have d3 := hB2.frozen 3
      have x0 := hB2.cell 0; have x1 := hB2.cell 1; have x2 := hB2.cell 2; have x3 := hB2.cell 3
      simp only [List.getElem?_toArray, List.getElem?_cons_zero, List.getElem?_cons_succ] at x0 x1 x2 x3
      have HG2 := Lib.hid (only_set4 (grown_self hG hg2 (by simp)) (Nat.le_of_eq HW.out) (.int .u64 (wp (beV l) 0 : Nat)) (.int .u64 (wp (beV l) 1 : Nat)) (.int .u64 (wp (beV l) 2 : Nat)) (.int .u64 (wp (beV l) 3 : Nat)))
      have HB2 := Lib.hid (blk_set4 hB2 (.int .u64 (wp (beV l) 0 : Nat)) (.int .u64 (wp (beV l) 1 : Nat)) (.int .u64 (wp (beV l) 2 : Nat)) (.int .u64 (wp (beV l) 3 : Nat)))
      clear hC hG hg2 hB hB2
      simp only [wordC]
      go_wp2_with fail
      refine bodyPost_ret (results_cv (fn := Tryz.f91) rfl _ _ _ _ rfl (load_word HB2.out)) rfl ?_
      exact ⟨rfl, HG2.out⟩
end Go.Proofs.YtagjpbcmhaekpaaGreatDoor
/- The document's words: of bytes; a number of bytes (rescriptref01.Parse, rescriptref02.Unbe). -/
namespace Go.Proofs.YtagjpbcmhaekpaaGreatDoor
open Go.RowKit Go.Shelf
set_option linter.unusedVariables false
set_option linter.unusedSimpArgs false

set_option maxRecDepth 100000 in
set_option maxHeartbeats 2000000 in
theorem parseR01_any (S : ByteArray) (hs : S.size ≤ 9223372036854775807) (w : World) :
    Calls Tryz.prog 76 #[.string S] w fun e w' => e = .returned (.tuple #[.agg (parseC S.data.toList), .int .i64 (parseE S.data.toList)]) ∧ w.grownBy w' none := by
  obtain ⟨l, hl⟩ : ∃ l, S.data.toList = l := ⟨_, rfl⟩
  have hlz : l.length = S.size := by rw [← hl, Array.length_toList]; rfl
  rw [hl]
  have HS := Lib.hid hl
  clear hl
  have hB := Blk.new w 103 #[.int .u64 0, .int .u64 0, .int .u64 0, .int .u64 0]
  have hG := only_alloc (World.grownBy.refl w none) (.cells #[.int .u64 0, .int .u64 0, .int .u64 0, .int .u64 0] 103)
  by_cases h1 : 32 < S.size
  · have hE : parseE l = 5 := if_pos (by omega)
    rw [hE, parseC_bad hE (by decide)]
    have d1 : (32 : Int) < (S.size : Int) := by omega
    clear hE
    go_enter Tryz.func76, Tryz.ntmps76
    go_wp2_with fail
    refine bodyPost_ret (results_cv (fn := Tryz.f76) rfl _ _ _ _ rfl (load_word (Blk.new w _ _))) rfl ?_
    exact ⟨rfl, only_alloc (World.grownBy.refl _ _) _⟩
  have d1 : decide ((32 : Int) < (S.size : Int)) = false := decide_eq_false (by omega)
  by_cases h2 : l.head? = some 0
  · have hE : parseE l = 8 := by unfold parseE; rw [if_neg (by omega), if_pos h2]
    rw [hE, parseC_bad hE (by decide)]
    have hpos : 0 < S.size := by
      rcases Nat.eq_zero_or_pos S.size with h | h
      · exfalso
        have : l = [] := List.length_eq_zero_iff.1 (by omega)
        rw [this] at h2; cases h2
      · exact h
    have hid : ∀ V, (Instr.index 9 (.string S) (.int .i64 0)).run Tryz.prog V = .ok (.int .u8 0) V := fun V => by
      have := idx_str S 0 0 (by rw [HS.out, ← h2, List.head?_eq_getElem?]) V
      simpa using this
    have d2 : (0 : Int) < (S.size : Int) := by omega
    clear hE h2
    go_enter Tryz.func76, Tryz.ntmps76
    go_wp2_with fail
    refine bodyPost_ret (results_cv (fn := Tryz.f76) rfl _ _ _ _ rfl (load_word (Blk.new w _ _))) rfl ?_
    exact ⟨rfl, only_alloc (World.grownBy.refl _ _) _⟩
  have hE : parseE l = 0 := by unfold parseE; rw [if_neg (by omega), if_neg h2]
  rw [hE, parseC_good hE]
  obtain ⟨k, hk⟩ : ∃ k, 32 - S.size = k := ⟨_, rfl⟩
  obtain ⟨Z, hZ⟩ : ∃ Z : ByteArray, (⟨(List.replicate k (0 : UInt8)).toArray⟩ : ByteArray) = Z := ⟨_, rfl⟩
  have hZl : Z.data.toList = List.replicate k 0 := by rw [← hZ]
  have hZz : Z.size = k := by have := congrArg List.length hZl; rw [Array.length_toList, List.length_replicate] at this; exact this
  have hsum : (Z ++ S).size = 32 := by
    have := congrArg List.length (ba_toList Z S)
    rw [Array.length_toList, List.length_append, Array.length_toList, Array.length_toList] at this
    have e : (Z ++ S).size = Z.size + S.size := this
    omega
  have hval : beV (Z ++ S).data.toList = beV l := by rw [ba_toList, hZl, HS.out, beV_pad]
  have HU : Hid (∀ V, Calls Tryz.prog 91 #[.string (Z ++ S)] V fun e w' => e = .returned (.tuple #[.agg (wordC (beV l)), .int .i64 0]) ∧ V.grownBy w' none) := Lib.hid fun V => by
    have := unfixedR_any (Z ++ S) hsum V
    rw [hval] at this
    exact this
  have hmk : ∀ V, (Instr.makeSlice 36 (.int .i64 (k : Int)) (.int .i64 (k : Int))).run Tryz.prog V = .ok (.slice (some ⟨V.heap.size, 0, none⟩) k k) (V.alloc (.cells (bytesC (List.replicate k 0)) 5)) := fun V => make_u8 k (by omega) V
  have hcv : ∀ V : World, (convert 36 9 (.slice (some ⟨V.heap.size, 0, none⟩) k k)).run Tryz.prog (V.alloc (.cells (bytesC (List.replicate k 0)) 5)) = .ok (.string Z) (V.alloc (.cells (bytesC (List.replicate k 0)) 5)) := fun V => by
    have := run_convert_bytes_back (P := Tryz.prog) (V.alloc (.cells (bytesC (List.replicate k 0)) 5)) 36 9 5 ⟨V.heap.size, 0, none⟩ k (List.replicate k 0) (by kernel_rfl) (by kernel_rfl) (by kernel_rfl) (fun j hj => by
      have := bytesC_cell (Blk.new V 5 (bytesC (List.replicate k 0))) j hj
      rw [Addr.add_mid, Nat.zero_add, this, List.getD_eq_getElem?_getD, List.getElem?_eq_getElem hj]
      rfl)
    rw [List.length_replicate, hZ] at this
    exact this
  have v1 : IntKind.i64.wrap (32 - (S.size : Int)) = (k : Int) := by rw [IntWalk.i64_in _ (by omega)]; omega
  have HMK := Lib.hid hmk; have HCV := Lib.hid hcv
  have HSUM := Lib.hid (show Z.size + S.size ≤ 9223372036854775807 by omega)
  have hB := Lib.hid hB; have hG := Lib.hid hG
  have h0 : ∀ hp : 0 < S.size, ((S[0]'hp).toNat : Int) = ((l.getD 0 0).toNat : Int) ∧ (((l.getD 0 0).toNat : Int) == 0) = false ∧ ∀ V, (Instr.index 9 (.string S) (.int .i64 0)).run Tryz.prog V = .ok (.int .u8 ((l.getD 0 0).toNat : Int)) V := by
    intro hpos
    have hh : l[0]? = some (l.getD 0 0) := by rw [List.getD_eq_getElem?_getD, List.getElem?_eq_getElem (by omega)]; rfl
    refine ⟨?_, ?_, fun V => ?_⟩
    · have e2 : S.data[0]? = some (l.getD 0 0) := by
        have : S.data.toList[0]? = some (l.getD 0 0) := by rw [HS.out]; exact hh
        simpa using this
      obtain ⟨_, e3⟩ := Array.getElem?_eq_some_iff.1 e2
      have : S[0]'hpos = l.getD 0 0 := e3
      rw [this]
    · rw [beq_eq_false_iff_ne]
      intro e
      apply h2
      rw [List.head?_eq_getElem?, hh]
      have : l.getD 0 0 = 0 := UInt8.toNat_inj.1 (by show (l.getD 0 0).toNat = 0; omega)
      rw [this]
    · have := idx_str S 0 (l.getD 0 0) (by rw [HS.out]; exact hh) V
      simpa using this
  have HE2 : Hid (wordC (beV l) = wordC (beV l)) := Lib.hid rfl
  clear hE h2 hval hsum hZl hZ hmk hcv
  have key : (decide ((0 : Int) < (S.size : Int)) = false) ∨ (((0 : Int) < (S.size : Int)) ∧ ∃ (hp : 0 < S.size) (c : Nat), ((S[0]'hp).toNat : Int) = (c : Int) ∧ ((c : Int) == 0) = false ∧ ∀ V, (Instr.index 9 (.string S) (.int .i64 0)).run Tryz.prog V = .ok (.int .u8 (c : Int)) V) := by
    rcases Nat.eq_zero_or_pos S.size with h | h
    · exact .inl (by rw [h]; rfl)
    · obtain ⟨a1, a2, a3⟩ := h0 h
      exact .inr ⟨by omega, h, (l.getD 0 0).toNat, a1, a2, a3⟩
  clear h0
  have key2 : (decide ((0 : Int) < (S.size : Int)) = false ∧ ¬ 0 < S.size ∧ decide (0 < S.size) = false) ∨ (((0 : Int) < (S.size : Int)) ∧ ∃ (hp : 0 < S.size), ¬ (S[0]'hp) = 0 ∧ ((S[0]'hp) == 0) = false ∧ ¬ (S[0]'hp).toNat = 0 ∧ (((S[0]'hp).toNat : Int) == 0) = false ∧ ((S[0]'hp).toNat == 0) = false) := by
    rcases key with h | ⟨h1, hp, c, h2, h3, _⟩
    · have h9 := of_decide_eq_false h
      exact .inl ⟨h, by omega, decide_eq_false (by omega)⟩
    · have h4 : ¬ (S[0]'hp).toNat = 0 := by
        intro e
        rw [e] at h2
        rw [← h2] at h3
        cases h3
      have h5 : ¬ (S[0]'hp) = 0 := fun e => h4 (by rw [e]; rfl)
      exact .inr ⟨h1, hp, h5, by simpa using h5, h4, by rw [h2]; exact h3, by simpa using h4⟩
  clear key
  rcases key2 with ⟨d2, d2', d2''⟩ | ⟨d2, hp0, n1, n2, n3, n4, n5⟩
  all_goals
    go_enter Tryz.func76, Tryz.ntmps76
    go_upto_region 5 with (fail)
    obtain ⟨b, hb⟩ : ∃ b, w.heap.size = b := ⟨_, rfl⟩
    have HW := Lib.hid hb
    have hB := hB.out
    have hG := hG.out
    rw [hb] at hB ⊢
    clear hb
    generalize w.alloc (.cells #[.int .u64 0, .int .u64 0, .int .u64 0, .int .u64 0] 103) = W1 at *
    have hmk := HMK.out W1
    have hcv := HCV.out W1
    have hB := hB.alloc (.cells (bytesC (List.replicate k 0)) 5)
    have hG := only_alloc hG (.cells (bytesC (List.replicate k 0)) 5)
    generalize W1.alloc (.cells (bytesC (List.replicate k 0)) 5) = W2 at *
    have hsum := HSUM.out
    have HB2 := Lib.hid hB; have HG2 := Lib.hid hG
    clear hB hG
    go_wp2_with fail
    refine (HU.out _).mono ?_
    rintro e w4 ⟨rfl, hg4⟩
    have hB := HB2.out.grown hg4 (by simp)
    have HG4 := Lib.hid (only_set4 (grown_self HG2.out hg4 (by simp)) (Nat.le_of_eq HW.out) (.int .u64 (wp (beV l) 0 : Nat)) (.int .u64 (wp (beV l) 1 : Nat)) (.int .u64 (wp (beV l) 2 : Nat)) (.int .u64 (wp (beV l) 3 : Nat)))
    have HB4 := Lib.hid (blk_set4 hB (.int .u64 (wp (beV l) 0 : Nat)) (.int .u64 (wp (beV l) 1 : Nat)) (.int .u64 (wp (beV l) 2 : Nat)) (.int .u64 (wp (beV l) 3 : Nat)))
    have c0 := hB.cell 0; have c1 := hB.cell 1; have c2 := hB.cell 2; have c3 := hB.cell 3
    have e0 := hB.frozen 0; have e1 := hB.frozen 1; have e2 := hB.frozen 2; have e3 := hB.frozen 3
    simp only [List.getElem?_toArray, List.getElem?_cons_zero, List.getElem?_cons_succ] at c0 c1 c2 c3
    clear hg4 HB2 HG2 HU hB hmk hcv
    unfold wordC
    go_wp2_with fail
    refine bodyPost_ret (results_cv (fn := Tryz.f76) rfl _ _ _ _ rfl (load_word HB4.out)) rfl ?_
    exact ⟨rfl, HG4.out⟩
set_option maxRecDepth 100000 in
set_option maxHeartbeats 1000000 in
theorem unbeR_any (S : ByteArray) (hs : S.size ≤ 9223372036854775807) (w : World) :
    Calls Tryz.prog 59 #[.string S] w fun e w' => e = .returned (.tuple #[.int .u64 (unbeN S.data.toList : Nat), .int .i64 (unbeE S.data.toList)]) ∧ w.grownBy w' none := by
  have hlz : S.data.toList.length = S.size := Array.length_toList
  by_cases h1 : 8 < S.size
  · have d1 : (8 : Int) < (S.size : Int) := by omega
    rw [show unbeN S.data.toList = 0 from if_pos (by omega), show unbeE S.data.toList = 5 from if_pos (by omega)]
    clear hlz h1
    go_enter Tryz.func59, Tryz.ntmps59
    go_wp2_with fail
    go_ret2
    exact ⟨rfl, World.grownBy.refl _ _⟩
  · have d1 : decide ((8 : Int) < (S.size : Int)) = false := decide_eq_false (by omega)
    rw [show unbeN S.data.toList = parseP S.data.toList 0 from if_neg (by omega), show unbeE S.data.toList = parseE S.data.toList from if_neg (by omega)]
    have hp := fun V => parseR01_any S hs V
    rw [parseC_short (by omega)] at hp
    generalize parseP S.data.toList 0 = n at *
    generalize parseE S.data.toList = E at *
    have HP := Lib.hid hp
    clear hp hlz h1
    go_enter Tryz.func59, Tryz.ntmps59
    go_wp2_with fail
    refine (HP.out _).mono ?_
    rintro e w2 ⟨rfl, hg2⟩
    have hB := Blk.new w2 103 #[.int .u64 (n : Int), .int .u64 0, .int .u64 0, .int .u64 0]
    have hG := Lib.hid (only_alloc hg2 (.cells #[.int .u64 (n : Int), .int .u64 0, .int .u64 0, .int .u64 0] 103))
    clear hg2 HP
    go_upto_region 4 with (fail)
    obtain ⟨b, hb⟩ : ∃ b, w2.heap.size = b := ⟨_, rfl⟩
    rw [hb] at hB ⊢
    clear hb
    generalize w2.alloc (.cells #[.int .u64 (n : Int), .int .u64 0, .int .u64 0, .int .u64 0] 103) = W1 at *
    have c0 := hB.cell 0
    simp only [List.getElem?_toArray, List.getElem?_cons_zero, List.getElem?_cons_succ] at c0
    go_wp2_with fail
    go_ret2
    exact ⟨rfl, hG.out⟩
end Go.Proofs.YtagjpbcmhaekpaaGreatDoor
/- The document's fields of an item: a number, bytes, a list; the first error (rescriptref06, rescriptref10.First). -/
namespace Go.Proofs.YtagjpbcmhaekpaaGreatDoor
open Go.RowKit Go.Shelf
set_option linter.unusedVariables false
set_option linter.unusedSimpArgs false

set_option maxRecDepth 100000 in
set_option maxHeartbeats 1000000 in
theorem getListR_any (l : Bool) (s : ByteArray) (A : Option Addr) (n c : Nat) (least most : Int) (w : World) :
    Calls Tryz.prog 40 #[.agg #[.bool l, .string s, .slice A n c], .int .i64 least, .int .i64 most] w fun e w' => e = .returned (.tuple #[if l = true ∧ textE n least most = 0 then .slice A n c else .slice none 0 0, .int .i64 (if l then textE n least most else 2)]) ∧ w.grownBy w' none := by
  have hB := Blk.new w 40 #[.bool l, .string s, .slice A n c]
  have HG := Lib.hid (only_alloc (World.grownBy.refl w none) (.cells #[.bool l, .string s, .slice A n c] 40))
  obtain ⟨v, hv⟩ : ∃ v, (if l = true ∧ textE n least most = 0 then Value.slice A n c else .slice none 0 0) = v := ⟨_, rfl⟩
  obtain ⟨E, hE⟩ : ∃ E, (if l then textE n least most else 2) = E := ⟨_, rfl⟩
  rw [hv, hE]
  have HV := Lib.hid hv; have HE := Lib.hid hE
  clear hv hE
  go_enter Tryz.func40, Tryz.ntmps40
  go_upto_region 1 with (fail)
  obtain ⟨b, hb⟩ : ∃ b, w.heap.size = b := ⟨_, rfl⟩
  rw [hb] at hB ⊢
  clear hb
  generalize w.alloc (.cells #[.bool l, .string s, .slice A n c] 40) = W1 at *
  have c0 := hB.cell 0; have c1 := hB.cell 1; have c2 := hB.cell 2
  simp only [List.getElem?_toArray, List.getElem?_cons_zero, List.getElem?_cons_succ] at c0 c1 c2
  clear hB
  cases l with
  | false =>
    go_wp2_with fail
    go_ret2
    exact ⟨by rw [← HV.out, ← HE.out]; rfl, HG.out⟩
  | true =>
    by_cases h1 : (n : Int) < least
    · have d1 : decide ((n : Int) < least) = true := decide_eq_true h1
      have hT : textE n least most = 3 := if_pos h1
      have HT := Lib.hid hT
      clear hT
      go_wp2_with fail
      go_ret2
      exact ⟨by rw [← HV.out, ← HE.out, HT.out]; rfl, HG.out⟩
    · have d1 : decide ((n : Int) < least) = false := decide_eq_false h1
      by_cases h2 : most < (n : Int)
      · have d2 : decide (most < (n : Int)) = true := decide_eq_true h2
        have hT : textE n least most = 5 := by unfold textE; rw [if_neg h1, if_pos h2]
        have HT := Lib.hid hT
        clear hT
        go_wp2_with fail
        go_ret2
        exact ⟨by rw [← HV.out, ← HE.out, HT.out]; rfl, HG.out⟩
      · have d2 : decide (most < (n : Int)) = false := decide_eq_false h2
        have hT : textE n least most = 0 := by unfold textE; rw [if_neg h1, if_neg h2]
        have HT := Lib.hid hT
        clear hT
        go_wp2_with fail
        go_ret2
        exact ⟨by rw [← HV.out, ← HE.out, HT.out]; rfl, HG.out⟩
set_option maxRecDepth 100000 in
set_option maxHeartbeats 1000000 in
theorem getTextR_any (l : Bool) (s : ByteArray) (sv : Value) (least most : Int) (w : World) :
    Calls Tryz.prog 41 #[.agg #[.bool l, .string s, sv], .int .i64 least, .int .i64 most] w fun e w' => e = .returned (.tuple #[.string (if l = false ∧ textE s.size least most = 0 then s else ⟨#[]⟩), .int .i64 (if l then 2 else textE s.size least most)]) ∧ w.grownBy w' none := by
  have hB := Blk.new w 40 #[.bool l, .string s, sv]
  have HG := Lib.hid (only_alloc (World.grownBy.refl w none) (.cells #[.bool l, .string s, sv] 40))
  obtain ⟨v, hv⟩ : ∃ v, (if l = false ∧ textE s.size least most = 0 then s else ⟨#[]⟩) = v := ⟨_, rfl⟩
  obtain ⟨E, hE⟩ : ∃ E, (if l then 2 else textE s.size least most) = E := ⟨_, rfl⟩
  rw [hv, hE]
  have HV := Lib.hid hv; have HE := Lib.hid hE
  clear hv hE
  go_enter Tryz.func41, Tryz.ntmps41
  go_upto_region 1 with (fail)
  obtain ⟨b, hb⟩ : ∃ b, w.heap.size = b := ⟨_, rfl⟩
  rw [hb] at hB ⊢
  clear hb
  generalize w.alloc (.cells #[.bool l, .string s, sv] 40) = W1 at *
  have c0 := hB.cell 0; have c1 := hB.cell 1
  simp only [List.getElem?_toArray, List.getElem?_cons_zero, List.getElem?_cons_succ] at c0 c1
  clear hB
  cases l with
  | true =>
    go_wp2_with fail
    go_ret2
    exact ⟨by rw [← HV.out, ← HE.out]; rfl, HG.out⟩
  | false =>
    by_cases h1 : (s.size : Int) < least
    · have d1 : decide ((s.size : Int) < least) = true := decide_eq_true h1
      have hT : textE s.size least most = 3 := if_pos h1
      have HT := Lib.hid hT
      clear hT
      go_wp2_with fail
      go_ret2
      exact ⟨by rw [← HV.out, ← HE.out, HT.out]; rfl, HG.out⟩
    · have d1 : decide ((s.size : Int) < least) = false := decide_eq_false h1
      by_cases h2 : most < (s.size : Int)
      · have d2 : decide (most < (s.size : Int)) = true := decide_eq_true h2
        have hT : textE s.size least most = 5 := by unfold textE; rw [if_neg h1, if_pos h2]
        have HT := Lib.hid hT
        clear hT
        go_wp2_with fail
        go_ret2
        exact ⟨by rw [← HV.out, ← HE.out, HT.out]; rfl, HG.out⟩
      · have d2 : decide (most < (s.size : Int)) = false := decide_eq_false h2
        have hT : textE s.size least most = 0 := by unfold textE; rw [if_neg h1, if_neg h2]
        have HT := Lib.hid hT
        clear hT
        go_wp2_with fail
        go_ret2
        exact ⟨by rw [← HV.out, ← HE.out, HT.out]; rfl, HG.out⟩
theorem unbeN_bad {l : List UInt8} (h : unbeE l ≠ 0) : unbeN l = 0 := by
  unfold unbeE at h
  unfold unbeN
  split
  · rfl
  · rename_i g
    rw [if_neg g] at h
    exact if_neg h
set_option maxRecDepth 100000 in
set_option maxHeartbeats 1000000 in
theorem getNumberR_any (l : Bool) (s : ByteArray) (sv : Value) (hs : s.size ≤ 9223372036854775807) (w : World) :
    Calls Tryz.prog 42 #[.agg #[.bool l, .string s, sv]] w fun e w' => e = .returned (.tuple #[.int .u64 (numV l s : Nat), .int .i64 (numE l s)]) ∧ w.grownBy w' none := by
  have hB := Blk.new w 40 #[.bool l, .string s, sv]
  have HG := Lib.hid (only_alloc (World.grownBy.refl w none) (.cells #[.bool l, .string s, sv] 40))
  have HU := Lib.hid (fun V => unbeR_any s hs V)
  obtain ⟨v, hv⟩ : ∃ v, numV l s = v := ⟨_, rfl⟩
  obtain ⟨E, hE⟩ : ∃ E, numE l s = E := ⟨_, rfl⟩
  rw [hv, hE]
  have HV := Lib.hid hv; have HE := Lib.hid hE
  clear hv hE
  go_enter Tryz.func42, Tryz.ntmps42
  go_upto_region 1 with (fail)
  obtain ⟨b, hb⟩ : ∃ b, w.heap.size = b := ⟨_, rfl⟩
  rw [hb] at hB ⊢
  clear hb
  generalize w.alloc (.cells #[.bool l, .string s, sv] 40) = W1 at *
  have c0 := hB.cell 0; have c1 := hB.cell 1
  simp only [List.getElem?_toArray, List.getElem?_cons_zero, List.getElem?_cons_succ] at c0 c1
  clear hB
  cases l with
  | true =>
    go_wp2_with fail
    go_ret2
    exact ⟨by rw [← HV.out, ← HE.out]; rfl, HG.out⟩
  | false =>
    have hEV : E = unbeE s.data.toList ∧ v = unbeN s.data.toList := by
      have h1 : E = unbeE s.data.toList := by rw [← HE.out]; rfl
      refine ⟨h1, ?_⟩
      rw [← HV.out]
      by_cases h0 : unbeE s.data.toList = 0
      · exact if_pos h0
      · rw [unbeN_bad h0]; exact if_neg h0
    have HEV := Lib.hid hEV
    clear hEV
    go_wp2_with fail
    refine (HU.out _).mono ?_
    rintro e w2 ⟨rfl, hg⟩
    have HG := Lib.hid (grown_self HG.out hg (by simp))
    clear hg c0 c1
    go_wp2_with fail
    go_ret2
    exact ⟨by rw [HEV.out.1, HEV.out.2]; rfl, HG.out⟩
/-- the first error -/
def firstL : List Int → Int
  | [] => 0
  | e :: es => if e ≠ 0 then e else firstL es
theorem firstL_take (es : List Int) (k : Nat) (h : ∀ i, i < k → es.getD i 0 = 0) (hk : k < es.length) (h0 : es.getD k 0 ≠ 0) : firstL es = es.getD k 0 := by
  induction es generalizing k with
  | nil => simp at hk
  | cons e es ih =>
    cases k with
    | zero => exact if_pos h0
    | succ k =>
      have he : e = 0 := h 0 (by omega)
      rw [firstL, if_neg (by simp [he])]
      exact ih k (fun i hi => h (i + 1) (by omega)) (by simpa using hk) h0
theorem firstL_none (es : List Int) (h : ∀ i, i < es.length → es.getD i 0 = 0) : firstL es = 0 := by
  induction es with
  | nil => rfl
  | cons e es ih =>
    have he : e = 0 := h 0 (by simp)
    rw [firstL, if_neg (by simp [he])]
    exact ih fun i hi => h (i + 1) (by simpa using hi)
set_option maxRecDepth 100000 in
set_option maxHeartbeats 1000000 in
theorem firstR_any (B : Nat) (A : Option Addr) (n c : Nat) (es : List Int) (w : World) (h : Reads w B 1 A n (es.map (Value.int .i64))) (hn : n ≤ 1000000) :
    Calls Tryz.prog 44 #[.slice A n c] w fun e w' => e = .returned (.int .i64 (firstL es)) ∧ w' = w := by
  have hl : es.length = n := by have := h.1; simpa using this
  have HL := Lib.hid hl; have HR := Lib.hid h
  clear hl h
  go_enter Tryz.func44, Tryz.ntmps44
  go_wp2_with fail
  go_loopw [3] (fun i wr => ∃ k : Nat, i = .int .i64 (k : Int) ∧ k ≤ n ∧ w = wr ∧ Hid (∀ i : Nat, i < k → es.getD i 0 = 0)) (fun i _ => n - (intOf i).toNat)
  case atStart => exact ⟨0, rfl, by omega, rfl, Lib.hid (by intro i h1; omega)⟩
  case round =>
    obtain ⟨k, rfl, hk, rfl, h2⟩ := hrel
    have h2' := Lib.hid h2.out
    by_cases hlt : k < n
    · obtain ⟨q, off, rfl, hq, hc⟩ := HR.out.ints hlt
      have c0 := hc k hlt
      have q1 : (k : Int) < (n : Int) := by omega
      obtain ⟨x, hx⟩ : ∃ x, es.getD k 0 = x := ⟨_, rfl⟩
      rw [hx] at c0
      have HX := Lib.hid hx
      clear h2 hc hx
      by_cases hz : x = 0
      · subst hz
        go_wp2_with fail
        refine ⟨⟨k + 1, by go_num, by omega, by first | rfl | trivial, Lib.hid fun i hi => ?_⟩, by simp [intOf]; omega⟩
        by_cases hik : i = k
        · rw [hik, HX.out]
        · exact h2'.out i (by omega)
      · have e1 : (x != 0) = true := by simpa using hz
        have HF := Lib.hid (firstL_take es k h2'.out (by have := HL.out; omega) (by rw [HX.out]; exact hz))
        clear hz
        go_wp2_with fail
        go_ret
        exact ⟨by rw [HF.out, HX.out]; rfl, rfl⟩
    · obtain rfl : k = n := by omega
      have hfin : decide ((k : Int) < (k : Int)) = false := by simp
      have HF := Lib.hid (firstL_none es (fun i hi => h2.out i (by have := HL.out; omega)))
      clear h2 h2'
      go_wp2_with fail
      go_ret
      exact ⟨by rw [HF.out]; rfl, rfl⟩
end Go.Proofs.YtagjpbcmhaekpaaGreatDoor
/- The document's row of bytes of an item (rescriptref06.GetTexts).  Its proof is turned from FldV's. -/
namespace Go.Proofs.YtagjpbcmhaekpaaGreatDoor
open Go.RowKit Go.Shelf
set_option linter.unusedVariables false
set_option linter.unusedSimpArgs false

set_option maxRecDepth 100000 in
set_option maxHeartbeats 2000000 in
theorem getTextsR_any (l : Bool) (s : ByteArray) (A : Option Addr) (n c : Nat) (ys : List Itm) (many least most : Int) (w : World) (hS : SubV (fun g => g < w.heap.size) w ys (.slice A n c)) (hn : n ≤ 100000) :
    Calls Tryz.prog 43 #[.agg #[.bool l, .string s, .slice A n c], .int .i64 many, .int .i64 least, .int .i64 most] w fun e w' => ∃ (v : Value) (xs : List Itm), e = .returned (.tuple #[v, .int .i64 (gtE l n many least most ys)]) ∧ w'.ownsRow w.heap.size 9 1 v xs.length (xs.map fun y => Value.string y.bytes) ∧ xs = gtR (gtE l n many least most ys) ys ∧ w.grownBy w' none := by
  have hB := Blk.new w 40 #[.bool l, .string s, .slice A n c]
  have hG := only_alloc (World.grownBy.refl w none) (.cells #[.bool l, .string s, .slice A n c] 40)
  have hz : (w.alloc (.cells #[.bool l, .string s, .slice A n c] 40)).heap.size = w.heap.size + 1 := by simp
  have HNL := Lib.hid hS.row.1
  have hS := hS.grown hG
  have HI := Lib.hid string_info
  go_enter Tryz.func43, Tryz.ntmps43
  go_upto_region 1 with (fail)
  obtain ⟨b, hb⟩ : ∃ b, w.heap.size = b := ⟨_, rfl⟩
  have HW := Lib.hid hb
  rw [hb] at hB hz ⊢
  generalize w.alloc (.cells #[.bool l, .string s, .slice A n c] 40) = W1 at *
  have c0 := hB.cell 0; have c1 := hB.cell 1; have c2 := hB.cell 2
  simp only [List.getElem?_toArray, List.getElem?_cons_zero, List.getElem?_cons_succ] at c0 c1 c2
  go_wp2_with fail
  refine (getListR_any l s A n c 0 many _).mono ?_
  rintro e w3 ⟨rfl, hg3⟩
  have hlv : ∃ A' N c', (if l = true ∧ textE n 0 many = 0 then Value.slice A n c else .slice none 0 0) = .slice A' N c' ∧ SubV (fun g => g < w.heap.size) w3 (gtYs l n many ys) (.slice A' N c') ∧ N = (gtYs l n many ys).length ∧ N ≤ 100000 := by
    unfold gtYs
    by_cases hL : l = true ∧ textE n 0 many = 0
    · rw [if_pos hL, if_pos hL]
      exact ⟨A, n, c, rfl, hS.grown hg3, HNL.out, hn⟩
    · rw [if_neg hL, if_neg hL]
      exact ⟨none, 0, 0, rfl, .mk [] none 0 [] (fun h => by cases h) (fun i h => by cases h), rfl, by omega⟩
  have HGE : Hid (gtE l n many least most ys = if gtxE (gtYs l n many ys) least most ≠ 0 then gtxE (gtYs l n many ys) least most else if l then textE n 0 many else 2) := Lib.hid rfl
  have hlink : gtE l n many least most ys = 0 → gtYs l n many ys = ys := by
    intro h0
    unfold gtE at h0
    unfold gtYs at h0 ⊢
    by_cases hL : l = true ∧ textE n 0 many = 0
    · rw [if_pos hL]
    · rw [if_neg hL] at h0
      rw [show gtxE [] least most = 0 from rfl, if_neg (by simp)] at h0
      cases l with
      | false => simp at h0
      | true => exact absurd ⟨rfl, by simpa using h0⟩ hL
  have hlink2 : (if l = true then textE n 0 many else 2) ≠ 0 → gtYs l n many ys = [] := by
    intro h0
    unfold gtYs
    rw [if_neg]
    rintro ⟨rfl, h1⟩
    rw [if_pos rfl] at h0
    exact h0 h1
  obtain ⟨A', N, c', hv, hS', hN, hNn⟩ := hlv
  rw [hv]
  generalize hE1 : (if l = true then textE n 0 many else 2) = e1 at *
  generalize gtYs l n many ys = zs at *
  obtain ⟨E, hE⟩ : ∃ E, gtE l n many least most ys = E := ⟨_, rfl⟩
  rw [hE] at HGE hlink
  have HE := Lib.hid hE
  have HL := Lib.hid hlink
  have HL2 := Lib.hid hlink2
  have HN := Lib.hid hN
  have hle3 : b + 1 ≤ w3.heap.size := by have := hg3.size; omega
  have HG3 := Lib.hid (grown_self hG hg3 (by simp))
  have H3 := Lib.hid hS'
  have HB3 := Lib.hid hle3
  obtain ⟨b3, hb3⟩ : ∃ b, w3.heap.size = b := ⟨_, rfl⟩
  have HE3 := Lib.hid hb3
  obtain ⟨i0, hi, hz0, hzs, hzb⟩ := info_parts string_info
  clear hb3 hE hb hlink hlink2 hv hE1 c0 c1 c2 hB hG hS hS' hg3 hN hz hle3
  by_cases h1 : e1 = 0
  rotate_left
  · have q1 : (e1 != 0) = true := by simpa using h1
    have hz0' := HL2.out h1
    have hEv : E = e1 := by rw [HGE.out, hz0']; exact if_neg (by simp [gtxE])
    have HEE := Lib.hid (HE.out.trans hEv); have HH1 := Lib.hid h1
    clear h1 hz0' hEv
    go_wp2_with fail
    refine bodyPost_ret (results_tmp2 rfl _ _ _) rfl ?_
    exact ⟨_, [], by rw [HEE.out]; rfl, World.ownsRow_nil _ _ _ _, by rw [HEE.out]; exact (if_neg HH1.out).symm, HG3.out⟩
  subst h1
  go_wp2_with fail
  go_loopw [12, 13] (fun v i wr => ∃ k : Nat, i = .int .i64 k ∧ k ≤ N ∧ gtxE (zs.take k) least most = 0 ∧ wr.ownsRow b3 9 1 v k ((zs.take k).map fun y => Value.string y.bytes) ∧ w3.grownBy wr none) (fun _ i _ => N - (intOf i).toNat)
  case atStart => exact ⟨0, rfl, by omega, rfl, World.ownsRow_nil _ _ _ _, World.grownBy.refl _ _⟩
  case round =>
    obtain ⟨k, rfl, hk, hx, hO, hG⟩ := hrel
    have hsz : b3 ≤ wr.heap.size := by have := hG.size; have := HE3.out; omega
    by_cases hlt : k < N
    · obtain ⟨vs, hvs, hrow⟩ := (H3.out.grown hG).row.2
      have hkz : k < zs.length := by have := HN.out; omega
      obtain ⟨g, off, rfl, hgS, hc⟩ := hrow (by omega)
      obtain ⟨c0, c1, c2⟩ := hc k hkz
      have hzk : zs[k]? = some (zs.getD k Itm.none_) := by rw [List.getD_eq_getElem?_getD, List.getElem?_eq_getElem hkz]; rfl
      have htk : zs.take (k + 1) = zs.take k ++ [zs.getD k Itm.none_] := by rw [List.take_add_one, hzk]; rfl
      have q1 : (k : Int) < (N : Int) := by omega
      obtain ⟨iA, ic, hyv⟩ := (hvs k hkz).slice
      rw [hyv] at c2
      generalize (zs.getD k Itm.none_).items.length = iN at *
      generalize zs.getD k Itm.none_ = y at *
      obtain ⟨yl, yb, yi⟩ := y
      have HTK := Lib.hid htk
      have HX := Lib.hid hx
      clear hyv hc hrow hvs hzk htk hx hkz hgS
      obtain ⟨oA, oc, rfl⟩ := own_slice3 hO
      simp only [Itm.list, Itm.bytes] at c0 c1
      go_wp2_with fail
      refine (getTextR_any yl yb (.slice iA iN ic) least most _).mono ?_
      rintro e w6 ⟨rfl, hg6⟩
      have hO := hO.kept hg6 (by cases oA; exact .inl rfl; exact .inr (by simp [Value.ownBlock]))
      have hsz6 := hg6.size
      have hG := grown_self hG hg6 (by simp)
      clear c0 c1 c2
      have HTE : Hid (tE (.mk yl yb yi) least most = if yl = true then 2 else textE yb.size least most) := Lib.hid rfl
      generalize hEE : (if yl = true then 2 else textE yb.size least most) = ee at *
      by_cases h0 : ee = 0
      · have hl0 : yl = false ∧ textE yb.size least most = 0 := by
          cases yl with
          | true => rw [if_pos rfl] at hEE; omega
          | false => rw [if_neg (by simp)] at hEE; exact ⟨rfl, hEE.trans h0⟩
        rw [if_pos hl0]
        have h0' : (ee != 0) = false := by simp [h0]
        clear hEE hl0
        subst h0
        go_wp2_with (at_builtin; refine wpList_append_own _ rfl _ _ 23 rfl b3 9 i0 _ 1 16 Tryz.underlying23 hi hz0 hzs hzb rfl (by decide) _ _ _ rfl (hO.alloc _) ⟨w6.heap.size, 0, none⟩ 1 1 [.string yb] rfl rfl (cell_one_new _ _ _) (by simp [Value.oneCell']) (by simp only [maxLen]; omega) (by omega) (by simp; omega) ?_; intro v' w7 hown7 hgrow _)
        refine ⟨⟨k + 1, by go_num, by omega, ?_, ?_, ?_⟩, by simp [intOf]; omega⟩
        · rw [HTK.out, gtxE_snoc _ _ _ _ HX.out]; exact HTE.out
        · rw [HTK.out, List.map_append]; exact hown7
        · exact grown_self (only_alloc hG _) hgrow (fun j hj => .inr (by have := own_ge hO hj; have := HE3.out; omega))
      · have hl0 : ¬ (yl = false ∧ textE yb.size least most = 0) := by
          rintro ⟨rfl, h1⟩
          rw [if_neg (by simp)] at hEE; exact h0 (hEE.symm.trans h1)
        rw [if_neg hl0]
        have h0' : (ee != 0) = true := by simp [h0]
        clear hEE hl0
        go_wp2_with fail
        refine bodyPost_ret (results_tmp2 rfl _ _ _) rfl ?_
        have hee : gtxE zs least most = ee := by
          have h1 : gtxE (zs.take (k + 1)) least most = ee := by rw [HTK.out, gtxE_snoc _ _ _ _ HX.out]; exact HTE.out
          rw [← List.take_append_drop (k + 1) zs, gtxE_err _ _ _ _ (by rw [h1]; exact h0), h1]
        have hEv : E = ee := by rw [HGE.out, hee, if_pos h0]
        have hEE := HE.out.trans hEv
        exact ⟨_, [], by rw [hEE]; rfl, World.ownsRow_nil _ _ _ _, by rw [hEE]; exact (if_neg h0).symm, grown_self HG3.out hG (by simp)⟩
    · obtain rfl : k = N := by omega
      have hfin : decide ((k : Int) < (k : Int)) = false := by simp
      go_wp2_with fail
      refine bodyPost_ret (results_tmp2 rfl _ _ _) rfl ?_
      have ht : zs.take k = zs := List.take_of_length_le (by have := HN.out; omega)
      rw [ht] at hx hO
      have hEv : E = 0 := by rw [HGE.out, hx, if_neg (by simp)]
      have hEE := HE.out.trans hEv
      have hzl : zs = gtR 0 ys := by rw [HL.out hEv]; rfl
      have hzk : zs.length = k := HN.out.symm
      exact ⟨_, zs, by rw [hEE]; rfl, by rw [hzk]; exact own_lower hO (by have := HE3.out; have := HG3.out.size; omega), by rw [hEE]; exact hzl, grown_self HG3.out hG (by simp)⟩
end Go.Proofs.YtagjpbcmhaekpaaGreatDoor
/- Batches of one block: the document's Get, where no row of five is read. -/
namespace Go.Proofs.YtagjpbcmhaekpaaGreatDoor
open Go.RowKit Go.Shelf
set_option linter.unusedVariables false
set_option linter.unusedSimpArgs false

theorem getR16_none (w : World) : Calls Tryz.prog 14 #[.string ⟨#[]⟩] w (SglEnd [] w) := by
  have hE : getSE [] = 3 := rfl
  have HE := Lib.hid hE
  have hB := Blk.new w 25 sglZ
  have hG := only_alloc (World.grownBy.refl w none) (.cells sglZ 25)
  clear hE
  have HG := Lib.hid hG; have HB := Lib.hid hB
  clear hG hB
  go_enter Tryz.func14, Tryz.ntmps14
  go_wp2_with fail
  refine bodyPost_ret (results_ct (fn := Tryz.f14) rfl _ _ _ _ rfl (load_sgl HB.out)) rfl ?_
  exact SglEnd.bad HE.out (by decide) HG.out
theorem getR16_mark (s : ByteArray) (w : World) (h : s ≠ ⟨#[]⟩) (h1 : s.data.toList.getD 0 0 ≠ 0) : Calls Tryz.prog 14 #[.string s] w (SglEnd s.data.toList w) := by
  obtain ⟨g0, q0, q1, q2, q3⟩ := some_str h
  have hE : getSE s.data.toList = 9 := by unfold getSE; rw [if_neg q0, if_pos h1]
  have HE := Lib.hid hE
  have hB := Blk.new w 25 sglZ
  have hG := only_alloc (World.grownBy.refl w none) (.cells sglZ 25)
  have g1 : ((((s[0]'g0).toNat : Int)) != 0) = true := by
    rw [← q3]
    simp only [bne_iff_ne, ne_eq]
    intro e
    exact h1 (UInt8.toNat_inj.1 (by simpa using e))
  have HG := Lib.hid hG; have HB := Lib.hid hB
  clear hG hB hE h h1 q0 q3
  go_enter Tryz.func14, Tryz.ntmps14
  go_wp2_with fail
  refine bodyPost_ret (results_ct (fn := Tryz.f14) rfl _ _ _ _ rfl (load_sgl HB.out)) rfl ?_
  exact SglEnd.bad HE.out (by decide) HG.out
set_option maxRecDepth 100000 in
set_option maxHeartbeats 2000000 in
theorem getR16_dec (s : ByteArray) (hs : s.size ≤ 9223372036854775807) (w : World) (h : s ≠ ⟨#[]⟩) (h1 : s.data.toList.getD 0 0 = 0) (E : Int) (hd : decodeF (s.data.toList.drop 1) = .error E) : Calls Tryz.prog 14 #[.string s] w (SglEnd s.data.toList w) := by
  obtain ⟨g0, q0, q1, q2, q3⟩ := some_str h
  have hE : getSE s.data.toList = if E = 0 then 3 else E := by unfold getSE; rw [if_neg q0, if_neg (by rw [h1]; simp), hd]
  have hB := Blk.new w 25 sglZ
  have hG := only_alloc (World.grownBy.refl w none) (.cells sglZ 25)
  have g1 : ((((s[0]'g0).toNat : Int)) != 0) = false := by
    rw [← q3, h1]; rfl
  have hz : (s.extract 1 s.size).size ≤ 9223372036854775807 := by simp; omega
  have hdec := fun V => decode05_any (s.extract 1 s.size) V hz
  rw [drop1] at hdec
  have HD := Lib.hid hdec; have HDE := Lib.hid hd
  have HG := Lib.hid hG; have HB := Lib.hid hB; have HE := Lib.hid hE
  have g3 : (1 : Int) ≤ (s.size : Int) := by omega
  clear hG hB hE h h1 q0 q3 hdec hd hz
  go_enter Tryz.func14, Tryz.ntmps14
  go_upto_region 1 with (fail)
  obtain ⟨b, hb⟩ : ∃ b, w.heap.size = b := ⟨_, rfl⟩
  have HW := Lib.hid hb
  rw [hb] at HB ⊢
  clear hb
  generalize w.alloc (.cells #[.string ⟨#[]⟩, .int .u64 0, .string ⟨#[]⟩, .int .u64 0, .slice none 0 0] 25) = w1 at *
  go_wp2_with fail
  refine (HD.out _).mono ?_
  rintro e w2 ⟨lst, bb, sA, sn, sc, E', rfl, hg2, htail⟩
  have hEE := dec_err htail HDE.out
  subst hEE
  obtain ⟨_, hne⟩ : decodeF (s.data.toList.drop 1) = .error E' ∧ E' ≠ 0 := by
    rcases htail with ⟨x, k1, _⟩ | ⟨k1, k2, _⟩
    · rw [HDE.out] at k1; cases k1
    · exact ⟨k1, k2⟩
  have hB2 := HB.out.grown hg2 (by simp)
  have HG2 := Lib.hid (only_alloc (grown_self HG.out hg2 (by simp)) (.cells #[.bool lst, .string bb, .slice sA sn sc] 40))
  have HB3 := Lib.hid (hB2.alloc (.cells #[.bool lst, .string bb, .slice sA sn sc] 40))
  have e1 : (E' != 0) = true := by simpa using hne
  have HE2 := Lib.hid (HE.out.trans (if_neg hne)); have HNE := Lib.hid hne
  clear hne htail hg2 hB2 HE HDE HD HG HB g1 g3
  go_upto_region 6 with (fail)
  have T2 := Lib.hid (blk_set5 HB3.out (.string ⟨#[]⟩) (.int .u64 0) (.string ⟨#[]⟩) (.int .u64 0) (.slice none 0 0))
  have T4 := Lib.hid (only_set5 HG2.out (Nat.le_of_eq HW.out) (.string ⟨#[]⟩) (.int .u64 0) (.string ⟨#[]⟩) (.int .u64 0) (.slice none 0 0))
  generalize w2.alloc (.cells #[.bool lst, .string bb, .slice sA sn sc] 40) = w3 at *
  have c0 := HB3.out.cell 0; have c1 := HB3.out.cell 1; have c2 := HB3.out.cell 2; have c3 := HB3.out.cell 3; have c4 := HB3.out.cell 4
  have f0 := HB3.out.frozen 0; have f1 := HB3.out.frozen 1; have f2 := HB3.out.frozen 2; have f3 := HB3.out.frozen 3; have f4 := HB3.out.frozen 4
  simp only [List.getElem?_toArray, List.getElem?_cons_zero, List.getElem?_cons_succ] at c0 c1 c2 c3 c4
  clear HB3 HG2
  go_wp2_with fail
  refine bodyPost_ret (results_ct (fn := Tryz.f14) rfl _ _ _ _ rfl (load_sgl T2.out)) rfl ?_
  exact SglEnd.bad HE2.out HNE.out T4.out
set_option maxRecDepth 100000 in
set_option maxHeartbeats 2000000 in
theorem getR16_list (s : ByteArray) (hs : s.size ≤ 9223372036854775807) (w : World) (h : s ≠ ⟨#[]⟩) (h1 : s.data.toList.getD 0 0 = 0) (x : Itm) (hd : decodeF (s.data.toList.drop 1) = .ok x) (hL : (if x.list then textE x.items.length 5 5 else 2) ≠ 0) : Calls Tryz.prog 14 #[.string s] w (SglEnd s.data.toList w) := by
  obtain ⟨g0, q0, q1, q2, q3⟩ := some_str h
  have hE : getSE s.data.toList = (if x.list then textE x.items.length 5 5 else 2) := by unfold getSE; rw [if_neg q0, if_neg (by rw [h1]; simp), hd]; exact if_pos hL
  have hB := Blk.new w 25 sglZ
  have hG := only_alloc (World.grownBy.refl w none) (.cells sglZ 25)
  have g1 : ((((s[0]'g0).toNat : Int)) != 0) = false := by
    rw [← q3, h1]; rfl
  have hz : (s.extract 1 s.size).size ≤ 9223372036854775807 := by simp; omega
  have hdec := fun V => decode05_any (s.extract 1 s.size) V hz
  rw [drop1] at hdec
  have HD := Lib.hid hdec; have HDE := Lib.hid hd
  have HG := Lib.hid hG; have HB := Lib.hid hB; have HE := Lib.hid hE
  have g3 : (1 : Int) ≤ (s.size : Int) := by omega
  clear hG hB hE h h1 q0 q3 hdec hd hz
  go_enter Tryz.func14, Tryz.ntmps14
  go_upto_region 1 with (fail)
  obtain ⟨b, hb⟩ : ∃ b, w.heap.size = b := ⟨_, rfl⟩
  have HW := Lib.hid hb
  rw [hb] at HB ⊢
  clear hb
  generalize w.alloc (.cells #[.string ⟨#[]⟩, .int .u64 0, .string ⟨#[]⟩, .int .u64 0, .slice none 0 0] 25) = w1 at *
  go_wp2_with fail
  refine (HD.out _).mono ?_
  rintro e w2 ⟨lst, bb, sA, sn, sc, E', rfl, hg2, htail⟩
  obtain ⟨rfl, rfl, rfl, hsub⟩ := dec_ok htail HDE.out
  have hn : x.items.length = sn := hsub.row.1.symm
  rw [hn] at HE hL
  have hlist := fun V => getListR_any x.list x.bytes sA sn sc 5 5 V
  obtain ⟨F, hF⟩ : ∃ F, (if x.list then textE sn 5 5 else 2) = F := ⟨_, rfl⟩
  obtain ⟨u, hu⟩ : ∃ u, (if x.list = true ∧ textE sn 5 5 = 0 then Value.slice sA sn sc else .slice none 0 0) = u := ⟨_, rfl⟩
  rw [hF] at HE hL hlist
  rw [hu] at hlist
  have HLI := Lib.hid hlist
  generalize x.list = lst at *
  generalize x.bytes = bb at *
  have hB2 := HB.out.grown hg2 (by simp)
  have hlt := hB2.lt
  have HG2 := Lib.hid (only_alloc (grown_self HG.out hg2 (by simp)) (.cells #[.bool lst, .string bb, .slice sA sn sc] 40))
  have HB3 := Lib.hid (hB2.alloc (.cells #[.bool lst, .string bb, .slice sA sn sc] 40))
  have hi := Blk.new w2 40 #[.bool lst, .string bb, .slice sA sn sc]
  clear htail hsub hg2 hB2 HDE HD HG HB g1 g3 hlist hu hF hn
  go_upto_region 6 with (fail)
  obtain ⟨g, hg⟩ : ∃ g, w2.heap.size = g := ⟨_, rfl⟩
  rw [hg] at hlt hi ⊢
  clear hg
  generalize w2.alloc (.cells #[.bool lst, .string bb, .slice sA sn sc] 40) = w3 at *
  have i0 := hi.cell 0; have i1 := hi.cell 1; have i2 := hi.cell 2
  simp only [List.getElem?_toArray, List.getElem?_cons_zero, List.getElem?_cons_succ] at i0 i1 i2
  go_wp2_with fail
  refine (HLI.out _).mono ?_
  rintro e w4 ⟨rfl, hg4⟩
  have hB4 := HB3.out.grown hg4 (by simp)
  have T2 := Lib.hid (blk_set5 hB4 (.string ⟨#[]⟩) (.int .u64 0) (.string ⟨#[]⟩) (.int .u64 0) (.slice none 0 0))
  have T4 := Lib.hid (only_set5 (grown_self HG2.out hg4 (by simp)) (Nat.le_of_eq HW.out) (.string ⟨#[]⟩) (.int .u64 0) (.string ⟨#[]⟩) (.int .u64 0) (.slice none 0 0))
  have e1 : (F != 0) = true := by simpa using hL
  have HL := Lib.hid hL
  have c0 := hB4.cell 0; have c1 := hB4.cell 1; have c2 := hB4.cell 2; have c3 := hB4.cell 3; have c4 := hB4.cell 4
  have f0 := hB4.frozen 0; have f1 := hB4.frozen 1; have f2 := hB4.frozen 2; have f3 := hB4.frozen 3; have f4 := hB4.frozen 4
  simp only [List.getElem?_toArray, List.getElem?_cons_zero, List.getElem?_cons_succ] at c0 c1 c2 c3 c4
  clear i0 i1 i2 hi hlt HLI HB3 HG2 hL hg4 hB4
  go_wp2_with fail
  refine bodyPost_ret (results_ct (fn := Tryz.f14) rfl _ _ _ _ rfl (load_sgl T2.out)) rfl ?_
  exact SglEnd.bad HE.out HL.out T4.out
end Go.Proofs.YtagjpbcmhaekpaaGreatDoor
