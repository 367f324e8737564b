/- Data cut into frames: what it is; the document's Split. -/
import Derived.Test.YtdkijdedfpfbnaaChaK
import Derived.Test.YtdkijdedfpfbnaaKecP
namespace Go.Proofs.Ytdkijdedfpfbnaa
open Go.RowKit Go.Shelf

/-- a part of data -/
def partB (d : List UInt8) (n k : Nat) : ByteArray := ⟨((d.drop (k * n)).take n).toArray⟩
def splitN (len n : Nat) : Nat := max 1 (partsN len n)
/-- the frames of data, the last one not marked -/
def frames0 (id : ByteArray) (d : List UInt8) (n m : Nat) : List Frm := (List.range m).map fun k => ⟨id, (k : Nat), partB d n k, false⟩
def splitL0 (id : ByteArray) (d : List UInt8) (n : Nat) : List Frm := frames0 id d n (splitN d.length n - 1) ++ [⟨id, ((splitN d.length n - 1 : Nat) : Int), partB d n (splitN d.length n - 1), true⟩]
def splitE (id d : ByteArray) (n : Int) : Int := if n < 1 ∨ 4096 < n then 1 else if id.size ≠ 16 then 2 else if 32 * n < (d.size : Int) then 5 else 0
def splitL (id d : ByteArray) (n : Int) : List Frm := if splitE id d n = 0 then splitL0 id d.data.toList n.toNat else []
theorem frames0_succ (id : ByteArray) (d : List UInt8) (n m : Nat) : frames0 id d n (m + 1) = frames0 id d n m ++ [⟨id, (m : Int), partB d n m, false⟩] := by simp [frames0, List.range_succ]
theorem frames0_len (id : ByteArray) (d : List UInt8) (n m : Nat) : (frames0 id d n m).length = m := by simp [frames0]
theorem splitN_le {len n : Nat} (hn : 1 ≤ n) (h : len ≤ 32 * n) : 1 ≤ splitN len n ∧ splitN len n ≤ 32 := by
  unfold splitN
  have h1 : partsN len n ≤ 32 := by
    rcases Nat.lt_or_ge 32 (partsN len n) with h2 | h2
    · have := (parts_lt (len := len) hn).1 h2; omega
    · exact h2
  omega
theorem splitN_is {len n k : Nat} (hn : 1 ≤ n) (h1 : 1 ≤ k) (h2 : len ≤ k * n) (h3 : k = 1 ∨ (k - 1) * n < len) : splitN len n = k := by
  have a := fun j => parts_lt (len := len) (n := n) (k := j) hn
  have b : ¬ k < partsN len n := fun h => by have := (a k).1 h; omega
  unfold splitN
  rcases h3 with rfl | h3
  · omega
  · have := (a (k - 1)).2 h3; omega
theorem partB_ext (b : ByteArray) (n k e : Nat) (he : min (k * n + n) b.size = e) : b.extract (k * n) e = partB b.data.toList n k := by
  refine ba_ext ?_
  rw [Lib.extract_data]
  show _ = (b.data.toList.drop (k * n)).take n
  have hl := ba_len b
  by_cases h : k * n + n ≤ b.size
  · rw [← he, Nat.min_eq_left h, Nat.add_sub_cancel_left]
  · rw [← he, Nat.min_eq_right (by omega), List.take_of_length_le (by rw [List.length_drop, hl]; omega), List.take_of_length_le (by rw [List.length_drop, hl]; omega)]
theorem partB_size (d : List UInt8) (n k : Nat) : (partB d n k).size ≤ n := by
  rw [← ba_len]; show ((d.drop (k * n)).take n).length ≤ n; rw [List.length_take]; omega
/-- the mark of the last frame is set -/
theorem own_mark {w : World} {base g cap m : Nat} {xs : List Frm} {f : Frm} (hl : xs.length = m) (h : w.ownsRow base 30 4 (.slice (some ⟨g, 0, none⟩) (m + 1) cap) (m + 1) (framesV (xs ++ [f]))) :
    w.frozen? ⟨g, m * 4 + 3, none⟩ = false ∧ (∃ v, w.cell? ⟨g, m * 4 + 3, none⟩ = some v) ∧ (w.setCell ⟨g, m * 4 + 3, none⟩ (.bool true)).ownsRow base 30 4 (.slice (some ⟨g, 0, none⟩) (m + 1) cap) (m + 1) (framesV (xs ++ [⟨f.id, f.num, f.data, true⟩])) := by
  obtain ⟨cur, hb, hB, hn, hc, hz, _, hx⟩ := own_blk h
  refine ⟨hB.frozen _, ⟨_, (hB.cell _).trans (Array.getElem?_eq_getElem (by omega))⟩, own_of_blk hb (hB.set_ (m * 4 + 3) (.bool true)) hn hc (by simpa using hz) (by simp [hl]) fun j hj => ?_⟩
  rw [Array.getElem?_setIfInBounds, framesV_append]
  have hfl : (framesV xs).length = m * 4 := by rw [framesV_len, hl]
  by_cases h1 : j < m * 4
  · rw [if_neg (by omega), hx j hj, framesV_append, List.getElem?_append_left (by omega), List.getElem?_append_left (by omega)]
  · have hxj := hx j hj
    rw [framesV_append, List.getElem?_append_right (by omega), hfl] at hxj
    rw [List.getElem?_append_right (by omega), hfl]
    by_cases h3 : m * 4 + 3 = j
    · subst h3
      rw [if_pos rfl, if_pos (by omega), show m * 4 + 3 - m * 4 = 3 by omega]
      rfl
    · rw [if_neg h3, hxj]
      have : j - m * 4 = 0 ∨ j - m * 4 = 1 ∨ j - m * 4 = 2 := by omega
      rcases this with e | e | e <;> rw [e] <;> rfl
theorem own_one (w : World) (x0 x1 x2 x3 : Value) : (w.alloc (.cells #[x0, x1, x2, x3] 30)).ownsRow w.heap.size 30 4 (.slice (some ⟨w.heap.size, 0, none⟩) 1 1) 1 [x0, x1, x2, x3] :=
  ⟨rfl, .inr ⟨w.heap.size, 1, #[x0, x1, x2, x3], rfl, Nat.le_refl _, heap_alloc_new w _, Nat.le_refl _, by simp only [maxLen]; omega, rfl, rfl⟩⟩

set_option maxRecDepth 100000 in
set_option maxHeartbeats 4000000 in
theorem splitR_any (id d : ByteArray) (n : Int) (hn : -9223372036854775808 ≤ n ∧ n ≤ 9223372036854775807) (w : World) :
    Calls Try.prog 11 #[.string id, .string d, .int .i64 n] w fun e w' => ∃ v, e = .returned (.tuple #[v, .int .i64 (splitE id d n)]) ∧ w'.ownsRow w.heap.size 30 4 v (splitL id d n).length (framesV (splitL id d n)) ∧ Below w.heap.size w w' := by
  obtain ⟨i0, hi, hz0, hz1, hz2⟩ := info_parts frame_info
  by_cases h1 : n < 1 ∨ 4096 < n
  · have hE : splitE id d n = 1 := by unfold splitE; rw [if_pos h1]
    have hL : splitL id d n = [] := by unfold splitL; rw [if_neg (by rw [hE]; decide)]
    rw [hE, hL]
    clear hE hL
    go_enter Try.func11, Try.ntmps11
    by_cases h2 : n < 1
    · clear h1
      go_wp2_with fail
      go_ret2
      exact ⟨_, rfl, World.ownsRow_nil _ _ _ _, Below.refl _ _⟩
    · have h3 : 4096 < n := by omega
      have d2 : decide (n < 1) = false := decide_eq_false h2
      clear h1 h2
      go_wp2_with fail
      go_ret2
      exact ⟨_, rfl, World.ownsRow_nil _ _ _ _, Below.refl _ _⟩
  obtain ⟨m, rfl⟩ := Int.eq_ofNat_of_zero_le (show 0 ≤ n by omega)
  have hm1 : 1 ≤ m := by omega
  have hm2 : m ≤ 4096 := by omega
  have d1 : decide ((m : Int) < 1) = false := decide_eq_false (by omega)
  have d2 : decide (4096 < (m : Int)) = false := decide_eq_false (by omega)
  have d1' : decide (m < 1) = false := decide_eq_false (by omega)
  by_cases h2 : id.size = 16
  · have d3 : ((id.size : Int) != 16) = false := by simp; omega
    by_cases h3 : 32 * (m : Int) < (d.size : Int)
    · have hE : splitE id d m = 5 := by unfold splitE; rw [if_neg h1, if_neg (by omega), if_pos h3]
      have hL : splitL id d m = [] := by unfold splitL; rw [if_neg (by rw [hE]; decide)]
      rw [hE, hL]
      have HI := Lib.hid h2
      clear hE hL h1 h2
      go_enter Try.func11, Try.ntmps11
      go_wp2_with fail
      go_ret2
      exact ⟨_, rfl, World.ownsRow_nil _ _ _ _, Below.refl _ _⟩
    · have hE : splitE id d m = 0 := by unfold splitE; rw [if_neg h1, if_neg (by omega), if_neg h3]
      have hL : splitL id d m = splitL0 id d.data.toList m := by unfold splitL; rw [if_pos hE]; rfl
      rw [hE, hL]
      have hdz : d.size ≤ 32 * m := by omega
      have d4 : decide (32 * (m : Int) < (d.size : Int)) = false := decide_eq_false h3
      have d4' : decide (32 * m < d.size) = false := decide_eq_false (by omega)
      have HI := Lib.hid h2
      have hdl := ba_len d
      have HDL := Lib.hid hdl
      obtain ⟨e, he⟩ : ∃ e, min m d.size = e := ⟨_, rfl⟩
      have hex : d.extract 0 e = partB d.data.toList m 0 := by
        have := partB_ext d m 0 e (by rw [Nat.zero_mul, Nat.zero_add]; exact he)
        rwa [Nat.zero_mul] at this
      have q1 : min (m : Int) (d.size : Int) = (e : Int) := by omega
      have q2 : (e : Int) ≤ (d.size : Int) := by omega
      have HE := Lib.hid he
      clear hE hL h1 h2 h3 hdl he
      go_enter Try.func11, Try.ntmps11
      go_wp2_with fail
      have o1 : (w.alloc (.cells #[.string id, .int .i64 0, .string (partB d.data.toList m 0), .bool false] 30)).ownsRow w.heap.size 30 4 (.slice (some ⟨w.heap.size, 0, none⟩) 1 1) (0 + 1) (framesV (frames0 id d.data.toList m (0 + 1))) := own_one w (.string id) (.int .i64 0) (.string (partB d.data.toList m 0)) (.bool false)
      have b1 : Below w.heap.size w (w.alloc (.cells #[.string id, .int .i64 0, .string (partB d.data.toList m 0), .bool false] 30)) := (Below.refl _ w).alloc (Nat.le_refl _) _
      clear hex q1 q2
      generalize w.alloc (.cells #[.string id, .int .i64 0, .string (partB d.data.toList m 0), .bool false] 30) = w1 at *
      go_loopw [8, 9] (fun v a wr => ∃ j q : Nat, a = .int .i64 (q : Int) ∧ Hid (q = (j + 1) * m) ∧ j ≤ 31 ∧ q ≤ 131072 ∧ Hid (j = 0 ∨ j * m < d.size) ∧ wr.ownsRow w.heap.size 30 4 v (j + 1) (framesV (frames0 id d.data.toList m (j + 1))) ∧ Below w.heap.size w wr) (fun _ a _ => 200000 - (intOf a).toNat)
      case atStart => exact ⟨0, m, rfl, by show m = (0 + 1) * m; omega, by omega, by omega, .inl rfl, o1, b1⟩
      case round =>
        clear o1 b1
        obtain ⟨j, q, rfl, hq, hj, hqm, hjm, hown, hbe⟩ := hrel
        have hbz := hbe.size
        obtain ⟨g, cap, rfl⟩ := ownsRow_succ hown
        by_cases hlt : q < d.size
        · obtain ⟨e2, he2⟩ : ∃ e2, min (q + m) d.size = e2 := ⟨_, rfl⟩
          have q1 : min ((q : Int) + (m : Int)) (d.size : Int) = (e2 : Int) := by omega
          have q2 : (q : Int) ≤ (e2 : Int) := by omega
          have q3 : (e2 : Int) ≤ (d.size : Int) := by omega
          have hex : d.extract q e2 = partB d.data.toList m (j + 1) := by
            rw [hq.out]; exact partB_ext d m (j + 1) e2 (by rw [← hq.out]; exact he2)
          have hj2 : j + 1 ≤ 31 := by
            rcases Nat.lt_or_ge 31 (j + 1) with h5 | h5
            · have e5 : j = 31 := by omega
              have := hq.out
              rw [e5] at this
              omega
            · exact h5
          have hqn : q + m = (j + 1 + 1) * m := by have := hq.out; rw [this, ← Nat.succ_mul]
          have hqm2 : q + m ≤ 131072 := by
            rw [hqn]; exact Nat.le_trans (Nat.mul_le_mul (show j + 1 + 1 ≤ 32 by omega) hm2) (by omega)
          have hV : framesV (frames0 id d.data.toList m (j + 1 + 1)) = framesV (frames0 id d.data.toList m (j + 1)) ++ [.string id, .int .i64 ((j : Int) + 1), .string (partB d.data.toList m (j + 1)), .bool false] := by
            rw [frames0_succ, framesV_snoc]; rfl
          have HQN := Lib.hid hqn; have HV := Lib.hid hV
          have hmid : Hid (j + 1 = 0 ∨ (j + 1) * m < d.size) := Lib.hid (.inr (by rw [← hq.out]; exact hlt))
          clear hqn hV he2 hq hjm
          generalize partB d.data.toList m (j + 1) = pb at *
          go_wp2_with (at_builtin; refine wpList_append_own _ rfl _ _ 23 rfl w.heap.size 30 i0 (.agg #[.string .empty, .int .i64 0, .string .empty, .bool false]) 4 48 Try.underlying23 hi hz0 hz1 hz2 rfl (by decide) _ _ _ rfl (hown.alloc _) ⟨wr.heap.size, 0, none⟩ 1 1 [.string id, .int .i64 ((j : Int) + 1), .string pb, .bool false] rfl rfl (cell_four_new _ _ _ _ _ _) (by simp [Value.oneCell']) (by simp only [maxLen]; omega) (by omega) (by simp; omega) ?_; intro v8 w8 hown8 hgrow8 _; refine veiled ?_)
          refine ⟨?_⟩
          have hb8 : Below w.heap.size w w8 := (hbe.alloc (by omega) _).grown hgrow8 (by simp; omega) (fun k hk => own_ge hown hk)
          rw [← HV.out] at hown8
          have HO8 := Lib.hid hown8
          obtain ⟨g8, c8, rfl⟩ := ownsRow_succ hown8
          clear hown8 hgrow8 hown hbe HV hex q1 q2 q3
          go_wp2
          exact ⟨⟨j + 1, q + m, by simp, HQN, by omega, hqm2, hmid, HO8.out, hb8⟩, by simp [intOf]; omega⟩
        · have hN : splitN d.data.toList.length m = j + 1 := by
            rw [HDL.out]
            refine splitN_is hm1 (by omega) (by have := hq.out; omega) ?_
            rcases hjm.out with h5 | h5
            · left; omega
            · right; rw [Nat.add_sub_cancel]; exact h5
          have hS : splitL0 id d.data.toList m = frames0 id d.data.toList m j ++ [⟨id, (j : Int), partB d.data.toList m j, true⟩] := by unfold splitL0; rw [hN, Nat.add_sub_cancel]
          rw [frames0_succ] at hown
          obtain ⟨hfz, ⟨u, hcu⟩, hown2⟩ := own_mark (frames0_len id d.data.toList m j) hown
          rw [show (⟨(⟨id, (j : Int), partB d.data.toList m j, false⟩ : Frm).id, (⟨id, (j : Int), partB d.data.toList m j, false⟩ : Frm).num, (⟨id, (j : Int), partB d.data.toList m j, false⟩ : Frm).data, true⟩ : Frm) = ⟨id, (j : Int), partB d.data.toList m j, true⟩ from rfl, ← hS] at hown2
          have hSL : (splitL0 id d.data.toList m).length = j + 1 := by rw [hS]; simp [frames0_len]
          have hgb : w.heap.size ≤ g := own_ge hown rfl
          have hbf : Below w.heap.size w (wr.setCell ⟨g, j * 4 + 3, none⟩ (.bool true)) := hbe.setCell (p := ⟨g, j * 4 + 3, none⟩) hgb _
          have HO := Lib.hid hown2; have HSL := Lib.hid hSL; have HBF := Lib.hid hbf
          have e1 : decide ((q : Int) < (d.size : Int)) = false := decide_eq_false (by omega)
          have e2 : decide (q < d.size) = false := decide_eq_false hlt
          have e3 : (0 : Int) ≤ (j : Int) := by omega
          have e4 : (j : Int) < (j : Int) + 1 := by omega
          have e5 : (j : Int) + 1 - 1 = (j : Int) := by omega
          clear hN hS hown hown2 hSL hbf hjm hq hlt hbe HE
          go_wp2_with fail
          go_ret2
          exact ⟨_, rfl, by rw [HSL.out]; exact HO.out, HBF.out⟩
  · have d3 : ((id.size : Int) != 16) = true := by simp; omega
    have hE : splitE id d m = 2 := by unfold splitE; rw [if_neg h1, if_pos h2]
    have hL : splitL id d m = [] := by unfold splitL; rw [if_neg (by rw [hE]; decide)]
    rw [hE, hL]
    clear hE hL h1 h2
    go_enter Try.func11, Try.ntmps11
    go_wp2_with fail
    go_ret2
    exact ⟨_, rfl, World.ownsRow_nil _ _ _ _, Below.refl _ _⟩
end Go.Proofs.Ytdkijdedfpfbnaa
