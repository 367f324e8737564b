/- FrameParts: what it answers. -/
import Derived.Test.YtfafjnjdikofcaaFrmQ
namespace Go.Proofs.Ytfafjnjdikofcaa
open Go.RowKit Go.Shelf

theorem frames_cells (xs : List Frm) : ∀ u ∈ framesV xs, u.oneCell' = true := by
  intro u hu
  unfold framesV at hu
  obtain ⟨f, _, hu⟩ := List.mem_flatMap.1 hu
  simp only [Frm.cells, List.mem_cons, List.not_mem_nil, or_false] at hu
  rcases hu with rfl | rfl | rfl | rfl <;> rfl
theorem framesV_append (xs ys : List Frm) : framesV (xs ++ ys) = framesV xs ++ framesV ys := List.flatMap_append
theorem own_emptyF (w : World) : (w.alloc (.cells #[] 24)).ownsRow w.heap.size 24 4 (.slice (some ⟨w.heap.size, 0, none⟩) 0 0) 0 [] :=
  ⟨rfl, .inr ⟨w.heap.size, 0, #[], rfl, Nat.le_refl _, heap_alloc_new w _, Nat.le_refl _, by simp only [maxLen]; omega, rfl, rfl⟩⟩
theorem next_at (xs r : List Frm) (k : Nat) (hk : k < xs.length) (h : ∀ f ∈ xs, checkF f = 0) :
    nextF (0 :: (xs.flatMap bytesF ++ r.flatMap bytesF)) ((1 + cutAt (xs.take k) : Nat) : Int) = (xs[k], ((1 + cutAt (xs.take k) : Nat) : Int) + 23 + xs[k].data.size, 0) := by
  have hc := h _ (List.getElem_mem hk)
  have hd : (0 :: (xs.flatMap bytesF ++ r.flatMap bytesF)).drop (1 + cutAt (xs.take k)) = bytesF xs[k] ++ ((xs.drop (k + 1)).flatMap bytesF ++ r.flatMap bytesF) := by
    rw [← flat_len, Nat.add_comm, List.drop_succ_cons, flat_split xs k hk, List.append_assoc, List.drop_left, List.append_assoc]
  rw [nextF_T _ _ (by
    have := congrArg List.length (flat_split xs k hk)
    simp only [List.length_cons, List.length_append, flat_len] at this ⊢
    omega), hd, nextT_back _ _ hc]
  simp only [if_true, bytesF_len _ hc]
  rw [Int.natCast_add (23 : Nat), ← Int.add_assoc]
  rfl
theorem put_both (xs ys : List Frm) (h : putE xs = 0) (h' : putE ys = 0) (hl : xs.length + ys.length ≤ 32) : putE (xs ++ ys) = 0 ∧ putL (xs ++ ys) = putL xs ++ (putL ys).drop 1 := by
  obtain ⟨p1, p2, p3, p4⟩ := put_ok xs h
  obtain ⟨q1, q2, q3, q4⟩ := put_ok ys h'
  have hp : putE (xs ++ ys) = 0 := ok_put _ (by
    intro f hf
    rcases List.mem_append.1 hf with hf | hf
    · exact p1 f hf
    · exact q1 f hf) (by simp; omega) (by simp; omega)
  refine ⟨hp, ?_⟩
  rw [(put_ok _ hp).2.2.2, p4, q4]
  simp

set_option maxRecDepth 100000 in
set_option maxHeartbeats 4000000 in
theorem parts_law (A A' : Option Addr) (n m c d : Nat) (xs ys : List Frm) (w : World) (h : Reads w w.heap.size 4 A n (framesV xs)) (h' : Reads w w.heap.size 4 A' m (framesV ys)) (hn : n ≤ maxLen) (hm : m ≤ maxLen) :
    Calls Try.prog 6 #[.slice A n c, .slice A' m d] w fun e w' => e = .returned (.bool true) ∧ Below w.heap.size w w' := by
  unfold maxLen at hn hm
  obtain ⟨i0, hi, hz0, hz1, hz2⟩ := info_parts frame_info
  have hl : xs.length = n := by have := h.1; rw [framesV_len] at this; omega
  have hl' : ys.length = m := by have := h'.1; rw [framesV_len] at this; omega
  obtain ⟨b, hb⟩ : ∃ b, fewF xs = b := ⟨_, rfl⟩
  obtain ⟨b', hb'⟩ : ∃ b, fewF ys = b := ⟨_, rfl⟩
  have hnf : b = true → n ≤ 40 := by
    rintro rfl
    unfold fewF at hb
    simp only [Bool.and_eq_true, decide_eq_true_eq] at hb
    omega
  have hmf : b' = true → m ≤ 40 := by
    rintro rfl
    unfold fewF at hb'
    simp only [Bool.and_eq_true, decide_eq_true_eq] at hb'
    omega
  obtain ⟨S, hS⟩ : ∃ S : ByteArray, (⟨(putL xs).toArray⟩ : ByteArray) = S := ⟨_, rfl⟩
  obtain ⟨S', hS'⟩ : ∃ S : ByteArray, (⟨(putL ys).toArray⟩ : ByteArray) = S := ⟨_, rfl⟩
  obtain ⟨T, hT⟩ : ∃ S : ByteArray, (⟨(putL (xs ++ ys)).toArray⟩ : ByteArray) = S := ⟨_, rfl⟩
  obtain ⟨E, hE⟩ : ∃ e, putE xs = e := ⟨_, rfl⟩
  obtain ⟨E', hE'⟩ : ∃ e, putE ys = e := ⟨_, rfl⟩
  obtain ⟨G, hG⟩ : ∃ e, putE (xs ++ ys) = e := ⟨_, rfl⟩
  have hSl : S.data.toList = putL xs := by rw [← hS]
  have hSl' : S'.data.toList = putL ys := by rw [← hS']
  have hTl : T.data.toList = putL (xs ++ ys) := by rw [← hT]
  have hSz : S.size ≤ 131809 := by rw [← ba_len, hSl]; exact putL_len xs
  have hSz' : S'.size ≤ 131809 := by rw [← ba_len, hSl']; exact putL_len ys
  have hTz : T.size ≤ 131809 := by rw [← ba_len, hTl]; exact putL_len _
  have H1 := Lib.hid hl; have H2 := Lib.hid hl'; have HB := Lib.hid hb; have HB' := Lib.hid hb'; have HS := Lib.hid hS; have HS' := Lib.hid hS'; have HT := Lib.hid hT; have HE := Lib.hid hE; have HE' := Lib.hid hE'; have HG := Lib.hid hG
  have HSL := Lib.hid hSl; have HSL' := Lib.hid hSl'; have HTL := Lib.hid hTl
  have HNF := Lib.hid hnf; have HMF := Lib.hid hmf
  clear hl hl' hb hb' hS hS' hT hE hE' hG hSl hSl' hTl hnf hmf
  go_enter Try.func6, Try.ntmps6
  go_wp2_with fail
  refine (works_any _).mono ?_
  rintro e w1 ⟨rfl, hb1⟩
  go_wp2_with fail
  refine (few_is w.heap.size A n c xs b HB.out w1 (h.below hb1)).mono ?_
  rintro e w' ⟨rfl, rfl⟩
  cases b
  · go_wp2_with fail
    go_ret
    exact ⟨rfl, hb1⟩
  go_wp2_with fail
  refine (few_is w.heap.size A' m d ys b' HB'.out w1 (h'.below hb1)).mono ?_
  rintro e w' ⟨rfl, rfl⟩
  cases b'
  · go_wp2_with fail
    go_ret
    exact ⟨rfl, hb1⟩
  have hn40 : n ≤ 40 := by first | exact HNF.out rfl | exact HNF.out trivial
  have hm40 : m ≤ 40 := by first | exact HMF.out rfl | exact HMF.out trivial
  clear HNF HMF hn hm
  go_wp2_with fail
  refine (put_is w.heap.size A n c xs S E HS.out HE.out w1 hb1.size (h.below hb1)).mono ?_
  rintro e w2 ⟨rfl, hg⟩
  have hb2 := Below.then_grown hb1 hg
  clear hg hb1
  go_wp2_with fail
  refine (put_is w.heap.size A' m d ys S' E' HS'.out HE'.out w2 hb2.size (h'.below hb2)).mono ?_
  rintro e w3 ⟨rfl, hg⟩
  have hb3 := Below.then_grown hb2 hg
  clear hg hb2
  have o1 := own_emptyF w3
  have hr2 := h.below (hb3.alloc hb3.size (.cells #[] 24))
  have hs3 := hb3.size
  go_wp2_with (at_builtin; refine wpList_append_any _ rfl _ _ 22 rfl w3.heap.size 24 i0 (.agg #[.string .empty, .int .i64 0, .string .empty, .bool false]) 4 48 Try.underlying22 hi hz0 hz1 hz2 rfl (by decide) _ _ _ rfl o1 w.heap.size A n c (framesV xs) rfl hr2 (frames_cells xs) (by simp only [maxLen]; omega) (by omega) (by simp) ?_; intro v4 w4 hown4 hgrow4 _; refine veiled ?_)
  refine ⟨?_⟩
  have hg4 : w3.grownBy w4 none := grown_self (only_alloc (World.grownBy.refl w3 none) _) hgrow4 (fun k hk => .inr (own_ge o1 hk))
  have hb4 : Below w.heap.size w w4 := Below.then_grown hb3 hg4
  have hs4 := hb4.size
  have hs34 := hg4.size
  have hr4 := h'.below hb4
  obtain ⟨A4, c4, rfl⟩ := own_slice4 hown4
  clear o1 hr2 hgrow4
  go_wp2_with (at_builtin; refine wpList_append_any _ rfl _ _ 22 rfl w3.heap.size 24 i0 (.agg #[.string .empty, .int .i64 0, .string .empty, .bool false]) 4 48 Try.underlying22 hi hz0 hz1 hz2 rfl (by decide) _ _ _ rfl hown4 w.heap.size A' m d (framesV ys) rfl hr4 (frames_cells ys) (by simp only [maxLen]; omega) (by omega) (by omega) ?_; intro v5 w5 hown5 hgrow5 _; refine veiled ?_)
  refine ⟨?_⟩
  have hb5 : Below w.heap.size w w5 := hb4.grown hgrow5 hs4 (fun k hk => by have := own_ge hown4 hk; omega)
  obtain ⟨A5, c5, rfl⟩ := own_slice4 hown5
  have hr5 := Reads.of_own hown5
  rw [List.nil_append, ← framesV_append, Nat.zero_add] at hr5
  have hp5 := put_is w5.heap.size A5 (n + m) c5 (xs ++ ys) T G HT.out HG.out w5 (Nat.le_refl _) hr5
  simp only [Nat.zero_add]
  clear hown4 hown5 hgrow5 hr4 hr5 hg4 hb4 hs4 hs34 hb3 hs3
  go_wp2_with fail
  refine hp5.mono ?_
  rintro e w6 ⟨rfl, hg⟩
  have hb6 := Below.then_grown hb5 hg
  clear hg hb5 hp5
  by_cases h0 : E = 0
  · subst h0
    by_cases h0' : E' = 0
    · subst h0'
      by_cases hnm : 32 < n + m
      · have hG5 : G = 5 := by
          rw [← HG.out]; unfold putE
          rw [List.length_append, H1.out, H2.out, if_neg (by omega), if_pos hnm]
        subst hG5
        have d1 : (32 : Int) < (n : Int) + (m : Int) := by omega
        go_wp2_with fail
        go_ret
        exact ⟨by simp, hb6⟩
      · obtain ⟨p1, p2⟩ := put_both xs ys HE.out HE'.out (by have := H1.out; have := H2.out; omega)
        have hG0 : G = 0 := by rw [← HG.out, p1]
        subst hG0
        obtain ⟨x1, x2, x3, x4⟩ := put_ok xs HE.out
        obtain ⟨y1, y2, y3, y4⟩ := put_ok ys HE'.out
        have hS'1 : 1 ≤ S'.size := by rw [← ba_len, HSL'.out, y4]; simp
        have hcat : S ++ S'.extract 1 S'.size = T := by
          refine ba_ext ?_
          rw [ba_toList, Lib.extract_data, HSL.out, HSL'.out, HTL.out, p2, List.take_of_length_le]
          rw [List.length_drop, ← HSL'.out, ba_len]
          omega
        have hTl : T.data.toList = 0 :: (xs.flatMap bytesF ++ ys.flatMap bytesF) := by rw [HTL.out, p2, x4, y4]; simp
        have hSs : S.size = 1 + cutAt xs := by rw [← ba_len, HSL.out, x4, List.length_cons, flat_len]; omega
        have hcl := (cutAt_le xs x1).2
        have hcl2 : cutAt xs ≤ 131808 := by omega
        have d1 : decide ((32 : Int) < (n : Int) + (m : Int)) = false := by simp; omega
        have d1' : decide (32 < n + m) = false := by simp; omega
        have d2 : decide ((S'.size : Int) < 1) = false := by simp; omega
        have d2' : decide (S'.size < 1) = false := decide_eq_false (by omega)
        have d3 : (1 : Int) ≤ (S'.size : Int) := by omega
        have HX1 := Lib.hid x1; have HSS := Lib.hid hSs; have HTT := Lib.hid hTl
        have h6 := h.below hb6
        have HB6 := Lib.hid hb6
        clear p1 p2 x1 x2 x3 x4 y1 y2 y3 y4 hSs hTl hcl hnm hb6
        go_wp2_with fail
        go_loopw [13, 14] (fun a i wr => ∃ k q : Nat, i = .int .i64 (k : Int) ∧ a = .int .i64 (q : Int) ∧ k ≤ n ∧ q ≤ 131809 ∧ Hid (q = 1 + cutAt (xs.take k)) ∧ Hid (Below w.heap.size w wr)) (fun _ i _ => n - (intOf i).toNat)
        case atStart => exact ⟨0, 1, rfl, rfl, by omega, by omega, rfl, HB6.out⟩
        case round =>
          obtain ⟨k, q, rfl, rfl, hk, hq, hqq, hBB⟩ := hrel
          by_cases hkn : k < n
          · obtain ⟨b, off, hA, hbb, hcc⟩ := (h.below hBB.out).frames hkn
            subst hA
            have hxk : xs.getD k Frm.none_ = xs[k]'(by have := H1.out; omega) := by rw [List.getD_eq_getElem?_getD, List.getElem?_eq_getElem (by have := H1.out; omega)]; rfl
            have hck := HX1.out _ (List.getElem_mem (l := xs) (n := k) (by have := H1.out; omega))
            have hbl := bytesF_len _ hck
            have hcs := cutAt_succ xs k (by have := H1.out; omega)
            have hd4 := (check_ok hck).2.2.2
            have hnx := next_at xs ys k (by have := H1.out; omega) HX1.out
            rw [← hqq.out, ← HTT.out] at hnx
            rw [hbl] at hcs
            obtain ⟨c0, c1, c2, c3⟩ := hcc k hkn
            rw [← hxk] at hcs hd4 hnx
            have heq := fun W => eq_frame (xs.getD k Frm.none_) (xs.getD k Frm.none_) W
            rw [decide_eq_true rfl] at heq
            generalize xs.getD k Frm.none_ = f at *
            have hlt6 : b < wr.heap.size := Nat.lt_of_lt_of_le hbb hBB.out.size
            have hcut6 : q + 23 + f.data.size ≤ 131809 := by
              have e1 := hqq.out
              have e2 : cutAt (xs.take (k + 1)) ≤ cutAt xs := by
                rw [← flat_len, ← flat_len]
                conv => rhs; rw [← List.take_append_drop (k + 1) xs, List.flatMap_append]
                simp
              omega
            have HCS := Lib.hid hcs
            have hnext := fun W => next_is T (q : Int) f _ _ hnx (by omega) W
            clear hcc hxk hck hbl hcs hnx
            obtain ⟨id, num, data, last⟩ := f
            simp only at heq hnext hd4 hcut6
            have q0 : (k : Int) < (n : Int) := by omega
            go_wp2_with fail
            refine (hnext _).mono ?_
            rintro e w7 ⟨rfl, hg⟩
            have hb7 := Below.then_grown hBB.out hg
            have hbx : Below wr.heap.size wr (w7.alloc (.cells #[.string id, .int .i64 num, .string data, .bool last] 24)) := (below_of_grown hg).alloc hg.size _
            have g0 := (hbx.cell (p := ⟨b, off + k * 4, none⟩) hlt6).trans c0
            have g1 := (hbx.cell (p := ⟨b, off + k * 4 + 1, none⟩) hlt6).trans c1
            have g2 := (hbx.cell (p := ⟨b, off + k * 4 + 2, none⟩) hlt6).trans c2
            have g3 := (hbx.cell (p := ⟨b, off + k * 4 + 3, none⟩) hlt6).trans c3
            have hne : ¬ w7.heap.size = b := by have := hg.size; omega
            have hne' : b < w7.heap.size := by have := hg.size; omega
            have e9 : IntKind.i64.wrap ((q : Int) + 23 + (data.size : Int)) = (q : Int) + 23 + (data.size : Int) := IntWalk.i64_in _ (by omega)
            have e8 : IntKind.i64.wrap ((q : Int) + 23) = (q : Int) + 23 := IntWalk.i64_in _ (by omega)
            have hb8 : Below w.heap.size w (w7.alloc (.cells #[.string id, .int .i64 num, .string data, .bool last] 24)) := hb7.alloc hb7.size _
            have HB8 := Lib.hid hb8
            clear hnext hg hb7 hbx hb8 c0 c1 c2 c3
            go_wp2_with fail
            go_quiet (fail)
            go_wp2
            go_roundw
            case rel => exact ⟨k + 1, q + 23 + data.size, by simp, by simp, by omega, by omega, by
              refine Lib.hid ?_
              have e1 := HCS.out
              have e2 := hqq.out
              try simp only at e1
              omega, below_drewN HB8.out _⟩
            case measure => simp [intOf]; omega
          · have e : xs.take k = xs := List.take_of_length_le (by have := H1.out; omega)
            have hfin : (q : Int) = (S.size : Int) := by
              have e2 := hqq.out
              rw [e] at e2
              have := HSS.out
              omega
            have HBB := Lib.hid hBB.out
            have hkk : (n : Int) ≤ (k : Int) := by omega
            have hkk2 : decide ((k : Int) < (n : Int)) = false := by simp; omega
            have hkk3 : decide (k < n) = false := by simp; omega
            clear e hqq hBB hkn
            go_wp2_with fail
            go_ret
            exact ⟨by simp, HBB.out⟩
    · have d1 : (E' != 0) = true := by simpa using h0'
      go_wp2_with fail
      go_ret
      exact ⟨rfl, hb6⟩
  · have d1 : (E != 0) = true := by simpa using h0
    go_wp2_with fail
    go_ret
    exact ⟨rfl, hb6⟩
end Go.Proofs.Ytfafjnjdikofcaa
