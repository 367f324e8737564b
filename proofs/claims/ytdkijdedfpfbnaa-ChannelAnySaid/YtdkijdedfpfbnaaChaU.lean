/- ChannelAny: what it answers. -/
import Derived.Test.YtdkijdedfpfbnaaChaT
namespace Go.Proofs.Ytdkijdedfpfbnaa
open Go.RowKit Go.Shelf

set_option maxRecDepth 100000 in
set_option maxHeartbeats 4000000 in
theorem any_law (id d : ByteArray) (n : Int) (A : Option Addr) (no c : Nat) (os : List Int) (hid : id.size ≤ 9223372036854775807) (hd : d.size ≤ 9223372036854775807) (hn : -9223372036854775808 ≤ n ∧ n ≤ 9223372036854775807) (w : World)
    (h : Reads w w.heap.size 1 A no (os.map (Value.int .u8))) (hos : ∀ y ∈ os, 0 ≤ y ∧ y ≤ 255) (hno : no ≤ 9223372036854775807) :
    Calls Try.prog 6 #[.string id, .string d, .int .i64 n, .slice A no c] w fun e w' => e = .returned (.bool true) ∧ Below w.heap.size w w' := by
  have hol : os.length = no := by have := h.1; simp at this; omega
  have hoy : ∀ j, j < no → 0 ≤ os.getD j 0 ∧ os.getD j 0 ≤ 255 := by
    intro j hj
    rw [List.getD_eq_getElem?_getD, List.getElem?_eq_getElem (by omega)]
    exact hos _ (List.getElem_mem _)
  clear hos hol
  obtain ⟨E, hE⟩ : ∃ E, splitE id d n = E := ⟨_, rfl⟩
  obtain ⟨L, hL⟩ : ∃ L, splitL id d n = L := ⟨_, rfl⟩
  obtain ⟨N, hk⟩ : ∃ k, L.length = k := ⟨_, rfl⟩
  have s1 := fun W => split_is id d n E L N hE hL hk hn W
  have HE := Lib.hid hE; have HL := Lib.hid hL; have HK := Lib.hid hk; have HOY := Lib.hid hoy
  clear hE hL hk hoy
  go_enter Try.func6, Try.ntmps6
  go_wp2_with fail
  refine (works_any _).mono ?_
  rintro e w1 ⟨rfl, hb1⟩
  by_cases h1 : id.size ≤ 100
  · have d1 : decide ((100 : Int) < (id.size : Int)) = false := decide_eq_false (by omega)
    have d1' : decide (100 < id.size) = false := decide_eq_false (by omega)
    by_cases h2 : d.size ≤ 600
    · have d2 : decide ((600 : Int) < (d.size : Int)) = false := decide_eq_false (by omega)
      have d2' : decide (600 < d.size) = false := decide_eq_false (by omega)
      by_cases h3 : no ≤ 100
      · have d3 : decide ((100 : Int) < (no : Int)) = false := decide_eq_false (by omega)
        have d3' : decide (100 < no) = false := decide_eq_false (by omega)
        go_wp2_with fail
        refine (s1 w1).mono ?_
        rintro e w2 ⟨A2, c2, rfl, ho2, hb⟩
        have hb2 := Below.then hb1 hb
        have R2 : CarR w2 w2.heap.size 4 A2 N (framesV L) := ⟨Nat.le_refl _, Reads.of_own ho2⟩
        clear hb1 hb s1 ho2 d1 d1' d2 d2' d3 d3'
        by_cases hE0 : E = 0
        · obtain ⟨m, rfl, hm1, hm2, hi16, hLL, hN32⟩ := splitE_ok (HE.out.trans hE0)
          rw [HL.out] at hLL
          have hNN : N = splitN d.data.toList.length m := by rw [← HK.out, hLL, splitL0_len]
          rw [← hNN] at hN32
          have hN1 : 1 ≤ N := by rw [hNN]; unfold splitN; omega
          have hj := splitL0_join id d.data.toList m hm1 hi16 hm2 (by omega)
          have ht := splitL0_told id d.data.toList m hi16 hm2 (by omega)
          have hwh := splitL0_whole id d.data.toList m
          rw [← hLL] at hj ht hwh
          have hrd := fun M => metL_ready ht M hwh
          rw [HK.out, hj.2] at hrd
          have HT := Lib.hid ht; have HRD := Lib.hid hrd
          have z1 : (E != 0) = false := by simpa using hE0
          have z2 : ((N : Int) == 0) = false := by simp; omega
          have z2' : (N == 0) = false := by simp; omega
          have z3 : ¬ N = 0 := by omega
          subst hE0
          have hra : ((List.replicate N false).map Value.bool).toArray = Array.replicate N (Value.bool false) := by simp
          have hmk := fun W => make_bools N (by omega) W
          rw [hra] at hmk
          have h' := h.below hb2
          clear HE HL hLL hNN hj ht hwh hrd hi16 hd hn h1 h2
          go_wp2_with fail
          have bk := Blk.new w2 4 (Array.replicate N (Value.bool false))
          have hbw : Below w2.heap.size w2 (w2.alloc (.cells (Array.replicate N (Value.bool false)) 4)) := (Below.refl _ _).alloc (Nat.le_refl _) _
          have hsz : (w2.alloc (.cells (Array.replicate N (Value.bool false)) 4)).heap.size = w2.heap.size + 1 := by simp
          generalize w2.alloc (.cells (Array.replicate N (Value.bool false)) 4) = w3 at *
          have hb3 := Below.then hb2 hbw
          have R3 := R2.step hbw
          have hwB := hb2.size
          rw [← hra] at bk
          clear R2 hbw hb2 hmk h' hra
          generalize w2.heap.size = B at *
          go_loopw [12, 14, 15] (fun s y i wr => ∃ (j hn : Nat) (M : List Bool) (A5 : Option Addr) (c5 : Nat), s = .slice A5 hn c5 ∧ y = .int .i64 (hn : Int) ∧ i = .int .i64 (j : Int) ∧ j ≤ no + N ∧ M.length = N ∧ Hid (∀ k, no + k < j → M.getD k false = true) ∧ Hid ((metL L M).length = hn) ∧ hn ≤ N ∧ Below w.heap.size w wr ∧ Below B w3 wr ∧ Blk wr B 4 (M.map Value.bool).toArray ∧ Reads wr wr.heap.size 4 A5 hn (framesV (metL L M))) (fun _ _ i _ => no + N - (intOf i).toNat)
          case atStart =>
            refine ⟨0, 0, List.replicate N false, none, 0, rfl, rfl, rfl, by omega, by simp, Lib.hid (fun k hk => absurd hk (by omega)), Lib.hid (by rw [metL_none]; rfl), by omega, hb3, Below.refl _ _, bk, ?_⟩
            rw [metL_none]
            exact Reads.none_
          case round =>
            obtain ⟨j, hn, M, A5, c5, rfl, rfl, rfl, hj, hM, hall, hlen, hnN, hbw, hbB, bk, R5⟩ := hrel
            clear hb3
            have hRO := h.below hbw
            have hRL := R3.reads.below hbB
            by_cases hlt : j < no + N
            · have q0 : (j : Int) < (no : Int) + (N : Int) := by omega
              by_cases hjo : j < no
              · obtain ⟨bo, off, rfl, _, hco⟩ := hRO.ints hjo
                have o1 := hco j hjo
                obtain ⟨y0, y1⟩ := HOY.out j hjo
                generalize os.getD j 0 = y at *
                obtain ⟨z, rfl⟩ := Int.eq_ofNat_of_zero_le y0
                obtain ⟨k, hk⟩ : ∃ k, z % N = k := ⟨_, rfl⟩
                have hkN : k < N := by rw [← hk]; exact Nat.mod_lt _ (by omega)
                have m1 : (z : Int).tmod (N : Int) = (k : Int) := by rw [← hk]; rfl
                have m2 : (z : Int) % (N : Int) = (k : Int) := by rw [← hk]; rfl
                have m3 : IntKind.i64.wrap (z : Int) = (z : Int) := IntWalk.i64_in _ (by omega)
                have m4 : IntKind.i64.wrap (k : Int) = (k : Int) := IntWalk.i64_in _ (by omega)
                have m5 : ¬ (N : Int) = 0 := by omega
                have m6 : decide ((j : Int) - (no : Int) < 0) = true := decide_eq_true (by omega)
                have m7 : (j : Int) - (no : Int) < 0 := by omega
                have m7' : (j : Int) < (no : Int) := by omega
                have m8 : IntKind.i64.wrap ((j : Int) - (no : Int)) = (j : Int) - (no : Int) := IntWalk.i64_in _ (by omega)
                have hnx : ∀ k', no + k' < j + 1 → (M.set k true).getD k' false = true := fun k' hk' => absurd hk' (by omega)
                clear hco hk y0
                have cb := bools_cell bk (k := k) (by omega)
                obtain ⟨b, off2, hA2, hbB2, hc⟩ := hRL.frames hkN
                subst hA2
                obtain ⟨x0, x1, x2, x3⟩ := hc k hkN
                have p0 : (k : Int) < (N : Int) := by omega
                have HNX := Lib.hid hnx
                have hL1 : k < L.length := by rw [HK.out]; exact hkN
                have hM1 : M.length = L.length := by rw [HK.out]; exact hM
                obtain ⟨b0, hb0⟩ : ∃ b, M.getD k false = b := ⟨_, rfl⟩
                rw [hb0] at cb
                cases b0
                · obtain ⟨t1, t2, t3⟩ := metL_new HT.out hM1 hL1 hb0
                  rw [hlen.out] at t3
                  have hle : hn + 1 ≤ N := by rw [← HK.out, ← t3]; exact (metL_sub L _).length_le
                  have ad := fun W hB hR => add_is wr.heap.size A5 hn c5 (metL L M) (L.getD k Frm.none_) 0 _ (hn + 1) t1 t2 t3 W hB hR (by omega)
                  generalize L.getD k Frm.none_ = f at *
                  obtain ⟨fi, fn, fd, fl⟩ := f
                  simp only at x0 x1 x2 x3 ad
                  have h3 : B ≤ wr.heap.size := Nat.le_of_lt bk.lt
                  clear t1 t2 hb0 hM1 hL1 hc hRL hRO hnx
                  go_wp2_with fail
                  refine (ad wr (Nat.le_refl _) R5).mono ?_
                  rintro e w5 ⟨A6, c6, rfl, R6, hb⟩
                  have hbw5 := Below.then hbw hb
                  have hbB5 := hbB.trans (hb.mono h3)
                  have bk5 := bk.below hb bk.lt
                  replace cb := (hb.cell (p := ⟨B, k, none⟩) bk.lt).trans cb
                  have hfz := bk5.frozen k
                  clear ad hb hbw hbB bk R5 x0 x1 x2 x3
                  go_wp2_with fail
                  have R7 := reads_apart (k := k) (v := .bool true) R6.reads bk5
                  have bk6 := bools_set (k := k) bk5
                  have hbw6 := hbw5.setCell (p := ⟨B, k, none⟩) (by show w.heap.size ≤ B; exact hwB) (.bool true)
                  have hbB6 := hbB5.setCell (p := ⟨B, k, none⟩) (Nat.le_refl _) (.bool true)
                  have hz6 : (w5.setCell ⟨B, k, none⟩ (.bool true)).heap.size = w5.heap.size := by simp [World.setCell]
                  rw [← hz6] at R7
                  generalize w5.setCell ⟨B, k, none⟩ (.bool true) = w6 at *
                  clear R6 bk5 hbw5 hbB5 hz6 hfz cb
                  have hrd := HRD.out (M.set k true)
                  rw [t3] at hrd
                  obtain ⟨r1, r2, r3⟩ := hrd
                  by_cases hful : (hn + 1) = N
                  · rw [hful] at t3
                    have g1 : (hn : Int) + 1 = (N : Int) := by omega
                    obtain ⟨r4, r5⟩ := r2 hful
                    have hJ : (⟨(joinL (metL L (M.set k true))).toArray⟩ : ByteArray) = d := ba_ext (by rw [r5])
                    have jn := fun W hB hR => join_is w6.heap.size A6 (hn + 1) c6 (metL L (M.set k true)) 0 d r4 hJ W hB hR (by omega)
                    rw [decide_eq_true hful] at r1
                    have rd := fun W hB hR => ready_is w6.heap.size A6 N c6 (metL L (M.set k true)) _ r1 W hB hR (by omega)
                    clear r1 r2 r3 r4 r5 hJ
                    go_wp2_with fail
                    refine (jn w6 (Nat.le_refl _) R7).mono ?_
                    rintro e w7 ⟨rfl, hb⟩
                    have R8 := R7.below hb
                    rw [hful] at R8
                    have hbw7 := Below.then hbw6 hb
                    have hz7 : B ≤ w6.heap.size := Nat.le_of_lt bk6.lt
                    have hbB7 := hbB6.trans (hb.mono hz7)
                    have bk7 := bk6.below hb bk6.lt
                    have hs7 := hb.size
                    clear jn hb bk6
                    go_wp2_with fail
                    refine (rd w7 hs7 R8).mono ?_
                    rintro e w8 ⟨rfl, hb⟩
                    have R9 := (R8.below (hb.mono hs7)).more (Nat.le_trans hs7 hb.size)
                    have hbw8 := Below.then hbw7 hb
                    have hbB8 := hbB7.trans (hb.mono (Nat.le_trans hz7 hs7))
                    have bk8 := bk7.below hb bk7.lt
                    clear rd hb bk7 R8 R7 hbw7 hbw6 hbB7 hbB6 hs7 hz7
                    go_wp2_with fail
                    exact ⟨⟨j + 1, N, (M.set k true), A6, c6, rfl, by simp, by simp, by omega, by simpa using hM, HNX, Lib.hid t3, by omega, hbw8, hbB8, bk8, R9⟩, by simp [intOf]; omega⟩
                  · have jn := fun W hB hR => join_is w6.heap.size A6 (hn + 1) c6 (metL L (M.set k true)) 3 _ (r3 hful) rfl W hB hR (by omega)
                    rw [decide_eq_false hful] at r1
                    have f1 : ¬ (((hn + 1) : Nat) : Int) = (N : Int) := by omega
                    have f2 : ((((hn + 1) : Nat) : Int) == (N : Int)) = false := by simp; omega
                    have f3 : ((hn + 1) == N) = false := by simp; omega
                    have f4 : decide ((((hn + 1) : Nat) : Int) = (N : Int)) = false := by simp; omega
                    have rd := fun W hB hR => ready_is w6.heap.size A6 (hn + 1) c6 (metL L (M.set k true)) _ r1 W hB hR (by omega)
                    clear r1 r2 r3
                    go_wp2_with fail
                    refine (jn w6 (Nat.le_refl _) R7).mono ?_
                    rintro e w7 ⟨rfl, hb⟩
                    have R8 := R7.below hb
                    have hbw7 := Below.then hbw6 hb
                    have hz7 : B ≤ w6.heap.size := Nat.le_of_lt bk6.lt
                    have hbB7 := hbB6.trans (hb.mono hz7)
                    have bk7 := bk6.below hb bk6.lt
                    have hs7 := hb.size
                    clear jn hb bk6
                    go_wp2_with fail
                    refine (rd w7 hs7 R8).mono ?_
                    rintro e w8 ⟨rfl, hb⟩
                    have R9 := (R8.below (hb.mono hs7)).more (Nat.le_trans hs7 hb.size)
                    have hbw8 := Below.then hbw7 hb
                    have hbB8 := hbB7.trans (hb.mono (Nat.le_trans hz7 hs7))
                    have bk8 := bk7.below hb bk7.lt
                    clear rd hb bk7 R8 R7 hbw7 hbw6 hbB7 hbB6 hs7 hz7
                    go_wp2_with fail
                    exact ⟨⟨j + 1, (hn + 1), (M.set k true), A6, c6, rfl, by simp, by simp, by omega, by simpa using hM, HNX, Lib.hid t3, by omega, hbw8, hbB8, bk8, R9⟩, by simp [intOf]; omega⟩
                · obtain ⟨t1, t2⟩ := metL_twice HT.out hL1 hb0
                  have hset := set_same hb0
                  have ad := fun W hB hR => add_is wr.heap.size A5 hn c5 (metL L M) (L.getD k Frm.none_) 13 _ (hn) t1 t2 hlen.out W hB hR (by omega)
                  generalize L.getD k Frm.none_ = f at *
                  obtain ⟨fi, fn, fd, fl⟩ := f
                  simp only at x0 x1 x2 x3 ad
                  have h3 : B ≤ wr.heap.size := Nat.le_of_lt bk.lt
                  clear t1 t2 hb0 hM1 hL1 hc hRL hRO hnx
                  go_wp2_with fail
                  refine (ad wr (Nat.le_refl _) R5).mono ?_
                  rintro e w5 ⟨A6, c6, rfl, R6, hb⟩
                  have hbw5 := Below.then hbw hb
                  have hbB5 := hbB.trans (hb.mono h3)
                  have bk5 := bk.below hb bk.lt
                  replace cb := (hb.cell (p := ⟨B, k, none⟩) bk.lt).trans cb
                  have hfz := bk5.frozen k
                  clear ad hb hbw hbB bk R5 x0 x1 x2 x3
                  go_wp2_with fail
                  have R7 := reads_apart (k := k) (v := .bool true) R6.reads bk5
                  have bk6 := bools_set (k := k) bk5
                  have hbw6 := hbw5.setCell (p := ⟨B, k, none⟩) (by show w.heap.size ≤ B; exact hwB) (.bool true)
                  have hbB6 := hbB5.setCell (p := ⟨B, k, none⟩) (Nat.le_refl _) (.bool true)
                  have hz6 : (w5.setCell ⟨B, k, none⟩ (.bool true)).heap.size = w5.heap.size := by simp [World.setCell]
                  rw [← hz6] at R7
                  generalize w5.setCell ⟨B, k, none⟩ (.bool true) = w6 at *
                  clear R6 bk5 hbw5 hbB5 hz6 hfz cb
                  rw [hset] at bk6
                  have hrd := HRD.out M
                  rw [hlen.out] at hrd
                  obtain ⟨r1, r2, r3⟩ := hrd
                  by_cases hful : hn = N
                  · obtain ⟨r4, r5⟩ := r2 hful
                    have hJ : (⟨(joinL (metL L M)).toArray⟩ : ByteArray) = d := ba_ext (by rw [r5])
                    have jn := fun W hB hR => join_is w6.heap.size A6 hn c6 (metL L M) 0 d r4 hJ W hB hR (by omega)
                    rw [decide_eq_true hful] at r1
                    have rd := fun W hB hR => ready_is w6.heap.size A6 hn c6 (metL L M) _ r1 W hB hR (by omega)
                    clear r1 r2 r3 r4 r5 hJ
                    subst hful
                    go_wp2_with fail
                    refine (jn w6 (Nat.le_refl _) R7).mono ?_
                    rintro e w7 ⟨rfl, hb⟩
                    have R8 := R7.below hb
                    have hbw7 := Below.then hbw6 hb
                    have hz7 : B ≤ w6.heap.size := Nat.le_of_lt bk6.lt
                    have hbB7 := hbB6.trans (hb.mono hz7)
                    have bk7 := bk6.below hb bk6.lt
                    have hs7 := hb.size
                    clear jn hb bk6
                    go_wp2_with fail
                    refine (rd w7 hs7 R8).mono ?_
                    rintro e w8 ⟨rfl, hb⟩
                    have R9 := (R8.below (hb.mono hs7)).more (Nat.le_trans hs7 hb.size)
                    have hbw8 := Below.then hbw7 hb
                    have hbB8 := hbB7.trans (hb.mono (Nat.le_trans hz7 hs7))
                    have bk8 := bk7.below hb bk7.lt
                    clear rd hb bk7 R8 R7 hbw7 hbw6 hbB7 hbB6 hs7 hz7
                    go_wp2_with fail
                    exact ⟨⟨j + 1, hn, M, A6, c6, rfl, by simp, by simp, by omega, by simpa using hM, Lib.hid (hset ▸ HNX.out), hlen, by omega, hbw8, hbB8, bk8, R9⟩, by simp [intOf]; omega⟩
                  · have jn := fun W hB hR => join_is w6.heap.size A6 hn c6 (metL L M) 3 _ (r3 hful) rfl W hB hR (by omega)
                    rw [decide_eq_false hful] at r1
                    have f1 : ¬ ((hn : Nat) : Int) = (N : Int) := by omega
                    have f2 : (((hn : Nat) : Int) == (N : Int)) = false := by simp; omega
                    have f3 : (hn == N) = false := by simp; omega
                    have f4 : decide (((hn : Nat) : Int) = (N : Int)) = false := by simp; omega
                    have rd := fun W hB hR => ready_is w6.heap.size A6 hn c6 (metL L M) _ r1 W hB hR (by omega)
                    clear r1 r2 r3
                    go_wp2_with fail
                    refine (jn w6 (Nat.le_refl _) R7).mono ?_
                    rintro e w7 ⟨rfl, hb⟩
                    have R8 := R7.below hb
                    have hbw7 := Below.then hbw6 hb
                    have hz7 : B ≤ w6.heap.size := Nat.le_of_lt bk6.lt
                    have hbB7 := hbB6.trans (hb.mono hz7)
                    have bk7 := bk6.below hb bk6.lt
                    have hs7 := hb.size
                    clear jn hb bk6
                    go_wp2_with fail
                    refine (rd w7 hs7 R8).mono ?_
                    rintro e w8 ⟨rfl, hb⟩
                    have R9 := (R8.below (hb.mono hs7)).more (Nat.le_trans hs7 hb.size)
                    have hbw8 := Below.then hbw7 hb
                    have hbB8 := hbB7.trans (hb.mono (Nat.le_trans hz7 hs7))
                    have bk8 := bk7.below hb bk7.lt
                    clear rd hb bk7 R8 R7 hbw7 hbw6 hbB7 hbB6 hs7 hz7
                    go_wp2_with fail
                    exact ⟨⟨j + 1, hn, M, A6, c6, rfl, by simp, by simp, by omega, by simpa using hM, Lib.hid (hset ▸ HNX.out), hlen, by omega, hbw8, hbB8, bk8, R9⟩, by simp [intOf]; omega⟩
              · obtain ⟨k, hk⟩ : ∃ k, j = no + k := ⟨j - no, by omega⟩
                subst hk
                have hkN : k < N := by omega
                have m6 : decide (((no + k : Nat) : Int) - (no : Int) < 0) = false := decide_eq_false (by omega)
                have m7 : ¬ (((no + k : Nat) : Int) - (no : Int) < 0) := by omega
                have m8 : ((no + k : Nat) : Int) - (no : Int) = (k : Int) := by omega
                have m8' : (no : Int) + (k : Int) - (no : Int) = (k : Int) := by omega
                have m9 : IntKind.i64.wrap (k : Int) = (k : Int) := IntWalk.i64_in _ (by omega)
                have m10 : decide ((k : Int) < 0) = false := decide_eq_false (by omega)
                have hnx : ∀ k', no + k' < no + k + 1 → (M.set k true).getD k' false = true := fun k' hk' => by
                  rw [set_met (by omega)]
                  by_cases e : k = k'
                  · rw [if_pos e]
                  · rw [if_neg e]; exact hall.out k' (by omega)
                have cb := bools_cell bk (k := k) (by omega)
                obtain ⟨b, off2, hA2, hbB2, hc⟩ := hRL.frames hkN
                subst hA2
                obtain ⟨x0, x1, x2, x3⟩ := hc k hkN
                have p0 : (k : Int) < (N : Int) := by omega
                have HNX := Lib.hid hnx
                have hL1 : k < L.length := by rw [HK.out]; exact hkN
                have hM1 : M.length = L.length := by rw [HK.out]; exact hM
                obtain ⟨b0, hb0⟩ : ∃ b, M.getD k false = b := ⟨_, rfl⟩
                rw [hb0] at cb
                cases b0
                · obtain ⟨t1, t2, t3⟩ := metL_new HT.out hM1 hL1 hb0
                  rw [hlen.out] at t3
                  have hle : hn + 1 ≤ N := by rw [← HK.out, ← t3]; exact (metL_sub L _).length_le
                  have ad := fun W hB hR => add_is wr.heap.size A5 hn c5 (metL L M) (L.getD k Frm.none_) 0 _ (hn + 1) t1 t2 t3 W hB hR (by omega)
                  generalize L.getD k Frm.none_ = f at *
                  obtain ⟨fi, fn, fd, fl⟩ := f
                  simp only at x0 x1 x2 x3 ad
                  have h3 : B ≤ wr.heap.size := Nat.le_of_lt bk.lt
                  clear t1 t2 hb0 hM1 hL1 hc hRL hRO hnx
                  go_wp2_with fail
                  refine (ad wr (Nat.le_refl _) R5).mono ?_
                  rintro e w5 ⟨A6, c6, rfl, R6, hb⟩
                  have hbw5 := Below.then hbw hb
                  have hbB5 := hbB.trans (hb.mono h3)
                  have bk5 := bk.below hb bk.lt
                  replace cb := (hb.cell (p := ⟨B, k, none⟩) bk.lt).trans cb
                  have hfz := bk5.frozen k
                  clear ad hb hbw hbB bk R5 x0 x1 x2 x3
                  go_wp2_with fail
                  have R7 := reads_apart (k := k) (v := .bool true) R6.reads bk5
                  have bk6 := bools_set (k := k) bk5
                  have hbw6 := hbw5.setCell (p := ⟨B, k, none⟩) (by show w.heap.size ≤ B; exact hwB) (.bool true)
                  have hbB6 := hbB5.setCell (p := ⟨B, k, none⟩) (Nat.le_refl _) (.bool true)
                  have hz6 : (w5.setCell ⟨B, k, none⟩ (.bool true)).heap.size = w5.heap.size := by simp [World.setCell]
                  rw [← hz6] at R7
                  generalize w5.setCell ⟨B, k, none⟩ (.bool true) = w6 at *
                  clear R6 bk5 hbw5 hbB5 hz6 hfz cb
                  have hrd := HRD.out (M.set k true)
                  rw [t3] at hrd
                  obtain ⟨r1, r2, r3⟩ := hrd
                  by_cases hful : (hn + 1) = N
                  · rw [hful] at t3
                    have g1 : (hn : Int) + 1 = (N : Int) := by omega
                    obtain ⟨r4, r5⟩ := r2 hful
                    have hJ : (⟨(joinL (metL L (M.set k true))).toArray⟩ : ByteArray) = d := ba_ext (by rw [r5])
                    have jn := fun W hB hR => join_is w6.heap.size A6 (hn + 1) c6 (metL L (M.set k true)) 0 d r4 hJ W hB hR (by omega)
                    rw [decide_eq_true hful] at r1
                    have rd := fun W hB hR => ready_is w6.heap.size A6 N c6 (metL L (M.set k true)) _ r1 W hB hR (by omega)
                    clear r1 r2 r3 r4 r5 hJ
                    go_wp2_with fail
                    refine (jn w6 (Nat.le_refl _) R7).mono ?_
                    rintro e w7 ⟨rfl, hb⟩
                    have R8 := R7.below hb
                    rw [hful] at R8
                    have hbw7 := Below.then hbw6 hb
                    have hz7 : B ≤ w6.heap.size := Nat.le_of_lt bk6.lt
                    have hbB7 := hbB6.trans (hb.mono hz7)
                    have bk7 := bk6.below hb bk6.lt
                    have hs7 := hb.size
                    clear jn hb bk6
                    go_wp2_with fail
                    refine (rd w7 hs7 R8).mono ?_
                    rintro e w8 ⟨rfl, hb⟩
                    have R9 := (R8.below (hb.mono hs7)).more (Nat.le_trans hs7 hb.size)
                    have hbw8 := Below.then hbw7 hb
                    have hbB8 := hbB7.trans (hb.mono (Nat.le_trans hz7 hs7))
                    have bk8 := bk7.below hb bk7.lt
                    clear rd hb bk7 R8 R7 hbw7 hbw6 hbB7 hbB6 hs7 hz7
                    go_wp2_with fail
                    exact ⟨⟨(no + k) + 1, N, (M.set k true), A6, c6, rfl, by simp, by simp, by omega, by simpa using hM, HNX, Lib.hid t3, by omega, hbw8, hbB8, bk8, R9⟩, by simp [intOf]; omega⟩
                  · have jn := fun W hB hR => join_is w6.heap.size A6 (hn + 1) c6 (metL L (M.set k true)) 3 _ (r3 hful) rfl W hB hR (by omega)
                    rw [decide_eq_false hful] at r1
                    have f1 : ¬ (((hn + 1) : Nat) : Int) = (N : Int) := by omega
                    have f2 : ((((hn + 1) : Nat) : Int) == (N : Int)) = false := by simp; omega
                    have f3 : ((hn + 1) == N) = false := by simp; omega
                    have f4 : decide ((((hn + 1) : Nat) : Int) = (N : Int)) = false := by simp; omega
                    have rd := fun W hB hR => ready_is w6.heap.size A6 (hn + 1) c6 (metL L (M.set k true)) _ r1 W hB hR (by omega)
                    clear r1 r2 r3
                    go_wp2_with fail
                    refine (jn w6 (Nat.le_refl _) R7).mono ?_
                    rintro e w7 ⟨rfl, hb⟩
                    have R8 := R7.below hb
                    have hbw7 := Below.then hbw6 hb
                    have hz7 : B ≤ w6.heap.size := Nat.le_of_lt bk6.lt
                    have hbB7 := hbB6.trans (hb.mono hz7)
                    have bk7 := bk6.below hb bk6.lt
                    have hs7 := hb.size
                    clear jn hb bk6
                    go_wp2_with fail
                    refine (rd w7 hs7 R8).mono ?_
                    rintro e w8 ⟨rfl, hb⟩
                    have R9 := (R8.below (hb.mono hs7)).more (Nat.le_trans hs7 hb.size)
                    have hbw8 := Below.then hbw7 hb
                    have hbB8 := hbB7.trans (hb.mono (Nat.le_trans hz7 hs7))
                    have bk8 := bk7.below hb bk7.lt
                    clear rd hb bk7 R8 R7 hbw7 hbw6 hbB7 hbB6 hs7 hz7
                    go_wp2_with fail
                    exact ⟨⟨(no + k) + 1, (hn + 1), (M.set k true), A6, c6, rfl, by simp, by simp, by omega, by simpa using hM, HNX, Lib.hid t3, by omega, hbw8, hbB8, bk8, R9⟩, by simp [intOf]; omega⟩
                · obtain ⟨t1, t2⟩ := metL_twice HT.out hL1 hb0
                  have hset := set_same hb0
                  have ad := fun W hB hR => add_is wr.heap.size A5 hn c5 (metL L M) (L.getD k Frm.none_) 13 _ (hn) t1 t2 hlen.out W hB hR (by omega)
                  generalize L.getD k Frm.none_ = f at *
                  obtain ⟨fi, fn, fd, fl⟩ := f
                  simp only at x0 x1 x2 x3 ad
                  have h3 : B ≤ wr.heap.size := Nat.le_of_lt bk.lt
                  clear t1 t2 hb0 hM1 hL1 hc hRL hRO hnx
                  go_wp2_with fail
                  refine (ad wr (Nat.le_refl _) R5).mono ?_
                  rintro e w5 ⟨A6, c6, rfl, R6, hb⟩
                  have hbw5 := Below.then hbw hb
                  have hbB5 := hbB.trans (hb.mono h3)
                  have bk5 := bk.below hb bk.lt
                  replace cb := (hb.cell (p := ⟨B, k, none⟩) bk.lt).trans cb
                  have hfz := bk5.frozen k
                  clear ad hb hbw hbB bk R5 x0 x1 x2 x3
                  go_wp2_with fail
                  have R7 := reads_apart (k := k) (v := .bool true) R6.reads bk5
                  have bk6 := bools_set (k := k) bk5
                  have hbw6 := hbw5.setCell (p := ⟨B, k, none⟩) (by show w.heap.size ≤ B; exact hwB) (.bool true)
                  have hbB6 := hbB5.setCell (p := ⟨B, k, none⟩) (Nat.le_refl _) (.bool true)
                  have hz6 : (w5.setCell ⟨B, k, none⟩ (.bool true)).heap.size = w5.heap.size := by simp [World.setCell]
                  rw [← hz6] at R7
                  generalize w5.setCell ⟨B, k, none⟩ (.bool true) = w6 at *
                  clear R6 bk5 hbw5 hbB5 hz6 hfz cb
                  rw [hset] at bk6
                  have hrd := HRD.out M
                  rw [hlen.out] at hrd
                  obtain ⟨r1, r2, r3⟩ := hrd
                  by_cases hful : hn = N
                  · obtain ⟨r4, r5⟩ := r2 hful
                    have hJ : (⟨(joinL (metL L M)).toArray⟩ : ByteArray) = d := ba_ext (by rw [r5])
                    have jn := fun W hB hR => join_is w6.heap.size A6 hn c6 (metL L M) 0 d r4 hJ W hB hR (by omega)
                    rw [decide_eq_true hful] at r1
                    have rd := fun W hB hR => ready_is w6.heap.size A6 hn c6 (metL L M) _ r1 W hB hR (by omega)
                    clear r1 r2 r3 r4 r5 hJ
                    subst hful
                    go_wp2_with fail
                    refine (jn w6 (Nat.le_refl _) R7).mono ?_
                    rintro e w7 ⟨rfl, hb⟩
                    have R8 := R7.below hb
                    have hbw7 := Below.then hbw6 hb
                    have hz7 : B ≤ w6.heap.size := Nat.le_of_lt bk6.lt
                    have hbB7 := hbB6.trans (hb.mono hz7)
                    have bk7 := bk6.below hb bk6.lt
                    have hs7 := hb.size
                    clear jn hb bk6
                    go_wp2_with fail
                    refine (rd w7 hs7 R8).mono ?_
                    rintro e w8 ⟨rfl, hb⟩
                    have R9 := (R8.below (hb.mono hs7)).more (Nat.le_trans hs7 hb.size)
                    have hbw8 := Below.then hbw7 hb
                    have hbB8 := hbB7.trans (hb.mono (Nat.le_trans hz7 hs7))
                    have bk8 := bk7.below hb bk7.lt
                    clear rd hb bk7 R8 R7 hbw7 hbw6 hbB7 hbB6 hs7 hz7
                    go_wp2_with fail
                    exact ⟨⟨(no + k) + 1, hn, M, A6, c6, rfl, by simp, by simp, by omega, by simpa using hM, Lib.hid (hset ▸ HNX.out), hlen, by omega, hbw8, hbB8, bk8, R9⟩, by simp [intOf]; omega⟩
                  · have jn := fun W hB hR => join_is w6.heap.size A6 hn c6 (metL L M) 3 _ (r3 hful) rfl W hB hR (by omega)
                    rw [decide_eq_false hful] at r1
                    have f1 : ¬ ((hn : Nat) : Int) = (N : Int) := by omega
                    have f2 : (((hn : Nat) : Int) == (N : Int)) = false := by simp; omega
                    have f3 : (hn == N) = false := by simp; omega
                    have f4 : decide (((hn : Nat) : Int) = (N : Int)) = false := by simp; omega
                    have rd := fun W hB hR => ready_is w6.heap.size A6 hn c6 (metL L M) _ r1 W hB hR (by omega)
                    clear r1 r2 r3
                    go_wp2_with fail
                    refine (jn w6 (Nat.le_refl _) R7).mono ?_
                    rintro e w7 ⟨rfl, hb⟩
                    have R8 := R7.below hb
                    have hbw7 := Below.then hbw6 hb
                    have hz7 : B ≤ w6.heap.size := Nat.le_of_lt bk6.lt
                    have hbB7 := hbB6.trans (hb.mono hz7)
                    have bk7 := bk6.below hb bk6.lt
                    have hs7 := hb.size
                    clear jn hb bk6
                    go_wp2_with fail
                    refine (rd w7 hs7 R8).mono ?_
                    rintro e w8 ⟨rfl, hb⟩
                    have R9 := (R8.below (hb.mono hs7)).more (Nat.le_trans hs7 hb.size)
                    have hbw8 := Below.then hbw7 hb
                    have hbB8 := hbB7.trans (hb.mono (Nat.le_trans hz7 hs7))
                    have bk8 := bk7.below hb bk7.lt
                    clear rd hb bk7 R8 R7 hbw7 hbw6 hbB7 hbB6 hs7 hz7
                    go_wp2_with fail
                    exact ⟨⟨(no + k) + 1, hn, M, A6, c6, rfl, by simp, by simp, by omega, by simpa using hM, Lib.hid (hset ▸ HNX.out), hlen, by omega, hbw8, hbB8, bk8, R9⟩, by simp [intOf]; omega⟩
            · have q0 : ¬ (j : Int) < (no : Int) + (N : Int) := by omega
              obtain rfl : j = no + N := by omega
              have hfull : metL L M = L := metL_all HT.out fun k hk => hall.out k (by rw [HK.out] at hk; omega)
              have hnn : hn = N := by rw [← hlen.out, hfull, HK.out]
              subst hnn
              rw [hfull] at R5
              clear hall hlen hfull
              go_wp2_with fail
              refine (same_any _ _ _ _ hn hn _ _ L L wr R5 hRL (by omega) (by omega)).mono ?_
              rintro e w7 ⟨rfl, hb⟩
              have hb7 := Below.then hbw hb
              clear hb hbw
              simp only [decide_true]
              go_wp2_with fail
              go_ret
              exact ⟨by simp, hb7⟩
        · have e1 : (E != 0) = true := by simpa using hE0
          have hL0 := HL.out
          rw [splitL_bad (by rw [HE.out]; exact hE0)] at hL0
          have hN0 : N = 0 := by rw [← HK.out, ← hL0]; rfl
          subst hN0
          clear hE0 hL0
          go_wp2_with fail
          go_ret
          exact ⟨by simp, hb2⟩
      · have d3 : (100 : Int) < (no : Int) := by omega
        go_wp2_with fail
        go_ret
        exact ⟨rfl, hb1⟩
    · have d2 : (600 : Int) < (d.size : Int) := by omega
      go_wp2_with fail
      go_ret
      exact ⟨rfl, hb1⟩
  · have d1 : (100 : Int) < (id.size : Int) := by omega
    go_wp2_with fail
    go_ret
    exact ⟨rfl, hb1⟩
end Go.Proofs.Ytdkijdedfpfbnaa
