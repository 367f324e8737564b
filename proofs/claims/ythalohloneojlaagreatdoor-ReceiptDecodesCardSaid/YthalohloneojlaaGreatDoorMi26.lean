/- Merged: RdA, DerE, DerF, RlpL, UnlA0. -/
import Derived.Test.YthalohloneojlaaGreatDoorMi2
import Derived.Test.YthalohloneojlaaGreatDoorMi4
import Derived.Test.YthalohloneojlaaGreatDoorMi5
import Derived.Test.YthalohloneojlaaGreatDoorMi11
import Derived.Test.YthalohloneojlaaGreatDoorMi12
import Derived.Test.YthalohloneojlaaGreatDoorMi18
import Derived.Test.YthalohloneojlaaGreatDoorMi22
/- Receipts, the document's: whether logs may be, how many fields a kind has, the form. -/
namespace Go.Proofs.YthalohloneojlaaGreatDoor
open Go.RowKit Go.Shelf
set_option linter.unusedVariables false
set_option linter.unusedSimpArgs false

set_option maxRecDepth 100000 in
set_option maxHeartbeats 4000000 in
theorem logsD_any (ls : List LogV) (B : Nat) (A : Option Addr) (n c : Nat) (w : World) (h : LogsR B w ls A n) (hn : n ≤ 9223372036854775807) :
    Calls Tryz.prog 21 #[.slice A n c] w fun e w' => e = .returned (.bool (!ls.any oddLog)) ∧ w' = w := by
  have HR := Lib.hid h
  have hl := h.1
  have HL := Lib.hid hl
  obtain ⟨R, hR⟩ : ∃ R, ls.any oddLog = R := ⟨_, rfl⟩
  rw [hR]
  have HRR := Lib.hid hR
  clear h hl hR
  go_enter Tryz.func21, Tryz.ntmps21
  go_wp2_with fail
  go_loopw [3] (fun i wr => ∃ k : Nat, i = .int .i64 k ∧ k ≤ n ∧ w = wr ∧ Hid (∀ i, i < k → oddLog (ls.getD i LogV.none_) = false)) (fun i _ => n - (intOf i).toNat)
  case atStart => exact ⟨0, rfl, by omega, rfl, Lib.hid fun i hi => by omega⟩
  case round =>
    obtain ⟨k, rfl, hk, rfl, hf⟩ := hrel
    have HF := Lib.hid hf.out
    clear hf
    by_cases hlt : k < n
    · obtain ⟨gg, off, T, tc, l, rfl, hlk, c0, c1, c2, hr, hm⟩ := HR.out.at_ hlt
      have HLK := Lib.hid hlk
      have q1 : (k : Int) < (n : Int) := by omega
      have HLT := Lib.hid hlt
      have HRT := Lib.hid hr
      clear hr hlt hlk c2
      obtain ⟨la, lt, ld⟩ := l
      simp only at c0 c1 HRT hm
      have hrow : Hid (∀ j, j < lt.length → ∃ g off, T = some ⟨g, off, none⟩ ∧ w.cell? ⟨g, off + j, none⟩ = some (.string (lt.getD j .empty))) := Lib.hid fun j hj => by
        obtain ⟨q, off, hT, _, hc⟩ := Reads.vals Value.string .empty HRT.out hj
        exact ⟨q, off, hT, hc j hj⟩
      clear HRT
      obtain ⟨tn, htn⟩ : ∃ tn, lt.length = tn := ⟨_, rfl⟩
      rw [htn] at hrow c1 hm
      have HTN := Lib.hid htn
      clear htn
      by_cases p1 : la.size = 20
      rotate_left
      · have q2 : ((la.size : Int) != 20) = true := by simp; omega
        have hr : R = true := by
          rw [← HRR.out]
          refine any_at (d := LogV.none_) (k := k) (by rw [HL.out]; exact HLT.out) ?_
          rw [HLK.out]
          simp [oddLog, p1]
        subst hr
        clear p1 hrow hm
        go_wp2_with fail
        go_ret
        exact ⟨rfl, rfl⟩
      · have q2 : ((la.size : Int) != 20) = false := by simp; omega
        have HP := Lib.hid p1
        clear p1
        go_wp2_with fail
        go_loopw [4] (fun j wr => ∃ m : Nat, j = .int .i64 m ∧ m ≤ tn ∧ w = wr ∧ Hid (∀ i, i < m → oddT (lt.getD i .empty) = false)) (fun j _ => tn - (intOf j).toNat)
        case atStart => exact ⟨0, rfl, by omega, rfl, Lib.hid fun i hi => by omega⟩
        case round =>
          obtain ⟨m, rfl, hmm, rfl, hft⟩ := hrel
          have HFT := Lib.hid hft.out
          clear hft
          by_cases hmt : m < tn
          · obtain ⟨tg, toff, rfl, t0⟩ := hrow.out m hmt
            have q3 : (m : Int) < (tn : Int) := by omega
            obtain ⟨ts, hts⟩ : ∃ ts, lt.getD m .empty = ts := ⟨_, rfl⟩
            rw [hts] at t0
            have HTS := Lib.hid hts
            clear hts
            by_cases p5 : ts.size = 32
            rotate_left
            · have q6 : ((ts.size : Int) != 32) = true := by simp; omega
              have hr : R = true := by
                rw [← HRR.out]
                refine any_at (d := LogV.none_) (k := k) (by rw [HL.out]; exact HLT.out) ?_
                rw [HLK.out]
                have : lt.any oddT = true := any_at (d := .empty) (k := m) (by rw [HTN.out]; exact hmt) (by rw [HTS.out]; simp [oddT, p5])
                simp only [oddLog, this, Bool.or_true]
              subst hr
              clear p5
              go_wp2_with fail
              go_ret
              exact ⟨rfl, rfl⟩
            · have q6 : ((ts.size : Int) != 32) = false := by simp; omega
              have HP5 := Lib.hid p5
              clear p5
              go_wp2_with fail
              refine ⟨⟨m + 1, by go_num, by omega, by first | rfl | trivial, Lib.hid fun i hi => ?_⟩, by simp [intOf]; omega⟩
              by_cases hik : i = m
              · rw [hik, HTS.out]; simp [oddT, HP5.out]
              · exact HFT.out i (by omega)
          · have q3 : decide ((m : Int) < (tn : Int)) = false := decide_eq_false (by omega)
            obtain rfl : m = tn := by omega
            go_wp2_with fail
            refine ⟨⟨k + 1, by go_num, by have := HLT.out; omega, by first | rfl | trivial, Lib.hid fun i hi => ?_⟩, by have := HLT.out; simp [intOf]; omega⟩
            by_cases hik : i = k
            · rw [hik, HLK.out]
              have : lt.any oddT = false := any_none (d := .empty) fun i hi => HFT.out i (by have := HTN.out; omega)
              simp only [oddLog, this, Bool.or_false, decide_eq_false_iff_not, ne_eq, Classical.not_not]
              exact HP.out
            · exact HF.out i (by omega)
    · have q1 : decide ((k : Int) < (n : Int)) = false := decide_eq_false (by omega)
      have hr : R = false := by
        rw [← HRR.out]
        exact any_none (d := LogV.none_) fun i hi => HF.out i (by have := HL.out; omega)
      subst hr
      go_wp2_with fail
      go_ret
      exact ⟨rfl, rfl⟩
set_option maxRecDepth 100000 in
set_option maxHeartbeats 1000000 in
theorem manyD_any (k : Int) (w : World) : Calls Tryz.prog 20 #[.int .i64 k] w fun e w' => e = .returned (.int .i64 (manyF k)) ∧ w' = w := by
  obtain ⟨M, hM⟩ : ∃ M, manyF k = M := ⟨_, rfl⟩
  rw [hM]
  unfold manyF at hM
  by_cases h0 : k = 0
  · rw [if_pos h0] at hM
    subst hM; subst h0
    go_enter Tryz.func20, Tryz.ntmps20
    go_wp2_with fail
    go_ret
    exact ⟨rfl, rfl⟩
  rw [if_neg h0] at hM
  have q0 : (k == 0) = false := by simpa using h0
  clear h0
  by_cases h1 : k = 1
  · rw [if_pos h1] at hM
    subst hM; subst h1
    go_enter Tryz.func20, Tryz.ntmps20
    go_wp2_with fail
    go_ret
    exact ⟨rfl, rfl⟩
  rw [if_neg h1] at hM
  have q1 : (k == 1) = false := by simpa using h1
  clear h1
  by_cases h2 : k = 2
  · rw [if_pos h2] at hM
    subst hM; subst h2
    go_enter Tryz.func20, Tryz.ntmps20
    go_wp2_with fail
    go_ret
    exact ⟨rfl, rfl⟩
  rw [if_neg h2] at hM
  have q2 : (k == 2) = false := by simpa using h2
  clear h2
  by_cases h3 : k = 4
  · rw [if_pos h3] at hM
    subst hM; subst h3
    go_enter Tryz.func20, Tryz.ntmps20
    go_wp2_with fail
    go_ret
    exact ⟨rfl, rfl⟩
  rw [if_neg h3] at hM
  have q3 : (k == 4) = false := by simpa using h3
  clear h3
  by_cases h4 : k = 126
  · rw [if_pos h4] at hM
    subst hM; subst h4
    go_enter Tryz.func20, Tryz.ntmps20
    go_wp2_with fail
    go_ret
    exact ⟨rfl, rfl⟩
  rw [if_neg h4] at hM
  have q4 : (k == 126) = false := by simpa using h4
  clear h4
  subst hM
  go_enter Tryz.func20, Tryz.ntmps20
  go_wp2_with fail
  go_ret
  exact ⟨rfl, rfl⟩
set_option maxRecDepth 100000 in
set_option maxHeartbeats 1000000 in
theorem formD_any (x : Rcp) (v : Value) (hv : ∃ A n c, v = .slice A n c) (w : World) : Calls Tryz.prog 11 #[.agg (rcpC x v)] w fun e w' => e = .returned (.int .i64 (formRc x)) ∧ w.grownBy w' none := by
  obtain ⟨A, n, c, rfl⟩ := hv
  have hG := only_alloc (World.grownBy.refl w none) (.cells (rcpC x (.slice A n c)) 25)
  have hb := Blk.new w 25 (rcpC x (.slice A n c))
  obtain ⟨kind, status, gas, ls, full, nonce, version⟩ := x
  simp only [rcpC] at *
  have HG := Lib.hid hG
  have c4 := hb.cell 4; have c6 := hb.cell 6
  simp only [List.getElem?_toArray, List.getElem?_cons_zero, List.getElem?_cons_succ] at c4 c6
  obtain ⟨F, hF⟩ : ∃ F, formRc ⟨kind, status, gas, ls, full, nonce, version⟩ = F := ⟨_, rfl⟩
  rw [hF]
  unfold formRc at hF
  simp only at hF
  clear hb hG
  cases full with
  | false =>
    obtain rfl : F = 0 := hF.symm
    clear hF
    go_enter Tryz.func11, Tryz.ntmps11
    go_wp2_with fail
    go_ret
    exact ⟨rfl, HG.out⟩
  | true =>
    rw [if_neg (by simp)] at hF
    by_cases h0 : version = 0
    · rw [if_pos h0] at hF
      subst hF; subst h0
      go_enter Tryz.func11, Tryz.ntmps11
      go_wp2_with fail
      go_ret
      exact ⟨rfl, HG.out⟩
    · rw [if_neg h0] at hF
      subst hF
      have q : ((version : Int) == 0) = false := by simpa using h0
      clear h0
      go_enter Tryz.func11, Tryz.ntmps11
      go_wp2_with fail
      go_ret
      exact ⟨rfl, HG.out⟩
end Go.Proofs.YthalohloneojlaaGreatDoor
/- The document's decoder: a list read, item by item. -/
namespace Go.Proofs.YthalohloneojlaaGreatDoor
open Go.RowKit Go.Shelf
set_option linter.unusedVariables false
set_option linter.unusedSimpArgs false

set_option maxRecDepth 100000 in
set_option maxHeartbeats 8000000 in
theorem read05_list (k : Nat) (hk : k ≤ 11) (hC : RdC k) (s : ByteArray) (a : Nat) (W : World) (hs : s.size ≤ 65536) (ha : a ≤ s.size)
    (he : lookE s.data.toList (a : Int) = 0) (hl : lookL s.data.toList (a : Int) = true) :
    Calls Tryz.prog 70 #[.string s, .int .i64 (a : Int), .int .i64 ((12 - (k + 1) : Nat) : Int)] W (RdEnd (k + 1) s.data.toList a W) := by
  have hlz : s.data.toList.length = s.size := ba_len s
  have hlk := fun V => of05_any s a ha (by omega) V
  have hi := item_list (k := k) he hl
  obtain ⟨b0, b1, b2, bh3, b4, b5⟩ := look_ok he
  have hid := fun V => idx_str s a (s.data.toList.getD a 0) (at_getD 0 b0) V
  change ∀ V, (Instr.index 9 (.string s) (.int .i64 (a : Int))).run Tryz.prog V = .ok (.int .u8 ((headC s.data.toList a : Nat) : Int)) V at hid
  have hc : 192 ≤ headC s.data.toList a := by rw [hl] at b5; exact of_decide_eq_true b5.symm
  rw [hl, he] at hlk
  rw [hlz] at b0 b1
  have hxA := Blk.new W 115 #[.bool false, .string ⟨#[]⟩, .slice none 0 0, .int .i64 0, .int .i64 0]
  have hGA : W.grownBy (W.alloc (.cells #[.bool false, .string ⟨#[]⟩, .slice none 0 0, .int .i64 0, .int .i64 0] 115)) none := only_alloc (World.grownBy.refl _ _) _
  generalize lookFrom s.data.toList (a : Int) = F at *
  generalize lookN s.data.toList (a : Int) = N at *
  generalize headC s.data.toList a = c at *
  obtain ⟨en, hen⟩ : ∃ en, F + N = en := ⟨_, rfl⟩
  obtain ⟨n0, hn0⟩ : ∃ n0, 12 - (k + 1) = n0 := ⟨_, rfl⟩
  have hCs : ∀ (p : Nat) (V : World), p ≤ en → Calls Tryz.prog 70 #[.string (s.extract 0 en), .int .i64 (p : Int), .int .i64 ((n0 : Int) + 1)] V (RdEnd k (s.data.toList.take en) p V) := by
    intro p V hp
    have hsz : (s.extract 0 en).size = en := by rw [ByteArray.size_extract]; omega
    have := hC (s.extract 0 en) p V (by omega) (by omega)
    rw [ba_take, show ((12 - k : Nat) : Int) = (n0 : Int) + 1 by omega] at this
    exact this
  have hfw : ∀ (p q : Nat) (x : Itm), itemF k (s.data.toList.take en) p = .ok (x, q) → p < q ∧ q ≤ en := by
    intro p q x h
    have := itemF_fwd h
    rw [List.length_take] at this
    omega
  rw [hen] at hi b1 bh3
  rw [hn0]
  have v1 : IntKind.i64.wrap ((F : Int) + (N : Int)) = (en : Int) := by rw [IntWalk.i64_in _ (by omega)]; omega
  have v2 : IntKind.i64.wrap ((n0 : Int) + 1) = (n0 : Int) + 1 := IntWalk.i64_in _ (by omega)
  have d1 : (a : Int) < (s.size : Int) := by omega
  have d2 : decide ((192 : Int) ≤ (c : Int)) = true := decide_eq_true (by omega)
  have d2' : decide (192 ≤ c) = true := decide_eq_true hc
  have d3 : decide ((12 : Int) ≤ (n0 : Int)) = false := decide_eq_false (by omega)
  have d3' : decide (12 ≤ n0) = false := decide_eq_false (by omega)
  have hFe : F ≤ en := by omega
  generalize s.data.toList.take en = L at *
  generalize hrd : itemF k L = rd at *
  have HRD := Lib.hid hrd
  clear hrd
  generalize hIF : itemF (k + 1) s.data.toList a = R at *
  have HI := Lib.hid hi; have HCS := Lib.hid hCs; have HFW := Lib.hid hfw
  have HIF := Lib.hid hIF
  clear hi hCs hfw hlz b0 b2 b4 b5 he hl hC hen hn0 hIF
  go_enter Tryz.func70, Tryz.ntmps70
  go_wp2_with fail
  refine (hlk _).mono ?_
  rintro e w2 ⟨rfl, hg⟩
  have y0 := (hxA.grown hg (by simp)).alloc (.cells #[.int .i64 (F : Int), .int .i64 (N : Int), .bool true, .int .i64 0] 176)
  have z0 := Blk.new w2 176 #[.int .i64 (F : Int), .int .i64 (N : Int), .bool true, .int .i64 0]
  have hG3 := only_alloc (grown_self hGA hg (by simp)) (.cells #[.int .i64 (F : Int), .int .i64 (N : Int), .bool true, .int .i64 0] 176)
  clear hxA hGA hg hlk
  go_upto_region 4 with (fail)
  obtain ⟨g2, hg2⟩ : ∃ g, w2.heap.size = g := ⟨_, rfl⟩
  rw [hg2] at z0 ⊢
  clear hg2
  generalize w2.alloc (.cells #[.int .i64 (F : Int), .int .i64 (N : Int), .bool true, .int .i64 0] 176) = w3 at *
  obtain ⟨g, hg⟩ : ∃ g, W.heap.size = g := ⟨_, rfl⟩
  have HW := Lib.hid hg
  have hlow := hG3.size
  have hgl := y0.lt
  rw [hg] at y0 hlow hgl ⊢
  clear hg
  have j0 := z0.cell 0; have j1 := z0.cell 1; have j2 := z0.cell 2; have j3 := z0.cell 3
  simp only [List.getElem?_toArray, List.getElem?_cons_zero, List.getElem?_cons_succ] at j0 j1 j2 j3
  have K0 : RdI w3 w3.heap.size (.slice none 0 0) 0 [] [] (w3.alloc (.cells #[.bool true, .string ⟨#[]⟩, .slice none 0 0] 45)) :=
    ⟨⟨Blk.new _ _ _, World.ownsRow_nil _ _ _ _, only_alloc (World.grownBy.refl w3 none) _, by simp, Nat.le_refl _⟩, rfl, rfl, fun i hi => absurd hi (by omega)⟩
  have z1 := z0.alloc (.cells #[.bool true, .string ⟨#[]⟩, .slice none 0 0] 45)
  go_upto_region 10 with (fail)
  obtain ⟨b3, hb3⟩ : ∃ g, w3.heap.size = g := ⟨_, rfl⟩
  have HB3 := Lib.hid hb3
  rw [hb3] at K0 hlow hgl ⊢
  clear hb3 j0 j1 j2 j3 z0
  generalize w3.alloc (.cells #[.bool true, .string ⟨#[]⟩, .slice none 0 0] 45) = w4 at *
  have j0 := z1.cell 0
  simp only [List.getElem?_toArray, List.getElem?_cons_zero, List.getElem?_cons_succ] at j0
  go_wp2_with fail
  clear j0 z1
  have Y0 := Lib.hid y0; have HG3 := Lib.hid hG3
  clear y0 hG3 hid d1 d2 d2' d3 d3'
  go_loopw [10] (fun i wr => ∃ (p j : Nat) (v : Value) (xs : List Itm) (vs : List Value), i = .int .i64 (p : Int) ∧ p ≤ en ∧ j ≤ 512 ∧ RdI w3 b3 v j xs vs wr ∧ Hid (itemsF rd en 513 0 F = prepR xs (itemsF rd en (513 - j) j p))) (fun i _ => en - (intOf i).toNat)
  case atStart => exact ⟨F, 0, _, [], [], rfl, hFe, by omega, K0, Lib.hid (by show _ = prepR [] (itemsF rd en 513 0 F); cases itemsF rd en 513 0 F <;> simp [prepR])⟩
  case round =>
    clear K0
    obtain ⟨p, j, v, xs, vs, rfl, hp, hj, K, hspec⟩ := hrel
    have HSP := Lib.hid hspec.out
    obtain ⟨A, cc, rfl⟩ := own_slice3 K.held.own
    have y1 := Y0.out.grown K.held.grown (by simp)
    have G1 := Lib.hid (grown_self HG3.out K.held.grown (by simp))
    have e0 := K.held.blk.cell 0; have e1 := K.held.blk.cell 1; have e2 := K.held.blk.cell 2
    have k0 := y1.cell 0; have k1 := y1.cell 1; have k2 := y1.cell 2; have k3 := y1.cell 3; have k4 := y1.cell 4
    have f0 := y1.frozen 0; have f1 := y1.frozen 1; have f2 := y1.frozen 2; have f3 := y1.frozen 3; have f4 := y1.frozen 4
    simp only [List.getElem?_toArray, List.getElem?_cons_zero, List.getElem?_cons_succ] at e0 e1 e2 k0 k1 k2 k3 k4
    clear hspec
    by_cases hlt : p < en
    · have q1 : (p : Int) < (en : Int) := by omega
      by_cases hj5 : j = 512
      · have q2 : decide ((512 : Int) ≤ (j : Int)) = true := decide_eq_true (by omega)
        have q2' : decide (512 ≤ j) = true := decide_eq_true (by omega)
        subst hj5
        have hR : R = .error 5 := by rw [HI.out, itemsF_many hlt HSP.out]
        have HR := Lib.hid hR
        have Y := Lib.hid (blk_set5 y1 (.bool false) (.string ⟨#[]⟩) (.slice none 0 0) (.int .i64 0) (.int .i64 5))
        have G := Lib.hid (only_set5 G1.out (Nat.le_of_eq HW.out) (.bool false) (.string ⟨#[]⟩) (.slice none 0 0) (.int .i64 0) (.int .i64 5))
        clear hR K y1
        go_wp2_with fail
        refine bodyPost_ret (results_cell1 (fn := Tryz.f70) rfl _ _ _ _ rfl (load_got Y.out)) rfl ?_
        exact ⟨G.out, .inl ⟨5, by decide, HIF.out.trans HR.out, rfl⟩⟩
      have q2 : decide ((512 : Int) ≤ (j : Int)) = false := decide_eq_false (by omega)
      have q2' : decide (512 ≤ j) = false := decide_eq_false (by omega)
      go_wp2_with fail
      refine (HCS.out p _ (by omega)).mono ?_
      rintro e u1 ⟨hg, ⟨E, hE, hiE, rfl⟩ | ⟨x, q, xA, xn, xc, hiE, rfl, hsub⟩⟩
      all_goals rw [HRD.out] at hiE
      · have hR : R = .error E := by rw [HI.out, itemsF_err (by omega) hlt HSP.out hiE]
        have HR := Lib.hid hR
        have y2 := (y1.grown hg (by simp)).alloc (.cells #[.bool false, .string ⟨#[]⟩, .slice none 0 0, .int .i64 0, .int .i64 E] 115)
        have z2 := Blk.new u1 115 #[.bool false, .string ⟨#[]⟩, .slice none 0 0, .int .i64 0, .int .i64 E]
        have G2 := Lib.hid (only_alloc (grown_self G1.out hg (by simp)) (.cells #[.bool false, .string ⟨#[]⟩, .slice none 0 0, .int .i64 0, .int .i64 E] 115))
        clear hR K y1 e0 e1 e2 k0 k1 k2 k3 k4 f0 f1 f2 f3 f4 hg
        go_upto_region 15 with (fail)
        obtain ⟨g5, hg5⟩ : ∃ g, u1.heap.size = g := ⟨_, rfl⟩
        rw [hg5] at z2 ⊢
        clear hg5
        generalize u1.alloc (.cells #[.bool false, .string ⟨#[]⟩, .slice none 0 0, .int .i64 0, .int .i64 E] 115) = u2 at *
        have j4 := z2.cell 4
        have k0 := y2.cell 0; have k1 := y2.cell 1; have k2 := y2.cell 2; have k3 := y2.cell 3; have k4 := y2.cell 4
        have f0 := y2.frozen 0; have f1 := y2.frozen 1; have f2 := y2.frozen 2; have f3 := y2.frozen 3; have f4 := y2.frozen 4
        simp only [List.getElem?_toArray, List.getElem?_cons_zero, List.getElem?_cons_succ] at j4 k0 k1 k2 k3 k4
        have hne : (E != 0) = true := by simpa using hE
        have HE := Lib.hid hE
        have Y := Lib.hid (blk_set5 y2 (.bool false) (.string ⟨#[]⟩) (.slice none 0 0) (.int .i64 0) (.int .i64 E))
        have G := Lib.hid (only_set5 G2.out (Nat.le_of_eq HW.out) (.bool false) (.string ⟨#[]⟩) (.slice none 0 0) (.int .i64 0) (.int .i64 E))
        clear y2 z2 hE
        go_wp2_with fail
        refine bodyPost_ret (results_cell1 (fn := Tryz.f70) rfl _ _ _ _ rfl (load_got Y.out)) rfl ?_
        exact ⟨G.out, .inl ⟨E, HE.out, HIF.out.trans HR.out, rfl⟩⟩
      · obtain ⟨hpq, hqe⟩ := HFW.out p q x hiE
        have hSP := itemsF_ok (by omega) hlt HSP.out hiE
        have HSP2 := Lib.hid hSP
        obtain ⟨i0, hi, hz0, hzs, hzb⟩ := item_info3
        have hown0 := K.held.own
        have hxs : SubV (fun g => b3 + 1 ≤ g ∧ (Value.slice A j cc).ownBlock ≠ some g) u1 x.items (.slice xA xn xc) := hsub.weak (fun g (h : wr.heap.size ≤ g) => ⟨by have := K.held.size; omega, fun e => by have := own_ltB hown0 e; omega⟩)
        have K1 := (K.kept hg).kept (only_alloc (World.grownBy.refl u1 none) (.cells #[.bool x.list, .string x.bytes, .slice xA xn xc, .int .i64 (q : Int), .int .i64 0] 115))
        have hxs2 := SubV.grown hxs (only_alloc (World.grownBy.refl u1 none) (.cells #[.bool x.list, .string x.bytes, .slice xA xn xc, .int .i64 (q : Int), .int .i64 0] 115))
        have z2 := Blk.new u1 115 #[.bool x.list, .string x.bytes, .slice xA xn xc, .int .i64 (q : Int), .int .i64 0]
        have hne5 : b3 ≠ u1.heap.size ∧ (Value.slice A j cc).ownBlock ≠ some u1.heap.size := ⟨by have := K.held.size; have := hg.size; omega, fun e => by have := own_ltB hown0 e; have := hg.size; omega⟩
        clear K y1 G1 e0 e1 e2 k0 k1 k2 k3 k4 f0 f1 f2 f3 f4 hg hsub hxs hSP hown0
        go_upto_region 15 with (fail)
        obtain ⟨g5, hg5⟩ : ∃ g, u1.heap.size = g := ⟨_, rfl⟩
        rw [hg5] at z2 hne5 ⊢
        clear hg5
        obtain ⟨xl, xb, xi⟩ := x
        simp only [Itm.list, Itm.bytes, Itm.items] at *
        generalize u1.alloc (.cells #[.bool xl, .string xb, .slice xA xn xc, .int .i64 (q : Int), .int .i64 0] 115) = u2 at *
        have j0 := z2.cell 0; have j1 := z2.cell 1; have j2 := z2.cell 2; have j3 := z2.cell 3; have j4 := z2.cell 4
        have e2 := K1.held.blk.cell 2
        simp only [List.getElem?_toArray, List.getElem?_cons_zero, List.getElem?_cons_succ] at j0 j1 j2 j3 j4 e2
        have K2 := K1.kept (only_alloc (World.grownBy.refl u2 none) (.cells #[.bool xl, .string xb, .slice xA xn xc] 45))
        have hxs3 := SubV.grown hxs2 (only_alloc (World.grownBy.refl u2 none) (.cells #[.bool xl, .string xb, .slice xA xn xc] 45))
        have z3 := z2.alloc (.cells #[.bool xl, .string xb, .slice xA xn xc] 45)
        have hk2 := K2.held.size
        go_upto_region 18 with (at_builtin; refine wpList_append_own_at _ rfl _ _ 43 rfl (b3 + 1) 45 i0 _ 3 48 Tryz.underlying43 hi hz0 hzs hzb rfl (by decide) _ _ _ rfl K2.held.own ⟨u2.heap.size, 0, none⟩ 1 1 [.bool xl, .string xb, .slice xA xn xc] rfl rfl (cell_three_new _ _ _ _ _) (by simp [Value.oneCell']) (by simp only [maxLen]; omega) (by omega) hk2 ?_; intro v' u4 hown' hgrow _ hob; obtain ⟨g', cap', rfl⟩ := ownsRow_succ hown'; have hbx := K2.held.blk.grown hgrow (fun e => by have := ownBlock_ge K2.held.own e.symm; omega); have hbc := hbx.cell 2; have hbf := hbx.frozen 2; simp only [List.getElem?_toArray, List.getElem?_cons_zero, List.getElem?_cons_succ] at hbc)
        have K3 := K2.put (.mk xl xb xi) (.slice xA xn xc) hxs3 hown' hgrow hob
        have z4 := (z3.grown hgrow (fun e => hne5.2 e.symm)).far (p := ⟨b3, 2, none⟩) (fun e => hne5.1 e.symm) (.slice (some ⟨g', 0, none⟩) (j + 1) cap')
        clear j0 j1 j2 j3 j4 e2 K2 hxs3 z3 hk2 K1 z2 hxs2 hown' hgrow hob hbx hbc hbf
        generalize u4.setCell ⟨b3, 2, none⟩ (.slice (some ⟨g', 0, none⟩) (j + 1) cap') = u5 at *
        have j3 := z4.cell 3
        simp only [List.getElem?_toArray, List.getElem?_cons_zero, List.getElem?_cons_succ] at j3
        clear z4
        go_wp2_with fail
        exact ⟨⟨q, j + 1, _, _, _, by first | rfl | trivial, hqe, by omega, K3, Lib.hid HSP2.out⟩, by simp [intOf]; omega⟩
    · obtain rfl : p = en := by omega
      have hfin : decide ((p : Int) < (p : Int)) = false := by simp
      have hR : R = .ok (.mk true .empty xs, p) := by rw [HI.out, itemsF_end hj hlt HSP.out]
      have HR := Lib.hid hR
      have Y := Lib.hid (blk_set5 y1 (.bool true) (.string ⟨#[]⟩) (.slice A j cc) (.int .i64 (p : Int)) (.int .i64 0))
      have G := Lib.hid (only_set5 G1.out (Nat.le_of_eq HW.out) (.bool true) (.string ⟨#[]⟩) (.slice A j cc) (.int .i64 (p : Int)) (.int .i64 0))
      have S := Lib.hid ((sub_set5 (g := g) K.row (by omega) (.bool true) (.string ⟨#[]⟩) (.slice A j cc) (.int .i64 (p : Int)) (.int .i64 0)).weak (fun q (hq : b3 + 1 ≤ q) => (show W.heap.size ≤ q by have := HW.out; omega)))
      clear hR K y1 hlt
      go_wp2_with fail
      refine bodyPost_ret (results_cell1 (fn := Tryz.f70) rfl _ _ _ _ rfl (load_got Y.out)) rfl ?_
      exact ⟨G.out, .inr ⟨_, _, _, _, _, HIF.out.trans HR.out, rfl, S.out⟩⟩
theorem read05_any (k : Nat) (hk : k ≤ 12) : RdC k := by
  induction k with
  | zero =>
    intro s a W hs ha
    by_cases h1 : a < s.size ∧ 192 ≤ headC s.data.toList a
    · exact read05_deep s a W hs h1.1 h1.2
    by_cases he : lookE s.data.toList (a : Int) = 0
    · by_cases hl : lookL s.data.toList (a : Int) = true
      · exfalso
        obtain ⟨b0, _, _, _, _, b5⟩ := look_ok he
        rw [hl] at b5
        exact h1 ⟨by rw [ba_len] at b0; exact b0, of_decide_eq_true b5.symm⟩
      · exact read05_txt 0 s a W hs ha (fun h => h1 ⟨h.1, h.2.1⟩) he (by simpa using hl)
    · exact read05_bad 0 s a W hs ha (fun h => h1 ⟨h.1, h.2.1⟩) he
  | succ k ih =>
    intro s a W hs ha
    by_cases he : lookE s.data.toList (a : Int) = 0
    · by_cases hl : lookL s.data.toList (a : Int) = true
      · exact read05_list k (by omega) (ih (by omega)) s a W hs ha he hl
      · exact read05_txt (k + 1) s a W hs ha (fun h => by omega) he (by simpa using hl)
    · exact read05_bad (k + 1) s a W hs ha (fun h => by omega) he
end Go.Proofs.YthalohloneojlaaGreatDoor
/- The document's decoder: Decode. -/
namespace Go.Proofs.YthalohloneojlaaGreatDoor
open Go.RowKit Go.Shelf
set_option linter.unusedVariables false
set_option linter.unusedSimpArgs false

set_option maxRecDepth 100000 in
set_option maxHeartbeats 2000000 in
theorem decode05_long (s : ByteArray) (W : World) (hs : 65536 < s.size) (hs2 : s.size ≤ 9223372036854775807) :
    Calls Tryz.prog 43 #[.string s] W (DecEnd s.data.toList W) := by
  have hd : Hid (decodeF s.data.toList = .error 5) := Lib.hid (by unfold decodeF; rw [if_pos (by rw [ba_len]; exact hs)])
  have d1 : (65536 : Int) < (s.size : Int) := by omega
  go_enter Tryz.func43, Tryz.ntmps43
  go_wp2_with fail
  refine bodyPost_ret (results_ct (fn := Tryz.f43) rfl _ _ _ _ rfl (load_item (Blk.new W _ _))) rfl ?_
  exact ⟨_, _, _, _, _, _, rfl, only_alloc (World.grownBy.refl _ _) _, .inr ⟨hd.out, by decide, rfl, rfl, rfl⟩⟩
set_option maxRecDepth 100000 in
set_option maxHeartbeats 2000000 in
theorem decode05_short (s : ByteArray) (W : World) (hs : s.size ≤ 65536) :
    Calls Tryz.prog 43 #[.string s] W (DecEnd s.data.toList W) := by
  have hlz : s.data.toList.length = s.size := ba_len s
  have d1 : decide ((65536 : Int) < (s.size : Int)) = false := decide_eq_false (by omega)
  have hxA := Blk.new W 45 #[.bool false, .string ⟨#[]⟩, .slice none 0 0]
  have hGA : W.grownBy (W.alloc (.cells #[.bool false, .string ⟨#[]⟩, .slice none 0 0] 45)) none := only_alloc (World.grownBy.refl _ _) _
  have HIT : Hid (∀ V, Calls Tryz.prog 70 #[.string s, .int .i64 0, .int .i64 0] V (RdEnd 12 s.data.toList 0 V)) := Lib.hid (fun V => read05_any 12 (by decide) s 0 V hs (by omega))
  go_enter Tryz.func43, Tryz.ntmps43
  go_upto_region 1 with (fail)
  obtain ⟨b, hb⟩ : ∃ b, W.heap.size = b := ⟨_, rfl⟩
  have HW := Lib.hid hb
  have hz1 : (W.alloc (.cells #[.bool false, .string ⟨#[]⟩, .slice none 0 0] 45)).heap.size = W.heap.size + 1 := by simp
  rw [hb] at hxA hz1 ⊢
  clear hb
  generalize W.alloc (.cells #[.bool false, .string ⟨#[]⟩, .slice none 0 0] 45) = W1 at *
  go_wp2_with fail
  refine (HIT.out _).mono ?_
  rintro e w2 ⟨hg, ⟨E, hE, hi, rfl⟩ | ⟨x, q, A, n, c, hi, rfl, hsub⟩⟩
  · have hd : Hid (decodeF s.data.toList = .error E) := Lib.hid (by unfold decodeF; rw [if_neg (by omega), hi])
    have hB2 := hxA.grown hg (by simp)
    have hlt := hB2.lt
    have HB3 := Lib.hid (hB2.alloc (.cells #[.bool false, .string ⟨#[]⟩, .slice none 0 0, .int .i64 0, .int .i64 E] 115))
    have HG2 := Lib.hid (only_alloc (grown_self hGA hg (by simp)) (.cells #[.bool false, .string ⟨#[]⟩, .slice none 0 0, .int .i64 0, .int .i64 E] 115))
    have z2 := Blk.new w2 115 #[.bool false, .string ⟨#[]⟩, .slice none 0 0, .int .i64 0, .int .i64 E]
    have e1 : (E != 0) = true := by simpa using hE
    have HE := Lib.hid hE
    clear hE hi hxA hGA hg hB2 HIT
    go_upto_region 4 with (fail)
    obtain ⟨g, hg⟩ : ∃ g, w2.heap.size = g := ⟨_, rfl⟩
    rw [hg] at z2 hlt ⊢
    have n1 : g ≠ b := by omega
    have n2 : b ≠ g := by omega
    clear hg
    generalize w2.alloc (.cells #[.bool false, .string ⟨#[]⟩, .slice none 0 0, .int .i64 0, .int .i64 E] 115) = w3 at *
    have T2 := Lib.hid (blk_set3 HB3.out (.bool false) (.string ⟨#[]⟩) (.slice none 0 0))
    have T4 := Lib.hid (only_set3 HG2.out (Nat.le_of_eq HW.out) (.bool false) (.string ⟨#[]⟩) (.slice none 0 0))
    have j4 := z2.cell 4
    have c0 := HB3.out.cell 0; have c1 := HB3.out.cell 1; have c2 := HB3.out.cell 2
    have f0 := HB3.out.frozen 0; have f1 := HB3.out.frozen 1; have f2 := HB3.out.frozen 2
    simp only [List.getElem?_toArray, List.getElem?_cons_zero, List.getElem?_cons_succ] at j4 c0 c1 c2
    clear HB3 HG2 hlt z2
    go_upto_region 5 with (fail)
    go_region
    all_goals go_wp2_with fail
    all_goals
      refine bodyPost_ret (results_ct (fn := Tryz.f43) rfl _ _ _ _ rfl (load_item (Blk.drew T2.out))) rfl ?_
      exact ⟨_, _, _, _, _, _, rfl, ⟨T4.out.os, T4.out.tape, T4.out.output, T4.out.size, T4.out.block⟩, .inr ⟨hd.out, HE.out, rfl, rfl, rfl⟩⟩
  · have hB3 := (hxA.grown hg (by simp)).alloc (.cells #[.bool x.list, .string x.bytes, .slice A n c, .int .i64 (q : Int), .int .i64 0] 115)
    have hG3 := only_alloc (grown_self hGA hg (by simp)) (.cells #[.bool x.list, .string x.bytes, .slice A n c, .int .i64 (q : Int), .int .i64 0] 115)
    have z2 := Blk.new w2 115 #[.bool x.list, .string x.bytes, .slice A n c, .int .i64 (q : Int), .int .i64 0]
    have hs2 := hsub.keep (W' := w2.alloc (.cells #[.bool x.list, .string x.bytes, .slice A n c, .int .i64 (q : Int), .int .i64 0] 115)) (fun p hp u hu => by rw [World.cell?_alloc_lt w2 _ p (World.block_lt_of_cell? w2 p hu)]; exact hu)
    obtain ⟨xl, xb, xi⟩ := x
    simp only [Itm.list, Itm.bytes, Itm.items] at *
    clear hxA hGA hg hsub HIT
    go_upto_region 4 with (fail)
    obtain ⟨g, hg⟩ : ∃ g, w2.heap.size = g := ⟨_, rfl⟩
    rw [hg] at z2 ⊢
    clear hg
    generalize w2.alloc (.cells #[.bool xl, .string xb, .slice A n c, .int .i64 (q : Int), .int .i64 0] 115) = w3 at *
    have j0 := z2.cell 0; have j1 := z2.cell 1; have j2 := z2.cell 2; have j3 := z2.cell 3; have j4 := z2.cell 4
    have c0 := hB3.cell 0; have c1 := hB3.cell 1; have c2 := hB3.cell 2
    have f0 := hB3.frozen 0; have f1 := hB3.frozen 1; have f2 := hB3.frozen 2
    simp only [List.getElem?_toArray, List.getElem?_cons_zero, List.getElem?_cons_succ] at j0 j1 j2 j3 j4 c0 c1 c2
    by_cases hq : q < s.size
    · have hd : Hid (decodeF s.data.toList = .error 4) := Lib.hid (by unfold decodeF; rw [if_neg (by omega), hi]; exact if_pos (by omega))
      have d2 : (q : Int) < (s.size : Int) := by omega
      have T2 := Lib.hid (blk_set3 hB3 (.bool false) (.string ⟨#[]⟩) (.slice none 0 0))
      have T4 := Lib.hid (only_set3 hG3 (Nat.le_of_eq HW.out) (.bool false) (.string ⟨#[]⟩) (.slice none 0 0))
      clear hB3 hG3 z2 hi hs2
      go_wp2_with fail
      refine bodyPost_ret (results_ct (fn := Tryz.f43) rfl _ _ _ _ rfl (load_item T2.out)) rfl ?_
      exact ⟨_, _, _, _, _, _, rfl, T4.out, .inr ⟨hd.out, by decide, rfl, rfl, rfl⟩⟩
    · have hd : Hid (decodeF s.data.toList = .ok (.mk xl xb xi)) := Lib.hid (by unfold decodeF; rw [if_neg (by omega), hi]; exact if_neg (by omega))
      have d2 : decide ((q : Int) < (s.size : Int)) = false := decide_eq_false (by omega)
      have d3 : decide (q < s.size) = false := decide_eq_false hq
      have T2 := Lib.hid (blk_set3 hB3 (.bool xl) (.string xb) (.slice A n c))
      have T4 := Lib.hid (only_set3 hG3 (Nat.le_of_eq HW.out) (.bool xl) (.string xb) (.slice A n c))
      have T5 := Lib.hid ((sub_set3 (g := b) hs2 (by omega) (.bool xl) (.string xb) (.slice A n c)).weak (fun k (hk : W1.heap.size ≤ k) => (show W.heap.size ≤ k by have := HW.out; omega)))
      clear hB3 hG3 z2 hi hs2
      go_wp2_with fail
      refine bodyPost_ret (results_ct (fn := Tryz.f43) rfl _ _ _ _ rfl (load_item T2.out)) rfl ?_
      exact ⟨_, _, _, _, _, _, rfl, T4.out, .inl ⟨.mk xl xb xi, hd.out, rfl, rfl, rfl, T5.out⟩⟩
theorem decode05_any (s : ByteArray) (W : World) (hs : s.size ≤ 9223372036854775807) : Calls Tryz.prog 43 #[.string s] W (DecEnd s.data.toList W) := by
  by_cases h : s.size ≤ 65536
  · exact decode05_short s W h
  · exact decode05_long s W (by omega) hs
end Go.Proofs.YthalohloneojlaaGreatDoor
/- No two items have the same bytes, nor begin another one's: plain laws. -/
namespace Go.Proofs.YthalohloneojlaaGreatDoor
open Go.RowKit Go.Shelf
set_option linter.unusedVariables false
set_option linter.unusedSimpArgs false

/-- a head tells how much there is, and of what -/
theorem headL_inj {n m p q : Nat} {u v : List UInt8} (hn : n ≤ 1000000000) (hm : m ≤ 1000000000) (hp : p = 128 ∨ p = 192) (hq : q = 128 ∨ q = 192) (h : headL n p ++ u = headL m q ++ v) : n = m ∧ p = q ∧ u = v := by
  have l1 := beN_len8 n (by omega)
  have l2 := beN_len8 m (by omega)
  unfold headL at h
  by_cases h1 : n < 56
  · rw [if_pos h1] at h
    by_cases h2 : m < 56
    · rw [if_pos h2] at h
      injection h with h3 h4
      have := u8_inj (by omega) (by omega) h3
      exact ⟨by omega, by omega, h4⟩
    · rw [if_neg h2] at h
      injection h with h3 h4
      have := u8_inj (by omega) (by omega) h3
      have := beN_pos (n := m) (by omega) hm
      omega
  · rw [if_neg h1] at h
    have := beN_pos (n := n) (by omega) hn
    by_cases h2 : m < 56
    · rw [if_pos h2] at h
      injection h with h3 h4
      have := u8_inj (by omega) (by omega) h3
      omega
    · rw [if_neg h2] at h
      have := beN_pos (n := m) (by omega) hm
      injection h with h3 h4
      have := u8_inj (by omega) (by omega) h3
      obtain ⟨h5, h6⟩ := List.append_inj h4 (by omega)
      exact ⟨beN_inj hn hm h5, by omega, h6⟩
theorem headL_first (n p : Nat) (hn : n ≤ 1000000000) (hp : p = 128 ∨ p = 192) : ∃ z l, headL n p = z :: l ∧ p ≤ z.toNat ∧ z.toNat < p + 64 := by
  have l1 := beN_len8 n (by omega)
  unfold headL
  split
  · exact ⟨_, _, rfl, by rw [UInt8.toNat_ofNat']; omega, by rw [UInt8.toNat_ofNat']; omega⟩
  · exact ⟨_, _, rfl, by rw [UInt8.toNat_ofNat']; omega, by rw [UInt8.toNat_ofNat']; omega⟩
theorem bytesT_first (b : ByteArray) (h : b.size ≤ 1000000000) : ∃ z l, bytesT b = z :: l ∧ z.toNat < 192 := by
  unfold bytesT
  split
  · rename_i h1
    have hl : b.data.toList.length = 1 := by rw [Array.length_toList]; exact h1.1
    cases hb : b.data.toList with
    | nil => rw [hb] at hl; cases hl
    | cons z l => rw [hb] at h1; exact ⟨z, l, rfl, Nat.lt_of_lt_of_le h1.2 (by omega)⟩
  · obtain ⟨z, l, e, h1, h2⟩ := headL_first b.size 128 h (.inl rfl)
    exact ⟨z, l ++ b.data.toList, by rw [e]; rfl, h2⟩
theorem bytesT_inj {p q : ByteArray} {u v : List UInt8} (hp : p.size ≤ 1000000000) (hq : q.size ≤ 1000000000) (h : bytesT p ++ u = bytesT q ++ v) : p = q ∧ u = v := by
  have lp : p.data.toList.length = p.size := Array.length_toList
  have lq : q.data.toList.length = q.size := Array.length_toList
  unfold bytesT at h
  by_cases h1 : p.size = 1 ∧ (p.data.toList.getD 0 0).toNat < 128
  · rw [if_pos h1] at h
    by_cases h2 : q.size = 1 ∧ (q.data.toList.getD 0 0).toNat < 128
    · rw [if_pos h2] at h
      obtain ⟨h3, h4⟩ := List.append_inj h (by omega)
      exact ⟨ba_ext h3, h4⟩
    · rw [if_neg h2] at h
      obtain ⟨z, l, e, h3, _⟩ := headL_first q.size 128 hq (.inl rfl)
      rw [e] at h
      cases hb : p.data.toList with
      | nil => rw [hb] at lp; simp at lp; omega
      | cons y r =>
        rw [hb] at h h1
        injection h with h5 _
        subst h5
        have : y.toNat < 128 := h1.2
        omega
  · rw [if_neg h1] at h
    by_cases h2 : q.size = 1 ∧ (q.data.toList.getD 0 0).toNat < 128
    · rw [if_pos h2] at h
      obtain ⟨z, l, e, h3, _⟩ := headL_first p.size 128 hp (.inl rfl)
      rw [e] at h
      cases hb : q.data.toList with
      | nil => rw [hb] at lq; simp at lq; omega
      | cons y r =>
        rw [hb] at h h2
        injection h with h5 _
        subst h5
        have : z.toNat < 128 := h2.2
        omega
    · rw [if_neg h2, List.append_assoc, List.append_assoc] at h
      obtain ⟨h3, _, h4⟩ := headL_inj hp hq (.inl rfl) (.inl rfl) h
      obtain ⟨h5, h6⟩ := List.append_inj h4 (by omega)
      exact ⟨ba_ext h5, h6⟩

/-- what may be has no bytes besides its items, nor items besides its bytes -/
inductive Itm.Form : Itm → Prop
  | text (b : ByteArray) : Itm.Form (.mk false b [])
  | list (xs : List Itm) (h : ∀ x, x ∈ xs → Itm.Form x) : Itm.Form (.mk true ⟨#[]⟩ xs)
theorem size_zero {b : ByteArray} (h : b.size = 0) : b = ⟨#[]⟩ := ba_ext (by
  have : b.data.toList.length = 0 := by rw [Array.length_toList]; exact h
  exact List.eq_nil_of_length_eq_zero this)
mutual
theorem form_of : ∀ (x : Itm) (d : Nat), formF x d = 0 → x.Form
  | .mk l b xs, d, h => by
    rw [formF] at h
    split at h
    · cases h
    rename_i h1
    cases l with
    | false =>
      have : xs = [] := List.eq_nil_of_length_eq_zero (Classical.byContradiction fun h2 => h1 (.inr ⟨rfl, h2⟩))
      subst this
      exact .text b
    | true =>
      have hb := size_zero (b := b) (Classical.byContradiction fun h2 => h1 (.inl ⟨rfl, h2⟩))
      subst hb
      rw [if_neg (by simp)] at h
      split at h
      · cases h
      split at h
      · cases h
      exact .list xs (form_ofL xs (d + 1) h)
theorem form_ofL : ∀ (xs : List Itm) (d : Nat), formL xs d = 0 → ∀ x, x ∈ xs → x.Form
  | [], d, _, x, hx => by cases hx
  | y :: ys, d, h, x, hx => by
    rw [formL] at h
    split at h
    · rename_i h1; exact absurd h h1
    · rename_i h1
      rcases List.mem_cons.1 hx with e | hx
      · rw [e]; exact form_of y d (by simpa using h1)
      · exact form_ofL ys d h x hx
end
theorem wt_mem {xs : List Itm} {x : Itm} (h : x ∈ xs) : wtF x ≤ wtL xs := by
  induction xs with
  | nil => cases h
  | cons y ys ih =>
    rw [wtL]
    rcases List.mem_cons.1 h with rfl | h
    · omega
    · have := ih h; omega
theorem bytesF_first (x : Itm) (h : wtF x ≤ 1000000000) : ∃ z l, bytesF x = z :: l ∧ (x.list = true → 192 ≤ z.toNat) ∧ (x.list = false → z.toNat < 192) := by
  have hw := wtF_eq x
  have hl := bytesL_len x.items (by omega)
  rw [bytesF_eq]
  cases hx : x.list with
  | true =>
    obtain ⟨z, l, e, h1, _⟩ := headL_first (bytesL x.items).length 192 (by omega) (.inr rfl)
    exact ⟨z, l ++ bytesL x.items, by rw [if_pos rfl, e]; rfl, fun _ => h1, (fun h => by cases h)⟩
  | false =>
    obtain ⟨z, l, e, h1⟩ := bytesT_first x.bytes (by omega)
    exact ⟨z, l, by rw [if_neg (by simp)]; exact e, (fun h => by cases h), fun _ => h1⟩
theorem bytesL_inj {xs : List Itm} (hI : ∀ x, x ∈ xs → ∀ y u v, y.Form → wtF y ≤ 1000000000 → bytesF x ++ u = bytesF y ++ v → x = y ∧ u = v) (hw : ∀ x, x ∈ xs → wtF x ≤ 1000000000) :
    ∀ ys : List Itm, (∀ y, y ∈ ys → y.Form) → (∀ y, y ∈ ys → wtF y ≤ 1000000000) → bytesL xs = bytesL ys → xs = ys := by
  induction xs with
  | nil =>
    intro ys _ hy h
    cases ys with
    | nil => rfl
    | cons y ys =>
      obtain ⟨z, l, e, _⟩ := bytesF_first y (hy y (by simp))
      rw [bytesL, bytesL, e] at h
      cases h
  | cons x xs ih =>
    intro ys hF hy h
    cases ys with
    | nil =>
      obtain ⟨z, l, e, _⟩ := bytesF_first x (hw x (by simp))
      rw [bytesL, bytesL, e] at h
      cases h
    | cons y ys =>
      rw [bytesL, bytesL] at h
      obtain ⟨h1, h2⟩ := hI x (by simp) y _ _ (hF y (by simp)) (hy y (by simp)) h
      rw [h1, ih (fun x hx => hI x (by simp [hx])) (fun x hx => hw x (by simp [hx])) ys (fun y h => hF y (by simp [h])) (fun y h => hy y (by simp [h])) h2]
/-- NO ITEM'S BYTES BEGIN ANOTHER ONE'S -/
theorem bytesF_inj (x : Itm) (hx : x.Form) (hwx : wtF x ≤ 1000000000) : ∀ (y : Itm) (u v : List UInt8), y.Form → wtF y ≤ 1000000000 → bytesF x ++ u = bytesF y ++ v → x = y ∧ u = v := by
  induction hx with
  | text p =>
    intro y u v hy hwy h
    cases hy with
    | text q =>
      rw [wtF] at hwx hwy
      rw [bytesF_eq, bytesF_eq] at h
      obtain ⟨h1, h2⟩ := bytesT_inj (p := p) (q := q) (by omega) (by omega) h
      exact ⟨by rw [h1], h2⟩
    | list ys hys =>
      obtain ⟨z, l, e, _, h1⟩ := bytesF_first _ hwx
      obtain ⟨z', l', e', h2, _⟩ := bytesF_first _ hwy
      rw [e, e'] at h
      injection h with h3 _
      subst h3
      have := h1 rfl; have := h2 rfl; omega
  | list xs hxs ih =>
    intro y u v hy hwy h
    cases hy with
    | text q =>
      obtain ⟨z, l, e, h1, _⟩ := bytesF_first _ hwx
      obtain ⟨z', l', e', _, h2⟩ := bytesF_first _ hwy
      rw [e, e'] at h
      injection h with h3 _
      subst h3
      have := h1 rfl; have := h2 rfl; omega
    | list ys hys =>
      rw [wtF] at hwx hwy
      have hlx := bytesL_len xs (by omega)
      have hly := bytesL_len ys (by omega)
      rw [bytesF_eq, bytesF_eq] at h
      have h : (headL (bytesL xs).length 192 ++ bytesL xs) ++ u = (headL (bytesL ys).length 192 ++ bytesL ys) ++ v := h
      rw [List.append_assoc, List.append_assoc] at h
      obtain ⟨h1, _, h2⟩ := headL_inj (by omega) (by omega) (.inr rfl) (.inr rfl) h
      obtain ⟨h3, h4⟩ := List.append_inj h2 h1
      have hw1 : ∀ x, x ∈ xs → wtF x ≤ 1000000000 := fun x hx => by have := wt_mem hx; omega
      have hw2 : ∀ x, x ∈ ys → wtF x ≤ 1000000000 := fun x hx => by have := wt_mem hx; omega
      exact ⟨by rw [bytesL_inj (fun x hx y u v hy hwy => ih x hx (hw1 x hx) y u v hy hwy) hw1 ys hys hw2 h3], h4⟩
theorem check_form {x : Itm} (h : checkI x = 0) : x.Form ∧ (bytesF x).length ≤ 65536 ∧ formF x 0 = 0 := by
  unfold checkI at h
  split at h
  · rename_i h1; exact absurd h h1
  · rename_i h1
    have h1 : formF x 0 = 0 := by simpa using h1
    split at h
    · cases h
    · exact ⟨form_of x 0 h1, by omega, h1⟩
end Go.Proofs.YthalohloneojlaaGreatDoor
/- Heads that are written and read: plain laws. -/
namespace Go.Proofs.YthalohloneojlaaGreatDoor
open Go.RowKit Go.Shelf
set_option linter.unusedVariables false
set_option linter.unusedSimpArgs false

theorem valL_beV (l : List UInt8) : valL l = beV l := rfl
/-- a head, as it is read -/
theorem raw_head (n base : Nat) (t : List UInt8) (hn : n ≤ 65536) (hb : base = 128 ∨ base = 192) :
    128 ≤ headC (headL n base ++ t) 0 ∧ (192 ≤ headC (headL n base ++ t) 0 ↔ base = 192) ∧ rawE (headL n base ++ t) 0 = 0 ∧ rawFrom (headL n base ++ t) 0 = (headL n base).length ∧ rawN (headL n base ++ t) 0 = n ∧ (headC (headL n base ++ t) 0 = 129 → base = 128 ∧ n = 1) := by
  by_cases h : n < 56
  · rw [show headL n base = [UInt8.ofNat (base + n)] from if_pos h]
    have hc : headC ([UInt8.ofNat (base + n)] ++ t) 0 = base + n := by
      show (UInt8.ofNat (base + n)).toNat = _
      rw [UInt8.toNat_ofNat']; omega
    unfold rawE rawFrom rawN
    rw [hc]
    have q1 : ¬ base + n < 128 := by omega
    have q2 : (base + n - 128) % 64 = n := by omega
    rw [if_neg q1, if_neg q1, if_neg q1, q2, if_pos h, if_pos h, if_pos h]
    exact ⟨by omega, by omega, rfl, rfl, rfl, by omega⟩
  · rw [show headL n base = UInt8.ofNat (base + 55 + (beN n).length) :: beN n from if_neg h]
    have hm3 := beN_len3 n (by omega)
    have hm1 := beN_pos (n := n) (by omega) (by omega)
    have hv := beV_beN n (Nat.lt_of_le_of_lt hn (by decide))
    have hf := beN_first n
    generalize beN n = r at *
    have hc : headC (UInt8.ofNat (base + 55 + r.length) :: r ++ t) 0 = base + 55 + r.length := by
      show (UInt8.ofNat (base + 55 + r.length)).toNat = _
      rw [UInt8.toNat_ofNat']; omega
    have hB : lenB (UInt8.ofNat (base + 55 + r.length) :: r ++ t) 0 r.length = n := by
      unfold lenB
      rw [show (UInt8.ofNat (base + 55 + r.length) :: r ++ t).drop (0 + 1) = r ++ t from rfl, List.take_left' rfl]; exact hv
    have hz : (UInt8.ofNat (base + 55 + r.length) :: r ++ t).getD (0 + 1) 0 = r.getD 0 0 := by
      cases r with
      | nil => simp at hm1
      | cons a r => rfl
    have hE : lengthE (UInt8.ofNat (base + 55 + r.length) :: r ++ t) 0 r.length = 0 := by
      unfold lengthE
      rw [if_neg (by omega), if_neg (by simp only [List.cons_append, List.length_cons, List.length_append]; omega), if_neg]
      rw [hz, hB]
      rintro (g | g)
      · rcases hf with f | f
        · rw [f] at hm1; simp at hm1
        · exact f (UInt8.toNat_inj.1 (by rw [g]; rfl))
      · omega
    unfold rawE rawFrom rawN
    rw [hc]
    have q1 : ¬ base + 55 + r.length < 128 := by omega
    have q2 : (base + 55 + r.length - 128) % 64 = 55 + r.length := by omega
    have q3 : ¬ 55 + r.length < 56 := by omega
    rw [if_neg q1, if_neg q1, if_neg q1, q2, if_neg q3, if_neg q3, if_neg q3, show 55 + r.length - 55 = r.length by omega, hE, hB]
    exact ⟨by omega, by omega, rfl, by simp; omega, rfl, by omega⟩
theorem headL_pos (n base : Nat) : 1 ≤ (headL n base).length := by unfold headL; split <;> simp
theorem look_head (n base : Nat) (t : List UInt8) (hn : n ≤ 65536) (hb : base = 128 ∨ base = 192) (ht : n ≤ t.length) (h1 : ¬ (base = 128 ∧ n = 1 ∧ (t.getD 0 0).toNat < 128)) :
    lookE (headL n base ++ t) ((0 : Nat) : Int) = 0 ∧ lookFrom (headL n base ++ t) ((0 : Nat) : Int) = (headL n base).length ∧ lookN (headL n base ++ t) ((0 : Nat) : Int) = n ∧ lookL (headL n base ++ t) ((0 : Nat) : Int) = decide (base = 192) := by
  obtain ⟨r1, r2, r3, r4, r5, r6⟩ := raw_head n base t hn hb
  have hp := headL_pos n base
  have hl : (headL n base ++ t).length = (headL n base).length + t.length := List.length_append
  have hE : lookE (headL n base ++ t) ((0 : Nat) : Int) = 0 := by
    unfold lookE
    rw [if_neg (by omega), if_neg (by omega), Int.toNat_natCast, if_neg (by rw [r3]; simp), if_neg (by omega), if_neg]
    rintro ⟨g1, g2⟩
    obtain ⟨e1, e2⟩ := r6 g1
    subst e1; subst e2
    exact h1 ⟨rfl, rfl, by cases t with
      | nil => exact g2
      | cons a t => exact g2⟩
  refine ⟨hE, ?_, ?_, ?_⟩
  · unfold lookFrom; rw [if_pos hE, Int.toNat_natCast, r4]
  · unfold lookN; rw [if_pos hE, Int.toNat_natCast, r5]
  · unfold lookL; rw [if_pos hE, Int.toNat_natCast]; exact decide_eq_decide.2 r2
theorem look_cut (n base : Nat) (t : List UInt8) (hn : n ≤ 65536) (hb : base = 128 ∨ base = 192) (ht : n = t.length) (cut : Nat) (hc : cut < (headL n base ++ t).length) :
    lookE ((headL n base ++ t).take cut) ((0 : Nat) : Int) = 3 := by
  have hp := headL_pos n base
  have hl : (headL n base ++ t).length = (headL n base).length + t.length := List.length_append
  have hlt : ((headL n base ++ t).take cut).length = cut := by rw [List.length_take]; omega
  by_cases h0 : cut = 0
  · subst h0
    unfold lookE
    rw [hlt, if_neg (by omega), if_pos rfl]
  by_cases h1 : (headL n base).length ≤ cut
  · have e : (headL n base ++ t).take cut = headL n base ++ t.take (cut - (headL n base).length) := by
      rw [List.take_append, List.take_of_length_le h1]
    rw [e] at hlt ⊢
    obtain ⟨r1, r2, r3, r4, r5, r6⟩ := raw_head n base (t.take (cut - (headL n base).length)) hn hb
    unfold lookE
    rw [hlt, if_neg (by omega), if_neg (by omega), Int.toNat_natCast, if_neg (by rw [r3]; simp), if_pos (by omega)]
  · by_cases h : n < 56
    · rw [show headL n base = [UInt8.ofNat (base + n)] from if_pos h] at h1
      simp at h1; omega
    · have e : headL n base = UInt8.ofNat (base + 55 + (beN n).length) :: beN n := if_neg h
      have hm3 := beN_len3 n (by omega)
      have hm1 := beN_pos (n := n) (by omega) (by omega)
      rw [e] at h1 hlt ⊢
      obtain ⟨c, rfl⟩ : ∃ c, cut = c + 1 := ⟨cut - 1, by omega⟩
      generalize beN n = r at *
      rw [List.cons_append, List.take_succ_cons] at hlt ⊢
      have hcC : headC (UInt8.ofNat (base + 55 + r.length) :: (r ++ t).take c) 0 = base + 55 + r.length := by
        show (UInt8.ofNat (base + 55 + r.length)).toNat = _
        rw [UInt8.toNat_ofNat']; omega
      rw [List.length_cons] at h1
      have hE : rawE (UInt8.ofNat (base + 55 + r.length) :: (r ++ t).take c) 0 = 3 := by
        unfold rawE
        rw [hcC, if_neg (by omega), show (base + 55 + r.length - 128) % 64 = 55 + r.length by omega, if_neg (by omega), show 55 + r.length - 55 = r.length by omega]
        unfold lengthE
        rw [if_neg (by omega), if_pos (by rw [hlt]; omega)]
      unfold lookE
      rw [hlt, if_neg (by omega), if_neg (by omega), Int.toNat_natCast, if_pos (by rw [hE]; decide), hE]

theorem bytesT_pos (b : ByteArray) : 1 ≤ (bytesT b).length := by
  have h2 : b.data.toList.length = b.size := Array.length_toList
  unfold bytesT
  split
  · omega
  · rw [List.length_append]; have := headL_pos b.size 128; omega
theorem bytesF_pos (x : Itm) : 1 ≤ (bytesF x).length := by
  rw [bytesF_eq]
  split
  · rw [List.length_append]; have := headL_pos (bytesL x.items).length 192; omega
  · exact bytesT_pos _
/-- a head that is read, as it is written -/
theorem head_only {l : List UInt8} {a : Nat} (h : lookE l (a : Int) = 0) (hc : 128 ≤ headC l a) : (l.drop a).take (lookFrom l (a : Int) - a) = headL (lookN l (a : Int)) (if 192 ≤ headC l a then 192 else 128) := by
  obtain ⟨b0, b1, b2, b3, b4, b5⟩ := look_ok h
  have e1 : lookFrom l (a : Int) = rawFrom l a := by unfold lookFrom; rw [if_pos h, Int.toNat_natCast]
  have e2 : lookN l (a : Int) = rawN l a := by unfold lookN; rw [if_pos h, Int.toNat_natCast]
  rw [e1] at b1 b2 b3 b4 ⊢
  rw [e2] at b1 b3 ⊢
  unfold lookE at h
  rw [if_neg (by omega), if_neg (by omega), Int.toNat_natCast] at h
  split at h
  · rename_i g; exact absurd h g
  rename_i g
  have g : rawE l a = 0 := by simpa using g
  clear h b5 e1 e2
  have hd : l.drop a = UInt8.ofNat (headC l a) :: l.drop (a + 1) := by
    rw [List.drop_eq_getElem_cons b0]
    unfold headC
    rw [UInt8.ofNat_toNat, List.getD_eq_getElem?_getD, List.getElem?_eq_getElem b0]; rfl
  have hlt := headC_lt l a
  unfold rawE at g
  unfold rawFrom rawN at *
  have n1 : ¬ headC l a < 128 := by omega
  simp only [if_neg n1] at *
  by_cases h2 : (headC l a - 128) % 64 < 56
  · simp only [if_pos h2] at *
    rw [show a + 1 - a = 1 by omega, hd]
    unfold headL
    rw [if_pos h2, show (if 192 ≤ headC l a then 192 else 128) + (headC l a - 128) % 64 = headC l a by split <;> omega]
    rfl
  · simp only [if_neg h2] at *
    generalize hm : (headC l a - 128) % 64 - 55 = m at *
    unfold lengthE at g
    split at g
    · cases g
    rename_i g1
    split at g
    · cases g
    rename_i g2
    split at g
    · cases g
    rename_i g3
    have hlen : ((l.drop (a + 1)).take m).length = m := by rw [List.length_take, List.length_drop]; omega
    have hbe : beN (lenB l a m) = (l.drop (a + 1)).take m := by
      show beN (beV _) = _
      refine beN_beV _ (by omega) ?_
      rw [List.getD_eq_getElem?_getD, List.getElem?_take_of_lt (by omega), List.getElem?_drop, Nat.add_zero, ← List.getD_eq_getElem?_getD]
      intro e
      exact g3 (.inl (by rw [e]; rfl))
    unfold headL
    rw [if_neg (by omega), hbe, hlen, show a + 1 + m - a = m + 1 by omega, hd, List.take_succ_cons, show (if 192 ≤ headC l a then 192 else 128) + 55 + m = headC l a by split <;> omega]
end Go.Proofs.YthalohloneojlaaGreatDoor
