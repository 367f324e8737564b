/- FieldOnly: the walk.  Printed by wip/genFldZ.py -/
import Derived.Test.YtmlkjackopiekaaDoorFldYa
import Derived.Test.YtmlkjackopiekaaDoorRlpG
import Derived.Test.YtmlkjackopiekaaDoorRlpI0
import Derived.Test.YtmlkjackopiekaaDoorOne
namespace Go.Proofs.YtmlkjackopiekaaDoor
open Go.RowKit Go.Shelf
set_option linter.unusedVariables false
set_option linter.unusedSimpArgs false

theorem ba_same6 {s : ByteArray} : (⟨s.data.toList.toArray⟩ : ByteArray) = s := by cases s; rfl
theorem ba_empty6 {s : ByteArray} (h : s.size = 0) : s = ⟨#[]⟩ := by
  rcases s with ⟨⟨l⟩⟩
  have : l.length = 0 := h
  cases l with
  | nil => rfl
  | cons a b => simp at this
/-- what an item is that may be -/
theorem only_leaf {s : ByteArray} {xs : List Itm} (h : checkI (.mk false s xs) = 0) : xs = [] ∧ s.size ≤ 65536 := by
  unfold checkI at h
  split at h
  · rename_i h1; exact absurd h h1
  rename_i h1
  split at h
  · cases h
  rename_i h2
  have h1 : formF (.mk false s xs) 0 = 0 := by simpa using h1
  rw [formF_eq] at h1
  have h3 : xs.length = 0 := by
    by_cases h4 : xs.length = 0
    · exact h4
    · rw [if_pos (.inr ⟨rfl, h4⟩)] at h1; cases h1
  refine ⟨List.length_eq_zero_iff.1 h3, ?_⟩
  have e : bytesF (.mk false s xs) = bytesT s := by rw [bytesF_eq]; rfl
  rw [e] at h2
  have hl : s.data.toList.length = s.size := Array.length_toList
  unfold bytesT at h2
  split at h2
  · omega
  · rw [List.length_append] at h2; omega
theorem formL_all {xs : List Itm} {d : Nat} (h : formL xs d = 0) : ∀ y ∈ xs, formF y d = 0 := by
  induction xs with
  | nil => intro y hy; cases hy
  | cons x xs ih =>
    rw [formL] at h
    by_cases h1 : formF x d = 0
    · rw [if_neg (by simp [h1])] at h
      intro y hy
      rcases List.mem_cons.1 hy with e | e
      · exact e ▸ h1
      · exact ih h y e
    · rw [if_pos h1] at h; exact absurd h h1
theorem only_list {s : ByteArray} {xs : List Itm} (h : checkI (.mk true s xs) = 0) : s = ⟨#[]⟩ ∧ xs.length ≤ 512 ∧ ∀ y ∈ xs, y.list = false → y.items = [] := by
  unfold checkI at h
  split at h
  · rename_i h1; exact absurd h h1
  rename_i h1
  have h1 : formF (.mk true s xs) 0 = 0 := by simpa using h1
  rw [formF_eq] at h1
  split at h1
  · cases h1
  rename_i h2
  split at h1
  · rename_i h3; cases h3
  split at h1
  · cases h1
  split at h1
  · cases h1
  rename_i h512
  have h512 : ¬ 512 < xs.length := h512
  refine ⟨ba_empty6 (by
    by_cases h4 : s.size = 0
    · exact h4
    · exact absurd (.inl ⟨rfl, h4⟩) h2), by omega, fun y hy hl => ?_⟩
  have := formL_all h1 y hy
  rw [formF_eq] at this
  by_cases h5 : y.items.length = 0
  · exact List.length_eq_zero_iff.1 h5
  · rw [if_pos (.inr ⟨hl, h5⟩)] at this; cases this
theorem gtx_all {ys : List Itm} {a b : Int} (h : gtxE ys a b = 0) : ∀ y ∈ ys, y.list = false := by
  induction ys with
  | nil => intro y hy; cases hy
  | cons x xs ih =>
    rw [gtxE] at h
    by_cases h1 : tE x a b = 0
    · rw [if_neg (by simp [h1])] at h
      intro y hy
      rcases List.mem_cons.1 hy with e | e
      · subst e
        unfold tE at h1
        cases hl : y.list with
        | false => rfl
        | true => rw [hl] at h1; cases h1
      · exact ih h y e
    · rw [if_pos h1] at h; exact absurd h h1
theorem only_texts {s : ByteArray} {xs : List Itm} {n : Nat} (hn : n = xs.length) (h : checkI (.mk true s xs) = 0) (hg : gtE true n 600 0 70000 xs = 0) : n ≤ 600 ∧ (xs.map Itm.bytes).map txt = xs := by
  obtain ⟨-, -, h2⟩ := only_list h
  have hE : textE n 0 600 = 0 ∧ gtxE (gtYs true n 600 xs) 0 70000 = 0 := by
    unfold gtE at hg
    split at hg
    · rename_i h1; exact absurd hg h1
    · rename_i h1; exact ⟨hg, by simpa using h1⟩
  have h3 : gtYs true n 600 xs = xs := if_pos ⟨rfl, hE.1⟩
  rw [h3] at hE
  refine ⟨?_, ?_⟩
  · have h4 := hE.1
    unfold textE at h4
    by_cases h5 : (600 : Int) < (n : Int)
    · rw [if_neg (by omega), if_pos h5] at h4; cases h4
    · omega
  · rw [List.map_map]
    refine (List.map_congr_left fun y hy => ?_).trans (List.map_id _)
    have e1 := gtx_all hE.2 y hy
    have e2 := h2 y hy e1
    rcases y with ⟨l, b, ys⟩
    have e1 : l = false := e1
    have e2 : ys = [] := e2
    subst e1; subst e2; rfl


open Classical in
set_option maxRecDepth 100000 in
set_option maxHeartbeats 8000000 in
theorem only6_law (l : Bool) (s : ByteArray) (xs : List Itm) (A : Option Addr) (c : Nat) (W : World) (hsx : SubW W xs (.slice A xs.length c)) (hw : wtF (.mk l s xs) ≤ 10485760) :
    Calls Tryd.prog 5 #[.agg #[.bool l, .string s, .slice A xs.length c]] W fun e w' => e = .returned (.bool true) ∧ Below W.heap.size W w' := by
  have hok : (Itm.mk l s xs).Ok := ok_of_wt _ (by omega)
  have HF := Lib.hid (fun V (h : SubW V xs (.slice A xs.length c)) => few_any (.mk l s xs) V _ h hok)
  have HC := Lib.hid (fun V (h : SubW V xs (.slice A xs.length c)) => checkP_any (.mk l s xs) V _ h (by omega))
  have HO := Lib.hid hok
  have hs9 : s.size ≤ 9223372036854775807 := hok.bytes
  have hWt := Lib.hid hw
  have T := one_box W (.mk l s xs) (.slice A xs.length c) hsx
  change One W (W.alloc (.cells #[.bool l, .string s, .slice A xs.length c] 30)) W.heap.size _ _ at T
  obtain ⟨n, hn⟩ : ∃ n, xs.length = n := ⟨_, rfl⟩
  have HN := Lib.hid hn
  rw [hn] at T HF HC hsx ⊢
  have HS9 := Lib.hid hs9
  clear hsx hok hw hn hs9
  have Hcells : ∀ V b, One W V b (.mk l s xs) (.slice A n c) → V.cell? ⟨b, 0, none⟩ = some (.bool l) ∧ V.cell? ⟨b, 1, none⟩ = some (.string s) ∧ V.cell? ⟨b, 2, none⟩ = some (.slice A n c) := fun V b h => h.cells
  go_enter Tryd.func5, Tryd.ntmps5
  go_upto_region 1 with (fail)
  obtain ⟨b, hb⟩ : ∃ b, W.heap.size = b := ⟨_, rfl⟩
  have HB := Lib.hid hb
  rw [hb] at T ⊢
  clear hb
  generalize W.alloc (.cells #[.bool l, .string s, .slice A n c] 30) = w1 at *
  go_wp2_with fail
  refine (works6_any _).mono ?_
  rintro e w2 ⟨rfl, hg⟩
  replace T := T.grown hg
  clear hg
  obtain ⟨c0, c1, c2⟩ := Hcells _ _ T
  go_wp2_with fail
  refine (HF.out _ T.sx).mono ?_
  rintro e w3 ⟨r, rfl, hg⟩
  replace T := T.grown hg
  clear hg c0 c1 c2
  cases r with
  | false =>
    go_wp2_with fail
    go_ret
    exact ⟨rfl, HB.out ▸ T.below⟩
  | true =>
  obtain ⟨c0, c1, c2⟩ := Hcells _ _ T
  go_wp2_with fail
  refine (HC.out _ T.sx).mono ?_
  rintro e w4 ⟨rfl, hg⟩
  replace T := T.grown hg
  clear hg c0 c1 c2
  by_cases hE : checkI (.mk l s xs) = 0
  rotate_left
  · have e1 : (checkI (.mk l s xs) != 0) = true := by simpa using hE
    generalize checkI (.mk l s xs) = E at *
    go_wp2_with fail
    go_ret
    exact ⟨rfl, HB.out ▸ T.below⟩
  have HE := Lib.hid hE
  rw [hE]
  clear hE

  obtain ⟨n1, hn1⟩ : ∃ n1, numV l s = n1 := ⟨_, rfl⟩
  obtain ⟨E1, hE1⟩ : ∃ E1, numE l s = E1 := ⟨_, rfl⟩
  have hk := fun V => getNumber_any l s (.slice A n c) HS9.out V
  rw [hn1, hE1] at hk
  have K1 := Lib.hid hk; have Hn1 := Lib.hid hn1; have HE1 := Lib.hid hE1
  clear hk hn1 hE1
  obtain ⟨p0, hp0⟩ : ∃ n1, wordP l s 0 = n1 := ⟨_, rfl⟩
  obtain ⟨p1, hp1⟩ : ∃ n1, wordP l s 1 = n1 := ⟨_, rfl⟩
  obtain ⟨p2, hp2⟩ : ∃ n1, wordP l s 2 = n1 := ⟨_, rfl⟩
  obtain ⟨p3, hp3⟩ : ∃ n1, wordP l s 3 = n1 := ⟨_, rfl⟩
  obtain ⟨E2, hE2⟩ : ∃ E1, wordE l s = E1 := ⟨_, rfl⟩
  have hk := fun V => getWord_any l s (.slice A n c) HS9.out V
  rw [hp0, hp1, hp2, hp3, hE2] at hk
  have K2 := Lib.hid hk; have Hp0 := Lib.hid hp0; have Hp1 := Lib.hid hp1; have Hp2 := Lib.hid hp2; have Hp3 := Lib.hid hp3; have HE2 := Lib.hid hE2
  clear hk hp0 hp1 hp2 hp3 hE2
  obtain ⟨S3, hS3⟩ : ∃ S3, (if l = false ∧ textE s.size 0 70000 = 0 then s else ⟨#[]⟩) = S3 := ⟨_, rfl⟩
  obtain ⟨E3, hE3⟩ : ∃ E3, (if l then 2 else textE s.size 0 70000) = E3 := ⟨_, rfl⟩
  have hk := fun V => getText_any l s (.slice A n c) 0 70000 V
  rw [hS3, hE3] at hk
  have K3 := Lib.hid hk; have HS3 := Lib.hid hS3; have HE3 := Lib.hid hE3
  clear hk hS3 hE3
  obtain ⟨v4, hv4⟩ : ∃ v4, (if l = false ∧ yesE s = 0 then yesV s else false) = v4 := ⟨_, rfl⟩
  obtain ⟨E4, hE4⟩ : ∃ E4, (if l then 2 else yesE s) = E4 := ⟨_, rfl⟩
  have hk := fun V => getBool_any l s (.slice A n c) V
  rw [hv4, hE4] at hk
  have K4 := Lib.hid hk; have Hv4 := Lib.hid hv4; have HE4 := Lib.hid hE4
  clear hk hv4 hE4

  obtain ⟨c0, c1, c2⟩ := Hcells _ _ T
  go_wp2_with fail
  refine (K1.out _).mono ?_
  rintro e w5 ⟨rfl, hg⟩
  replace T := T.grown hg
  clear hg c0 c1 c2
  obtain ⟨c0, c1, c2⟩ := Hcells _ _ T
  go_wp2_with fail
  refine (K2.out _).mono ?_
  rintro e w6 ⟨rfl, hg⟩
  replace T := T.grown hg
  clear hg c0 c1 c2
  go_upto_region 9 with (fail)
  have hg := only_alloc (World.grownBy.refl w6 none) (.cells #[.int .u64 (p0 : Int), .int .u64 (p1 : Int), .int .u64 (p2 : Int), .int .u64 (p3 : Int)] 24)
  have hD := Blk.new w6 24 #[.int .u64 (p0 : Int), .int .u64 (p1 : Int), .int .u64 (p2 : Int), .int .u64 (p3 : Int)]
  obtain ⟨d, hd⟩ : ∃ d, w6.heap.size = d := ⟨_, rfl⟩
  rw [hd] at hD ⊢
  generalize w6.alloc (.cells #[.int .u64 (p0 : Int), .int .u64 (p1 : Int), .int .u64 (p2 : Int), .int .u64 (p3 : Int)] 24) = w7 at *
  replace T := T.grown hg
  have HD := Lib.hid hD
  clear hg hD hd
  obtain ⟨c0, c1, c2⟩ := Hcells _ _ T
  go_wp2_with fail
  refine (K3.out _).mono ?_
  rintro e w8 ⟨rfl, hg⟩
  replace T := T.grown hg
  replace HD := Lib.hid (HD.out.grown hg (by simp))
  clear hg c0 c1 c2
  obtain ⟨c0, c1, c2⟩ := Hcells _ _ T
  go_wp2_with fail
  refine (K4.out _).mono ?_
  rintro e w9 ⟨rfl, hg⟩
  replace T := T.grown hg
  replace HD := Lib.hid (HD.out.grown hg (by simp))
  clear hg c0 c1 c2
  cases l with
  | true =>
    obtain ⟨hs0, h512, -⟩ := only_list HE.out
    have HS0 := Lib.hid hs0
    have H5 := Lib.hid (show n ≤ 100000 by have := HN.out; omega)
    clear hs0 h512
    obtain rfl : E1 = 2 := HE1.out.symm
    obtain rfl : E2 = 2 := HE2.out.symm
    obtain rfl : E3 = 2 := HE3.out.symm
    obtain rfl : E4 = 2 := HE4.out.symm
    clear K1 K2 K3 K4 HE1 HE2 HE3 HE4 HS3 Hv4 Hn1 Hp0 Hp1 Hp2 Hp3 HF HC
    obtain ⟨c0, c1, c2⟩ := Hcells _ _ T
    go_upto_region 11 with (fail)
    have hC0 : (fun V => Below w9.heap.size w9 V) w9.drew := ⟨rfl, rfl, rfl, Nat.le_refl _, fun _ _ => rfl⟩
    refine wp_region_class (fun V => Below w9.heap.size w9 V) (by kernel_rfl) (by kernel_rfl) hC0 ?_
    have hcc := class_const hC0
    have hlb := T.bx.lt
    have hr0 : ∀ V, Below w9.heap.size w9 V → V.cell? ⟨b, 0, none⟩ = some (.bool true) := fun V hV => (hV.cell (p := ⟨b, 0, none⟩) hlb).trans c0
    have hr1 : ∀ V, Below w9.heap.size w9 V → V.cell? ⟨b, 1, none⟩ = some (.string s) := fun V hV => (hV.cell (p := ⟨b, 1, none⟩) hlb).trans c1
    have hr2 : ∀ V, Below w9.heap.size w9 V → V.cell? ⟨b, 2, none⟩ = some (.slice A n c) := fun V hV => (hV.cell (p := ⟨b, 2, none⟩) hlb).trans c2
    clear c0 c1 c2 hlb
    (try simp only [Act.put])
    (repeat go_big_quiet_step (fail))
    refine wpQuiet_nil ?_
    intro w10 hw3
    have hg := grown_of_below hw3
    replace T := T.grown hg
    clear hcc hC0 hr0 hr1 hr2 hw3 hg
    obtain ⟨I, hI⟩ : ∃ I, gtE true n 600 0 70000 xs = I := ⟨_, rfl⟩
    have hk := fun V hS => getTexts_any true s A n c xs 600 0 70000 V hS H5.out
    rw [hI] at hk
    have K5 := Lib.hid hk; have HI := Lib.hid hI
    clear hk hI
    obtain ⟨c0, c1, c2⟩ := Hcells _ _ T
    go_wp2_with fail
    refine (K5.out _ T.sx).mono ?_
    rintro e w11 ⟨v5, ys, rfl, hown, hys, hg⟩
    obtain ⟨A5, c5, rfl⟩ := own_slice3 hown
    replace T := T.grown hg
    have HY := Lib.hid hys
    have HOwn := Lib.hid hown
    clear hg c0 c1 c2 K5 hys hown
    obtain ⟨c0, c1, c2⟩ := Hcells _ _ T
    go_wp2_with fail
    refine (getAddr_any true s (.slice A n c) _).mono ?_
    rintro e w12 ⟨rfl, hg⟩
    rw [show (if true = false ∧ addrE s = 0 then addrV s else ⟨#[]⟩ : ByteArray) = ⟨#[]⟩ from rfl, show (if (true : Bool) then (2 : Int) else addrE s) = 2 from rfl]
    replace T := T.grown hg
    have HR := Lib.hid (Reads.grown (Reads.of_own HOwn.out) hg (Nat.le_refl _) (by simp))
    clear c0 c1 c2 HOwn
    by_cases hI0 : I = 0
    rotate_left

    · have e1 : (I != 0) = true := by simpa using hI0
      obtain ⟨c0, c1, c2⟩ := Hcells _ _ T
      go_upto_region 15 with (fail)
      have hC0 : (fun V => Below w12.heap.size w12 V) w12.drew := ⟨rfl, rfl, rfl, Nat.le_refl _, fun _ _ => rfl⟩
      refine wp_region_class (fun V => Below w12.heap.size w12 V) (by kernel_rfl) (by kernel_rfl) hC0 ?_
      have hcc := class_const hC0
      have hlb := T.bx.lt
      have hr0 : ∀ V, Below w12.heap.size w12 V → V.cell? ⟨b, 0, none⟩ = some (.bool true) := fun V hV => (hV.cell (p := ⟨b, 0, none⟩) hlb).trans c0
      have hr1 : ∀ V, Below w12.heap.size w12 V → V.cell? ⟨b, 1, none⟩ = some (.string s) := fun V hV => (hV.cell (p := ⟨b, 1, none⟩) hlb).trans c1
      have hr2 : ∀ V, Below w12.heap.size w12 V → V.cell? ⟨b, 2, none⟩ = some (.slice A n c) := fun V hV => (hV.cell (p := ⟨b, 2, none⟩) hlb).trans c2
      clear c0 c1 c2 hlb
      (try simp only [Act.put])
      (repeat go_big_quiet_step (fail))
      refine wpQuiet_load1' (.bool true) _ _ ⟨b, 0, none⟩ _ rfl rfl rfl Tryd.underlying4 rfl hr0 ?_
      simp only [Act.put, List.setIfInBounds_toArray, List.set_cons_zero, List.set_cons_succ]
      (repeat go_big_quiet_step (fail))
      refine wpQuiet_nil ?_
      intro w13 hw3
      have hg := grown_of_below hw3
      replace T := T.grown hg
      clear hcc hC0 hr0 hr1 hr2 hw3 hg
      go_wp2_with fail
      go_ret
      exact ⟨rfl, HB.out ▸ T.below⟩
    subst hI0
    obtain ⟨h600, hmap⟩ := only_texts HN.out.symm HE.out HI.out
    have hyx : ys = xs := HY.out.trans (if_pos rfl)
    have hR := HR.out
    rw [hyx, show (xs.map fun y => Value.string y.bytes) = (xs.map Itm.bytes).map Value.string by rw [List.map_map]; rfl, HN.out] at hR
    have hyl : ys.length = n := by rw [hyx]; exact HN.out
    rw [hyl]
    have HTx := Lib.hid (fun V (hV : Below w12.heap.size w12 V) => texts_any w11.heap.size A5 n c5 (xs.map Itm.bytes) V (hR.grown (grown_of_below hV) hg.size (by simp)) (Nat.le_trans hg.size hV.size) (by omega))
    have HMap := Lib.hid hmap
    obtain ⟨c0, c1, c2⟩ := Hcells _ _ T
    go_upto_region 15 with (fail)
    refine wp_region_held (S := fun W => Below w12.heap.size w12 W) (by kernel_rfl) ?_
    change wpAnyH _ _ _ _ _ _ _ _ w12.drew
    have hS0 : Below w12.heap.size w12 w12.drew := ⟨rfl, rfl, rfl, Nat.le_refl _, fun _ _ => rfl⟩
    generalize w12.drew = u0 at *
    have hlb := T.bx.lt
    have hr0 : ∀ V, Below w12.heap.size w12 V → V.cell? ⟨b, 0, none⟩ = some (.bool true) := fun V hV => (hV.cell (p := ⟨b, 0, none⟩) hlb).trans c0
    have hr1 : ∀ V, Below w12.heap.size w12 V → V.cell? ⟨b, 1, none⟩ = some (.string s) := fun V hV => (hV.cell (p := ⟨b, 1, none⟩) hlb).trans c1
    have hr2 : ∀ V, Below w12.heap.size w12 V → V.cell? ⟨b, 2, none⟩ = some (.slice A n c) := fun V hV => (hV.cell (p := ⟨b, 2, none⟩) hlb).trans c2
    clear c0 c1 c2 hlb hg hR
    refine held_take (i := 0) (v := .bool true) (some 102) rfl (by kernel_rfl) (by kernel_rfl) (by kernel_rfl) (fun _ _ _ h => h) rfl (Or.inl ⟨by rfl, fun W hW => exec_move (.tmp 3) rfl _ rfl⟩) hS0 ?_
    simp only [Act.put, List.setIfInBounds_toArray, List.set_cons_zero, List.set_cons_succ]
    refine held_take (i := 1) (v := .bool true) (some 103) rfl (by kernel_rfl) (by kernel_rfl) (by kernel_rfl) (fun _ _ _ h => h) rfl (Or.inl ⟨by rfl, fun W hW => exec_move (.tmp 102) rfl _ rfl⟩) hS0 ?_
    simp only [Act.put, List.setIfInBounds_toArray, List.set_cons_zero, List.set_cons_succ]
    refine held_take (i := 2) (v := .int .i64 0) (some 104) rfl (by kernel_rfl) (by kernel_rfl) (by kernel_rfl) (fun _ _ _ h => h) rfl (Or.inl ⟨by rfl, fun W hW => exec_move (.tmp 14) rfl _ rfl⟩) hS0 ?_
    simp only [Act.put, List.setIfInBounds_toArray, List.set_cons_zero, List.set_cons_succ]
    refine held_take (i := 3) (v := .bool false) (some 105) rfl (by kernel_rfl) (by kernel_rfl) (by kernel_rfl) (fun _ _ _ h => h) rfl (Or.inl ⟨by rfl, fun W hW => by go_simp⟩) hS0 ?_
    simp only [Act.put, List.setIfInBounds_toArray, List.set_cons_zero, List.set_cons_succ]
    refine held_take (i := 4) (v := .bool false) (some 106) rfl (by kernel_rfl) (by kernel_rfl) (by kernel_rfl) (fun _ _ _ h => h) rfl (Or.inl ⟨by rfl, fun W hW => exec_move (.tmp 105) rfl _ rfl⟩) hS0 ?_
    simp only [Act.put, List.setIfInBounds_toArray, List.set_cons_zero, List.set_cons_succ]
    refine held_take (i := 5) (v := .slice A5 n c5) (some 107) rfl (by kernel_rfl) (by kernel_rfl) (by kernel_rfl) (fun _ _ _ h => h) rfl (Or.inl ⟨by rfl, fun W hW => exec_move (.tmp 13) rfl _ rfl⟩) hS0 ?_
    simp only [Act.put, List.setIfInBounds_toArray, List.set_cons_zero, List.set_cons_succ]
    refine held_take (i := 7) (v := .agg #[.bool true, .string s, .slice A n c]) (some 109) rfl (by kernel_rfl) (by kernel_rfl) (by kernel_rfl) (fun _ _ _ h => h) rfl (Or.inl ⟨by rfl, fun W hW => exec_load3' _ rfl rfl (hr0 W hW) (hr1 W hW) (hr2 W hW)⟩) hS0 ?_
    simp only [Act.put, List.setIfInBounds_toArray, List.set_cons_zero, List.set_cons_succ]
    refine held_one (i := 6) (by kernel_rfl) ?_
    refine held_enter (some 108) rfl rfl 16 #[.slice A5 n c5] (exec_call1 _ (.tmp 107) _ rfl _ rfl (enters_of Tryd.func16 (by kernel_rfl) rfl _ _)) rfl ((HTx.out _ hS0).mono ?_)
    rintro e u1 ⟨A6, c6, rfl, hsub6, hg6⟩
    have hS1 : Below w12.heap.size w12 u1 := hS0.trans ((below_of_grown hg6).mono hS0.size)
    have T1 := T.grown (grown_of_below hS1)
    have hs6 := hsub6.here
    rw [HMap.out] at hs6
    refine ⟨_, rfl, hS1, ?_⟩
    simp only [Act.put, List.setIfInBounds_toArray, List.set_cons_zero, List.set_cons_succ]
    have hsame := same_any (.mk true ⟨#[]⟩ xs) (by rw [← HS0.out]; exact HO.out) u1 (.mk true s xs) (.slice A6 n c6) (.slice A n c) HO.out hs6 T1.sx
    rw [decide_eq_true (by rw [HS0.out])] at hsame
    refine held_one (i := 8) (by kernel_rfl) ?_
    refine held_enter (some 110) rfl rfl 28 #[.agg #[.bool true, .string ⟨#[]⟩, .slice A6 n c6], .agg #[.bool true, .string s, .slice A n c]] (exec_call2 _ (.tmp 108) (.tmp 109) _ rfl _ _ rfl rfl (enters_of Tryd.func28 (by kernel_rfl) rfl _ _)) rfl (hsame.mono ?_)
    rintro e u2 ⟨rfl, hg7⟩
    have hS2 : Below w12.heap.size w12 u2 := hS1.trans ((below_of_grown hg7).mono hS1.size)
    refine ⟨_, rfl, hS2, ?_⟩
    simp only [Act.put, List.setIfInBounds_toArray, List.set_cons_zero, List.set_cons_succ]
    clear hsame hsub6 hs6 T1 hS0 hS1 hg6 hg7
    refine held_take (i := 9) (v := .bool true) (some 111) rfl (by kernel_rfl) (by kernel_rfl) (by kernel_rfl) (fun _ _ _ h => h) rfl (Or.inl ⟨by rfl, fun W hW => by go_simp⟩) hS2 ?_
    simp only [Act.put, List.setIfInBounds_toArray, List.set_cons_zero, List.set_cons_succ]
    refine held_take (i := 10) (v := .bool true) (some 112) rfl (by kernel_rfl) (by kernel_rfl) (by kernel_rfl) (fun _ _ _ h => h) rfl (Or.inl ⟨by rfl, fun W hW => by go_simp⟩) hS2 ?_
    simp only [Act.put, List.setIfInBounds_toArray, List.set_cons_zero, List.set_cons_succ]
    refine held_take (i := 11) (v := .bool true) (some 113) rfl (by kernel_rfl) (by kernel_rfl) (by kernel_rfl) (fun _ _ _ h => h) rfl (Or.inl ⟨by rfl, fun W hW => exec_move (.tmp 112) rfl _ rfl⟩) hS2 ?_
    simp only [Act.put, List.setIfInBounds_toArray, List.set_cons_zero, List.set_cons_succ]
    refine held_take (i := 12) (v := .int .i64 2) (some 114) rfl (by kernel_rfl) (by kernel_rfl) (by kernel_rfl) (fun _ _ _ h => h) rfl (Or.inl ⟨by rfl, fun W hW => exec_move (.tmp 16) rfl _ rfl⟩) hS2 ?_
    simp only [Act.put, List.setIfInBounds_toArray, List.set_cons_zero, List.set_cons_succ]
    refine held_take (i := 13) (v := .bool true) (some 115) rfl (by kernel_rfl) (by kernel_rfl) (by kernel_rfl) (fun _ _ _ h => h) rfl (Or.inl ⟨by rfl, fun W hW => by go_simp⟩) hS2 ?_
    simp only [Act.put, List.setIfInBounds_toArray, List.set_cons_zero, List.set_cons_succ]
    refine held_take (i := 14) (v := .bool true) (some 116) rfl (by kernel_rfl) (by kernel_rfl) (by kernel_rfl) (fun _ _ _ h => h) rfl (Or.inl ⟨by rfl, fun W hW => exec_move (.tmp 115) rfl _ rfl⟩) hS2 ?_
    simp only [Act.put, List.setIfInBounds_toArray, List.set_cons_zero, List.set_cons_succ]
    refine held_take (i := 15) (v := undef) (some 117) rfl (by kernel_rfl) (by kernel_rfl) (by kernel_rfl) (fun _ _ _ h => h) rfl (Or.inr ⟨by rfl, rfl⟩) hS2 ?_
    simp only [Act.put, List.setIfInBounds_toArray, List.set_cons_zero, List.set_cons_succ]
    refine held_take (i := 16) (v := undef) (some 118) rfl (by kernel_rfl) (by kernel_rfl) (by kernel_rfl) (fun _ _ _ h => h) rfl (Or.inr ⟨by rfl, rfl⟩) hS2 ?_
    simp only [Act.put, List.setIfInBounds_toArray, List.set_cons_zero, List.set_cons_succ]
    refine held_take (i := 17) (v := undef) (some 119) rfl (by kernel_rfl) (by kernel_rfl) (by kernel_rfl) (fun _ _ _ h => h) rfl (Or.inr ⟨by rfl, rfl⟩) hS2 ?_
    simp only [Act.put, List.setIfInBounds_toArray, List.set_cons_zero, List.set_cons_succ]
    refine held_take (i := 18) (v := undef) (some 120) rfl (by kernel_rfl) (by kernel_rfl) (by kernel_rfl) (fun _ _ _ h => h) rfl (Or.inr ⟨by rfl, rfl⟩) hS2 ?_
    simp only [Act.put, List.setIfInBounds_toArray, List.set_cons_zero, List.set_cons_succ]
    refine held_take (i := 19) (v := .bool true) (some 121) rfl (by kernel_rfl) (by kernel_rfl) (by kernel_rfl) (fun _ _ _ h => h) rfl (Or.inl ⟨by rfl, fun W hW => by go_simp⟩) hS2 ?_
    simp only [Act.put, List.setIfInBounds_toArray, List.set_cons_zero, List.set_cons_succ]
    refine held_take (i := 20) (v := .bool true) (some 122) rfl (by kernel_rfl) (by kernel_rfl) (by kernel_rfl) (fun _ _ _ h => h) rfl (Or.inl ⟨by rfl, fun W hW => by go_simp⟩) hS2 ?_
    simp only [Act.put, List.setIfInBounds_toArray, List.set_cons_zero, List.set_cons_succ]
    refine held_take (i := 21) (v := .bool true) (some 123) rfl (by kernel_rfl) (by kernel_rfl) (by kernel_rfl) (fun _ _ _ h => h) rfl (Or.inl ⟨by rfl, fun W hW => exec_move (.tmp 122) rfl _ rfl⟩) hS2 ?_
    simp only [Act.put, List.setIfInBounds_toArray, List.set_cons_zero, List.set_cons_succ]
    refine held_take (i := 22) (v := .int .i64 2) (some 124) rfl (by kernel_rfl) (by kernel_rfl) (by kernel_rfl) (fun _ _ _ h => h) rfl (Or.inl ⟨by rfl, fun W hW => exec_move (.tmp 10) rfl _ rfl⟩) hS2 ?_
    simp only [Act.put, List.setIfInBounds_toArray, List.set_cons_zero, List.set_cons_succ]
    refine held_take (i := 23) (v := .bool false) (some 125) rfl (by kernel_rfl) (by kernel_rfl) (by kernel_rfl) (fun _ _ _ h => h) rfl (Or.inl ⟨by rfl, fun W hW => by go_simp⟩) hS2 ?_
    simp only [Act.put, List.setIfInBounds_toArray, List.set_cons_zero, List.set_cons_succ]
    refine held_take (i := 24) (v := .pointer (some ⟨b, 0, none⟩)) (some 126) rfl (by kernel_rfl) (by kernel_rfl) (by kernel_rfl) (fun _ _ _ h => h) rfl (Or.inl ⟨by rfl, fun W hW => by go_simp⟩) hS2 ?_
    simp only [Act.put, List.setIfInBounds_toArray, List.set_cons_zero, List.set_cons_succ]
    refine held_take (i := 25) (v := .bool true) (some 127) rfl (by kernel_rfl) (by kernel_rfl) (by kernel_rfl) (fun _ _ _ h => h) rfl (Or.inl ⟨by rfl, fun W hW => (by have q := hr0 W hW; go_simp)⟩) hS2 ?_
    simp only [Act.put, List.setIfInBounds_toArray, List.set_cons_zero, List.set_cons_succ]
    refine held_take (i := 26) (v := .bool false) (some 128) rfl (by kernel_rfl) (by kernel_rfl) (by kernel_rfl) (fun _ _ _ h => h) rfl (Or.inl ⟨by rfl, fun W hW => by go_simp⟩) hS2 ?_
    simp only [Act.put, List.setIfInBounds_toArray, List.set_cons_zero, List.set_cons_succ]
    refine held_take (i := 27) (v := .bool true) (some 129) rfl (by kernel_rfl) (by kernel_rfl) (by kernel_rfl) (fun _ _ _ h => h) rfl (Or.inl ⟨by rfl, fun W hW => by go_simp⟩) hS2 ?_
    simp only [Act.put, List.setIfInBounds_toArray, List.set_cons_zero, List.set_cons_succ]
    refine held_take (i := 28) (v := .bool true) (some 130) rfl (by kernel_rfl) (by kernel_rfl) (by kernel_rfl) (fun _ _ _ h => h) rfl (Or.inl ⟨by rfl, fun W hW => by go_simp⟩) hS2 ?_
    simp only [Act.put, List.setIfInBounds_toArray, List.set_cons_zero, List.set_cons_succ]
    refine held_take (i := 29) (v := .bool true) (some 2) rfl (by kernel_rfl) (by kernel_rfl) (by kernel_rfl) (fun _ _ _ h => h) rfl (Or.inl ⟨by rfl, fun W hW => by go_simp⟩) hS2 ?_
    simp only [Act.put, List.setIfInBounds_toArray, List.set_cons_zero, List.set_cons_succ]
    refine wpAnyH_done (by kernel_rfl) ?_ _
    have T2 := T.grown (grown_of_below hS2)
    go_wp2_with fail
    go_ret
    exact ⟨rfl, HB.out ▸ T2.below⟩
  | false =>
    obtain ⟨hxs, hs6⟩ := only_leaf HE.out
    subst hxs
    obtain rfl : n = 0 := HN.out.symm
    have hE3 : E3 = 0 := HE3.out.symm.trans (by show textE s.size 0 70000 = 0; unfold textE; rw [if_neg (by omega), if_neg (by omega)])
    subst hE3
    have hS3 : S3 = s := HS3.out.symm.trans (if_pos ⟨rfl, HE3.out⟩)
    subst hS3
    have hsame := fun V => same_any (txt S3) (leaf_ok S3 HS9.out) V (txt S3) (.slice none 0 0) (.slice A 0 c) (leaf_ok S3 HS9.out) (leaf_sub V) (.mk [] A c [] (fun h => by cases h) (fun i h => by cases h))
    rw [decide_eq_true (rfl : txt S3 = txt S3)] at hsame
    have HSame := Lib.hid hsame
    have hnum : E1 = 0 → beN n1 = S3.data.toList ∧ n1 < 18446744073709551616 := fun h => ⟨Hn1.out ▸ (number_only (HE1.out.trans h)).2, by
      rw [← Hn1.out]; unfold numV; split
      · unfold unbeN; split
        · decide
        · unfold parseP; split
          · exact wp_lt _ _
          · decide
      · decide⟩
    have hword : E2 = 0 → beN (wordN p0 p1 p2 p3) = S3.data.toList ∧ (p0 < 18446744073709551616 ∧ p1 < 18446744073709551616 ∧ p2 < 18446744073709551616 ∧ p3 < 18446744073709551616) := fun h => ⟨by
      rw [← Hp0.out, ← Hp1.out, ← Hp2.out, ← Hp3.out]; exact (word_only (HE2.out.trans h)).2, by
      have hl : ∀ q, wordP false S3 q < 18446744073709551616 := fun q => by
        rw [wordP_false]; unfold parseP; split
        · exact wp_lt _ _
        · decide
      rw [← Hp0.out, ← Hp1.out, ← Hp2.out, ← Hp3.out]; exact ⟨hl 0, hl 1, hl 2, hl 3⟩⟩
    have hM1 : E1 = 0 → ∀ V, Calls Tryd.prog 8 #[.int .u64 (n1 : Int)] V fun e w' => e = .returned (.agg #[.bool false, .string S3, .slice none 0 0]) ∧ V.grownBy w' none := fun h V => by
      have := number_any n1 (hnum h).2 V
      rw [(hnum h).1, ba_same6] at this
      exact this
    have hM2 : E2 = 0 → ∀ V, Calls Tryd.prog 10 #[.agg #[.int .u64 (p0 : Int), .int .u64 (p1 : Int), .int .u64 (p2 : Int), .int .u64 (p3 : Int)]] V fun e w' => e = .returned (.agg #[.bool false, .string S3, .slice none 0 0]) ∧ V.grownBy w' none := fun h V => by
      have := word_any p0 p1 p2 p3 (hword h).2.1 (hword h).2.2.1 (hword h).2.2.2.1 (hword h).2.2.2.2 V
      rw [(hword h).1, ba_same6] at this
      exact this
    have hM4 : E4 = 0 → ∀ V, Calls Tryd.prog 14 #[.bool v4] V fun e w' => e = .returned (.agg #[.bool false, .string S3, .slice none 0 0]) ∧ V.grownBy w' none := fun h V => by
      have h4 : yesE S3 = 0 := HE4.out.trans h
      have := boolF_any v4 V
      rw [← Hv4.out, if_pos ⟨rfl, h4⟩, yes_only h4] at this
      rw [← Hv4.out, if_pos ⟨rfl, h4⟩]
      exact this
    have h12 : E1 = 0 → E2 = 0 := fun h => by
      have h1 : unbeE S3.data.toList = 0 := HE1.out.trans h
      have h2 : E2 = parseE S3.data.toList := HE2.out.symm
      unfold unbeE at h1
      split at h1
      · cases h1
      · exact h2.trans h1
    have h41 : E4 = 0 → E1 = 0 := fun h => by
      have h4 : yesE S3 = 0 := HE4.out.trans h
      unfold yesE at h4
      split at h4
      · rename_i h5
        rcases h5 with h5 | h5
        · exact HE1.out.symm.trans (by rw [h5]; decide +kernel)
        · exact HE1.out.symm.trans (by rw [h5]; decide +kernel)
      · cases h4
    have hI := fun V hS => getTexts_any false S3 A 0 c [] 600 0 70000 V hS (by decide)
    rw [show gtE false 0 600 0 70000 [] = 2 from by decide] at hI
    have K5 := Lib.hid hI
    obtain ⟨E6, hE6⟩ : ∃ E6, (if false then (2 : Int) else addrE S3) = E6 := ⟨_, rfl⟩
    obtain ⟨S6, hS6⟩ : ∃ S6, (if false = false ∧ addrE S3 = 0 then addrV S3 else ⟨#[]⟩) = S6 := ⟨_, rfl⟩
    have hk := fun V => getAddr_any false S3 (.slice A 0 c) V
    rw [hE6, hS6] at hk
    have K6 := Lib.hid hk
    have hS6' : E6 = 0 → S6 = S3 := fun h => by
      have h1 : addrE S3 = 0 := hE6.trans h
      have h2 : addrV S3 = S6 := by rw [← hS6, if_pos ⟨rfl, h1⟩]
      rw [← h2]; exact if_pos h1
    have HS6 := Lib.hid hS6'; have HM1 := Lib.hid hM1; have HM2 := Lib.hid hM2; have HM4 := Lib.hid hM4
    clear K1 K2 K3 K4 HE1 HE2 HE3 HE4 HS3 Hv4 Hn1 Hp0 Hp1 Hp2 Hp3 HF HC hM1 hM2 hM4 hnum hword hsame hI hk hS6' hE6 hS6 hs6
    have hsplit : (E1 = 0 ∧ E2 = 0 ∧ E4 = 0) ∨ (E1 = 0 ∧ E2 = 0 ∧ E4 ≠ 0) ∨ (E1 ≠ 0 ∧ E2 = 0 ∧ E4 ≠ 0) ∨ (E1 ≠ 0 ∧ E2 ≠ 0 ∧ E4 ≠ 0) := by
      by_cases h1 : E1 = 0
      · by_cases h4 : E4 = 0
        · exact .inl ⟨h1, h12 h1, h4⟩
        · exact .inr (.inl ⟨h1, h12 h1, h4⟩)
      · have h4 : E4 ≠ 0 := fun h => h1 (h41 h)
        by_cases h2 : E2 = 0
        · exact .inr (.inr (.inl ⟨h1, h2, h4⟩))
        · exact .inr (.inr (.inr ⟨h1, h2, h4⟩))
    clear h12 h41
    rcases hsplit with ⟨h1, h2, h4⟩ | ⟨h1, h2, h4⟩ | ⟨h1, h2, h4⟩ | ⟨h1, h2, h4⟩
    · have M1 := Lib.hid (HM1.out h1); clear HM1; subst h1
      have M2 := Lib.hid (HM2.out h2); clear HM2; subst h2
      have M4 := Lib.hid (HM4.out h4); clear HM4; subst h4
      have hd0 : ∀ V, Below w9.heap.size w9 V → V.cell? ⟨d, 0, none⟩ = some (.int .u64 (p0 : Int)) := fun V hV => (hV.cell (p := ⟨d, 0, none⟩) HD.out.lt).trans (HD.out.cell 0)
      have hd1 : ∀ V, Below w9.heap.size w9 V → V.cell? ⟨d, 1, none⟩ = some (.int .u64 (p1 : Int)) := fun V hV => (hV.cell (p := ⟨d, 1, none⟩) HD.out.lt).trans (HD.out.cell 1)
      have hd2 : ∀ V, Below w9.heap.size w9 V → V.cell? ⟨d, 2, none⟩ = some (.int .u64 (p2 : Int)) := fun V hV => (hV.cell (p := ⟨d, 2, none⟩) HD.out.lt).trans (HD.out.cell 2)
      have hd3 : ∀ V, Below w9.heap.size w9 V → V.cell? ⟨d, 3, none⟩ = some (.int .u64 (p3 : Int)) := fun V hV => (hV.cell (p := ⟨d, 3, none⟩) HD.out.lt).trans (HD.out.cell 3)
      obtain ⟨c0, c1, c2⟩ := Hcells _ _ T
      go_upto_region 11 with (fail)
      have hC0 : (fun V => Below w9.heap.size w9 V) w9.drew := ⟨rfl, rfl, rfl, Nat.le_refl _, fun _ _ => rfl⟩
      refine wp_region_class (fun V => Below w9.heap.size w9 V) (by kernel_rfl) (by kernel_rfl) hC0 ?_
      have hcc := class_const hC0
      have hlb := T.bx.lt
      have hr0 : ∀ V, Below w9.heap.size w9 V → V.cell? ⟨b, 0, none⟩ = some (.bool false) := fun V hV => (hV.cell (p := ⟨b, 0, none⟩) hlb).trans c0
      have hr1 : ∀ V, Below w9.heap.size w9 V → V.cell? ⟨b, 1, none⟩ = some (.string S3) := fun V hV => (hV.cell (p := ⟨b, 1, none⟩) hlb).trans c1
      have hr2 : ∀ V, Below w9.heap.size w9 V → V.cell? ⟨b, 2, none⟩ = some (.slice A 0 c) := fun V hV => (hV.cell (p := ⟨b, 2, none⟩) hlb).trans c2
      clear c0 c1 c2 hlb
      (try simp only [Act.put])
      (repeat go_big_quiet_step (fail))
      refine quiet_call (.agg #[.bool false, .string S3, .slice none 0 0]) 8 #[.int .u64 (n1 : Int)] rfl (fun V => exec_call1 _ (.tmp 53) _ rfl _ rfl rfl) (fun V hV => M1.out V) ?_
      simp only [Act.put, List.setIfInBounds_toArray, List.set_cons_zero, List.set_cons_succ]
      refine wpQuiet_value rfl (.agg #[.bool false, .string S3, .slice A 0 c]) (fun V hV => exec_load3' _ rfl rfl (hr0 V hV) (hr1 V hV) (hr2 V hV)) ?_
      simp only [Act.put, List.setIfInBounds_toArray, List.set_cons_zero, List.set_cons_succ]
      refine quiet_call (.bool true) 28 #[.agg #[.bool false, .string S3, .slice none 0 0], .agg #[.bool false, .string S3, .slice A 0 c]] rfl (fun V => exec_call2 _ (.tmp 54) (.tmp 55) _ rfl _ _ rfl rfl rfl) (fun V hV => HSame.out V) ?_
      simp only [Act.put, List.setIfInBounds_toArray, List.set_cons_zero, List.set_cons_succ]
      (repeat go_big_quiet_step (fail))
      refine wpQuiet_value rfl (.agg #[.int .u64 (p0 : Int), .int .u64 (p1 : Int), .int .u64 (p2 : Int), .int .u64 (p3 : Int)]) (fun V hV => exec_loadW _ rfl rfl (hd0 V hV) (hd1 V hV) (hd2 V hV) (hd3 V hV)) ?_
      simp only [Act.put, List.setIfInBounds_toArray, List.set_cons_zero, List.set_cons_succ]
      refine quiet_call (.agg #[.bool false, .string S3, .slice none 0 0]) 10 #[.agg #[.int .u64 (p0 : Int), .int .u64 (p1 : Int), .int .u64 (p2 : Int), .int .u64 (p3 : Int)]] rfl (fun V => exec_call1 _ (.tmp 63) _ rfl _ rfl rfl) (fun V hV => M2.out V) ?_
      simp only [Act.put, List.setIfInBounds_toArray, List.set_cons_zero, List.set_cons_succ]
      refine wpQuiet_value rfl (.agg #[.bool false, .string S3, .slice A 0 c]) (fun V hV => exec_load3' _ rfl rfl (hr0 V hV) (hr1 V hV) (hr2 V hV)) ?_
      simp only [Act.put, List.setIfInBounds_toArray, List.set_cons_zero, List.set_cons_succ]
      refine quiet_call (.bool true) 28 #[.agg #[.bool false, .string S3, .slice none 0 0], .agg #[.bool false, .string S3, .slice A 0 c]] rfl (fun V => exec_call2 _ (.tmp 64) (.tmp 65) _ rfl _ _ rfl rfl rfl) (fun V hV => HSame.out V) ?_
      simp only [Act.put, List.setIfInBounds_toArray, List.set_cons_zero, List.set_cons_succ]
      (repeat go_big_quiet_step (fail))
      refine quiet_call (.agg #[.bool false, .string S3, .slice none 0 0]) 12 #[.string S3] rfl (fun V => exec_call1 _ (.tmp 74) _ rfl _ rfl rfl) (fun V hV => text_any S3 V) ?_
      simp only [Act.put, List.setIfInBounds_toArray, List.set_cons_zero, List.set_cons_succ]
      refine wpQuiet_value rfl (.agg #[.bool false, .string S3, .slice A 0 c]) (fun V hV => exec_load3' _ rfl rfl (hr0 V hV) (hr1 V hV) (hr2 V hV)) ?_
      simp only [Act.put, List.setIfInBounds_toArray, List.set_cons_zero, List.set_cons_succ]
      refine quiet_call (.bool true) 28 #[.agg #[.bool false, .string S3, .slice none 0 0], .agg #[.bool false, .string S3, .slice A 0 c]] rfl (fun V => exec_call2 _ (.tmp 75) (.tmp 76) _ rfl _ _ rfl rfl rfl) (fun V hV => HSame.out V) ?_
      simp only [Act.put, List.setIfInBounds_toArray, List.set_cons_zero, List.set_cons_succ]
      (repeat go_big_quiet_step (fail))
      refine quiet_call (.agg #[.bool false, .string S3, .slice none 0 0]) 14 #[.bool v4] rfl (fun V => exec_call1 _ (.tmp 85) _ rfl _ rfl rfl) (fun V hV => M4.out V) ?_
      simp only [Act.put, List.setIfInBounds_toArray, List.set_cons_zero, List.set_cons_succ]
      refine wpQuiet_value rfl (.agg #[.bool false, .string S3, .slice A 0 c]) (fun V hV => exec_load3' _ rfl rfl (hr0 V hV) (hr1 V hV) (hr2 V hV)) ?_
      simp only [Act.put, List.setIfInBounds_toArray, List.set_cons_zero, List.set_cons_succ]
      refine quiet_call (.bool true) 28 #[.agg #[.bool false, .string S3, .slice none 0 0], .agg #[.bool false, .string S3, .slice A 0 c]] rfl (fun V => exec_call2 _ (.tmp 86) (.tmp 87) _ rfl _ _ rfl rfl rfl) (fun V hV => HSame.out V) ?_
      simp only [Act.put, List.setIfInBounds_toArray, List.set_cons_zero, List.set_cons_succ]
      (repeat go_big_quiet_step (fail))
      refine wpQuiet_nil ?_
      intro w10 hw3
      have hg := grown_of_below hw3
      replace T := T.grown hg
      clear hcc hC0 hr0 hr1 hr2 hw3 hg
      clear hd0 hd1 hd2 hd3
      obtain ⟨c0, c1, c2⟩ := Hcells _ _ T
      go_wp2_with fail
      refine (K5.out _ T.sx).mono ?_
      rintro e w11 ⟨v5, ys, rfl, hown, hys, hg⟩
      replace T := T.grown hg
      clear hg c0 c1 c2 hown hys
      obtain ⟨c0, c1, c2⟩ := Hcells _ _ T
      go_wp2_with fail
      refine (K6.out _).mono ?_
      rintro e w12 ⟨rfl, hg⟩
      replace T := T.grown hg
      clear hg c0 c1 c2
      by_cases h6 : E6 = 0
      · obtain rfl : S6 = S3 := HS6.out h6
        subst h6
        obtain ⟨c0, c1, c2⟩ := Hcells _ _ T
        go_upto_region 15 with (fail)
        have hC0 : (fun V => Below w12.heap.size w12 V) w12.drew := ⟨rfl, rfl, rfl, Nat.le_refl _, fun _ _ => rfl⟩
        refine wp_region_class (fun V => Below w12.heap.size w12 V) (by kernel_rfl) (by kernel_rfl) hC0 ?_
        have hcc := class_const hC0
        have hlb := T.bx.lt
        have hr0 : ∀ V, Below w12.heap.size w12 V → V.cell? ⟨b, 0, none⟩ = some (.bool false) := fun V hV => (hV.cell (p := ⟨b, 0, none⟩) hlb).trans c0
        have hr1 : ∀ V, Below w12.heap.size w12 V → V.cell? ⟨b, 1, none⟩ = some (.string S6) := fun V hV => (hV.cell (p := ⟨b, 1, none⟩) hlb).trans c1
        have hr2 : ∀ V, Below w12.heap.size w12 V → V.cell? ⟨b, 2, none⟩ = some (.slice A 0 c) := fun V hV => (hV.cell (p := ⟨b, 2, none⟩) hlb).trans c2
        clear c0 c1 c2 hlb
        (try simp only [Act.put])
        (repeat go_big_quiet_step (fail))
        refine quiet_call (.agg #[.bool false, .string S6, .slice none 0 0]) 12 #[.string S6] rfl (fun V => exec_call1 _ (.tmp 117) _ rfl _ rfl rfl) (fun V hV => text_any S6 V) ?_
        simp only [Act.put, List.setIfInBounds_toArray, List.set_cons_zero, List.set_cons_succ]
        refine wpQuiet_value rfl (.agg #[.bool false, .string S6, .slice A 0 c]) (fun V hV => exec_load3' _ rfl rfl (hr0 V hV) (hr1 V hV) (hr2 V hV)) ?_
        simp only [Act.put, List.setIfInBounds_toArray, List.set_cons_zero, List.set_cons_succ]
        refine quiet_call (.bool true) 28 #[.agg #[.bool false, .string S6, .slice none 0 0], .agg #[.bool false, .string S6, .slice A 0 c]] rfl (fun V => exec_call2 _ (.tmp 118) (.tmp 119) _ rfl _ _ rfl rfl rfl) (fun V hV => HSame.out V) ?_
        simp only [Act.put, List.setIfInBounds_toArray, List.set_cons_zero, List.set_cons_succ]
        (repeat go_big_quiet_step (fail))
        refine wpQuiet_load1' (.bool false) _ _ ⟨b, 0, none⟩ _ rfl rfl rfl Tryd.underlying4 rfl hr0 ?_
        simp only [Act.put, List.setIfInBounds_toArray, List.set_cons_zero, List.set_cons_succ]
        (repeat go_big_quiet_step (fail))
        refine wpQuiet_nil ?_
        intro w13 hw3
        have hg := grown_of_below hw3
        replace T := T.grown hg
        clear hcc hC0 hr0 hr1 hr2 hw3 hg
        go_wp2_with fail
        go_ret
        exact ⟨rfl, HB.out ▸ T.below⟩
      · have e6 : (E6 != 0) = true := by simpa using h6
        obtain ⟨c0, c1, c2⟩ := Hcells _ _ T
        go_upto_region 15 with (fail)
        have hC0 : (fun V => Below w12.heap.size w12 V) w12.drew := ⟨rfl, rfl, rfl, Nat.le_refl _, fun _ _ => rfl⟩
        refine wp_region_class (fun V => Below w12.heap.size w12 V) (by kernel_rfl) (by kernel_rfl) hC0 ?_
        have hcc := class_const hC0
        have hlb := T.bx.lt
        have hr0 : ∀ V, Below w12.heap.size w12 V → V.cell? ⟨b, 0, none⟩ = some (.bool false) := fun V hV => (hV.cell (p := ⟨b, 0, none⟩) hlb).trans c0
        have hr1 : ∀ V, Below w12.heap.size w12 V → V.cell? ⟨b, 1, none⟩ = some (.string S3) := fun V hV => (hV.cell (p := ⟨b, 1, none⟩) hlb).trans c1
        have hr2 : ∀ V, Below w12.heap.size w12 V → V.cell? ⟨b, 2, none⟩ = some (.slice A 0 c) := fun V hV => (hV.cell (p := ⟨b, 2, none⟩) hlb).trans c2
        clear c0 c1 c2 hlb
        (try simp only [Act.put])
        (repeat go_big_quiet_step (fail))
        refine wpQuiet_load1' (.bool false) _ _ ⟨b, 0, none⟩ _ rfl rfl rfl Tryd.underlying4 rfl hr0 ?_
        simp only [Act.put, List.setIfInBounds_toArray, List.set_cons_zero, List.set_cons_succ]
        (repeat go_big_quiet_step (fail))
        refine wpQuiet_nil ?_
        intro w13 hw3
        have hg := grown_of_below hw3
        replace T := T.grown hg
        clear hcc hC0 hr0 hr1 hr2 hw3 hg
        go_wp2_with fail
        go_ret
        exact ⟨rfl, HB.out ▸ T.below⟩
    · have M1 := Lib.hid (HM1.out h1); clear HM1; subst h1
      have M2 := Lib.hid (HM2.out h2); clear HM2; subst h2
      have gh4 : (E4 == 0) = false := by simpa using h4
      have hd0 : ∀ V, Below w9.heap.size w9 V → V.cell? ⟨d, 0, none⟩ = some (.int .u64 (p0 : Int)) := fun V hV => (hV.cell (p := ⟨d, 0, none⟩) HD.out.lt).trans (HD.out.cell 0)
      have hd1 : ∀ V, Below w9.heap.size w9 V → V.cell? ⟨d, 1, none⟩ = some (.int .u64 (p1 : Int)) := fun V hV => (hV.cell (p := ⟨d, 1, none⟩) HD.out.lt).trans (HD.out.cell 1)
      have hd2 : ∀ V, Below w9.heap.size w9 V → V.cell? ⟨d, 2, none⟩ = some (.int .u64 (p2 : Int)) := fun V hV => (hV.cell (p := ⟨d, 2, none⟩) HD.out.lt).trans (HD.out.cell 2)
      have hd3 : ∀ V, Below w9.heap.size w9 V → V.cell? ⟨d, 3, none⟩ = some (.int .u64 (p3 : Int)) := fun V hV => (hV.cell (p := ⟨d, 3, none⟩) HD.out.lt).trans (HD.out.cell 3)
      obtain ⟨c0, c1, c2⟩ := Hcells _ _ T
      go_upto_region 11 with (fail)
      have hC0 : (fun V => Below w9.heap.size w9 V) w9.drew := ⟨rfl, rfl, rfl, Nat.le_refl _, fun _ _ => rfl⟩
      refine wp_region_class (fun V => Below w9.heap.size w9 V) (by kernel_rfl) (by kernel_rfl) hC0 ?_
      have hcc := class_const hC0
      have hlb := T.bx.lt
      have hr0 : ∀ V, Below w9.heap.size w9 V → V.cell? ⟨b, 0, none⟩ = some (.bool false) := fun V hV => (hV.cell (p := ⟨b, 0, none⟩) hlb).trans c0
      have hr1 : ∀ V, Below w9.heap.size w9 V → V.cell? ⟨b, 1, none⟩ = some (.string S3) := fun V hV => (hV.cell (p := ⟨b, 1, none⟩) hlb).trans c1
      have hr2 : ∀ V, Below w9.heap.size w9 V → V.cell? ⟨b, 2, none⟩ = some (.slice A 0 c) := fun V hV => (hV.cell (p := ⟨b, 2, none⟩) hlb).trans c2
      clear c0 c1 c2 hlb
      (try simp only [Act.put])
      (repeat go_big_quiet_step (fail))
      refine quiet_call (.agg #[.bool false, .string S3, .slice none 0 0]) 8 #[.int .u64 (n1 : Int)] rfl (fun V => exec_call1 _ (.tmp 53) _ rfl _ rfl rfl) (fun V hV => M1.out V) ?_
      simp only [Act.put, List.setIfInBounds_toArray, List.set_cons_zero, List.set_cons_succ]
      refine wpQuiet_value rfl (.agg #[.bool false, .string S3, .slice A 0 c]) (fun V hV => exec_load3' _ rfl rfl (hr0 V hV) (hr1 V hV) (hr2 V hV)) ?_
      simp only [Act.put, List.setIfInBounds_toArray, List.set_cons_zero, List.set_cons_succ]
      refine quiet_call (.bool true) 28 #[.agg #[.bool false, .string S3, .slice none 0 0], .agg #[.bool false, .string S3, .slice A 0 c]] rfl (fun V => exec_call2 _ (.tmp 54) (.tmp 55) _ rfl _ _ rfl rfl rfl) (fun V hV => HSame.out V) ?_
      simp only [Act.put, List.setIfInBounds_toArray, List.set_cons_zero, List.set_cons_succ]
      (repeat go_big_quiet_step (fail))
      refine wpQuiet_value rfl (.agg #[.int .u64 (p0 : Int), .int .u64 (p1 : Int), .int .u64 (p2 : Int), .int .u64 (p3 : Int)]) (fun V hV => exec_loadW _ rfl rfl (hd0 V hV) (hd1 V hV) (hd2 V hV) (hd3 V hV)) ?_
      simp only [Act.put, List.setIfInBounds_toArray, List.set_cons_zero, List.set_cons_succ]
      refine quiet_call (.agg #[.bool false, .string S3, .slice none 0 0]) 10 #[.agg #[.int .u64 (p0 : Int), .int .u64 (p1 : Int), .int .u64 (p2 : Int), .int .u64 (p3 : Int)]] rfl (fun V => exec_call1 _ (.tmp 63) _ rfl _ rfl rfl) (fun V hV => M2.out V) ?_
      simp only [Act.put, List.setIfInBounds_toArray, List.set_cons_zero, List.set_cons_succ]
      refine wpQuiet_value rfl (.agg #[.bool false, .string S3, .slice A 0 c]) (fun V hV => exec_load3' _ rfl rfl (hr0 V hV) (hr1 V hV) (hr2 V hV)) ?_
      simp only [Act.put, List.setIfInBounds_toArray, List.set_cons_zero, List.set_cons_succ]
      refine quiet_call (.bool true) 28 #[.agg #[.bool false, .string S3, .slice none 0 0], .agg #[.bool false, .string S3, .slice A 0 c]] rfl (fun V => exec_call2 _ (.tmp 64) (.tmp 65) _ rfl _ _ rfl rfl rfl) (fun V hV => HSame.out V) ?_
      simp only [Act.put, List.setIfInBounds_toArray, List.set_cons_zero, List.set_cons_succ]
      (repeat go_big_quiet_step (fail))
      refine quiet_call (.agg #[.bool false, .string S3, .slice none 0 0]) 12 #[.string S3] rfl (fun V => exec_call1 _ (.tmp 74) _ rfl _ rfl rfl) (fun V hV => text_any S3 V) ?_
      simp only [Act.put, List.setIfInBounds_toArray, List.set_cons_zero, List.set_cons_succ]
      refine wpQuiet_value rfl (.agg #[.bool false, .string S3, .slice A 0 c]) (fun V hV => exec_load3' _ rfl rfl (hr0 V hV) (hr1 V hV) (hr2 V hV)) ?_
      simp only [Act.put, List.setIfInBounds_toArray, List.set_cons_zero, List.set_cons_succ]
      refine quiet_call (.bool true) 28 #[.agg #[.bool false, .string S3, .slice none 0 0], .agg #[.bool false, .string S3, .slice A 0 c]] rfl (fun V => exec_call2 _ (.tmp 75) (.tmp 76) _ rfl _ _ rfl rfl rfl) (fun V hV => HSame.out V) ?_
      simp only [Act.put, List.setIfInBounds_toArray, List.set_cons_zero, List.set_cons_succ]
      (repeat go_big_quiet_step (fail))
      refine wpQuiet_nil ?_
      intro w10 hw3
      have hg := grown_of_below hw3
      replace T := T.grown hg
      clear hcc hC0 hr0 hr1 hr2 hw3 hg
      clear hd0 hd1 hd2 hd3
      obtain ⟨c0, c1, c2⟩ := Hcells _ _ T
      go_wp2_with fail
      refine (K5.out _ T.sx).mono ?_
      rintro e w11 ⟨v5, ys, rfl, hown, hys, hg⟩
      replace T := T.grown hg
      clear hg c0 c1 c2 hown hys
      obtain ⟨c0, c1, c2⟩ := Hcells _ _ T
      go_wp2_with fail
      refine (K6.out _).mono ?_
      rintro e w12 ⟨rfl, hg⟩
      replace T := T.grown hg
      clear hg c0 c1 c2
      by_cases h6 : E6 = 0
      · obtain rfl : S6 = S3 := HS6.out h6
        subst h6
        obtain ⟨c0, c1, c2⟩ := Hcells _ _ T
        go_upto_region 15 with (fail)
        have hC0 : (fun V => Below w12.heap.size w12 V) w12.drew := ⟨rfl, rfl, rfl, Nat.le_refl _, fun _ _ => rfl⟩
        refine wp_region_class (fun V => Below w12.heap.size w12 V) (by kernel_rfl) (by kernel_rfl) hC0 ?_
        have hcc := class_const hC0
        have hlb := T.bx.lt
        have hr0 : ∀ V, Below w12.heap.size w12 V → V.cell? ⟨b, 0, none⟩ = some (.bool false) := fun V hV => (hV.cell (p := ⟨b, 0, none⟩) hlb).trans c0
        have hr1 : ∀ V, Below w12.heap.size w12 V → V.cell? ⟨b, 1, none⟩ = some (.string S6) := fun V hV => (hV.cell (p := ⟨b, 1, none⟩) hlb).trans c1
        have hr2 : ∀ V, Below w12.heap.size w12 V → V.cell? ⟨b, 2, none⟩ = some (.slice A 0 c) := fun V hV => (hV.cell (p := ⟨b, 2, none⟩) hlb).trans c2
        clear c0 c1 c2 hlb
        (try simp only [Act.put])
        (repeat go_big_quiet_step (fail))
        refine quiet_call (.agg #[.bool false, .string S6, .slice none 0 0]) 12 #[.string S6] rfl (fun V => exec_call1 _ (.tmp 117) _ rfl _ rfl rfl) (fun V hV => text_any S6 V) ?_
        simp only [Act.put, List.setIfInBounds_toArray, List.set_cons_zero, List.set_cons_succ]
        refine wpQuiet_value rfl (.agg #[.bool false, .string S6, .slice A 0 c]) (fun V hV => exec_load3' _ rfl rfl (hr0 V hV) (hr1 V hV) (hr2 V hV)) ?_
        simp only [Act.put, List.setIfInBounds_toArray, List.set_cons_zero, List.set_cons_succ]
        refine quiet_call (.bool true) 28 #[.agg #[.bool false, .string S6, .slice none 0 0], .agg #[.bool false, .string S6, .slice A 0 c]] rfl (fun V => exec_call2 _ (.tmp 118) (.tmp 119) _ rfl _ _ rfl rfl rfl) (fun V hV => HSame.out V) ?_
        simp only [Act.put, List.setIfInBounds_toArray, List.set_cons_zero, List.set_cons_succ]
        (repeat go_big_quiet_step (fail))
        refine wpQuiet_load1' (.bool false) _ _ ⟨b, 0, none⟩ _ rfl rfl rfl Tryd.underlying4 rfl hr0 ?_
        simp only [Act.put, List.setIfInBounds_toArray, List.set_cons_zero, List.set_cons_succ]
        (repeat go_big_quiet_step (fail))
        refine wpQuiet_nil ?_
        intro w13 hw3
        have hg := grown_of_below hw3
        replace T := T.grown hg
        clear hcc hC0 hr0 hr1 hr2 hw3 hg
        go_wp2_with fail
        go_ret
        exact ⟨rfl, HB.out ▸ T.below⟩
      · have e6 : (E6 != 0) = true := by simpa using h6
        obtain ⟨c0, c1, c2⟩ := Hcells _ _ T
        go_upto_region 15 with (fail)
        have hC0 : (fun V => Below w12.heap.size w12 V) w12.drew := ⟨rfl, rfl, rfl, Nat.le_refl _, fun _ _ => rfl⟩
        refine wp_region_class (fun V => Below w12.heap.size w12 V) (by kernel_rfl) (by kernel_rfl) hC0 ?_
        have hcc := class_const hC0
        have hlb := T.bx.lt
        have hr0 : ∀ V, Below w12.heap.size w12 V → V.cell? ⟨b, 0, none⟩ = some (.bool false) := fun V hV => (hV.cell (p := ⟨b, 0, none⟩) hlb).trans c0
        have hr1 : ∀ V, Below w12.heap.size w12 V → V.cell? ⟨b, 1, none⟩ = some (.string S3) := fun V hV => (hV.cell (p := ⟨b, 1, none⟩) hlb).trans c1
        have hr2 : ∀ V, Below w12.heap.size w12 V → V.cell? ⟨b, 2, none⟩ = some (.slice A 0 c) := fun V hV => (hV.cell (p := ⟨b, 2, none⟩) hlb).trans c2
        clear c0 c1 c2 hlb
        (try simp only [Act.put])
        (repeat go_big_quiet_step (fail))
        refine wpQuiet_load1' (.bool false) _ _ ⟨b, 0, none⟩ _ rfl rfl rfl Tryd.underlying4 rfl hr0 ?_
        simp only [Act.put, List.setIfInBounds_toArray, List.set_cons_zero, List.set_cons_succ]
        (repeat go_big_quiet_step (fail))
        refine wpQuiet_nil ?_
        intro w13 hw3
        have hg := grown_of_below hw3
        replace T := T.grown hg
        clear hcc hC0 hr0 hr1 hr2 hw3 hg
        go_wp2_with fail
        go_ret
        exact ⟨rfl, HB.out ▸ T.below⟩
    · have gh1 : (E1 == 0) = false := by simpa using h1
      have M2 := Lib.hid (HM2.out h2); clear HM2; subst h2
      have gh4 : (E4 == 0) = false := by simpa using h4
      have hd0 : ∀ V, Below w9.heap.size w9 V → V.cell? ⟨d, 0, none⟩ = some (.int .u64 (p0 : Int)) := fun V hV => (hV.cell (p := ⟨d, 0, none⟩) HD.out.lt).trans (HD.out.cell 0)
      have hd1 : ∀ V, Below w9.heap.size w9 V → V.cell? ⟨d, 1, none⟩ = some (.int .u64 (p1 : Int)) := fun V hV => (hV.cell (p := ⟨d, 1, none⟩) HD.out.lt).trans (HD.out.cell 1)
      have hd2 : ∀ V, Below w9.heap.size w9 V → V.cell? ⟨d, 2, none⟩ = some (.int .u64 (p2 : Int)) := fun V hV => (hV.cell (p := ⟨d, 2, none⟩) HD.out.lt).trans (HD.out.cell 2)
      have hd3 : ∀ V, Below w9.heap.size w9 V → V.cell? ⟨d, 3, none⟩ = some (.int .u64 (p3 : Int)) := fun V hV => (hV.cell (p := ⟨d, 3, none⟩) HD.out.lt).trans (HD.out.cell 3)
      obtain ⟨c0, c1, c2⟩ := Hcells _ _ T
      go_upto_region 11 with (fail)
      have hC0 : (fun V => Below w9.heap.size w9 V) w9.drew := ⟨rfl, rfl, rfl, Nat.le_refl _, fun _ _ => rfl⟩
      refine wp_region_class (fun V => Below w9.heap.size w9 V) (by kernel_rfl) (by kernel_rfl) hC0 ?_
      have hcc := class_const hC0
      have hlb := T.bx.lt
      have hr0 : ∀ V, Below w9.heap.size w9 V → V.cell? ⟨b, 0, none⟩ = some (.bool false) := fun V hV => (hV.cell (p := ⟨b, 0, none⟩) hlb).trans c0
      have hr1 : ∀ V, Below w9.heap.size w9 V → V.cell? ⟨b, 1, none⟩ = some (.string S3) := fun V hV => (hV.cell (p := ⟨b, 1, none⟩) hlb).trans c1
      have hr2 : ∀ V, Below w9.heap.size w9 V → V.cell? ⟨b, 2, none⟩ = some (.slice A 0 c) := fun V hV => (hV.cell (p := ⟨b, 2, none⟩) hlb).trans c2
      clear c0 c1 c2 hlb
      (try simp only [Act.put])
      (repeat go_big_quiet_step (fail))
      refine wpQuiet_value rfl (.agg #[.int .u64 (p0 : Int), .int .u64 (p1 : Int), .int .u64 (p2 : Int), .int .u64 (p3 : Int)]) (fun V hV => exec_loadW _ rfl rfl (hd0 V hV) (hd1 V hV) (hd2 V hV) (hd3 V hV)) ?_
      simp only [Act.put, List.setIfInBounds_toArray, List.set_cons_zero, List.set_cons_succ]
      refine quiet_call (.agg #[.bool false, .string S3, .slice none 0 0]) 10 #[.agg #[.int .u64 (p0 : Int), .int .u64 (p1 : Int), .int .u64 (p2 : Int), .int .u64 (p3 : Int)]] rfl (fun V => exec_call1 _ (.tmp 63) _ rfl _ rfl rfl) (fun V hV => M2.out V) ?_
      simp only [Act.put, List.setIfInBounds_toArray, List.set_cons_zero, List.set_cons_succ]
      refine wpQuiet_value rfl (.agg #[.bool false, .string S3, .slice A 0 c]) (fun V hV => exec_load3' _ rfl rfl (hr0 V hV) (hr1 V hV) (hr2 V hV)) ?_
      simp only [Act.put, List.setIfInBounds_toArray, List.set_cons_zero, List.set_cons_succ]
      refine quiet_call (.bool true) 28 #[.agg #[.bool false, .string S3, .slice none 0 0], .agg #[.bool false, .string S3, .slice A 0 c]] rfl (fun V => exec_call2 _ (.tmp 64) (.tmp 65) _ rfl _ _ rfl rfl rfl) (fun V hV => HSame.out V) ?_
      simp only [Act.put, List.setIfInBounds_toArray, List.set_cons_zero, List.set_cons_succ]
      (repeat go_big_quiet_step (fail))
      refine quiet_call (.agg #[.bool false, .string S3, .slice none 0 0]) 12 #[.string S3] rfl (fun V => exec_call1 _ (.tmp 74) _ rfl _ rfl rfl) (fun V hV => text_any S3 V) ?_
      simp only [Act.put, List.setIfInBounds_toArray, List.set_cons_zero, List.set_cons_succ]
      refine wpQuiet_value rfl (.agg #[.bool false, .string S3, .slice A 0 c]) (fun V hV => exec_load3' _ rfl rfl (hr0 V hV) (hr1 V hV) (hr2 V hV)) ?_
      simp only [Act.put, List.setIfInBounds_toArray, List.set_cons_zero, List.set_cons_succ]
      refine quiet_call (.bool true) 28 #[.agg #[.bool false, .string S3, .slice none 0 0], .agg #[.bool false, .string S3, .slice A 0 c]] rfl (fun V => exec_call2 _ (.tmp 75) (.tmp 76) _ rfl _ _ rfl rfl rfl) (fun V hV => HSame.out V) ?_
      simp only [Act.put, List.setIfInBounds_toArray, List.set_cons_zero, List.set_cons_succ]
      (repeat go_big_quiet_step (fail))
      refine wpQuiet_nil ?_
      intro w10 hw3
      have hg := grown_of_below hw3
      replace T := T.grown hg
      clear hcc hC0 hr0 hr1 hr2 hw3 hg
      clear hd0 hd1 hd2 hd3
      obtain ⟨c0, c1, c2⟩ := Hcells _ _ T
      go_wp2_with fail
      refine (K5.out _ T.sx).mono ?_
      rintro e w11 ⟨v5, ys, rfl, hown, hys, hg⟩
      replace T := T.grown hg
      clear hg c0 c1 c2 hown hys
      obtain ⟨c0, c1, c2⟩ := Hcells _ _ T
      go_wp2_with fail
      refine (K6.out _).mono ?_
      rintro e w12 ⟨rfl, hg⟩
      replace T := T.grown hg
      clear hg c0 c1 c2
      by_cases h6 : E6 = 0
      · obtain rfl : S6 = S3 := HS6.out h6
        subst h6
        obtain ⟨c0, c1, c2⟩ := Hcells _ _ T
        go_upto_region 15 with (fail)
        have hC0 : (fun V => Below w12.heap.size w12 V) w12.drew := ⟨rfl, rfl, rfl, Nat.le_refl _, fun _ _ => rfl⟩
        refine wp_region_class (fun V => Below w12.heap.size w12 V) (by kernel_rfl) (by kernel_rfl) hC0 ?_
        have hcc := class_const hC0
        have hlb := T.bx.lt
        have hr0 : ∀ V, Below w12.heap.size w12 V → V.cell? ⟨b, 0, none⟩ = some (.bool false) := fun V hV => (hV.cell (p := ⟨b, 0, none⟩) hlb).trans c0
        have hr1 : ∀ V, Below w12.heap.size w12 V → V.cell? ⟨b, 1, none⟩ = some (.string S6) := fun V hV => (hV.cell (p := ⟨b, 1, none⟩) hlb).trans c1
        have hr2 : ∀ V, Below w12.heap.size w12 V → V.cell? ⟨b, 2, none⟩ = some (.slice A 0 c) := fun V hV => (hV.cell (p := ⟨b, 2, none⟩) hlb).trans c2
        clear c0 c1 c2 hlb
        (try simp only [Act.put])
        (repeat go_big_quiet_step (fail))
        refine quiet_call (.agg #[.bool false, .string S6, .slice none 0 0]) 12 #[.string S6] rfl (fun V => exec_call1 _ (.tmp 117) _ rfl _ rfl rfl) (fun V hV => text_any S6 V) ?_
        simp only [Act.put, List.setIfInBounds_toArray, List.set_cons_zero, List.set_cons_succ]
        refine wpQuiet_value rfl (.agg #[.bool false, .string S6, .slice A 0 c]) (fun V hV => exec_load3' _ rfl rfl (hr0 V hV) (hr1 V hV) (hr2 V hV)) ?_
        simp only [Act.put, List.setIfInBounds_toArray, List.set_cons_zero, List.set_cons_succ]
        refine quiet_call (.bool true) 28 #[.agg #[.bool false, .string S6, .slice none 0 0], .agg #[.bool false, .string S6, .slice A 0 c]] rfl (fun V => exec_call2 _ (.tmp 118) (.tmp 119) _ rfl _ _ rfl rfl rfl) (fun V hV => HSame.out V) ?_
        simp only [Act.put, List.setIfInBounds_toArray, List.set_cons_zero, List.set_cons_succ]
        (repeat go_big_quiet_step (fail))
        refine wpQuiet_load1' (.bool false) _ _ ⟨b, 0, none⟩ _ rfl rfl rfl Tryd.underlying4 rfl hr0 ?_
        simp only [Act.put, List.setIfInBounds_toArray, List.set_cons_zero, List.set_cons_succ]
        (repeat go_big_quiet_step (fail))
        refine wpQuiet_nil ?_
        intro w13 hw3
        have hg := grown_of_below hw3
        replace T := T.grown hg
        clear hcc hC0 hr0 hr1 hr2 hw3 hg
        go_wp2_with fail
        go_ret
        exact ⟨rfl, HB.out ▸ T.below⟩
      · have e6 : (E6 != 0) = true := by simpa using h6
        obtain ⟨c0, c1, c2⟩ := Hcells _ _ T
        go_upto_region 15 with (fail)
        have hC0 : (fun V => Below w12.heap.size w12 V) w12.drew := ⟨rfl, rfl, rfl, Nat.le_refl _, fun _ _ => rfl⟩
        refine wp_region_class (fun V => Below w12.heap.size w12 V) (by kernel_rfl) (by kernel_rfl) hC0 ?_
        have hcc := class_const hC0
        have hlb := T.bx.lt
        have hr0 : ∀ V, Below w12.heap.size w12 V → V.cell? ⟨b, 0, none⟩ = some (.bool false) := fun V hV => (hV.cell (p := ⟨b, 0, none⟩) hlb).trans c0
        have hr1 : ∀ V, Below w12.heap.size w12 V → V.cell? ⟨b, 1, none⟩ = some (.string S3) := fun V hV => (hV.cell (p := ⟨b, 1, none⟩) hlb).trans c1
        have hr2 : ∀ V, Below w12.heap.size w12 V → V.cell? ⟨b, 2, none⟩ = some (.slice A 0 c) := fun V hV => (hV.cell (p := ⟨b, 2, none⟩) hlb).trans c2
        clear c0 c1 c2 hlb
        (try simp only [Act.put])
        (repeat go_big_quiet_step (fail))
        refine wpQuiet_load1' (.bool false) _ _ ⟨b, 0, none⟩ _ rfl rfl rfl Tryd.underlying4 rfl hr0 ?_
        simp only [Act.put, List.setIfInBounds_toArray, List.set_cons_zero, List.set_cons_succ]
        (repeat go_big_quiet_step (fail))
        refine wpQuiet_nil ?_
        intro w13 hw3
        have hg := grown_of_below hw3
        replace T := T.grown hg
        clear hcc hC0 hr0 hr1 hr2 hw3 hg
        go_wp2_with fail
        go_ret
        exact ⟨rfl, HB.out ▸ T.below⟩
    · have gh1 : (E1 == 0) = false := by simpa using h1
      have gh2 : (E2 == 0) = false := by simpa using h2
      have gh4 : (E4 == 0) = false := by simpa using h4
      obtain ⟨c0, c1, c2⟩ := Hcells _ _ T
      go_upto_region 11 with (fail)
      have hC0 : (fun V => Below w9.heap.size w9 V) w9.drew := ⟨rfl, rfl, rfl, Nat.le_refl _, fun _ _ => rfl⟩
      refine wp_region_class (fun V => Below w9.heap.size w9 V) (by kernel_rfl) (by kernel_rfl) hC0 ?_
      have hcc := class_const hC0
      have hlb := T.bx.lt
      have hr0 : ∀ V, Below w9.heap.size w9 V → V.cell? ⟨b, 0, none⟩ = some (.bool false) := fun V hV => (hV.cell (p := ⟨b, 0, none⟩) hlb).trans c0
      have hr1 : ∀ V, Below w9.heap.size w9 V → V.cell? ⟨b, 1, none⟩ = some (.string S3) := fun V hV => (hV.cell (p := ⟨b, 1, none⟩) hlb).trans c1
      have hr2 : ∀ V, Below w9.heap.size w9 V → V.cell? ⟨b, 2, none⟩ = some (.slice A 0 c) := fun V hV => (hV.cell (p := ⟨b, 2, none⟩) hlb).trans c2
      clear c0 c1 c2 hlb
      (try simp only [Act.put])
      (repeat go_big_quiet_step (fail))
      refine quiet_call (.agg #[.bool false, .string S3, .slice none 0 0]) 12 #[.string S3] rfl (fun V => exec_call1 _ (.tmp 74) _ rfl _ rfl rfl) (fun V hV => text_any S3 V) ?_
      simp only [Act.put, List.setIfInBounds_toArray, List.set_cons_zero, List.set_cons_succ]
      refine wpQuiet_value rfl (.agg #[.bool false, .string S3, .slice A 0 c]) (fun V hV => exec_load3' _ rfl rfl (hr0 V hV) (hr1 V hV) (hr2 V hV)) ?_
      simp only [Act.put, List.setIfInBounds_toArray, List.set_cons_zero, List.set_cons_succ]
      refine quiet_call (.bool true) 28 #[.agg #[.bool false, .string S3, .slice none 0 0], .agg #[.bool false, .string S3, .slice A 0 c]] rfl (fun V => exec_call2 _ (.tmp 75) (.tmp 76) _ rfl _ _ rfl rfl rfl) (fun V hV => HSame.out V) ?_
      simp only [Act.put, List.setIfInBounds_toArray, List.set_cons_zero, List.set_cons_succ]
      (repeat go_big_quiet_step (fail))
      refine wpQuiet_nil ?_
      intro w10 hw3
      have hg := grown_of_below hw3
      replace T := T.grown hg
      clear hcc hC0 hr0 hr1 hr2 hw3 hg
      obtain ⟨c0, c1, c2⟩ := Hcells _ _ T
      go_wp2_with fail
      refine (K5.out _ T.sx).mono ?_
      rintro e w11 ⟨v5, ys, rfl, hown, hys, hg⟩
      replace T := T.grown hg
      clear hg c0 c1 c2 hown hys
      obtain ⟨c0, c1, c2⟩ := Hcells _ _ T
      go_wp2_with fail
      refine (K6.out _).mono ?_
      rintro e w12 ⟨rfl, hg⟩
      replace T := T.grown hg
      clear hg c0 c1 c2
      by_cases h6 : E6 = 0
      · obtain rfl : S6 = S3 := HS6.out h6
        subst h6
        obtain ⟨c0, c1, c2⟩ := Hcells _ _ T
        go_upto_region 15 with (fail)
        have hC0 : (fun V => Below w12.heap.size w12 V) w12.drew := ⟨rfl, rfl, rfl, Nat.le_refl _, fun _ _ => rfl⟩
        refine wp_region_class (fun V => Below w12.heap.size w12 V) (by kernel_rfl) (by kernel_rfl) hC0 ?_
        have hcc := class_const hC0
        have hlb := T.bx.lt
        have hr0 : ∀ V, Below w12.heap.size w12 V → V.cell? ⟨b, 0, none⟩ = some (.bool false) := fun V hV => (hV.cell (p := ⟨b, 0, none⟩) hlb).trans c0
        have hr1 : ∀ V, Below w12.heap.size w12 V → V.cell? ⟨b, 1, none⟩ = some (.string S6) := fun V hV => (hV.cell (p := ⟨b, 1, none⟩) hlb).trans c1
        have hr2 : ∀ V, Below w12.heap.size w12 V → V.cell? ⟨b, 2, none⟩ = some (.slice A 0 c) := fun V hV => (hV.cell (p := ⟨b, 2, none⟩) hlb).trans c2
        clear c0 c1 c2 hlb
        (try simp only [Act.put])
        (repeat go_big_quiet_step (fail))
        refine quiet_call (.agg #[.bool false, .string S6, .slice none 0 0]) 12 #[.string S6] rfl (fun V => exec_call1 _ (.tmp 117) _ rfl _ rfl rfl) (fun V hV => text_any S6 V) ?_
        simp only [Act.put, List.setIfInBounds_toArray, List.set_cons_zero, List.set_cons_succ]
        refine wpQuiet_value rfl (.agg #[.bool false, .string S6, .slice A 0 c]) (fun V hV => exec_load3' _ rfl rfl (hr0 V hV) (hr1 V hV) (hr2 V hV)) ?_
        simp only [Act.put, List.setIfInBounds_toArray, List.set_cons_zero, List.set_cons_succ]
        refine quiet_call (.bool true) 28 #[.agg #[.bool false, .string S6, .slice none 0 0], .agg #[.bool false, .string S6, .slice A 0 c]] rfl (fun V => exec_call2 _ (.tmp 118) (.tmp 119) _ rfl _ _ rfl rfl rfl) (fun V hV => HSame.out V) ?_
        simp only [Act.put, List.setIfInBounds_toArray, List.set_cons_zero, List.set_cons_succ]
        (repeat go_big_quiet_step (fail))
        refine wpQuiet_load1' (.bool false) _ _ ⟨b, 0, none⟩ _ rfl rfl rfl Tryd.underlying4 rfl hr0 ?_
        simp only [Act.put, List.setIfInBounds_toArray, List.set_cons_zero, List.set_cons_succ]
        (repeat go_big_quiet_step (fail))
        refine wpQuiet_nil ?_
        intro w13 hw3
        have hg := grown_of_below hw3
        replace T := T.grown hg
        clear hcc hC0 hr0 hr1 hr2 hw3 hg
        go_wp2_with fail
        go_ret
        exact ⟨rfl, HB.out ▸ T.below⟩
      · have e6 : (E6 != 0) = true := by simpa using h6
        obtain ⟨c0, c1, c2⟩ := Hcells _ _ T
        go_upto_region 15 with (fail)
        have hC0 : (fun V => Below w12.heap.size w12 V) w12.drew := ⟨rfl, rfl, rfl, Nat.le_refl _, fun _ _ => rfl⟩
        refine wp_region_class (fun V => Below w12.heap.size w12 V) (by kernel_rfl) (by kernel_rfl) hC0 ?_
        have hcc := class_const hC0
        have hlb := T.bx.lt
        have hr0 : ∀ V, Below w12.heap.size w12 V → V.cell? ⟨b, 0, none⟩ = some (.bool false) := fun V hV => (hV.cell (p := ⟨b, 0, none⟩) hlb).trans c0
        have hr1 : ∀ V, Below w12.heap.size w12 V → V.cell? ⟨b, 1, none⟩ = some (.string S3) := fun V hV => (hV.cell (p := ⟨b, 1, none⟩) hlb).trans c1
        have hr2 : ∀ V, Below w12.heap.size w12 V → V.cell? ⟨b, 2, none⟩ = some (.slice A 0 c) := fun V hV => (hV.cell (p := ⟨b, 2, none⟩) hlb).trans c2
        clear c0 c1 c2 hlb
        (try simp only [Act.put])
        (repeat go_big_quiet_step (fail))
        refine wpQuiet_load1' (.bool false) _ _ ⟨b, 0, none⟩ _ rfl rfl rfl Tryd.underlying4 rfl hr0 ?_
        simp only [Act.put, List.setIfInBounds_toArray, List.set_cons_zero, List.set_cons_succ]
        (repeat go_big_quiet_step (fail))
        refine wpQuiet_nil ?_
        intro w13 hw3
        have hg := grown_of_below hw3
        replace T := T.grown hg
        clear hcc hC0 hr0 hr1 hr2 hw3 hg
        go_wp2_with fail
        go_ret
        exact ⟨rfl, HB.out ▸ T.below⟩
theorem only6_any (x : Itm) (sx : Value) (W : World) (hsx : SubW W x.items sx) (hw : wtF x ≤ 10485760) :
    Calls Tryd.prog 5 #[.agg #[.bool x.list, .string x.bytes, sx]] W fun e w' => e = .returned (.bool true) ∧ Below W.heap.size W w' := by
  obtain ⟨A, c, rfl⟩ := hsx.slice
  cases x
  exact only6_law _ _ _ A c W hsx hw
end Go.Proofs.YtmlkjackopiekaaDoor
