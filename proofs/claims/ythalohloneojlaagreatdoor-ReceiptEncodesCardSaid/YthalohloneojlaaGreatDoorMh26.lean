/- Merged: RdD, RdE, TxtR, RdF. -/
import Derived.Test.YthalohloneojlaaGreatDoorMh3
import Derived.Test.YthalohloneojlaaGreatDoorMh11
import Derived.Test.YthalohloneojlaaGreatDoorMh15
import Derived.Test.YthalohloneojlaaGreatDoorMh19
import Derived.Test.YthalohloneojlaaGreatDoorMh20
import Derived.Test.YthalohloneojlaaGreatDoorMh21
import Derived.Test.YthalohloneojlaaGreatDoorMh23
import Derived.Test.YthalohloneojlaaGreatDoorMh25
/- Receipts, the document's: Bytes, Encode.  Printed by wip/genRdD.py -/
namespace Go.Proofs.YthalohloneojlaaGreatDoor
open Go.RowKit Go.Shelf
set_option linter.unusedVariables false
set_option linter.unusedSimpArgs false

/-- an owned row of items -/
structure RowI (base : Nat) (v : Value) (j : Nat) (xs : List Itm) (vs : List Value) (u : World) : Prop where
  own : u.ownsRow base 45 3 v j (itemsV xs vs)
  lx : xs.length = j
  lv : vs.length = j
  sub : ∀ i, i < j → SubV (fun g => v.ownBlock ≠ some g) u (xs.getD i Itm.none_).items (vs.getD i undef)
  size : base ≤ u.heap.size
theorem RowI.kept {base j : Nat} {v : Value} {xs : List Itm} {vs : List Value} {u u' : World} (h : RowI base v j xs vs u) (hg : u.grownBy u' none) : RowI base v j xs vs u' := by
  obtain ⟨A, c, rfl⟩ := own_slice3 h.own
  exact ⟨h.own.kept hg (by cases A; exact .inl rfl; exact .inr (by simp [Value.ownBlock])), h.lx, h.lv, fun i hi => (h.sub i hi).grown hg, Nat.le_trans h.size hg.size⟩
theorem RowI.put {base j g' cap' : Nat} {v : Value} {xs : List Itm} {vs : List Value} {u u2 : World} (h : RowI base v j xs vs u) (x : Itm) (sv : Value) (hx : SubV (fun g => v.ownBlock ≠ some g) u x.items sv)
    (hown : u2.ownsRow base 45 3 (.slice (some ⟨g', 0, none⟩) (j + 1) cap') (j + 1) (itemsV xs vs ++ [.bool x.list, .string x.bytes, sv])) (hg : u.grownBy u2 v.ownBlock) (hob : (Value.slice (some ⟨g', 0, none⟩) (j + 1) cap').ownBlock = v.ownBlock ∨ (Value.slice (some ⟨g', 0, none⟩) (j + 1) cap').ownBlock = some u.heap.size) :
    RowI base (.slice (some ⟨g', 0, none⟩) (j + 1) cap') (j + 1) (xs ++ [x]) (vs ++ [sv]) u2 := by
  have key : ∀ ys sv', SubV (fun g => v.ownBlock ≠ some g) u ys sv' → SubV (fun g => (Value.slice (some ⟨g', 0, none⟩) (j + 1) cap').ownBlock ≠ some g) u2 ys sv' := by
    intro ys sv' hs
    refine (hs.lt.keep fun p hp c hc => hg.cell hc (fun e => hp.1 e.symm)).weak fun g hS e => ?_
    rcases hob with e2 | e2
    · exact hS.1 (e2.symm.trans e)
    · have := Option.some.inj (e2.symm.trans e)
      have := hS.2
      omega
  refine ⟨by rw [itemsV_snoc xs vs (by rw [h.lx, h.lv])]; exact hown, by simp [h.lx], by simp [h.lv], fun i hi => ?_, Nat.le_trans h.size hg.size⟩
  by_cases hij : i < j
  · rw [List.getD_eq_getElem?_getD, List.getElem?_append_left (by rw [h.lx]; exact hij), ← List.getD_eq_getElem?_getD, List.getD_eq_getElem?_getD (l := vs ++ [sv]), List.getElem?_append_left (by rw [h.lv]; exact hij), ← List.getD_eq_getElem?_getD]
    exact key _ _ (h.sub i hij)
  · obtain rfl : i = j := by omega
    rw [List.getD_eq_getElem?_getD, List.getElem?_append_right (by rw [h.lx]; omega), List.getD_eq_getElem?_getD (l := vs ++ [sv]), List.getElem?_append_right (by rw [h.lv]; omega), h.lx, h.lv, Nat.sub_self]
    exact key _ _ hx
theorem RowI.subW {base j c : Nat} {A : Option Addr} {xs : List Itm} {vs : List Value} {u : World} (h : RowI base (.slice A j c) j xs vs u) : SubW u xs (.slice A j c) := by
  obtain ⟨h1, h2, h3, h4, h5⟩ := h
  subst h2
  exact (SubV.of_own (S := fun _ => True) (by rw [h3]) h1 (fun i hi => (h4 i hi).weak fun _ _ => trivial) (fun _ _ => trivial)).here
theorem RowI.three (V : World) (p q : ByteArray) (ys : List Itm) (A : Option Addr) (c : Nat) (h : SubW V ys (.slice A ys.length c)) :
    RowI V.heap.size (.slice (some ⟨V.heap.size, 0, none⟩) 3 3) 3 [txt p, txt q, .mk true ⟨#[]⟩ ys] [.slice none 0 0, .slice none 0 0, .slice A ys.length c] (V.alloc (.cells #[.bool false, .string p, .slice none 0 0, .bool false, .string q, .slice none 0 0, .bool true, .string ⟨#[]⟩, .slice A ys.length c] 45)) := by
  have hb := Blk.new V 45 #[.bool false, .string p, .slice none 0 0, .bool false, .string q, .slice none 0 0, .bool true, .string ⟨#[]⟩, .slice A ys.length c]
  have hg := only_alloc (World.grownBy.refl V none) (.cells #[.bool false, .string p, .slice none 0 0, .bool false, .string q, .slice none 0 0, .bool true, .string ⟨#[]⟩, .slice A ys.length c] 45)
  have hn : ∀ W : World, ∀ S, SubV S W [] (.slice none 0 0) := fun W S => .mk [] none 0 [] (fun h => by cases h) (fun i h => by cases h)
  refine ⟨⟨rfl, .inr ⟨V.heap.size, 3, _, rfl, Nat.le_refl _, hb, by omega, by simp [maxLen], rfl, rfl⟩⟩, rfl, rfl, fun i hi => ?_, by simp⟩
  match i, hi with
  | 0, _ => exact hn _ _
  | 1, _ => exact hn _ _
  | 2, _ =>
    refine (SubV.grown h hg).weak fun g hlt e => ?_
    have h1 : V.heap.size = g := by simpa [Value.ownBlock] using e
    have h2 : g < V.heap.size := hlt
    omega
theorem items_0 {x : Rcp} (hf : x.full = false) : itemRc x = .mk true ⟨#[]⟩ [txt (yesS x.status), txt (numT x.gas), .mk true ⟨#[]⟩ (x.logs.map logIt)] := by
  unfold itemRc
  rw [show formRc x = 0 from if_pos hf]
  generalize txt (numT x.nonce) = a
  generalize txt (numT x.version) = b
  rfl
theorem items_1 {x : Rcp} (hf : x.full = true) (hv : x.version = 0) : itemRc x = .mk true ⟨#[]⟩ ([txt (yesS x.status), txt (numT x.gas), .mk true ⟨#[]⟩ (x.logs.map logIt)] ++ [txt (numT x.nonce)]) := by
  unfold itemRc
  rw [show formRc x = 1 by unfold formRc; rw [if_neg (by simp [hf]), if_pos hv]]
  generalize txt (numT x.nonce) = a
  generalize txt (numT x.version) = b
  rfl
theorem items_2 {x : Rcp} (hf : x.full = true) (hv : x.version = 1) : itemRc x = .mk true ⟨#[]⟩ (([txt (yesS x.status), txt (numT x.gas), .mk true ⟨#[]⟩ (x.logs.map logIt)] ++ [txt (numT x.nonce)]) ++ [txt (numT 1)]) := by
  unfold itemRc
  rw [show formRc x = 2 by unfold formRc; rw [if_neg (by simp [hf]), if_neg (by simp [hv])], hv]
  generalize txt (numT x.nonce) = a
  generalize txt (numT 1) = b
  rfl
def preRc (k : Int) : List UInt8 := if k = 0 then [] else [UInt8.ofNat k.toNat]
set_option maxRecDepth 100000 in
set_option maxHeartbeats 8000000 in
theorem bytesD_any (x : Rcp) (hok : x.Ok) (hck : checkRc x = 0) (B : Nat) (A : Option Addr) (n c : Nat) (w : World) (h : LogsR B w x.logs A n) (hB : B ≤ w.heap.size) (hn : n ≤ 9223372036854775807) :
    Calls Tryz.prog 28 #[.agg (rcpC x (.slice A n c))] w fun e w' => e = .returned (.string ⟨(preRc x.kind ++ bytesF (itemRc x)).toArray⟩) ∧ w.grownBy w' none := by
  obtain ⟨k1, k2⟩ := check_0 hck
  obtain ⟨k3, k4⟩ := check_1 hck
  have hkk := kind_0 hck
  have hwt := wt_rc k2 k1 hok hck
  have hsz := bytesF_len (itemRc x) hwt
  have hi0 := @items_0 x; have hi1 := @items_1 x; have hi2 := @items_2 x
  have hlen := h.1
  have hG := only_alloc (World.grownBy.refl w none) (.cells (rcpC x (.slice A n c)) 25)
  have hb := Blk.new w 25 (rcpC x (.slice A n c))
  have hR := h.grown hG hB
  have hB1 := Nat.le_trans hB hG.size
  have hts : ∀ l ∈ x.logs, l.topics.length ≤ 1000 := fun l hl => by have := (k2 l hl).1; omega
  obtain ⟨L, hL⟩ : ∃ L, bytesF (itemRc x) = L := ⟨_, rfl⟩
  have hby := bytesR_item (itemRc x)
  unfold BytesRC at hby
  rw [hL] at hsz hby ⊢
  obtain ⟨kind, status, gas, ls, full, nonce, version⟩ := x
  simp only [rcpC] at *
  generalize itemRc ⟨kind, status, gas, ls, full, nonce, version⟩ = I at *
  have HG := Lib.hid hG; have HR := Lib.hid hR; have HB1 := Lib.hid hB1; have HTS := Lib.hid hts
  have HI0 := Lib.hid hi0; have HI1 := Lib.hid hi1; have HI2 := Lib.hid hi2; have HWT := Lib.hid hwt; have HBY := Lib.hid hby; have HKK := Lib.hid hkk
  have HSZ : Hid (L.length ≤ 1000000000) := Lib.hid (by omega)
  have HLEN := Lib.hid hlen; have HKL := Lib.hid k1; have HK3 := Lib.hid k3; have HOK := Lib.hid hok
  obtain ⟨g, hg⟩ : ∃ g, w.heap.size = g := ⟨_, rfl⟩
  rw [hg] at hb
  have HW := Lib.hid hg
  clear h hB hG hR hB1 hts hi0 hi1 hi2 hwt hby hkk hsz hlen k1 k2 k3 k4 hck hok hL
  go_enter Tryz.func28, Tryz.ntmps28
  go_upto_region 1 with (fail)
  clear hg
  generalize w.alloc (.cells #[.int .i64 kind, .bool status, .int .u64 (gas : Int), .slice A n c, .bool full, .int .u64 (nonce : Int), .int .u64 (version : Int)] 25) = w1 at *
  have HB := Lib.hid hb
  clear hb
  refine wp_region_held (S := fun W => Blk W g 25 #[.int .i64 kind, .bool status, .int .u64 (gas : Int), .slice A n c, .bool full, .int .u64 (nonce : Int), .int .u64 (version : Int)]) (by kernel_rfl) ?_
  change wpAnyH _ _ _ _ _ _ _ _ w1.drew
  have hS := HB.out.drew
  have hgu := only_drew (World.grownBy.refl w1 none)
  generalize w1.drew = u0 at *
  refine held_take (i := 0) (v := .pointer (some ⟨g, 1, none⟩)) (some 5) rfl (by kernel_rfl) (by kernel_rfl) (by kernel_rfl) (fun _ _ _ h => h) rfl (Or.inl ⟨by rfl, fun W hW => by go_simp⟩) hS ?_
  simp only [Act.put, List.setIfInBounds_toArray, List.set_cons_zero, List.set_cons_succ]
  refine held_take (i := 1) (v := .bool status) (some 6) rfl (by kernel_rfl) (by kernel_rfl) (by kernel_rfl) (fun _ _ _ h => h) rfl (Or.inl ⟨by rfl, fun W hW => by have p0 := hW.cell 1; simp only [List.getElem?_toArray, List.getElem?_cons_zero, List.getElem?_cons_succ] at p0; go_simp⟩) hS ?_
  simp only [Act.put, List.setIfInBounds_toArray, List.set_cons_zero, List.set_cons_succ]
  refine held_take (i := 3) (v := .pointer (some ⟨g, 2, none⟩)) (some 8) rfl (by kernel_rfl) (by kernel_rfl) (by kernel_rfl) (fun _ _ _ h => h) rfl (Or.inl ⟨by rfl, fun W hW => by go_simp⟩) hS ?_
  simp only [Act.put, List.setIfInBounds_toArray, List.set_cons_zero, List.set_cons_succ]
  refine held_take (i := 4) (v := .int .u64 (gas : Int)) (some 9) rfl (by kernel_rfl) (by kernel_rfl) (by kernel_rfl) (fun _ _ _ h => h) rfl (Or.inl ⟨by rfl, fun W hW => by have p0 := hW.cell 2; simp only [List.getElem?_toArray, List.getElem?_cons_zero, List.getElem?_cons_succ] at p0; go_simp⟩) hS ?_
  simp only [Act.put, List.setIfInBounds_toArray, List.set_cons_zero, List.set_cons_succ]
  refine held_take (i := 6) (v := .pointer (some ⟨g, 3, none⟩)) (some 11) rfl (by kernel_rfl) (by kernel_rfl) (by kernel_rfl) (fun _ _ _ h => h) rfl (Or.inl ⟨by rfl, fun W hW => by go_simp⟩) hS ?_
  simp only [Act.put, List.setIfInBounds_toArray, List.set_cons_zero, List.set_cons_succ]
  refine held_take (i := 7) (v := .slice A n c) (some 12) rfl (by kernel_rfl) (by kernel_rfl) (by kernel_rfl) (fun _ _ _ h => h) rfl (Or.inl ⟨by rfl, fun W hW => by have p0 := hW.cell 3; simp only [List.getElem?_toArray, List.getElem?_cons_zero, List.getElem?_cons_succ] at p0; go_simp⟩) hS ?_
  simp only [Act.put, List.setIfInBounds_toArray, List.set_cons_zero, List.set_cons_succ]
  refine held_one (i := 2) (by kernel_rfl) ?_
  refine held_enter (some 7) rfl rfl 51 #[.bool status] (exec_call1 _ (.tmp 6) _ rfl _ rfl (enters_of Tryz.func51 (by kernel_rfl) rfl _ _)) rfl ((boolR6_any status u0).mono ?_)
  rintro e v1 ⟨rfl, hg⟩
  replace hS := hS.grown hg (by simp)
  replace hgu := grown_self hgu hg (by simp)
  refine ⟨_, rfl, hS, ?_⟩
  simp only [Act.put, List.setIfInBounds_toArray, List.set_cons_zero, List.set_cons_succ]
  clear hg
  refine held_one (i := 5) (by kernel_rfl) ?_
  refine held_enter (some 10) rfl rfl 52 #[.int .u64 (gas : Int)] (exec_call1 _ (.tmp 9) _ rfl _ rfl (enters_of Tryz.func52 (by kernel_rfl) rfl _ _)) rfl ((numberR6_any gas HOK.out.1 v1).mono ?_)
  rintro e v2 ⟨rfl, hg⟩
  replace hS := hS.grown hg (by simp)
  replace hgu := grown_self hgu hg (by simp)
  refine ⟨_, rfl, hS, ?_⟩
  simp only [Act.put, List.setIfInBounds_toArray, List.set_cons_zero, List.set_cons_succ]
  clear hg
  refine held_one (i := 8) (by kernel_rfl) ?_
  refine held_enter (some 13) rfl rfl 53 #[.slice A n c] (exec_call1 _ (.tmp 12) _ rfl _ rfl (enters_of Tryz.func53 (by kernel_rfl) rfl _ _)) rfl ((writtenD_any B A n c ls v2 (HR.out.grown hgu HB1.out) (Nat.le_trans HB1.out hgu.size) (by have := HKL.out; have := HLEN.out; omega) HTS.out).mono ?_)
  rintro e v3 ⟨A', c', rfl, hsub, hg⟩
  replace hS := hS.grown hg (by simp)
  replace hgu := grown_self hgu hg (by simp)
  refine ⟨_, rfl, hS, ?_⟩
  simp only [Act.put, List.setIfInBounds_toArray, List.set_cons_zero, List.set_cons_succ]
  clear hg
  have hml : (ls.map logIt).length = n := by rw [List.length_map]; exact HLEN.out
  have hsw := SubV.here hsub
  have hgz := hS.lt
  rw [← hml] at hsw
  have K0 := RowI.three v3 (yesS status) (numT gas) (ls.map logIt) A' c' hsw
  rw [hml] at K0
  have hg := only_alloc (World.grownBy.refl v3 none) (.cells #[.bool false, .string (yesS status), .slice none 0 0, .bool false, .string (numT gas), .slice none 0 0, .bool true, .string ⟨#[]⟩, .slice A' n c'] 45)
  replace hS := hS.grown hg (by simp)
  replace hgu := grown_self hgu hg (by simp)
  refine held_one (i := 9) (by kernel_rfl) ?_
  refine held_value (some 14) rfl rfl (.slice (some ⟨v3.heap.size, 0, none⟩) 3 3) (w' := v3.alloc (.cells #[.bool false, .string (yesS status), .slice none 0 0, .bool false, .string (numT gas), .slice none 0 0, .bool true, .string ⟨#[]⟩, .slice A' n c'] 45)) (by go_simp <;> rfl) rfl hS ?_
  simp only [Act.put, List.setIfInBounds_toArray, List.set_cons_zero, List.set_cons_succ]
  obtain ⟨z, hz⟩ : ∃ z, v3.heap.size = z := ⟨_, rfl⟩
  rw [hz] at hgz
  have HGZ := Lib.hid hgz
  rw [hz] at K0 ⊢
  clear hsub hsw hg hz hgz
  generalize v3.alloc (.cells #[.bool false, .string (yesS status), .slice none 0 0, .bool false, .string (numT gas), .slice none 0 0, .bool true, .string ⟨#[]⟩, .slice A' n c'] 45) = v4 at *
  refine held_one (i := 10) (by kernel_rfl) ?_
  refine held_value (some 3) rfl rfl (.slice (some ⟨z, 0, none⟩) 3 3) (by go_simp <;> rfl) rfl hS ?_
  simp only [Act.put, List.setIfInBounds_toArray, List.set_cons_zero, List.set_cons_succ]
  refine wpAnyH_done (by kernel_rfl) ?_ _
  have HGU := Lib.hid (grown_self HG.out hgu (by simp)); have HS := Lib.hid hS; have HK := Lib.hid K0
  clear hS hgu K0 hml
  have c0 := HS.out.cell 0; have c4 := HS.out.cell 4; have c5 := HS.out.cell 5; have c6 := HS.out.cell 6
  simp only [List.getElem?_toArray, List.getElem?_cons_zero, List.getElem?_cons_succ] at c0 c4 c5 c6
  cases full with
  | false =>
    go_wp2_with fail
    refine (listR6_any _ ⟨_, _, _, rfl⟩ v4).mono ?_
    rintro e w7 ⟨rfl, hg⟩
    have hsub := (HK.out.kept hg).subW
    have HG7 := Lib.hid (grown_self HGU.out hg (by simp)); have HS7 := Lib.hid (HS.out.grown hg (by simp))
    have hI : I = .mk true ⟨#[]⟩ [txt (yesS status), txt (numT gas), .mk true ⟨#[]⟩ (ls.map logIt)] := (by first | exact HI0.out rfl | exact HI0.out trivial | exact HI0.out)
    have hby := HBY.out w7 _ (by rw [hI]; exact hsub) HWT.out
    rw [hI] at hby
    have HBY2 := Lib.hid hby
    clear hg hsub hby hI c0 c4 c5 c6
    go_wp2_with fail
    refine HBY2.out.mono ?_
    rintro e w8 ⟨rfl, hg⟩
    have HG8 := Lib.hid (grown_self HG7.out hg (by simp)); have HS8 := Lib.hid (HS7.out.grown hg (by simp))
    have c0 := HS8.out.cell 0
    simp only [List.getElem?_toArray, List.getElem?_cons_zero, List.getElem?_cons_succ] at c0
    clear hg HG7 HS7 HBY2
    obtain ⟨S0, hS0⟩ : ∃ S, (⟨L.toArray⟩ : ByteArray) = S := ⟨_, rfl⟩
    have hs0 : S0.size = L.length := by rw [← hS0]; show L.toArray.size = _; simp
    have HS0 := Lib.hid hS0; have HS1 := Lib.hid hs0
    rw [hS0]
    clear hS0 hs0
    rcases HKK.out with hk | hk | hk | hk | hk
    · subst hk
      go_wp2_with fail
      go_ret
      refine ⟨?_, HG8.out⟩
      rw [show preRc 0 = [] from rfl, List.nil_append, HS0.out]
      rfl
    · subst hk
      have hcv : (convert 52 9 (.slice (some ⟨w8.heap.size, 0, none⟩) 1 1)).run Tryz.prog (w8.alloc (.cells #[.int .u8 1] 5)) = .ok (.string ⟨#[1]⟩) (w8.alloc (.cells #[.int .u8 1] 5)) := conv1k 1 w8
      have hcat : 1 + S0.size ≤ 9223372036854775807 := by have := HSZ.out; have := HS1.out; omega
      go_wp2_with fail
      go_ret
      refine ⟨?_, only_alloc HG8.out _⟩
      rw [show preRc 1 = [1] from rfl, ← pre_cat, HS0.out]
      rfl
    · subst hk
      have hcv : (convert 52 9 (.slice (some ⟨w8.heap.size, 0, none⟩) 1 1)).run Tryz.prog (w8.alloc (.cells #[.int .u8 2] 5)) = .ok (.string ⟨#[2]⟩) (w8.alloc (.cells #[.int .u8 2] 5)) := conv1k 2 w8
      have hcat : 1 + S0.size ≤ 9223372036854775807 := by have := HSZ.out; have := HS1.out; omega
      go_wp2_with fail
      go_ret
      refine ⟨?_, only_alloc HG8.out _⟩
      rw [show preRc 2 = [2] from rfl, ← pre_cat, HS0.out]
      rfl
    · subst hk
      have hcv : (convert 52 9 (.slice (some ⟨w8.heap.size, 0, none⟩) 1 1)).run Tryz.prog (w8.alloc (.cells #[.int .u8 4] 5)) = .ok (.string ⟨#[4]⟩) (w8.alloc (.cells #[.int .u8 4] 5)) := conv1k 4 w8
      have hcat : 1 + S0.size ≤ 9223372036854775807 := by have := HSZ.out; have := HS1.out; omega
      go_wp2_with fail
      go_ret
      refine ⟨?_, only_alloc HG8.out _⟩
      rw [show preRc 4 = [4] from rfl, ← pre_cat, HS0.out]
      rfl
    · subst hk
      have hcv : (convert 52 9 (.slice (some ⟨w8.heap.size, 0, none⟩) 1 1)).run Tryz.prog (w8.alloc (.cells #[.int .u8 126] 5)) = .ok (.string ⟨#[126]⟩) (w8.alloc (.cells #[.int .u8 126] 5)) := conv1k 126 w8
      have hcat : 1 + S0.size ≤ 9223372036854775807 := by have := HSZ.out; have := HS1.out; omega
      go_wp2_with fail
      go_ret
      refine ⟨?_, only_alloc HG8.out _⟩
      rw [show preRc 126 = [126] from rfl, ← pre_cat, HS0.out]
      rfl
  | true =>
    have hv1 : version ≤ 1 := by first | exact (HK3.out rfl).2 | exact (HK3.out trivial).2
    by_cases hv : version = 1
    · have qv : ((version : Int) == 1) = true := by simp [hv]
      have HV := Lib.hid hv
      clear hv hv1
      go_wp2_with fail
      refine (numberR6_any nonce HOK.out.2.1 v4).mono ?_
      rintro e y1 ⟨rfl, hg⟩
      have HKy := Lib.hid (HK.out.kept hg); have HGy := Lib.hid (grown_self HGU.out hg (by simp)); have HSy := Lib.hid (HS.out.grown hg (by simp))
      clear hg c0 c4 c5 c6 HK HGU HS
      have hga := only_alloc (World.grownBy.refl y1 none) (.cells #[.bool false, .string ⟨(beN (nonce)).toArray⟩, .slice none 0 0] 45)
      obtain ⟨i0, hi, hz0, hzs, hzb⟩ := info_parts item_info
      go_wp2_with (at_builtin; refine wpList_append_own_at _ rfl _ _ 43 rfl z 45 i0 _ 3 48 Tryz.underlying43 hi hz0 hzs hzb rfl (by decide) _ _ _ rfl (HKy.out.kept hga).own ⟨y1.heap.size, 0, none⟩ 1 1 [.bool false, .string ⟨(beN (nonce)).toArray⟩, .slice none 0 0] rfl rfl (cell_three_new _ _ _ _ _) (by simp [Value.oneCell']) (by decide) (by decide) (HKy.out.kept hga).size ?_; intro v' w1x hown' hgrow _ hob; obtain ⟨g1, cap1, rfl⟩ := ownsRow_succ hown'; have hxn : SubV (fun q => (Value.slice (some ⟨z, 0, none⟩) 3 3).ownBlock ≠ some q) (y1.alloc (.cells #[.bool false, .string ⟨(beN (nonce)).toArray⟩, .slice none 0 0] 45)) (txt (numT (nonce))).items (.slice none 0 0) := .mk [] none 0 [] (fun h => by cases h) (fun i h => by cases h); have HK1 := Lib.hid ((HKy.out.kept hga).put (txt (numT (nonce))) (.slice none 0 0) hxn hown' hgrow hob); have hneg : some g ≠ (Value.slice (some ⟨z, 0, none⟩) 3 3).ownBlock := fun e => (by have h1 := own_ge HKy.out.own e.symm; have h2 := HGZ.out; omega); have HGU := Lib.hid (grown_self (grown_self HGy.out hga (by simp)) hgrow (fun k hk => .inr (by have h1 := own_ge HKy.out.own hk; have h2 := HGZ.out; have h3 := HW.out; omega))); have HS := Lib.hid ((HSy.out.grown hga (by simp)).grown hgrow hneg); have c0 := HS.out.cell 0; have c4 := HS.out.cell 4; have c6 := HS.out.cell 6; simp only [List.getElem?_toArray, List.getElem?_cons_zero, List.getElem?_cons_succ] at c0 c4 c6; clear hown' hgrow hob hga hxn hneg HKy HGy HSy)
      refine (numberR6_any 1 (by decide) w1x).mono ?_
      rintro e y2 ⟨rfl, hg⟩
      have HKy := Lib.hid (HK1.out.kept hg); have HGy := Lib.hid (grown_self HGU.out hg (by simp)); have HSy := Lib.hid (HS.out.grown hg (by simp))
      clear hg c0 c4 c6 HK1 HGU HS
      have hga := only_alloc (World.grownBy.refl y2 none) (.cells #[.bool false, .string ⟨(beN (1)).toArray⟩, .slice none 0 0] 45)
      obtain ⟨i0, hi, hz0, hzs, hzb⟩ := info_parts item_info
      go_wp2_with (at_builtin; refine wpList_append_own_at _ rfl _ _ 43 rfl z 45 i0 _ 3 48 Tryz.underlying43 hi hz0 hzs hzb rfl (by decide) _ _ _ rfl (HKy.out.kept hga).own ⟨y2.heap.size, 0, none⟩ 1 1 [.bool false, .string ⟨(beN (1)).toArray⟩, .slice none 0 0] rfl rfl (cell_three_new _ _ _ _ _) (by simp [Value.oneCell']) (by decide) (by decide) (HKy.out.kept hga).size ?_; intro v' w2x hown' hgrow _ hob; obtain ⟨g2, cap2, rfl⟩ := ownsRow_succ hown'; have hxn : SubV (fun q => (Value.slice (some ⟨g1, 0, none⟩) (3 + 1) cap1).ownBlock ≠ some q) (y2.alloc (.cells #[.bool false, .string ⟨(beN (1)).toArray⟩, .slice none 0 0] 45)) (txt (numT (1))).items (.slice none 0 0) := .mk [] none 0 [] (fun h => by cases h) (fun i h => by cases h); have HK2 := Lib.hid ((HKy.out.kept hga).put (txt (numT (1))) (.slice none 0 0) hxn hown' hgrow hob); have hneg : some g ≠ (Value.slice (some ⟨g1, 0, none⟩) (3 + 1) cap1).ownBlock := fun e => (by have h1 := own_ge HKy.out.own e.symm; have h2 := HGZ.out; omega); have HGU := Lib.hid (grown_self (grown_self HGy.out hga (by simp)) hgrow (fun k hk => .inr (by have h1 := own_ge HKy.out.own hk; have h2 := HGZ.out; have h3 := HW.out; omega))); have HS := Lib.hid ((HSy.out.grown hga (by simp)).grown hgrow hneg); have c0 := HS.out.cell 0; have c4 := HS.out.cell 4; have c6 := HS.out.cell 6; simp only [List.getElem?_toArray, List.getElem?_cons_zero, List.getElem?_cons_succ] at c0 c4 c6; clear hown' hgrow hob hga hxn hneg HKy HGy HSy)
      refine (listR6_any _ ⟨_, _, _, rfl⟩ w2x).mono ?_
      rintro e w7 ⟨rfl, hg⟩
      have hsub := (HK2.out.kept hg).subW
      have HG7 := Lib.hid (grown_self HGU.out hg (by simp)); have HS7 := Lib.hid (HS.out.grown hg (by simp))
      have hI : I = .mk true ⟨#[]⟩ (([txt (yesS status), txt (numT gas), .mk true ⟨#[]⟩ (ls.map logIt)] ++ [txt (numT nonce)]) ++ [txt (numT 1)]) := (by first | exact HI2.out rfl HV.out | exact HI2.out trivial HV.out | exact HI2.out HV.out)
      have hby := HBY.out w7 _ (by rw [hI]; exact hsub) HWT.out
      rw [hI] at hby
      have HBY2 := Lib.hid hby
      clear hg hsub hby hI c0 c4 c6
      go_wp2_with fail
      refine HBY2.out.mono ?_
      rintro e w8 ⟨rfl, hg⟩
      have HG8 := Lib.hid (grown_self HG7.out hg (by simp)); have HS8 := Lib.hid (HS7.out.grown hg (by simp))
      have c0 := HS8.out.cell 0
      simp only [List.getElem?_toArray, List.getElem?_cons_zero, List.getElem?_cons_succ] at c0
      clear hg HG7 HS7 HBY2
      obtain ⟨S0, hS0⟩ : ∃ S, (⟨L.toArray⟩ : ByteArray) = S := ⟨_, rfl⟩
      have hs0 : S0.size = L.length := by rw [← hS0]; show L.toArray.size = _; simp
      have HS0 := Lib.hid hS0; have HS1 := Lib.hid hs0
      rw [hS0]
      clear hS0 hs0
      rcases HKK.out with hk | hk | hk | hk | hk
      · subst hk
        go_wp2_with fail
        go_ret
        refine ⟨?_, HG8.out⟩
        rw [show preRc 0 = [] from rfl, List.nil_append, HS0.out]
        rfl
      · subst hk
        have hcv : (convert 52 9 (.slice (some ⟨w8.heap.size, 0, none⟩) 1 1)).run Tryz.prog (w8.alloc (.cells #[.int .u8 1] 5)) = .ok (.string ⟨#[1]⟩) (w8.alloc (.cells #[.int .u8 1] 5)) := conv1k 1 w8
        have hcat : 1 + S0.size ≤ 9223372036854775807 := by have := HSZ.out; have := HS1.out; omega
        go_wp2_with fail
        go_ret
        refine ⟨?_, only_alloc HG8.out _⟩
        rw [show preRc 1 = [1] from rfl, ← pre_cat, HS0.out]
        rfl
      · subst hk
        have hcv : (convert 52 9 (.slice (some ⟨w8.heap.size, 0, none⟩) 1 1)).run Tryz.prog (w8.alloc (.cells #[.int .u8 2] 5)) = .ok (.string ⟨#[2]⟩) (w8.alloc (.cells #[.int .u8 2] 5)) := conv1k 2 w8
        have hcat : 1 + S0.size ≤ 9223372036854775807 := by have := HSZ.out; have := HS1.out; omega
        go_wp2_with fail
        go_ret
        refine ⟨?_, only_alloc HG8.out _⟩
        rw [show preRc 2 = [2] from rfl, ← pre_cat, HS0.out]
        rfl
      · subst hk
        have hcv : (convert 52 9 (.slice (some ⟨w8.heap.size, 0, none⟩) 1 1)).run Tryz.prog (w8.alloc (.cells #[.int .u8 4] 5)) = .ok (.string ⟨#[4]⟩) (w8.alloc (.cells #[.int .u8 4] 5)) := conv1k 4 w8
        have hcat : 1 + S0.size ≤ 9223372036854775807 := by have := HSZ.out; have := HS1.out; omega
        go_wp2_with fail
        go_ret
        refine ⟨?_, only_alloc HG8.out _⟩
        rw [show preRc 4 = [4] from rfl, ← pre_cat, HS0.out]
        rfl
      · subst hk
        have hcv : (convert 52 9 (.slice (some ⟨w8.heap.size, 0, none⟩) 1 1)).run Tryz.prog (w8.alloc (.cells #[.int .u8 126] 5)) = .ok (.string ⟨#[126]⟩) (w8.alloc (.cells #[.int .u8 126] 5)) := conv1k 126 w8
        have hcat : 1 + S0.size ≤ 9223372036854775807 := by have := HSZ.out; have := HS1.out; omega
        go_wp2_with fail
        go_ret
        refine ⟨?_, only_alloc HG8.out _⟩
        rw [show preRc 126 = [126] from rfl, ← pre_cat, HS0.out]
        rfl
    · have qv : ((version : Int) == 1) = false := by simp; omega
      have HV : Hid (version = 0) := Lib.hid (by omega)
      clear hv hv1
      go_wp2_with fail
      refine (numberR6_any nonce HOK.out.2.1 v4).mono ?_
      rintro e y1 ⟨rfl, hg⟩
      have HKy := Lib.hid (HK.out.kept hg); have HGy := Lib.hid (grown_self HGU.out hg (by simp)); have HSy := Lib.hid (HS.out.grown hg (by simp))
      clear hg c0 c4 c5 c6 HK HGU HS
      have hga := only_alloc (World.grownBy.refl y1 none) (.cells #[.bool false, .string ⟨(beN (nonce)).toArray⟩, .slice none 0 0] 45)
      obtain ⟨i0, hi, hz0, hzs, hzb⟩ := info_parts item_info
      go_wp2_with (at_builtin; refine wpList_append_own_at _ rfl _ _ 43 rfl z 45 i0 _ 3 48 Tryz.underlying43 hi hz0 hzs hzb rfl (by decide) _ _ _ rfl (HKy.out.kept hga).own ⟨y1.heap.size, 0, none⟩ 1 1 [.bool false, .string ⟨(beN (nonce)).toArray⟩, .slice none 0 0] rfl rfl (cell_three_new _ _ _ _ _) (by simp [Value.oneCell']) (by decide) (by decide) (HKy.out.kept hga).size ?_; intro v' w1x hown' hgrow _ hob; obtain ⟨g1, cap1, rfl⟩ := ownsRow_succ hown'; have hxn : SubV (fun q => (Value.slice (some ⟨z, 0, none⟩) 3 3).ownBlock ≠ some q) (y1.alloc (.cells #[.bool false, .string ⟨(beN (nonce)).toArray⟩, .slice none 0 0] 45)) (txt (numT (nonce))).items (.slice none 0 0) := .mk [] none 0 [] (fun h => by cases h) (fun i h => by cases h); have HK1 := Lib.hid ((HKy.out.kept hga).put (txt (numT (nonce))) (.slice none 0 0) hxn hown' hgrow hob); have hneg : some g ≠ (Value.slice (some ⟨z, 0, none⟩) 3 3).ownBlock := fun e => (by have h1 := own_ge HKy.out.own e.symm; have h2 := HGZ.out; omega); have HGU := Lib.hid (grown_self (grown_self HGy.out hga (by simp)) hgrow (fun k hk => .inr (by have h1 := own_ge HKy.out.own hk; have h2 := HGZ.out; have h3 := HW.out; omega))); have HS := Lib.hid ((HSy.out.grown hga (by simp)).grown hgrow hneg); have c0 := HS.out.cell 0; have c4 := HS.out.cell 4; have c6 := HS.out.cell 6; simp only [List.getElem?_toArray, List.getElem?_cons_zero, List.getElem?_cons_succ] at c0 c4 c6; clear hown' hgrow hob hga hxn hneg HKy HGy HSy)
      refine (listR6_any _ ⟨_, _, _, rfl⟩ w1x).mono ?_
      rintro e w7 ⟨rfl, hg⟩
      have hsub := (HK1.out.kept hg).subW
      have HG7 := Lib.hid (grown_self HGU.out hg (by simp)); have HS7 := Lib.hid (HS.out.grown hg (by simp))
      have hI : I = .mk true ⟨#[]⟩ ([txt (yesS status), txt (numT gas), .mk true ⟨#[]⟩ (ls.map logIt)] ++ [txt (numT nonce)]) := (by first | exact HI1.out rfl HV.out | exact HI1.out trivial HV.out | exact HI1.out HV.out)
      have hby := HBY.out w7 _ (by rw [hI]; exact hsub) HWT.out
      rw [hI] at hby
      have HBY2 := Lib.hid hby
      clear hg hsub hby hI c0 c4 c6
      go_wp2_with fail
      refine HBY2.out.mono ?_
      rintro e w8 ⟨rfl, hg⟩
      have HG8 := Lib.hid (grown_self HG7.out hg (by simp)); have HS8 := Lib.hid (HS7.out.grown hg (by simp))
      have c0 := HS8.out.cell 0
      simp only [List.getElem?_toArray, List.getElem?_cons_zero, List.getElem?_cons_succ] at c0
      clear hg HG7 HS7 HBY2
      obtain ⟨S0, hS0⟩ : ∃ S, (⟨L.toArray⟩ : ByteArray) = S := ⟨_, rfl⟩
      have hs0 : S0.size = L.length := by rw [← hS0]; show L.toArray.size = _; simp
      have HS0 := Lib.hid hS0; have HS1 := Lib.hid hs0
      rw [hS0]
      clear hS0 hs0
      rcases HKK.out with hk | hk | hk | hk | hk
      · subst hk
        go_wp2_with fail
        go_ret
        refine ⟨?_, HG8.out⟩
        rw [show preRc 0 = [] from rfl, List.nil_append, HS0.out]
        rfl
      · subst hk
        have hcv : (convert 52 9 (.slice (some ⟨w8.heap.size, 0, none⟩) 1 1)).run Tryz.prog (w8.alloc (.cells #[.int .u8 1] 5)) = .ok (.string ⟨#[1]⟩) (w8.alloc (.cells #[.int .u8 1] 5)) := conv1k 1 w8
        have hcat : 1 + S0.size ≤ 9223372036854775807 := by have := HSZ.out; have := HS1.out; omega
        go_wp2_with fail
        go_ret
        refine ⟨?_, only_alloc HG8.out _⟩
        rw [show preRc 1 = [1] from rfl, ← pre_cat, HS0.out]
        rfl
      · subst hk
        have hcv : (convert 52 9 (.slice (some ⟨w8.heap.size, 0, none⟩) 1 1)).run Tryz.prog (w8.alloc (.cells #[.int .u8 2] 5)) = .ok (.string ⟨#[2]⟩) (w8.alloc (.cells #[.int .u8 2] 5)) := conv1k 2 w8
        have hcat : 1 + S0.size ≤ 9223372036854775807 := by have := HSZ.out; have := HS1.out; omega
        go_wp2_with fail
        go_ret
        refine ⟨?_, only_alloc HG8.out _⟩
        rw [show preRc 2 = [2] from rfl, ← pre_cat, HS0.out]
        rfl
      · subst hk
        have hcv : (convert 52 9 (.slice (some ⟨w8.heap.size, 0, none⟩) 1 1)).run Tryz.prog (w8.alloc (.cells #[.int .u8 4] 5)) = .ok (.string ⟨#[4]⟩) (w8.alloc (.cells #[.int .u8 4] 5)) := conv1k 4 w8
        have hcat : 1 + S0.size ≤ 9223372036854775807 := by have := HSZ.out; have := HS1.out; omega
        go_wp2_with fail
        go_ret
        refine ⟨?_, only_alloc HG8.out _⟩
        rw [show preRc 4 = [4] from rfl, ← pre_cat, HS0.out]
        rfl
      · subst hk
        have hcv : (convert 52 9 (.slice (some ⟨w8.heap.size, 0, none⟩) 1 1)).run Tryz.prog (w8.alloc (.cells #[.int .u8 126] 5)) = .ok (.string ⟨#[126]⟩) (w8.alloc (.cells #[.int .u8 126] 5)) := conv1k 126 w8
        have hcat : 1 + S0.size ≤ 9223372036854775807 := by have := HSZ.out; have := HS1.out; omega
        go_wp2_with fail
        go_ret
        refine ⟨?_, only_alloc HG8.out _⟩
        rw [show preRc 126 = [126] from rfl, ← pre_cat, HS0.out]
        rfl
end Go.Proofs.YthalohloneojlaaGreatDoor
/- Receipts, the document's: Encode. -/
namespace Go.Proofs.YthalohloneojlaaGreatDoor
open Go.RowKit Go.Shelf
set_option linter.unusedVariables false
set_option linter.unusedSimpArgs false

def encDL (x : Rcp) : List UInt8 := if checkRc x ≠ 0 then [] else preRc x.kind ++ bytesF (itemRc x)
theorem encDL_put {x : Rcp} (hok : x.Ok) (hf : FewP x) : encDL x = putRcL x := by
  unfold encDL
  by_cases h : checkRc x = 0
  · rw [if_neg (by rw [h]; simp), (putRc_0 h).2, encB_ok (item_okR hok hf h)]
    rfl
  · rw [if_pos h]
    unfold putRcL
    rw [if_pos h]
set_option maxRecDepth 100000 in
set_option maxHeartbeats 2000000 in
theorem encodeD_any (x : Rcp) (hok : x.Ok) (B : Nat) (A : Option Addr) (n c : Nat) (w : World) (h : LogsR B w x.logs A n) (hB : B ≤ w.heap.size) (hn : n ≤ 9223372036854775807) :
    Calls Tryz.prog 13 #[.agg (rcpC x (.slice A n c))] w fun e w' => e = .returned (.tuple #[.string ⟨(encDL x).toArray⟩, .int .i64 (checkRc x)]) ∧ w.grownBy w' none := by
  have hG := only_alloc (World.grownBy.refl w none) (.cells (rcpC x (.slice A n c)) 25)
  have hb := Blk.new w 25 (rcpC x (.slice A n c))
  have HCK := Lib.hid (fun (V : World) (hV : w.grownBy V none) => checkD_any x B A n c V (h.grown hV hB) (Nat.le_trans hB hV.size) hn)
  have HBY := Lib.hid (fun (hc : checkRc x = 0) (V : World) (hV : w.grownBy V none) => bytesD_any x hok hc B A n c V (h.grown hV hB) (Nat.le_trans hB hV.size) hn)
  obtain ⟨E, hE⟩ : ∃ E, checkRc x = E := ⟨_, rfl⟩
  obtain ⟨S, hS⟩ : ∃ S, (⟨(encDL x).toArray⟩ : ByteArray) = S := ⟨_, rfl⟩
  have hS2 : S = if E ≠ 0 then ⟨#[]⟩ else (⟨(preRc x.kind ++ bytesF (itemRc x)).toArray⟩ : ByteArray) := by
    rw [← hS, ← hE]
    unfold encDL
    split <;> rfl
  have hck := fun V hV => HCK.out V hV
  have hby := fun hc V hV => HBY.out hc V hV
  rw [hE] at hck hby
  rw [hE, hS]
  have HCK := Lib.hid hck; have HBY := Lib.hid hby; have HS := Lib.hid hS2
  have HG := Lib.hid hG
  obtain ⟨g, hg⟩ : ∃ g, w.heap.size = g := ⟨_, rfl⟩
  rw [hg] at hb
  have HB := Lib.hid hb
  clear h hB hG hb hck hby hS2 hS hE
  unfold rcpC at *
  go_enter Tryz.func13, Tryz.ntmps13
  go_upto_region 1 with (fail)
  clear hg
  generalize w.alloc (.cells #[.int .i64 x.kind, .bool x.status, .int .u64 (x.gas : Int), .slice A n c, .bool x.full, .int .u64 (x.nonce : Int), .int .u64 (x.version : Int)] 25) = w1 at *
  have c0 := HB.out.cell 0; have c1 := HB.out.cell 1; have c2 := HB.out.cell 2; have c3 := HB.out.cell 3; have c4 := HB.out.cell 4; have c5 := HB.out.cell 5; have c6 := HB.out.cell 6
  simp only [List.getElem?_toArray, List.getElem?_cons_zero, List.getElem?_cons_succ] at c0 c1 c2 c3 c4 c5 c6
  go_wp2_with fail
  refine (HCK.out w1 HG.out).mono ?_
  rintro e w2 ⟨rfl, hg2⟩
  have HG2 := Lib.hid (grown_self HG.out hg2 (by simp)); have HB2 := Lib.hid (HB.out.grown hg2 (by simp))
  have c0 := HB2.out.cell 0; have c1 := HB2.out.cell 1; have c2 := HB2.out.cell 2; have c3 := HB2.out.cell 3; have c4 := HB2.out.cell 4; have c5 := HB2.out.cell 5; have c6 := HB2.out.cell 6
  simp only [List.getElem?_toArray, List.getElem?_cons_zero, List.getElem?_cons_succ] at c0 c1 c2 c3 c4 c5 c6
  clear hg2 HG HB HCK
  by_cases h0 : E = 0
  · subst h0
    have hS : S = (⟨(preRc x.kind ++ bytesF (itemRc x)).toArray⟩ : ByteArray) := HS.out.trans (if_neg (by simp))
    have hby := fun V hV => HBY.out rfl V hV
    rw [← hS] at hby
    have HBY2 := Lib.hid hby
    clear hby HBY HS hS
    go_wp2_with fail
    refine (HBY2.out w2 HG2.out).mono ?_
    rintro e w3 ⟨rfl, hg3⟩
    have HG3 := Lib.hid (grown_self HG2.out hg3 (by simp))
    clear hg3 HBY2 c0 c1 c2 c3 c4 c5 c6
    go_wp2_with fail
    go_ret2
    exact ⟨rfl, HG3.out⟩
  · have q : (E != 0) = true := by simpa using h0
    obtain rfl : S = ⟨#[]⟩ := HS.out.trans (if_pos h0)
    clear h0 HS HBY
    go_wp2_with fail
    go_ret2
    exact ⟨rfl, HG2.out⟩
end Go.Proofs.YthalohloneojlaaGreatDoor
/- Two rows of texts compared (rescriptref02.Texts). -/
namespace Go.Proofs.YthalohloneojlaaGreatDoor
open Go.RowKit Go.Shelf
set_option linter.unusedVariables false
set_option linter.unusedSimpArgs false

theorem rows_ext {xs ys : List ByteArray} (h : xs.length = ys.length) (hi : ∀ i, i < xs.length → xs.getD i .empty = ys.getD i .empty) : xs = ys := by
  apply List.ext_getElem h
  intro i h1 h2
  have := hi i h1
  rwa [List.getD_eq_getElem?_getD, List.getD_eq_getElem?_getD, List.getElem?_eq_getElem h1, List.getElem?_eq_getElem h2] at this

set_option maxRecDepth 100000 in
set_option maxHeartbeats 1000000 in
theorem textsR_any (B B' : Nat) (A A' : Option Addr) (n m c d : Nat) (xs ys : List ByteArray) (w : World) (h : Reads w B 1 A n (xs.map Value.string)) (h' : Reads w B' 1 A' m (ys.map Value.string)) (hn : n ≤ 281474976710656) (hm : m ≤ 281474976710656) :
    Calls Tryz.prog 29 #[.slice A n c, .slice A' m d] w fun e w' => e = .returned (.bool (decide (xs = ys))) ∧ Below w.heap.size w w' := by
  have hl : xs.length = n := by have := h.1; simpa using this
  have hl' : ys.length = m := by have := h'.1; simpa using this
  by_cases hnm : n = m
  · subst hnm
    have HL := Lib.hid hl; have HL' := Lib.hid hl'
    clear hl hl'
    go_enter Tryz.func29, Tryz.ntmps29
    go_wp2_with fail
    go_loopw [5] (fun i wr => ∃ k : Nat, i = .int .i64 k ∧ k ≤ n ∧ (∃ q, wr = w.drewN q) ∧ Hid (∀ i : Nat, i < k → xs.getD i .empty = ys.getD i .empty)) (fun i _ => n - (intOf i).toNat)
    case atStart => exact ⟨0, rfl, by omega, ⟨0, rfl⟩, Lib.hid (by intro i h1; omega)⟩
    case round =>
      obtain ⟨k, rfl, hk, ⟨q, rfl⟩, h2⟩ := hrel
      have h2' := Lib.hid h2.out
      by_cases hlt : k < n
      · obtain ⟨g, off, rfl, hg, hc⟩ := Reads.vals Value.string .empty h hlt
        obtain ⟨g', off', rfl, hg', hc'⟩ := Reads.vals Value.string .empty h' hlt
        have c0 := hc k hlt; have d0 := hc' k hlt
        have q1 : (k : Int) < (n : Int) := by omega
        obtain ⟨x, hx⟩ : ∃ x, xs.getD k .empty = x := ⟨_, rfl⟩
        obtain ⟨y, hy⟩ : ∃ y, ys.getD k .empty = y := ⟨_, rfl⟩
        rw [hx] at c0
        rw [hy] at d0
        have HX := Lib.hid hx; have HY := Lib.hid hy
        clear h h' h2 hc hc' hx hy
        by_cases hxy : x = y
        · have heq : (x.toList == y.toList) = true := by rw [hxy]; simp
          have hne : (x.toList != y.toList) = false := by rw [bne, heq]; rfl
          have HE := Lib.hid hxy
          clear hxy
          go_wp2_with fail
          go_quiet (fail)
          go_wp2_with fail
          refine ⟨⟨k + 1, by go_num, by omega, ⟨_, rfl⟩, Lib.hid fun i hi => ?_⟩, by simp [intOf]; omega⟩
          by_cases hik : i = k
          · rw [hik, HX.out, HY.out, HE.out]
          · exact h2'.out i (by omega)
        · have heq := str_ne hxy
          have hne : (x.toList != y.toList) = true := by rw [bne, heq]; rfl
          have hf : decide (xs = ys) = false := decide_eq_false (fun e => hxy (by rw [← HX.out, ← HY.out, e]))
          have HF := Lib.hid hf
          clear hxy hf
          go_wp2_with fail
          go_quiet (fail)
          go_wp2_with fail
          go_ret
          exact ⟨by rw [HF.out]; rfl, below_drewN (below_drewN (Below.refl _ w) _) _⟩
      · obtain rfl : k = n := by omega
        have hfin : decide ((k : Int) < (k : Int)) = false := by simp
        have heq : decide (xs = ys) = true := decide_eq_true (rows_ext (by rw [HL.out, HL'.out]) fun i hi => h2'.out i (by have := HL.out; omega))
        have HF := Lib.hid heq
        clear heq
        go_wp2_with fail
        go_ret
        exact ⟨by rw [HF.out]; rfl, below_drewN (Below.refl _ w) _⟩
  · have g1 : ((n : Int) != (m : Int)) = true := by simp; omega
    have hf : decide (xs = ys) = false := decide_eq_false (fun e => hnm (by rw [← hl, ← hl', e]))
    rw [hf]
    clear hf hnm hl hl'
    go_enter Tryz.func29, Tryz.ntmps29
    go_wp2_with fail
    go_ret
    exact ⟨rfl, Below.refl _ w⟩
end Go.Proofs.YthalohloneojlaaGreatDoor
/- Receipts, the document's: Same.  Printed by wip/genRdF.py -/
namespace Go.Proofs.YthalohloneojlaaGreatDoor
open Go.RowKit Go.Shelf
set_option linter.unusedVariables false
set_option linter.unusedSimpArgs false

set_option maxRecDepth 100000 in
set_option maxHeartbeats 8000000 in
theorem sameD_any (x y : Rcp) (B B' : Nat) (A A' : Option Addr) (n m c d : Nat) (w : World) (h : LogsR B w x.logs A n) (h' : LogsR B' w y.logs A' m) (hB : B ≤ w.heap.size) (hB' : B' ≤ w.heap.size) (hn : n ≤ 9223372036854775807) (hm : m ≤ 9223372036854775807)
    (hx : ∀ l ∈ x.logs, l.topics.length ≤ 281474976710656) (hy : ∀ l ∈ y.logs, l.topics.length ≤ 281474976710656) :
    Calls Tryz.prog 14 #[.agg (rcpC x (.slice A n c)), .agg (rcpC y (.slice A' m d))] w fun e w' => e = .returned (.bool (eqB x y)) ∧ w.grownBy w' none := by
  obtain ⟨xk, xs, xg, xl, xf, xn, xv⟩ := x
  obtain ⟨yk, ys, yg, yl, yf, yn, yv⟩ := y
  simp only [rcpC] at *
  have hG := only_alloc (only_alloc (World.grownBy.refl w none) (.cells #[.int .i64 xk, .bool xs, .int .u64 (xg : Int), .slice A n c, .bool xf, .int .u64 (xn : Int), .int .u64 (xv : Int)] 25)) (.cells #[.int .i64 yk, .bool ys, .int .u64 (yg : Int), .slice A' m d, .bool yf, .int .u64 (yn : Int), .int .u64 (yv : Int)] 25)
  have hb1 := (Blk.new w 25 #[.int .i64 xk, .bool xs, .int .u64 (xg : Int), .slice A n c, .bool xf, .int .u64 (xn : Int), .int .u64 (xv : Int)]).alloc (.cells #[.int .i64 yk, .bool ys, .int .u64 (yg : Int), .slice A' m d, .bool yf, .int .u64 (yn : Int), .int .u64 (yv : Int)] 25)
  have hb2 := Blk.new (w.alloc (.cells #[.int .i64 xk, .bool xs, .int .u64 (xg : Int), .slice A n c, .bool xf, .int .u64 (xn : Int), .int .u64 (xv : Int)] 25)) 25 #[.int .i64 yk, .bool ys, .int .u64 (yg : Int), .slice A' m d, .bool yf, .int .u64 (yn : Int), .int .u64 (yv : Int)]
  rw [World.size_alloc] at hb2
  have HR := Lib.hid (fun (V : World) (hV : w.grownBy V none) => h.grown hV hB); have HR' := Lib.hid (fun (V : World) (hV : w.grownBy V none) => h'.grown hV hB')
  have HBB := Lib.hid hB; have HBB' := Lib.hid hB'
  have HL := Lib.hid h.1; have HL' := Lib.hid h'.1
  have HX := Lib.hid hx; have HY := Lib.hid hy
  have HG := Lib.hid hG
  obtain ⟨g, hg⟩ : ∃ g, w.heap.size = g := ⟨_, rfl⟩
  rw [hg] at hb1 hb2
  obtain ⟨R, hR⟩ : ∃ R, eqB (Rcp.mk xk xs xg xl xf xn xv) (Rcp.mk yk ys yg yl yf yn yv) = R := ⟨_, rfl⟩
  rw [hR]
  have hne : ¬ (xk = yk ∧ xs = ys ∧ xg = yg ∧ xf = yf ∧ xn = yn ∧ xv = yv ∧ n = m) → R = false := by
    intro hh
    rw [← hR]
    apply eqB_f
    intro e
    injection e with e1 e2 e3 e4 e5 e6 e7
    exact hh ⟨e1, e2, e3, e5, e6, e7, by rw [← h.1, ← h'.1, e4]⟩
  have heq : (xk = yk ∧ xs = ys ∧ xg = yg ∧ xf = yf ∧ xn = yn ∧ xv = yv) → R = eqB xl yl := by
    rintro ⟨rfl, rfl, rfl, rfl, rfl, rfl⟩
    rw [← hR]
    by_cases hh : xl = yl
    · rw [eqB_t hh, eqB_t (by rw [hh])]
    · rw [eqB_f hh, eqB_f (by intro e; injection e; exact hh (by assumption))]
  have HNE := Lib.hid hne; have HEQ := Lib.hid heq; have HW := Lib.hid hg
  clear h h' hB hB' hG hR hne heq hx hy
  go_enter Tryz.func14, Tryz.ntmps14
  go_upto_region 1 with (fail)
  clear hg
  generalize (w.alloc (.cells #[.int .i64 xk, .bool xs, .int .u64 (xg : Int), .slice A n c, .bool xf, .int .u64 (xn : Int), .int .u64 (xv : Int)] 25)).alloc (.cells #[.int .i64 yk, .bool ys, .int .u64 (yg : Int), .slice A' m d, .bool yf, .int .u64 (yn : Int), .int .u64 (yv : Int)] 25) = w1 at *
  have c0 := hb1.cell 0; have c1 := hb1.cell 1; have c2 := hb1.cell 2; have c3 := hb1.cell 3; have c4 := hb1.cell 4; have c5 := hb1.cell 5; have c6 := hb1.cell 6
  have d0 := hb2.cell 0; have d1 := hb2.cell 1; have d2 := hb2.cell 2; have d3 := hb2.cell 3; have d4 := hb2.cell 4; have d5 := hb2.cell 5; have d6 := hb2.cell 6
  simp only [List.getElem?_toArray, List.getElem?_cons_zero, List.getElem?_cons_succ] at c0 c1 c2 c3 c4 c5 c6 d0 d1 d2 d3 d4 d5 d6
  have HB1 := Lib.hid hb1; have HB2 := Lib.hid hb2
  clear hb1 hb2
  by_cases h1 : xk = yk
  rotate_left
  · have q1 : (xk != yk) = true := by simp; omega
    obtain rfl := HNE.out (by simp [h1])
    clear h1 HEQ HNE
    go_wp2_with fail
    go_ret
    exact ⟨rfl, HG.out⟩
  have q1 : (xk != yk) = false := by simp [h1]
  by_cases h2 : xs = ys
  rotate_left
  · obtain rfl := HNE.out (by simp [h2])
    clear HEQ HNE
    cases xs <;> cases ys
    · exact absurd rfl h2
    · clear h2
      go_wp2_with fail
      go_ret
      exact ⟨rfl, HG.out⟩
    · clear h2
      go_wp2_with fail
      go_ret
      exact ⟨rfl, HG.out⟩
    · exact absurd rfl h2
  have q2 : True := trivial
  subst h2
  by_cases h3 : xg = yg
  rotate_left
  · have q3 : ((xg : Int) != (yg : Int)) = true := by simp; omega
    obtain rfl := HNE.out (by simp [h3])
    clear h3 HEQ HNE
    go_wp2_with fail
    go_ret
    exact ⟨rfl, HG.out⟩
  have q3 : ((xg : Int) != (yg : Int)) = false := by simp [h3]
  by_cases h4 : xf = yf
  rotate_left
  · obtain rfl := HNE.out (by simp [h4])
    clear HEQ HNE
    cases xf <;> cases yf
    · exact absurd rfl h4
    · clear h4
      go_wp2_with fail
      go_ret
      exact ⟨rfl, HG.out⟩
    · clear h4
      go_wp2_with fail
      go_ret
      exact ⟨rfl, HG.out⟩
    · exact absurd rfl h4
  have q4 : True := trivial
  subst h4
  by_cases h5 : xn = yn
  rotate_left
  · have q5 : ((xn : Int) != (yn : Int)) = true := by simp; omega
    obtain rfl := HNE.out (by simp [h5])
    clear h5 HEQ HNE
    go_wp2_with fail
    go_ret
    exact ⟨rfl, HG.out⟩
  have q5 : ((xn : Int) != (yn : Int)) = false := by simp [h5]
  by_cases h6 : xv = yv
  rotate_left
  · have q6 : ((xv : Int) != (yv : Int)) = true := by simp; omega
    obtain rfl := HNE.out (by simp [h6])
    clear h6 HEQ HNE
    go_wp2_with fail
    go_ret
    exact ⟨rfl, HG.out⟩
  have q6 : ((xv : Int) != (yv : Int)) = false := by simp [h6]
  by_cases h7 : n = m
  rotate_left
  · have q7 : ((n : Int) != (m : Int)) = true := by simp; omega
    obtain rfl := HNE.out (by simp [h7])
    clear h7 HEQ HNE
    go_wp2_with fail
    go_ret
    exact ⟨rfl, HG.out⟩
  have q7 : ((n : Int) != (m : Int)) = false := by simp [h7]
  have hRE := HEQ.out ⟨h1, rfl, h3, rfl, h5, h6⟩
  subst h7
  have HRE := Lib.hid hRE
  clear h1 h3 h5 h6 HEQ HNE hRE
  go_wp2_with fail
  clear q1 q3 q5 q6 q7 c0 c1 c2 c4 c5 c6 d0 d1 d2 d4 d5 d6
  go_loopw [5] (fun i wr => ∃ k : Nat, i = .int .i64 k ∧ k ≤ n ∧ w1.grownBy wr none ∧ Hid (∀ i : Nat, i < k → xl.getD i LogV.none_ = yl.getD i LogV.none_)) (fun i _ => n - (intOf i).toNat)
  case atStart => exact ⟨0, rfl, by omega, World.grownBy.refl _ _, Lib.hid (by intro i h1; omega)⟩
  case round =>
    obtain ⟨k, rfl, hk, hgr, h2⟩ := hrel
    have H2 := Lib.hid h2.out
    have HGR := Lib.hid hgr
    have hb1 := HB1.out.grown hgr (by simp); have hb2 := HB2.out.grown hgr (by simp)
    have c3 := hb1.cell 3; have d3 := hb2.cell 3
    simp only [List.getElem?_toArray, List.getElem?_cons_zero, List.getElem?_cons_succ] at c3 d3
    by_cases hlt : k < n
    · have hwr := grown_self HG.out hgr (by simp)
      obtain ⟨qg, off, T, tc, l, rfl, hlk, a0, a1, a2, hr, hm1⟩ := (HR.out wr hwr).at_ hlt
      obtain ⟨qg', off', T', tc', l', rfl, hlk', b0, b1, b2, hr', hm1'⟩ := (HR'.out wr hwr).at_ hlt
      have q1 : (k : Int) < (n : Int) := by omega
      have hk0 : (0 : Int) ≤ (k : Int) := by omega
      have hmem : l ∈ xl := by rw [← hlk, List.getD_eq_getElem?_getD, List.getElem?_eq_getElem (by have := HL.out; omega)]; exact List.getElem_mem _
      have hmem' : l' ∈ yl := by rw [← hlk', List.getD_eq_getElem?_getD, List.getElem?_eq_getElem (by have := HL'.out; omega)]; exact List.getElem_mem _
      have htx := fun (V : World) (hV : wr.grownBy V none) => textsR_any B B' T T' l.topics.length l'.topics.length tc tc' l.topics l'.topics V (hr.grown hV (Nat.le_trans HBB.out hwr.size) (by simp)) (hr'.grown hV (Nat.le_trans HBB'.out hwr.size) (by simp)) (HX.out l hmem) (HY.out l' hmem')
      rw [eqB_dec] at htx
      obtain ⟨tb, htb⟩ : ∃ t, eqB l.topics l'.topics = t := ⟨_, rfl⟩
      rw [htb] at htx
      have HTX := Lib.hid htx; have HTB := Lib.hid htb; have HLK := Lib.hid hlk; have HLK' := Lib.hid hlk'; have HLT := Lib.hid hlt
      have hS : LogAt wr qg (off + k * 3) l T l.topics.length tc ∧ LogAt wr qg' (off' + k * 3) l' T' l'.topics.length tc' := ⟨⟨a0, a1, a2⟩, ⟨b0, b1, b2⟩⟩
      have hgu := World.grownBy.refl wr none
      clear hmem hmem' hr hr' hm1 hm1' hlk hlk' hlt hwr htx htb h2 hgr a0 a1 a2 b0 b1 b2
      generalize l.topics.length = tn at *
      generalize l'.topics.length = tn' at *
      go_upto_region 6 with (fail)
      have hSS : (LogAt wr qg (off + k * 3) l T tn tc ∧ LogAt wr qg' (off' + k * 3) l' T' tn' tc') ∧ Blk wr g 25 #[.int .i64 xk, .bool xs, .int .u64 (xg : Int), .slice (some ⟨qg, off, none⟩) n c, .bool xf, .int .u64 (xn : Int), .int .u64 (xv : Int)] ∧ Blk wr (g + 1) 25 #[.int .i64 yk, .bool xs, .int .u64 (yg : Int), .slice (some ⟨qg', off', none⟩) n d, .bool xf, .int .u64 (yn : Int), .int .u64 (yv : Int)] := ⟨hS, hb1, hb2⟩
      clear hS hb1 hb2 c3 d3
      refine wp_region_held (S := fun W => (LogAt W qg (off + k * 3) l T tn tc ∧ LogAt W qg' (off' + k * 3) l' T' tn' tc') ∧ Blk W g 25 #[.int .i64 xk, .bool xs, .int .u64 (xg : Int), .slice (some ⟨qg, off, none⟩) n c, .bool xf, .int .u64 (xn : Int), .int .u64 (xv : Int)] ∧ Blk W (g + 1) 25 #[.int .i64 yk, .bool xs, .int .u64 (yg : Int), .slice (some ⟨qg', off', none⟩) n d, .bool xf, .int .u64 (yn : Int), .int .u64 (yv : Int)]) (by kernel_rfl) ?_
      change wpAnyH _ _ _ _ _ _ _ _ wr.drew
      replace hSS := And.intro (And.intro (hSS.1.1.grown (only_drew (World.grownBy.refl wr none)) (by simp)) (hSS.1.2.grown (only_drew (World.grownBy.refl wr none)) (by simp))) (And.intro hSS.2.1.drew hSS.2.2.drew)
      replace hgu := only_drew hgu
      generalize wr.drew = u0 at *
      refine held_take (i := 0) (v := .pointer (some ⟨g, 3, none⟩)) (some 63) rfl (by kernel_rfl) (by kernel_rfl) (by kernel_rfl) (fun _ _ _ h => h) rfl (Or.inl ⟨by rfl, fun W hW => by go_simp⟩) hSS ?_
      simp only [Act.put, List.setIfInBounds_toArray, List.set_cons_zero, List.set_cons_succ]
      refine held_take (i := 1) (v := .slice (some ⟨qg, off, none⟩) n c) (some 64) rfl (by kernel_rfl) (by kernel_rfl) (by kernel_rfl) (fun _ _ _ h => h) rfl (Or.inl ⟨by rfl, fun W hW => by have p0 := hW.2.1.cell 3; simp only [List.getElem?_toArray, List.getElem?_cons_zero, List.getElem?_cons_succ] at p0; go_simp⟩) hSS ?_
      simp only [Act.put, List.setIfInBounds_toArray, List.set_cons_zero, List.set_cons_succ]
      refine held_take (i := 2) (v := .int .i64 (k : Int)) (some 65) rfl (by kernel_rfl) (by kernel_rfl) (by kernel_rfl) (fun _ _ _ h => h) rfl (Or.inl ⟨by rfl, fun W hW => by go_simp⟩) hSS ?_
      simp only [Act.put, List.setIfInBounds_toArray, List.set_cons_zero, List.set_cons_succ]
      refine held_take (i := 3) (v := .pointer (some ⟨qg, off + k * 3, none⟩)) (some 66) rfl (by kernel_rfl) (by kernel_rfl) (by kernel_rfl) (fun _ _ _ h => h) rfl (Or.inl ⟨by rfl, fun W hW => by go_simp⟩) hSS ?_
      simp only [Act.put, List.setIfInBounds_toArray, List.set_cons_zero, List.set_cons_succ]
      refine held_take (i := 4) (v := .pointer (some ⟨qg, off + k * 3 + 1, none⟩)) (some 67) rfl (by kernel_rfl) (by kernel_rfl) (by kernel_rfl) (fun _ _ _ h => h) rfl (Or.inl ⟨by rfl, fun W hW => by go_simp⟩) hSS ?_
      simp only [Act.put, List.setIfInBounds_toArray, List.set_cons_zero, List.set_cons_succ]
      refine held_take (i := 5) (v := .slice T tn tc) (some 68) rfl (by kernel_rfl) (by kernel_rfl) (by kernel_rfl) (fun _ _ _ h => h) rfl (Or.inl ⟨by rfl, fun W hW => by have p1 := hW.1.1.2.1; go_simp⟩) hSS ?_
      simp only [Act.put, List.setIfInBounds_toArray, List.set_cons_zero, List.set_cons_succ]
      refine held_take (i := 6) (v := .pointer (some ⟨g + 1, 3, none⟩)) (some 69) rfl (by kernel_rfl) (by kernel_rfl) (by kernel_rfl) (fun _ _ _ h => h) rfl (Or.inl ⟨by rfl, fun W hW => by go_simp⟩) hSS ?_
      simp only [Act.put, List.setIfInBounds_toArray, List.set_cons_zero, List.set_cons_succ]
      refine held_take (i := 7) (v := .slice (some ⟨qg', off', none⟩) n d) (some 70) rfl (by kernel_rfl) (by kernel_rfl) (by kernel_rfl) (fun _ _ _ h => h) rfl (Or.inl ⟨by rfl, fun W hW => by have p0 := hW.2.2.cell 3; simp only [List.getElem?_toArray, List.getElem?_cons_zero, List.getElem?_cons_succ] at p0; go_simp⟩) hSS ?_
      simp only [Act.put, List.setIfInBounds_toArray, List.set_cons_zero, List.set_cons_succ]
      refine held_take (i := 8) (v := .int .i64 (k : Int)) (some 71) rfl (by kernel_rfl) (by kernel_rfl) (by kernel_rfl) (fun _ _ _ h => h) rfl (Or.inl ⟨by rfl, fun W hW => by go_simp⟩) hSS ?_
      simp only [Act.put, List.setIfInBounds_toArray, List.set_cons_zero, List.set_cons_succ]
      refine held_take (i := 9) (v := .pointer (some ⟨qg', off' + k * 3, none⟩)) (some 72) rfl (by kernel_rfl) (by kernel_rfl) (by kernel_rfl) (fun _ _ _ h => h) rfl (Or.inl ⟨by rfl, fun W hW => by go_simp⟩) hSS ?_
      simp only [Act.put, List.setIfInBounds_toArray, List.set_cons_zero, List.set_cons_succ]
      refine held_take (i := 10) (v := .pointer (some ⟨qg', off' + k * 3 + 1, none⟩)) (some 73) rfl (by kernel_rfl) (by kernel_rfl) (by kernel_rfl) (fun _ _ _ h => h) rfl (Or.inl ⟨by rfl, fun W hW => by go_simp⟩) hSS ?_
      simp only [Act.put, List.setIfInBounds_toArray, List.set_cons_zero, List.set_cons_succ]
      refine held_take (i := 11) (v := .slice T' tn' tc') (some 74) rfl (by kernel_rfl) (by kernel_rfl) (by kernel_rfl) (fun _ _ _ h => h) rfl (Or.inl ⟨by rfl, fun W hW => by have p1 := hW.1.2.2.1; go_simp⟩) hSS ?_
      simp only [Act.put, List.setIfInBounds_toArray, List.set_cons_zero, List.set_cons_succ]
      refine held_one (i := 12) (by kernel_rfl) ?_
      refine held_enter (some 75) rfl rfl 29 #[.slice T tn tc, .slice T' tn' tc'] (exec_call2 _ (.tmp 68) (.tmp 74) _ rfl _ _ rfl rfl rfl) rfl ((HTX.out u0 hgu).mono ?_)
      rintro e u1 ⟨rfl, hbel⟩
      have hg := grown_of_below hbel
      replace hSS := And.intro (And.intro (hSS.1.1.grown hg (by simp)) (hSS.1.2.grown hg (by simp))) (And.intro (hSS.2.1.grown hg (by simp)) (hSS.2.2.grown hg (by simp)))
      replace hgu := grown_self hgu hg (by simp)
      refine ⟨_, rfl, hSS, ?_⟩
      simp only [Act.put, List.setIfInBounds_toArray, List.set_cons_zero, List.set_cons_succ]
      refine held_one (i := 13) (by kernel_rfl) ?_
      refine held_value (some 6) rfl rfl (.bool tb) (by go_simp <;> rfl) rfl hSS ?_
      simp only [Act.put, List.setIfInBounds_toArray, List.set_cons_zero, List.set_cons_succ]
      refine wpAnyH_done (by kernel_rfl) ?_ _
      have a0 := hSS.1.1.1; have a2 := hSS.1.1.2.2; have b0 := hSS.1.2.1; have b2 := hSS.1.2.2.2
      have c3 := hSS.2.1.cell 3; have d3 := hSS.2.2.cell 3
      simp only [List.getElem?_toArray, List.getElem?_cons_zero, List.getElem?_cons_succ] at c3 d3
      have HGU := Lib.hid (grown_self HGR.out hgu (by simp))
      clear hbel hg hgu hSS HTX HGR
      obtain ⟨la, lt, ld⟩ := l
      obtain ⟨la', lt', ld'⟩ := l'
      simp only at a0 a2 b0 b2 HTB
      have hdiff : (LogV.mk la lt ld ≠ LogV.mk la' lt' ld') → R = false := fun hne => by
        rw [HRE.out]
        exact eqB_f (fun e => hne (by rw [← HLK.out, ← HLK'.out, e]))
      have HDF := Lib.hid hdiff
      clear hdiff
      by_cases p1 : la = la'
      rotate_left
      · have e1 : (la.toList == la'.toList) = false := str_ne p1
        have e1n : (la.toList != la'.toList) = true := by rw [bne, e1]; rfl
        obtain rfl := HDF.out (by intro e; injection e; exact p1 (by assumption))
        clear p1 HDF HLK HLK' HTB
        go_wp2_with fail
        go_quiet (fail)
        go_wp2_with fail
        go_ret
        exact ⟨rfl, grown_of_below (below_drewN (below_of_grown (grown_self HG.out HGU.out (by simp))) _)⟩
      subst p1
      have e1 : (la.toList == la.toList) = true := by simp
      have e1n : (la.toList != la.toList) = false := by rw [bne, e1]; rfl
      by_cases p2 : ld = ld'
      rotate_left
      · have e2 : (ld.toList == ld'.toList) = false := str_ne p2
        have e2n : (ld.toList != ld'.toList) = true := by rw [bne, e2]; rfl
        obtain rfl := HDF.out (by intro e; injection e; exact p2 (by assumption))
        clear p2 HDF HLK HLK' HTB
        go_wp2_with fail
        go_quiet (fail)
        go_wp2_with fail
        go_ret
        exact ⟨rfl, grown_of_below (below_drewN (below_of_grown (grown_self HG.out HGU.out (by simp))) _)⟩
      subst p2
      have e2 : (ld.toList == ld.toList) = true := by simp
      have e2n : (ld.toList != ld.toList) = false := by rw [bne, e2]; rfl
      cases tb with
      | false =>
        obtain rfl := HDF.out (by intro e; injection e with _ e2 _; have := HTB.out; rw [eqB_t e2] at this; cases this)
        clear HDF HLK HLK' HTB
        go_wp2_with fail
        go_quiet (fail)
        go_wp2_with fail
        go_ret
        exact ⟨rfl, grown_of_below (below_drewN (below_of_grown (grown_self HG.out HGU.out (by simp))) _)⟩
      | true =>
        have HTE : Hid (lt = lt') := Lib.hid (eqB_iff.1 HTB.out)
        clear HDF HTB
        go_wp2_with fail
        go_quiet (fail)
        go_wp2_with fail
        refine ⟨⟨k + 1, by go_num, by have := HLT.out; omega, grown_of_below (below_drewN (below_of_grown HGU.out) _), Lib.hid fun i hi => ?_⟩, by have := HLT.out; simp [intOf]; omega⟩
        by_cases hik : i = k
        · rw [hik, HLK.out, HLK'.out, HTE.out]
        · exact H2.out i (by omega)
    · have q1 : decide ((k : Int) < (n : Int)) = false := decide_eq_false (by omega)
      have he : xl = yl := logs_ext (by have h1 := HL.out; have h2 := HL'.out; omega) fun i hi => H2.out i (by have h1 := HL.out; omega)
      obtain rfl : R = true := by rw [HRE.out]; exact eqB_t he
      clear he h2 hb1 hb2
      go_wp2_with fail
      go_ret
      exact ⟨rfl, grown_self HG.out HGR.out (by simp)⟩
end Go.Proofs.YthalohloneojlaaGreatDoor
