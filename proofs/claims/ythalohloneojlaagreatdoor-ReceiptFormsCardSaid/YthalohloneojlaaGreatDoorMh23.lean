/- Merged: RcpS. -/
import Derived.Test.YthalohloneojlaaGreatDoorMh21
/- Receipts: the law of the forms. -/
namespace Go.Proofs.YthalohloneojlaaGreatDoor
open Go.RowKit Go.Shelf
set_option linter.unusedVariables false
set_option linter.unusedSimpArgs false

/-- the three forms of one receipt -/
def rc0 (x : Rcp) : Rcp := ⟨x.kind, x.status, x.gas, x.logs, false, 0, 0⟩
def rc1 (x : Rcp) (m : Nat) : Rcp := ⟨x.kind, x.status, x.gas, x.logs, true, m, 0⟩
def rc2 (x : Rcp) (m : Nat) : Rcp := ⟨x.kind, x.status, x.gas, x.logs, true, m, 1⟩
theorem chk_forms (x : Rcp) (m : Nat) : (checkRc (rc0 x) ≠ 0 → checkRc (rc1 x m) ≠ 0 ∧ checkRc (rc2 x m) ≠ 0) ∧ (checkRc (rc0 x) = 0 → x.kind ≠ 126 → checkRc (rc1 x m) = 2 ∧ checkRc (rc2 x m) = 2) ∧ (checkRc (rc0 x) = 0 → x.kind = 126 → checkRc (rc1 x m) = 0 ∧ checkRc (rc2 x m) = 0) := by
  unfold checkRc rc0 rc1 rc2
  simp only
  generalize isKind x.kind = a
  generalize x.logs.any oddLog = b
  generalize decide (16 < x.logs.length) = c
  generalize x.logs.any bigLog = d
  generalize decide (m = 0) = f
  by_cases hk : x.kind = 126
  · simp only [hk]
    cases a <;> cases b <;> cases c <;> cases d <;> cases f <;> simp [chkE]
  · simp only [hk, not_false_iff, ne_eq]
    cases a <;> cases b <;> cases c <;> cases d <;> cases f <;> simp [chkE]
theorem headL_mono {n m : Nat} (h : n ≤ m) (hm : m < 65536) : (headL n 192).length ≤ (headL m 192).length := by
  by_cases h1 : n < 56
  · rw [show headL n 192 = [UInt8.ofNat (192 + n)] from if_pos h1]
    have := (headL_len m 192 (by omega)).2
    simpa using this
  · rw [show headL n 192 = UInt8.ofNat (192 + 55 + (beN n).length) :: beN n from if_neg h1, show headL m 192 = UInt8.ofNat (192 + 55 + (beN m).length) :: beN m from if_neg (by omega)]
    simp only [List.length_cons]
    by_cases h2 : m < 256
    · rw [beN_small n (by omega) (by omega), beN_small m (by omega) h2]; simp
    · rw [beN_two m (by omega) hm]
      by_cases h3 : n < 256
      · rw [beN_small n (by omega) h3]; simp
      · rw [beN_two n (by omega) (by omega)]; simp
theorem bytes_more (xs : List Itm) (t : Itm) (ht : wtF t ≤ 1000000000) (h : wtF (.mk true ⟨#[]⟩ (xs ++ [t])) ≤ 60000) : (bytesF (.mk true ⟨#[]⟩ xs)).length < (bytesF (.mk true ⟨#[]⟩ (xs ++ [t]))).length := by
  have hl := bytesF_len _ (show wtF (.mk true ⟨#[]⟩ (xs ++ [t])) ≤ 1000000000 by omega)
  obtain ⟨z, l, hz, _⟩ := bytesF_first t ht
  rw [bytesF_eq] at hl
  rw [bytesF_eq, bytesF_eq]
  simp only [Itm.list, Itm.items, if_true] at hl ⊢
  rw [List.length_append] at hl
  rw [List.length_append, List.length_append, bytesL_snoc, List.length_append]
  rw [bytesL_snoc, List.length_append] at hl
  have hm := headL_mono (n := (bytesL xs).length) (m := (bytesL xs).length + (bytesF t).length) (by omega) (by omega)
  rw [hz] at hm ⊢
  simp only [List.length_cons] at hm ⊢
  omega
theorem put_len {x : Rcp} (hok : x.Ok) (hf : FewP x) (h : checkRc x = 0) : (putRcL x).length = (if x.kind = 0 then 0 else 1) + (bytesF (itemRc x)).length := by
  rw [(putRc_0 h).2, encB_ok (item_okR hok hf h), List.length_append]
  split <;> simp
theorem forms_len {x : Rcp} {m : Nat} (hok : x.Ok) (hm : m < 18446744073709551616) (hf : FewP x) (hk : x.kind = 126) (h : checkRc (rc0 x) = 0) : (putRcL (rc0 x)).length < (putRcL (rc1 x m)).length ∧ (putRcL (rc1 x m)).length < (putRcL (rc2 x m)).length := by
  obtain ⟨h1, h2⟩ := (chk_forms x m).2.2 h hk
  have o0 : (rc0 x).Ok := ⟨hok.1, by show (0 : Nat) < _; decide, by show (0 : Nat) < _; decide⟩
  have o1 : (rc1 x m).Ok := ⟨hok.1, hm, by show (0 : Nat) < _; decide⟩
  have o2 : (rc2 x m).Ok := ⟨hok.1, hm, by show (1 : Nat) < _; decide⟩
  rw [put_len o0 hf h, put_len o1 hf h1, put_len o2 hf h2]
  have w1 := wt_rcF o1 hf h1
  have w2 := wt_rcF o2 hf h2
  have n1 := numT_len m hm
  have n2 := numT_len 1 (by decide)
  have i0 : itemRc (rc0 x) = .mk true ⟨#[]⟩ [txt (yesS x.status), txt (numT x.gas), .mk true ⟨#[]⟩ (x.logs.map logIt)] := by
    unfold itemRc
    rw [show formRc (rc0 x) = 0 from if_pos rfl]
    generalize txt (numT (rc0 x).nonce) = a
    generalize txt (numT (rc0 x).version) = b
    rfl
  have i1 : itemRc (rc1 x m) = .mk true ⟨#[]⟩ ([txt (yesS x.status), txt (numT x.gas), .mk true ⟨#[]⟩ (x.logs.map logIt)] ++ [txt (numT m)]) := by
    unfold itemRc
    rw [show formRc (rc1 x m) = 1 by unfold formRc rc1; rw [if_neg (by simp), if_pos rfl]]
    show Itm.mk true ⟨#[]⟩ ([txt (yesS x.status), txt (numT x.gas), .mk true ⟨#[]⟩ (x.logs.map logIt)] ++ [txt (numT m), txt (numT 0)].take 1) = _
    generalize txt (numT m) = a
    generalize txt (numT 0) = b
    rfl
  have i2 : itemRc (rc2 x m) = .mk true ⟨#[]⟩ (([txt (yesS x.status), txt (numT x.gas), .mk true ⟨#[]⟩ (x.logs.map logIt)] ++ [txt (numT m)]) ++ [txt (numT 1)]) := by
    unfold itemRc
    rw [show formRc (rc2 x m) = 2 by unfold formRc rc2; rw [if_neg (by simp), if_neg (by simp)]]
    show Itm.mk true ⟨#[]⟩ ([txt (yesS x.status), txt (numT x.gas), .mk true ⟨#[]⟩ (x.logs.map logIt)] ++ [txt (numT m), txt (numT 1)].take 2) = _
    generalize txt (numT m) = a
    generalize txt (numT 1) = b
    rfl
  rw [i1] at w1
  rw [i2] at w2
  have b1 := bytes_more _ _ (by rw [wtT]; omega) (Nat.le_trans w1 (by omega))
  have b2 := bytes_more _ _ (by rw [wtT]; omega) (Nat.le_trans w2 (by omega))
  rw [← i0, ← i1] at b1
  rw [← i1, ← i2] at b2
  constructor
  · show (if x.kind = 0 then 0 else 1) + _ < (if x.kind = 0 then 0 else 1) + _
    omega
  · show (if x.kind = 0 then 0 else 1) + _ < (if x.kind = 0 then 0 else 1) + _
    omega
set_option maxRecDepth 100000 in
set_option maxHeartbeats 4000000 in
theorem rforms_law (x : Rcp) (m : Nat) (hok : x.Ok) (hm : m < 18446744073709551616) (A : Option Addr) (n c : Nat) (w : World) (h : LogsR w.heap.size w x.logs A n) (hn : n ≤ 9223372036854775807) (hv : ErrLaid w) :
    Calls Tryz.prog 7 #[.agg (rcpC x (.slice A n c)), .int .u64 (m : Int)] w fun e w' => e = .returned (.bool true) ∧ w.grownBy w' none := by
  have o0 : (rc0 x).Ok := ⟨hok.1, by show (0 : Nat) < _; decide, by show (0 : Nat) < _; decide⟩
  have o1 : (rc1 x m).Ok := ⟨hok.1, hm, by show (0 : Nat) < _; decide⟩
  have o2 : (rc2 x m).Ok := ⟨hok.1, hm, by show (1 : Nat) < _; decide⟩
  have hG := only_alloc (World.grownBy.refl w none) (.cells (rcpC x (.slice A n c)) 25)
  have hb := Blk.new w 25 (rcpC x (.slice A n c))
  have HLR := Lib.hid (fun (V : World) (hV : w.grownBy V none) => h.grown hV (Nat.le_refl _))
  have HFW := Lib.hid (fun (V : World) (hV : w.grownBy V none) => fewRc_any x w.heap.size A n c V (HLR.out V hV) hV.size hn)
  have HE0 := Lib.hid (fun (V : World) (hV : w.grownBy V none) => encodeRc_any (rc0 x) o0 w.heap.size A n c V (HLR.out V hV) hV.size hn)
  have HE1 := Lib.hid (fun (V : World) (hV : w.grownBy V none) => encodeRc_any (rc1 x m) o1 w.heap.size A n c V (HLR.out V hV) hV.size hn)
  have HE2 := Lib.hid (fun (V : World) (hV : w.grownBy V none) => encodeRc_any (rc2 x m) o2 w.heap.size A n c V (HLR.out V hV) hV.size hn)
  have HF0 := Lib.hid (fun (V : World) => (formRc_any (rc0 x) (.slice A n c) ⟨_, _, _, rfl⟩ V : Calls _ _ _ _ fun e w' => e = .returned (.int .i64 0) ∧ V.grownBy w' none))
  have hf1 := fun (V : World) => formRc_any (rc1 x m) (.slice A n c) ⟨_, _, _, rfl⟩ V
  have hf2 := fun (V : World) => formRc_any (rc2 x m) (.slice A n c) ⟨_, _, _, rfl⟩ V
  rw [show formRc (rc1 x m) = 1 by unfold formRc rc1; rw [if_neg (by simp), if_pos rfl]] at hf1
  rw [show formRc (rc2 x m) = 2 by unfold formRc rc2; rw [if_neg (by simp), if_neg (by simp)]] at hf2
  have HF1 := Lib.hid hf1; have HF2 := Lib.hid hf2
  have HWK := Lib.hid (fun (V : World) (hV : w.grownBy V none) => worksRc_any V (hv.kept hV (by simp)))
  have HPE := Lib.hid (fun (hf : FewP x) => (⟨put_err o0 hf, put_err o1 hf, put_err o2 hf, fun hk h0 => forms_len hok hm hf hk h0⟩ : putRcE (rc0 x) = checkRc (rc0 x) ∧ putRcE (rc1 x m) = checkRc (rc1 x m) ∧ putRcE (rc2 x m) = checkRc (rc2 x m) ∧ (x.kind = 126 → checkRc (rc0 x) = 0 → (putRcL (rc0 x)).length < (putRcL (rc1 x m)).length ∧ (putRcL (rc1 x m)).length < (putRcL (rc2 x m)).length)))
  have HCF := Lib.hid (chk_forms x m)
  have HG := Lib.hid hG
  obtain ⟨g, hg⟩ : ∃ g, w.heap.size = g := ⟨_, rfl⟩
  rw [hg] at hb
  have HB := Lib.hid hb
  have HW := Lib.hid hg
  clear h hG hv hb hf1 hf2 o0 o1 o2
  unfold rcpC at *
  simp only [rc0, rc1, rc2] at HE0 HE1 HE2 HF0 HF1 HF2
  go_enter Tryz.func7, Tryz.ntmps7
  go_upto_region 1 with (fail)
  clear hg
  generalize w.alloc (.cells #[.int .i64 x.kind, .bool x.status, .int .u64 (x.gas : Int), .slice A n c, .bool x.full, .int .u64 (x.nonce : Int), .int .u64 (x.version : Int)] 25) = w1 at *
  go_wp2_with fail
  refine (HWK.out w1 HG.out).mono ?_
  rintro e w2 ⟨rfl, hg2⟩
  have HG2 := Lib.hid (grown_self HG.out hg2 (by simp)); have HB2 := Lib.hid (HB.out.grown hg2 (by simp))
  have c0 := HB2.out.cell 0; have c1 := HB2.out.cell 1; have c2 := HB2.out.cell 2; have c3 := HB2.out.cell 3; have c4 := HB2.out.cell 4; have c5 := HB2.out.cell 5; have c6 := HB2.out.cell 6
  simp only [List.getElem?_toArray, List.getElem?_cons_zero, List.getElem?_cons_succ] at c0 c1 c2 c3 c4 c5 c6
  clear hg2 HG HB HWK
  go_wp2_with fail
  refine (HFW.out w2 HG2.out).mono ?_
  rintro e w3 ⟨⟨b, rfl, hfew⟩, hg3⟩
  have HG3 := Lib.hid (grown_self HG2.out hg3 (by simp)); have HB3 := Lib.hid (HB2.out.grown hg3 (by simp))
  obtain ⟨y4, y5, y6, hb3⟩ : ∃ y4 y5 y6, Blk w3 g 25 #[.int .i64 x.kind, .bool x.status, .int .u64 (x.gas : Int), .slice A n c, y4, y5, y6] := ⟨_, _, _, HB3.out⟩
  have c0 := hb3.cell 0; have c1 := hb3.cell 1; have c2 := hb3.cell 2; have c3 := hb3.cell 3; have c4 := hb3.cell 4; have c5 := hb3.cell 5; have c6 := hb3.cell 6
  have f4 := hb3.frozen 4; have f5 := hb3.frozen 5; have f6 := hb3.frozen 6
  simp only [List.getElem?_toArray, List.getElem?_cons_zero, List.getElem?_cons_succ] at c0 c1 c2 c3 c4 c5 c6
  have HF := Lib.hid hfew
  have HB3 := Lib.hid hb3
  clear hg3 HG2 HB2 HFW hfew hb3
  cases b with
  | false =>
    go_wp2_with fail
    go_ret
    exact ⟨rfl, HG3.out⟩
  | true =>
    have hpe := HPE.out (HF.out rfl)
    have HPP := Lib.hid hpe
    clear HF hpe HPE
    have hB10 : Blk (((w3.setCell ⟨g, 4, none⟩ (.bool false)).setCell ⟨g, 5, none⟩ (.int .u64 0)).setCell ⟨g, 6, none⟩ (.int .u64 0)) g 25 #[.int .i64 x.kind, .bool x.status, .int .u64 (x.gas : Int), .slice A n c, .bool false, .int .u64 0, .int .u64 0] := by
      simpa using ((HB3.out.set_ 4 (.bool false)).set_ 5 (.int .u64 0)).set_ 6 (.int .u64 0)
    have HG10 := Lib.hid (only_set (only_set (only_set HG3.out (p := ⟨g, 4, none⟩) (by have := HW.out; show w.heap.size ≤ g; omega) (.bool false)) (p := ⟨g, 5, none⟩) (by have := HW.out; show w.heap.size ≤ g; omega) (.int .u64 0)) (p := ⟨g, 6, none⟩) (by have := HW.out; show w.heap.size ≤ g; omega) (.int .u64 0))
    have HB10 := Lib.hid hB10
    clear hB10 HG3 HB3
    go_upto_region 10 with (fail)
    generalize ((w3.setCell ⟨g, 4, none⟩ (.bool false)).setCell ⟨g, 5, none⟩ (.int .u64 0)).setCell ⟨g, 6, none⟩ (.int .u64 0) = w10 at *
    clear c0 c1 c2 c3 c4 c5 c6 f4 f5 f6
    have c0 := HB10.out.cell 0; have c1 := HB10.out.cell 1; have c2 := HB10.out.cell 2; have c3 := HB10.out.cell 3; have c4 := HB10.out.cell 4; have c5 := HB10.out.cell 5; have c6 := HB10.out.cell 6
    simp only [List.getElem?_toArray, List.getElem?_cons_zero, List.getElem?_cons_succ] at c0 c1 c2 c3 c4 c5 c6
    have hy := (Blk.new w10 25 #[.int .i64 x.kind, .bool x.status, .int .u64 (x.gas : Int), .slice A n c, .bool true, .int .u64 (m : Int), .int .u64 0]).alloc (.cells #[.int .i64 x.kind, .bool x.status, .int .u64 (x.gas : Int), .slice A n c, .bool true, .int .u64 (m : Int), .int .u64 1] 25)
    have hz := Blk.new (w10.alloc (.cells #[.int .i64 x.kind, .bool x.status, .int .u64 (x.gas : Int), .slice A n c, .bool true, .int .u64 (m : Int), .int .u64 0] 25)) 25 #[.int .i64 x.kind, .bool x.status, .int .u64 (x.gas : Int), .slice A n c, .bool true, .int .u64 (m : Int), .int .u64 1]
    rw [World.size_alloc] at hz
    have hgg := only_alloc (only_alloc (World.grownBy.refl w10 none) (.cells #[.int .i64 x.kind, .bool x.status, .int .u64 (x.gas : Int), .slice A n c, .bool true, .int .u64 (m : Int), .int .u64 0] 25)) (.cells #[.int .i64 x.kind, .bool x.status, .int .u64 (x.gas : Int), .slice A n c, .bool true, .int .u64 (m : Int), .int .u64 1] 25)
    have HG15 := Lib.hid (grown_self HG10.out hgg (by simp)); have HX15 := Lib.hid (HB10.out.grown hgg (by simp))
    obtain ⟨yb, hyb⟩ : ∃ b, w10.heap.size = b := ⟨_, rfl⟩
    rw [hyb] at hy hz
    have HY15 := Lib.hid hy; have HZ15 := Lib.hid hz
    clear hy hz hgg HG10 HB10
    go_upto_region 15 with (fail)
    clear hyb c0 c1 c2 c3 c4 c5 c6
    generalize (w10.alloc (.cells #[.int .i64 x.kind, .bool x.status, .int .u64 (x.gas : Int), .slice A n c, .bool true, .int .u64 (m : Int), .int .u64 0] 25)).alloc (.cells #[.int .i64 x.kind, .bool x.status, .int .u64 (x.gas : Int), .slice A n c, .bool true, .int .u64 (m : Int), .int .u64 1] 25) = w15 at *
    obtain ⟨p0, p1, p2, p3⟩ := HPP.out
    obtain ⟨S0, hS0⟩ : ∃ S, (⟨(putRcL (rc0 x)).toArray⟩ : ByteArray) = S := ⟨_, rfl⟩
    obtain ⟨S1, hS1⟩ : ∃ S, (⟨(putRcL (rc1 x m)).toArray⟩ : ByteArray) = S := ⟨_, rfl⟩
    obtain ⟨S2, hS2⟩ : ∃ S, (⟨(putRcL (rc2 x m)).toArray⟩ : ByteArray) = S := ⟨_, rfl⟩
    have hlen : ∀ l : List UInt8, (⟨l.toArray⟩ : ByteArray).size = l.length := fun l => by show l.toArray.size = _; simp
    have hsz : x.kind = 126 → checkRc (rc0 x) = 0 → S0.size < S1.size ∧ S1.size < S2.size := fun a b => by
      rw [← hS0, ← hS1, ← hS2, hlen, hlen, hlen]
      exact p3 a b
    have he0 := fun V hV => HE0.out V hV
    have he1 := fun V hV => HE1.out V hV
    have he2 := fun V hV => HE2.out V hV
    rw [show putRcE (⟨x.kind, x.status, x.gas, x.logs, false, 0, 0⟩ : Rcp) = checkRc (rc0 x) from p0, show (⟨(putRcL (⟨x.kind, x.status, x.gas, x.logs, false, 0, 0⟩ : Rcp)).toArray⟩ : ByteArray) = S0 from hS0] at he0
    rw [show putRcE (⟨x.kind, x.status, x.gas, x.logs, true, m, 0⟩ : Rcp) = checkRc (rc1 x m) from p1, show (⟨(putRcL (⟨x.kind, x.status, x.gas, x.logs, true, m, 0⟩ : Rcp)).toArray⟩ : ByteArray) = S1 from hS1] at he1
    rw [show putRcE (⟨x.kind, x.status, x.gas, x.logs, true, m, 1⟩ : Rcp) = checkRc (rc2 x m) from p2, show (⟨(putRcL (⟨x.kind, x.status, x.gas, x.logs, true, m, 1⟩ : Rcp)).toArray⟩ : ByteArray) = S2 from hS2] at he2
    have hcf := HCF.out
    generalize checkRc (rc0 x) = E0 at *
    generalize checkRc (rc1 x m) = E1 at *
    generalize checkRc (rc2 x m) = E2 at *
    have HE0 := Lib.hid he0; have HE1 := Lib.hid he1; have HE2 := Lib.hid he2; have HSZ := Lib.hid hsz; have HCF := Lib.hid hcf
    clear he0 he1 he2 hsz hcf p0 p1 p2 p3 HPP hS0 hS1 hS2 hlen
    have c0 := HX15.out.cell 0; have c1 := HX15.out.cell 1; have c2 := HX15.out.cell 2; have c3 := HX15.out.cell 3; have c4 := HX15.out.cell 4; have c5 := HX15.out.cell 5; have c6 := HX15.out.cell 6
    simp only [List.getElem?_toArray, List.getElem?_cons_zero, List.getElem?_cons_succ] at c0 c1 c2 c3 c4 c5 c6
    go_wp2_with fail
    refine (HE0.out w15 HG15.out).mono ?_
    rintro e w16 ⟨rfl, hg16⟩
    have HG16 := Lib.hid (grown_self HG15.out hg16 (by simp)); have HX16 := Lib.hid (HX15.out.grown hg16 (by simp)); have HY16 := Lib.hid (HY15.out.grown hg16 (by simp)); have HZ16 := Lib.hid (HZ15.out.grown hg16 (by simp))
    clear hg16 HG15 HX15 HY15 HZ15 HE0 c0 c1 c2 c3 c4 c5 c6
    have c0 := HY16.out.cell 0; have c1 := HY16.out.cell 1; have c2 := HY16.out.cell 2; have c3 := HY16.out.cell 3; have c4 := HY16.out.cell 4; have c5 := HY16.out.cell 5; have c6 := HY16.out.cell 6
    simp only [List.getElem?_toArray, List.getElem?_cons_zero, List.getElem?_cons_succ] at c0 c1 c2 c3 c4 c5 c6
    go_wp2_with fail
    refine (HE1.out w16 HG16.out).mono ?_
    rintro e w17 ⟨rfl, hg17⟩
    have HG17 := Lib.hid (grown_self HG16.out hg17 (by simp)); have HX17 := Lib.hid (HX16.out.grown hg17 (by simp)); have HY17 := Lib.hid (HY16.out.grown hg17 (by simp)); have HZ17 := Lib.hid (HZ16.out.grown hg17 (by simp))
    clear hg17 HG16 HX16 HY16 HZ16 HE1 c0 c1 c2 c3 c4 c5 c6
    have c0 := HZ17.out.cell 0; have c1 := HZ17.out.cell 1; have c2 := HZ17.out.cell 2; have c3 := HZ17.out.cell 3; have c4 := HZ17.out.cell 4; have c5 := HZ17.out.cell 5; have c6 := HZ17.out.cell 6
    simp only [List.getElem?_toArray, List.getElem?_cons_zero, List.getElem?_cons_succ] at c0 c1 c2 c3 c4 c5 c6
    go_wp2_with fail
    refine (HE2.out w17 HG17.out).mono ?_
    rintro e w18 ⟨rfl, hg18⟩
    have HG18 := Lib.hid (grown_self HG17.out hg18 (by simp)); have HX18 := Lib.hid (HX17.out.grown hg18 (by simp)); have HY18 := Lib.hid (HY17.out.grown hg18 (by simp)); have HZ18 := Lib.hid (HZ17.out.grown hg18 (by simp))
    clear hg18 HG17 HX17 HY17 HZ17 HE2 c0 c1 c2 c3 c4 c5 c6
    have c0 := HX18.out.cell 0; have c1 := HX18.out.cell 1; have c2 := HX18.out.cell 2; have c3 := HX18.out.cell 3; have c4 := HX18.out.cell 4; have c5 := HX18.out.cell 5; have c6 := HX18.out.cell 6
    simp only [List.getElem?_toArray, List.getElem?_cons_zero, List.getElem?_cons_succ] at c0 c1 c2 c3 c4 c5 c6
    by_cases h0 : E0 = 0
    rotate_left
    · obtain ⟨a, b⟩ := HCF.out.1 h0
      have q0 : (E0 != 0) = true := by simpa using h0
      have q1 : (E1 != 0) = true := by simpa using a
      have q2 : (E2 != 0) = true := by simpa using b
      clear a b h0 HCF HSZ
      go_wp2_with fail
      go_ret
      exact ⟨rfl, HG18.out⟩
    · by_cases hk : x.kind = 126
      rotate_left
      · obtain ⟨rfl, rfl⟩ := HCF.out.2.1 h0 hk
        subst h0
        have q1 : (x.kind != 126) = true := by simpa using hk
        clear hk HCF HSZ
        go_wp2_with fail
        go_ret
        exact ⟨rfl, HG18.out⟩
      · obtain ⟨rfl, rfl⟩ := HCF.out.2.2 h0 hk
        obtain ⟨s1, s2⟩ := HSZ.out hk h0
        subst h0
        have q1 : (x.kind != 126) = false := by simp [hk]
        have q2 : (S0.size : Int) < (S1.size : Int) := by omega
        have q3 : (S1.size : Int) < (S2.size : Int) := by omega
        clear hk HCF HSZ s1 s2
        go_wp2_with fail
        refine (HF0.out w18).mono ?_
        rintro e w19 ⟨rfl, hg19⟩
        have HG19 := Lib.hid (grown_self HG18.out hg19 (by simp)); have HX19 := Lib.hid (HX18.out.grown hg19 (by simp)); have HY19 := Lib.hid (HY18.out.grown hg19 (by simp)); have HZ19 := Lib.hid (HZ18.out.grown hg19 (by simp))
        clear hg19 HG18 HX18 HY18 HZ18 HF0 c0 c1 c2 c3 c4 c5 c6
        have c0 := HY19.out.cell 0; have c1 := HY19.out.cell 1; have c2 := HY19.out.cell 2; have c3 := HY19.out.cell 3; have c4 := HY19.out.cell 4; have c5 := HY19.out.cell 5; have c6 := HY19.out.cell 6
        simp only [List.getElem?_toArray, List.getElem?_cons_zero, List.getElem?_cons_succ] at c0 c1 c2 c3 c4 c5 c6
        go_wp2_with fail
        refine (HF1.out w19).mono ?_
        rintro e w20 ⟨rfl, hg20⟩
        have HG20 := Lib.hid (grown_self HG19.out hg20 (by simp)); have HX20 := Lib.hid (HX19.out.grown hg20 (by simp)); have HY20 := Lib.hid (HY19.out.grown hg20 (by simp)); have HZ20 := Lib.hid (HZ19.out.grown hg20 (by simp))
        clear hg20 HG19 HX19 HY19 HZ19 HF1 c0 c1 c2 c3 c4 c5 c6
        have c0 := HZ20.out.cell 0; have c1 := HZ20.out.cell 1; have c2 := HZ20.out.cell 2; have c3 := HZ20.out.cell 3; have c4 := HZ20.out.cell 4; have c5 := HZ20.out.cell 5; have c6 := HZ20.out.cell 6
        simp only [List.getElem?_toArray, List.getElem?_cons_zero, List.getElem?_cons_succ] at c0 c1 c2 c3 c4 c5 c6
        go_wp2_with fail
        refine (HF2.out w20).mono ?_
        rintro e w21 ⟨rfl, hg21⟩
        have HG21 := Lib.hid (grown_self HG20.out hg21 (by simp)); have HX21 := Lib.hid (HX20.out.grown hg21 (by simp)); have HY21 := Lib.hid (HY20.out.grown hg21 (by simp)); have HZ21 := Lib.hid (HZ20.out.grown hg21 (by simp))
        clear hg21 HG20 HX20 HY20 HZ20 HF2 c0 c1 c2 c3 c4 c5 c6
        go_wp2_with fail
        go_ret
        exact ⟨rfl, HG21.out⟩
end Go.Proofs.YthalohloneojlaaGreatDoor
