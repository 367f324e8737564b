/- Merged: RcpS, RcpN2, RdA, RdB. -/
import Derived.Test.YthalohloneojlaaGreatDoorMh20
import Derived.Test.YthalohloneojlaaGreatDoorMh21
import Derived.Deep.DeepCutAuto
/- Receipts: the law of the forms. -/
namespace Go.Proofs.YthalohloneojlaaGreatDoor
open Go.RowKit Go.Shelf
set_option linter.unusedVariables false
set_option linter.unusedSimpArgs false

/-- the three forms of one receipt -/
def rc0 (x : Rcp) : Rcp := ⟨x.kind, x.status, x.gas, x.logs, false, 0, 0⟩
def rc1 (x : Rcp) (m : Nat) : Rcp := ⟨x.kind, x.status, x.gas, x.logs, true, m, 0⟩
def rc2 (x : Rcp) (m : Nat) : Rcp := ⟨x.kind, x.status, x.gas, x.logs, true, m, 1⟩
theorem chk_forms (x : Rcp) (m : Nat) : (checkRc (rc0 x) ≠ 0 → checkRc (rc1 x m) ≠ 0 ∧ checkRc (rc2 x m) ≠ 0) ∧ (checkRc (rc0 x) = 0 → x.kind ≠ 126 → checkRc (rc1 x m) = 2 ∧ checkRc (rc2 x m) = 2) ∧ (checkRc (rc0 x) = 0 → x.kind = 126 → checkRc (rc1 x m) = 0 ∧ checkRc (rc2 x m) = 0) := by
  unfold checkRc rc0 rc1 rc2
  simp only
  generalize isKind x.kind = a
  generalize x.logs.any oddLog = b
  generalize decide (16 < x.logs.length) = c
  generalize x.logs.any bigLog = d
  generalize decide (m = 0) = f
  by_cases hk : x.kind = 126
  · simp only [hk]
    cases a <;> cases b <;> cases c <;> cases d <;> cases f <;> simp [chkE]
  · simp only [hk, not_false_iff, ne_eq]
    cases a <;> cases b <;> cases c <;> cases d <;> cases f <;> simp [chkE]
theorem headL_mono {n m : Nat} (h : n ≤ m) (hm : m < 65536) : (headL n 192).length ≤ (headL m 192).length := by
  by_cases h1 : n < 56
  · rw [show headL n 192 = [UInt8.ofNat (192 + n)] from if_pos h1]
    have := (headL_len m 192 (by omega)).2
    simpa using this
  · rw [show headL n 192 = UInt8.ofNat (192 + 55 + (beN n).length) :: beN n from if_neg h1, show headL m 192 = UInt8.ofNat (192 + 55 + (beN m).length) :: beN m from if_neg (by omega)]
    simp only [List.length_cons]
    by_cases h2 : m < 256
    · rw [beN_small n (by omega) (by omega), beN_small m (by omega) h2]; simp
    · rw [beN_two m (by omega) hm]
      by_cases h3 : n < 256
      · rw [beN_small n (by omega) h3]; simp
      · rw [beN_two n (by omega) (by omega)]; simp
theorem bytes_more (xs : List Itm) (t : Itm) (ht : wtF t ≤ 1000000000) (h : wtF (.mk true ⟨#[]⟩ (xs ++ [t])) ≤ 60000) : (bytesF (.mk true ⟨#[]⟩ xs)).length < (bytesF (.mk true ⟨#[]⟩ (xs ++ [t]))).length := by
  have hl := bytesF_len _ (show wtF (.mk true ⟨#[]⟩ (xs ++ [t])) ≤ 1000000000 by omega)
  obtain ⟨z, l, hz, _⟩ := bytesF_first t ht
  rw [bytesF_eq] at hl
  rw [bytesF_eq, bytesF_eq]
  simp only [Itm.list, Itm.items, if_true] at hl ⊢
  rw [List.length_append] at hl
  rw [List.length_append, List.length_append, bytesL_snoc, List.length_append]
  rw [bytesL_snoc, List.length_append] at hl
  have hm := headL_mono (n := (bytesL xs).length) (m := (bytesL xs).length + (bytesF t).length) (by omega) (by omega)
  rw [hz] at hm ⊢
  simp only [List.length_cons] at hm ⊢
  omega
theorem put_len {x : Rcp} (hok : x.Ok) (hf : FewP x) (h : checkRc x = 0) : (putRcL x).length = (if x.kind = 0 then 0 else 1) + (bytesF (itemRc x)).length := by
  rw [(putRc_0 h).2, encB_ok (item_okR hok hf h), List.length_append]
  split <;> simp
theorem forms_len {x : Rcp} {m : Nat} (hok : x.Ok) (hm : m < 18446744073709551616) (hf : FewP x) (hk : x.kind = 126) (h : checkRc (rc0 x) = 0) : (putRcL (rc0 x)).length < (putRcL (rc1 x m)).length ∧ (putRcL (rc1 x m)).length < (putRcL (rc2 x m)).length := by
  obtain ⟨h1, h2⟩ := (chk_forms x m).2.2 h hk
  have o0 : (rc0 x).Ok := ⟨hok.1, by show (0 : Nat) < _; decide, by show (0 : Nat) < _; decide⟩
  have o1 : (rc1 x m).Ok := ⟨hok.1, hm, by show (0 : Nat) < _; decide⟩
  have o2 : (rc2 x m).Ok := ⟨hok.1, hm, by show (1 : Nat) < _; decide⟩
  rw [put_len o0 hf h, put_len o1 hf h1, put_len o2 hf h2]
  have w1 := wt_rcF o1 hf h1
  have w2 := wt_rcF o2 hf h2
  have n1 := numT_len m hm
  have n2 := numT_len 1 (by decide)
  have i0 : itemRc (rc0 x) = .mk true ⟨#[]⟩ [txt (yesS x.status), txt (numT x.gas), .mk true ⟨#[]⟩ (x.logs.map logIt)] := by
    unfold itemRc
    rw [show formRc (rc0 x) = 0 from if_pos rfl]
    generalize txt (numT (rc0 x).nonce) = a
    generalize txt (numT (rc0 x).version) = b
    rfl
  have i1 : itemRc (rc1 x m) = .mk true ⟨#[]⟩ ([txt (yesS x.status), txt (numT x.gas), .mk true ⟨#[]⟩ (x.logs.map logIt)] ++ [txt (numT m)]) := by
    unfold itemRc
    rw [show formRc (rc1 x m) = 1 by unfold formRc rc1; rw [if_neg (by simp), if_pos rfl]]
    show Itm.mk true ⟨#[]⟩ ([txt (yesS x.status), txt (numT x.gas), .mk true ⟨#[]⟩ (x.logs.map logIt)] ++ [txt (numT m), txt (numT 0)].take 1) = _
    generalize txt (numT m) = a
    generalize txt (numT 0) = b
    rfl
  have i2 : itemRc (rc2 x m) = .mk true ⟨#[]⟩ (([txt (yesS x.status), txt (numT x.gas), .mk true ⟨#[]⟩ (x.logs.map logIt)] ++ [txt (numT m)]) ++ [txt (numT 1)]) := by
    unfold itemRc
    rw [show formRc (rc2 x m) = 2 by unfold formRc rc2; rw [if_neg (by simp), if_neg (by simp)]]
    show Itm.mk true ⟨#[]⟩ ([txt (yesS x.status), txt (numT x.gas), .mk true ⟨#[]⟩ (x.logs.map logIt)] ++ [txt (numT m), txt (numT 1)].take 2) = _
    generalize txt (numT m) = a
    generalize txt (numT 1) = b
    rfl
  rw [i1] at w1
  rw [i2] at w2
  have b1 := bytes_more _ _ (by rw [wtT]; omega) (Nat.le_trans w1 (by omega))
  have b2 := bytes_more _ _ (by rw [wtT]; omega) (Nat.le_trans w2 (by omega))
  rw [← i0, ← i1] at b1
  rw [← i1, ← i2] at b2
  constructor
  · show (if x.kind = 0 then 0 else 1) + _ < (if x.kind = 0 then 0 else 1) + _
    omega
  · show (if x.kind = 0 then 0 else 1) + _ < (if x.kind = 0 then 0 else 1) + _
    omega
set_option maxRecDepth 100000 in
set_option maxHeartbeats 4000000 in
theorem rforms_law (x : Rcp) (m : Nat) (hok : x.Ok) (hm : m < 18446744073709551616) (A : Option Addr) (n c : Nat) (w : World) (h : LogsR w.heap.size w x.logs A n) (hn : n ≤ 9223372036854775807) (hv : ErrLaid w) :
    Calls Tryz.prog 7 #[.agg (rcpC x (.slice A n c)), .int .u64 (m : Int)] w fun e w' => e = .returned (.bool true) ∧ w.grownBy w' none := by
  have o0 : (rc0 x).Ok := ⟨hok.1, by show (0 : Nat) < _; decide, by show (0 : Nat) < _; decide⟩
  have o1 : (rc1 x m).Ok := ⟨hok.1, hm, by show (0 : Nat) < _; decide⟩
  have o2 : (rc2 x m).Ok := ⟨hok.1, hm, by show (1 : Nat) < _; decide⟩
  have hG := only_alloc (World.grownBy.refl w none) (.cells (rcpC x (.slice A n c)) 25)
  have hb := Blk.new w 25 (rcpC x (.slice A n c))
  have HLR := Lib.hid (fun (V : World) (hV : w.grownBy V none) => h.grown hV (Nat.le_refl _))
  have HFW := Lib.hid (fun (V : World) (hV : w.grownBy V none) => fewRc_any x w.heap.size A n c V (HLR.out V hV) hV.size hn)
  have HE0 := Lib.hid (fun (V : World) (hV : w.grownBy V none) => encodeRc_any (rc0 x) o0 w.heap.size A n c V (HLR.out V hV) hV.size hn)
  have HE1 := Lib.hid (fun (V : World) (hV : w.grownBy V none) => encodeRc_any (rc1 x m) o1 w.heap.size A n c V (HLR.out V hV) hV.size hn)
  have HE2 := Lib.hid (fun (V : World) (hV : w.grownBy V none) => encodeRc_any (rc2 x m) o2 w.heap.size A n c V (HLR.out V hV) hV.size hn)
  have HF0 := Lib.hid (fun (V : World) => (formRc_any (rc0 x) (.slice A n c) ⟨_, _, _, rfl⟩ V : Calls _ _ _ _ fun e w' => e = .returned (.int .i64 0) ∧ V.grownBy w' none))
  have hf1 := fun (V : World) => formRc_any (rc1 x m) (.slice A n c) ⟨_, _, _, rfl⟩ V
  have hf2 := fun (V : World) => formRc_any (rc2 x m) (.slice A n c) ⟨_, _, _, rfl⟩ V
  rw [show formRc (rc1 x m) = 1 by unfold formRc rc1; rw [if_neg (by simp), if_pos rfl]] at hf1
  rw [show formRc (rc2 x m) = 2 by unfold formRc rc2; rw [if_neg (by simp), if_neg (by simp)]] at hf2
  have HF1 := Lib.hid hf1; have HF2 := Lib.hid hf2
  have HWK := Lib.hid (fun (V : World) (hV : w.grownBy V none) => worksRc_any V (hv.kept hV (by simp)))
  have HPE := Lib.hid (fun (hf : FewP x) => (⟨put_err o0 hf, put_err o1 hf, put_err o2 hf, fun hk h0 => forms_len hok hm hf hk h0⟩ : putRcE (rc0 x) = checkRc (rc0 x) ∧ putRcE (rc1 x m) = checkRc (rc1 x m) ∧ putRcE (rc2 x m) = checkRc (rc2 x m) ∧ (x.kind = 126 → checkRc (rc0 x) = 0 → (putRcL (rc0 x)).length < (putRcL (rc1 x m)).length ∧ (putRcL (rc1 x m)).length < (putRcL (rc2 x m)).length)))
  have HCF := Lib.hid (chk_forms x m)
  have HG := Lib.hid hG
  obtain ⟨g, hg⟩ : ∃ g, w.heap.size = g := ⟨_, rfl⟩
  rw [hg] at hb
  have HB := Lib.hid hb
  have HW := Lib.hid hg
  clear h hG hv hb hf1 hf2 o0 o1 o2
  unfold rcpC at *
  simp only [rc0, rc1, rc2] at HE0 HE1 HE2 HF0 HF1 HF2
  go_enter Tryz.func7, Tryz.ntmps7
  go_upto_region 1 with (fail)
  clear hg
  generalize w.alloc (.cells #[.int .i64 x.kind, .bool x.status, .int .u64 (x.gas : Int), .slice A n c, .bool x.full, .int .u64 (x.nonce : Int), .int .u64 (x.version : Int)] 25) = w1 at *
  go_wp2_with fail
  refine (HWK.out w1 HG.out).mono ?_
  rintro e w2 ⟨rfl, hg2⟩
  have HG2 := Lib.hid (grown_self HG.out hg2 (by simp)); have HB2 := Lib.hid (HB.out.grown hg2 (by simp))
  have c0 := HB2.out.cell 0; have c1 := HB2.out.cell 1; have c2 := HB2.out.cell 2; have c3 := HB2.out.cell 3; have c4 := HB2.out.cell 4; have c5 := HB2.out.cell 5; have c6 := HB2.out.cell 6
  simp only [List.getElem?_toArray, List.getElem?_cons_zero, List.getElem?_cons_succ] at c0 c1 c2 c3 c4 c5 c6
  clear hg2 HG HB HWK
  go_wp2_with fail
  refine (HFW.out w2 HG2.out).mono ?_
  rintro e w3 ⟨⟨b, rfl, hfew⟩, hg3⟩
  have HG3 := Lib.hid (grown_self HG2.out hg3 (by simp)); have HB3 := Lib.hid (HB2.out.grown hg3 (by simp))
  obtain ⟨y4, y5, y6, hb3⟩ : ∃ y4 y5 y6, Blk w3 g 25 #[.int .i64 x.kind, .bool x.status, .int .u64 (x.gas : Int), .slice A n c, y4, y5, y6] := ⟨_, _, _, HB3.out⟩
  have c0 := hb3.cell 0; have c1 := hb3.cell 1; have c2 := hb3.cell 2; have c3 := hb3.cell 3; have c4 := hb3.cell 4; have c5 := hb3.cell 5; have c6 := hb3.cell 6
  have f4 := hb3.frozen 4; have f5 := hb3.frozen 5; have f6 := hb3.frozen 6
  simp only [List.getElem?_toArray, List.getElem?_cons_zero, List.getElem?_cons_succ] at c0 c1 c2 c3 c4 c5 c6
  have HF := Lib.hid hfew
  have HB3 := Lib.hid hb3
  clear hg3 HG2 HB2 HFW hfew hb3
  cases b with
  | false =>
    go_wp2_with fail
    go_ret
    exact ⟨rfl, HG3.out⟩
  | true =>
    have hpe := HPE.out (HF.out rfl)
    have HPP := Lib.hid hpe
    clear HF hpe HPE
    have hB10 : Blk (((w3.setCell ⟨g, 4, none⟩ (.bool false)).setCell ⟨g, 5, none⟩ (.int .u64 0)).setCell ⟨g, 6, none⟩ (.int .u64 0)) g 25 #[.int .i64 x.kind, .bool x.status, .int .u64 (x.gas : Int), .slice A n c, .bool false, .int .u64 0, .int .u64 0] := by
      simpa using ((HB3.out.set_ 4 (.bool false)).set_ 5 (.int .u64 0)).set_ 6 (.int .u64 0)
    have HG10 := Lib.hid (only_set (only_set (only_set HG3.out (p := ⟨g, 4, none⟩) (by have := HW.out; show w.heap.size ≤ g; omega) (.bool false)) (p := ⟨g, 5, none⟩) (by have := HW.out; show w.heap.size ≤ g; omega) (.int .u64 0)) (p := ⟨g, 6, none⟩) (by have := HW.out; show w.heap.size ≤ g; omega) (.int .u64 0))
    have HB10 := Lib.hid hB10
    clear hB10 HG3 HB3
    go_upto_region 10 with (fail)
    generalize ((w3.setCell ⟨g, 4, none⟩ (.bool false)).setCell ⟨g, 5, none⟩ (.int .u64 0)).setCell ⟨g, 6, none⟩ (.int .u64 0) = w10 at *
    clear c0 c1 c2 c3 c4 c5 c6 f4 f5 f6
    have c0 := HB10.out.cell 0; have c1 := HB10.out.cell 1; have c2 := HB10.out.cell 2; have c3 := HB10.out.cell 3; have c4 := HB10.out.cell 4; have c5 := HB10.out.cell 5; have c6 := HB10.out.cell 6
    simp only [List.getElem?_toArray, List.getElem?_cons_zero, List.getElem?_cons_succ] at c0 c1 c2 c3 c4 c5 c6
    have hy := (Blk.new w10 25 #[.int .i64 x.kind, .bool x.status, .int .u64 (x.gas : Int), .slice A n c, .bool true, .int .u64 (m : Int), .int .u64 0]).alloc (.cells #[.int .i64 x.kind, .bool x.status, .int .u64 (x.gas : Int), .slice A n c, .bool true, .int .u64 (m : Int), .int .u64 1] 25)
    have hz := Blk.new (w10.alloc (.cells #[.int .i64 x.kind, .bool x.status, .int .u64 (x.gas : Int), .slice A n c, .bool true, .int .u64 (m : Int), .int .u64 0] 25)) 25 #[.int .i64 x.kind, .bool x.status, .int .u64 (x.gas : Int), .slice A n c, .bool true, .int .u64 (m : Int), .int .u64 1]
    rw [World.size_alloc] at hz
    have hgg := only_alloc (only_alloc (World.grownBy.refl w10 none) (.cells #[.int .i64 x.kind, .bool x.status, .int .u64 (x.gas : Int), .slice A n c, .bool true, .int .u64 (m : Int), .int .u64 0] 25)) (.cells #[.int .i64 x.kind, .bool x.status, .int .u64 (x.gas : Int), .slice A n c, .bool true, .int .u64 (m : Int), .int .u64 1] 25)
    have HG15 := Lib.hid (grown_self HG10.out hgg (by simp)); have HX15 := Lib.hid (HB10.out.grown hgg (by simp))
    obtain ⟨yb, hyb⟩ : ∃ b, w10.heap.size = b := ⟨_, rfl⟩
    rw [hyb] at hy hz
    have HY15 := Lib.hid hy; have HZ15 := Lib.hid hz
    clear hy hz hgg HG10 HB10
    go_upto_region 15 with (fail)
    clear hyb c0 c1 c2 c3 c4 c5 c6
    generalize (w10.alloc (.cells #[.int .i64 x.kind, .bool x.status, .int .u64 (x.gas : Int), .slice A n c, .bool true, .int .u64 (m : Int), .int .u64 0] 25)).alloc (.cells #[.int .i64 x.kind, .bool x.status, .int .u64 (x.gas : Int), .slice A n c, .bool true, .int .u64 (m : Int), .int .u64 1] 25) = w15 at *
    obtain ⟨p0, p1, p2, p3⟩ := HPP.out
    obtain ⟨S0, hS0⟩ : ∃ S, (⟨(putRcL (rc0 x)).toArray⟩ : ByteArray) = S := ⟨_, rfl⟩
    obtain ⟨S1, hS1⟩ : ∃ S, (⟨(putRcL (rc1 x m)).toArray⟩ : ByteArray) = S := ⟨_, rfl⟩
    obtain ⟨S2, hS2⟩ : ∃ S, (⟨(putRcL (rc2 x m)).toArray⟩ : ByteArray) = S := ⟨_, rfl⟩
    have hlen : ∀ l : List UInt8, (⟨l.toArray⟩ : ByteArray).size = l.length := fun l => by show l.toArray.size = _; simp
    have hsz : x.kind = 126 → checkRc (rc0 x) = 0 → S0.size < S1.size ∧ S1.size < S2.size := fun a b => by
      rw [← hS0, ← hS1, ← hS2, hlen, hlen, hlen]
      exact p3 a b
    have he0 := fun V hV => HE0.out V hV
    have he1 := fun V hV => HE1.out V hV
    have he2 := fun V hV => HE2.out V hV
    rw [show putRcE (⟨x.kind, x.status, x.gas, x.logs, false, 0, 0⟩ : Rcp) = checkRc (rc0 x) from p0, show (⟨(putRcL (⟨x.kind, x.status, x.gas, x.logs, false, 0, 0⟩ : Rcp)).toArray⟩ : ByteArray) = S0 from hS0] at he0
    rw [show putRcE (⟨x.kind, x.status, x.gas, x.logs, true, m, 0⟩ : Rcp) = checkRc (rc1 x m) from p1, show (⟨(putRcL (⟨x.kind, x.status, x.gas, x.logs, true, m, 0⟩ : Rcp)).toArray⟩ : ByteArray) = S1 from hS1] at he1
    rw [show putRcE (⟨x.kind, x.status, x.gas, x.logs, true, m, 1⟩ : Rcp) = checkRc (rc2 x m) from p2, show (⟨(putRcL (⟨x.kind, x.status, x.gas, x.logs, true, m, 1⟩ : Rcp)).toArray⟩ : ByteArray) = S2 from hS2] at he2
    have hcf := HCF.out
    generalize checkRc (rc0 x) = E0 at *
    generalize checkRc (rc1 x m) = E1 at *
    generalize checkRc (rc2 x m) = E2 at *
    have HE0 := Lib.hid he0; have HE1 := Lib.hid he1; have HE2 := Lib.hid he2; have HSZ := Lib.hid hsz; have HCF := Lib.hid hcf
    clear he0 he1 he2 hsz hcf p0 p1 p2 p3 HPP hS0 hS1 hS2 hlen
    have c0 := HX15.out.cell 0; have c1 := HX15.out.cell 1; have c2 := HX15.out.cell 2; have c3 := HX15.out.cell 3; have c4 := HX15.out.cell 4; have c5 := HX15.out.cell 5; have c6 := HX15.out.cell 6
    simp only [List.getElem?_toArray, List.getElem?_cons_zero, List.getElem?_cons_succ] at c0 c1 c2 c3 c4 c5 c6
    go_wp2_with fail
    refine (HE0.out w15 HG15.out).mono ?_
    rintro e w16 ⟨rfl, hg16⟩
    have HG16 := Lib.hid (grown_self HG15.out hg16 (by simp)); have HX16 := Lib.hid (HX15.out.grown hg16 (by simp)); have HY16 := Lib.hid (HY15.out.grown hg16 (by simp)); have HZ16 := Lib.hid (HZ15.out.grown hg16 (by simp))
    clear hg16 HG15 HX15 HY15 HZ15 HE0 c0 c1 c2 c3 c4 c5 c6
    have c0 := HY16.out.cell 0; have c1 := HY16.out.cell 1; have c2 := HY16.out.cell 2; have c3 := HY16.out.cell 3; have c4 := HY16.out.cell 4; have c5 := HY16.out.cell 5; have c6 := HY16.out.cell 6
    simp only [List.getElem?_toArray, List.getElem?_cons_zero, List.getElem?_cons_succ] at c0 c1 c2 c3 c4 c5 c6
    go_wp2_with fail
    refine (HE1.out w16 HG16.out).mono ?_
    rintro e w17 ⟨rfl, hg17⟩
    have HG17 := Lib.hid (grown_self HG16.out hg17 (by simp)); have HX17 := Lib.hid (HX16.out.grown hg17 (by simp)); have HY17 := Lib.hid (HY16.out.grown hg17 (by simp)); have HZ17 := Lib.hid (HZ16.out.grown hg17 (by simp))
    clear hg17 HG16 HX16 HY16 HZ16 HE1 c0 c1 c2 c3 c4 c5 c6
    have c0 := HZ17.out.cell 0; have c1 := HZ17.out.cell 1; have c2 := HZ17.out.cell 2; have c3 := HZ17.out.cell 3; have c4 := HZ17.out.cell 4; have c5 := HZ17.out.cell 5; have c6 := HZ17.out.cell 6
    simp only [List.getElem?_toArray, List.getElem?_cons_zero, List.getElem?_cons_succ] at c0 c1 c2 c3 c4 c5 c6
    go_wp2_with fail
    refine (HE2.out w17 HG17.out).mono ?_
    rintro e w18 ⟨rfl, hg18⟩
    have HG18 := Lib.hid (grown_self HG17.out hg18 (by simp)); have HX18 := Lib.hid (HX17.out.grown hg18 (by simp)); have HY18 := Lib.hid (HY17.out.grown hg18 (by simp)); have HZ18 := Lib.hid (HZ17.out.grown hg18 (by simp))
    clear hg18 HG17 HX17 HY17 HZ17 HE2 c0 c1 c2 c3 c4 c5 c6
    have c0 := HX18.out.cell 0; have c1 := HX18.out.cell 1; have c2 := HX18.out.cell 2; have c3 := HX18.out.cell 3; have c4 := HX18.out.cell 4; have c5 := HX18.out.cell 5; have c6 := HX18.out.cell 6
    simp only [List.getElem?_toArray, List.getElem?_cons_zero, List.getElem?_cons_succ] at c0 c1 c2 c3 c4 c5 c6
    by_cases h0 : E0 = 0
    rotate_left
    · obtain ⟨a, b⟩ := HCF.out.1 h0
      have q0 : (E0 != 0) = true := by simpa using h0
      have q1 : (E1 != 0) = true := by simpa using a
      have q2 : (E2 != 0) = true := by simpa using b
      clear a b h0 HCF HSZ
      go_wp2_with fail
      go_ret
      exact ⟨rfl, HG18.out⟩
    · by_cases hk : x.kind = 126
      rotate_left
      · obtain ⟨rfl, rfl⟩ := HCF.out.2.1 h0 hk
        subst h0
        have q1 : (x.kind != 126) = true := by simpa using hk
        clear hk HCF HSZ
        go_wp2_with fail
        go_ret
        exact ⟨rfl, HG18.out⟩
      · obtain ⟨rfl, rfl⟩ := HCF.out.2.2 h0 hk
        obtain ⟨s1, s2⟩ := HSZ.out hk h0
        subst h0
        have q1 : (x.kind != 126) = false := by simp [hk]
        have q2 : (S0.size : Int) < (S1.size : Int) := by omega
        have q3 : (S1.size : Int) < (S2.size : Int) := by omega
        clear hk HCF HSZ s1 s2
        go_wp2_with fail
        refine (HF0.out w18).mono ?_
        rintro e w19 ⟨rfl, hg19⟩
        have HG19 := Lib.hid (grown_self HG18.out hg19 (by simp)); have HX19 := Lib.hid (HX18.out.grown hg19 (by simp)); have HY19 := Lib.hid (HY18.out.grown hg19 (by simp)); have HZ19 := Lib.hid (HZ18.out.grown hg19 (by simp))
        clear hg19 HG18 HX18 HY18 HZ18 HF0 c0 c1 c2 c3 c4 c5 c6
        have c0 := HY19.out.cell 0; have c1 := HY19.out.cell 1; have c2 := HY19.out.cell 2; have c3 := HY19.out.cell 3; have c4 := HY19.out.cell 4; have c5 := HY19.out.cell 5; have c6 := HY19.out.cell 6
        simp only [List.getElem?_toArray, List.getElem?_cons_zero, List.getElem?_cons_succ] at c0 c1 c2 c3 c4 c5 c6
        go_wp2_with fail
        refine (HF1.out w19).mono ?_
        rintro e w20 ⟨rfl, hg20⟩
        have HG20 := Lib.hid (grown_self HG19.out hg20 (by simp)); have HX20 := Lib.hid (HX19.out.grown hg20 (by simp)); have HY20 := Lib.hid (HY19.out.grown hg20 (by simp)); have HZ20 := Lib.hid (HZ19.out.grown hg20 (by simp))
        clear hg20 HG19 HX19 HY19 HZ19 HF1 c0 c1 c2 c3 c4 c5 c6
        have c0 := HZ20.out.cell 0; have c1 := HZ20.out.cell 1; have c2 := HZ20.out.cell 2; have c3 := HZ20.out.cell 3; have c4 := HZ20.out.cell 4; have c5 := HZ20.out.cell 5; have c6 := HZ20.out.cell 6
        simp only [List.getElem?_toArray, List.getElem?_cons_zero, List.getElem?_cons_succ] at c0 c1 c2 c3 c4 c5 c6
        go_wp2_with fail
        refine (HF2.out w20).mono ?_
        rintro e w21 ⟨rfl, hg21⟩
        have HG21 := Lib.hid (grown_self HG20.out hg21 (by simp)); have HX21 := Lib.hid (HX20.out.grown hg21 (by simp)); have HY21 := Lib.hid (HY20.out.grown hg21 (by simp)); have HZ21 := Lib.hid (HZ20.out.grown hg21 (by simp))
        clear hg21 HG20 HX20 HY20 HZ20 HF2 c0 c1 c2 c3 c4 c5 c6
        go_wp2_with fail
        go_ret
        exact ⟨rfl, HG21.out⟩
end Go.Proofs.YthalohloneojlaaGreatDoor
/- Receipts: whether one is so small that it is looked at (the document's Few). -/
namespace Go.Proofs.YthalohloneojlaaGreatDoor
open Go.RowKit Go.Shelf
set_option linter.unusedVariables false
set_option linter.unusedSimpArgs false

/-- small: no log's bytes are between, nor has one more than 10 topics -/
def FewP2 (x : Rcp) : Prop := ∀ l ∈ x.logs, (l.data.size ≤ 300 ∨ 4096 < l.data.size) ∧ l.topics.length ≤ 10
set_option maxRecDepth 100000 in
set_option maxHeartbeats 4000000 in
theorem fewRc2_any (x : Rcp) (B : Nat) (A : Option Addr) (n c : Nat) (w : World) (h : LogsR B w x.logs A n) (hB : B ≤ w.heap.size) (hn : n ≤ 9223372036854775807) :
    Calls Tryz.prog 9 #[.agg (rcpC x (.slice A n c))] w fun e w' => (∃ b, e = .returned (.bool b) ∧ (b = true → FewP2 x)) ∧ w.grownBy w' none := by
  have hG := only_alloc (World.grownBy.refl w none) (.cells (rcpC x (.slice A n c)) 25)
  have hb := Blk.new w 25 (rcpC x (.slice A n c))
  have hR := h.grown hG hB
  obtain ⟨kind, status, gas, ls, full, nonce, version⟩ := x
  simp only [rcpC] at *
  have HG := Lib.hid hG
  obtain ⟨g, hg⟩ : ∃ g, w.heap.size = g := ⟨_, rfl⟩
  rw [hg] at hb
  clear h hB hG
  go_enter Tryz.func9, Tryz.ntmps9
  go_upto_region 1 with (fail)
  clear hg
  generalize w.alloc (.cells #[.int .i64 kind, .bool status, .int .u64 (gas : Int), .slice A n c, .bool full, .int .u64 (nonce : Int), .int .u64 (version : Int)] 25) = w1 at *
  have b3 := hb.cell 3
  simp only [List.getElem?_toArray, List.getElem?_cons_zero, List.getElem?_cons_succ] at b3
  clear hb
  have HR := Lib.hid hR
  clear hR
  by_cases hbig : 20 < n
  · have q : (20 : Int) < (n : Int) := by omega
    go_wp2_with fail
    go_ret
    exact ⟨⟨_, rfl, fun h => by cases h⟩, HG.out⟩
  have q : decide ((20 : Int) < (n : Int)) = false := decide_eq_false (by omega)
  clear hbig
  go_wp2_with fail
  clear q
  go_loopw [3] (fun i wr => ∃ k : Nat, i = .int .i64 k ∧ k ≤ n ∧ w1 = wr ∧ Hid (∀ i, i < k → ((ls.getD i LogV.none_).data.size ≤ 300 ∨ 4096 < (ls.getD i LogV.none_).data.size) ∧ (ls.getD i LogV.none_).topics.length ≤ 10)) (fun i _ => n - (intOf i).toNat)
  case atStart => exact ⟨0, rfl, by omega, rfl, Lib.hid fun i hi => by omega⟩
  case round =>
    obtain ⟨k, rfl, hk, rfl, hf⟩ := hrel
    have HF := Lib.hid hf.out
    clear hf
    by_cases hlt : k < n
    · obtain ⟨gg, off, T, tc, l, rfl, hlk, c0, c1, c2, hr, hm⟩ := HR.out.at_ hlt
      have HLK := Lib.hid hlk
      have q1 : (k : Int) < (n : Int) := by omega
      have HL := Lib.hid hlt
      have HRT := Lib.hid hr
      clear hr hlt hlk
      obtain ⟨la, lt, ld⟩ := l
      simp only at c0 c1 c2 HRT hm
      have hrow : Hid (∀ j, j < lt.length → ∃ g off, T = some ⟨g, off, none⟩ ∧ w1.cell? ⟨g, off + j, none⟩ = some (.string (lt.getD j .empty))) := Lib.hid fun j hj => by
        obtain ⟨q, off, hT, _, hc⟩ := Reads.vals Value.string .empty HRT.out hj
        exact ⟨q, off, hT, hc j hj⟩
      clear HRT
      obtain ⟨tn, htn⟩ : ∃ tn, lt.length = tn := ⟨_, rfl⟩
      rw [htn] at hrow c1 hm
      have HTT := Lib.hid htn
      clear htn
      have HTN : Hid (tn ≤ 9223372036854775807) := Lib.hid hm
      clear hm
      obtain ⟨R, hR⟩ : ∃ R, ((decide (300 < ld.size) && decide (ld.size ≤ 4096)) || decide (10 < tn) || decide (100 < la.size)) = R := ⟨_, rfl⟩
      have HRR := Lib.hid hR.symm
      clear hR
      go_upto_region 6 with (fail)
      go_cut [53] (fun v wx => v = .bool R ∧ wx = w1)
      case first =>
        have hr := HRR.out
        by_cases p1 : 300 < ld.size
        · have q2 : (300 : Int) < (ld.size : Int) := by omega
          rw [decide_eq_true p1] at hr
          by_cases p2 : ld.size ≤ 4096
          · have q3 : (ld.size : Int) ≤ 4096 := by omega
            obtain rfl : R = true := by rw [hr, decide_eq_true p2]; rfl
            clear p1 p2 hr HRR hrow
            go_wp2_with fail
            go_meet
            exact ⟨rfl, rfl⟩
          · have q3 : decide ((ld.size : Int) ≤ 4096) = false := decide_eq_false (by omega)
            rw [decide_eq_false p2] at hr
            by_cases p3 : 10 < tn
            · have q4 : (10 : Int) < (tn : Int) := by omega
              obtain rfl : R = true := by rw [hr, decide_eq_true p3]; rfl
              clear p1 p2 p3 hr HRR hrow
              go_wp2_with fail
              go_meet
              exact ⟨rfl, rfl⟩
            · have q4 : decide ((10 : Int) < (tn : Int)) = false := decide_eq_false (by omega)
              rw [decide_eq_false p3] at hr
              by_cases p4 : 100 < la.size
              · have q5 : (100 : Int) < (la.size : Int) := by omega
                obtain rfl : R = true := by rw [hr, decide_eq_true p4]; rfl
                clear p1 p2 p3 p4 hr HRR hrow
                go_wp2_with fail
                go_meet
                exact ⟨rfl, rfl⟩
              · have q5 : decide ((100 : Int) < (la.size : Int)) = false := decide_eq_false (by omega)
                obtain rfl : R = false := by rw [hr, decide_eq_false p4]; rfl
                clear p1 p2 p3 p4 hr HRR hrow
                go_wp2_with fail
                go_meet
                exact ⟨rfl, rfl⟩
        · have q2 : decide ((300 : Int) < (ld.size : Int)) = false := decide_eq_false (by omega)
          rw [decide_eq_false p1] at hr
          by_cases p3 : 10 < tn
          · have q4 : (10 : Int) < (tn : Int) := by omega
            obtain rfl : R = true := by rw [hr, decide_eq_true p3]; rfl
            clear p1 p3 hr HRR hrow
            go_wp2_with fail
            go_meet
            exact ⟨rfl, rfl⟩
          · have q4 : decide ((10 : Int) < (tn : Int)) = false := decide_eq_false (by omega)
            rw [decide_eq_false p3] at hr
            by_cases p4 : 100 < la.size
            · have q5 : (100 : Int) < (la.size : Int) := by omega
              obtain rfl : R = true := by rw [hr, decide_eq_true p4]; rfl
              clear p1 p3 p4 hr HRR hrow
              go_wp2_with fail
              go_meet
              exact ⟨rfl, rfl⟩
            · have q5 : decide ((100 : Int) < (la.size : Int)) = false := decide_eq_false (by omega)
              obtain rfl : R = false := by rw [hr, decide_eq_false p4]; rfl
              clear p1 p3 p4 hr HRR hrow
              go_wp2_with fail
              go_meet
              exact ⟨rfl, rfl⟩
      case rest =>
        obtain ⟨rfl, rfl⟩ := hcut
        clear c0 c2
        have htn := HTN.out
        cases R with
        | true =>
          clear HRR
          go_wp2_with fail
          go_ret
          exact ⟨⟨_, rfl, fun h => by cases h⟩, HG.out⟩
        | false =>
          have HFK : Hid ((ld.size ≤ 300 ∨ 4096 < ld.size) ∧ lt.length ≤ 10) := Lib.hid (by
            have h2 := HRR.out.symm
            simp only [Bool.or_eq_false_iff, Bool.and_eq_false_iff, decide_eq_false_iff_not] at h2
            rw [HTT.out]
            omega)
          clear HRR
          go_wp2_with fail
          go_loopw [4] (fun j wr => ∃ m : Nat, j = .int .i64 m ∧ m ≤ tn ∧ wc = wr) (fun j _ => tn - (intOf j).toNat)
          case atStart => exact ⟨0, rfl, by omega, rfl⟩
          case round =>
            obtain ⟨m, rfl, hm, rfl⟩ := hrel
            by_cases hmt : m < tn
            · obtain ⟨tg, toff, rfl, t0⟩ := hrow.out m hmt
              have q2 : (m : Int) < (tn : Int) := by omega
              generalize lt.getD m .empty = ts at *
              by_cases p5 : 100 < ts.size
              · have q6 : (100 : Int) < (ts.size : Int) := by omega
                clear p5
                go_wp2_with fail
                go_ret
                exact ⟨⟨_, rfl, fun h => by cases h⟩, HG.out⟩
              · have q6 : decide ((100 : Int) < (ts.size : Int)) = false := decide_eq_false (by omega)
                clear p5
                go_wp2_with fail
                first
                | exact ⟨⟨m + 1, by go_num, by omega, by first | rfl | trivial⟩, by simp [intOf]; omega⟩
                | (go_roundw
                   case rel => (repeat apply Exists.intro); exact ⟨⟨m + 1, by go_num, by omega, by first | rfl | trivial⟩, rfl⟩
                   case measure => simp [intOf]; omega)
            · have q2 : decide ((m : Int) < (tn : Int)) = false := decide_eq_false (by omega)
              go_wp2_with fail
              refine ⟨⟨k + 1, by go_num, by have := HL.out; omega, by first | rfl | trivial, Lib.hid fun i hi => ?_⟩, by have := HL.out; simp [intOf]; omega⟩
              by_cases hik : i = k
              · rw [hik, HLK.out]; exact HFK.out
              · exact HF.out i (by omega)
    · have q1 : decide ((k : Int) < (n : Int)) = false := decide_eq_false (by omega)
      go_wp2_with fail
      go_ret
      refine ⟨⟨_, rfl, fun _ l hl => ?_⟩, HG.out⟩
      obtain ⟨i, hi, rfl⟩ := List.getElem_of_mem hl
      have hlen := HR.out.1
      have := HF.out i (by simp only at hi hlen; omega)
      rw [List.getD_eq_getElem?_getD, List.getElem?_eq_getElem (by simpa using hi)] at this
      exact this
end Go.Proofs.YthalohloneojlaaGreatDoor
/- Receipts, the document's: whether logs may be, how many fields a kind has, the form. -/
namespace Go.Proofs.YthalohloneojlaaGreatDoor
open Go.RowKit Go.Shelf
set_option linter.unusedVariables false
set_option linter.unusedSimpArgs false

set_option maxRecDepth 100000 in
set_option maxHeartbeats 4000000 in
theorem logsD_any (ls : List LogV) (B : Nat) (A : Option Addr) (n c : Nat) (w : World) (h : LogsR B w ls A n) (hn : n ≤ 9223372036854775807) :
    Calls Tryz.prog 21 #[.slice A n c] w fun e w' => e = .returned (.bool (!ls.any oddLog)) ∧ w' = w := by
  have HR := Lib.hid h
  have hl := h.1
  have HL := Lib.hid hl
  obtain ⟨R, hR⟩ : ∃ R, ls.any oddLog = R := ⟨_, rfl⟩
  rw [hR]
  have HRR := Lib.hid hR
  clear h hl hR
  go_enter Tryz.func21, Tryz.ntmps21
  go_wp2_with fail
  go_loopw [3] (fun i wr => ∃ k : Nat, i = .int .i64 k ∧ k ≤ n ∧ w = wr ∧ Hid (∀ i, i < k → oddLog (ls.getD i LogV.none_) = false)) (fun i _ => n - (intOf i).toNat)
  case atStart => exact ⟨0, rfl, by omega, rfl, Lib.hid fun i hi => by omega⟩
  case round =>
    obtain ⟨k, rfl, hk, rfl, hf⟩ := hrel
    have HF := Lib.hid hf.out
    clear hf
    by_cases hlt : k < n
    · obtain ⟨gg, off, T, tc, l, rfl, hlk, c0, c1, c2, hr, hm⟩ := HR.out.at_ hlt
      have HLK := Lib.hid hlk
      have q1 : (k : Int) < (n : Int) := by omega
      have HLT := Lib.hid hlt
      have HRT := Lib.hid hr
      clear hr hlt hlk c2
      obtain ⟨la, lt, ld⟩ := l
      simp only at c0 c1 HRT hm
      have hrow : Hid (∀ j, j < lt.length → ∃ g off, T = some ⟨g, off, none⟩ ∧ w.cell? ⟨g, off + j, none⟩ = some (.string (lt.getD j .empty))) := Lib.hid fun j hj => by
        obtain ⟨q, off, hT, _, hc⟩ := Reads.vals Value.string .empty HRT.out hj
        exact ⟨q, off, hT, hc j hj⟩
      clear HRT
      obtain ⟨tn, htn⟩ : ∃ tn, lt.length = tn := ⟨_, rfl⟩
      rw [htn] at hrow c1 hm
      have HTN := Lib.hid htn
      clear htn
      by_cases p1 : la.size = 20
      rotate_left
      · have q2 : ((la.size : Int) != 20) = true := by simp; omega
        have hr : R = true := by
          rw [← HRR.out]
          refine any_at (d := LogV.none_) (k := k) (by rw [HL.out]; exact HLT.out) ?_
          rw [HLK.out]
          simp [oddLog, p1]
        subst hr
        clear p1 hrow hm
        go_wp2_with fail
        go_ret
        exact ⟨rfl, rfl⟩
      · have q2 : ((la.size : Int) != 20) = false := by simp; omega
        have HP := Lib.hid p1
        clear p1
        go_wp2_with fail
        go_loopw [4] (fun j wr => ∃ m : Nat, j = .int .i64 m ∧ m ≤ tn ∧ w = wr ∧ Hid (∀ i, i < m → oddT (lt.getD i .empty) = false)) (fun j _ => tn - (intOf j).toNat)
        case atStart => exact ⟨0, rfl, by omega, rfl, Lib.hid fun i hi => by omega⟩
        case round =>
          obtain ⟨m, rfl, hmm, rfl, hft⟩ := hrel
          have HFT := Lib.hid hft.out
          clear hft
          by_cases hmt : m < tn
          · obtain ⟨tg, toff, rfl, t0⟩ := hrow.out m hmt
            have q3 : (m : Int) < (tn : Int) := by omega
            obtain ⟨ts, hts⟩ : ∃ ts, lt.getD m .empty = ts := ⟨_, rfl⟩
            rw [hts] at t0
            have HTS := Lib.hid hts
            clear hts
            by_cases p5 : ts.size = 32
            rotate_left
            · have q6 : ((ts.size : Int) != 32) = true := by simp; omega
              have hr : R = true := by
                rw [← HRR.out]
                refine any_at (d := LogV.none_) (k := k) (by rw [HL.out]; exact HLT.out) ?_
                rw [HLK.out]
                have : lt.any oddT = true := any_at (d := .empty) (k := m) (by rw [HTN.out]; exact hmt) (by rw [HTS.out]; simp [oddT, p5])
                simp only [oddLog, this, Bool.or_true]
              subst hr
              clear p5
              go_wp2_with fail
              go_ret
              exact ⟨rfl, rfl⟩
            · have q6 : ((ts.size : Int) != 32) = false := by simp; omega
              have HP5 := Lib.hid p5
              clear p5
              go_wp2_with fail
              refine ⟨⟨m + 1, by go_num, by omega, by first | rfl | trivial, Lib.hid fun i hi => ?_⟩, by simp [intOf]; omega⟩
              by_cases hik : i = m
              · rw [hik, HTS.out]; simp [oddT, HP5.out]
              · exact HFT.out i (by omega)
          · have q3 : decide ((m : Int) < (tn : Int)) = false := decide_eq_false (by omega)
            obtain rfl : m = tn := by omega
            go_wp2_with fail
            refine ⟨⟨k + 1, by go_num, by have := HLT.out; omega, by first | rfl | trivial, Lib.hid fun i hi => ?_⟩, by have := HLT.out; simp [intOf]; omega⟩
            by_cases hik : i = k
            · rw [hik, HLK.out]
              have : lt.any oddT = false := any_none (d := .empty) fun i hi => HFT.out i (by have := HTN.out; omega)
              simp only [oddLog, this, Bool.or_false, decide_eq_false_iff_not, ne_eq, Classical.not_not]
              exact HP.out
            · exact HF.out i (by omega)
    · have q1 : decide ((k : Int) < (n : Int)) = false := decide_eq_false (by omega)
      have hr : R = false := by
        rw [← HRR.out]
        exact any_none (d := LogV.none_) fun i hi => HF.out i (by have := HL.out; omega)
      subst hr
      go_wp2_with fail
      go_ret
      exact ⟨rfl, rfl⟩
set_option maxRecDepth 100000 in
set_option maxHeartbeats 1000000 in
theorem manyD_any (k : Int) (w : World) : Calls Tryz.prog 20 #[.int .i64 k] w fun e w' => e = .returned (.int .i64 (manyF k)) ∧ w' = w := by
  obtain ⟨M, hM⟩ : ∃ M, manyF k = M := ⟨_, rfl⟩
  rw [hM]
  unfold manyF at hM
  by_cases h0 : k = 0
  · rw [if_pos h0] at hM
    subst hM; subst h0
    go_enter Tryz.func20, Tryz.ntmps20
    go_wp2_with fail
    go_ret
    exact ⟨rfl, rfl⟩
  rw [if_neg h0] at hM
  have q0 : (k == 0) = false := by simpa using h0
  clear h0
  by_cases h1 : k = 1
  · rw [if_pos h1] at hM
    subst hM; subst h1
    go_enter Tryz.func20, Tryz.ntmps20
    go_wp2_with fail
    go_ret
    exact ⟨rfl, rfl⟩
  rw [if_neg h1] at hM
  have q1 : (k == 1) = false := by simpa using h1
  clear h1
  by_cases h2 : k = 2
  · rw [if_pos h2] at hM
    subst hM; subst h2
    go_enter Tryz.func20, Tryz.ntmps20
    go_wp2_with fail
    go_ret
    exact ⟨rfl, rfl⟩
  rw [if_neg h2] at hM
  have q2 : (k == 2) = false := by simpa using h2
  clear h2
  by_cases h3 : k = 4
  · rw [if_pos h3] at hM
    subst hM; subst h3
    go_enter Tryz.func20, Tryz.ntmps20
    go_wp2_with fail
    go_ret
    exact ⟨rfl, rfl⟩
  rw [if_neg h3] at hM
  have q3 : (k == 4) = false := by simpa using h3
  clear h3
  by_cases h4 : k = 126
  · rw [if_pos h4] at hM
    subst hM; subst h4
    go_enter Tryz.func20, Tryz.ntmps20
    go_wp2_with fail
    go_ret
    exact ⟨rfl, rfl⟩
  rw [if_neg h4] at hM
  have q4 : (k == 126) = false := by simpa using h4
  clear h4
  subst hM
  go_enter Tryz.func20, Tryz.ntmps20
  go_wp2_with fail
  go_ret
  exact ⟨rfl, rfl⟩
set_option maxRecDepth 100000 in
set_option maxHeartbeats 1000000 in
theorem formD_any (x : Rcp) (v : Value) (hv : ∃ A n c, v = .slice A n c) (w : World) : Calls Tryz.prog 11 #[.agg (rcpC x v)] w fun e w' => e = .returned (.int .i64 (formRc x)) ∧ w.grownBy w' none := by
  obtain ⟨A, n, c, rfl⟩ := hv
  have hG := only_alloc (World.grownBy.refl w none) (.cells (rcpC x (.slice A n c)) 25)
  have hb := Blk.new w 25 (rcpC x (.slice A n c))
  obtain ⟨kind, status, gas, ls, full, nonce, version⟩ := x
  simp only [rcpC] at *
  have HG := Lib.hid hG
  have c4 := hb.cell 4; have c6 := hb.cell 6
  simp only [List.getElem?_toArray, List.getElem?_cons_zero, List.getElem?_cons_succ] at c4 c6
  obtain ⟨F, hF⟩ : ∃ F, formRc ⟨kind, status, gas, ls, full, nonce, version⟩ = F := ⟨_, rfl⟩
  rw [hF]
  unfold formRc at hF
  simp only at hF
  clear hb hG
  cases full with
  | false =>
    obtain rfl : F = 0 := hF.symm
    clear hF
    go_enter Tryz.func11, Tryz.ntmps11
    go_wp2_with fail
    go_ret
    exact ⟨rfl, HG.out⟩
  | true =>
    rw [if_neg (by simp)] at hF
    by_cases h0 : version = 0
    · rw [if_pos h0] at hF
      subst hF; subst h0
      go_enter Tryz.func11, Tryz.ntmps11
      go_wp2_with fail
      go_ret
      exact ⟨rfl, HG.out⟩
    · rw [if_neg h0] at hF
      subst hF
      have q : ((version : Int) == 0) = false := by simpa using h0
      clear h0
      go_enter Tryz.func11, Tryz.ntmps11
      go_wp2_with fail
      go_ret
      exact ⟨rfl, HG.out⟩
end Go.Proofs.YthalohloneojlaaGreatDoor
/- Receipts, the document's: Check. -/
namespace Go.Proofs.YthalohloneojlaaGreatDoor
open Go.RowKit Go.Shelf
set_option linter.unusedVariables false
set_option linter.unusedSimpArgs false

theorem chk_doc (kind : Int) (status : Bool) (gas : Nat) (ls : List LogV) (full : Bool) (nonce version : Nat) : checkRc ⟨kind, status, gas, ls, full, nonce, version⟩ = if isKind kind = false then 9 else if (ls.any oddLog || decide (1 < version) || (full && decide (kind ≠ 126)) || (!full && (decide (nonce ≠ 0) || decide (version ≠ 0)))) = true then 2 else if (decide (16 < ls.length) || ls.any bigLog) = true then 5 else 0 := by
  unfold checkRc chkE
  simp only
  by_cases hv : 1 < version
  · have hv2 : version ≠ 0 := by omega
    rw [decide_eq_true hv, decide_eq_false hv2, decide_eq_true hv2]
    cases isKind kind <;> cases ls.any oddLog <;> cases full <;> cases decide (kind ≠ 126) <;> simp
  · rw [decide_eq_false hv]
    by_cases hv2 : version = 0
    · by_cases hn : nonce = 0 <;> simp only [hv2, hn] <;> cases isKind kind <;> cases ls.any oddLog <;> cases full <;> cases decide (kind ≠ 126) <;> simp [hn]
    · by_cases hn : nonce = 0 <;> simp only [hv2, hn] <;> cases isKind kind <;> cases ls.any oddLog <;> cases full <;> cases decide (kind ≠ 126) <;> simp [hn, hv2]
set_option maxRecDepth 100000 in
set_option maxHeartbeats 4000000 in
theorem checkD_any (x : Rcp) (B : Nat) (A : Option Addr) (n c : Nat) (w : World) (h : LogsR B w x.logs A n) (hB : B ≤ w.heap.size) (hn : n ≤ 9223372036854775807) :
    Calls Tryz.prog 10 #[.agg (rcpC x (.slice A n c))] w fun e w' => e = .returned (.int .i64 (checkRc x)) ∧ w.grownBy w' none := by
  have hG := only_alloc (World.grownBy.refl w none) (.cells (rcpC x (.slice A n c)) 25)
  have hb := Blk.new w 25 (rcpC x (.slice A n c))
  have hR := h.grown hG hB
  obtain ⟨kind, status, gas, ls, full, nonce, version⟩ := x
  simp only [rcpC] at *
  have hlen := hR.1
  obtain ⟨E, hE⟩ : ∃ E, checkRc ⟨kind, status, gas, ls, full, nonce, version⟩ = E := ⟨_, rfl⟩
  rw [hE]
  rw [chk_doc] at hE
  have HG := Lib.hid hG
  obtain ⟨g, hg⟩ : ∃ g, w.heap.size = g := ⟨_, rfl⟩
  rw [hg] at hb
  have HM := Lib.hid (fun V => manyD_any kind V)
  have HMK : Hid (manyF kind = 0 ↔ isKind kind = false) := Lib.hid (manyF_0 kind)
  have HLG := Lib.hid (fun V (hV : LogsR B V ls A n) => logsD_any ls B A n c V hV hn)
  have HEE := Lib.hid hE
  have HLEN := Lib.hid hlen
  clear h hB hG hE hlen
  go_enter Tryz.func10, Tryz.ntmps10
  go_upto_region 1 with (fail)
  clear hg
  generalize w.alloc (.cells #[.int .i64 kind, .bool status, .int .u64 (gas : Int), .slice A n c, .bool full, .int .u64 (nonce : Int), .int .u64 (version : Int)] 25) = w1 at *
  have b0 := hb.cell 0; have b3 := hb.cell 3; have b4 := hb.cell 4; have b5 := hb.cell 5; have b6 := hb.cell 6
  simp only [List.getElem?_toArray, List.getElem?_cons_zero, List.getElem?_cons_succ] at b0 b3 b4 b5 b6
  clear hb
  have HR := Lib.hid hR
  clear hR
  go_wp2_with fail
  refine (HM.out w1).mono ?_
  rintro e w2 ⟨rfl, rfl⟩
  generalize manyF kind = M at *
  cases hk : isKind kind with
  | false =>
    have q0 : (M == 0) = true := by have := HMK.out.2 hk; simp [this]
    obtain rfl : E = 9 := by rw [← HEE.out, if_pos hk]
    clear hk HM HMK
    go_wp2_with fail
    go_ret
    exact ⟨rfl, HG.out⟩
  | true =>
    have q0 : (M == 0) = false := by
      have : M ≠ 0 := fun e => by have := HMK.out.1 e; rw [hk] at this; cases this
      simpa using this
    have he := HEE.out
    rw [hk, if_neg (by simp)] at he
    obtain ⟨R, hRR⟩ : ∃ R, (ls.any oddLog || decide (1 < version) || (full && decide (kind ≠ 126)) || (!full && (decide (nonce ≠ 0) || decide (version ≠ 0)))) = R := ⟨_, rfl⟩
    rw [hRR] at he
    have HE := Lib.hid he; have HRR := Lib.hid hRR
    clear hk HM HMK HEE he hRR
    go_upto_region 3 with (fail)
    go_cut [40] (fun v wx => v = .bool R ∧ wx = w2)
    case first =>
      have hr := HRR.out
      go_wp2_with fail
      refine (HLG.out w2 HR.out).mono ?_
      rintro e w3 ⟨rfl, rfl⟩
      cases hod : ls.any oddLog with
      | true =>
        rw [hod] at hr
        obtain rfl : R = true := by rw [← hr]; rfl
        clear hr hod HRR
        go_wp2_with fail
        go_meet
        exact ⟨rfl, rfl⟩
      | false =>
        rw [hod] at hr
        by_cases p1 : 1 < version
        · have q1 : (1 : Int) < (version : Int) := by omega
          obtain rfl : R = true := by rw [← hr, decide_eq_true p1]; rfl
          clear hr hod HRR p1
          go_wp2_with fail
          go_meet
          exact ⟨rfl, rfl⟩
        · have q1 : decide ((1 : Int) < (version : Int)) = false := decide_eq_false (by omega)
          rw [decide_eq_false p1] at hr
          cases full with
          | true =>
            by_cases p2 : kind = 126
            · have q2 : (kind != 126) = false := by simp [p2]
              obtain rfl : R = false := by rw [← hr]; simp [p2]
              clear hr hod HRR p1 p2
              go_wp2_with fail
              go_meet
              exact ⟨rfl, rfl⟩
            · have q2 : (kind != 126) = true := by simpa using p2
              obtain rfl : R = true := by rw [← hr]; simp [p2]
              clear hr hod HRR p1 p2
              go_wp2_with fail
              go_meet
              exact ⟨rfl, rfl⟩
          | false =>
            by_cases p3 : nonce = 0
            · have q3 : ((nonce : Int) != 0) = false := by simp [p3]
              by_cases p4 : version = 0
              · have q4 : ((version : Int) != 0) = false := by simp [p4]
                obtain rfl : R = false := by rw [← hr]; simp [p3, p4]
                clear hr hod HRR p1 p3 p4
                go_wp2_with fail
                go_meet
                exact ⟨rfl, rfl⟩
              · have q4 : ((version : Int) != 0) = true := by simpa using p4
                obtain rfl : R = true := by rw [← hr]; simp [p3, p4]
                clear hr hod HRR p1 p3 p4
                go_wp2_with fail
                go_meet
                exact ⟨rfl, rfl⟩
            · have q3 : ((nonce : Int) != 0) = true := by simpa using p3
              obtain rfl : R = true := by rw [← hr]; simp [p3]
              clear hr hod HRR p1 p3
              go_wp2_with fail
              go_meet
              exact ⟨rfl, rfl⟩
    case rest =>
      obtain ⟨rfl, rfl⟩ := hcut
      clear HRR HLG b0 b4 b5 b6
      have he := HE.out
      cases R with
      | true =>
        obtain rfl : E = 2 := by rw [← he]; rfl
        clear he HE
        go_wp2_with fail
        go_ret
        exact ⟨rfl, HG.out⟩
      | false =>
        rw [if_neg (by simp)] at he
        have HE2 := Lib.hid he
        clear he HE
        go_wp2_with fail
        go_loopw [3] (fun i wr => ∃ k : Nat, i = .int .i64 k ∧ k ≤ n ∧ wc = wr ∧ Hid (∀ i, i < k → bigLog (ls.getD i LogV.none_) = false)) (fun i _ => n - (intOf i).toNat)
        case atStart => exact ⟨0, rfl, by omega, rfl, Lib.hid fun i hi => by omega⟩
        case round =>
          obtain ⟨k, rfl, hk, rfl, hf⟩ := hrel
          have HF := Lib.hid hf.out
          clear hf
          by_cases hlt : k < n
          · obtain ⟨gg, off, T, tc, l, rfl, hlk, c0, c1, c2, hr, hm⟩ := HR.out.at_ hlt
            have HLK := Lib.hid hlk
            have q1 : (k : Int) < (n : Int) := by omega
            have HLT := Lib.hid hlt
            clear hr hlt hlk c0
            obtain ⟨la, lt, ld⟩ := l
            simp only at c1 c2 hm
            obtain ⟨tn, htn⟩ : ∃ tn, lt.length = tn := ⟨_, rfl⟩
            rw [htn] at c1 hm
            have hbig : E = 5 ∨ bigLog ⟨la, lt, ld⟩ = false := by
              cases hbl : bigLog ⟨la, lt, ld⟩ with
              | false => exact .inr rfl
              | true =>
                have hany : ls.any bigLog = true := any_at (d := LogV.none_) (k := k) (by rw [HLEN.out]; exact HLT.out) (by rw [HLK.out]; exact hbl)
                left
                rw [← HE2.out, hany]
                simp
            have hbl2 : bigLog ⟨la, lt, ld⟩ = (decide (4 < tn) || decide (4096 < ld.size)) := by rw [← htn]; rfl
            rw [hbl2] at hbig
            have HBG := Lib.hid hbig; have HB2 := Lib.hid hbl2
            clear htn hbig hbl2 hm
            by_cases p1 : 4 < tn
            · have q2 : (4 : Int) < (tn : Int) := by omega
              obtain rfl : E = 5 := by
                rcases HBG.out with h | h
                · exact h
                · rw [decide_eq_true p1] at h; cases h
              clear p1 HBG HB2
              go_wp2_with fail
              go_ret
              exact ⟨rfl, HG.out⟩
            · have q2 : decide ((4 : Int) < (tn : Int)) = false := decide_eq_false (by omega)
              by_cases p2 : 4096 < ld.size
              · have q3 : (4096 : Int) < (ld.size : Int) := by omega
                obtain rfl : E = 5 := by
                  rcases HBG.out with h | h
                  · exact h
                  · rw [decide_eq_true p2, Bool.or_true] at h; cases h
                clear p1 p2 HBG HB2
                go_wp2_with fail
                go_ret
                exact ⟨rfl, HG.out⟩
              · have q3 : decide ((4096 : Int) < (ld.size : Int)) = false := decide_eq_false (by omega)
                have HBF : Hid (bigLog ⟨la, lt, ld⟩ = false) := Lib.hid (by rw [HB2.out, decide_eq_false p1, decide_eq_false p2]; rfl)
                clear p1 p2 HBG HB2
                go_wp2_with fail
                refine ⟨⟨k + 1, by go_num, by have := HLT.out; omega, by first | rfl | trivial, Lib.hid fun i hi => ?_⟩, by have := HLT.out; simp [intOf]; omega⟩
                by_cases hik : i = k
                · rw [hik, HLK.out]; exact HBF.out
                · exact HF.out i (by omega)
          · have q1 : decide ((k : Int) < (n : Int)) = false := decide_eq_false (by omega)
            have hno : ls.any bigLog = false := any_none (d := LogV.none_) fun i hi => HF.out i (by have := HLEN.out; omega)
            have he := HE2.out
            rw [hno, HLEN.out] at he
            by_cases p1 : 16 < n
            · have q2 : (16 : Int) < (n : Int) := by omega
              obtain rfl : E = 5 := by rw [← he, decide_eq_true p1]; rfl
              clear p1 he hno
              go_wp2_with fail
              go_ret
              exact ⟨rfl, HG.out⟩
            · have q2 : decide ((16 : Int) < (n : Int)) = false := decide_eq_false (by omega)
              obtain rfl : E = 0 := by rw [← he, decide_eq_false p1]; rfl
              clear p1 he hno
              go_wp2_with fail
              go_ret
              exact ⟨rfl, HG.out⟩
end Go.Proofs.YthalohloneojlaaGreatDoor
