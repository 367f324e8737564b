/- Merged: RcpF. -/
import Derived.Test.YthalohloneojlaaGreatDoorMi4
import Derived.Test.YthalohloneojlaaGreatDoorMi13
/- Receipts: Encode.  Printed by wip/genRcpF.py -/
namespace Go.Proofs.YthalohloneojlaaGreatDoor
open Go.RowKit Go.Shelf
set_option linter.unusedVariables false
set_option linter.unusedSimpArgs false

theorem held_three {P : Program} {ops : Array Oper} {md : Region.Mode} {Q : Exit → Act → World → Prop} {S : World → Prop} {i j l fuel : Nat} {listed : Array Bool} {a : Act} {w : World} (hr : Region.ready md ops listed = [i, j, l]) (h : wpOp P ops Q i (Behind P ops md Q S fuel listed i) a w) (k : wpOp P ops Q j (Behind P ops md Q S fuel listed j) a w) (m : wpOp P ops Q l (Behind P ops md Q S fuel listed l) a w) : wpAnyH P md ops Q S (fuel + 1) listed a w :=
  wpAnyH_all hr (by simp) fun q hq => by
    rcases List.mem_cons.1 hq with rfl | hq
    · exact h
    rcases List.mem_cons.1 hq with rfl | hq
    · exact k
    · obtain rfl : q = l := by simpa using hq
      exact m
/-- a row of three items, the last one a list -/
theorem rcp_subS (S : Nat → Prop) (V : World) (p q : ByteArray) (ys : List Itm) (A : Option Addr) (c : Nat) (hS : S V.heap.size) (h : SubV S V ys (.slice A ys.length c)) :
    SubV S (V.alloc (.cells #[.bool false, .string p, .slice none 0 0, .bool false, .string q, .slice none 0 0, .bool true, .string ⟨#[]⟩, .slice A ys.length c] 45)) [txt p, txt q, .mk true ⟨#[]⟩ ys] (.slice (some ⟨V.heap.size, 0, none⟩) 3 3) := by
  have hb := Blk.new V 45 #[.bool false, .string p, .slice none 0 0, .bool false, .string q, .slice none 0 0, .bool true, .string ⟨#[]⟩, .slice A ys.length c]
  have hg := only_alloc (World.grownBy.refl V none) (.cells #[.bool false, .string p, .slice none 0 0, .bool false, .string q, .slice none 0 0, .bool true, .string ⟨#[]⟩, .slice A ys.length c] 45)
  have hn : ∀ W : World, SubV S W [] (.slice none 0 0) := fun W => .mk [] none 0 [] (fun h => by cases h) (fun i h => by cases h)
  refine .mk [txt p, txt q, .mk true ⟨#[]⟩ ys] (some ⟨V.heap.size, 0, none⟩) 3 [.slice none 0 0, .slice none 0 0, .slice A ys.length c] ?_ ?_
  · intro _
    refine ⟨V.heap.size, 0, rfl, hS, fun i hi => ?_⟩
    match i, hi with
    | 0, _ => exact ⟨hb.cell 0, hb.cell 1, hb.cell 2⟩
    | 1, _ => exact ⟨hb.cell 3, hb.cell 4, hb.cell 5⟩
    | 2, _ => exact ⟨hb.cell 6, hb.cell 7, hb.cell 8⟩
  · intro i hi
    match i, hi with
    | 0, _ => exact hn _
    | 1, _ => exact hn _
    | 2, _ => exact SubV.grown h hg
theorem rcp_subW (V : World) (p q : ByteArray) (ys : List Itm) (A : Option Addr) (c : Nat) (h : SubW V ys (.slice A ys.length c)) :
    SubW (V.alloc (.cells #[.bool false, .string p, .slice none 0 0, .bool false, .string q, .slice none 0 0, .bool true, .string ⟨#[]⟩, .slice A ys.length c] 45)) [txt p, txt q, .mk true ⟨#[]⟩ ys] (.slice (some ⟨V.heap.size, 0, none⟩) 3 3) :=
  rcp_subS _ V p q ys A c (by simp) (h.weak fun g hg => by simp; omega)
def numT (n : Nat) : ByteArray := ⟨(beN n).toArray⟩
/-- a receipt as an item -/
def itemRc (x : Rcp) : Itm := .mk true ⟨#[]⟩ ([txt (yesS x.status), txt (numT x.gas), .mk true ⟨#[]⟩ (x.logs.map logIt)] ++ ([txt (numT x.nonce), txt (numT x.version)].take (formRc x).toNat))
def putRcE (x : Rcp) : Int := if checkRc x ≠ 0 then checkRc x else checkI (itemRc x)
def putRcL (x : Rcp) : List UInt8 := if checkRc x ≠ 0 then [] else (if x.kind = 0 then [] else [UInt8.ofNat x.kind.toNat]) ++ encB (itemRc x)
theorem check_0 {x : Rcp} (h : checkRc x = 0) : x.logs.length ≤ 16 ∧ ∀ l ∈ x.logs, l.topics.length ≤ 4 ∧ l.data.size ≤ 4096 ∧ l.addr.size = 20 ∧ ∀ t ∈ l.topics, t.size = 32 := by
  unfold checkRc chkE at h
  split at h
  · cases h
  split at h
  · cases h
  rename_i _ h2
  split at h
  · cases h
  rename_i h3
  simp only [Bool.or_eq_true, not_or, Bool.not_eq_true, List.any_eq_false, decide_eq_true_eq] at h2 h3
  refine ⟨by omega, fun l hl => ?_⟩
  have h4 := h3.2 l hl
  have h5 := h2.1.1 l hl
  simp only [bigLog, oddLog, oddT, Bool.or_eq_true, not_or, Bool.not_eq_true, Bool.or_eq_false_iff, decide_eq_true_eq, decide_eq_false_iff_not, List.any_eq_false, Nat.not_lt, Classical.not_not, ne_eq] at h4 h5
  refine ⟨by omega, by omega, by omega, fun t ht => ?_⟩
  have := h5.2 t ht
  omega
theorem kind_0 {x : Rcp} (h : checkRc x = 0) : x.kind = 0 ∨ x.kind = 1 ∨ x.kind = 2 ∨ x.kind = 4 ∨ x.kind = 126 := by
  have hk : isKind x.kind = true := by
    rcases hb : isKind x.kind
    · unfold checkRc chkE at h
      rw [hb] at h
      cases h
    · rfl
  simpa [isKind] using hk
theorem putRc_0 {x : Rcp} (h : checkRc x = 0) : putRcE x = checkI (itemRc x) ∧ putRcL x = (if x.kind = 0 then [] else [UInt8.ofNat x.kind.toNat]) ++ encB (itemRc x) := by
  unfold putRcE putRcL
  rw [if_neg (by rw [h]; decide), if_neg (by rw [h]; decide)]
  exact ⟨rfl, rfl⟩
theorem conv1k (c : UInt8) (W : World) : (convert 52 9 (.slice (some ⟨W.heap.size, 0, none⟩) 1 1)).run Tryz.prog (W.alloc (.cells #[.int .u8 (c.toNat : Int)] 5)) = .ok (.string ⟨#[c]⟩) (W.alloc (.cells #[.int .u8 (c.toNat : Int)] 5)) := by
  have := run_convert_bytes_back (P := Tryz.prog) (W.alloc (.cells #[.int .u8 (c.toNat : Int)] 5)) 52 9 5 ⟨W.heap.size, 0, none⟩ 1 [c] (by kernel_rfl) (by kernel_rfl) (by kernel_rfl) (fun j hj => by
    have hj0 : j = 0 := by simpa using hj
    subst hj0
    exact cell_one_new W _ _ 0 _ rfl)
  exact this
theorem encB_len {x : Itm} (h : wtF x ≤ 1000000000) : (⟨(encB x).toArray⟩ : ByteArray).size ≤ 1000000000 := by
  have := bytesF_len x h
  show (encB x).toArray.size ≤ _
  unfold encB
  split
  · simp; omega
  · simp
theorem pre_cat (c : UInt8) (l : List UInt8) : (⟨#[c]⟩ : ByteArray) ++ ⟨l.toArray⟩ = ⟨([c] ++ l).toArray⟩ := by
  apply ByteArray.ext
  simp
theorem wt_topics : ∀ ts : List ByteArray, (∀ t ∈ ts, t.size = 32) → wtL (ts.map txt) = 42 * ts.length
  | [], _ => rfl
  | t :: ts, h => by
    have h1 := h t (.head _)
    have h2 := wt_topics ts fun u hu => h u (.tail _ hu)
    simp only [List.map_cons, wtL, List.length_cons, h2, wtF_eq, txt, Itm.bytes, Itm.items]
    omega
theorem wt_logs : ∀ ls : List LogV, (∀ l ∈ ls, l.topics.length ≤ 4 ∧ l.data.size ≤ 4096 ∧ l.addr.size = 20 ∧ ∀ t ∈ l.topics, t.size = 32) → wtL (ls.map logIt) ≤ 5000 * ls.length
  | [], _ => Nat.le_refl _
  | l :: ls, h => by
    obtain ⟨h1, h2, h3, h4⟩ := h l (.head _)
    have h5 := wt_logs ls fun u hu => h u (.tail _ hu)
    have h6 := wt_topics l.topics h4
    simp only [List.map_cons, wtL, List.length_cons, logIt, logI, wtF_eq, txt, Itm.bytes, Itm.items] at h6 ⊢
    rw [h6]
    show 10 + 0 + (10 + l.addr.size + 0 + (10 + 0 + 42 * l.topics.length + (10 + l.data.size + 0 + 0))) + _ ≤ _
    omega
theorem numT_len (n : Nat) (h : n < 18446744073709551616) : (numT n).size ≤ 8 := by
  have := beN_len8 n h
  show (beN n).toArray.size ≤ 8
  simpa using this
theorem wt_rc {x : Rcp} (h : ∀ l ∈ x.logs, l.topics.length ≤ 4 ∧ l.data.size ≤ 4096 ∧ l.addr.size = 20 ∧ ∀ t ∈ l.topics, t.size = 32) (hl : x.logs.length ≤ 16) (hok : x.Ok) (h0 : checkRc x = 0) : wtF (itemRc x) ≤ 1000000000 := by
  have h1 := wt_logs x.logs h
  have h2 := numT_len x.gas hok.1
  have h3 := numT_len x.nonce hok.2.1
  have h4 := numT_len x.version hok.2.2
  have h5 := wtL_take [txt (numT x.nonce), txt (numT x.version)] (formRc x).toNat
  have h6 : (yesS x.status).size ≤ 1 := by unfold yesS; split <;> decide
  unfold itemRc
  rw [wtF_eq]
  simp only [Itm.bytes, Itm.items, wtL_append, wtL, wtF_eq, txt] at h5 ⊢
  have e : (⟨#[]⟩ : ByteArray).size = 0 := rfl
  rw [e]
  omega
set_option maxRecDepth 100000 in
set_option maxHeartbeats 8000000 in
theorem encodeRc_any (x : Rcp) (hk : x.Ok) (B : Nat) (A : Option Addr) (n c : Nat) (w : World) (h : LogsR B w x.logs A n) (hB : B ≤ w.heap.size) (hn : n ≤ 9223372036854775807) :
    Calls Tryz.prog 12 #[.agg (rcpC x (.slice A n c))] w fun e w' => e = .returned (.tuple #[.string ⟨(putRcL x).toArray⟩, .int .i64 (putRcE x)]) ∧ w.grownBy w' none := by
  have hG := only_alloc (World.grownBy.refl w none) (.cells (rcpC x (.slice A n c)) 25)
  have hb := Blk.new w 25 (rcpC x (.slice A n c))
  have hR := h.grown hG hB
  have hB1 := Nat.le_trans hB hG.size
  have HC := Lib.hid (fun V hR hB => checkRc_any x B A n c V hR hB hn)
  have HL := Lib.hid (show x.logs.length = n from h.1)
  obtain ⟨E, hE⟩ : ∃ E, checkRc x = E := ⟨_, rfl⟩
  rw [hE] at HC
  have HE := Lib.hid hE
  have HOK := Lib.hid hk
  clear h hB hE hk
  obtain ⟨kind, status, gas, ls, full, nonce, version⟩ := x
  simp only [rcpC] at *
  go_enter Tryz.func12, Tryz.ntmps12
  go_upto_region 1 with (fail)
  obtain ⟨g, hg⟩ : ∃ g, w.heap.size = g := ⟨_, rfl⟩
  have HW := Lib.hid hg
  rw [hg] at hb ⊢
  clear hg
  generalize w.alloc (.cells #[.int .i64 kind, .bool status, .int .u64 (gas : Int), .slice A n c, .bool full, .int .u64 (nonce : Int), .int .u64 (version : Int)] 25) = w1 at *
  have HR := Lib.hid hR; have HB1 := Lib.hid hB1; have HG := Lib.hid hG; have HB := Lib.hid hb
  have c0 := hb.cell 0; have c1 := hb.cell 1; have c2 := hb.cell 2; have c3 := hb.cell 3; have c4 := hb.cell 4; have c5 := hb.cell 5; have c6 := hb.cell 6
  simp only [List.getElem?_toArray, List.getElem?_cons_zero, List.getElem?_cons_succ] at c0 c1 c2 c3 c4 c5 c6
  clear hR hB1 hG hb
  go_wp2_with fail
  refine (HC.out _ HR.out HB1.out).mono ?_
  rintro e w2 ⟨rfl, hg⟩
  have HR := Lib.hid (HR.out.grown hg HB1.out)
  have HB1 := Lib.hid (Nat.le_trans HB1.out hg.size)
  have HG := Lib.hid (grown_self HG.out hg (by simp))
  have HB := Lib.hid (HB.out.grown hg (by simp))
  clear hg c0 c1 c2 c3 c4 c5 c6
  by_cases h0 : E = 0
  rotate_left
  · have e1 : (E != 0) = true := by simpa using h0
    have HN := Lib.hid h0
    clear h0
    go_wp2_with fail
    go_ret2
    refine ⟨?_, HG.out⟩
    unfold putRcL putRcE
    rw [HE.out, if_pos HN.out, if_pos HN.out]; rfl
  subst h0
  have HN16 : Hid (n ≤ 16 ∧ ∀ l ∈ ls, l.topics.length ≤ 4 ∧ l.data.size ≤ 4096 ∧ l.addr.size = 20 ∧ ∀ t ∈ l.topics, t.size = 32) := Lib.hid (by have := check_0 HE.out; rw [show ls.length = n from HL.out] at this; exact this)
  have HWL := Lib.hid (fun V hR hB => writtenL_any B A n c ls V hR hB (by have := HN16.out.1; omega) (fun l hl => by have := (HN16.out.2 l hl).1; omega))
  have hnu := fun V => number_any gas HOK.out.1 V
  obtain ⟨N1, hN1⟩ : ∃ N1, numT gas = N1 := ⟨_, rfl⟩
  rw [show (⟨(beN gas).toArray⟩ : ByteArray) = N1 from hN1] at hnu
  obtain ⟨YS, hYS⟩ : ∃ Y, yesS status = Y := ⟨_, rfl⟩
  have hbo := fun V => boolF_any status V
  rw [hYS] at hbo
  have HNU := Lib.hid hnu; have HBO := Lib.hid hbo; have HN1 := Lib.hid hN1; have HYS := Lib.hid hYS
  clear hnu hbo hN1 hYS
  go_upto_region 4 with (fail)
  go_cut [5] (fun p wx => ∃ k7 z, p = .pointer (some ⟨k7, 0, none⟩) ∧ Blk wx k7 45 #[.bool true, .string ⟨#[]⟩, .slice (some ⟨z, 0, none⟩) 3 3] ∧ w2.heap.size ≤ k7 ∧ SubV (fun q => q ≠ k7) wx [txt YS, txt N1, .mk true ⟨#[]⟩ (ls.map logIt)] (.slice (some ⟨z, 0, none⟩) 3 3) ∧ w2.grownBy wx none)
  case rest =>
    obtain ⟨k7, z, rfl, hb7, hk7, hsub, hg7⟩ := hcut
    have hgk : g < k7 := Nat.lt_of_lt_of_le HB.out.lt hk7
    have HBO := HB
    have HGO := HG
    have HG := Lib.hid hg7
    have hgc := HB.out.lt
    have hnu := fun V => number_any nonce HOK.out.2.1 V
    obtain ⟨P1, hP1⟩ : ∃ P, numT nonce = P := ⟨_, rfl⟩
    rw [show (⟨(beN nonce).toArray⟩ : ByteArray) = P1 from hP1] at hnu
    have hnv := fun V => number_any version HOK.out.2.2 V
    obtain ⟨P2, hP2⟩ : ∃ P, numT version = P := ⟨_, rfl⟩
    rw [show (⟨(beN version).toArray⟩ : ByteArray) = P2 from hP2] at hnv
    have hfo := fun V => formRc_any ⟨kind, status, gas, ls, full, nonce, version⟩ (.slice A n c) ⟨_, _, _, rfl⟩ V
    obtain ⟨r, hr, hr2⟩ : ∃ r : Nat, formRc ⟨kind, status, gas, ls, full, nonce, version⟩ = (r : Int) ∧ r ≤ 2 := by
      unfold formRc
      split
      · exact ⟨0, rfl, by omega⟩
      split
      · exact ⟨1, rfl, by omega⟩
      · exact ⟨2, rfl, by omega⟩
    rw [hr] at hfo
    have hit : itemRc ⟨kind, status, gas, ls, full, nonce, version⟩ = .mk true ⟨#[]⟩ ([txt YS, txt N1, .mk true ⟨#[]⟩ (ls.map logIt)] ++ [txt P1, txt P2].take r) := by
      unfold itemRc
      rw [hr, Int.toNat_natCast]
      simp only [HYS.out, HN1.out, hP1, hP2]
    have hwt := wt_rc HN16.out.2 (by rw [HL.out]; exact HN16.out.1) HOK.out HE.out
    rw [hit] at hwt
    have hen := fun V sx hsx => encodeP_any (.mk true ⟨#[]⟩ ([txt YS, txt N1, .mk true ⟨#[]⟩ (ls.map logIt)] ++ [txt P1, txt P2].take r)) V sx hsx hwt
    obtain ⟨S0, hS0⟩ : ∃ s, (⟨(encB (itemRc ⟨kind, status, gas, ls, full, nonce, version⟩)).toArray⟩ : ByteArray) = s := ⟨_, rfl⟩
    obtain ⟨E0, hE0⟩ : ∃ e, checkI (itemRc ⟨kind, status, gas, ls, full, nonce, version⟩) = e := ⟨_, rfl⟩
    have hS1 := hS0; have hE1 := hE0
    rw [hit] at hS1 hE1
    rw [hS1, hE1] at hen
    have HSZ := Lib.hid (hS1 ▸ encB_len hwt)
    simp only [Itm.list, Itm.bytes, Itm.items] at hen
    have HEN := Lib.hid hen; have HNU := Lib.hid hnu; have HNV := Lib.hid hnv; have HFO := Lib.hid hfo; have HS0 := Lib.hid hS0; have HE0 := Lib.hid hE0; have HR2 := Lib.hid hr2
    have HKD := Lib.hid (kind_0 HE.out)
    clear hen hnu hnv hfo hS0 hE0 hS1 hE1 hr2 hwt hit hr hP1 hP2 hg7
    go_upto_region 5 with (fail)
    go_cut [5] (fun p wx => ∃ A' c', p = .pointer (some ⟨k7, 0, none⟩) ∧ Blk wx k7 45 #[.bool true, .string ⟨#[]⟩, .slice A' (3 + r) c'] ∧ SubV (fun q => q ≠ k7) wx ([txt YS, txt N1, .mk true ⟨#[]⟩ (ls.map logIt)] ++ [txt P1, txt P2].take r) (.slice A' (3 + r) c') ∧ w2.grownBy wx none)
    case rest =>
      obtain ⟨A', c', rfl, hb10, hs10, hG9⟩ := hcut
      have HS3 := Lib.hid hs10.here
      have HB3 := Lib.hid (HBO.out.grown hG9 (by simp))
      have HG3 := Lib.hid (grown_self HGO.out hG9 (by simp))
      have c0 := hb10.cell 0; have c1 := hb10.cell 1; have c2 := hb10.cell 2
      simp only [List.getElem?_toArray, List.getElem?_cons_zero, List.getElem?_cons_succ] at c0 c1 c2
      clear hs10 hG9 hb10 hb7 hsub
      go_wp2_with fail
      refine (HEN.out _ _ HS3.out).mono ?_
      rintro e w4 ⟨rfl, hg4⟩
      have HB4 := Lib.hid (HB3.out.grown hg4 (by simp))
      have HG4 := Lib.hid (grown_self HG3.out hg4 (by simp))
      have c0 := HB4.out.cell 0
      simp only [List.getElem?_toArray, List.getElem?_cons_zero, List.getElem?_cons_succ] at c0
      clear hg4 HS3 HB3 HG3 c1 c2
      rcases HKD.out with rfl | rfl | rfl | rfl | rfl
      · go_wp2_with fail
        go_ret2
        refine ⟨?_, HG4.out⟩
        rw [(putRc_0 HE.out).1, (putRc_0 HE.out).2, HE0.out, if_pos rfl, List.nil_append, HS0.out]
        rfl
      · have hcv : (convert 52 9 (.slice (some ⟨w4.heap.size, 0, none⟩) 1 1)).run Tryz.prog (w4.alloc (.cells #[.int .u8 1] 5)) = .ok (.string ⟨#[1]⟩) (w4.alloc (.cells #[.int .u8 1] 5)) := conv1k 1 w4
        have hcat : 1 + S0.size ≤ 9223372036854775807 := by have := HSZ.out; omega
        go_wp2_with fail
        go_ret2
        refine ⟨?_, only_alloc HG4.out _⟩
        rw [(putRc_0 HE.out).1, (putRc_0 HE.out).2, HE0.out, ← HS0.out, pre_cat]
        rfl
      · have hcv : (convert 52 9 (.slice (some ⟨w4.heap.size, 0, none⟩) 1 1)).run Tryz.prog (w4.alloc (.cells #[.int .u8 2] 5)) = .ok (.string ⟨#[2]⟩) (w4.alloc (.cells #[.int .u8 2] 5)) := conv1k 2 w4
        have hcat : 1 + S0.size ≤ 9223372036854775807 := by have := HSZ.out; omega
        go_wp2_with fail
        go_ret2
        refine ⟨?_, only_alloc HG4.out _⟩
        rw [(putRc_0 HE.out).1, (putRc_0 HE.out).2, HE0.out, ← HS0.out, pre_cat]
        rfl
      · have hcv : (convert 52 9 (.slice (some ⟨w4.heap.size, 0, none⟩) 1 1)).run Tryz.prog (w4.alloc (.cells #[.int .u8 4] 5)) = .ok (.string ⟨#[4]⟩) (w4.alloc (.cells #[.int .u8 4] 5)) := conv1k 4 w4
        have hcat : 1 + S0.size ≤ 9223372036854775807 := by have := HSZ.out; omega
        go_wp2_with fail
        go_ret2
        refine ⟨?_, only_alloc HG4.out _⟩
        rw [(putRc_0 HE.out).1, (putRc_0 HE.out).2, HE0.out, ← HS0.out, pre_cat]
        rfl
      · have hcv : (convert 52 9 (.slice (some ⟨w4.heap.size, 0, none⟩) 1 1)).run Tryz.prog (w4.alloc (.cells #[.int .u8 126] 5)) = .ok (.string ⟨#[126]⟩) (w4.alloc (.cells #[.int .u8 126] 5)) := conv1k 126 w4
        have hcat : 1 + S0.size ≤ 9223372036854775807 := by have := HSZ.out; omega
        go_wp2_with fail
        go_ret2
        refine ⟨?_, only_alloc HG4.out _⟩
        rw [(putRc_0 HE.out).1, (putRc_0 HE.out).2, HE0.out, ← HS0.out, pre_cat]
        rfl
    case first =>
    have hr0 : ∀ V, Below w2.heap.size w2 V → V.cell? ⟨g, 0, none⟩ = some (.int .i64 kind) := fun V hV => (hV.cell (p := ⟨g, 0, none⟩) hgc).trans (HBO.out.cell 0)
    have hr1 : ∀ V, Below w2.heap.size w2 V → V.cell? ⟨g, 1, none⟩ = some (.bool status) := fun V hV => (hV.cell (p := ⟨g, 1, none⟩) hgc).trans (HBO.out.cell 1)
    have hr2 : ∀ V, Below w2.heap.size w2 V → V.cell? ⟨g, 2, none⟩ = some (.int .u64 (gas : Int)) := fun V hV => (hV.cell (p := ⟨g, 2, none⟩) hgc).trans (HBO.out.cell 2)
    have hr3 : ∀ V, Below w2.heap.size w2 V → V.cell? ⟨g, 3, none⟩ = some (.slice A n c) := fun V hV => (hV.cell (p := ⟨g, 3, none⟩) hgc).trans (HBO.out.cell 3)
    have hr4 : ∀ V, Below w2.heap.size w2 V → V.cell? ⟨g, 4, none⟩ = some (.bool full) := fun V hV => (hV.cell (p := ⟨g, 4, none⟩) hgc).trans (HBO.out.cell 4)
    have hr5 : ∀ V, Below w2.heap.size w2 V → V.cell? ⟨g, 5, none⟩ = some (.int .u64 (nonce : Int)) := fun V hV => (hV.cell (p := ⟨g, 5, none⟩) hgc).trans (HBO.out.cell 5)
    have hr6 : ∀ V, Below w2.heap.size w2 V → V.cell? ⟨g, 6, none⟩ = some (.int .u64 (version : Int)) := fun V hV => (hV.cell (p := ⟨g, 6, none⟩) hgc).trans (HBO.out.cell 6)
    have hS := below_of_grown HG.out
    obtain ⟨i0, hi, hz0, hzs, hzb⟩ := info_parts item_info
    refine wp_region_held (S := fun W => Below w2.heap.size w2 W) (by kernel_rfl) ?_
    change wpAnyH _ _ _ _ _ _ _ _ wc.drew
    replace hS : Below w2.heap.size w2 wc.drew := ⟨hS.os, hS.tape, hS.output, hS.size, hS.block⟩
    replace hb7 : Blk wc.drew k7 45 #[.bool true, .string ⟨#[]⟩, .slice (some ⟨z, 0, none⟩) 3 3] := hb7
    replace hsub : SubV (fun q => q ≠ k7) wc.drew [txt YS, txt N1, .mk true ⟨#[]⟩ (ls.map logIt)] (.slice (some ⟨z, 0, none⟩) 3 3) := hsub.keep fun _ _ _ h => h
    generalize wc.drew = u0 at *
    refine held_take (i := 0) (v := .pointer (some ⟨k7, 2, none⟩)) (some 24) rfl (by kernel_rfl) (by kernel_rfl) (by kernel_rfl) (fun _ _ _ h => h) rfl (Or.inl ⟨by rfl, fun W hW => by go_simp⟩) hS ?_
    simp only [Act.put, List.setIfInBounds_toArray, List.set_cons_zero, List.set_cons_succ]
    refine held_take (i := 2) (v := .pointer (some ⟨g, 5, none⟩)) (some 26) rfl (by kernel_rfl) (by kernel_rfl) (by kernel_rfl) (fun _ _ _ h => h) rfl (Or.inl ⟨by rfl, fun W hW => by go_simp⟩) hS ?_
    simp only [Act.put, List.setIfInBounds_toArray, List.set_cons_zero, List.set_cons_succ]
    refine held_take (i := 3) (v := .int .u64 (nonce : Int)) (some 27) rfl (by kernel_rfl) (by kernel_rfl) (by kernel_rfl) (fun _ _ _ h => h) rfl (Or.inl ⟨by rfl, fun W hW => by have q := hr5 W hW; go_simp⟩) hS ?_
    simp only [Act.put, List.setIfInBounds_toArray, List.set_cons_zero, List.set_cons_succ]
    refine held_take (i := 5) (v := .pointer (some ⟨g, 6, none⟩)) (some 29) rfl (by kernel_rfl) (by kernel_rfl) (by kernel_rfl) (fun _ _ _ h => h) rfl (Or.inl ⟨by rfl, fun W hW => by go_simp⟩) hS ?_
    simp only [Act.put, List.setIfInBounds_toArray, List.set_cons_zero, List.set_cons_succ]
    refine held_take (i := 6) (v := .int .u64 (version : Int)) (some 30) rfl (by kernel_rfl) (by kernel_rfl) (by kernel_rfl) (fun _ _ _ h => h) rfl (Or.inl ⟨by rfl, fun W hW => by have q := hr6 W hW; go_simp⟩) hS ?_
    simp only [Act.put, List.setIfInBounds_toArray, List.set_cons_zero, List.set_cons_succ]
    refine held_take (i := 9) (v := .agg #[.int .i64 kind, .bool status, .int .u64 (gas : Int), .slice A n c, .bool full, .int .u64 (nonce : Int), .int .u64 (version : Int)]) (some 33) rfl (by kernel_rfl) (by kernel_rfl) (by kernel_rfl) (fun _ _ _ h => h) rfl (Or.inl ⟨by rfl, fun W hW => by have q0 := hr0 W hW; have q1 := hr1 W hW; have q2 := hr2 W hW; have q3 := hr3 W hW; have q4 := hr4 W hW; have q5 := hr5 W hW; have q6 := hr6 W hW; go_simp⟩) hS ?_
    simp only [Act.put, List.setIfInBounds_toArray, List.set_cons_zero, List.set_cons_succ]
    clear hr0 hr1 hr2 hr3 hr4 hr5 hr6 HBO
    refine held_two (i := 1) (j := 4) (by kernel_rfl) ?_ ?_
    · refine held_value (some 25) rfl rfl (.slice (some ⟨z, 0, none⟩) 3 3) (exec_load1 43 (.tmp 24) rfl _ rfl _ _ Tryz.underlying43 rfl (hb7.cell 2)) rfl hS ?_
      simp only [Act.put, List.setIfInBounds_toArray, List.set_cons_zero, List.set_cons_succ]
      refine held_one (i := 4) (by kernel_rfl) ?_
      refine held_enter (some 28) rfl rfl 24 #[.int .u64 (nonce : Int)] (exec_call1 _ (.tmp 27) _ rfl _ rfl (enters_of Tryz.func24 (by kernel_rfl) rfl _ _)) rfl ((HNU.out u0).mono ?_)
      rintro e v2 ⟨rfl, hg⟩
      replace hS : Below w2.heap.size w2 v2 := hS.trans ((below_of_grown hg).mono hS.size)
      refine ⟨_, rfl, hS, ?_⟩
      simp only [Act.put, List.setIfInBounds_toArray, List.set_cons_zero, List.set_cons_succ]
      replace hb7 := hb7.grown hg (by simp)
      replace hsub := hsub.grown hg
      clear hg
      refine held_one (i := 7) (by kernel_rfl) ?_
      refine held_enter (some 31) rfl rfl 24 #[.int .u64 (version : Int)] (exec_call1 _ (.tmp 30) _ rfl _ rfl (enters_of Tryz.func24 (by kernel_rfl) rfl _ _)) rfl ((HNV.out v2).mono ?_)
      rintro e v3 ⟨rfl, hg⟩
      replace hS : Below w2.heap.size w2 v3 := hS.trans ((below_of_grown hg).mono hS.size)
      refine ⟨_, rfl, hS, ?_⟩
      simp only [Act.put, List.setIfInBounds_toArray, List.set_cons_zero, List.set_cons_succ]
      replace hb7 := hb7.grown hg (by simp)
      replace hsub := hsub.grown hg
      clear hg
      refine held_two (i := 8) (j := 10) (by kernel_rfl) ?_ ?_
      · have hy := Blk.new v3 45 #[.bool false, .string P1, .slice none 0 0, .bool false, .string P2, .slice none 0 0]
        replace hS := hS.alloc hS.size (.cells #[.bool false, .string P1, .slice none 0 0, .bool false, .string P2, .slice none 0 0] 45)
        replace hb7 := hb7.alloc (.cells #[.bool false, .string P1, .slice none 0 0, .bool false, .string P2, .slice none 0 0] 45)
        replace hsub := hsub.grown (only_alloc (World.grownBy.refl v3 none) (.cells #[.bool false, .string P1, .slice none 0 0, .bool false, .string P2, .slice none 0 0] 45))
        refine held_value (some 32) rfl rfl (.slice (some ⟨v3.heap.size, 0, none⟩) 2 2) (w' := v3.alloc (.cells #[.bool false, .string P1, .slice none 0 0, .bool false, .string P2, .slice none 0 0] 45)) (by go_simp <;> rfl) rfl hS ?_
        simp only [Act.put, List.setIfInBounds_toArray, List.set_cons_zero, List.set_cons_succ]
        obtain ⟨y, hy0⟩ : ∃ z, v3.heap.size = z := ⟨_, rfl⟩
        rw [hy0] at hy ⊢
        clear hy0
        generalize v3.alloc (.cells #[.bool false, .string P1, .slice none 0 0, .bool false, .string P2, .slice none 0 0] 45) = v4 at *
        refine held_one (i := 10) (by kernel_rfl) ?_
        refine held_enter (some 34) rfl rfl 16 #[.agg #[.int .i64 kind, .bool status, .int .u64 (gas : Int), .slice A n c, .bool full, .int .u64 (nonce : Int), .int .u64 (version : Int)]] (exec_call1 _ (.tmp 33) _ rfl _ rfl (enters_of Tryz.func16 (by kernel_rfl) rfl _ _)) rfl ((HFO.out v4).mono ?_)
        rintro e v5 ⟨rfl, hg⟩
        replace hS : Below w2.heap.size w2 v5 := hS.trans ((below_of_grown hg).mono hS.size)
        refine ⟨_, rfl, hS, ?_⟩
        simp only [Act.put, List.setIfInBounds_toArray, List.set_cons_zero, List.set_cons_succ]
        replace hb7 := hb7.grown hg (by simp)
        replace hsub := hsub.grown hg
        replace hy := hy.grown hg (by simp)
        clear hg
        refine held_take (i := 11) (v := .slice (some ⟨y, 0, none⟩) r 2) (some 35) rfl (by kernel_rfl) (by kernel_rfl) (by kernel_rfl) (fun _ _ _ h => h) rfl (Or.inl ⟨by rfl, fun W hW => by have := HR2.out; go_simp <;> omega⟩) hS ?_
        simp only [Act.put, List.setIfInBounds_toArray, List.set_cons_zero, List.set_cons_succ]
        obtain ⟨A', c', u9, hrun, hsub9, hg9⟩ := run_rcp_more v5 k7 z y YS N1 (ls.map logIt) P1 P2 r HR2.out i0 _ hi hz0 hzs hzb rfl 43 hb7.lt hsub hy
        have hb9 := hb7.grown hg9 (by simp)
        replace hS := hS.trans ((below_of_grown hg9).mono hS.size)
        refine held_one (i := 12) (by kernel_rfl) ?_
        refine held_value (some 36) rfl rfl (.slice A' (3 + r) c') (exec_append (.tmp 25) (.tmp 35) 43 rfl _ _ _ rfl rfl hrun) rfl hS ?_
        simp only [Act.put, List.setIfInBounds_toArray, List.set_cons_zero, List.set_cons_succ]
        refine held_take (i := 13) (v := .pointer (some ⟨k7, 2, none⟩)) (some 37) rfl (by kernel_rfl) (by kernel_rfl) (by kernel_rfl) (fun _ _ _ h => h) rfl (Or.inl ⟨by rfl, fun W hW => by go_simp⟩) hS ?_
        simp only [Act.put, List.setIfInBounds_toArray, List.set_cons_zero, List.set_cons_succ]
        have hG9 := only_set (grown_of_below hS) (p := ⟨k7, 2, none⟩) hk7 (.slice A' (3 + r) c')
        have hb10 := hb9.set_ 2 (.slice A' (3 + r) c')
        simp only [List.setIfInBounds_toArray, List.set_cons_zero, List.set_cons_succ] at hb10
        have hs10 : SubV (fun q => q ≠ k7) (u9.setCell ⟨k7, 2, none⟩ (.slice A' (3 + r) c')) ([txt YS, txt N1, .mk true ⟨#[]⟩ (ls.map logIt)] ++ [txt P1, txt P2].take r) (.slice A' (3 + r) c') := hsub9.keep fun p (hp : p.block ≠ k7) u hu => by rw [World.cell?_setCell_far _ _ _ _ (fun e => hp e.symm)]; exact hu
        refine held_one (i := 14) (by kernel_rfl) ?_
        refine held_store rfl rfl (exec_store1 (.tmp 37) (.tmp 36) rfl rfl rfl hb9 (by simp)) (below_of_grown hG9) ?_
        refine wpAnyH_done (by kernel_rfl) ?_ _
        go_wp2_with fail
        go_meet
        exact ⟨A', c', rfl, hb10, hs10, hG9⟩
      · refine held_enter (some 34) rfl rfl 16 #[.agg #[.int .i64 kind, .bool status, .int .u64 (gas : Int), .slice A n c, .bool full, .int .u64 (nonce : Int), .int .u64 (version : Int)]] (exec_call1 _ (.tmp 33) _ rfl _ rfl (enters_of Tryz.func16 (by kernel_rfl) rfl _ _)) rfl ((HFO.out v3).mono ?_)
        rintro e v6 ⟨rfl, hg⟩
        replace hS : Below w2.heap.size w2 v6 := hS.trans ((below_of_grown hg).mono hS.size)
        refine ⟨_, rfl, hS, ?_⟩
        simp only [Act.put, List.setIfInBounds_toArray, List.set_cons_zero, List.set_cons_succ]
        replace hb7 := hb7.grown hg (by simp)
        replace hsub := hsub.grown hg
        clear hg
        refine held_one (i := 8) (by kernel_rfl) ?_
        have hy := Blk.new v6 45 #[.bool false, .string P1, .slice none 0 0, .bool false, .string P2, .slice none 0 0]
        replace hS := hS.alloc hS.size (.cells #[.bool false, .string P1, .slice none 0 0, .bool false, .string P2, .slice none 0 0] 45)
        replace hb7 := hb7.alloc (.cells #[.bool false, .string P1, .slice none 0 0, .bool false, .string P2, .slice none 0 0] 45)
        replace hsub := hsub.grown (only_alloc (World.grownBy.refl v6 none) (.cells #[.bool false, .string P1, .slice none 0 0, .bool false, .string P2, .slice none 0 0] 45))
        refine held_value (some 32) rfl rfl (.slice (some ⟨v6.heap.size, 0, none⟩) 2 2) (w' := v6.alloc (.cells #[.bool false, .string P1, .slice none 0 0, .bool false, .string P2, .slice none 0 0] 45)) (by go_simp <;> rfl) rfl hS ?_
        simp only [Act.put, List.setIfInBounds_toArray, List.set_cons_zero, List.set_cons_succ]
        obtain ⟨y, hy0⟩ : ∃ z, v6.heap.size = z := ⟨_, rfl⟩
        rw [hy0] at hy ⊢
        clear hy0
        generalize v6.alloc (.cells #[.bool false, .string P1, .slice none 0 0, .bool false, .string P2, .slice none 0 0] 45) = v7 at *
        refine held_take (i := 11) (v := .slice (some ⟨y, 0, none⟩) r 2) (some 35) rfl (by kernel_rfl) (by kernel_rfl) (by kernel_rfl) (fun _ _ _ h => h) rfl (Or.inl ⟨by rfl, fun W hW => by have := HR2.out; go_simp <;> omega⟩) hS ?_
        simp only [Act.put, List.setIfInBounds_toArray, List.set_cons_zero, List.set_cons_succ]
        obtain ⟨A', c', u9, hrun, hsub9, hg9⟩ := run_rcp_more v7 k7 z y YS N1 (ls.map logIt) P1 P2 r HR2.out i0 _ hi hz0 hzs hzb rfl 43 hb7.lt hsub hy
        have hb9 := hb7.grown hg9 (by simp)
        replace hS := hS.trans ((below_of_grown hg9).mono hS.size)
        refine held_one (i := 12) (by kernel_rfl) ?_
        refine held_value (some 36) rfl rfl (.slice A' (3 + r) c') (exec_append (.tmp 25) (.tmp 35) 43 rfl _ _ _ rfl rfl hrun) rfl hS ?_
        simp only [Act.put, List.setIfInBounds_toArray, List.set_cons_zero, List.set_cons_succ]
        refine held_take (i := 13) (v := .pointer (some ⟨k7, 2, none⟩)) (some 37) rfl (by kernel_rfl) (by kernel_rfl) (by kernel_rfl) (fun _ _ _ h => h) rfl (Or.inl ⟨by rfl, fun W hW => by go_simp⟩) hS ?_
        simp only [Act.put, List.setIfInBounds_toArray, List.set_cons_zero, List.set_cons_succ]
        have hG9 := only_set (grown_of_below hS) (p := ⟨k7, 2, none⟩) hk7 (.slice A' (3 + r) c')
        have hb10 := hb9.set_ 2 (.slice A' (3 + r) c')
        simp only [List.setIfInBounds_toArray, List.set_cons_zero, List.set_cons_succ] at hb10
        have hs10 : SubV (fun q => q ≠ k7) (u9.setCell ⟨k7, 2, none⟩ (.slice A' (3 + r) c')) ([txt YS, txt N1, .mk true ⟨#[]⟩ (ls.map logIt)] ++ [txt P1, txt P2].take r) (.slice A' (3 + r) c') := hsub9.keep fun p (hp : p.block ≠ k7) u hu => by rw [World.cell?_setCell_far _ _ _ _ (fun e => hp e.symm)]; exact hu
        refine held_one (i := 14) (by kernel_rfl) ?_
        refine held_store rfl rfl (exec_store1 (.tmp 37) (.tmp 36) rfl rfl rfl hb9 (by simp)) (below_of_grown hG9) ?_
        refine wpAnyH_done (by kernel_rfl) ?_ _
        go_wp2_with fail
        go_meet
        exact ⟨A', c', rfl, hb10, hs10, hG9⟩
    · refine held_enter (some 28) rfl rfl 24 #[.int .u64 (nonce : Int)] (exec_call1 _ (.tmp 27) _ rfl _ rfl (enters_of Tryz.func24 (by kernel_rfl) rfl _ _)) rfl ((HNU.out u0).mono ?_)
      rintro e v8 ⟨rfl, hg⟩
      replace hS : Below w2.heap.size w2 v8 := hS.trans ((below_of_grown hg).mono hS.size)
      refine ⟨_, rfl, hS, ?_⟩
      simp only [Act.put, List.setIfInBounds_toArray, List.set_cons_zero, List.set_cons_succ]
      replace hb7 := hb7.grown hg (by simp)
      replace hsub := hsub.grown hg
      clear hg
      refine held_two (i := 1) (j := 7) (by kernel_rfl) ?_ ?_
      · refine held_value (some 25) rfl rfl (.slice (some ⟨z, 0, none⟩) 3 3) (exec_load1 43 (.tmp 24) rfl _ rfl _ _ Tryz.underlying43 rfl (hb7.cell 2)) rfl hS ?_
        simp only [Act.put, List.setIfInBounds_toArray, List.set_cons_zero, List.set_cons_succ]
        refine held_one (i := 7) (by kernel_rfl) ?_
        refine held_enter (some 31) rfl rfl 24 #[.int .u64 (version : Int)] (exec_call1 _ (.tmp 30) _ rfl _ rfl (enters_of Tryz.func24 (by kernel_rfl) rfl _ _)) rfl ((HNV.out v8).mono ?_)
        rintro e v10 ⟨rfl, hg⟩
        replace hS : Below w2.heap.size w2 v10 := hS.trans ((below_of_grown hg).mono hS.size)
        refine ⟨_, rfl, hS, ?_⟩
        simp only [Act.put, List.setIfInBounds_toArray, List.set_cons_zero, List.set_cons_succ]
        replace hb7 := hb7.grown hg (by simp)
        replace hsub := hsub.grown hg
        clear hg
        refine held_two (i := 8) (j := 10) (by kernel_rfl) ?_ ?_
        · have hy := Blk.new v10 45 #[.bool false, .string P1, .slice none 0 0, .bool false, .string P2, .slice none 0 0]
          replace hS := hS.alloc hS.size (.cells #[.bool false, .string P1, .slice none 0 0, .bool false, .string P2, .slice none 0 0] 45)
          replace hb7 := hb7.alloc (.cells #[.bool false, .string P1, .slice none 0 0, .bool false, .string P2, .slice none 0 0] 45)
          replace hsub := hsub.grown (only_alloc (World.grownBy.refl v10 none) (.cells #[.bool false, .string P1, .slice none 0 0, .bool false, .string P2, .slice none 0 0] 45))
          refine held_value (some 32) rfl rfl (.slice (some ⟨v10.heap.size, 0, none⟩) 2 2) (w' := v10.alloc (.cells #[.bool false, .string P1, .slice none 0 0, .bool false, .string P2, .slice none 0 0] 45)) (by go_simp <;> rfl) rfl hS ?_
          simp only [Act.put, List.setIfInBounds_toArray, List.set_cons_zero, List.set_cons_succ]
          obtain ⟨y, hy0⟩ : ∃ z, v10.heap.size = z := ⟨_, rfl⟩
          rw [hy0] at hy ⊢
          clear hy0
          generalize v10.alloc (.cells #[.bool false, .string P1, .slice none 0 0, .bool false, .string P2, .slice none 0 0] 45) = v11 at *
          refine held_one (i := 10) (by kernel_rfl) ?_
          refine held_enter (some 34) rfl rfl 16 #[.agg #[.int .i64 kind, .bool status, .int .u64 (gas : Int), .slice A n c, .bool full, .int .u64 (nonce : Int), .int .u64 (version : Int)]] (exec_call1 _ (.tmp 33) _ rfl _ rfl (enters_of Tryz.func16 (by kernel_rfl) rfl _ _)) rfl ((HFO.out v11).mono ?_)
          rintro e v12 ⟨rfl, hg⟩
          replace hS : Below w2.heap.size w2 v12 := hS.trans ((below_of_grown hg).mono hS.size)
          refine ⟨_, rfl, hS, ?_⟩
          simp only [Act.put, List.setIfInBounds_toArray, List.set_cons_zero, List.set_cons_succ]
          replace hb7 := hb7.grown hg (by simp)
          replace hsub := hsub.grown hg
          replace hy := hy.grown hg (by simp)
          clear hg
          refine held_take (i := 11) (v := .slice (some ⟨y, 0, none⟩) r 2) (some 35) rfl (by kernel_rfl) (by kernel_rfl) (by kernel_rfl) (fun _ _ _ h => h) rfl (Or.inl ⟨by rfl, fun W hW => by have := HR2.out; go_simp <;> omega⟩) hS ?_
          simp only [Act.put, List.setIfInBounds_toArray, List.set_cons_zero, List.set_cons_succ]
          obtain ⟨A', c', u9, hrun, hsub9, hg9⟩ := run_rcp_more v12 k7 z y YS N1 (ls.map logIt) P1 P2 r HR2.out i0 _ hi hz0 hzs hzb rfl 43 hb7.lt hsub hy
          have hb9 := hb7.grown hg9 (by simp)
          replace hS := hS.trans ((below_of_grown hg9).mono hS.size)
          refine held_one (i := 12) (by kernel_rfl) ?_
          refine held_value (some 36) rfl rfl (.slice A' (3 + r) c') (exec_append (.tmp 25) (.tmp 35) 43 rfl _ _ _ rfl rfl hrun) rfl hS ?_
          simp only [Act.put, List.setIfInBounds_toArray, List.set_cons_zero, List.set_cons_succ]
          refine held_take (i := 13) (v := .pointer (some ⟨k7, 2, none⟩)) (some 37) rfl (by kernel_rfl) (by kernel_rfl) (by kernel_rfl) (fun _ _ _ h => h) rfl (Or.inl ⟨by rfl, fun W hW => by go_simp⟩) hS ?_
          simp only [Act.put, List.setIfInBounds_toArray, List.set_cons_zero, List.set_cons_succ]
          have hG9 := only_set (grown_of_below hS) (p := ⟨k7, 2, none⟩) hk7 (.slice A' (3 + r) c')
          have hb10 := hb9.set_ 2 (.slice A' (3 + r) c')
          simp only [List.setIfInBounds_toArray, List.set_cons_zero, List.set_cons_succ] at hb10
          have hs10 : SubV (fun q => q ≠ k7) (u9.setCell ⟨k7, 2, none⟩ (.slice A' (3 + r) c')) ([txt YS, txt N1, .mk true ⟨#[]⟩ (ls.map logIt)] ++ [txt P1, txt P2].take r) (.slice A' (3 + r) c') := hsub9.keep fun p (hp : p.block ≠ k7) u hu => by rw [World.cell?_setCell_far _ _ _ _ (fun e => hp e.symm)]; exact hu
          refine held_one (i := 14) (by kernel_rfl) ?_
          refine held_store rfl rfl (exec_store1 (.tmp 37) (.tmp 36) rfl rfl rfl hb9 (by simp)) (below_of_grown hG9) ?_
          refine wpAnyH_done (by kernel_rfl) ?_ _
          go_wp2_with fail
          go_meet
          exact ⟨A', c', rfl, hb10, hs10, hG9⟩
        · refine held_enter (some 34) rfl rfl 16 #[.agg #[.int .i64 kind, .bool status, .int .u64 (gas : Int), .slice A n c, .bool full, .int .u64 (nonce : Int), .int .u64 (version : Int)]] (exec_call1 _ (.tmp 33) _ rfl _ rfl (enters_of Tryz.func16 (by kernel_rfl) rfl _ _)) rfl ((HFO.out v10).mono ?_)
          rintro e v13 ⟨rfl, hg⟩
          replace hS : Below w2.heap.size w2 v13 := hS.trans ((below_of_grown hg).mono hS.size)
          refine ⟨_, rfl, hS, ?_⟩
          simp only [Act.put, List.setIfInBounds_toArray, List.set_cons_zero, List.set_cons_succ]
          replace hb7 := hb7.grown hg (by simp)
          replace hsub := hsub.grown hg
          clear hg
          refine held_one (i := 8) (by kernel_rfl) ?_
          have hy := Blk.new v13 45 #[.bool false, .string P1, .slice none 0 0, .bool false, .string P2, .slice none 0 0]
          replace hS := hS.alloc hS.size (.cells #[.bool false, .string P1, .slice none 0 0, .bool false, .string P2, .slice none 0 0] 45)
          replace hb7 := hb7.alloc (.cells #[.bool false, .string P1, .slice none 0 0, .bool false, .string P2, .slice none 0 0] 45)
          replace hsub := hsub.grown (only_alloc (World.grownBy.refl v13 none) (.cells #[.bool false, .string P1, .slice none 0 0, .bool false, .string P2, .slice none 0 0] 45))
          refine held_value (some 32) rfl rfl (.slice (some ⟨v13.heap.size, 0, none⟩) 2 2) (w' := v13.alloc (.cells #[.bool false, .string P1, .slice none 0 0, .bool false, .string P2, .slice none 0 0] 45)) (by go_simp <;> rfl) rfl hS ?_
          simp only [Act.put, List.setIfInBounds_toArray, List.set_cons_zero, List.set_cons_succ]
          obtain ⟨y, hy0⟩ : ∃ z, v13.heap.size = z := ⟨_, rfl⟩
          rw [hy0] at hy ⊢
          clear hy0
          generalize v13.alloc (.cells #[.bool false, .string P1, .slice none 0 0, .bool false, .string P2, .slice none 0 0] 45) = v14 at *
          refine held_take (i := 11) (v := .slice (some ⟨y, 0, none⟩) r 2) (some 35) rfl (by kernel_rfl) (by kernel_rfl) (by kernel_rfl) (fun _ _ _ h => h) rfl (Or.inl ⟨by rfl, fun W hW => by have := HR2.out; go_simp <;> omega⟩) hS ?_
          simp only [Act.put, List.setIfInBounds_toArray, List.set_cons_zero, List.set_cons_succ]
          obtain ⟨A', c', u9, hrun, hsub9, hg9⟩ := run_rcp_more v14 k7 z y YS N1 (ls.map logIt) P1 P2 r HR2.out i0 _ hi hz0 hzs hzb rfl 43 hb7.lt hsub hy
          have hb9 := hb7.grown hg9 (by simp)
          replace hS := hS.trans ((below_of_grown hg9).mono hS.size)
          refine held_one (i := 12) (by kernel_rfl) ?_
          refine held_value (some 36) rfl rfl (.slice A' (3 + r) c') (exec_append (.tmp 25) (.tmp 35) 43 rfl _ _ _ rfl rfl hrun) rfl hS ?_
          simp only [Act.put, List.setIfInBounds_toArray, List.set_cons_zero, List.set_cons_succ]
          refine held_take (i := 13) (v := .pointer (some ⟨k7, 2, none⟩)) (some 37) rfl (by kernel_rfl) (by kernel_rfl) (by kernel_rfl) (fun _ _ _ h => h) rfl (Or.inl ⟨by rfl, fun W hW => by go_simp⟩) hS ?_
          simp only [Act.put, List.setIfInBounds_toArray, List.set_cons_zero, List.set_cons_succ]
          have hG9 := only_set (grown_of_below hS) (p := ⟨k7, 2, none⟩) hk7 (.slice A' (3 + r) c')
          have hb10 := hb9.set_ 2 (.slice A' (3 + r) c')
          simp only [List.setIfInBounds_toArray, List.set_cons_zero, List.set_cons_succ] at hb10
          have hs10 : SubV (fun q => q ≠ k7) (u9.setCell ⟨k7, 2, none⟩ (.slice A' (3 + r) c')) ([txt YS, txt N1, .mk true ⟨#[]⟩ (ls.map logIt)] ++ [txt P1, txt P2].take r) (.slice A' (3 + r) c') := hsub9.keep fun p (hp : p.block ≠ k7) u hu => by rw [World.cell?_setCell_far _ _ _ _ (fun e => hp e.symm)]; exact hu
          refine held_one (i := 14) (by kernel_rfl) ?_
          refine held_store rfl rfl (exec_store1 (.tmp 37) (.tmp 36) rfl rfl rfl hb9 (by simp)) (below_of_grown hG9) ?_
          refine wpAnyH_done (by kernel_rfl) ?_ _
          go_wp2_with fail
          go_meet
          exact ⟨A', c', rfl, hb10, hs10, hG9⟩
      · refine held_enter (some 31) rfl rfl 24 #[.int .u64 (version : Int)] (exec_call1 _ (.tmp 30) _ rfl _ rfl (enters_of Tryz.func24 (by kernel_rfl) rfl _ _)) rfl ((HNV.out v8).mono ?_)
        rintro e v15 ⟨rfl, hg⟩
        replace hS : Below w2.heap.size w2 v15 := hS.trans ((below_of_grown hg).mono hS.size)
        refine ⟨_, rfl, hS, ?_⟩
        simp only [Act.put, List.setIfInBounds_toArray, List.set_cons_zero, List.set_cons_succ]
        replace hb7 := hb7.grown hg (by simp)
        replace hsub := hsub.grown hg
        clear hg
        refine held_three (i := 1) (j := 8) (l := 10) (by kernel_rfl) ?_ ?_ ?_
        · refine held_value (some 25) rfl rfl (.slice (some ⟨z, 0, none⟩) 3 3) (exec_load1 43 (.tmp 24) rfl _ rfl _ _ Tryz.underlying43 rfl (hb7.cell 2)) rfl hS ?_
          simp only [Act.put, List.setIfInBounds_toArray, List.set_cons_zero, List.set_cons_succ]
          refine held_two (i := 8) (j := 10) (by kernel_rfl) ?_ ?_
          · have hy := Blk.new v15 45 #[.bool false, .string P1, .slice none 0 0, .bool false, .string P2, .slice none 0 0]
            replace hS := hS.alloc hS.size (.cells #[.bool false, .string P1, .slice none 0 0, .bool false, .string P2, .slice none 0 0] 45)
            replace hb7 := hb7.alloc (.cells #[.bool false, .string P1, .slice none 0 0, .bool false, .string P2, .slice none 0 0] 45)
            replace hsub := hsub.grown (only_alloc (World.grownBy.refl v15 none) (.cells #[.bool false, .string P1, .slice none 0 0, .bool false, .string P2, .slice none 0 0] 45))
            refine held_value (some 32) rfl rfl (.slice (some ⟨v15.heap.size, 0, none⟩) 2 2) (w' := v15.alloc (.cells #[.bool false, .string P1, .slice none 0 0, .bool false, .string P2, .slice none 0 0] 45)) (by go_simp <;> rfl) rfl hS ?_
            simp only [Act.put, List.setIfInBounds_toArray, List.set_cons_zero, List.set_cons_succ]
            obtain ⟨y, hy0⟩ : ∃ z, v15.heap.size = z := ⟨_, rfl⟩
            rw [hy0] at hy ⊢
            clear hy0
            generalize v15.alloc (.cells #[.bool false, .string P1, .slice none 0 0, .bool false, .string P2, .slice none 0 0] 45) = v17 at *
            refine held_one (i := 10) (by kernel_rfl) ?_
            refine held_enter (some 34) rfl rfl 16 #[.agg #[.int .i64 kind, .bool status, .int .u64 (gas : Int), .slice A n c, .bool full, .int .u64 (nonce : Int), .int .u64 (version : Int)]] (exec_call1 _ (.tmp 33) _ rfl _ rfl (enters_of Tryz.func16 (by kernel_rfl) rfl _ _)) rfl ((HFO.out v17).mono ?_)
            rintro e v18 ⟨rfl, hg⟩
            replace hS : Below w2.heap.size w2 v18 := hS.trans ((below_of_grown hg).mono hS.size)
            refine ⟨_, rfl, hS, ?_⟩
            simp only [Act.put, List.setIfInBounds_toArray, List.set_cons_zero, List.set_cons_succ]
            replace hb7 := hb7.grown hg (by simp)
            replace hsub := hsub.grown hg
            replace hy := hy.grown hg (by simp)
            clear hg
            refine held_take (i := 11) (v := .slice (some ⟨y, 0, none⟩) r 2) (some 35) rfl (by kernel_rfl) (by kernel_rfl) (by kernel_rfl) (fun _ _ _ h => h) rfl (Or.inl ⟨by rfl, fun W hW => by have := HR2.out; go_simp <;> omega⟩) hS ?_
            simp only [Act.put, List.setIfInBounds_toArray, List.set_cons_zero, List.set_cons_succ]
            obtain ⟨A', c', u9, hrun, hsub9, hg9⟩ := run_rcp_more v18 k7 z y YS N1 (ls.map logIt) P1 P2 r HR2.out i0 _ hi hz0 hzs hzb rfl 43 hb7.lt hsub hy
            have hb9 := hb7.grown hg9 (by simp)
            replace hS := hS.trans ((below_of_grown hg9).mono hS.size)
            refine held_one (i := 12) (by kernel_rfl) ?_
            refine held_value (some 36) rfl rfl (.slice A' (3 + r) c') (exec_append (.tmp 25) (.tmp 35) 43 rfl _ _ _ rfl rfl hrun) rfl hS ?_
            simp only [Act.put, List.setIfInBounds_toArray, List.set_cons_zero, List.set_cons_succ]
            refine held_take (i := 13) (v := .pointer (some ⟨k7, 2, none⟩)) (some 37) rfl (by kernel_rfl) (by kernel_rfl) (by kernel_rfl) (fun _ _ _ h => h) rfl (Or.inl ⟨by rfl, fun W hW => by go_simp⟩) hS ?_
            simp only [Act.put, List.setIfInBounds_toArray, List.set_cons_zero, List.set_cons_succ]
            have hG9 := only_set (grown_of_below hS) (p := ⟨k7, 2, none⟩) hk7 (.slice A' (3 + r) c')
            have hb10 := hb9.set_ 2 (.slice A' (3 + r) c')
            simp only [List.setIfInBounds_toArray, List.set_cons_zero, List.set_cons_succ] at hb10
            have hs10 : SubV (fun q => q ≠ k7) (u9.setCell ⟨k7, 2, none⟩ (.slice A' (3 + r) c')) ([txt YS, txt N1, .mk true ⟨#[]⟩ (ls.map logIt)] ++ [txt P1, txt P2].take r) (.slice A' (3 + r) c') := hsub9.keep fun p (hp : p.block ≠ k7) u hu => by rw [World.cell?_setCell_far _ _ _ _ (fun e => hp e.symm)]; exact hu
            refine held_one (i := 14) (by kernel_rfl) ?_
            refine held_store rfl rfl (exec_store1 (.tmp 37) (.tmp 36) rfl rfl rfl hb9 (by simp)) (below_of_grown hG9) ?_
            refine wpAnyH_done (by kernel_rfl) ?_ _
            go_wp2_with fail
            go_meet
            exact ⟨A', c', rfl, hb10, hs10, hG9⟩
          · refine held_enter (some 34) rfl rfl 16 #[.agg #[.int .i64 kind, .bool status, .int .u64 (gas : Int), .slice A n c, .bool full, .int .u64 (nonce : Int), .int .u64 (version : Int)]] (exec_call1 _ (.tmp 33) _ rfl _ rfl (enters_of Tryz.func16 (by kernel_rfl) rfl _ _)) rfl ((HFO.out v15).mono ?_)
            rintro e v19 ⟨rfl, hg⟩
            replace hS : Below w2.heap.size w2 v19 := hS.trans ((below_of_grown hg).mono hS.size)
            refine ⟨_, rfl, hS, ?_⟩
            simp only [Act.put, List.setIfInBounds_toArray, List.set_cons_zero, List.set_cons_succ]
            replace hb7 := hb7.grown hg (by simp)
            replace hsub := hsub.grown hg
            clear hg
            refine held_one (i := 8) (by kernel_rfl) ?_
            have hy := Blk.new v19 45 #[.bool false, .string P1, .slice none 0 0, .bool false, .string P2, .slice none 0 0]
            replace hS := hS.alloc hS.size (.cells #[.bool false, .string P1, .slice none 0 0, .bool false, .string P2, .slice none 0 0] 45)
            replace hb7 := hb7.alloc (.cells #[.bool false, .string P1, .slice none 0 0, .bool false, .string P2, .slice none 0 0] 45)
            replace hsub := hsub.grown (only_alloc (World.grownBy.refl v19 none) (.cells #[.bool false, .string P1, .slice none 0 0, .bool false, .string P2, .slice none 0 0] 45))
            refine held_value (some 32) rfl rfl (.slice (some ⟨v19.heap.size, 0, none⟩) 2 2) (w' := v19.alloc (.cells #[.bool false, .string P1, .slice none 0 0, .bool false, .string P2, .slice none 0 0] 45)) (by go_simp <;> rfl) rfl hS ?_
            simp only [Act.put, List.setIfInBounds_toArray, List.set_cons_zero, List.set_cons_succ]
            obtain ⟨y, hy0⟩ : ∃ z, v19.heap.size = z := ⟨_, rfl⟩
            rw [hy0] at hy ⊢
            clear hy0
            generalize v19.alloc (.cells #[.bool false, .string P1, .slice none 0 0, .bool false, .string P2, .slice none 0 0] 45) = v20 at *
            refine held_take (i := 11) (v := .slice (some ⟨y, 0, none⟩) r 2) (some 35) rfl (by kernel_rfl) (by kernel_rfl) (by kernel_rfl) (fun _ _ _ h => h) rfl (Or.inl ⟨by rfl, fun W hW => by have := HR2.out; go_simp <;> omega⟩) hS ?_
            simp only [Act.put, List.setIfInBounds_toArray, List.set_cons_zero, List.set_cons_succ]
            obtain ⟨A', c', u9, hrun, hsub9, hg9⟩ := run_rcp_more v20 k7 z y YS N1 (ls.map logIt) P1 P2 r HR2.out i0 _ hi hz0 hzs hzb rfl 43 hb7.lt hsub hy
            have hb9 := hb7.grown hg9 (by simp)
            replace hS := hS.trans ((below_of_grown hg9).mono hS.size)
            refine held_one (i := 12) (by kernel_rfl) ?_
            refine held_value (some 36) rfl rfl (.slice A' (3 + r) c') (exec_append (.tmp 25) (.tmp 35) 43 rfl _ _ _ rfl rfl hrun) rfl hS ?_
            simp only [Act.put, List.setIfInBounds_toArray, List.set_cons_zero, List.set_cons_succ]
            refine held_take (i := 13) (v := .pointer (some ⟨k7, 2, none⟩)) (some 37) rfl (by kernel_rfl) (by kernel_rfl) (by kernel_rfl) (fun _ _ _ h => h) rfl (Or.inl ⟨by rfl, fun W hW => by go_simp⟩) hS ?_
            simp only [Act.put, List.setIfInBounds_toArray, List.set_cons_zero, List.set_cons_succ]
            have hG9 := only_set (grown_of_below hS) (p := ⟨k7, 2, none⟩) hk7 (.slice A' (3 + r) c')
            have hb10 := hb9.set_ 2 (.slice A' (3 + r) c')
            simp only [List.setIfInBounds_toArray, List.set_cons_zero, List.set_cons_succ] at hb10
            have hs10 : SubV (fun q => q ≠ k7) (u9.setCell ⟨k7, 2, none⟩ (.slice A' (3 + r) c')) ([txt YS, txt N1, .mk true ⟨#[]⟩ (ls.map logIt)] ++ [txt P1, txt P2].take r) (.slice A' (3 + r) c') := hsub9.keep fun p (hp : p.block ≠ k7) u hu => by rw [World.cell?_setCell_far _ _ _ _ (fun e => hp e.symm)]; exact hu
            refine held_one (i := 14) (by kernel_rfl) ?_
            refine held_store rfl rfl (exec_store1 (.tmp 37) (.tmp 36) rfl rfl rfl hb9 (by simp)) (below_of_grown hG9) ?_
            refine wpAnyH_done (by kernel_rfl) ?_ _
            go_wp2_with fail
            go_meet
            exact ⟨A', c', rfl, hb10, hs10, hG9⟩
        · have hy := Blk.new v15 45 #[.bool false, .string P1, .slice none 0 0, .bool false, .string P2, .slice none 0 0]
          replace hS := hS.alloc hS.size (.cells #[.bool false, .string P1, .slice none 0 0, .bool false, .string P2, .slice none 0 0] 45)
          replace hb7 := hb7.alloc (.cells #[.bool false, .string P1, .slice none 0 0, .bool false, .string P2, .slice none 0 0] 45)
          replace hsub := hsub.grown (only_alloc (World.grownBy.refl v15 none) (.cells #[.bool false, .string P1, .slice none 0 0, .bool false, .string P2, .slice none 0 0] 45))
          refine held_value (some 32) rfl rfl (.slice (some ⟨v15.heap.size, 0, none⟩) 2 2) (w' := v15.alloc (.cells #[.bool false, .string P1, .slice none 0 0, .bool false, .string P2, .slice none 0 0] 45)) (by go_simp <;> rfl) rfl hS ?_
          simp only [Act.put, List.setIfInBounds_toArray, List.set_cons_zero, List.set_cons_succ]
          obtain ⟨y, hy0⟩ : ∃ z, v15.heap.size = z := ⟨_, rfl⟩
          rw [hy0] at hy ⊢
          clear hy0
          generalize v15.alloc (.cells #[.bool false, .string P1, .slice none 0 0, .bool false, .string P2, .slice none 0 0] 45) = v21 at *
          refine held_two (i := 1) (j := 10) (by kernel_rfl) ?_ ?_
          · refine held_value (some 25) rfl rfl (.slice (some ⟨z, 0, none⟩) 3 3) (exec_load1 43 (.tmp 24) rfl _ rfl _ _ Tryz.underlying43 rfl (hb7.cell 2)) rfl hS ?_
            simp only [Act.put, List.setIfInBounds_toArray, List.set_cons_zero, List.set_cons_succ]
            refine held_one (i := 10) (by kernel_rfl) ?_
            refine held_enter (some 34) rfl rfl 16 #[.agg #[.int .i64 kind, .bool status, .int .u64 (gas : Int), .slice A n c, .bool full, .int .u64 (nonce : Int), .int .u64 (version : Int)]] (exec_call1 _ (.tmp 33) _ rfl _ rfl (enters_of Tryz.func16 (by kernel_rfl) rfl _ _)) rfl ((HFO.out v21).mono ?_)
            rintro e v23 ⟨rfl, hg⟩
            replace hS : Below w2.heap.size w2 v23 := hS.trans ((below_of_grown hg).mono hS.size)
            refine ⟨_, rfl, hS, ?_⟩
            simp only [Act.put, List.setIfInBounds_toArray, List.set_cons_zero, List.set_cons_succ]
            replace hb7 := hb7.grown hg (by simp)
            replace hsub := hsub.grown hg
            replace hy := hy.grown hg (by simp)
            clear hg
            refine held_take (i := 11) (v := .slice (some ⟨y, 0, none⟩) r 2) (some 35) rfl (by kernel_rfl) (by kernel_rfl) (by kernel_rfl) (fun _ _ _ h => h) rfl (Or.inl ⟨by rfl, fun W hW => by have := HR2.out; go_simp <;> omega⟩) hS ?_
            simp only [Act.put, List.setIfInBounds_toArray, List.set_cons_zero, List.set_cons_succ]
            obtain ⟨A', c', u9, hrun, hsub9, hg9⟩ := run_rcp_more v23 k7 z y YS N1 (ls.map logIt) P1 P2 r HR2.out i0 _ hi hz0 hzs hzb rfl 43 hb7.lt hsub hy
            have hb9 := hb7.grown hg9 (by simp)
            replace hS := hS.trans ((below_of_grown hg9).mono hS.size)
            refine held_one (i := 12) (by kernel_rfl) ?_
            refine held_value (some 36) rfl rfl (.slice A' (3 + r) c') (exec_append (.tmp 25) (.tmp 35) 43 rfl _ _ _ rfl rfl hrun) rfl hS ?_
            simp only [Act.put, List.setIfInBounds_toArray, List.set_cons_zero, List.set_cons_succ]
            refine held_take (i := 13) (v := .pointer (some ⟨k7, 2, none⟩)) (some 37) rfl (by kernel_rfl) (by kernel_rfl) (by kernel_rfl) (fun _ _ _ h => h) rfl (Or.inl ⟨by rfl, fun W hW => by go_simp⟩) hS ?_
            simp only [Act.put, List.setIfInBounds_toArray, List.set_cons_zero, List.set_cons_succ]
            have hG9 := only_set (grown_of_below hS) (p := ⟨k7, 2, none⟩) hk7 (.slice A' (3 + r) c')
            have hb10 := hb9.set_ 2 (.slice A' (3 + r) c')
            simp only [List.setIfInBounds_toArray, List.set_cons_zero, List.set_cons_succ] at hb10
            have hs10 : SubV (fun q => q ≠ k7) (u9.setCell ⟨k7, 2, none⟩ (.slice A' (3 + r) c')) ([txt YS, txt N1, .mk true ⟨#[]⟩ (ls.map logIt)] ++ [txt P1, txt P2].take r) (.slice A' (3 + r) c') := hsub9.keep fun p (hp : p.block ≠ k7) u hu => by rw [World.cell?_setCell_far _ _ _ _ (fun e => hp e.symm)]; exact hu
            refine held_one (i := 14) (by kernel_rfl) ?_
            refine held_store rfl rfl (exec_store1 (.tmp 37) (.tmp 36) rfl rfl rfl hb9 (by simp)) (below_of_grown hG9) ?_
            refine wpAnyH_done (by kernel_rfl) ?_ _
            go_wp2_with fail
            go_meet
            exact ⟨A', c', rfl, hb10, hs10, hG9⟩
          · refine held_enter (some 34) rfl rfl 16 #[.agg #[.int .i64 kind, .bool status, .int .u64 (gas : Int), .slice A n c, .bool full, .int .u64 (nonce : Int), .int .u64 (version : Int)]] (exec_call1 _ (.tmp 33) _ rfl _ rfl (enters_of Tryz.func16 (by kernel_rfl) rfl _ _)) rfl ((HFO.out v21).mono ?_)
            rintro e v24 ⟨rfl, hg⟩
            replace hS : Below w2.heap.size w2 v24 := hS.trans ((below_of_grown hg).mono hS.size)
            refine ⟨_, rfl, hS, ?_⟩
            simp only [Act.put, List.setIfInBounds_toArray, List.set_cons_zero, List.set_cons_succ]
            replace hb7 := hb7.grown hg (by simp)
            replace hsub := hsub.grown hg
            replace hy := hy.grown hg (by simp)
            clear hg
            refine held_take (i := 11) (v := .slice (some ⟨y, 0, none⟩) r 2) (some 35) rfl (by kernel_rfl) (by kernel_rfl) (by kernel_rfl) (fun _ _ _ h => h) rfl (Or.inl ⟨by rfl, fun W hW => by have := HR2.out; go_simp <;> omega⟩) hS ?_
            simp only [Act.put, List.setIfInBounds_toArray, List.set_cons_zero, List.set_cons_succ]
            refine held_one (i := 1) (by kernel_rfl) ?_
            refine held_value (some 25) rfl rfl (.slice (some ⟨z, 0, none⟩) 3 3) (exec_load1 43 (.tmp 24) rfl _ rfl _ _ Tryz.underlying43 rfl (hb7.cell 2)) rfl hS ?_
            simp only [Act.put, List.setIfInBounds_toArray, List.set_cons_zero, List.set_cons_succ]
            obtain ⟨A', c', u9, hrun, hsub9, hg9⟩ := run_rcp_more v24 k7 z y YS N1 (ls.map logIt) P1 P2 r HR2.out i0 _ hi hz0 hzs hzb rfl 43 hb7.lt hsub hy
            have hb9 := hb7.grown hg9 (by simp)
            replace hS := hS.trans ((below_of_grown hg9).mono hS.size)
            refine held_one (i := 12) (by kernel_rfl) ?_
            refine held_value (some 36) rfl rfl (.slice A' (3 + r) c') (exec_append (.tmp 25) (.tmp 35) 43 rfl _ _ _ rfl rfl hrun) rfl hS ?_
            simp only [Act.put, List.setIfInBounds_toArray, List.set_cons_zero, List.set_cons_succ]
            refine held_take (i := 13) (v := .pointer (some ⟨k7, 2, none⟩)) (some 37) rfl (by kernel_rfl) (by kernel_rfl) (by kernel_rfl) (fun _ _ _ h => h) rfl (Or.inl ⟨by rfl, fun W hW => by go_simp⟩) hS ?_
            simp only [Act.put, List.setIfInBounds_toArray, List.set_cons_zero, List.set_cons_succ]
            have hG9 := only_set (grown_of_below hS) (p := ⟨k7, 2, none⟩) hk7 (.slice A' (3 + r) c')
            have hb10 := hb9.set_ 2 (.slice A' (3 + r) c')
            simp only [List.setIfInBounds_toArray, List.set_cons_zero, List.set_cons_succ] at hb10
            have hs10 : SubV (fun q => q ≠ k7) (u9.setCell ⟨k7, 2, none⟩ (.slice A' (3 + r) c')) ([txt YS, txt N1, .mk true ⟨#[]⟩ (ls.map logIt)] ++ [txt P1, txt P2].take r) (.slice A' (3 + r) c') := hsub9.keep fun p (hp : p.block ≠ k7) u hu => by rw [World.cell?_setCell_far _ _ _ _ (fun e => hp e.symm)]; exact hu
            refine held_one (i := 14) (by kernel_rfl) ?_
            refine held_store rfl rfl (exec_store1 (.tmp 37) (.tmp 36) rfl rfl rfl hb9 (by simp)) (below_of_grown hG9) ?_
            refine wpAnyH_done (by kernel_rfl) ?_ _
            go_wp2_with fail
            go_meet
            exact ⟨A', c', rfl, hb10, hs10, hG9⟩
        · refine held_enter (some 34) rfl rfl 16 #[.agg #[.int .i64 kind, .bool status, .int .u64 (gas : Int), .slice A n c, .bool full, .int .u64 (nonce : Int), .int .u64 (version : Int)]] (exec_call1 _ (.tmp 33) _ rfl _ rfl (enters_of Tryz.func16 (by kernel_rfl) rfl _ _)) rfl ((HFO.out v15).mono ?_)
          rintro e v25 ⟨rfl, hg⟩
          replace hS : Below w2.heap.size w2 v25 := hS.trans ((below_of_grown hg).mono hS.size)
          refine ⟨_, rfl, hS, ?_⟩
          simp only [Act.put, List.setIfInBounds_toArray, List.set_cons_zero, List.set_cons_succ]
          replace hb7 := hb7.grown hg (by simp)
          replace hsub := hsub.grown hg
          clear hg
          refine held_two (i := 1) (j := 8) (by kernel_rfl) ?_ ?_
          · refine held_value (some 25) rfl rfl (.slice (some ⟨z, 0, none⟩) 3 3) (exec_load1 43 (.tmp 24) rfl _ rfl _ _ Tryz.underlying43 rfl (hb7.cell 2)) rfl hS ?_
            simp only [Act.put, List.setIfInBounds_toArray, List.set_cons_zero, List.set_cons_succ]
            refine held_one (i := 8) (by kernel_rfl) ?_
            have hy := Blk.new v25 45 #[.bool false, .string P1, .slice none 0 0, .bool false, .string P2, .slice none 0 0]
            replace hS := hS.alloc hS.size (.cells #[.bool false, .string P1, .slice none 0 0, .bool false, .string P2, .slice none 0 0] 45)
            replace hb7 := hb7.alloc (.cells #[.bool false, .string P1, .slice none 0 0, .bool false, .string P2, .slice none 0 0] 45)
            replace hsub := hsub.grown (only_alloc (World.grownBy.refl v25 none) (.cells #[.bool false, .string P1, .slice none 0 0, .bool false, .string P2, .slice none 0 0] 45))
            refine held_value (some 32) rfl rfl (.slice (some ⟨v25.heap.size, 0, none⟩) 2 2) (w' := v25.alloc (.cells #[.bool false, .string P1, .slice none 0 0, .bool false, .string P2, .slice none 0 0] 45)) (by go_simp <;> rfl) rfl hS ?_
            simp only [Act.put, List.setIfInBounds_toArray, List.set_cons_zero, List.set_cons_succ]
            obtain ⟨y, hy0⟩ : ∃ z, v25.heap.size = z := ⟨_, rfl⟩
            rw [hy0] at hy ⊢
            clear hy0
            generalize v25.alloc (.cells #[.bool false, .string P1, .slice none 0 0, .bool false, .string P2, .slice none 0 0] 45) = v27 at *
            refine held_take (i := 11) (v := .slice (some ⟨y, 0, none⟩) r 2) (some 35) rfl (by kernel_rfl) (by kernel_rfl) (by kernel_rfl) (fun _ _ _ h => h) rfl (Or.inl ⟨by rfl, fun W hW => by have := HR2.out; go_simp <;> omega⟩) hS ?_
            simp only [Act.put, List.setIfInBounds_toArray, List.set_cons_zero, List.set_cons_succ]
            obtain ⟨A', c', u9, hrun, hsub9, hg9⟩ := run_rcp_more v27 k7 z y YS N1 (ls.map logIt) P1 P2 r HR2.out i0 _ hi hz0 hzs hzb rfl 43 hb7.lt hsub hy
            have hb9 := hb7.grown hg9 (by simp)
            replace hS := hS.trans ((below_of_grown hg9).mono hS.size)
            refine held_one (i := 12) (by kernel_rfl) ?_
            refine held_value (some 36) rfl rfl (.slice A' (3 + r) c') (exec_append (.tmp 25) (.tmp 35) 43 rfl _ _ _ rfl rfl hrun) rfl hS ?_
            simp only [Act.put, List.setIfInBounds_toArray, List.set_cons_zero, List.set_cons_succ]
            refine held_take (i := 13) (v := .pointer (some ⟨k7, 2, none⟩)) (some 37) rfl (by kernel_rfl) (by kernel_rfl) (by kernel_rfl) (fun _ _ _ h => h) rfl (Or.inl ⟨by rfl, fun W hW => by go_simp⟩) hS ?_
            simp only [Act.put, List.setIfInBounds_toArray, List.set_cons_zero, List.set_cons_succ]
            have hG9 := only_set (grown_of_below hS) (p := ⟨k7, 2, none⟩) hk7 (.slice A' (3 + r) c')
            have hb10 := hb9.set_ 2 (.slice A' (3 + r) c')
            simp only [List.setIfInBounds_toArray, List.set_cons_zero, List.set_cons_succ] at hb10
            have hs10 : SubV (fun q => q ≠ k7) (u9.setCell ⟨k7, 2, none⟩ (.slice A' (3 + r) c')) ([txt YS, txt N1, .mk true ⟨#[]⟩ (ls.map logIt)] ++ [txt P1, txt P2].take r) (.slice A' (3 + r) c') := hsub9.keep fun p (hp : p.block ≠ k7) u hu => by rw [World.cell?_setCell_far _ _ _ _ (fun e => hp e.symm)]; exact hu
            refine held_one (i := 14) (by kernel_rfl) ?_
            refine held_store rfl rfl (exec_store1 (.tmp 37) (.tmp 36) rfl rfl rfl hb9 (by simp)) (below_of_grown hG9) ?_
            refine wpAnyH_done (by kernel_rfl) ?_ _
            go_wp2_with fail
            go_meet
            exact ⟨A', c', rfl, hb10, hs10, hG9⟩
          · have hy := Blk.new v25 45 #[.bool false, .string P1, .slice none 0 0, .bool false, .string P2, .slice none 0 0]
            replace hS := hS.alloc hS.size (.cells #[.bool false, .string P1, .slice none 0 0, .bool false, .string P2, .slice none 0 0] 45)
            replace hb7 := hb7.alloc (.cells #[.bool false, .string P1, .slice none 0 0, .bool false, .string P2, .slice none 0 0] 45)
            replace hsub := hsub.grown (only_alloc (World.grownBy.refl v25 none) (.cells #[.bool false, .string P1, .slice none 0 0, .bool false, .string P2, .slice none 0 0] 45))
            refine held_value (some 32) rfl rfl (.slice (some ⟨v25.heap.size, 0, none⟩) 2 2) (w' := v25.alloc (.cells #[.bool false, .string P1, .slice none 0 0, .bool false, .string P2, .slice none 0 0] 45)) (by go_simp <;> rfl) rfl hS ?_
            simp only [Act.put, List.setIfInBounds_toArray, List.set_cons_zero, List.set_cons_succ]
            obtain ⟨y, hy0⟩ : ∃ z, v25.heap.size = z := ⟨_, rfl⟩
            rw [hy0] at hy ⊢
            clear hy0
            generalize v25.alloc (.cells #[.bool false, .string P1, .slice none 0 0, .bool false, .string P2, .slice none 0 0] 45) = v28 at *
            refine held_take (i := 11) (v := .slice (some ⟨y, 0, none⟩) r 2) (some 35) rfl (by kernel_rfl) (by kernel_rfl) (by kernel_rfl) (fun _ _ _ h => h) rfl (Or.inl ⟨by rfl, fun W hW => by have := HR2.out; go_simp <;> omega⟩) hS ?_
            simp only [Act.put, List.setIfInBounds_toArray, List.set_cons_zero, List.set_cons_succ]
            refine held_one (i := 1) (by kernel_rfl) ?_
            refine held_value (some 25) rfl rfl (.slice (some ⟨z, 0, none⟩) 3 3) (exec_load1 43 (.tmp 24) rfl _ rfl _ _ Tryz.underlying43 rfl (hb7.cell 2)) rfl hS ?_
            simp only [Act.put, List.setIfInBounds_toArray, List.set_cons_zero, List.set_cons_succ]
            obtain ⟨A', c', u9, hrun, hsub9, hg9⟩ := run_rcp_more v28 k7 z y YS N1 (ls.map logIt) P1 P2 r HR2.out i0 _ hi hz0 hzs hzb rfl 43 hb7.lt hsub hy
            have hb9 := hb7.grown hg9 (by simp)
            replace hS := hS.trans ((below_of_grown hg9).mono hS.size)
            refine held_one (i := 12) (by kernel_rfl) ?_
            refine held_value (some 36) rfl rfl (.slice A' (3 + r) c') (exec_append (.tmp 25) (.tmp 35) 43 rfl _ _ _ rfl rfl hrun) rfl hS ?_
            simp only [Act.put, List.setIfInBounds_toArray, List.set_cons_zero, List.set_cons_succ]
            refine held_take (i := 13) (v := .pointer (some ⟨k7, 2, none⟩)) (some 37) rfl (by kernel_rfl) (by kernel_rfl) (by kernel_rfl) (fun _ _ _ h => h) rfl (Or.inl ⟨by rfl, fun W hW => by go_simp⟩) hS ?_
            simp only [Act.put, List.setIfInBounds_toArray, List.set_cons_zero, List.set_cons_succ]
            have hG9 := only_set (grown_of_below hS) (p := ⟨k7, 2, none⟩) hk7 (.slice A' (3 + r) c')
            have hb10 := hb9.set_ 2 (.slice A' (3 + r) c')
            simp only [List.setIfInBounds_toArray, List.set_cons_zero, List.set_cons_succ] at hb10
            have hs10 : SubV (fun q => q ≠ k7) (u9.setCell ⟨k7, 2, none⟩ (.slice A' (3 + r) c')) ([txt YS, txt N1, .mk true ⟨#[]⟩ (ls.map logIt)] ++ [txt P1, txt P2].take r) (.slice A' (3 + r) c') := hsub9.keep fun p (hp : p.block ≠ k7) u hu => by rw [World.cell?_setCell_far _ _ _ _ (fun e => hp e.symm)]; exact hu
            refine held_one (i := 14) (by kernel_rfl) ?_
            refine held_store rfl rfl (exec_store1 (.tmp 37) (.tmp 36) rfl rfl rfl hb9 (by simp)) (below_of_grown hG9) ?_
            refine wpAnyH_done (by kernel_rfl) ?_ _
            go_wp2_with fail
            go_meet
            exact ⟨A', c', rfl, hb10, hs10, hG9⟩
  case first =>
  have hgz := HB.out.lt
  have hr1 : ∀ V, Below w2.heap.size w2 V → V.cell? ⟨g, 1, none⟩ = some (.bool status) := fun V hV => (hV.cell (p := ⟨g, 1, none⟩) hgz).trans (HB.out.cell 1)
  have hr2 : ∀ V, Below w2.heap.size w2 V → V.cell? ⟨g, 2, none⟩ = some (.int .u64 (gas : Int)) := fun V hV => (hV.cell (p := ⟨g, 2, none⟩) hgz).trans (HB.out.cell 2)
  have hr3 : ∀ V, Below w2.heap.size w2 V → V.cell? ⟨g, 3, none⟩ = some (.slice A n c) := fun V hV => (hV.cell (p := ⟨g, 3, none⟩) hgz).trans (HB.out.cell 3)
  refine wp_region_held (S := fun W => Below w2.heap.size w2 W) (by kernel_rfl) ?_
  change wpAnyH _ _ _ _ _ _ _ _ w2.drew
  have hS : Below w2.heap.size w2 w2.drew := ⟨rfl, rfl, rfl, Nat.le_refl _, fun _ _ => rfl⟩
  generalize w2.drew = u0 at *
  refine held_take (i := 0) (v := .pointer (some ⟨g, 1, none⟩)) (some 13) rfl (by kernel_rfl) (by kernel_rfl) (by kernel_rfl) (fun _ _ _ h => h) rfl (Or.inl ⟨by rfl, fun W hW => by go_simp⟩) hS ?_
  simp only [Act.put, List.setIfInBounds_toArray, List.set_cons_zero, List.set_cons_succ]
  refine held_take (i := 1) (v := .bool status) (some 14) rfl (by kernel_rfl) (by kernel_rfl) (by kernel_rfl) (fun _ _ _ h => h) rfl (Or.inl ⟨by rfl, fun W hW => by have q := hr1 W hW; go_simp⟩) hS ?_
  simp only [Act.put, List.setIfInBounds_toArray, List.set_cons_zero, List.set_cons_succ]
  refine held_take (i := 3) (v := .pointer (some ⟨g, 2, none⟩)) (some 16) rfl (by kernel_rfl) (by kernel_rfl) (by kernel_rfl) (fun _ _ _ h => h) rfl (Or.inl ⟨by rfl, fun W hW => by go_simp⟩) hS ?_
  simp only [Act.put, List.setIfInBounds_toArray, List.set_cons_zero, List.set_cons_succ]
  refine held_take (i := 4) (v := .int .u64 (gas : Int)) (some 17) rfl (by kernel_rfl) (by kernel_rfl) (by kernel_rfl) (fun _ _ _ h => h) rfl (Or.inl ⟨by rfl, fun W hW => by have q := hr2 W hW; go_simp⟩) hS ?_
  simp only [Act.put, List.setIfInBounds_toArray, List.set_cons_zero, List.set_cons_succ]
  refine held_take (i := 6) (v := .pointer (some ⟨g, 3, none⟩)) (some 19) rfl (by kernel_rfl) (by kernel_rfl) (by kernel_rfl) (fun _ _ _ h => h) rfl (Or.inl ⟨by rfl, fun W hW => by go_simp⟩) hS ?_
  simp only [Act.put, List.setIfInBounds_toArray, List.set_cons_zero, List.set_cons_succ]
  refine held_take (i := 7) (v := .slice A n c) (some 20) rfl (by kernel_rfl) (by kernel_rfl) (by kernel_rfl) (fun _ _ _ h => h) rfl (Or.inl ⟨by rfl, fun W hW => by have q := hr3 W hW; go_simp⟩) hS ?_
  simp only [Act.put, List.setIfInBounds_toArray, List.set_cons_zero, List.set_cons_succ]
  clear hr1 hr2 hr3
  refine held_two (i := 2) (j := 11) (by kernel_rfl) ?_ ?_
  · refine held_enter (some 15) rfl rfl 23 #[.bool status] (exec_call1 _ (.tmp 14) _ rfl _ rfl (enters_of Tryz.func23 (by kernel_rfl) rfl _ _)) rfl ((HBO.out u0).mono ?_)
    rintro e v1 ⟨rfl, hg⟩
    replace hS : Below w2.heap.size w2 v1 := hS.trans ((below_of_grown hg).mono hS.size)
    refine ⟨_, rfl, hS, ?_⟩
    simp only [Act.put, List.setIfInBounds_toArray, List.set_cons_zero, List.set_cons_succ]
    clear hg
    refine held_two (i := 5) (j := 11) (by kernel_rfl) ?_ ?_
    · refine held_enter (some 18) rfl rfl 24 #[.int .u64 (gas : Int)] (exec_call1 _ (.tmp 17) _ rfl _ rfl (enters_of Tryz.func24 (by kernel_rfl) rfl _ _)) rfl ((HNU.out v1).mono ?_)
      rintro e v3 ⟨rfl, hg⟩
      replace hS : Below w2.heap.size w2 v3 := hS.trans ((below_of_grown hg).mono hS.size)
      refine ⟨_, rfl, hS, ?_⟩
      simp only [Act.put, List.setIfInBounds_toArray, List.set_cons_zero, List.set_cons_succ]
      clear hg
      refine held_two (i := 8) (j := 11) (by kernel_rfl) ?_ ?_
      · refine held_enter (some 21) rfl rfl 25 #[.slice A n c, .func (.func 26) #[] #[]] (exec_call2 _ (.tmp 20) (.func 26) _ rfl _ _ rfl rfl (enters_of Tryz.func25 (by kernel_rfl) rfl _ _)) rfl ((HWL.out v3 (HR.out.grown (grown_of_below hS) HB1.out) (Nat.le_trans HB1.out hS.size)).mono ?_)
        rintro e v5 ⟨A', c', rfl, hsub, hg⟩
        replace hsub := hsub.here
        replace hS : Below w2.heap.size w2 v5 := hS.trans ((below_of_grown hg).mono hS.size)
        refine ⟨_, rfl, hS, ?_⟩
        simp only [Act.put, List.setIfInBounds_toArray, List.set_cons_zero, List.set_cons_succ]
        clear hg
        refine held_two (i := 9) (j := 11) (by kernel_rfl) ?_ ?_
        · have hml : (ls.map logIt).length = n := by rw [List.length_map]; exact HL.out
          rw [← hml] at hsub
          have hrow := rcp_subW v5 YS N1 (ls.map logIt) A' c' hsub
          rw [hml] at hrow
          clear hsub
          replace hS := hS.alloc hS.size (.cells #[.bool false, .string YS, .slice none 0 0, .bool false, .string N1, .slice none 0 0, .bool true, .string ⟨#[]⟩, .slice A' n c'] 45)
          refine held_value (some 22) rfl rfl (.slice (some ⟨v5.heap.size, 0, none⟩) 3 3) (w' := v5.alloc (.cells #[.bool false, .string YS, .slice none 0 0, .bool false, .string N1, .slice none 0 0, .bool true, .string ⟨#[]⟩, .slice A' n c'] 45)) (by go_simp <;> rfl) rfl hS ?_
          simp only [Act.put, List.setIfInBounds_toArray, List.set_cons_zero, List.set_cons_succ]
          obtain ⟨u5z, hu5z⟩ : ∃ z, v5.heap.size = z := ⟨_, rfl⟩
          rw [hu5z] at hrow
          generalize v5.alloc (.cells #[.bool false, .string YS, .slice none 0 0, .bool false, .string N1, .slice none 0 0, .bool true, .string ⟨#[]⟩, .slice A' n c'] 45) = v7 at *
          refine held_two (i := 10) (j := 11) (by kernel_rfl) ?_ ?_
          · refine held_enter (some 23) rfl rfl 22 #[.slice (some ⟨u5z, 0, none⟩) 3 3] (exec_call1 _ (.tmp 22) _ rfl _ (by rw [← hu5z]; rfl) (enters_of Tryz.func22 (by kernel_rfl) rfl _ _)) rfl ((list_any (.slice (some ⟨u5z, 0, none⟩) 3 3) ⟨_, _, _, rfl⟩ v7).mono ?_)
            rintro e v9 ⟨rfl, hg⟩
            replace hS : Below w2.heap.size w2 v9 := hS.trans ((below_of_grown hg).mono hS.size)
            refine ⟨_, rfl, hS, ?_⟩
            simp only [Act.put, List.setIfInBounds_toArray, List.set_cons_zero, List.set_cons_succ]
            replace hrow := SubW.grown hrow hg
            clear hg
            refine held_one (i := 11) (by kernel_rfl) ?_
            have hb := Blk.new v9 45 #[.bool false, .string ⟨#[]⟩, .slice none 0 0]
            have hg8 := only_alloc (World.grownBy.refl v9 none) (.cells #[.bool false, .string ⟨#[]⟩, .slice none 0 0] 45)
            have hz8 : w2.heap.size ≤ v9.heap.size := hS.size
            replace hS := hS.trans ((below_of_grown hg8).mono hS.size)
            have hlt : v9.heap.size < (v9.alloc (.cells #[.bool false, .string ⟨#[]⟩, .slice none 0 0] 45)).heap.size := by simp
            replace hrow : SubV (fun q => q ≠ v9.heap.size) (v9.alloc (.cells #[.bool false, .string ⟨#[]⟩, .slice none 0 0] 45)) [txt YS, txt N1, .mk true ⟨#[]⟩ (ls.map logIt)] (.slice (some ⟨u5z, 0, none⟩) 3 3) := (SubV.grown hrow hg8).weak (fun q (hq : q < v9.heap.size) => Nat.ne_of_lt hq)
            refine held_value (some 5) rfl rfl (.pointer (some ⟨v9.heap.size, 0, none⟩)) (w' := v9.alloc (.cells #[.bool false, .string ⟨#[]⟩, .slice none 0 0] 45)) (by go_simp <;> rfl) rfl hS ?_
            simp only [Act.put, List.setIfInBounds_toArray, List.set_cons_zero, List.set_cons_succ]
            obtain ⟨k7, hk7⟩ : ∃ z, v9.heap.size = z := ⟨_, rfl⟩
            rw [hk7] at hb hz8 hlt hrow ⊢
            clear hk7 hg8
            generalize v9.alloc (.cells #[.bool false, .string ⟨#[]⟩, .slice none 0 0] 45) = v11 at *
            have hb9 : Blk (((v11.setCell ⟨k7, 0, none⟩ (.bool true)).setCell ⟨k7, 1, none⟩ (.string ⟨#[]⟩)).setCell ⟨k7, 2, none⟩ (.slice (some ⟨u5z, 0, none⟩) 3 3)) k7 45 #[.bool true, .string ⟨#[]⟩, .slice (some ⟨u5z, 0, none⟩) 3 3] := ((hb.set_ 0 _).set_ 1 _).set_ 2 _
            have h9 := sub_set3 (g := k7) hrow (fun h => h rfl) (.bool true) (.string ⟨#[]⟩) (.slice (some ⟨u5z, 0, none⟩) 3 3)
            have hS9 : Below w2.heap.size w2 (((v11.setCell ⟨k7, 0, none⟩ (.bool true)).setCell ⟨k7, 1, none⟩ (.string ⟨#[]⟩)).setCell ⟨k7, 2, none⟩ (.slice (some ⟨u5z, 0, none⟩) 3 3)) := below_of_grown (only_set (only_set (only_set (grown_of_below hS) (p := ⟨k7, 0, none⟩) hz8 _) (p := ⟨k7, 1, none⟩) hz8 _) (p := ⟨k7, 2, none⟩) hz8 _)
            refine held_one (i := 12) (by kernel_rfl) ?_
            refine held_store rfl rfl (exec_store3 (.tmp 5) (.tmp 23) rfl rfl rfl hb (by simp)) hS9 ?_
            simp only [Act.put, List.setIfInBounds_toArray, List.set_cons_zero, List.set_cons_succ]
            refine wpAnyH_done (by kernel_rfl) ?_ _
            go_wp2_with fail
            go_meet
            exact ⟨k7, u5z, rfl, hb9, hz8, h9, grown_of_below hS9⟩
          · have hb := Blk.new v7 45 #[.bool false, .string ⟨#[]⟩, .slice none 0 0]
            have hg8 := only_alloc (World.grownBy.refl v7 none) (.cells #[.bool false, .string ⟨#[]⟩, .slice none 0 0] 45)
            have hz8 : w2.heap.size ≤ v7.heap.size := hS.size
            replace hS := hS.trans ((below_of_grown hg8).mono hS.size)
            have hlt : v7.heap.size < (v7.alloc (.cells #[.bool false, .string ⟨#[]⟩, .slice none 0 0] 45)).heap.size := by simp
            replace hrow : SubV (fun q => q ≠ v7.heap.size) (v7.alloc (.cells #[.bool false, .string ⟨#[]⟩, .slice none 0 0] 45)) [txt YS, txt N1, .mk true ⟨#[]⟩ (ls.map logIt)] (.slice (some ⟨u5z, 0, none⟩) 3 3) := (SubV.grown hrow hg8).weak (fun q (hq : q < v7.heap.size) => Nat.ne_of_lt hq)
            refine held_value (some 5) rfl rfl (.pointer (some ⟨v7.heap.size, 0, none⟩)) (w' := v7.alloc (.cells #[.bool false, .string ⟨#[]⟩, .slice none 0 0] 45)) (by go_simp <;> rfl) rfl hS ?_
            simp only [Act.put, List.setIfInBounds_toArray, List.set_cons_zero, List.set_cons_succ]
            obtain ⟨k7, hk7⟩ : ∃ z, v7.heap.size = z := ⟨_, rfl⟩
            rw [hk7] at hb hz8 hlt hrow ⊢
            clear hk7 hg8
            generalize v7.alloc (.cells #[.bool false, .string ⟨#[]⟩, .slice none 0 0] 45) = v10 at *
            refine held_one (i := 10) (by kernel_rfl) ?_
            refine held_enter (some 23) rfl rfl 22 #[.slice (some ⟨u5z, 0, none⟩) 3 3] (exec_call1 _ (.tmp 22) _ rfl _ (by rw [← hu5z]; rfl) (enters_of Tryz.func22 (by kernel_rfl) rfl _ _)) rfl ((list_any (.slice (some ⟨u5z, 0, none⟩) 3 3) ⟨_, _, _, rfl⟩ v10).mono ?_)
            rintro e v12 ⟨rfl, hg⟩
            replace hS : Below w2.heap.size w2 v12 := hS.trans ((below_of_grown hg).mono hS.size)
            refine ⟨_, rfl, hS, ?_⟩
            simp only [Act.put, List.setIfInBounds_toArray, List.set_cons_zero, List.set_cons_succ]
            replace hrow := SubV.grown hrow hg
            replace hb := hb.grown hg (by simp)
            replace hlt := Nat.lt_of_lt_of_le hlt hg.size
            clear hg
            have hb9 : Blk (((v12.setCell ⟨k7, 0, none⟩ (.bool true)).setCell ⟨k7, 1, none⟩ (.string ⟨#[]⟩)).setCell ⟨k7, 2, none⟩ (.slice (some ⟨u5z, 0, none⟩) 3 3)) k7 45 #[.bool true, .string ⟨#[]⟩, .slice (some ⟨u5z, 0, none⟩) 3 3] := ((hb.set_ 0 _).set_ 1 _).set_ 2 _
            have h9 := sub_set3 (g := k7) hrow (fun h => h rfl) (.bool true) (.string ⟨#[]⟩) (.slice (some ⟨u5z, 0, none⟩) 3 3)
            have hS9 : Below w2.heap.size w2 (((v12.setCell ⟨k7, 0, none⟩ (.bool true)).setCell ⟨k7, 1, none⟩ (.string ⟨#[]⟩)).setCell ⟨k7, 2, none⟩ (.slice (some ⟨u5z, 0, none⟩) 3 3)) := below_of_grown (only_set (only_set (only_set (grown_of_below hS) (p := ⟨k7, 0, none⟩) hz8 _) (p := ⟨k7, 1, none⟩) hz8 _) (p := ⟨k7, 2, none⟩) hz8 _)
            refine held_one (i := 12) (by kernel_rfl) ?_
            refine held_store rfl rfl (exec_store3 (.tmp 5) (.tmp 23) rfl rfl rfl hb (by simp)) hS9 ?_
            simp only [Act.put, List.setIfInBounds_toArray, List.set_cons_zero, List.set_cons_succ]
            refine wpAnyH_done (by kernel_rfl) ?_ _
            go_wp2_with fail
            go_meet
            exact ⟨k7, u5z, rfl, hb9, hz8, h9, grown_of_below hS9⟩
        · have hb := Blk.new v5 45 #[.bool false, .string ⟨#[]⟩, .slice none 0 0]
          have hg8 := only_alloc (World.grownBy.refl v5 none) (.cells #[.bool false, .string ⟨#[]⟩, .slice none 0 0] 45)
          have hz8 : w2.heap.size ≤ v5.heap.size := hS.size
          replace hS := hS.trans ((below_of_grown hg8).mono hS.size)
          have hlt : v5.heap.size < (v5.alloc (.cells #[.bool false, .string ⟨#[]⟩, .slice none 0 0] 45)).heap.size := by simp
          replace hsub : SubV (fun q => q ≠ v5.heap.size) (v5.alloc (.cells #[.bool false, .string ⟨#[]⟩, .slice none 0 0] 45)) (ls.map logIt) (.slice A' n c') := (SubV.grown hsub hg8).weak (fun q (hq : q < v5.heap.size) => Nat.ne_of_lt hq)
          refine held_value (some 5) rfl rfl (.pointer (some ⟨v5.heap.size, 0, none⟩)) (w' := v5.alloc (.cells #[.bool false, .string ⟨#[]⟩, .slice none 0 0] 45)) (by go_simp <;> rfl) rfl hS ?_
          simp only [Act.put, List.setIfInBounds_toArray, List.set_cons_zero, List.set_cons_succ]
          obtain ⟨k7, hk7⟩ : ∃ z, v5.heap.size = z := ⟨_, rfl⟩
          rw [hk7] at hb hz8 hlt hsub ⊢
          clear hk7 hg8
          generalize v5.alloc (.cells #[.bool false, .string ⟨#[]⟩, .slice none 0 0] 45) = v8 at *
          refine held_one (i := 9) (by kernel_rfl) ?_
          have hml : (ls.map logIt).length = n := by rw [List.length_map]; exact HL.out
          rw [← hml] at hsub
          have hrow := rcp_subS (fun q => q ≠ k7) v8 YS N1 (ls.map logIt) A' c' (Nat.ne_of_gt hlt) hsub
          rw [hml] at hrow
          clear hsub
          replace hS := hS.alloc hS.size (.cells #[.bool false, .string YS, .slice none 0 0, .bool false, .string N1, .slice none 0 0, .bool true, .string ⟨#[]⟩, .slice A' n c'] 45)
          refine held_value (some 22) rfl rfl (.slice (some ⟨v8.heap.size, 0, none⟩) 3 3) (w' := v8.alloc (.cells #[.bool false, .string YS, .slice none 0 0, .bool false, .string N1, .slice none 0 0, .bool true, .string ⟨#[]⟩, .slice A' n c'] 45)) (by go_simp <;> rfl) rfl hS ?_
          simp only [Act.put, List.setIfInBounds_toArray, List.set_cons_zero, List.set_cons_succ]
          replace hb := hb.alloc (.cells #[.bool false, .string YS, .slice none 0 0, .bool false, .string N1, .slice none 0 0, .bool true, .string ⟨#[]⟩, .slice A' n c'] 45)
          replace hlt : k7 < (v8.alloc (.cells #[.bool false, .string YS, .slice none 0 0, .bool false, .string N1, .slice none 0 0, .bool true, .string ⟨#[]⟩, .slice A' n c'] 45)).heap.size := by simp; omega
          obtain ⟨u5z, hu5z⟩ : ∃ z, v8.heap.size = z := ⟨_, rfl⟩
          rw [hu5z] at hrow
          generalize v8.alloc (.cells #[.bool false, .string YS, .slice none 0 0, .bool false, .string N1, .slice none 0 0, .bool true, .string ⟨#[]⟩, .slice A' n c'] 45) = v13 at *
          refine held_one (i := 10) (by kernel_rfl) ?_
          refine held_enter (some 23) rfl rfl 22 #[.slice (some ⟨u5z, 0, none⟩) 3 3] (exec_call1 _ (.tmp 22) _ rfl _ (by rw [← hu5z]; rfl) (enters_of Tryz.func22 (by kernel_rfl) rfl _ _)) rfl ((list_any (.slice (some ⟨u5z, 0, none⟩) 3 3) ⟨_, _, _, rfl⟩ v13).mono ?_)
          rintro e v14 ⟨rfl, hg⟩
          replace hS : Below w2.heap.size w2 v14 := hS.trans ((below_of_grown hg).mono hS.size)
          refine ⟨_, rfl, hS, ?_⟩
          simp only [Act.put, List.setIfInBounds_toArray, List.set_cons_zero, List.set_cons_succ]
          replace hrow := SubV.grown hrow hg
          replace hb := hb.grown hg (by simp)
          replace hlt := Nat.lt_of_lt_of_le hlt hg.size
          clear hg
          have hb9 : Blk (((v14.setCell ⟨k7, 0, none⟩ (.bool true)).setCell ⟨k7, 1, none⟩ (.string ⟨#[]⟩)).setCell ⟨k7, 2, none⟩ (.slice (some ⟨u5z, 0, none⟩) 3 3)) k7 45 #[.bool true, .string ⟨#[]⟩, .slice (some ⟨u5z, 0, none⟩) 3 3] := ((hb.set_ 0 _).set_ 1 _).set_ 2 _
          have h9 := sub_set3 (g := k7) hrow (fun h => h rfl) (.bool true) (.string ⟨#[]⟩) (.slice (some ⟨u5z, 0, none⟩) 3 3)
          have hS9 : Below w2.heap.size w2 (((v14.setCell ⟨k7, 0, none⟩ (.bool true)).setCell ⟨k7, 1, none⟩ (.string ⟨#[]⟩)).setCell ⟨k7, 2, none⟩ (.slice (some ⟨u5z, 0, none⟩) 3 3)) := below_of_grown (only_set (only_set (only_set (grown_of_below hS) (p := ⟨k7, 0, none⟩) hz8 _) (p := ⟨k7, 1, none⟩) hz8 _) (p := ⟨k7, 2, none⟩) hz8 _)
          refine held_one (i := 12) (by kernel_rfl) ?_
          refine held_store rfl rfl (exec_store3 (.tmp 5) (.tmp 23) rfl rfl rfl hb (by simp)) hS9 ?_
          simp only [Act.put, List.setIfInBounds_toArray, List.set_cons_zero, List.set_cons_succ]
          refine wpAnyH_done (by kernel_rfl) ?_ _
          go_wp2_with fail
          go_meet
          exact ⟨k7, u5z, rfl, hb9, hz8, h9, grown_of_below hS9⟩
      · have hb := Blk.new v3 45 #[.bool false, .string ⟨#[]⟩, .slice none 0 0]
        have hg8 := only_alloc (World.grownBy.refl v3 none) (.cells #[.bool false, .string ⟨#[]⟩, .slice none 0 0] 45)
        have hz8 : w2.heap.size ≤ v3.heap.size := hS.size
        replace hS := hS.trans ((below_of_grown hg8).mono hS.size)
        have hlt : v3.heap.size < (v3.alloc (.cells #[.bool false, .string ⟨#[]⟩, .slice none 0 0] 45)).heap.size := by simp
        refine held_value (some 5) rfl rfl (.pointer (some ⟨v3.heap.size, 0, none⟩)) (w' := v3.alloc (.cells #[.bool false, .string ⟨#[]⟩, .slice none 0 0] 45)) (by go_simp <;> rfl) rfl hS ?_
        simp only [Act.put, List.setIfInBounds_toArray, List.set_cons_zero, List.set_cons_succ]
        obtain ⟨k7, hk7⟩ : ∃ z, v3.heap.size = z := ⟨_, rfl⟩
        rw [hk7] at hb hz8 hlt  ⊢
        clear hk7 hg8
        generalize v3.alloc (.cells #[.bool false, .string ⟨#[]⟩, .slice none 0 0] 45) = v6 at *
        refine held_one (i := 8) (by kernel_rfl) ?_
        refine held_enter (some 21) rfl rfl 25 #[.slice A n c, .func (.func 26) #[] #[]] (exec_call2 _ (.tmp 20) (.func 26) _ rfl _ _ rfl rfl (enters_of Tryz.func25 (by kernel_rfl) rfl _ _)) rfl ((HWL.out v6 (HR.out.grown (grown_of_below hS) HB1.out) (Nat.le_trans HB1.out hS.size)).mono ?_)
        rintro e v15 ⟨A', c', rfl, hsub, hg⟩
        replace hsub : SubV (fun q => q ≠ k7) v15 (ls.map logIt) (.slice A' n c') := hsub.weak (fun q hq => by have : v6.heap.size ≤ q := hq; show q ≠ k7; omega)
        replace hS : Below w2.heap.size w2 v15 := hS.trans ((below_of_grown hg).mono hS.size)
        refine ⟨_, rfl, hS, ?_⟩
        simp only [Act.put, List.setIfInBounds_toArray, List.set_cons_zero, List.set_cons_succ]
        replace hb := hb.grown hg (by simp)
        replace hlt := Nat.lt_of_lt_of_le hlt hg.size
        clear hg
        refine held_one (i := 9) (by kernel_rfl) ?_
        have hml : (ls.map logIt).length = n := by rw [List.length_map]; exact HL.out
        rw [← hml] at hsub
        have hrow := rcp_subS (fun q => q ≠ k7) v15 YS N1 (ls.map logIt) A' c' (Nat.ne_of_gt hlt) hsub
        rw [hml] at hrow
        clear hsub
        replace hS := hS.alloc hS.size (.cells #[.bool false, .string YS, .slice none 0 0, .bool false, .string N1, .slice none 0 0, .bool true, .string ⟨#[]⟩, .slice A' n c'] 45)
        refine held_value (some 22) rfl rfl (.slice (some ⟨v15.heap.size, 0, none⟩) 3 3) (w' := v15.alloc (.cells #[.bool false, .string YS, .slice none 0 0, .bool false, .string N1, .slice none 0 0, .bool true, .string ⟨#[]⟩, .slice A' n c'] 45)) (by go_simp <;> rfl) rfl hS ?_
        simp only [Act.put, List.setIfInBounds_toArray, List.set_cons_zero, List.set_cons_succ]
        replace hb := hb.alloc (.cells #[.bool false, .string YS, .slice none 0 0, .bool false, .string N1, .slice none 0 0, .bool true, .string ⟨#[]⟩, .slice A' n c'] 45)
        replace hlt : k7 < (v15.alloc (.cells #[.bool false, .string YS, .slice none 0 0, .bool false, .string N1, .slice none 0 0, .bool true, .string ⟨#[]⟩, .slice A' n c'] 45)).heap.size := by simp; omega
        obtain ⟨u5z, hu5z⟩ : ∃ z, v15.heap.size = z := ⟨_, rfl⟩
        rw [hu5z] at hrow
        generalize v15.alloc (.cells #[.bool false, .string YS, .slice none 0 0, .bool false, .string N1, .slice none 0 0, .bool true, .string ⟨#[]⟩, .slice A' n c'] 45) = v16 at *
        refine held_one (i := 10) (by kernel_rfl) ?_
        refine held_enter (some 23) rfl rfl 22 #[.slice (some ⟨u5z, 0, none⟩) 3 3] (exec_call1 _ (.tmp 22) _ rfl _ (by rw [← hu5z]; rfl) (enters_of Tryz.func22 (by kernel_rfl) rfl _ _)) rfl ((list_any (.slice (some ⟨u5z, 0, none⟩) 3 3) ⟨_, _, _, rfl⟩ v16).mono ?_)
        rintro e v17 ⟨rfl, hg⟩
        replace hS : Below w2.heap.size w2 v17 := hS.trans ((below_of_grown hg).mono hS.size)
        refine ⟨_, rfl, hS, ?_⟩
        simp only [Act.put, List.setIfInBounds_toArray, List.set_cons_zero, List.set_cons_succ]
        replace hrow := SubV.grown hrow hg
        replace hb := hb.grown hg (by simp)
        replace hlt := Nat.lt_of_lt_of_le hlt hg.size
        clear hg
        have hb9 : Blk (((v17.setCell ⟨k7, 0, none⟩ (.bool true)).setCell ⟨k7, 1, none⟩ (.string ⟨#[]⟩)).setCell ⟨k7, 2, none⟩ (.slice (some ⟨u5z, 0, none⟩) 3 3)) k7 45 #[.bool true, .string ⟨#[]⟩, .slice (some ⟨u5z, 0, none⟩) 3 3] := ((hb.set_ 0 _).set_ 1 _).set_ 2 _
        have h9 := sub_set3 (g := k7) hrow (fun h => h rfl) (.bool true) (.string ⟨#[]⟩) (.slice (some ⟨u5z, 0, none⟩) 3 3)
        have hS9 : Below w2.heap.size w2 (((v17.setCell ⟨k7, 0, none⟩ (.bool true)).setCell ⟨k7, 1, none⟩ (.string ⟨#[]⟩)).setCell ⟨k7, 2, none⟩ (.slice (some ⟨u5z, 0, none⟩) 3 3)) := below_of_grown (only_set (only_set (only_set (grown_of_below hS) (p := ⟨k7, 0, none⟩) hz8 _) (p := ⟨k7, 1, none⟩) hz8 _) (p := ⟨k7, 2, none⟩) hz8 _)
        refine held_one (i := 12) (by kernel_rfl) ?_
        refine held_store rfl rfl (exec_store3 (.tmp 5) (.tmp 23) rfl rfl rfl hb (by simp)) hS9 ?_
        simp only [Act.put, List.setIfInBounds_toArray, List.set_cons_zero, List.set_cons_succ]
        refine wpAnyH_done (by kernel_rfl) ?_ _
        go_wp2_with fail
        go_meet
        exact ⟨k7, u5z, rfl, hb9, hz8, h9, grown_of_below hS9⟩
    · have hb := Blk.new v1 45 #[.bool false, .string ⟨#[]⟩, .slice none 0 0]
      have hg8 := only_alloc (World.grownBy.refl v1 none) (.cells #[.bool false, .string ⟨#[]⟩, .slice none 0 0] 45)
      have hz8 : w2.heap.size ≤ v1.heap.size := hS.size
      replace hS := hS.trans ((below_of_grown hg8).mono hS.size)
      have hlt : v1.heap.size < (v1.alloc (.cells #[.bool false, .string ⟨#[]⟩, .slice none 0 0] 45)).heap.size := by simp
      refine held_value (some 5) rfl rfl (.pointer (some ⟨v1.heap.size, 0, none⟩)) (w' := v1.alloc (.cells #[.bool false, .string ⟨#[]⟩, .slice none 0 0] 45)) (by go_simp <;> rfl) rfl hS ?_
      simp only [Act.put, List.setIfInBounds_toArray, List.set_cons_zero, List.set_cons_succ]
      obtain ⟨k7, hk7⟩ : ∃ z, v1.heap.size = z := ⟨_, rfl⟩
      rw [hk7] at hb hz8 hlt  ⊢
      clear hk7 hg8
      generalize v1.alloc (.cells #[.bool false, .string ⟨#[]⟩, .slice none 0 0] 45) = v4 at *
      refine held_one (i := 5) (by kernel_rfl) ?_
      refine held_enter (some 18) rfl rfl 24 #[.int .u64 (gas : Int)] (exec_call1 _ (.tmp 17) _ rfl _ rfl (enters_of Tryz.func24 (by kernel_rfl) rfl _ _)) rfl ((HNU.out v4).mono ?_)
      rintro e v18 ⟨rfl, hg⟩
      replace hS : Below w2.heap.size w2 v18 := hS.trans ((below_of_grown hg).mono hS.size)
      refine ⟨_, rfl, hS, ?_⟩
      simp only [Act.put, List.setIfInBounds_toArray, List.set_cons_zero, List.set_cons_succ]
      replace hb := hb.grown hg (by simp)
      replace hlt := Nat.lt_of_lt_of_le hlt hg.size
      clear hg
      refine held_one (i := 8) (by kernel_rfl) ?_
      refine held_enter (some 21) rfl rfl 25 #[.slice A n c, .func (.func 26) #[] #[]] (exec_call2 _ (.tmp 20) (.func 26) _ rfl _ _ rfl rfl (enters_of Tryz.func25 (by kernel_rfl) rfl _ _)) rfl ((HWL.out v18 (HR.out.grown (grown_of_below hS) HB1.out) (Nat.le_trans HB1.out hS.size)).mono ?_)
      rintro e v19 ⟨A', c', rfl, hsub, hg⟩
      replace hsub : SubV (fun q => q ≠ k7) v19 (ls.map logIt) (.slice A' n c') := hsub.weak (fun q hq => by have : v18.heap.size ≤ q := hq; show q ≠ k7; omega)
      replace hS : Below w2.heap.size w2 v19 := hS.trans ((below_of_grown hg).mono hS.size)
      refine ⟨_, rfl, hS, ?_⟩
      simp only [Act.put, List.setIfInBounds_toArray, List.set_cons_zero, List.set_cons_succ]
      replace hb := hb.grown hg (by simp)
      replace hlt := Nat.lt_of_lt_of_le hlt hg.size
      clear hg
      refine held_one (i := 9) (by kernel_rfl) ?_
      have hml : (ls.map logIt).length = n := by rw [List.length_map]; exact HL.out
      rw [← hml] at hsub
      have hrow := rcp_subS (fun q => q ≠ k7) v19 YS N1 (ls.map logIt) A' c' (Nat.ne_of_gt hlt) hsub
      rw [hml] at hrow
      clear hsub
      replace hS := hS.alloc hS.size (.cells #[.bool false, .string YS, .slice none 0 0, .bool false, .string N1, .slice none 0 0, .bool true, .string ⟨#[]⟩, .slice A' n c'] 45)
      refine held_value (some 22) rfl rfl (.slice (some ⟨v19.heap.size, 0, none⟩) 3 3) (w' := v19.alloc (.cells #[.bool false, .string YS, .slice none 0 0, .bool false, .string N1, .slice none 0 0, .bool true, .string ⟨#[]⟩, .slice A' n c'] 45)) (by go_simp <;> rfl) rfl hS ?_
      simp only [Act.put, List.setIfInBounds_toArray, List.set_cons_zero, List.set_cons_succ]
      replace hb := hb.alloc (.cells #[.bool false, .string YS, .slice none 0 0, .bool false, .string N1, .slice none 0 0, .bool true, .string ⟨#[]⟩, .slice A' n c'] 45)
      replace hlt : k7 < (v19.alloc (.cells #[.bool false, .string YS, .slice none 0 0, .bool false, .string N1, .slice none 0 0, .bool true, .string ⟨#[]⟩, .slice A' n c'] 45)).heap.size := by simp; omega
      obtain ⟨u5z, hu5z⟩ : ∃ z, v19.heap.size = z := ⟨_, rfl⟩
      rw [hu5z] at hrow
      generalize v19.alloc (.cells #[.bool false, .string YS, .slice none 0 0, .bool false, .string N1, .slice none 0 0, .bool true, .string ⟨#[]⟩, .slice A' n c'] 45) = v20 at *
      refine held_one (i := 10) (by kernel_rfl) ?_
      refine held_enter (some 23) rfl rfl 22 #[.slice (some ⟨u5z, 0, none⟩) 3 3] (exec_call1 _ (.tmp 22) _ rfl _ (by rw [← hu5z]; rfl) (enters_of Tryz.func22 (by kernel_rfl) rfl _ _)) rfl ((list_any (.slice (some ⟨u5z, 0, none⟩) 3 3) ⟨_, _, _, rfl⟩ v20).mono ?_)
      rintro e v21 ⟨rfl, hg⟩
      replace hS : Below w2.heap.size w2 v21 := hS.trans ((below_of_grown hg).mono hS.size)
      refine ⟨_, rfl, hS, ?_⟩
      simp only [Act.put, List.setIfInBounds_toArray, List.set_cons_zero, List.set_cons_succ]
      replace hrow := SubV.grown hrow hg
      replace hb := hb.grown hg (by simp)
      replace hlt := Nat.lt_of_lt_of_le hlt hg.size
      clear hg
      have hb9 : Blk (((v21.setCell ⟨k7, 0, none⟩ (.bool true)).setCell ⟨k7, 1, none⟩ (.string ⟨#[]⟩)).setCell ⟨k7, 2, none⟩ (.slice (some ⟨u5z, 0, none⟩) 3 3)) k7 45 #[.bool true, .string ⟨#[]⟩, .slice (some ⟨u5z, 0, none⟩) 3 3] := ((hb.set_ 0 _).set_ 1 _).set_ 2 _
      have h9 := sub_set3 (g := k7) hrow (fun h => h rfl) (.bool true) (.string ⟨#[]⟩) (.slice (some ⟨u5z, 0, none⟩) 3 3)
      have hS9 : Below w2.heap.size w2 (((v21.setCell ⟨k7, 0, none⟩ (.bool true)).setCell ⟨k7, 1, none⟩ (.string ⟨#[]⟩)).setCell ⟨k7, 2, none⟩ (.slice (some ⟨u5z, 0, none⟩) 3 3)) := below_of_grown (only_set (only_set (only_set (grown_of_below hS) (p := ⟨k7, 0, none⟩) hz8 _) (p := ⟨k7, 1, none⟩) hz8 _) (p := ⟨k7, 2, none⟩) hz8 _)
      refine held_one (i := 12) (by kernel_rfl) ?_
      refine held_store rfl rfl (exec_store3 (.tmp 5) (.tmp 23) rfl rfl rfl hb (by simp)) hS9 ?_
      simp only [Act.put, List.setIfInBounds_toArray, List.set_cons_zero, List.set_cons_succ]
      refine wpAnyH_done (by kernel_rfl) ?_ _
      go_wp2_with fail
      go_meet
      exact ⟨k7, u5z, rfl, hb9, hz8, h9, grown_of_below hS9⟩
  · have hb := Blk.new u0 45 #[.bool false, .string ⟨#[]⟩, .slice none 0 0]
    have hg8 := only_alloc (World.grownBy.refl u0 none) (.cells #[.bool false, .string ⟨#[]⟩, .slice none 0 0] 45)
    have hz8 : w2.heap.size ≤ u0.heap.size := hS.size
    replace hS := hS.trans ((below_of_grown hg8).mono hS.size)
    have hlt : u0.heap.size < (u0.alloc (.cells #[.bool false, .string ⟨#[]⟩, .slice none 0 0] 45)).heap.size := by simp
    refine held_value (some 5) rfl rfl (.pointer (some ⟨u0.heap.size, 0, none⟩)) (w' := u0.alloc (.cells #[.bool false, .string ⟨#[]⟩, .slice none 0 0] 45)) (by go_simp <;> rfl) rfl hS ?_
    simp only [Act.put, List.setIfInBounds_toArray, List.set_cons_zero, List.set_cons_succ]
    obtain ⟨k7, hk7⟩ : ∃ z, u0.heap.size = z := ⟨_, rfl⟩
    rw [hk7] at hb hz8 hlt  ⊢
    clear hk7 hg8
    generalize u0.alloc (.cells #[.bool false, .string ⟨#[]⟩, .slice none 0 0] 45) = v2 at *
    refine held_one (i := 2) (by kernel_rfl) ?_
    refine held_enter (some 15) rfl rfl 23 #[.bool status] (exec_call1 _ (.tmp 14) _ rfl _ rfl (enters_of Tryz.func23 (by kernel_rfl) rfl _ _)) rfl ((HBO.out v2).mono ?_)
    rintro e v22 ⟨rfl, hg⟩
    replace hS : Below w2.heap.size w2 v22 := hS.trans ((below_of_grown hg).mono hS.size)
    refine ⟨_, rfl, hS, ?_⟩
    simp only [Act.put, List.setIfInBounds_toArray, List.set_cons_zero, List.set_cons_succ]
    replace hb := hb.grown hg (by simp)
    replace hlt := Nat.lt_of_lt_of_le hlt hg.size
    clear hg
    refine held_one (i := 5) (by kernel_rfl) ?_
    refine held_enter (some 18) rfl rfl 24 #[.int .u64 (gas : Int)] (exec_call1 _ (.tmp 17) _ rfl _ rfl (enters_of Tryz.func24 (by kernel_rfl) rfl _ _)) rfl ((HNU.out v22).mono ?_)
    rintro e v23 ⟨rfl, hg⟩
    replace hS : Below w2.heap.size w2 v23 := hS.trans ((below_of_grown hg).mono hS.size)
    refine ⟨_, rfl, hS, ?_⟩
    simp only [Act.put, List.setIfInBounds_toArray, List.set_cons_zero, List.set_cons_succ]
    replace hb := hb.grown hg (by simp)
    replace hlt := Nat.lt_of_lt_of_le hlt hg.size
    clear hg
    refine held_one (i := 8) (by kernel_rfl) ?_
    refine held_enter (some 21) rfl rfl 25 #[.slice A n c, .func (.func 26) #[] #[]] (exec_call2 _ (.tmp 20) (.func 26) _ rfl _ _ rfl rfl (enters_of Tryz.func25 (by kernel_rfl) rfl _ _)) rfl ((HWL.out v23 (HR.out.grown (grown_of_below hS) HB1.out) (Nat.le_trans HB1.out hS.size)).mono ?_)
    rintro e v24 ⟨A', c', rfl, hsub, hg⟩
    replace hsub : SubV (fun q => q ≠ k7) v24 (ls.map logIt) (.slice A' n c') := hsub.weak (fun q hq => by have : v23.heap.size ≤ q := hq; show q ≠ k7; omega)
    replace hS : Below w2.heap.size w2 v24 := hS.trans ((below_of_grown hg).mono hS.size)
    refine ⟨_, rfl, hS, ?_⟩
    simp only [Act.put, List.setIfInBounds_toArray, List.set_cons_zero, List.set_cons_succ]
    replace hb := hb.grown hg (by simp)
    replace hlt := Nat.lt_of_lt_of_le hlt hg.size
    clear hg
    refine held_one (i := 9) (by kernel_rfl) ?_
    have hml : (ls.map logIt).length = n := by rw [List.length_map]; exact HL.out
    rw [← hml] at hsub
    have hrow := rcp_subS (fun q => q ≠ k7) v24 YS N1 (ls.map logIt) A' c' (Nat.ne_of_gt hlt) hsub
    rw [hml] at hrow
    clear hsub
    replace hS := hS.alloc hS.size (.cells #[.bool false, .string YS, .slice none 0 0, .bool false, .string N1, .slice none 0 0, .bool true, .string ⟨#[]⟩, .slice A' n c'] 45)
    refine held_value (some 22) rfl rfl (.slice (some ⟨v24.heap.size, 0, none⟩) 3 3) (w' := v24.alloc (.cells #[.bool false, .string YS, .slice none 0 0, .bool false, .string N1, .slice none 0 0, .bool true, .string ⟨#[]⟩, .slice A' n c'] 45)) (by go_simp <;> rfl) rfl hS ?_
    simp only [Act.put, List.setIfInBounds_toArray, List.set_cons_zero, List.set_cons_succ]
    replace hb := hb.alloc (.cells #[.bool false, .string YS, .slice none 0 0, .bool false, .string N1, .slice none 0 0, .bool true, .string ⟨#[]⟩, .slice A' n c'] 45)
    replace hlt : k7 < (v24.alloc (.cells #[.bool false, .string YS, .slice none 0 0, .bool false, .string N1, .slice none 0 0, .bool true, .string ⟨#[]⟩, .slice A' n c'] 45)).heap.size := by simp; omega
    obtain ⟨u5z, hu5z⟩ : ∃ z, v24.heap.size = z := ⟨_, rfl⟩
    rw [hu5z] at hrow
    generalize v24.alloc (.cells #[.bool false, .string YS, .slice none 0 0, .bool false, .string N1, .slice none 0 0, .bool true, .string ⟨#[]⟩, .slice A' n c'] 45) = v25 at *
    refine held_one (i := 10) (by kernel_rfl) ?_
    refine held_enter (some 23) rfl rfl 22 #[.slice (some ⟨u5z, 0, none⟩) 3 3] (exec_call1 _ (.tmp 22) _ rfl _ (by rw [← hu5z]; rfl) (enters_of Tryz.func22 (by kernel_rfl) rfl _ _)) rfl ((list_any (.slice (some ⟨u5z, 0, none⟩) 3 3) ⟨_, _, _, rfl⟩ v25).mono ?_)
    rintro e v26 ⟨rfl, hg⟩
    replace hS : Below w2.heap.size w2 v26 := hS.trans ((below_of_grown hg).mono hS.size)
    refine ⟨_, rfl, hS, ?_⟩
    simp only [Act.put, List.setIfInBounds_toArray, List.set_cons_zero, List.set_cons_succ]
    replace hrow := SubV.grown hrow hg
    replace hb := hb.grown hg (by simp)
    replace hlt := Nat.lt_of_lt_of_le hlt hg.size
    clear hg
    have hb9 : Blk (((v26.setCell ⟨k7, 0, none⟩ (.bool true)).setCell ⟨k7, 1, none⟩ (.string ⟨#[]⟩)).setCell ⟨k7, 2, none⟩ (.slice (some ⟨u5z, 0, none⟩) 3 3)) k7 45 #[.bool true, .string ⟨#[]⟩, .slice (some ⟨u5z, 0, none⟩) 3 3] := ((hb.set_ 0 _).set_ 1 _).set_ 2 _
    have h9 := sub_set3 (g := k7) hrow (fun h => h rfl) (.bool true) (.string ⟨#[]⟩) (.slice (some ⟨u5z, 0, none⟩) 3 3)
    have hS9 : Below w2.heap.size w2 (((v26.setCell ⟨k7, 0, none⟩ (.bool true)).setCell ⟨k7, 1, none⟩ (.string ⟨#[]⟩)).setCell ⟨k7, 2, none⟩ (.slice (some ⟨u5z, 0, none⟩) 3 3)) := below_of_grown (only_set (only_set (only_set (grown_of_below hS) (p := ⟨k7, 0, none⟩) hz8 _) (p := ⟨k7, 1, none⟩) hz8 _) (p := ⟨k7, 2, none⟩) hz8 _)
    refine held_one (i := 12) (by kernel_rfl) ?_
    refine held_store rfl rfl (exec_store3 (.tmp 5) (.tmp 23) rfl rfl rfl hb (by simp)) hS9 ?_
    simp only [Act.put, List.setIfInBounds_toArray, List.set_cons_zero, List.set_cons_succ]
    refine wpAnyH_done (by kernel_rfl) ?_ _
    go_wp2_with fail
    go_meet
    exact ⟨k7, u5z, rfl, hb9, hz8, h9, grown_of_below hS9⟩
end Go.Proofs.YthalohloneojlaaGreatDoor
