/- Wrappers: Put.  Printed by wip/genWrpC.py -/
import Derived.Test.YtdflihfecfmpfaaDoorWrpB
import Derived.Test.YtdflihfecfmpfaaDoorBldB
import Derived.Test.YtdflihfecfmpfaaDoorRlpG1
import Derived.Test.YtdflihfecfmpfaaDoorVar
import Derived.Test.YtdflihfecfmpfaaDoorOne
namespace Go.Proofs.YtdflihfecfmpfaaDoor
open Go.RowKit Go.Shelf
set_option linter.unusedVariables false
set_option linter.unusedSimpArgs false

theorem part_len {v : Int} {x : ByteArray} (h : x.size ≤ 32768) : (partW v x).length ≤ 32800 := by
  have hsz := size_list' x
  unfold partW
  split
  · have : (varL x.size).length ≤ 10 := varF_len 10 _
    rw [List.length_append]; omega
  · have := bytesT_len x (by omega); omega
theorem flat_len {v : Int} : ∀ (ys : List ByteArray), (∀ x ∈ ys, x.size ≤ 32768) → (ys.flatMap (partW v)).length ≤ ys.length * 32800
  | [], _ => by simp
  | y :: ys, h => by
    have h1 := flat_len (v := v) ys fun x hx => h x (by simp [hx])
    have h2 := part_len (v := v) (h y (by simp))
    rw [List.flatMap_cons, List.length_append, List.length_cons, Nat.succ_mul]; omega
theorem flat_take {v : Int} {xs : List ByteArray} {n : Nat} (hl : xs.length = n) (h64 : n ≤ 64) (hx : ∀ x ∈ xs, x.size ≤ 32768) (k : Nat) : ((xs.take k).flatMap (partW v)).length ≤ 2099200 := by
  have h1 := flat_len (v := v) (xs.take k) fun x h => hx x (List.mem_of_mem_take h)
  have h2 : (xs.take k).length ≤ 64 := by rw [List.length_take]; omega
  have h3 : (xs.take k).length * 32800 ≤ 64 * 32800 := Nat.mul_le_mul_right _ h2
  omega
theorem flat_snoc {v : Int} {xs : List ByteArray} {k : Nat} (hk : k < xs.length) : (xs.take (k + 1)).flatMap (partW v) = (xs.take k).flatMap (partW v) ++ partW v (xs.getD k .empty) := by
  rw [take_snoc xs k .empty hk, List.flatMap_append]; simp
theorem txt_ok {x : ByteArray} (h2 : 2 ≤ x.size) (h : x.size ≤ 32768) : checkI (.mk false x []) = 0 ∧ encB (.mk false x []) = bytesT x ∧ wtF (.mk false x []) ≤ 1000000000 := by
  have hf : formF (.mk false x []) 0 = 0 := by rw [formF_eq]; rw [if_neg (by rintro (⟨e, _⟩ | ⟨_, e⟩); cases e; exact e rfl), if_pos (show (Itm.mk false x []).list = false from rfl)]
  have hb : bytesF (.mk false x []) = bytesT x := by rw [bytesF_eq]; rfl
  have hc : checkI (.mk false x []) = 0 := by
    unfold checkI
    have := bytesT_len x (by omega)
    rw [if_neg (by rw [hf]; simp), hb, if_neg (by omega)]
  refine ⟨hc, by unfold encB; rw [if_pos hc, hb], ?_⟩
  rw [wtF_eq]
  show 10 + x.size + wtL [] ≤ _
  rw [wtL]; omega
abbrev IsBl (B b : Nat) (l : List UInt8) (w : World) : Prop := Lib.IsBuilder 40 5 B b (Lib.byteCells l) w
theorem write_any (B b : Nat) (l m : List UInt8) (s : ByteArray) (hs : s.data.toList = m) (w : World) (h : IsBl B b l w) (hlen : l.length + m.length ≤ 140737488355328) (hBw : B ≤ w.heap.size) :
    Calls Tryd.prog 19 #[.pointer (some ⟨b, 0, none⟩), .string s] w fun e w' => e = .returned (.tuple #[.int .i64 s.size, .nilIface]) ∧ (IsBl B b (l ++ m) w' ∧ Below B w w') := by
  have hz := size_list' s
  rw [hs] at hz
  refine (writeString_any B b _ s w h (by simp [Lib.byteCells]; omega) hBw).mono ?_
  rintro e w' ⟨rfl, h1, h2⟩
  refine ⟨rfl, ?_, h2⟩
  rw [strCells_eq, hs, ← byteCells_append] at h1
  exact h1

set_option maxRecDepth 100000 in
set_option maxHeartbeats 4000000 in
theorem wput_0 (B : Nat) (A : Option Addr) (n c : Nat) (xs : List ByteArray) (w : World) (hB : B ≤ w.heap.size) (h : Reads w B 1 A n (xs.map Value.string)) (hn : n ≤ 9223372036854775807) (hnc : n ≤ c) (hs : ∀ x ∈ xs, x.size ≤ 9223372036854775807) (hE : checkW 0 xs = 0) :
    Calls Tryd.prog 11 #[.int .i64 0, .slice A n c] w fun e w' => e = .returned (.tuple #[.string ⟨(putW 0 xs).toArray⟩, .int .i64 (checkW 0 xs)]) ∧ w.grownBy w' none := by
  have hl : xs.length = n := by have := h.1; simpa using this
  have HL := Lib.hid hl
  have HC := Lib.hid (wcheck_any 0 B A n c xs w hB h hn hnc hs)
  have HR := Lib.hid h; have HB := Lib.hid hB
  have hp : putW 0 xs = putL 0 xs := if_pos hE
  obtain ⟨hv, k0, k64, kx, ks⟩ := checkW_0.1 hE
  have kx2 : ∀ x ∈ xs, 2 ≤ x.size ∧ x.size ≤ 32768 := fun x hx => longE_0.1 (kx x hx)
  have HX := Lib.hid kx2
  have H64 := Lib.hid (show n ≤ 64 by omega)
  rw [hE] at HC ⊢
  rw [hp]
  obtain ⟨L, hL⟩ : ∃ L, putL 0 xs = L := ⟨_, rfl⟩
  rw [hL]
  have HLL := Lib.hid hL
  clear hp hE h hs k0 k64 kx ks kx2 hL hl hB hn hnc

  go_enter Tryd.func11, Tryd.ntmps11
  go_wp2_with fail
  refine HC.out.mono ?_
  rintro e w1 ⟨rfl, hg⟩
  clear HC
  go_upto_region 5 with (fail)
  have hb0 := builder_new w1
  have hg1 := below_of_grown (only_alloc hg (.cells #[.pointer none, .slice none 0 0] 40))
  have hz1 : (w1.alloc (.cells #[.pointer none, .slice none 0 0] 40)).heap.size = w1.heap.size + 1 := by simp
  have hz0 := hg.size
  obtain ⟨b, hb⟩ : ∃ b, w1.heap.size = b := ⟨_, rfl⟩
  rw [hb] at hb0 hz0 hz1 ⊢
  generalize w1.alloc (.cells #[.pointer none, .slice none 0 0] 40) = w2 at *
  have HBB := Lib.hid (show w.heap.size ≤ b from hz0)
  have HK := Lib.hid (show IsBl b b [] w2 from hb0)
  have HS := Lib.hid (show b ≤ w2.heap.size by omega)
  have HG := Lib.hid hg1
  clear hb0 hg hg1 hz0 hz1 hb
  have HF := Lib.hid (fun k => flat_take (v := 0) HL.out H64.out (fun x hx => (HX.out x hx).2) k)
  go_wp2_with fail
  go_loopw [28] (fun i wr => ∃ k : Nat, i = .int .i64 k ∧ k ≤ n ∧ Hid (IsBl b b ([] ++ (xs.take k).flatMap (partW 0)) wr) ∧ Hid (Below w.heap.size w wr) ∧ b ≤ wr.heap.size) (fun i _ => n - (intOf i).toNat)
  case atStart => exact ⟨0, rfl, by omega, by rw [List.take_zero, List.flatMap_nil, List.append_nil]; exact HK, HG, HS.out⟩
  case round =>
    obtain ⟨k, rfl, hk, hkb, hgb, hsb⟩ := hrel
    by_cases hlt : k < n
    · have q1 : (k : Int) < (n : Int) := by omega
      obtain ⟨q, off, rfl, hq, hc⟩ := Reads.vals Value.string .empty ((HR.out.below (hgb.out.mono HB.out))) hlt
      have c0 := hc k hlt
      have hmem := getD_mem (xs := xs) (k := k) (by have := HL.out; omega)
      obtain ⟨x, hx⟩ : ∃ x, xs.getD k .empty = x := ⟨_, rfl⟩
      rw [hx] at c0 hmem
      have hfk := HF.out k
      have HFK := Lib.hid hfk
      have hsn : (xs.take (k + 1)).flatMap (partW 0) = (xs.take k).flatMap (partW 0) ++ partW 0 x := by rw [flat_snoc (by have := HL.out; omega), hx]
      have hx2 := HX.out x hmem
      have HX2 := Lib.hid hx2
      have HSN := Lib.hid hsn
      have HK := Lib.hid hkb.out; have HG := Lib.hid hgb.out; have HS := Lib.hid hsb
      obtain ⟨Tk, hTk⟩ : ∃ T, (xs.take k).flatMap (partW 0) = T := ⟨_, rfl⟩
      rw [hTk] at HK HFK HSN
      clear hkb hgb hsb hc hx hmem hfk hsn hx2 hTk
      have hn64 := H64.out
      go_wp2_with fail
      obtain ⟨ok1, ok2, ok3⟩ := txt_ok HX2.out.1 HX2.out.2
      have henc := fun V => encodeP_any (.mk false x []) V (.slice none 0 0) (leafW V 0) ok3
      rw [ok1, ok2] at henc
      have HEN := Lib.hid henc
      clear henc ok1 ok2 ok3
      go_wp2_with fail
      refine (HEN.out _).mono ?_
      rintro e w3 ⟨rfl, hg⟩
      replace HG := Lib.hid (HG.out.trans ((below_of_grown hg).mono (Nat.le_trans HBB.out HS.out)))
      replace HK := Lib.hid (builder_grown HK.out hg)
      replace HS := Lib.hid (Nat.le_trans HS.out hg.size)
      clear hg
      go_wp2_with fail
      refine (write_any b b _ (bytesT x) _ rfl _ HK.out (by have := HFK.out; have := bytesT_len x (by have := HX2.out; omega); have := HX2.out; simp only [List.length_append, List.length_nil]; omega) HS.out).mono ?_
      rintro e w4 ⟨rfl, hk, hg⟩
      replace HG := Lib.hid (HG.out.trans (hg.mono HBB.out))
      replace HS := Lib.hid (Nat.le_trans HS.out hg.size)
      have HK := Lib.hid hk
      clear hk hg
      go_wp2_with fail
      refine ⟨⟨k + 1, by go_num, by omega, Lib.hid ?_, HG, HS.out⟩, by simp [intOf]; omega⟩
      rw [HSN.out, ← List.append_assoc]
      exact HK.out
    · have hkn : k = n := by omega
      have q1 : (n : Int) ≤ (k : Int) := by omega
      have HE : Hid ([] ++ (xs.take k).flatMap (partW 0) = L) := Lib.hid (by rw [List.take_of_length_le (by have := HL.out; omega)]; exact HLL.out)
      rw [HE.out] at hkb
      have HG := Lib.hid hgb.out
      have hst := builderString_any b b L wr hkb.out hsb
      have HST := Lib.hid hst
      clear hkb hgb hst
      go_wp2_with fail
      refine HST.out.mono ?_
      rintro e w9 ⟨rfl, hg⟩
      have hG := HG.out.trans (hg.mono HBB.out)
      clear hg HST
      go_wp2_with fail
      go_ret2
      exact ⟨rfl, grown_of_below hG⟩
set_option maxRecDepth 100000 in
set_option maxHeartbeats 4000000 in
theorem wput_2 (B : Nat) (A : Option Addr) (n c : Nat) (xs : List ByteArray) (w : World) (hB : B ≤ w.heap.size) (h : Reads w B 1 A n (xs.map Value.string)) (hn : n ≤ 9223372036854775807) (hnc : n ≤ c) (hs : ∀ x ∈ xs, x.size ≤ 9223372036854775807) (hE : checkW 2 xs = 0) :
    Calls Tryd.prog 11 #[.int .i64 2, .slice A n c] w fun e w' => e = .returned (.tuple #[.string ⟨(putW 2 xs).toArray⟩, .int .i64 (checkW 2 xs)]) ∧ w.grownBy w' none := by
  have hl : xs.length = n := by have := h.1; simpa using this
  have HL := Lib.hid hl
  have HC := Lib.hid (wcheck_any 2 B A n c xs w hB h hn hnc hs)
  have HR := Lib.hid h; have HB := Lib.hid hB
  have hp : putW 2 xs = putL 2 xs := if_pos hE
  obtain ⟨hv, k0, k64, kx, ks⟩ := checkW_0.1 hE
  have kx2 : ∀ x ∈ xs, 2 ≤ x.size ∧ x.size ≤ 32768 := fun x hx => longE_0.1 (kx x hx)
  have HX := Lib.hid kx2
  have H64 := Lib.hid (show n ≤ 64 by omega)
  rw [hE] at HC ⊢
  rw [hp]
  obtain ⟨L, hL⟩ : ∃ L, putL 2 xs = L := ⟨_, rfl⟩
  rw [hL]
  have HLL := Lib.hid hL
  clear hp hE h hs k0 k64 kx ks kx2 hL hl hB hn hnc

  go_enter Tryd.func11, Tryd.ntmps11
  go_wp2_with fail
  refine HC.out.mono ?_
  rintro e w1 ⟨rfl, hg⟩
  clear HC
  go_upto_region 5 with (fail)
  have hb0 := builder_new w1
  have hg1 := below_of_grown (only_alloc hg (.cells #[.pointer none, .slice none 0 0] 40))
  have hz1 : (w1.alloc (.cells #[.pointer none, .slice none 0 0] 40)).heap.size = w1.heap.size + 1 := by simp
  have hz0 := hg.size
  obtain ⟨b, hb⟩ : ∃ b, w1.heap.size = b := ⟨_, rfl⟩
  rw [hb] at hb0 hz0 hz1 ⊢
  generalize w1.alloc (.cells #[.pointer none, .slice none 0 0] 40) = w2 at *
  have HBB := Lib.hid (show w.heap.size ≤ b from hz0)
  have HK := Lib.hid (show IsBl b b [] w2 from hb0)
  have HS := Lib.hid (show b ≤ w2.heap.size by omega)
  have HG := Lib.hid hg1
  clear hb0 hg hg1 hz0 hz1 hb
  have HN := Lib.hid (show n < 18446744073709551616 by have := H64.out; omega)
  have v1 : IntKind.u64.wrap (n : Int) = (n : Int) := wrap_nat64 HN.out
  go_wp2_with fail
  refine (writeByte_any b b [] 2 _ HK.out (by simp) HS.out).mono ?_
  rintro e w3 ⟨rfl, hk, hg⟩
  replace HG := Lib.hid (HG.out.trans (hg.mono HBB.out))
  replace HS := Lib.hid (Nat.le_trans HS.out hg.size)
  have HK := Lib.hid hk
  clear hk hg
  go_wp2_with fail
  refine (var_any n HN.out _).mono ?_
  rintro e w4 ⟨rfl, hg⟩
  replace HG := Lib.hid (HG.out.trans ((below_of_grown hg).mono (Nat.le_trans HBB.out HS.out)))
  replace HK := Lib.hid (builder_grown HK.out hg)
  replace HS := Lib.hid (Nat.le_trans HS.out hg.size)
  clear hg
  go_wp2_with fail
  refine (write_any b b ([] ++ [2]) (varL n) _ rfl _ HK.out (by have : (varL n).length ≤ 10 := varF_len 10 n; simp; omega) HS.out).mono ?_
  rintro e w5 ⟨rfl, hk, hg⟩
  replace HG := Lib.hid (HG.out.trans (hg.mono HBB.out))
  replace HS := Lib.hid (Nat.le_trans HS.out hg.size)
  have HK := Lib.hid hk
  clear hk hg
  have HF := Lib.hid (fun k => flat_take (v := 2) HL.out H64.out (fun x hx => (HX.out x hx).2) k)
  go_wp2_with fail
  go_loopw [28] (fun i wr => ∃ k : Nat, i = .int .i64 k ∧ k ≤ n ∧ Hid (IsBl b b (([] ++ [2] ++ varL n) ++ (xs.take k).flatMap (partW 2)) wr) ∧ Hid (Below w.heap.size w wr) ∧ b ≤ wr.heap.size) (fun i _ => n - (intOf i).toNat)
  case atStart => exact ⟨0, rfl, by omega, by rw [List.take_zero, List.flatMap_nil, List.append_nil]; exact HK, HG, HS.out⟩
  case round =>
    obtain ⟨k, rfl, hk, hkb, hgb, hsb⟩ := hrel
    by_cases hlt : k < n
    · have q1 : (k : Int) < (n : Int) := by omega
      obtain ⟨q, off, rfl, hq, hc⟩ := Reads.vals Value.string .empty ((HR.out.below (hgb.out.mono HB.out))) hlt
      have c0 := hc k hlt
      have hmem := getD_mem (xs := xs) (k := k) (by have := HL.out; omega)
      obtain ⟨x, hx⟩ : ∃ x, xs.getD k .empty = x := ⟨_, rfl⟩
      rw [hx] at c0 hmem
      have hfk := HF.out k
      have HFK := Lib.hid hfk
      have hsn : (xs.take (k + 1)).flatMap (partW 2) = (xs.take k).flatMap (partW 2) ++ partW 2 x := by rw [flat_snoc (by have := HL.out; omega), hx]
      have hx2 := HX.out x hmem
      have HX2 := Lib.hid hx2
      have HSN := Lib.hid hsn
      have HK := Lib.hid hkb.out; have HG := Lib.hid hgb.out; have HS := Lib.hid hsb
      obtain ⟨Tk, hTk⟩ : ∃ T, (xs.take k).flatMap (partW 2) = T := ⟨_, rfl⟩
      rw [hTk] at HK HFK HSN
      clear hkb hgb hsb hc hx hmem hfk hsn hx2 hTk
      have hn64 := H64.out
      have v2 : IntKind.u64.wrap (x.size : Int) = (x.size : Int) := wrap_nat64 (by have := HX2.out; omega)
      have HVL := Lib.hid (show (varL n).length ≤ 10 from varF_len 10 n)
      have HVX := Lib.hid (show (varL x.size).length ≤ 10 from varF_len 10 x.size)
      have HSZ := Lib.hid (size_list' x)
      go_wp2_with fail
      refine (var_any x.size (by have := HX2.out; omega) _).mono ?_
      rintro e w6 ⟨rfl, hg⟩
      replace HG := Lib.hid (HG.out.trans ((below_of_grown hg).mono (Nat.le_trans HBB.out HS.out)))
      replace HK := Lib.hid (builder_grown HK.out hg)
      replace HS := Lib.hid (Nat.le_trans HS.out hg.size)
      clear hg
      go_wp2_with fail
      refine (write_any b b _ (varL x.size) _ rfl _ HK.out (by have := HFK.out; have := HVL.out; have := HVX.out; simp only [List.length_append, List.length_nil, List.length_cons]; omega) HS.out).mono ?_
      rintro e w7 ⟨rfl, hk, hg⟩
      replace HG := Lib.hid (HG.out.trans (hg.mono HBB.out))
      replace HS := Lib.hid (Nat.le_trans HS.out hg.size)
      have HK := Lib.hid hk
      clear hk hg
      go_wp2_with fail
      refine (write_any b b _ x.data.toList _ rfl _ HK.out (by have := HFK.out; have := HVL.out; have := HVX.out; have := HSZ.out; have := HX2.out; simp only [List.length_append, List.length_nil, List.length_cons]; omega) HS.out).mono ?_
      rintro e w8 ⟨rfl, hk, hg⟩
      replace HG := Lib.hid (HG.out.trans (hg.mono HBB.out))
      replace HS := Lib.hid (Nat.le_trans HS.out hg.size)
      have HK := Lib.hid hk
      clear hk hg
      go_wp2_with fail
      refine ⟨⟨k + 1, by go_num, by omega, Lib.hid ?_, HG, HS.out⟩, by simp [intOf]; omega⟩
      rw [HSN.out, show partW 2 x = varL x.size ++ x.data.toList from if_pos rfl]
      have := HK.out
      simp only [List.append_assoc] at this ⊢
      exact this
    · have hkn : k = n := by omega
      have q1 : (n : Int) ≤ (k : Int) := by omega
      have HE : Hid (([] ++ [2] ++ varL n) ++ (xs.take k).flatMap (partW 2) = L) := Lib.hid (by
        rw [List.take_of_length_le (by have := HL.out; omega), ← HLL.out, ← HL.out]; unfold putL; rw [if_pos rfl]; rfl)
      rw [HE.out] at hkb
      have HG := Lib.hid hgb.out
      have hst := builderString_any b b L wr hkb.out hsb
      have HST := Lib.hid hst
      clear hkb hgb hst
      go_wp2_with fail
      refine HST.out.mono ?_
      rintro e w9 ⟨rfl, hg⟩
      have hG := HG.out.trans (hg.mono HBB.out)
      clear hg HST
      go_wp2_with fail
      go_ret2
      exact ⟨rfl, grown_of_below hG⟩

set_option maxRecDepth 100000 in
set_option maxHeartbeats 4000000 in
theorem wput_any (v : Int) (B : Nat) (A : Option Addr) (n c : Nat) (xs : List ByteArray) (w : World) (hB : B ≤ w.heap.size) (h : Reads w B 1 A n (xs.map Value.string)) (hn : n ≤ 9223372036854775807) (hnc : n ≤ c) (hs : ∀ x ∈ xs, x.size ≤ 9223372036854775807) :
    Calls Tryd.prog 11 #[.int .i64 v, .slice A n c] w fun e w' => e = .returned (.tuple #[.string ⟨(putW v xs).toArray⟩, .int .i64 (checkW v xs)]) ∧ w.grownBy w' none := by
  have hl : xs.length = n := by have := h.1; simpa using this
  have HL := Lib.hid hl
  have HC := Lib.hid (wcheck_any v B A n c xs w hB h hn hnc hs)
  have HR := Lib.hid h; have HB := Lib.hid hB
  obtain ⟨E, hE⟩ : ∃ E, checkW v xs = E := ⟨_, rfl⟩
  by_cases h0 : E = 0
  rotate_left
  · have hp : putW v xs = [] := if_neg (by rw [hE]; exact h0)
    have e1 : (E != 0) = true := by simpa using h0
    rw [hE] at HC ⊢
    rw [hp]
    clear hp hE h0 h hs
    go_enter Tryd.func11, Tryd.ntmps11
    go_wp2_with fail
    refine HC.out.mono ?_
    rintro e w1 ⟨rfl, hg⟩
    clear HC
    go_wp2_with fail
    go_ret2
    exact ⟨rfl, hg⟩
  subst h0
  obtain ⟨hv, -⟩ := checkW_0.1 hE
  rcases hv with rfl | rfl
  · exact wput_0 B A n c xs w hB h hn hnc hs hE
  · exact wput_2 B A n c xs w hB h hn hnc hs hE

end Go.Proofs.YtdflihfecfmpfaaDoor
