/- An item's bytes (bytes, Size): the closure that calls itself. -/
import Derived.Test.YtdflihfecfmpfaaDoorRlpB
import Derived.Laws.EntriesVeiled
namespace Go.Proofs.YtdflihfecfmpfaaDoor
open Go.RowKit Go.Shelf
set_option linter.unusedVariables false
set_option linter.unusedSimpArgs false

/-- the closure's contract, of one item -/
def BytesC (x : Itm) : Prop := ∀ (W : World) (B b q : Nat) (bs : List UInt8) (sx : Value), Boxed W q 80 (.func (.func 47) #[] #[.pointer (some ⟨q, 0, none⟩)]) → q < B → B ≤ W.heap.size →
  Lib.IsBuilder 40 5 B b (Lib.byteCells bs) W → SubV (fun g => g < B) W x.items sx → wtF x ≤ 1000000000 → bs.length + wtF x ≤ 2000000000 →
  Calls Tryd.prog 47 #[.agg #[.bool x.list, .string x.bytes, sx], .pointer (some ⟨b, 0, none⟩), .pointer (some ⟨q, 0, none⟩)] W fun e W' => e = .returned (.tuple #[]) ∧ Lib.IsBuilder 40 5 B b (Lib.byteCells (bs ++ bytesF x)) W' ∧ Below B W W'

theorem grown_belowB {a w w' : World} {B : Nat} (h : a.grownBy w none) (hb : Below B w w') (hB : a.heap.size ≤ B) : a.grownBy w' none :=
  ⟨hb.os.trans h.os, hb.tape.trans h.tape, hb.output.trans h.output, Nat.le_trans h.size hb.size, fun g hg hne => (hb.block g (by omega)).trans (h.block g hg hne)⟩
theorem SubV.belowB {B : Nat} {W W' : World} {xs : List Itm} {v : Value} (h : SubV (fun g => g < B) W xs v) (hg : Below B W W') : SubV (fun g => g < B) W' xs v :=
  h.keep fun p hp u hu => by rw [hg.cell (p := p) hp]; exact hu
theorem Boxed.belowB {W W' : World} {B q : Nat} {t : TypeId} {v : Value} (h : Boxed W q t v) (hb : Below B W W') (hq : q < B) : Boxed W' q t v := (hb.block q hq).trans h

theorem builder_same {T e : TypeId} {B b : Nat} {bs : List Value} {w w' : World} (h : Lib.IsBuilder T e B b bs w) (hk : ∀ g, g < w.heap.size → w'.heap[g]? = w.heap[g]?) : Lib.IsBuilder T e B b bs w' := by
  have key : ∀ p, Lib.BuilderAt T e B b p bs w → Lib.BuilderAt T e B b p bs w' := by
    rintro p ⟨h1, v, h2, h3, h4⟩
    refine ⟨h1, v, (hk b (Array.getElem?_eq_some_iff.1 h2).1).trans h2, ⟨h3.1, ?_⟩, h4⟩
    rcases h3.2 with h5 | ⟨g, cap, cur, rfl, hb, hg, rest⟩
    · exact .inl h5
    · exact .inr ⟨g, cap, cur, rfl, hb, (hk g (Array.getElem?_eq_some_iff.1 hg).1).trans hg, rest⟩
  exact h.elim (fun h => .inl (key _ h)) (fun h => .inr (key _ h))

set_option maxRecDepth 100000 in
set_option maxHeartbeats 2000000 in
/-- the arm of bytes -/
theorem bytes_text (x : Itm) (hx : x.list = false) : BytesC x := by
  intro W B b q bs sx hq hqB hBW hbl hsx hwt hroom
  obtain ⟨A, c, rfl⟩ := hsx.slice
  have hbt : bytesF x = bytesT x.bytes := by rw [bytesF_eq, hx]; rfl
  have hwx := wtF_eq x
  have HB := Lib.hid (builder_grown hbl (only_alloc (World.grownBy.refl W none) (.cells #[.bool x.list, .string x.bytes, .slice A x.items.length c] 51)))
  have HG := Lib.hid ((Below.refl B W).alloc hBW (.cells #[.bool x.list, .string x.bytes, .slice A x.items.length c] 51))
  have hbz : (Lib.byteCells bs).length = bs.length := by simp [Lib.byteCells]
  rw [hbt]
  rw [hx] at HB HG ⊢
  have hlz : x.bytes.data.toList.length = x.bytes.size := Array.length_toList
  generalize x.items.length = n at *
  generalize hb : x.bytes = t at *
  by_cases h1 : t.size = 1 ∧ (t.data.toList.getD 0 0).toNat < 128
  · have hT : bytesT t = t.data.toList := if_pos h1
    obtain ⟨h1, h2⟩ := h1
    have hw : ∀ V, Lib.IsBuilder 40 5 B b (Lib.byteCells bs) V → B ≤ V.heap.size → _ := fun V hV hBV => writeString_any B b (Lib.byteCells bs) t V hV (by rw [hbz]; omega) hBV
    have d1 : 0 < t.size := by omega
    have hc : ((t[0]'d1).toNat : Int) < 128 := by
      have e2 : t.data[0]? = some (t[0]'d1) := Array.getElem?_eq_getElem d1
      have : t.data.toList.getD 0 0 = t[0]'d1 := by rw [List.getD_eq_getElem?_getD, Array.getElem?_toList, e2]; rfl
      rw [← this]; omega
    have e1 : ((t.size : Int) == 1) = true := by rw [beq_iff_eq]; omega
    have HW := Lib.hid hw; have HT := Lib.hid hT
    have HZ := Lib.hid h1
    clear hw hT hbl hsx hq h1 h2 hbz hlz hwx hb
    go_enter Tryd.func47, Tryd.ntmps47
    go_wp2_with fail
    refine (HW.out _ HB.out (by simp; omega)).mono ?_
    rintro e w2 ⟨rfl, hbl, hg⟩
    have HG := Lib.hid (HG.out.trans hg)
    have HL : Hid (Lib.byteCells bs ++ Lib.strCells t = Lib.byteCells (bs ++ t.data.toList)) := Lib.hid (by rw [strCells_eq, byteCells_append])
    have HBL := Lib.hid hbl
    clear hbl hg
    go_wp2_with fail
    go_end0
    exact ⟨rfl, by rw [HT.out, ← HL.out]; exact HBL.out, HG.out⟩
  · have hT : bytesT t = headL t.size 128 ++ t.data.toList := if_neg h1
    have hls := headL_len t.size 128 (by omega)
    have hh := fun V => headed_any t 128 (by omega) (by omega) V
    obtain ⟨r, hr⟩ : ∃ r, headL t.size 128 ++ t.data.toList = r := ⟨_, rfl⟩
    have hrl : r.length ≤ 9 + t.size := by rw [← hr, List.length_append]; omega
    rw [hr] at hT hh
    have hw : ∀ V, Lib.IsBuilder 40 5 B b (Lib.byteCells bs) V → B ≤ V.heap.size → _ := fun V hV hBV => writeString_any B b (Lib.byteCells bs) ⟨r.toArray⟩ V hV (by rw [hbz]; show _ + r.toArray.size ≤ _; rw [List.size_toArray]; omega) hBV
    have hguard : ((t.size : Int) == 1) = false ∨ (((t.size : Int) == 1) = true ∧ ∃ d1 : 0 < t.size, decide (((t[0]'d1).toNat : Int) < 128) = false) := by
      by_cases hz : t.size = 1
      · refine .inr ⟨by rw [beq_iff_eq]; omega, by omega, ?_⟩
        have d1 : 0 < t.size := by omega
        have e2 : t.data[0]? = some (t[0]'d1) := Array.getElem?_eq_getElem d1
        have : t.data.toList.getD 0 0 = t[0]'d1 := by rw [List.getD_eq_getElem?_getD, Array.getElem?_toList, e2]; rfl
        have h2 : ¬ (t.data.toList.getD 0 0).toNat < 128 := fun h => h1 ⟨hz, h⟩
        rw [this] at h2
        exact decide_eq_false (by omega)
      · exact .inl (by rw [beq_eq_false_iff_ne]; omega)
    have HW := Lib.hid hw; have HT := Lib.hid hT; have HH := Lib.hid hh
    clear hw hT hh hbl hsx hq h1 hbz hlz hwx hb hr hls hrl
    rcases hguard with e1 | ⟨e1, d1, e2⟩
    all_goals
      go_enter Tryd.func47, Tryd.ntmps47
      go_wp2_with fail
      refine (HH.out _).mono ?_
      rintro e w2 ⟨rfl, hg1⟩
      have HB := Lib.hid (builder_grown HB.out hg1)
      have HG := Lib.hid (HG.out.trans ((below_of_grown hg1).mono (by simp; omega)))
      have hz2 := hg1.size
      simp only [World.size_alloc] at hz2
      have HZ2 := Lib.hid hz2
      clear hg1 hz2
      go_wp2_with fail
      refine (HW.out _ HB.out (by have := HZ2.out; omega)).mono ?_
      rintro e w3 ⟨rfl, hbl, hg⟩
      have HG := Lib.hid (HG.out.trans hg)
      have HL : Hid (Lib.byteCells bs ++ Lib.strCells ⟨r.toArray⟩ = Lib.byteCells (bs ++ r)) := Lib.hid (by rw [strCells_eq, byteCells_append])
      have HBL := Lib.hid hbl
      clear hbl hg
      go_wp2_with fail
      go_end0
      exact ⟨rfl, by rw [HT.out, ← HL.out]; exact HBL.out, HG.out⟩

set_option maxRecDepth 100000 in
set_option maxHeartbeats 2000000 in
/-- the arm of lists -/
theorem bytes_list (x : Itm) (hx : x.list = true) (hC : ∀ i, i < x.items.length → BytesC (x.items.getD i Itm.none_)) : BytesC x := by
  intro W B b q bs sx hq hqB hBW hbl hsx hwt hroom
  obtain ⟨A, c, rfl⟩ := hsx.slice
  have hbt : bytesF x = headL (bytesL x.items).length 192 ++ bytesL x.items := by rw [bytesF_eq, hx]; rfl
  have hwx := wtF_eq x
  have hok := ok_of_wt x hwt
  have hbz : (Lib.byteCells bs).length = bs.length := by simp [Lib.byteCells]
  have hlen := bytesL_len x.items (by omega)
  have hG1 := only_alloc (World.grownBy.refl W none) (.cells #[.bool x.list, .string x.bytes, .slice A x.items.length c] 51)
  have hW1 := (Below.refl B W).alloc hBW (.cells #[.bool x.list, .string x.bytes, .slice A x.items.length c] 51)
  have hx0 := Blk.new W 51 #[.bool x.list, .string x.bytes, .slice A x.items.length c]
  have hB1 := builder_grown hbl hG1
  have hS1 := hsx.belowB hW1
  have hQ1 := Boxed.belowB hq hW1 hqB
  have hn := hok.items
  have hlast := Nat.le_trans hBW hG1.size
  rw [hbt]
  rw [hx] at hG1 hW1 hx0 hB1 hS1 hQ1 hlast ⊢
  go_enter Tryd.func47, Tryd.ntmps47
  go_upto_region 2 with (fail)
  generalize W.alloc (.cells #[.bool true, .string x.bytes, .slice A x.items.length c] 51) = W1 at *
  obtain ⟨b0, hb0⟩ : ∃ b0, W.heap.size = b0 := ⟨_, rfl⟩
  rw [hb0] at hx0 ⊢
  have c0 := hx0.cell 0; have c1 := hx0.cell 2
  simp only [List.getElem?_toArray, List.getElem?_cons_zero, List.getElem?_cons_succ] at c0 c1
  go_upto_region 4 with (fail)
  have hin := builder_new W1
  have hkeep0 : ∀ V, Below W1.heap.size (W1.alloc (.cells #[.pointer none, .slice none 0 0] 40)) V → Lib.IsBuilder 40 5 B b (Lib.byteCells bs) V := fun V hV =>
    builder_same hB1 fun g hg => (hV.block g hg).trans (Below.heap_alloc W1 _ g hg)
  have hB2 := builder_grown hB1 (only_alloc (World.grownBy.refl W1 none) (.cells #[.pointer none, .slice none 0 0] 40))
  have hx2 := hx0.alloc (.cells #[.pointer none, .slice none 0 0] 40)
  have hW2 := hW1.alloc hlast (.cells #[.pointer none, .slice none 0 0] 40)
  have hS2 := hS1.belowB ((Below.refl B W1).alloc hlast (.cells #[.pointer none, .slice none 0 0] 40))
  have hQ2 := Boxed.belowB hQ1 ((Below.refl B W1).alloc hlast (.cells #[.pointer none, .slice none 0 0] 40)) hqB
  have hlt0 := hx0.lt
  have hlb := (builder_lt hB1).1
  obtain ⟨D, hD⟩ : ∃ D, W1.heap.size = D := ⟨_, rfl⟩
  have hz2 : (W1.alloc (.cells #[.pointer none, .slice none 0 0] 40)).heap.size = D + 1 := by simp [hD]
  rw [hD] at hin hlast hlt0 hlb hkeep0 ⊢
  generalize W1.alloc (.cells #[.pointer none, .slice none 0 0] 40) = W2 at *
  clear hB1 hx0 hW1 hS1 hQ1 c0 c1 hG1 hbl hsx hq
  have c1 := hx2.cell 2
  simp only [List.getElem?_toArray, List.getElem?_cons_zero, List.getElem?_cons_succ] at c1
  have hkeep := hkeep0
  obtain ⟨xs, hxs⟩ : ∃ xs, x.items = xs := ⟨_, rfl⟩
  obtain ⟨n, hnn⟩ : ∃ n, xs.length = n := ⟨_, rfl⟩
  rw [hxs] at hn hwx hlen hS2 hC hx2 c1 ⊢
  rw [hnn] at hn hS2 hx2 c1 ⊢
  have HN := Lib.hid hnn
  have HXS := Lib.hid hxs
  have HC := Lib.hid hC
  have HQ := Lib.hid hQ2
  have HK := Lib.hid hkeep
  have HBT := Lib.hid hbt
  have hwi : ∀ k, k < xs.length → wtF (xs.getD k Itm.none_) + (bytesL (xs.take k)).length ≤ 1000000000 := by
    intro k hk
    have h1 := wtL_get hk
    have h2 := wtL_take xs k
    have h3 := bytesL_len (xs.take k) (by omega)
    omega
  have HWI := Lib.hid hwi
  have HLEN := Lib.hid hlen
  clear hC hQ2 hkeep hkeep0 hok hwi hxs hnn hbt hlen hB2 hx
  go_wp2_with fail
  go_loopw [19] (fun i wr => ∃ k : Nat, i = .int .i64 k ∧ k ≤ n ∧ Below D W2 wr ∧ Hid (Lib.IsBuilder 40 5 D D (Lib.byteCells (bytesL (xs.take k))) wr)) (fun i _ => n - (intOf i).toNat)
  case atStart => exact ⟨0, rfl, by omega, Below.refl _ _, Lib.hid hin⟩
  case round =>
    obtain ⟨k, rfl, hk, hbw, hI⟩ := hrel
    have HI := Lib.hid hI.out
    clear hI
    by_cases hlt : k < n
    · have hS := hS2.belowB (hbw.mono (by omega))
      obtain ⟨he, vs, hvs, hr⟩ := hS.row
      rw [HN.out] at hvs hr
      obtain ⟨g, off, rfl, hgB, hc⟩ := hr (by omega)
      obtain ⟨k0, k1, k2⟩ := hc k hlt
      have hsv := hvs k hlt
      obtain ⟨y, hy⟩ : ∃ y, xs.getD k Itm.none_ = y := ⟨_, rfl⟩
      have hCk := HC.out k (by have := HN.out; omega)
      have hw1 := HWI.out k (by have := HN.out; omega)
      have htk := take_item (xs := xs) (k := k) (by have := HN.out; omega)
      rw [hy] at k0 k1 hsv hCk hw1 htk
      generalize vs.getD k undef = sv at *
      obtain ⟨As, cs, rfl⟩ := hsv.slice
      have HCK := Lib.hid hCk
      have HY := Lib.hid hy; have HTK := Lib.hid htk; have HSV := Lib.hid hsv
      have hq := Boxed.belowB HQ.out hbw (by omega)
      have q0 := hq.cell
      have hwsz := hbw.size
      have hql := hq.lt
      have q1 : (k : Int) < (n : Int) := by omega
      clear hS hvs hr hc hCk hy htk hsv he hq
      go_wp2_with fail
      have hbw2 : Below D W2 (wr.alloc (.cells #[.bool y.list, .string y.bytes, .slice As y.items.length cs] 51)) := hbw.alloc (by omega) _
      have hgA := only_alloc (World.grownBy.refl wr none) (.cells #[.bool y.list, .string y.bytes, .slice As y.items.length cs] 51)
      refine (HCK.out _ D D q (bytesL (xs.take k)) _ (Boxed.belowB HQ.out hbw2 (by omega)) (by omega) (by simp; omega) (builder_grown HI.out hgA) ((HSV.out.belowB (B := B) ((Below.refl B wr).alloc (by omega) _)).weak fun g hg => Nat.lt_of_lt_of_le hg hlast) (by omega) (by omega)).mono ?_
      rintro e w3 ⟨rfl, hb3, hbe3⟩
      have hbw3 := hbw2.trans hbe3
      have hI3 : Hid (Lib.IsBuilder 40 5 D D (Lib.byteCells (bytesL (xs.take (k + 1)))) w3) := Lib.hid (by rw [HTK.out, bytesL_snoc]; exact hb3)
      clear hb3 hbe3 hbw2 hgA q0 k0 k1 k2 HSV HCK
      go_wp2_with fail
      exact ⟨⟨k + 1, by go_num, by omega, hbw3, hI3⟩, by simp [intOf]; omega⟩
    · obtain rfl : k = n := by omega
      have hfin : decide ((k : Int) < (k : Int)) = false := by simp
      have hall : xs.take k = xs := by rw [← HN.out, List.take_length]
      have hI := HI.out
      rw [hall] at hI
      have HI2 := Lib.hid hI
      clear hI hall HI
      obtain ⟨l, hl⟩ : ∃ l, bytesL xs = l := ⟨_, rfl⟩
      have HL := Lib.hid hl
      rw [hl] at HI2 HLEN
      have hsz := hbw.size
      have hstr := fun V (hV : Lib.IsBuilder 40 5 D D (Lib.byteCells l) V) (hDV : D ≤ V.heap.size) => builderString_any D D l V hV hDV
      have HSTR := Lib.hid hstr
      clear hl hstr
      go_wp2_with fail
      refine (HSTR.out _ HI2.out (by omega)).mono ?_
      rintro e w3 ⟨rfl, hb3⟩
      have hbw := hbw.trans hb3
      have hsz := hbw.size
      clear hb3
      go_wp2_with fail
      have hlz : (⟨l.toArray⟩ : ByteArray).size = l.length := by show l.toArray.size = _; simp
      have hll : l.length ≤ 1000000000 := by have := HLEN.out; omega
      refine (headed_any ⟨l.toArray⟩ 192 (by rw [hlz]; exact hll) (by omega) w3).mono ?_
      rw [hlz]
      rintro e w4 ⟨rfl, hg4⟩
      have hls := headL_len l.length 192 hll
      have hbw := hbw.trans ((below_of_grown hg4).mono (by omega))
      have hsz := hbw.size
      clear hg4
      obtain ⟨r, hr⟩ : ∃ r, headL l.length 192 ++ l = r := ⟨_, rfl⟩
      have hrl : r.length ≤ 9 + l.length := by rw [← hr, List.length_append]; omega
      have hr2 : headL l.length 192 ++ (⟨l.toArray⟩ : ByteArray).data.toList = r := hr
      rw [hr2]
      have HR := Lib.hid hr
      have hwl : (Lib.byteCells bs).length + (⟨r.toArray⟩ : ByteArray).size ≤ 140737488355328 := by
        rw [hbz]; show _ + r.toArray.size ≤ _; rw [List.size_toArray]; omega
      have HWL := Lib.hid hwl
      clear hr hr2 hlz hls hwl hrl hll
      go_wp2_with fail
      refine (writeString_any B b (Lib.byteCells bs) ⟨r.toArray⟩ _ (HK.out _ hbw) HWL.out (by omega)).mono ?_
      rintro e w5 ⟨rfl, hb5, hbe5⟩
      have hfin := (hW2.trans (hbw.mono hlast)).trans hbe5
      have HF := Lib.hid hfin
      have HB5 : Hid (Lib.IsBuilder 40 5 B b (Lib.byteCells (bs ++ r)) w5) := Lib.hid (by
        rw [strCells_eq, ← byteCells_append] at hb5
        exact hb5)
      clear hfin hbe5 hbw hb5
      go_wp2_with fail
      go_end0
      exact ⟨rfl, by rw [HXS.out, HL.out, HR.out]; exact HB5.out, HF.out⟩

/-- THE CLOSURE'S CONTRACT, of every item -/
theorem walk_any (x : Itm) : BytesC x := by
  generalize hn : SizeOf.sizeOf x = n
  induction n using Nat.strongRecOn generalizing x with
  | _ n ih =>
    subst hn
    cases hx : x.list with
    | true => exact bytes_list x hx fun i hi => ih _ (Itm.size_get hi) _ rfl
    | false => exact bytes_text x hx

set_option maxRecDepth 100000 in
set_option maxHeartbeats 2000000 in
/-- AN ITEM'S BYTES -/
theorem bytes_any (x : Itm) (sx : Value) (W : World) (hsx : SubW W x.items sx) (hwt : wtF x ≤ 1000000000) :
    Calls Tryd.prog 32 #[.agg #[.bool x.list, .string x.bytes, sx]] W fun e W' => e = .returned (.string ⟨(bytesF x).toArray⟩) ∧ W.grownBy W' none := by
  obtain ⟨A, c, rfl⟩ := hsx.slice
  have hwk := walk_any x
  have hx0 := Blk.new W 51 #[.bool x.list, .string x.bytes, .slice A x.items.length c]
  have hG1 := only_alloc (World.grownBy.refl W none) (.cells #[.bool x.list, .string x.bytes, .slice A x.items.length c] 51)
  have hS1 := hsx.grown hG1
  have hmf : ∀ (fn : Fn) (first cap : Array Value) (w : World), (Instr.makeFunc fn first cap).run Tryd.prog w = .ok (.func fn first cap) w := fun _ _ _ _ => rfl
  go_enter Tryd.func32, Tryd.ntmps32
  go_upto_region 4 with (fail)
  have hq := Boxed.new (W.alloc (.cells #[.bool x.list, .string x.bytes, .slice A x.items.length c] 51)) 80 (.func (.func 47) #[] #[.pointer (some ⟨W.heap.size + 1, 0, none⟩)])
  rw [World.size_alloc] at hq
  have hx1 := hx0.alloc (.cells #[.func (.func 47) #[] #[.pointer (some ⟨W.heap.size + 1, 0, none⟩)]] 80)
  have hG2 := only_alloc hG1 (.cells #[.func (.func 47) #[] #[.pointer (some ⟨W.heap.size + 1, 0, none⟩)]] 80)
  have hS2 := hS1.grown (only_alloc (World.grownBy.refl _ none) (.cells #[.func (.func 47) #[] #[.pointer (some ⟨W.heap.size + 1, 0, none⟩)]] 80))
  have hz2 : ((W.alloc (.cells #[.bool x.list, .string x.bytes, .slice A x.items.length c] 51)).alloc (.cells #[.func (.func 47) #[] #[.pointer (some ⟨W.heap.size + 1, 0, none⟩)]] 80)).heap.size = W.heap.size + 2 := by simp
  rw [show W.heap.size + 1 + 1 = W.heap.size + 2 by omega]
  generalize (W.alloc (.cells #[.bool x.list, .string x.bytes, .slice A x.items.length c] 51)).alloc (.cells #[.func (.func 47) #[] #[.pointer (some ⟨W.heap.size + 1, 0, none⟩)]] 80) = W2 at *
  clear hG1 hS1 hx0
  have hbn := builder_new W2
  rw [hz2] at hbn
  have hq3 := hq.alloc (.cells #[.pointer none, .slice none 0 0] 40)
  have hx3 := hx1.alloc (.cells #[.pointer none, .slice none 0 0] 40)
  have hG3 := only_alloc hG2 (.cells #[.pointer none, .slice none 0 0] 40)
  have hS3 : SubV (fun g => g < W.heap.size + 2) (W2.alloc (.cells #[.pointer none, .slice none 0 0] 40)) x.items (.slice A x.items.length c) := by
    refine SubV.weak (S := fun g => g < W2.heap.size) (SubV.keep hS2 fun p hp u hu => ?_) (fun g hg => by rw [← hz2]; exact hg)
    rw [World.cell?_alloc_lt W2 _ p hp]; exact hu
  have hz3 : (W2.alloc (.cells #[.pointer none, .slice none 0 0] 40)).heap.size = W.heap.size + 3 := by simp [hz2]
  generalize W2.alloc (.cells #[.pointer none, .slice none 0 0] 40) = W3 at *
  have q0 := hq3.cell
  have c0 := hx3.cell 0; have c1 := hx3.cell 1; have c2 := hx3.cell 2
  simp only [List.getElem?_toArray, List.getElem?_cons_zero, List.getElem?_cons_succ] at c0 c1 c2
  have hcall := walk_any x W3 (W.heap.size + 2) (W.heap.size + 2) (W.heap.size + 1) [] _ hq3 (by omega) (by omega) hbn hS3 hwt (by simp; omega)
  have HCALL := Lib.hid hcall
  have HG3 := Lib.hid hG3
  have HZ3 := Lib.hid hz3
  obtain ⟨r, hr⟩ : ∃ r, bytesF x = r := ⟨_, rfl⟩
  have HR := Lib.hid hr
  rw [hr] at HCALL
  clear hcall hG3 hG2 hS2 hS3 hq hq3 hx1 hx3 hbn hz2 hz3 hr hwk
  go_wp2_with fail
  refine HCALL.out.mono ?_
  rintro e w4 ⟨rfl, hb4, hbe⟩
  have hz4 := hbe.size
  have hG4 := grown_belowB HG3.out hbe (by omega)
  have HG4 := Lib.hid hG4
  have hst := builderString_any (W.heap.size + 2) (W.heap.size + 2) r w4 hb4 (by have := HZ3.out; omega)
  have HST := Lib.hid hst
  clear hst hb4 hbe hG4
  go_wp2_with fail
  refine HST.out.mono ?_
  rintro e w5 ⟨rfl, hbe5⟩
  have HG5 := Lib.hid (grown_belowB HG4.out hbe5 (by omega))
  clear hbe5
  go_wp2_with fail
  go_ret
  exact ⟨by rw [HR.out]; rfl, HG5.out⟩

set_option maxRecDepth 100000 in
theorem size_any (x : Itm) (sx : Value) (W : World) (hsx : SubW W x.items sx) (hwt : wtF x ≤ 1000000000) :
    Calls Tryd.prog 46 #[.agg #[.bool x.list, .string x.bytes, sx]] W fun e W' => e = .returned (.int .i64 ((bytesF x).length : Int)) ∧ W.grownBy W' none := by
  obtain ⟨A, c, rfl⟩ := hsx.slice
  have hG1 := only_alloc (World.grownBy.refl W none) (.cells #[.bool x.list, .string x.bytes, .slice A x.items.length c] 51)
  have HB := Lib.hid (bytes_any x _ _ (hsx.grown hG1) hwt)
  have HG := Lib.hid hG1
  clear hG1 hsx
  go_enter Tryd.func46, Tryd.ntmps46
  go_wp2_with fail
  refine HB.out.mono ?_
  rintro e w2 ⟨rfl, hg⟩
  have HG := Lib.hid (grown_self HG.out hg (by simp))
  clear hg
  go_wp2_with fail
  go_ret
  exact ⟨rfl, HG.out⟩
end Go.Proofs.YtdflihfecfmpfaaDoor
