/- Merged: RlpC, WrdR, RlpA1, RlpE, RlpF, RlpG, RlpG1, DerA, DerB, DerC, FldV, DerD. -/
import Derived.Test.YtgclnikdkfpflaaGreatDoorMt1
import Derived.Test.YtgclnikdkfpflaaGreatDoorMt2
import Derived.Test.YtgclnikdkfpflaaGreatDoorMt3
import Derived.Test.YtgclnikdkfpflaaGreatDoorMt4
import Derived.Test.YtgclnikdkfpflaaGreatDoorMt5
import Derived.Test.YtgclnikdkfpflaaGreatDoorMt6
import Derived.Test.YtgclnikdkfpflaaGreatDoorMt8
import Derived.Laws.EntriesVeiled
import Derived.WalkLawsBesides
import Derived.Recover
import Derived.Defers
namespace Go.Proofs.YtgclnikdkfpflaaGreatDoor
open Go.RowKit Go.Shelf
open List renaming set_cons_zero → jz, set_cons_succ → js, setIfInBounds_toArray → jb
set_option linter.unusedVariables false
set_option linter.unusedSimpArgs false
set_option maxRecDepth 100000
set_option maxHeartbeats 16000000
def BytesC (x : Itm) : Prop := ∀ (W : World) (B b q : Nat) (bs : List UInt8) (sx : Value), Boxed W q 183 (.func (.func 147) #[] #[.pointer (some ⟨q, 0, none⟩)]) → q < B → B ≤ W.heap.size →
 Lib.IsBuilder 96 5 B b (Lib.byteCells bs) W → SubV (fun g => g < B) W x.items sx → wtF x ≤ 1000000000 → bs.length + wtF x ≤ 2000000000 →
 Calls Tryz.prog 147 #[.agg #[.bool x.list, .string x.bytes, sx], .pointer (some ⟨b, 0, none⟩), .pointer (some ⟨q, 0, none⟩)] W fun e W' => e = .returned (.tuple #[]) ∧ Lib.IsBuilder 96 5 B b (Lib.byteCells (bs ++ bytesF x)) W' ∧ Below B W W'
theorem grown_belowB {a w w' : World} {B : Nat} (h : a.grownBy w none) (hb : Below B w w') (hB : a.heap.size ≤ B) : a.grownBy w' none :=
 ⟨hb.os.trans h.os, hb.tape.trans h.tape, hb.output.trans h.output, Nat.le_trans h.size hb.size, fun g hg hne => (hb.block g (by omega)).trans (h.block g hg hne)⟩
theorem SubV.belowB {B : Nat} {W W' : World} {xs : List Itm} {v : Value} (h : SubV (fun g => g < B) W xs v) (hg : Below B W W') : SubV (fun g => g < B) W' xs v :=
 h.keep fun p hp u hu => by rw [hg.cell (p := p) hp]; exact hu
theorem Boxed.belowB {W W' : World} {B q : Nat} {t : TypeId} {v : Value} (h : Boxed W q t v) (hb : Below B W W') (hq : q < B) : Boxed W' q t v := (hb.block q hq).trans h
theorem builder_same {T e : TypeId} {B b : Nat} {bs : List Value} {w w' : World} (h : Lib.IsBuilder T e B b bs w) (hk : ∀ g, g < w.heap.size → w'.heap[g]? = w.heap[g]?) : Lib.IsBuilder T e B b bs w' := by
 have key : ∀ p, Lib.BuilderAt T e B b p bs w → Lib.BuilderAt T e B b p bs w' := by
  rintro p ⟨h1, v, h2, h3, h4⟩
  refine ⟨h1, v, (hk b (Array.getElem?_eq_some_iff.1 h2).1).trans h2, ⟨h3.1, ?_⟩, h4⟩
  rcases h3.2 with h5 | ⟨g, cap, cur, rfl, hb, hg, rest⟩
  ·exact .inl h5
  ·exact .inr ⟨g, cap, cur, rfl, hb, (hk g (Array.getElem?_eq_some_iff.1 hg).1).trans hg, rest⟩
 exact h.elim (fun h => .inl (key _ h)) (fun h => .inr (key _ h))
theorem bytes_text (x : Itm) (hx : x.list = false) : BytesC x := by
 intro W B b q bs sx hq hqB hBW hbl hsx hwt hroom
 obtain ⟨A, c, rfl⟩ := hsx.slice
 have hbt : bytesF x = bytesT x.bytes := by rw [bytesF_eq, hx]; rfl
 have hwx := wtF_eq x
 have HB := Lib.hid (builder_grown hbl (only_alloc (World.grownBy.refl W none) (.cells #[.bool x.list, .string x.bytes, .slice A x.items.length c] 106)))
 have HG := Lib.hid ((Below.refl B W).alloc hBW (.cells #[.bool x.list, .string x.bytes, .slice A x.items.length c] 106))
 have hbz : (Lib.byteCells bs).length = bs.length := by simp [Lib.byteCells]
 rw [hbt]
 rw [hx] at HB HG ⊢
 have hlz : x.bytes.data.toList.length = x.bytes.size := Array.length_toList
 generalize x.items.length = n at *
 generalize hb : x.bytes = t at *
 by_cases h1 : t.size = 1 ∧ (t.data.toList.getD 0 0).toNat < 128
 ·have hT : bytesT t = t.data.toList := if_pos h1
  obtain ⟨h1, h2⟩ := h1
  have hw : ∀ V, Lib.IsBuilder 96 5 B b (Lib.byteCells bs) V → B ≤ V.heap.size → _ := fun V hV hBV => writeString_any B b (Lib.byteCells bs) t V hV (by rw [hbz]; omega) hBV
  have d1 : 0 < t.size := by omega
  have hc : ((t[0]'d1).toNat : Int) < 128 := by
   have e2 : t.data[0]? = some (t[0]'d1) := Array.getElem?_eq_getElem d1
   have : t.data.toList.getD 0 0 = t[0]'d1 := by rw [List.getD_eq_getElem?_getD, Array.getElem?_toList, e2]; rfl
   rw [← this]; omega
  have e1 : ((t.size : Int) == 1) = true := by rw [beq_iff_eq]; omega
  have HW := Lib.hid hw; have HT := Lib.hid hT
  have HZ := Lib.hid h1
  clear hw hT hbl hsx hq h1 h2 hbz hlz hwx hb
  go_enter Tryz.func147, Tryz.ntmps147
  go_wp2_with fail
  refine (HW.out _ HB.out (by simp; omega)).mono ?_
  rintro e w2 ⟨rfl, hbl, hg⟩
  have HG := Lib.hid (HG.out.trans hg)
  have HL : Hid (Lib.byteCells bs ++ Lib.strCells t = Lib.byteCells (bs ++ t.data.toList)) := Lib.hid (by rw [strCells_eq, byteCells_append])
  have HBL := Lib.hid hbl
  clear hbl hg
  go_wp2_with fail
  go_end0
  exact ⟨rfl, by rw [HT.out, ← HL.out]; exact HBL.out, HG.out⟩
 ·have hT : bytesT t = headL t.size 128 ++ t.data.toList := if_neg h1
  have hls := headL_len t.size 128 (by omega)
  have hh := fun V => headed_any t 128 (by omega) (by omega) V
  obtain ⟨r, hr⟩ : ∃ r, headL t.size 128 ++ t.data.toList = r := ⟨_, rfl⟩
  have hrl : r.length ≤ 9 + t.size := by rw [← hr, List.length_append]; omega
  rw [hr] at hT hh
  have hw : ∀ V, Lib.IsBuilder 96 5 B b (Lib.byteCells bs) V → B ≤ V.heap.size → _ := fun V hV hBV => writeString_any B b (Lib.byteCells bs) ⟨r.toArray⟩ V hV (by rw [hbz]; show _ + r.toArray.size ≤ _; rw [List.size_toArray]; omega) hBV
  have hguard : ((t.size : Int) == 1) = false ∨ (((t.size : Int) == 1) = true ∧ ∃ d1 : 0 < t.size, decide (((t[0]'d1).toNat : Int) < 128) = false) := by
   by_cases hz : t.size = 1
   ·refine .inr ⟨by rw [beq_iff_eq]; omega, by omega, ?_⟩
    have d1 : 0 < t.size := by omega
    have e2 : t.data[0]? = some (t[0]'d1) := Array.getElem?_eq_getElem d1
    have : t.data.toList.getD 0 0 = t[0]'d1 := by rw [List.getD_eq_getElem?_getD, Array.getElem?_toList, e2]; rfl
    have h2 : ¬ (t.data.toList.getD 0 0).toNat < 128 := fun h => h1 ⟨hz, h⟩
    rw [this] at h2
    exact decide_eq_false (by omega)
   ·exact .inl (by rw [beq_eq_false_iff_ne]; omega)
  have HW := Lib.hid hw; have HT := Lib.hid hT; have HH := Lib.hid hh
  clear hw hT hh hbl hsx hq h1 hbz hlz hwx hb hr hls hrl
  rcases hguard with e1 | ⟨e1, d1, e2⟩
  all_goals
   go_enter Tryz.func147, Tryz.ntmps147
   go_wp2_with fail
   refine (HH.out _).mono ?_
   rintro e w2 ⟨rfl, hg1⟩
   have HB := Lib.hid (builder_grown HB.out hg1)
   have HG := Lib.hid (HG.out.trans ((below_of_grown hg1).mono (by simp; omega)))
   have hz2 := hg1.size
   simp only [World.size_alloc] at hz2
   have HZ2 := Lib.hid hz2
   clear hg1 hz2
   go_wp2_with fail
   refine (HW.out _ HB.out (by have := HZ2.out; omega)).mono ?_
   rintro e w3 ⟨rfl, hbl, hg⟩
   have HG := Lib.hid (HG.out.trans hg)
   have HL : Hid (Lib.byteCells bs ++ Lib.strCells ⟨r.toArray⟩ = Lib.byteCells (bs ++ r)) := Lib.hid (by rw [strCells_eq, byteCells_append])
   have HBL := Lib.hid hbl
   clear hbl hg
   go_wp2_with fail
   go_end0
   exact ⟨rfl, by rw [HT.out, ← HL.out]; exact HBL.out, HG.out⟩
theorem bytes_list (x : Itm) (hx : x.list = true) (hC : ∀ i, i < x.items.length → BytesC (x.items.getD i Itm.none_)) : BytesC x := by
 intro W B b q bs sx hq hqB hBW hbl hsx hwt hroom
 obtain ⟨A, c, rfl⟩ := hsx.slice
 have hbt : bytesF x = headL (bytesL x.items).length 192 ++ bytesL x.items := by rw [bytesF_eq, hx]; rfl
 have hwx := wtF_eq x
 have hok := ok_of_wt x hwt
 have hbz : (Lib.byteCells bs).length = bs.length := by simp [Lib.byteCells]
 have hlen := bytesL_len x.items (by omega)
 have hG1 := only_alloc (World.grownBy.refl W none) (.cells #[.bool x.list, .string x.bytes, .slice A x.items.length c] 106)
 have hW1 := (Below.refl B W).alloc hBW (.cells #[.bool x.list, .string x.bytes, .slice A x.items.length c] 106)
 have hx0 := Blk.new W 106 #[.bool x.list, .string x.bytes, .slice A x.items.length c]
 have hB1 := builder_grown hbl hG1
 have hS1 := hsx.belowB hW1
 have hQ1 := Boxed.belowB hq hW1 hqB
 have hn := hok.items
 have hlast := Nat.le_trans hBW hG1.size
 rw [hbt]
 rw [hx] at hG1 hW1 hx0 hB1 hS1 hQ1 hlast ⊢
 go_enter Tryz.func147, Tryz.ntmps147
 go_upto_region 2 with (fail)
 generalize W.alloc (.cells #[.bool true, .string x.bytes, .slice A x.items.length c] 106) = W1 at *
 obtain ⟨b0, hb0⟩ : ∃ b0, W.heap.size = b0 := ⟨_, rfl⟩
 rw [hb0] at hx0 ⊢
 have c0 := hx0.cell 0; have c1 := hx0.cell 2
 simp only [List.getElem?_toArray, List.getElem?_cons_zero, List.getElem?_cons_succ] at c0 c1
 go_upto_region 4 with (fail)
 have hin := builder_new W1
 have hkeep0 : ∀ V, Below W1.heap.size (W1.alloc (.cells #[.pointer none, .slice none 0 0] 96)) V → Lib.IsBuilder 96 5 B b (Lib.byteCells bs) V := fun V hV =>
  builder_same hB1 fun g hg => (hV.block g hg).trans (Below.heap_alloc W1 _ g hg)
 have hB2 := builder_grown hB1 (only_alloc (World.grownBy.refl W1 none) (.cells #[.pointer none, .slice none 0 0] 96))
 have hx2 := hx0.alloc (.cells #[.pointer none, .slice none 0 0] 96)
 have hW2 := hW1.alloc hlast (.cells #[.pointer none, .slice none 0 0] 96)
 have hS2 := hS1.belowB ((Below.refl B W1).alloc hlast (.cells #[.pointer none, .slice none 0 0] 96))
 have hQ2 := Boxed.belowB hQ1 ((Below.refl B W1).alloc hlast (.cells #[.pointer none, .slice none 0 0] 96)) hqB
 have hlt0 := hx0.lt
 have hlb := (builder_lt hB1).1
 obtain ⟨D, hD⟩ : ∃ D, W1.heap.size = D := ⟨_, rfl⟩
 have hz2 : (W1.alloc (.cells #[.pointer none, .slice none 0 0] 96)).heap.size = D + 1 := by simp [hD]
 rw [hD] at hin hlast hlt0 hlb hkeep0 ⊢
 generalize W1.alloc (.cells #[.pointer none, .slice none 0 0] 96) = W2 at *
 clear hB1 hx0 hW1 hS1 hQ1 c0 c1 hG1 hbl hsx hq
 have c1 := hx2.cell 2
 simp only [List.getElem?_toArray, List.getElem?_cons_zero, List.getElem?_cons_succ] at c1
 have hkeep := hkeep0
 obtain ⟨xs, hxs⟩ : ∃ xs, x.items = xs := ⟨_, rfl⟩
 obtain ⟨n, hnn⟩ : ∃ n, xs.length = n := ⟨_, rfl⟩
 rw [hxs] at hn hwx hlen hS2 hC hx2 c1 ⊢
 rw [hnn] at hn hS2 hx2 c1 ⊢
 have HN := Lib.hid hnn
 have HXS := Lib.hid hxs
 have HC := Lib.hid hC
 have HQ := Lib.hid hQ2
 have HK := Lib.hid hkeep
 have HBT := Lib.hid hbt
 have hwi : ∀ k, k < xs.length → wtF (xs.getD k Itm.none_) + (bytesL (xs.take k)).length ≤ 1000000000 := by
  intro k hk
  have h1 := wtL_get hk
  have h2 := wtL_take xs k
  have h3 := bytesL_len (xs.take k) (by omega)
  omega
 have HWI := Lib.hid hwi
 have HLEN := Lib.hid hlen
 clear hC hQ2 hkeep hkeep0 hok hwi hxs hnn hbt hlen hB2 hx
 go_wp2_with fail
 go_loopw [19] (fun i wr => ∃ k : Nat, i = .int .i64 k ∧ k ≤ n ∧ Below D W2 wr ∧ Hid (Lib.IsBuilder 96 5 D D (Lib.byteCells (bytesL (xs.take k))) wr)) (fun i _ => n - (intOf i).toNat)
 case atStart => exact ⟨0, rfl, by omega, Below.refl _ _, Lib.hid hin⟩
 case round =>
  obtain ⟨k, rfl, hk, hbw, hI⟩ := hrel
  have HI := Lib.hid hI.out
  clear hI
  by_cases hlt : k < n
  ·have hS := hS2.belowB (hbw.mono (by omega))
   obtain ⟨he, vs, hvs, hr⟩ := hS.row
   rw [HN.out] at hvs hr
   obtain ⟨g, off, rfl, hgB, hc⟩ := hr (by omega)
   obtain ⟨k0, k1, k2⟩ := hc k hlt
   have hsv := hvs k hlt
   obtain ⟨y, hy⟩ : ∃ y, xs.getD k Itm.none_ = y := ⟨_, rfl⟩
   have hCk := HC.out k (by have := HN.out; omega)
   have hw1 := HWI.out k (by have := HN.out; omega)
   have htk := take_item (xs := xs) (k := k) (by have := HN.out; omega)
   rw [hy] at k0 k1 hsv hCk hw1 htk
   generalize vs.getD k undef = sv at *
   obtain ⟨As, cs, rfl⟩ := hsv.slice
   have HCK := Lib.hid hCk
   have HY := Lib.hid hy; have HTK := Lib.hid htk; have HSV := Lib.hid hsv
   have hq := Boxed.belowB HQ.out hbw (by omega)
   have q0 := hq.cell
   have hwsz := hbw.size
   have hql := hq.lt
   have q1 : (k : Int) < (n : Int) := by omega
   clear hS hvs hr hc hCk hy htk hsv he hq
   go_wp2_with fail
   have hbw2 : Below D W2 (wr.alloc (.cells #[.bool y.list, .string y.bytes, .slice As y.items.length cs] 106)) := hbw.alloc (by omega) _
   have hgA := only_alloc (World.grownBy.refl wr none) (.cells #[.bool y.list, .string y.bytes, .slice As y.items.length cs] 106)
   refine (HCK.out _ D D q (bytesL (xs.take k)) _ (Boxed.belowB HQ.out hbw2 (by omega)) (by omega) (by simp; omega) (builder_grown HI.out hgA) ((HSV.out.belowB (B := B) ((Below.refl B wr).alloc (by omega) _)).weak fun g hg => Nat.lt_of_lt_of_le hg hlast) (by omega) (by omega)).mono ?_
   rintro e w3 ⟨rfl, hb3, hbe3⟩
   have hbw3 := hbw2.trans hbe3
   have hI3 : Hid (Lib.IsBuilder 96 5 D D (Lib.byteCells (bytesL (xs.take (k + 1)))) w3) := Lib.hid (by rw [HTK.out, bytesL_snoc]; exact hb3)
   clear hb3 hbe3 hbw2 hgA q0 k0 k1 k2 HSV HCK
   go_wp2_with fail
   exact ⟨⟨k + 1, by go_num, by omega, hbw3, hI3⟩, by simp [intOf]; omega⟩
  ·obtain rfl : k = n := by omega
   have hfin : decide ((k : Int) < (k : Int)) = false := by simp
   have hall : xs.take k = xs := by rw [← HN.out, List.take_length]
   have hI := HI.out
   rw [hall] at hI
   have HI2 := Lib.hid hI
   clear hI hall HI
   obtain ⟨l, hl⟩ : ∃ l, bytesL xs = l := ⟨_, rfl⟩
   have HL := Lib.hid hl
   rw [hl] at HI2 HLEN
   have hsz := hbw.size
   have hstr := fun V (hV : Lib.IsBuilder 96 5 D D (Lib.byteCells l) V) (hDV : D ≤ V.heap.size) => builderString_any D D l V hV hDV
   have HSTR := Lib.hid hstr
   clear hl hstr
   go_wp2_with fail
   refine (HSTR.out _ HI2.out (by omega)).mono ?_
   rintro e w3 ⟨rfl, hb3⟩
   have hbw := hbw.trans hb3
   have hsz := hbw.size
   clear hb3
   go_wp2_with fail
   have hlz : (⟨l.toArray⟩ : ByteArray).size = l.length := by show l.toArray.size = _; simp
   have hll : l.length ≤ 1000000000 := by have := HLEN.out; omega
   refine (headed_any ⟨l.toArray⟩ 192 (by rw [hlz]; exact hll) (by omega) w3).mono ?_
   rw [hlz]
   rintro e w4 ⟨rfl, hg4⟩
   have hls := headL_len l.length 192 hll
   have hbw := hbw.trans ((below_of_grown hg4).mono (by omega))
   have hsz := hbw.size
   clear hg4
   obtain ⟨r, hr⟩ : ∃ r, headL l.length 192 ++ l = r := ⟨_, rfl⟩
   have hrl : r.length ≤ 9 + l.length := by rw [← hr, List.length_append]; omega
   have hr2 : headL l.length 192 ++ (⟨l.toArray⟩ : ByteArray).data.toList = r := hr
   rw [hr2]
   have HR := Lib.hid hr
   have hwl : (Lib.byteCells bs).length + (⟨r.toArray⟩ : ByteArray).size ≤ 140737488355328 := by
    rw [hbz]; show _ + r.toArray.size ≤ _; rw [List.size_toArray]; omega
   have HWL := Lib.hid hwl
   clear hr hr2 hlz hls hwl hrl hll
   go_wp2_with fail
   refine (writeString_any B b (Lib.byteCells bs) ⟨r.toArray⟩ _ (HK.out _ hbw) HWL.out (by omega)).mono ?_
   rintro e w5 ⟨rfl, hb5, hbe5⟩
   have hfin := (hW2.trans (hbw.mono hlast)).trans hbe5
   have HF := Lib.hid hfin
   have HB5 : Hid (Lib.IsBuilder 96 5 B b (Lib.byteCells (bs ++ r)) w5) := Lib.hid (by
    rw [strCells_eq, ← byteCells_append] at hb5
    exact hb5)
   clear hfin hbe5 hbw hb5
   go_wp2_with fail
   go_end0
   exact ⟨rfl, by rw [HXS.out, HL.out, HR.out]; exact HB5.out, HF.out⟩
theorem walk_any (x : Itm) : BytesC x := by
 generalize hn : SizeOf.sizeOf x = n
 induction n using Nat.strongRecOn generalizing x with
 | _ n ih =>
  subst hn
  cases hx : x.list with
  | true => exact bytes_list x hx fun i hi => ih _ (Itm.size_get hi) _ rfl
  | false => exact bytes_text x hx
theorem bytes_any (x : Itm) (sx : Value) (W : World) (hsx : SubW W x.items sx) (hwt : wtF x ≤ 1000000000) :
  Calls Tryz.prog 113 #[.agg #[.bool x.list, .string x.bytes, sx]] W fun e W' => e = .returned (.string ⟨(bytesF x).toArray⟩) ∧ W.grownBy W' none := by
 obtain ⟨A, c, rfl⟩ := hsx.slice
 have hwk := walk_any x
 have hx0 := Blk.new W 106 #[.bool x.list, .string x.bytes, .slice A x.items.length c]
 have hG1 := only_alloc (World.grownBy.refl W none) (.cells #[.bool x.list, .string x.bytes, .slice A x.items.length c] 106)
 have hS1 := hsx.grown hG1
 have hmf : ∀ (fn : Fn) (first cap : Array Value) (w : World), (Instr.makeFunc fn first cap).run Tryz.prog w = .ok (.func fn first cap) w := fun _ _ _ _ => rfl
 go_enter Tryz.func113, Tryz.ntmps113
 go_upto_region 4 with (fail)
 have hq := Boxed.new (W.alloc (.cells #[.bool x.list, .string x.bytes, .slice A x.items.length c] 106)) 183 (.func (.func 147) #[] #[.pointer (some ⟨W.heap.size + 1, 0, none⟩)])
 rw [World.size_alloc] at hq
 have hx1 := hx0.alloc (.cells #[.func (.func 147) #[] #[.pointer (some ⟨W.heap.size + 1, 0, none⟩)]] 183)
 have hG2 := only_alloc hG1 (.cells #[.func (.func 147) #[] #[.pointer (some ⟨W.heap.size + 1, 0, none⟩)]] 183)
 have hS2 := hS1.grown (only_alloc (World.grownBy.refl _ none) (.cells #[.func (.func 147) #[] #[.pointer (some ⟨W.heap.size + 1, 0, none⟩)]] 183))
 have hz2 : ((W.alloc (.cells #[.bool x.list, .string x.bytes, .slice A x.items.length c] 106)).alloc (.cells #[.func (.func 147) #[] #[.pointer (some ⟨W.heap.size + 1, 0, none⟩)]] 183)).heap.size = W.heap.size + 2 := by simp
 rw [show W.heap.size + 1 + 1 = W.heap.size + 2 by omega]
 generalize (W.alloc (.cells #[.bool x.list, .string x.bytes, .slice A x.items.length c] 106)).alloc (.cells #[.func (.func 147) #[] #[.pointer (some ⟨W.heap.size + 1, 0, none⟩)]] 183) = W2 at *
 clear hG1 hS1 hx0
 have hbn := builder_new W2
 rw [hz2] at hbn
 have hq3 := hq.alloc (.cells #[.pointer none, .slice none 0 0] 96)
 have hx3 := hx1.alloc (.cells #[.pointer none, .slice none 0 0] 96)
 have hG3 := only_alloc hG2 (.cells #[.pointer none, .slice none 0 0] 96)
 have hS3 : SubV (fun g => g < W.heap.size + 2) (W2.alloc (.cells #[.pointer none, .slice none 0 0] 96)) x.items (.slice A x.items.length c) := by
  refine SubV.weak (S := fun g => g < W2.heap.size) (SubV.keep hS2 fun p hp u hu => ?_) (fun g hg => by rw [← hz2]; exact hg)
  rw [World.cell?_alloc_lt W2 _ p hp]; exact hu
 have hz3 : (W2.alloc (.cells #[.pointer none, .slice none 0 0] 96)).heap.size = W.heap.size + 3 := by simp [hz2]
 generalize W2.alloc (.cells #[.pointer none, .slice none 0 0] 96) = W3 at *
 have q0 := hq3.cell
 have c0 := hx3.cell 0; have c1 := hx3.cell 1; have c2 := hx3.cell 2
 simp only [List.getElem?_toArray, List.getElem?_cons_zero, List.getElem?_cons_succ] at c0 c1 c2
 have hcall := walk_any x W3 (W.heap.size + 2) (W.heap.size + 2) (W.heap.size + 1) [] _ hq3 (by omega) (by omega) hbn hS3 hwt (by simp; omega)
 have HCALL := Lib.hid hcall
 have HG3 := Lib.hid hG3
 have HZ3 := Lib.hid hz3
 obtain ⟨r, hr⟩ : ∃ r, bytesF x = r := ⟨_, rfl⟩
 have HR := Lib.hid hr
 rw [hr] at HCALL
 clear hcall hG3 hG2 hS2 hS3 hq hq3 hx1 hx3 hbn hz2 hz3 hr hwk
 go_wp2_with fail
 refine HCALL.out.mono ?_
 rintro e w4 ⟨rfl, hb4, hbe⟩
 have hz4 := hbe.size
 have hG4 := grown_belowB HG3.out hbe (by omega)
 have HG4 := Lib.hid hG4
 have hst := builderString_any (W.heap.size + 2) (W.heap.size + 2) r w4 hb4 (by have := HZ3.out; omega)
 have HST := Lib.hid hst
 clear hst hb4 hbe hG4
 go_wp2_with fail
 refine HST.out.mono ?_
 rintro e w5 ⟨rfl, hbe5⟩
 have HG5 := Lib.hid (grown_belowB HG4.out hbe5 (by omega))
 clear hbe5
 go_wp2_with fail
 go_ret
 exact ⟨by rw [HR.out]; rfl, HG5.out⟩
theorem size_any (x : Itm) (sx : Value) (W : World) (hsx : SubW W x.items sx) (hwt : wtF x ≤ 1000000000) :
  Calls Tryz.prog 146 #[.agg #[.bool x.list, .string x.bytes, sx]] W fun e W' => e = .returned (.int .i64 ((bytesF x).length : Int)) ∧ W.grownBy W' none := by
 obtain ⟨A, c, rfl⟩ := hsx.slice
 have hG1 := only_alloc (World.grownBy.refl W none) (.cells #[.bool x.list, .string x.bytes, .slice A x.items.length c] 106)
 have HB := Lib.hid (bytes_any x _ _ (hsx.grown hG1) hwt)
 have HG := Lib.hid hG1
 clear hG1 hsx
 go_enter Tryz.func146, Tryz.ntmps146
 go_wp2_with fail
 refine HB.out.mono ?_
 rintro e w2 ⟨rfl, hg⟩
 have HG := Lib.hid (grown_self HG.out hg (by simp))
 clear hg
 go_wp2_with fail
 go_ret
 exact ⟨rfl, HG.out⟩


theorem ba_cat (l m : List UInt8) : (⟨l.toArray⟩ : ByteArray) ++ ⟨m.toArray⟩ = ⟨(l ++ m).toArray⟩ := ba_ext (by rw [ba_toList])
theorem ba_sz (l : List UInt8) : (⟨l.toArray⟩ : ByteArray).size = l.length := by show l.toArray.size = _; simp
def thrown (E : Int) : List PanicEntry := [{ v := .iface 178 (.agg #[.int .i64 E]), recovered := false }]
theorem need_yes (E : Int) (W : World) : Calls Tryz.prog 145 #[.bool true, .int .i64 E] W fun e W' => e = .returned (.tuple #[]) ∧ W' = W := by
 go_enter Tryz.func145, Tryz.ntmps145
 go_wp2_with fail
 go_end0
 exact ⟨rfl, rfl⟩
theorem need_no (E : Int) (W : World) : Calls Tryz.prog 145 #[.bool false, .int .i64 E] W fun e W' => e = .panicked (thrown E) ∧ W' = W := by
 go_enter Tryz.func145, Tryz.ntmps145
 go_wp2_with fail
 exact ⟨rfl, rfl, rfl⟩
theorem formL_take {xs : List Itm} {d k : Nat} (hk : k < xs.length) (h : formL (xs.take k) d = 0) : formL (xs.take (k + 1)) d = formF (xs.getD k Itm.none_) d := by
 rw [take_item hk]
 generalize xs.getD k Itm.none_ = y
 generalize xs.take k = l at h ⊢
 induction l with
 | nil => simp only [List.nil_append, formL]; split <;> simp_all
 | cons z l ih =>
  rw [formL] at h
  rw [List.cons_append, formL]
  split at h
  ·rename_i h1; exact absurd h h1
  ·rename_i h1; rw [if_neg h1]; exact ih h
theorem formL_app {l m : List Itm} {d : Nat} (h : formL l d ≠ 0) : formL (l ++ m) d = formL l d := by
 induction l with
 | nil => exact absurd rfl h
 | cons z l ih =>
  rw [formL] at h
  rw [List.cons_append, formL, formL]
  split
  ·rfl
  ·rename_i h1; rw [if_neg h1] at h; exact ih h
theorem formL_err {xs : List Itm} {d k : Nat} (hk : k < xs.length) (h0 : formL (xs.take k) d = 0) (h : formF (xs.getD k Itm.none_) d ≠ 0) : formL xs d = formF (xs.getD k Itm.none_) d := by
 have h1 := formL_take hk h0
 have := formL_app (l := xs.take (k + 1)) (m := xs.drop (k + 1)) (d := d) (by rw [h1]; exact h)
 rw [List.take_append_drop] at this
 rw [this, h1]
def lookEnd (E : Int) : Ending := if E = 0 then .returned (.tuple #[]) else .panicked (thrown E)
def LookC (x : Itm) : Prop := ∀ (W : World) (d : Nat) (sx : Value), SubW W x.items sx → wtF x ≤ 1000000000 → d ≤ 1000 →
 Calls Tryz.prog 144 #[.agg #[.bool x.list, .string x.bytes, sx], .int .i64 (d : Int)] W fun e W' => e = lookEnd (formF x d) ∧ W.grownBy W' none
theorem lookP_bad (x : Itm) (d : Nat) (W : World) (sx : Value) (hsx : SubW W x.items sx) (h : (x.list = true ∧ x.bytes.size ≠ 0) ∨ (x.list = false ∧ x.items.length ≠ 0)) :
  Calls Tryz.prog 144 #[.agg #[.bool x.list, .string x.bytes, sx], .int .i64 (d : Int)] W fun e W' => e = lookEnd (formF x d) ∧ W.grownBy W' none := by
 obtain ⟨A, c, rfl⟩ := hsx.slice
 have HF : Hid (formF x d = 2) := Lib.hid (by rw [formF_eq, if_pos h])
 have HG := Lib.hid (only_alloc (World.grownBy.refl W none) (.cells #[.bool x.list, .string x.bytes, .slice A x.items.length c] 106))
 have HN := Lib.hid (fun V => need_no 2 V)
 rcases h with ⟨h1, h2⟩ | ⟨h1, h2⟩
 ·rw [h1] at HG ⊢
  have e1 : (x.bytes.toList == []) = false := by
   have := str_ne (a := x.bytes) (b := ⟨#[]⟩) (by intro e; rw [e] at h2; exact h2 rfl)
   simpa using this
  have e2 : x.bytes.toList.isEmpty = false := by simpa using e1
  generalize x.bytes = b at *
  generalize x.items.length = n at *
  clear h2 h1
  go_enter Tryz.func144, Tryz.ntmps144
  go_wp2_with fail
  refine (HN.out _).mono ?_
  rintro e w2 ⟨rfl, rfl⟩
  exact ⟨rfl, by rw [HF.out]; rfl, HG.out⟩
 ·rw [h1] at HG ⊢
  generalize x.bytes = b at *
  generalize x.items.length = n at *
  have e1 : ((n : Int) == 0) = false := by simpa using h2
  clear h2 h1
  go_enter Tryz.func144, Tryz.ntmps144
  go_wp2_with fail
  refine (HN.out _).mono ?_
  rintro e w2 ⟨rfl, rfl⟩
  exact ⟨rfl, by rw [HF.out]; rfl, HG.out⟩
theorem lookP_leaf (x : Itm) (d : Nat) (W : World) (sx : Value) (hsx : SubW W x.items sx) (hok : x.items.length ≤ 9223372036854775807) (h : (x.list = false ∧ x.items.length = 0) ∨ (x.list = true ∧ x.bytes.size = 0 ∧ (12 ≤ d ∨ 512 < x.items.length))) :
  Calls Tryz.prog 144 #[.agg #[.bool x.list, .string x.bytes, sx], .int .i64 (d : Int)] W fun e W' => e = lookEnd (formF x d) ∧ W.grownBy W' none := by
 obtain ⟨A, c, rfl⟩ := hsx.slice
 have HG := Lib.hid (only_alloc (World.grownBy.refl W none) (.cells #[.bool x.list, .string x.bytes, .slice A x.items.length c] 106))
 have HY := Lib.hid (fun E V => need_yes E V)
 have HN := Lib.hid (fun E V => need_no E V)
 have hf := formF_eq x d
 rcases h with ⟨h1, h2⟩ | ⟨h1, h2, h3⟩
 ·have HF : Hid (formF x d = 0) := Lib.hid (by rw [hf, if_neg (by rw [h1, h2]; simp), if_pos h1])
  rw [h1] at HG ⊢
  generalize x.bytes = b at *
  generalize x.items.length = n at *
  have e1 : ((n : Int) == 0) = true := by simpa using h2
  clear h2 h1 hf hsx hok
  go_enter Tryz.func144, Tryz.ntmps144
  go_wp2_with fail
  refine (HY.out _ _).mono ?_
  rintro e w2 ⟨rfl, rfl⟩
  go_wp2_with fail
  refine bodyPost_ret (results_none rfl _ _ _) rfl ?_
  exact ⟨by rw [HF.out]; rfl, HG.out⟩
 ·have hb : x.bytes = ⟨#[]⟩ := ba_ext (by have : x.bytes.data.toList.length = 0 := by rw [Array.length_toList]; exact h2
                                          exact List.eq_nil_of_length_eq_zero this)
  by_cases h4 : 12 ≤ d
  ·have HF : Hid (formF x d = 7) := Lib.hid (by rw [hf, if_neg (by rw [h1, h2]; simp), if_neg (by rw [h1]; simp), if_pos h4])
   rw [h1, hb] at HG ⊢
   generalize x.items.length = n at *
   have e1 : decide ((d : Int) < 12) = false := decide_eq_false (by omega)
   have hx0 := Blk.new W 106 #[.bool true, .string ⟨#[]⟩, .slice A n c]
   clear h2 h1 hf hsx h3 h4 hok hb
   go_enter Tryz.func144, Tryz.ntmps144
   go_wp2_with fail
   refine (HY.out _ _).mono ?_
   rintro e w2 ⟨rfl, rfl⟩
   go_wp2_with fail
   refine (HN.out _ _).mono ?_
   rintro e w2 ⟨rfl, rfl⟩
   exact ⟨rfl, by rw [HF.out]; rfl, HG.out⟩
  ·have h5 : 512 < x.items.length := by omega
   have HF : Hid (formF x d = 5) := Lib.hid (by rw [hf, if_neg (by rw [h1, h2]; simp), if_neg (by rw [h1]; simp), if_neg h4, if_pos h5])
   rw [h1, hb] at HG ⊢
   generalize x.items.length = n at *
   have e0 : (d : Int) < 12 := by omega
   have e1 : decide ((n : Int) ≤ 512) = false := decide_eq_false (by omega)
   clear h2 h1 hf hsx h3 h4 hb
   go_enter Tryz.func144, Tryz.ntmps144
   go_wp2_with fail
   refine (HY.out _ _).mono ?_
   rintro e w2 ⟨rfl, rfl⟩
   go_wp2_with fail
   refine (HY.out _ _).mono ?_
   rintro e w2 ⟨rfl, rfl⟩
   go_wp2_with fail
   refine (HN.out _ _).mono ?_
   rintro e w2 ⟨rfl, rfl⟩
   exact ⟨rfl, by rw [HF.out]; rfl, HG.out⟩
theorem lookP_list (x : Itm) (hC : ∀ i, i < x.items.length → LookC (x.items.getD i Itm.none_)) (d : Nat) (W : World) (sx : Value) (hsx : SubW W x.items sx) (hwt : wtF x ≤ 1000000000) (h1 : x.list = true) (h2 : x.bytes.size = 0) (h3 : d < 12) (h4 : x.items.length ≤ 512) :
  Calls Tryz.prog 144 #[.agg #[.bool x.list, .string x.bytes, sx], .int .i64 (d : Int)] W fun e W' => e = lookEnd (formF x d) ∧ W.grownBy W' none := by
 obtain ⟨A, c, rfl⟩ := hsx.slice
 have HY := Lib.hid (fun E V => need_yes E V)
 have hf : formF x d = formL x.items (d + 1) := by rw [formF_eq, if_neg (by rw [h1, h2]; simp), if_neg (by rw [h1]; simp), if_neg (by omega), if_neg (by omega)]
 have hb : x.bytes = ⟨#[]⟩ := ba_ext (by have : x.bytes.data.toList.length = 0 := by rw [Array.length_toList]; exact h2
                                         exact List.eq_nil_of_length_eq_zero this)
 have hG1 := only_alloc (World.grownBy.refl W none) (.cells #[.bool x.list, .string x.bytes, .slice A x.items.length c] 106)
 have hx0 := Blk.new W 106 #[.bool x.list, .string x.bytes, .slice A x.items.length c]
 have hS1 := hsx.grown hG1
 have hwx := wtF_eq x
 rw [h1, hb] at hG1 hx0 hS1
 rw [h1, hb]
 obtain ⟨xs, hxs⟩ : ∃ xs, x.items = xs := ⟨_, rfl⟩
 obtain ⟨n, hnn⟩ : ∃ n, xs.length = n := ⟨_, rfl⟩
 have hwi : ∀ k, k < xs.length → wtF (xs.getD k Itm.none_) ≤ 1000000000 := by
  intro k hk; have := wtL_get hk; rw [hxs] at hwx; omega
 rw [hxs] at hf hG1 hx0 hS1 hC h4 ⊢
 rw [hnn] at hG1 hx0 hS1 h4 ⊢
 have HFX := Lib.hid hf
 have HC := Lib.hid hC
 have HN := Lib.hid hnn
 have HWI := Lib.hid hwi
 have e0 : (d : Int) < 12 := by omega
 have e1 : (n : Int) ≤ 512 := by omega
 have v1 : IntKind.i64.wrap ((d : Int) + 1) = (d : Int) + 1 := IntWalk.i64_in _ (by omega)
 clear hf hC hnn hxs hsx hwi hwx hwt h1 h2 hb
 go_enter Tryz.func144, Tryz.ntmps144
 go_upto_region 1 with (fail)
 generalize W.alloc (.cells #[.bool true, .string ⟨#[]⟩, .slice A n c] 106) = W1 at *
 obtain ⟨b0, hb0⟩ : ∃ b0, W.heap.size = b0 := ⟨_, rfl⟩
 rw [hb0] at hx0 ⊢
 have c0 := hx0.cell 0; have c2 := hx0.cell 1; have c1 := hx0.cell 2
 simp only [List.getElem?_toArray, List.getElem?_cons_zero, List.getElem?_cons_succ] at c0 c1 c2
 go_wp2_with fail
 refine (HY.out _ _).mono ?_
 rintro e w2 ⟨rfl, rfl⟩
 go_wp2_with fail
 refine (HY.out _ _).mono ?_
 rintro e w2 ⟨rfl, rfl⟩
 go_wp2_with fail
 refine (HY.out _ _).mono ?_
 rintro e w2 ⟨rfl, rfl⟩
 go_wp2_with fail
 clear c0 c1 c2
 go_loopw [39] (fun i wr => ∃ k : Nat, i = .int .i64 k ∧ k ≤ n ∧ w2.grownBy wr none ∧ Hid (formL (xs.take k) (d + 1) = 0)) (fun i _ => n - (intOf i).toNat)
 case atStart => exact ⟨0, rfl, by omega, World.grownBy.refl _ _, Lib.hid rfl⟩
 case round =>
  obtain ⟨k, rfl, hk, hg, hI⟩ := hrel
  have HI := Lib.hid hI.out
  by_cases hlt : k < n
  ·have hS := hS1.grown hg
   obtain ⟨he, vs, hvs, hr⟩ := hS.row
   rw [HN.out] at hvs hr
   obtain ⟨g, off, rfl, hgB, hc⟩ := hr (by omega)
   obtain ⟨k0, k1, k2⟩ := hc k hlt
   have hsv := hvs k hlt
   obtain ⟨y, hy⟩ : ∃ y, xs.getD k Itm.none_ = y := ⟨_, rfl⟩
   have hkx : k < xs.length := by have := HN.out; omega
   have hCk := HC.out k hkx
   have hw1 := HWI.out k hkx
   have htk := formL_take hkx HI.out
   have herr := formL_err hkx HI.out
   rw [hy] at k0 k1 hsv hCk hw1 htk herr
   generalize vs.getD k undef = sv at *
   obtain ⟨As, cs, rfl⟩ := hsv.slice
   have hgA := only_alloc (World.grownBy.refl wr none) (.cells #[.bool y.list, .string y.bytes, .slice As y.items.length cs] 106)
   have HCK := Lib.hid (hCk _ (d + 1) _ (SubW.grown hsv hgA) hw1 (by omega))
   have HTK := Lib.hid htk; have HERR := Lib.hid herr
   have HG2 := Lib.hid (grown_self hg hgA (by simp))
   have q1 : (k : Int) < (n : Int) := by omega
   clear hS hvs hr hc hCk hy htk hsv he hgA herr hw1 hkx
   go_wp2_with fail
   refine HCK.out.mono ?_
   rintro e w3 ⟨rfl, hg3⟩
   have hG3 := grown_self HG2.out hg3 (by simp)
   by_cases hE : formF y (d + 1) = 0
   ·rw [hE, show lookEnd 0 = Ending.returned (.tuple #[]) from rfl]
    have HI3 : Hid (formL (xs.take (k + 1)) (d + 1) = 0) := Lib.hid (by rw [HTK.out, hE])
    clear hg3 k0 k1 k2 HCK hE
    go_wp2_with fail
    exact ⟨⟨k + 1, by go_num, by omega, hG3, HI3⟩, by simp [intOf]; omega⟩
   ·have e1 : lookEnd (formF y (d + 1)) = .panicked (thrown (formF y (d + 1))) := if_neg hE
    rw [e1]
    exact ⟨rfl, by rw [HFX.out, HERR.out hE, e1], grown_self hG1 hG3 (by simp)⟩
  ·obtain rfl : k = n := by omega
   have hfin : decide ((k : Int) < (k : Int)) = false := by simp
   have hall : xs.take k = xs := by rw [← HN.out, List.take_length]
   have hI2 := HI.out
   rw [hall] at hI2
   have HI2 := Lib.hid hI2
   have HG2 := Lib.hid (grown_self hG1 hg (by simp))
   clear hall hI2
   go_wp2_with fail
   go_end0
   exact ⟨by rw [HFX.out, HI2.out]; rfl, HG2.out⟩
theorem lookP_any (x : Itm) : LookC x := by
 generalize hn : SizeOf.sizeOf x = n
 induction n using Nat.strongRecOn generalizing x with
 | _ n ih =>
  subst hn
  intro W d sx hsx hwt hd
  have hok := (ok_of_wt x hwt).items
  cases hl : x.list with
  | false =>
   rw [← hl]
   by_cases h : x.items.length = 0
   ·exact lookP_leaf x d W sx hsx hok (.inl ⟨hl, h⟩)
   ·exact lookP_bad x d W sx hsx (.inr ⟨hl, h⟩)
  | true =>
   rw [← hl]
   by_cases h : x.bytes.size = 0
   ·by_cases h3 : 12 ≤ d ∨ 512 < x.items.length
    ·exact lookP_leaf x d W sx hsx hok (.inr ⟨hl, h, h3⟩)
    ·exact lookP_list x (fun i hi => ih _ (Itm.size_get hi) _ rfl) d W sx hsx hwt hl h (by omega) (by omega)
   ·exact lookP_bad x d W sx hsx (.inl ⟨hl, h⟩)
theorem catch_thrown (b : Nat) (x : Value) (E : Int) (W : World) (hb : Boxed W b 26 x) :
  CallsD Tryz.prog 143 #[.pointer (some ⟨b, 0, none⟩)] (.panicking (thrown E)) W fun e u' w' =>
   e = .returned (.tuple #[]) ∧ u' = .panicking [{ v := .iface 178 (.agg #[.int .i64 E]), recovered := true }] ∧ w' = (W.alloc (.cells #[.int .i64 E] 178)).setCell ⟨b, 0, none⟩ (.int .i64 E) := by
 have hb1 := hb.alloc (.cells #[.int .i64 E] 178)
 have c0 := hb1.cell; have f0 := hb1.frozen
 have c1 := (Boxed.new W 178 (.int .i64 E)).cell
 have ha : ∀ (v : Value) (V : World), (Instr.typeAssert (.iface 178 v) 20 178 true).run Tryz.prog V = .ok (.tuple #[v, .bool true]) V := fun _ _ => by kernel_rfl
 refine callsD_of_wpS Tryz.func143 rfl fun c₀ cs hu => ?_
 simp only [Tryz.ntmps143, List.size_toArray, List.length_cons, List.length_nil, Nat.reduceAdd, Nat.reduceSub, Array.replicate_succ, Array.replicate_zero, List.push_toArray, List.append_toArray, List.nil_append, List.cons_append]
 apply wpS_seq
 apply wpS_region
 simp [wpOpsS, go_sem, recoverD, hu, Exit.thenS, thrown, ha]
 apply wpS_seq
 apply wpS_region
 simp [wpOpsS, go_sem, Exit.thenS]
 refine wpS_cond (t := true) (by simp [Act.eval]) ?_
 simp only [if_true]
 apply wpS_region
 generalize W.alloc (.cells #[.int .i64 E] 178) = W1 at *
 simp [wpOpsS, go_sem, c0, f0, c1, bodyPostS, results, Tryz.results143]
theorem catch_idle (b : Nat) (W : World) :
  CallsD Tryz.prog 143 #[.pointer (some ⟨b, 0, none⟩)] .returning W fun e u' w' =>
   e = .returned (.tuple #[]) ∧ u' = .returning ∧ w' = W.alloc (.cells #[.int .i64 0] 178) := by
 have ha : ∀ (V : World), (Instr.typeAssert .nilIface 20 178 true).run Tryz.prog V = .ok (.tuple #[.agg #[.int .i64 0], .bool false]) V := fun _ => by kernel_rfl
 refine callsD_of_wpS Tryz.func143 rfl fun c₀ cs hu => ?_
 simp only [Tryz.ntmps143, List.size_toArray, List.length_cons, List.length_nil, Nat.reduceAdd, Nat.reduceSub, Array.replicate_succ, Array.replicate_zero, List.push_toArray, List.append_toArray, List.nil_append, List.cons_append]
 apply wpS_seq
 apply wpS_region
 simp [wpOpsS, go_sem, recoverD, hu, Exit.thenS, ha]
 apply wpS_seq
 apply wpS_region
 simp [wpOpsS, go_sem, Exit.thenS]
 refine wpS_cond (t := false) (by simp [Act.eval]) ?_
 simp only [Bool.false_eq_true, if_false]
 refine wpS_of_wp (wp_skip ?_)
 cases c₀
 simp_all [bodyPostS, results, Tryz.results143]
theorem leave_thrown {R : Ending → World → Prop} {tmps : Array Value} {b : Nat} {x : Value} {E : Int} {W : World} (htm : tmps.getD 2 undef = .pointer (some ⟨b, 0, none⟩)) (hb : Boxed W b 26 x)
  (hR : R (.returned (.int .i64 E)) ((W.alloc (.cells #[.int .i64 E] 178)).setCell ⟨b, 0, none⟩ (.int .i64 E))) :
  Leaves Tryz.prog Tryz.f112 tmps R [{ target := .fn (.func 143) #[.pointer (some ⟨b, 0, none⟩)], args := #[] }] (.panicking (thrown E)) W := by
 refine leaves_cons (f := 143) (args := #[.pointer (some ⟨b, 0, none⟩)]) (by simp) (by simp [go_sem]) ?_
 refine (catch_thrown b x E W hb).mono ?_
 rintro e u' w'' ⟨rfl, rfl, rfl⟩
 have hb1 := (hb.alloc (.cells #[.int .i64 E] 178)).set (.int .i64 E)
 exact ⟨_, results_cell1 (fn := Tryz.f112) rfl _ _ _ _ htm (load_cell Tryz.underlying26 rfl hb1.cell), hR⟩
theorem leave_fine {R : Ending → World → Prop} {tmps : Array Value} {b : Nat} {E : Int} {W : World} (htm : tmps.getD 2 undef = .pointer (some ⟨b, 0, none⟩)) (hb : Boxed W b 26 (.int .i64 E))
  (hR : R (.returned (.int .i64 E)) (W.alloc (.cells #[.int .i64 0] 178))) :
  Leaves Tryz.prog Tryz.f112 tmps R [{ target := .fn (.func 143) #[.pointer (some ⟨b, 0, none⟩)], args := #[] }] .returning W := by
 refine leaves_cons (f := 143) (args := #[.pointer (some ⟨b, 0, none⟩)]) (by simp) (by simp [go_sem]) ?_
 refine (catch_idle b W).mono ?_
 rintro e u' w'' ⟨rfl, rfl, rfl⟩
 exact ⟨_, results_cell1 (fn := Tryz.f112) rfl _ _ _ _ htm (load_cell Tryz.underlying26 rfl (hb.alloc _).cell), hR⟩
def checkI (x : Itm) : Int := if formF x 0 ≠ 0 then formF x 0 else if 65536 < (bytesF x).length then 5 else 0
theorem checkP_any (x : Itm) (W : World) (sx : Value) (hsx : SubW W x.items sx) (hwt : wtF x ≤ 1000000000) :
  Calls Tryz.prog 112 #[.agg #[.bool x.list, .string x.bytes, sx]] W fun e W' => e = .returned (.int .i64 (checkI x)) ∧ W.grownBy W' none := by
 obtain ⟨A, c, rfl⟩ := hsx.slice
 have hmf : ∀ (fn : Fn) (first cap : Array Value) (w : World), (Instr.makeFunc fn first cap).run Tryz.prog w = .ok (.func fn first cap) w := fun _ _ _ _ => rfl
 have hx0 := (Blk.new W 106 #[.bool x.list, .string x.bytes, .slice A x.items.length c]).alloc (.cells #[.int .i64 0] 26)
 have hr0 := Boxed.new (W.alloc (.cells #[.bool x.list, .string x.bytes, .slice A x.items.length c] 106)) 26 (.int .i64 0)
 rw [World.size_alloc] at hr0
 have hG1 := only_alloc (only_alloc (World.grownBy.refl W none) (.cells #[.bool x.list, .string x.bytes, .slice A x.items.length c] 106)) (.cells #[.int .i64 0] 26)
 have hS1 := hsx.grown hG1
 go_enter_defers Tryz.func112, Tryz.ntmps112
 go_upto_region 2 with (fail)
 have HNY := Lib.hid (fun E V => need_yes E V)
 have HNN := Lib.hid (fun E V => need_no E V)
 obtain ⟨b, hb⟩ : ∃ b, W.heap.size = b := ⟨_, rfl⟩
 rw [hb] at hx0 hr0 ⊢
 have hbg : W.heap.size ≤ b + 1 := by omega
 generalize (W.alloc (.cells #[.bool x.list, .string x.bytes, .slice A x.items.length c] 106)).alloc (.cells #[.int .i64 0] 26) = W1 at *
 have c0 := hx0.cell 0; have c1 := hx0.cell 1; have c2 := hx0.cell 2
 simp only [List.getElem?_toArray, List.getElem?_cons_zero, List.getElem?_cons_succ] at c0 c1 c2
 have hlk := lookP_any x W1 0 _ hS1 hwt (by omega)
 have HL := Lib.hid hlk
 clear hlk hsx hb hmf
 go_wp2_with fail
 refine HL.out.mono ?_
 rintro e w2 ⟨rfl, hg2⟩
 have hG2 := grown_self hG1 hg2 (by simp)
 have hr2 := hr0.kept hg2 (by simp)
 by_cases hE : formF x 0 = 0
 ·rw [hE, show lookEnd 0 = Ending.returned (.tuple #[]) from rfl]
  have hx2 := hx0.grown hg2 (by simp)
  have hS2 := hS1.grown hg2
  have c0 := hx2.cell 0; have c1 := hx2.cell 1; have c2 := hx2.cell 2
  simp only [List.getElem?_toArray, List.getElem?_cons_zero, List.getElem?_cons_succ] at c0 c1 c2
  have HS := Lib.hid (size_any x _ _ hS2 hwt)
  have hcF : checkI x = if 65536 < (bytesF x).length then 5 else 0 := by unfold checkI; rw [if_neg (by simpa using hE)]
  have HCF := Lib.hid hcF
  generalize hl : (bytesF x).length = l at *
  clear hcF hE hg2 hS2 hx2 hG1 hr0 hS1 hx0 HL
  go_wp2_with fail
  refine HS.out.mono ?_
  rintro e w3 ⟨rfl, hg3⟩
  have hG3 := grown_self hG2 hg3 (by simp)
  have hr3 := hr2.kept hg3 (by simp)
  by_cases h5 : 65536 < l
  ·have e1 : decide ((l : Int) ≤ 65536) = false := decide_eq_false (by omega)
   have HC5 : Hid (checkI x = 5) := Lib.hid (by rw [HCF.out, if_pos h5])
   clear h5 hg3
   go_wp2_with fail
   refine (HNN.out _ _).mono ?_
   rintro e w4 ⟨rfl, rfl⟩
   refine leave_thrown rfl hr3 ⟨by rw [HC5.out], ?_⟩
   exact only_set (only_alloc hG3 _) (p := ⟨b + 1, 0, none⟩) hbg _
  ·have e1 : (l : Int) ≤ 65536 := by omega
   have HC5 : Hid (checkI x = 0) := Lib.hid (by rw [HCF.out, if_neg h5])
   clear h5 hg3
   go_wp2_with fail
   refine (HNY.out _ _).mono ?_
   rintro e w4 ⟨rfl, rfl⟩
   have r0 := hr3.cell; have r1 := hr3.frozen
   go_wp2_with fail
   refine leave_fine rfl (hr3.set (.int .i64 0)) ⟨by rw [HC5.out], ?_⟩
   exact only_alloc (only_set hG3 (p := ⟨b + 1, 0, none⟩) hbg _) _
 ·rw [show lookEnd (formF x 0) = .panicked (thrown (formF x 0)) from if_neg hE]
  have hcF : checkI x = formF x 0 := if_pos hE
  refine leave_thrown rfl hr2 ⟨by rw [hcF], ?_⟩
  exact only_set (only_alloc hG2 _) (p := ⟨b + 1, 0, none⟩) hbg _
def encB (x : Itm) : List UInt8 := if checkI x = 0 then bytesF x else []
theorem encodeP_any (x : Itm) (W : World) (sx : Value) (hsx : SubW W x.items sx) (hwt : wtF x ≤ 1000000000) :
  Calls Tryz.prog 76 #[.agg #[.bool x.list, .string x.bytes, sx]] W fun e W' => e = .returned (.tuple #[.string ⟨(encB x).toArray⟩, .int .i64 (checkI x)]) ∧ W.grownBy W' none := by
 obtain ⟨A, c, rfl⟩ := hsx.slice
 have hG1 := only_alloc (World.grownBy.refl W none) (.cells #[.bool x.list, .string x.bytes, .slice A x.items.length c] 106)
 have hx0 := Blk.new W 106 #[.bool x.list, .string x.bytes, .slice A x.items.length c]
 have hS1 := hsx.grown hG1
 have HK := Lib.hid (checkP_any x _ _ hS1 hwt)
 have HG := Lib.hid hG1
 have HS := Lib.hid hS1
 have HX := Lib.hid hx0
 obtain ⟨E, hE⟩ : ∃ E, checkI x = E := ⟨_, rfl⟩
 rw [hE] at HK ⊢
 by_cases h0 : E = 0
 ·have HB : Hid (encB x = bytesF x) := Lib.hid (if_pos (by rw [hE, h0]))
  rw [h0] at HK ⊢
  clear hG1 hx0 hS1 hsx hE h0
  go_enter Tryz.func76, Tryz.ntmps76
  go_wp2_with fail
  refine HK.out.mono ?_
  rintro e w2 ⟨rfl, hg2⟩
  have hx2 := HX.out.grown hg2 (by simp)
  have hS2 := HS.out.grown hg2
  have HG := Lib.hid (grown_self HG.out hg2 (by simp))
  have c0 := hx2.cell 0; have c1 := hx2.cell 1; have c2 := hx2.cell 2
  simp only [List.getElem?_toArray, List.getElem?_cons_zero, List.getElem?_cons_succ] at c0 c1 c2
  have HY := Lib.hid (bytes_any x _ _ hS2 hwt)
  clear hg2 hx2 hS2 HK
  go_wp2_with fail
  refine HY.out.mono ?_
  rintro e w3 ⟨rfl, hg3⟩
  have HG := Lib.hid (grown_self HG.out hg3 (by simp))
  clear hg3
  go_wp2_with fail
  go_ret2
  exact ⟨by rw [HB.out]; rfl, HG.out⟩
 ·have HB : Hid (encB x = []) := Lib.hid (if_neg (by rw [hE]; exact h0))
  have e1 : (E != 0) = true := by simpa using h0
  clear hG1 hx0 hS1 hsx hE h0
  go_enter Tryz.func76, Tryz.ntmps76
  go_wp2_with fail
  refine HK.out.mono ?_
  rintro e w2 ⟨rfl, hg2⟩
  have HG := Lib.hid (grown_self HG.out hg2 (by simp))
  clear hg2 HK
  go_wp2_with fail
  go_ret2
  exact ⟨by rw [HB.out]; rfl, HG.out⟩



theorem SubV.grown {S : Nat → Prop} {W W' : World} {xs : List Itm} {v : Value} (h : SubV S W xs v) (hg : W.grownBy W' none) : SubV S W' xs v := h.keep fun p _ u hu => hg.cell hu (by simp)
theorem own_lower {w : World} {base base' size n : Nat} {e : TypeId} {v : Value} {xs : List Value} (h : w.ownsRow base e size v n xs) (hb : base' ≤ base) : w.ownsRow base' e size v n xs := by
 refine ⟨h.1, ?_⟩
 rcases h.2 with h1 | ⟨g, cap, cur, hv, hg, rest⟩
 ·exact .inl h1
 ·exact .inr ⟨g, cap, cur, hv, by omega, rest⟩
structure RdI (w : World) (b3 : Nat) (v : Value) (j : Nat) (xs : List Itm) (vs : List Value) (u : World) : Prop where
 held : Held3 w b3 v j (itemsV xs vs) u
 lx : xs.length = j
 lv : vs.length = j
 sub : ∀ i, i < j → SubV (fun g => b3 + 1 ≤ g ∧ v.ownBlock ≠ some g) u (xs.getD i Itm.none_).items (vs.getD i undef)
theorem RdI.kept {w u u' : World} {b3 j : Nat} {v : Value} {xs : List Itm} {vs : List Value} (h : RdI w b3 v j xs vs u) (hg : u.grownBy u' none) : RdI w b3 v j xs vs u' :=
 ⟨h.held.kept hg, h.lx, h.lv, fun i hi => (h.sub i hi).grown hg⟩
theorem RdI.put {w u u2 : World} {b3 j g' cap' : Nat} {v : Value} {xs : List Itm} {vs : List Value} (h : RdI w b3 v j xs vs u) (x : Itm) (sv : Value) (hx : SubV (fun g => b3 + 1 ≤ g ∧ v.ownBlock ≠ some g) u x.items sv)
  (hown : u2.ownsRow (b3 + 1) 106 3 (.slice (some ⟨g', 0, none⟩) (j + 1) cap') (j + 1) (itemsV xs vs ++ [.bool x.list, .string x.bytes, sv])) (hg : u.grownBy u2 v.ownBlock) (hob : (Value.slice (some ⟨g', 0, none⟩) (j + 1) cap').ownBlock = v.ownBlock ∨ (Value.slice (some ⟨g', 0, none⟩) (j + 1) cap').ownBlock = some u.heap.size) :
  RdI w b3 (.slice (some ⟨g', 0, none⟩) (j + 1) cap') (j + 1) (xs ++ [x]) (vs ++ [sv]) (u2.setCell ⟨b3, 2, none⟩ (.slice (some ⟨g', 0, none⟩) (j + 1) cap')) := by
 have key : ∀ ys sv', SubV (fun g => b3 + 1 ≤ g ∧ v.ownBlock ≠ some g) u ys sv' → SubV (fun g => b3 + 1 ≤ g ∧ (Value.slice (some ⟨g', 0, none⟩) (j + 1) cap').ownBlock ≠ some g) (u2.setCell ⟨b3, 2, none⟩ (.slice (some ⟨g', 0, none⟩) (j + 1) cap')) ys sv' := by
  intro ys sv' hs
  refine (hs.lt.keep fun p hp c hc => ?_).weak fun g hS => ⟨hS.1.1, fun e => ?_⟩
  ·rw [World.cell?_setCell_far _ _ _ _ (by have := hp.1.1; show b3 ≠ p.block; omega)]
   exact hg.cell hc (fun e => hp.1.2 e.symm)
  ·rcases hob with e2 | e2
   ·exact hS.1.2 (e2.symm.trans e)
   ·have := e2.symm.trans e
    have := Option.some.inj this
    have := hS.2
    omega
 refine ⟨h.held.put (by rw [itemsV_snoc xs vs (by rw [h.lx, h.lv])]; exact hown) hg, by simp [h.lx], by simp [h.lv], fun i hi => ?_⟩
 by_cases hij : i < j
 ·rw [List.getD_eq_getElem?_getD, List.getElem?_append_left (by rw [h.lx]; exact hij), ← List.getD_eq_getElem?_getD, List.getD_eq_getElem?_getD (l := vs ++ [sv]), List.getElem?_append_left (by rw [h.lv]; exact hij), ← List.getD_eq_getElem?_getD]
  exact key _ _ (h.sub i hij)
 ·obtain rfl : i = j := by omega
  rw [List.getD_eq_getElem?_getD, List.getElem?_append_right (by rw [h.lx]; omega), List.getD_eq_getElem?_getD (l := vs ++ [sv]), List.getElem?_append_right (by rw [h.lv]; omega), h.lx, h.lv, Nat.sub_self]
  exact key _ _ hx
theorem RdI.row {w u : World} {b3 j c : Nat} {A : Option Addr} {xs : List Itm} {vs : List Value} (h : RdI w b3 (.slice A j c) j xs vs u) : SubV (fun g => b3 + 1 ≤ g) u xs (.slice A j c) := by
 obtain ⟨h1, h2, h3, h4⟩ := h
 subst h2
 exact SubV.of_own (by rw [h3]) h1.own (fun i hi => (h4 i hi).weak fun g hg => hg.1) (fun g hg => ownBlock_ge h1.own hg)
end Go.Proofs.YtgclnikdkfpflaaGreatDoor
