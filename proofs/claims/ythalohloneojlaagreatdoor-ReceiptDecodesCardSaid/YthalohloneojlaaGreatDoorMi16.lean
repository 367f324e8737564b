/- Merged: RcpH, RcpI0, RcpI1. -/
import Derived.Test.YthalohloneojlaaGreatDoorMi15
/- Receipts: the reader: a log.  Printed by wip/genRcpH.py -/
namespace Go.Proofs.YthalohloneojlaaGreatDoor
open Go.RowKit Go.Shelf
set_option linter.unusedVariables false
set_option linter.unusedSimpArgs false

/-- the errors of texts of a length, one behind the other -/
def exsE (n : Nat) (E : Int) (zs : List Itm) : Int := zs.foldl (fun E y => fst1 E (exE n y)) E
theorem exsE_snoc (n : Nat) (E : Int) (zs : List Itm) (y : Itm) : exsE n E (zs ++ [y]) = fst1 (exsE n E zs) (exE n y) := by simp [exsE]
/-- a log's error, and what it is -/
def logE (E : Int) (y : Itm) : Int :=
  fst1 (exsE 32 (fst1 (fst1 (fst1 E (rowE 3 3 y)) (exE 20 ((rowL 3 3 y).headD Itm.none_))) (rowE 0 4 ((rowL 3 3 y).tail.headD Itm.none_))) (rowL 0 4 ((rowL 3 3 y).tail.headD Itm.none_))) (datE ((rowL 3 3 y).tail.tail.headD Itm.none_))
def logL (y : Itm) : LogV := ⟨((rowL 3 3 y).headD Itm.none_).bytes, (rowL 0 4 ((rowL 3 3 y).tail.headD Itm.none_)).map Itm.bytes, datV ((rowL 3 3 y).tail.tail.headD Itm.none_)⟩
/-- texts in blocks of a set -/
def TopR (S : Nat → Prop) (W : World) (ts : List ByteArray) (T : Option Addr) (n : Nat) : Prop :=
  ts.length = n ∧ (0 < n → ∃ g off, T = some ⟨g, off, none⟩ ∧ S g ∧ ∀ i, i < n → W.cell? ⟨g, off + i, none⟩ = some (.string (ts.getD i .empty)))
theorem TopR.keep {S : Nat → Prop} {W W' : World} {ts : List ByteArray} {T : Option Addr} {n : Nat} (h : TopR S W ts T n) (hk : ∀ p : Addr, S p.block → ∀ u, W.cell? p = some u → W'.cell? p = some u) : TopR S W' ts T n :=
  ⟨h.1, fun h0 => by obtain ⟨g, off, a, b, c⟩ := h.2 h0; exact ⟨g, off, a, b, fun i hi => hk _ b _ (c i hi)⟩⟩
theorem rowL_le (lo hi : Int) (y : Itm) : ((rowL lo hi y).length : Int) ≤ max hi 0 := by
  unfold rowL
  split
  · rename_i h
    have := h.2
    unfold textE at this
    split at this
    · simp at this
    · split at this
      · simp at this
      · omega
  · simp; omega
/-- what stands while a log's texts are read -/
structure LogSt (B : Nat) (w0 : World) (r r2 r3 lb : Nat) (a : ByteArray) (v : Value) (k : Nat) (ts : List Value) (lr l2 l3 : List Itm) (E E2 E3 : Int) (u : World) : Prop where
  blk : Blk u lb 40 #[.string a, v, .string ⟨#[]⟩]
  own : u.ownsRow (r3 + 1) 9 1 v k ts
  rd : RdR B u r lr E
  rd2 : RdR B u r2 l2 E2
  rd3 : RdR B u r3 l3 E3
  grown : w0.grownBy u (some r)
  lo : w0.heap.size ≤ r2
  lo2 : r2 < lb
  lo3 : lb < r3
  lt : r < w0.heap.size
  sz : r3 + 1 ≤ u.heap.size
theorem LogSt.kept {B : Nat} {w0 u u' : World} {r r2 r3 lb k : Nat} {a : ByteArray} {v : Value} {ts : List Value} {lr l2 l3 : List Itm} {E E2 E3 : Int} (h : LogSt B w0 r r2 r3 lb a v k ts lr l2 l3 E E2 E3 u) (hg : u.grownBy u' none) : LogSt B w0 r r2 r3 lb a v k ts lr l2 l3 E E2 E3 u' := by
  obtain ⟨A, c, rfl⟩ := own_slice3 h.own
  have := hg.size; have := h.sz
  exact ⟨h.blk.grown hg (by simp), h.own.kept hg (by cases A; exact .inl rfl; exact .inr (by simp [Value.ownBlock])), h.rd.kept hg (by simp) (by simp), h.rd2.kept hg (by simp) (by simp), h.rd3.kept hg (by simp) (by simp), grown_self h.grown (grown_row hg (some r)) (fun k hk => .inl hk), h.lo, h.lo2, h.lo3, h.lt, by omega⟩
theorem LogSt.drew {B : Nat} {w0 u : World} {r r2 r3 lb k : Nat} {a : ByteArray} {v : Value} {ts : List Value} {lr l2 l3 : List Itm} {E E2 E3 : Int} (h : LogSt B w0 r r2 r3 lb a v k ts lr l2 l3 E E2 E3 u) : LogSt B w0 r r2 r3 lb a v k ts lr l2 l3 E E2 E3 u.drew := h.kept (only_drew (World.grownBy.refl u none))
theorem LogSt.read {B : Nat} {w0 u u' : World} {r r2 r3 lb k : Nat} {a : ByteArray} {v : Value} {ts : List Value} {lr l2 l3 l3' : List Itm} {E E2 E3 E3' : Int} (h : LogSt B w0 r r2 r3 lb a v k ts lr l2 l3 E E2 E3 u) (hg : u.grownBy u' (some r3)) (hR : RdR B u' r3 l3' E3') : LogSt B w0 r r2 r3 lb a v k ts lr l2 l3' E E2 E3' u' := by
  obtain ⟨A, c, rfl⟩ := own_slice3 h.own
  have := hg.size; have := h.sz; have := h.lo; have := h.lo2; have := h.lo3; have := h.lt; have := h.rd3.le
  exact ⟨h.blk.grown hg (by simp; omega), h.own.kept hg (by cases A; exact .inl rfl; exact .inr (fun e => by have := ownBlock_ge h.own e; omega)), h.rd.kept hg (by simp; omega) (fun k hk => by cases hk; assumption), h.rd2.kept hg (by simp; omega) (fun k hk => by cases hk; assumption), hR, grown_self h.grown hg (fun k hk => .inr (by cases hk; omega)), h.lo, h.lo2, h.lo3, h.lt, by omega⟩
theorem LogSt.put {B : Nat} {w0 u u2 : World} {r r2 r3 lb k g' cap' : Nat} {a : ByteArray} {v : Value} {ts news : List Value} {lr l2 l3 : List Itm} {E E2 E3 : Int} (h : LogSt B w0 r r2 r3 lb a v k ts lr l2 l3 E E2 E3 u) (hown : u2.ownsRow (r3 + 1) 9 1 (.slice (some ⟨g', 0, none⟩) (k + 1) cap') (k + 1) news) (hg : u.grownBy u2 v.ownBlock) :
    LogSt B w0 r r2 r3 lb a (.slice (some ⟨g', 0, none⟩) (k + 1) cap') (k + 1) news lr l2 l3 E E2 E3 (u2.setCell ⟨lb, 1, none⟩ (.slice (some ⟨g', 0, none⟩) (k + 1) cap')) := by
  have hge : r3 + 1 ≤ g' := ownBlock_ge hown rfl
  have hs := hg.size; have := h.sz; have := h.lo; have := h.lo2; have := h.lo3; have := h.lt; have := h.rd3.le; have := h.rd.le; have := h.rd2.le
  have hob : ∀ {g}, v.ownBlock = some g → r3 + 1 ≤ g := fun e => ownBlock_ge h.own e
  have hb := (h.blk.grown hg (fun e => by have := hob e.symm; omega)).set_ 1 (.slice (some ⟨g', 0, none⟩) (k + 1) cap')
  have hgs : u2.grownBy (u2.setCell ⟨lb, 1, none⟩ (.slice (some ⟨g', 0, none⟩) (k + 1) cap')) (some lb) := only_setR (World.grownBy.refl u2 _) 1 _
  have hB : B ≤ lb := by omega
  refine ⟨by simpa using hb, own_far hown (p := ⟨lb, 1, none⟩) (by show g' ≠ lb; omega) _, ?_, ?_, ?_, ?_, h.lo, h.lo2, h.lo3, h.lt, by have := hgs.size; omega⟩
  · exact (h.rd.kept hg (fun e => by have := hob e.symm; omega) (fun k hk => by have := hob hk; omega)).kept hgs (by simp; omega) (fun k hk => by cases hk; exact hB)
  · exact (h.rd2.kept hg (fun e => by have := hob e.symm; omega) (fun k hk => by have := hob hk; omega)).kept hgs (by simp; omega) (fun k hk => by cases hk; exact hB)
  · exact (h.rd3.kept hg (fun e => by have := hob e.symm; omega) (fun k hk => by have := hob hk; omega)).kept hgs (by simp; omega) (fun k hk => by cases hk; exact hB)
  · exact grown_self (grown_self h.grown hg (fun j hj => .inr (by have := hob hj; omega))) hgs (fun j hj => .inr (by cases hj; omega))
theorem exec_storeS {W : World} {a : Act} {o : Oper} {g off : Nat} {cur : Array Value} {t : TypeId} {A : Option Addr} {n c : Nat} (x y : Operand) (ho : o.op = .store 38 x y) (hx : a.eval x = .pointer (some ⟨g, off, none⟩)) (hy : a.eval y = .slice A n c)
    (hb : Blk W g t cur) (hsz : off < cur.size) : (execOp a.eval o).run Tryz.prog W = .ok .skip (W.setCell ⟨g, off, none⟩ (.slice A n c)) := by
  have c0 : W.cell? ⟨g, off, none⟩ = some cur[off] := by rw [hb.cell]; exact Array.getElem?_eq_getElem (by omega)
  have f0 := hb.frozen off
  have hu := Tryz.underlying38
  have hagg := Tryz.isAgg38
  unfold execOp
  simp only [ho, hx, hy]
  simp [go_sem, c0, f0]
theorem exec_call2n {P : Program} {a : Act} {o : Oper} {W : World} (f : FuncId) (x y : Operand) (ts : Array TypeId) (ho : o.op = .call { callee := .value (.func f), args := #[x, y], argTypes := ts }) (v u : Value) (hx : a.eval x = v) (hy : a.eval y = u)
    (hf : (callFunc f #[v, u]).run P W = .ok (.enter f #[v, u]) W) : (execOp a.eval o).run P W = .ok (.enter f #[v, u]) W := by
  have he : a.eval (.func f) = .func (.func f) #[] #[] := rfl
  unfold execOp
  generalize a.eval = ev at *
  simp only [ho]
  simp [resolve, invoke, go_sem, he, hx, hy, hf]
theorem load_logF {w : World} {g : Nat} {a b c : Value} (hg : Blk w g 40 #[a, b, c]) : (loadVar 40 ⟨g, 0, none⟩).run Tryz.prog w = .ok (.agg #[a, b, c]) w :=
  run_loadVar_row w g 40 40 _ (0, 0) _ hg Tryz.underlying40 rfl (by kernel_rfl)
theorem own_top {W : World} {base k : Nat} {v : Value} {ts : List ByteArray} (h : W.ownsRow base 9 1 v k (ts.map Value.string)) : ∃ A c, v = .slice A k c ∧ TopR (fun g => base ≤ g) W ts A k ∧ (A = none → k = 0 ∧ c = 0) := by
  have hl : ts.length = k := by have := h.1; simpa using this
  rcases h.2 with ⟨rfl, h0⟩ | ⟨g, cap, cur, rfl, hb, hg, hn, hc, hs, ht⟩
  · subst h0
    exact ⟨none, 0, rfl, ⟨hl, fun h => by omega⟩, fun _ => ⟨rfl, rfl⟩⟩
  · refine ⟨_, _, rfl, ⟨hl, fun h0 => ⟨g, 0, rfl, hb, fun j hj => ?_⟩⟩, fun h => by cases h⟩
    rw [Nat.zero_add, cell_of_row W g j cur 9 (0, 0) hg]
    have h2 : (cur.toList.take (k * 1))[j]? = (ts.map Value.string)[j]? := by rw [ht]
    rw [List.getElem?_take_of_lt (by omega)] at h2
    rw [← Array.getElem?_toList, h2]
    simp [List.getD_eq_getElem?_getD, List.getElem?_eq_getElem (show j < ts.length by omega)]
/-- the length of a slice at an address -/
def lenAt (w : World) (p : Addr) : Nat := match w.cell? p with | some (.slice _ n _) => n | _ => 0
theorem RdR.len {B : Nat} {w : World} {r : Nat} {l : List Itm} {E : Int} (h : RdR B w r l E) : lenAt w ⟨r, 0, none⟩ = l.length := by
  obtain ⟨A, c, wh, hb, _⟩ := h.ex
  have c0 := hb.cell 0
  simp only [List.getElem?_toArray, List.getElem?_cons_zero] at c0
  simp [lenAt, c0]
theorem RdR.err {B : Nat} {w : World} {r : Nat} {l : List Itm} {E E2 : Int} {wh : ByteArray} (h : RdR B w r l E) : RdR B (w.setCell ⟨r, 1, none⟩ (errV wh E2)) r l E2 := by
  obtain ⟨A, c, wh0, hb, hs⟩ := h.ex
  exact ⟨⟨A, c, wh, by simpa using hb.set_ 1 (errV wh E2), sub_kept hs (only_setR (World.grownBy.refl w _) 1 _) (fun k hk => by cases hk; exact h.le)⟩, h.le⟩
theorem errV_form (wh : ByteArray) (E : Int) : errV wh E = .nilIface ∨ ∃ t v, errV wh E = .iface t v := by
  by_cases h : E = 0
  · exact .inl (by rw [h, errV_0])
  · exact .inr ⟨_, _, errV_n wh h⟩
/-- an error is stored -/
theorem wp_store_err {o : Oper} {a : Act} {w : World} {K : Act → World → Prop} {Q : Exit → Act → World → Prop} (x y : Operand) (ho : o.op = .store 65 x y) (g : Nat) (wh : ByteArray) (E : Int) (hx : a.eval x = .pointer (some ⟨g, 1, none⟩)) (hy : a.eval y = errV wh E) (u : Value) (c0 : w.cell? ⟨g, 1, none⟩ = some u) (f0 : w.frozen? ⟨g, 1, none⟩ = false)
    (h : K (a.put o.dst undef) (w.setCell ⟨g, 1, none⟩ (errV wh E))) : o.wp Tryz.prog a w K Q := by
  have hrun : (execOp a.eval o).run Tryz.prog w = .ok .skip (w.setCell ⟨g, 1, none⟩ (errV wh E)) := by
    have hu := Tryz.underlying65
    have hagg := Tryz.isAgg65
    rcases errV_form wh E with h | ⟨t, v, h⟩
    · rw [h] at hy ⊢
      unfold execOp
      simp only [ho, hx, hy]
      simp [go_sem, c0, f0]
    · rw [h] at hy ⊢
      unfold execOp
      simp only [ho, hx, hy]
      simp [go_sem, c0, f0]
  unfold Oper.wp
  rw [hrun]
  exact h
theorem drop_cons {zs : List Itm} {k : Nat} (h : k < zs.length) : (zs.drop k).headD Itm.none_ = zs.getD k Itm.none_ ∧ (zs.drop k).tail = zs.drop (k + 1) ∧ zs.take (k + 1) = zs.take k ++ [zs.getD k Itm.none_] := by
  refine ⟨?_, ?_, ?_⟩
  · rw [List.getD_eq_getElem?_getD, List.drop_eq_getElem_cons h, List.getElem?_eq_getElem h]; rfl
  · rw [List.drop_eq_getElem_cons h]; rfl
  · rw [List.take_add_one, List.getElem?_eq_getElem h, List.getD_eq_getElem?_getD, List.getElem?_eq_getElem h]; rfl

set_option maxRecDepth 100000 in
set_option maxHeartbeats 4000000 in
theorem logR_any (B r : Nat) (l : List Itm) (E : Int) (w : World) (h : RdR B w r l E) :
    Calls Tryz.prog 65 #[.pointer (some ⟨r, 0, none⟩)] w fun x w' => ∃ T tc, x = .returned (.agg (logC (logL (l.headD Itm.none_)) T tc)) ∧ TopR (fun g => w.heap.size ≤ g) w' (logL (l.headD Itm.none_)).topics T (logL (l.headD Itm.none_)).topics.length ∧
      (T = none → (logL (l.headD Itm.none_)).topics.length = 0 ∧ tc = 0) ∧ RdR B w' r l.tail (logE E (l.headD Itm.none_)) ∧ w.grownBy w' (some r) := by
  have HL0 := fun (W : World) (hW : RdR B W r l E) => Lib.hid (rowR_any 3 3 B r l E W hW)
  generalize l.headD Itm.none_ = y at *
  generalize l.tail = lr at *
  obtain ⟨F, hF⟩ : ∃ F, logE E y = F := ⟨_, rfl⟩
  obtain ⟨V, hV⟩ : ∃ V, logL y = V := ⟨_, rfl⟩
  rw [hF, hV]
  unfold logE at hF
  unfold logL at hV
  obtain ⟨ps, hps⟩ : ∃ ps, rowL 3 3 y = ps := ⟨_, rfl⟩
  obtain ⟨E1, hE1⟩ : ∃ e, fst1 E (rowE 3 3 y) = e := ⟨_, rfl⟩
  rw [hps, hE1] at hF HL0
  rw [hps] at hV
  obtain ⟨a, ha⟩ : ∃ a, (ps.headD Itm.none_).bytes = a := ⟨_, rfl⟩
  obtain ⟨E2, hE2⟩ : ∃ e, fst1 E1 (exE 20 (ps.headD Itm.none_)) = e := ⟨_, rfl⟩
  have HL1 := fun (W : World) (r2 : Nat) (hW : RdR B W r2 ps E1) => Lib.hid (exactR_any 20 B r2 ps E1 W hW)
  rw [ha, hE2] at HL1
  rw [hE2] at hF
  rw [ha] at hV
  obtain ⟨p2, hp2⟩ : ∃ p, ps.tail = p := ⟨_, rfl⟩
  rw [hp2] at HL1 hF hV
  obtain ⟨E3, hE3⟩ : ∃ e, fst1 E2 (rowE 0 4 (p2.headD Itm.none_)) = e := ⟨_, rfl⟩
  obtain ⟨zs, hzs⟩ : ∃ zs, rowL 0 4 (p2.headD Itm.none_) = zs := ⟨_, rfl⟩
  have hz4 : zs.length ≤ 4 := by have := rowL_le 0 4 (p2.headD Itm.none_); rw [hzs] at this; omega
  have HL2 := fun (W : World) (r2 : Nat) (hW : RdR B W r2 p2 E2) => Lib.hid (rowR_any 0 4 B r2 p2 E2 W hW)
  rw [hE3, hzs] at HL2 hF
  rw [hzs] at hV
  obtain ⟨p3, hp3⟩ : ∃ p, p2.tail = p := ⟨_, rfl⟩
  rw [hp3] at HL2 hF hV
  obtain ⟨E4, hE4⟩ : ∃ e, exsE 32 E3 zs = e := ⟨_, rfl⟩
  have HL3 := fun (W : World) (r2 : Nat) (hW : RdR B W r2 p3 E4) => Lib.hid (dataR_any B r2 p3 E4 W hW)
  rw [hE4] at hF
  obtain ⟨d, hd⟩ : ∃ d, datV (p3.headD Itm.none_) = d := ⟨_, rfl⟩
  rw [hd, hF] at HL3
  rw [hd] at hV
  generalize p3.tail = p4 at HL3
  have HE4 := Lib.hid hE4
  have HV := Lib.hid hV.symm
  have HZ4 := Lib.hid hz4
  clear hF hV hps hE1 ha hE2 hp2 hE3 hzs hp3 hE4 hd hz4
  have hRB := Blk.new w 40 #[.string ⟨#[]⟩, .slice none 0 0, .string ⟨#[]⟩]
  have hG := only_alloc (World.grownBy.refl w none) (.cells #[.string ⟨#[]⟩, .slice none 0 0, .string ⟨#[]⟩] 40)
  have h1 := h.kept hG (by simp) (by simp)
  have hlt := h.lt
  obtain ⟨g0, hg0⟩ : ∃ b, w.heap.size = b := ⟨_, rfl⟩
  have hz : (w.alloc (.cells #[.string ⟨#[]⟩, .slice none 0 0, .string ⟨#[]⟩] 40)).heap.size = g0 + 1 := by simp [hg0]
  rw [hg0] at hRB hlt
  have HW := Lib.hid hg0
  clear h
  go_enter Tryz.func65, Tryz.ntmps65
  go_upto_region 1 with (fail)
  clear hg0
  generalize w.alloc (.cells #[.string ⟨#[]⟩, .slice none 0 0, .string ⟨#[]⟩] 40) = W1 at *
  have HG1 := Lib.hid hG; have HB1 := Lib.hid hRB; have HR1 := Lib.hid h1; have HZ := Lib.hid hz; have HLT := Lib.hid hlt
  clear hG hRB h1 hz hlt
  go_wp2_with fail
  refine (HL0 W1 HR1.out).out.mono ?_
  rintro e w2 ⟨r2, rfl, hle2, hR, hR2, hg2⟩
  have HR2 := Lib.hid hR2; have HR := Lib.hid hR
  have HLE2 : Hid (g0 + 1 ≤ r2) := Lib.hid (by have := HZ.out; omega)
  have HG2 := Lib.hid hg2
  clear hR2 hR hg2 hle2 HL0
  go_wp2_with fail
  refine (HL1 w2 r2 HR2.out).out.mono ?_
  rintro e w3 ⟨rfl, hR2, hg3⟩
  obtain ⟨lb, hlb⟩ : ∃ b, w3.heap.size = b := ⟨_, rfl⟩
  have hB4 := Blk.new w3 40 #[.string a, .slice none 0 0, .string ⟨#[]⟩]
  have hz4 : (w3.alloc (.cells #[.string a, .slice none 0 0, .string ⟨#[]⟩] 40)).heap.size = lb + 1 := by simp [hlb]
  have hg4 := only_alloc (World.grownBy.refl w3 none) (.cells #[.string a, .slice none 0 0, .string ⟨#[]⟩] 40)
  rw [hlb] at hB4
  have HST : Hid (RdR B (w3.alloc (.cells #[.string a, .slice none 0 0, .string ⟨#[]⟩] 40)) r lr E1 ∧ RdR B (w3.alloc (.cells #[.string a, .slice none 0 0, .string ⟨#[]⟩] 40)) r2 p2 E2 ∧ W1.grownBy (w3.alloc (.cells #[.string a, .slice none 0 0, .string ⟨#[]⟩] 40)) (some r) ∧ r2 < lb) := by
    have hle2 := HLE2.out; have hz := HZ.out; have hlt := HLT.out; have hl2 := hR2.lt
    have hle := HR2.out.le
    exact Lib.hid ⟨(HR.out.kept hg3 (by simp; omega) (fun k hk => by cases hk; exact hle)).kept hg4 (by simp) (by simp), hR2.kept hg4 (by simp) (by simp),
      grown_self (grown_self HG2.out hg3 (fun k hk => .inr (by cases hk; omega))) (grown_row hg4 (some r)) (fun k hk => .inl hk), by omega⟩
  clear hR2 hg3 hg4 HR HR2 HG2
  have HB4 := Lib.hid hB4; have HZ4' := Lib.hid hz4
  clear hB4 hz4
  go_upto_region 3 with (fail)
  clear hlb
  generalize w3.alloc (.cells #[.string a, .slice none 0 0, .string ⟨#[]⟩] 40) = W4 at *
  go_wp2_with fail
  refine (HL2 W4 r2 HST.out.2.1).out.mono ?_
  rintro e w5 ⟨r3, rfl, hle3, hR2, hR3, hg5⟩
  have K0 : LogSt B W1 r r2 r3 lb a (.slice none 0 0) 0 ((zs.take 0).map fun y => Value.string y.bytes) lr p3 (zs.drop 0) E1 E3 E3 w5 := by
    have hle2 := HLE2.out; have hz := HZ.out; have hlt := HLT.out
    have hle := HST.out.2.1.le; have h4 := HST.out.2.2.2; have hz5 := HZ4'.out
    have hl3 := hR3.lt
    exact ⟨HB4.out.grown hg5 (by simp; omega), World.ownsRow_nil _ _ _ _, HST.out.1.kept hg5 (by simp; omega) (fun k hk => by cases hk; exact hle), hR2, hR3, grown_self HST.out.2.2.1 hg5 (fun k hk => .inr (by cases hk; omega)), by omega, h4, by omega, by omega, by omega⟩
  clear HST HB4 HZ4' hle3 hR2 hR3 hg5 HL2 HL1
  go_upto_region 4 with (fail)
  go_loopw [] (fun wr => ∃ (k : Nat) (v : Value), k ≤ zs.length ∧ LogSt B W1 r r2 r3 lb a v k ((zs.take k).map fun y => Value.string y.bytes) lr p3 (zs.drop k) E1 E3 (exsE 32 E3 (zs.take k)) wr) (fun wr => lenAt wr ⟨r3, 0, none⟩)
  case atStart => exact ⟨0, _, by omega, K0⟩
  case round =>
    clear K0
    obtain ⟨k, v, hk, K0⟩ := hrel
    have HLN := Lib.hid K0.rd3.len
    obtain ⟨A3, c3, wh3, hb3, _⟩ := K0.rd3.ex
    have x0 := hb3.cell 0
    simp only [List.getElem?_toArray, List.getElem?_cons_zero, List.getElem?_cons_succ] at x0
    by_cases hlt : k < zs.length
    · have hq : (0 : Int) < ((zs.drop k).length : Int) := by rw [List.length_drop]; omega
      obtain ⟨hd1, hd2, hd3⟩ := drop_cons hlt
      obtain ⟨s, hs⟩ : ∃ s, (zs.getD k Itm.none_).bytes = s := ⟨_, rfl⟩
      have HD : Hid (((zs.drop k).headD Itm.none_) = zs.getD k Itm.none_) := Lib.hid hd1
      have HD2 := Lib.hid hd2; have HD3 := Lib.hid hd3; have HS := Lib.hid hs
      have hk4 : k < 4 := by have := HZ4.out; omega
      have HKZ := Lib.hid hlt
      clear hb3 hd1 hd2 hd3 hs hk hlt
      obtain ⟨zl, hzl⟩ : ∃ zl, (zs.drop k).length = zl := ⟨_, rfl⟩
      rw [hzl] at x0 hq HLN
      have HZL := Lib.hid hzl
      clear hzl
      obtain ⟨vA, vc, rfl⟩ := own_slice3 K0.own
      go_upto_region 5 with (fail)
      refine wp_region_held (S := fun _ => True) (by kernel_rfl) ?_
      change wpAnyH _ _ _ _ _ _ _ _ wr.drew
      replace K0 := K0.drew
      generalize hwr : wr.drew = u0 at *
      have HWR : Hid (lenAt wr ⟨r3, 0, none⟩ = zl) := HLN
      clear x0 HLN hwr
      obtain ⟨tsV, htsV⟩ : ∃ t, (zs.take k).map (fun y => Value.string y.bytes) = t := ⟨_, rfl⟩
      rw [htsV] at K0
      have HTS := Lib.hid htsV
      clear htsV
      refine held_take (i := 0) (v := .pointer (some ⟨lb, 1, none⟩)) (some 19) rfl (by kernel_rfl) (by kernel_rfl) (by kernel_rfl) (fun _ _ _ h => h) rfl (Or.inl ⟨by rfl, fun W hW => by go_simp⟩) trivial ?_
      simp only [Act.put, List.setIfInBounds_toArray, List.set_cons_zero, List.set_cons_succ]
      refine held_take (i := 2) (v := .pointer (some ⟨r3, 0, none⟩)) (some 21) rfl (by kernel_rfl) (by kernel_rfl) (by kernel_rfl) (fun _ _ _ h => h) rfl (Or.inl ⟨by rfl, fun W hW => by go_simp⟩) trivial ?_
      simp only [Act.put, List.setIfInBounds_toArray, List.set_cons_zero, List.set_cons_succ]
      refine held_two (i := 1) (j := 3) (by kernel_rfl) ?_ ?_
      · skip
        refine held_value (some 20) rfl rfl (.slice vA k vc) (exec_load1 38 (.tmp 19) rfl _ rfl _ _ Tryz.underlying38 rfl (K0.blk.cell 1)) rfl trivial ?_
        simp only [Act.put, List.setIfInBounds_toArray, List.set_cons_zero, List.set_cons_succ]
        refine held_one (i := 3) (by kernel_rfl) ?_
        refine held_enter (some 22) rfl rfl 100 #[.pointer (some ⟨r3, 0, none⟩), .int .i64 32] (exec_call2n 100 (.tmp 21) (.const (.int .i64 32)) _ rfl _ _ rfl rfl (enters_of Tryz.func100 (by kernel_rfl) rfl _ _)) rfl ((exactR_any 32 B r3 (zs.drop k) _ _ K0.rd3).mono ?_)
        rintro e u1 ⟨rfl, hrr, hgc⟩
        rw [HD.out, HD2.out] at hrr
        rw [HD.out, HS.out]
        have K1 := K0.read hgc hrr
        refine ⟨_, rfl, trivial, ?_⟩
        simp only [Act.put, List.setIfInBounds_toArray, List.set_cons_zero, List.set_cons_succ]
        refine held_one (i := 4) (by kernel_rfl) ?_
        refine held_value (some 23) rfl rfl (.slice (some ⟨u1.heap.size, 0, none⟩) 1 1) (by go_simp <;> rfl) rfl trivial ?_
        simp only [Act.put, List.setIfInBounds_toArray, List.set_cons_zero, List.set_cons_succ]
        have K2 := K1.kept (only_alloc (World.grownBy.refl u1 none) (.cells #[.string s] 9))
        obtain ⟨i0, hi, hz0, hzs, hzb⟩ := info_parts string_info
        obtain ⟨v', u2, hrun, hown', hgrow, hiff, hob⟩ := run_append_own_at (P := Tryz.prog) (u1.alloc (.cells #[.string s] 9)) (r3 + 1) 38 38 9 i0 _ 1 16 Tryz.underlying38 hi hz0 hzs hzb rfl (by decide) (.slice vA k vc) k (tsV) K2.own ⟨u1.heap.size, 0, none⟩ 1 1 [.string s] rfl (cell_one_new _ _ _) (by simp [Value.oneCell']) (by simp only [maxLen]; omega) (by omega) K2.sz
        obtain ⟨g', cap', rfl⟩ := ownsRow_succ hown'
        have K3 := K2.put hown' hgrow
        refine held_one (i := 5) (by kernel_rfl) ?_
        refine held_value (some 24) rfl rfl (.slice (some ⟨g', 0, none⟩) (k + 1) cap') (exec_append (.tmp 20) (.tmp 23) 38 rfl _ _ _ rfl rfl hrun) rfl trivial ?_
        simp only [Act.put, List.setIfInBounds_toArray, List.set_cons_zero, List.set_cons_succ]
        refine held_one (i := 6) (by kernel_rfl) ?_
        refine held_value (some 25) rfl rfl (.pointer (some ⟨lb, 1, none⟩)) (by go_simp <;> rfl) rfl trivial ?_
        simp only [Act.put, List.setIfInBounds_toArray, List.set_cons_zero, List.set_cons_succ]
        refine held_one (i := 7) (by kernel_rfl) ?_
        refine held_store rfl rfl (exec_storeS (.tmp 25) (.tmp 24) rfl rfl rfl (K2.blk.grown hgrow (fun e => by have := ownBlock_ge K2.own e.symm; have := K2.lo3; omega)) (by simp)) trivial ?_
        simp only [Act.put, List.setIfInBounds_toArray, List.set_cons_zero, List.set_cons_succ]
        refine wpAnyH_done (by kernel_rfl) ?_ _
        clear hrun hown' hgrow hob K2 hiff
        rw [← HTS.out, show [Value.string s] = [zs.getD k Itm.none_].map (fun y => Value.string y.bytes) by rw [← HS.out]; rfl, ← List.map_append, ← HD3.out, ← exsE_snoc, ← HD3.out] at K3
        go_wp2_with fail
        go_roundw
        case rel => exact ⟨k + 1, _, HKZ.out, K3⟩
        case measure => rw [K3.rd3.len, HWR.out, List.length_drop, ← HZL.out, List.length_drop]; have := HKZ.out; omega
      · skip
        refine held_enter (some 22) rfl rfl 100 #[.pointer (some ⟨r3, 0, none⟩), .int .i64 32] (exec_call2n 100 (.tmp 21) (.const (.int .i64 32)) _ rfl _ _ rfl rfl (enters_of Tryz.func100 (by kernel_rfl) rfl _ _)) rfl ((exactR_any 32 B r3 (zs.drop k) _ _ K0.rd3).mono ?_)
        rintro e u1 ⟨rfl, hrr, hgc⟩
        rw [HD.out, HD2.out] at hrr
        rw [HD.out, HS.out]
        have K1 := K0.read hgc hrr
        refine ⟨_, rfl, trivial, ?_⟩
        simp only [Act.put, List.setIfInBounds_toArray, List.set_cons_zero, List.set_cons_succ]
        refine held_two (i := 1) (j := 4) (by kernel_rfl) ?_ ?_
        · skip
          refine held_value (some 20) rfl rfl (.slice vA k vc) (exec_load1 38 (.tmp 19) rfl _ rfl _ _ Tryz.underlying38 rfl (K1.blk.cell 1)) rfl trivial ?_
          simp only [Act.put, List.setIfInBounds_toArray, List.set_cons_zero, List.set_cons_succ]
          refine held_one (i := 4) (by kernel_rfl) ?_
          refine held_value (some 23) rfl rfl (.slice (some ⟨u1.heap.size, 0, none⟩) 1 1) (by go_simp <;> rfl) rfl trivial ?_
          simp only [Act.put, List.setIfInBounds_toArray, List.set_cons_zero, List.set_cons_succ]
          have K2 := K1.kept (only_alloc (World.grownBy.refl u1 none) (.cells #[.string s] 9))
          obtain ⟨i0, hi, hz0, hzs, hzb⟩ := info_parts string_info
          obtain ⟨v', u2, hrun, hown', hgrow, hiff, hob⟩ := run_append_own_at (P := Tryz.prog) (u1.alloc (.cells #[.string s] 9)) (r3 + 1) 38 38 9 i0 _ 1 16 Tryz.underlying38 hi hz0 hzs hzb rfl (by decide) (.slice vA k vc) k (tsV) K2.own ⟨u1.heap.size, 0, none⟩ 1 1 [.string s] rfl (cell_one_new _ _ _) (by simp [Value.oneCell']) (by simp only [maxLen]; omega) (by omega) K2.sz
          obtain ⟨g', cap', rfl⟩ := ownsRow_succ hown'
          have K3 := K2.put hown' hgrow
          refine held_one (i := 5) (by kernel_rfl) ?_
          refine held_value (some 24) rfl rfl (.slice (some ⟨g', 0, none⟩) (k + 1) cap') (exec_append (.tmp 20) (.tmp 23) 38 rfl _ _ _ rfl rfl hrun) rfl trivial ?_
          simp only [Act.put, List.setIfInBounds_toArray, List.set_cons_zero, List.set_cons_succ]
          refine held_one (i := 6) (by kernel_rfl) ?_
          refine held_value (some 25) rfl rfl (.pointer (some ⟨lb, 1, none⟩)) (by go_simp <;> rfl) rfl trivial ?_
          simp only [Act.put, List.setIfInBounds_toArray, List.set_cons_zero, List.set_cons_succ]
          refine held_one (i := 7) (by kernel_rfl) ?_
          refine held_store rfl rfl (exec_storeS (.tmp 25) (.tmp 24) rfl rfl rfl (K2.blk.grown hgrow (fun e => by have := ownBlock_ge K2.own e.symm; have := K2.lo3; omega)) (by simp)) trivial ?_
          simp only [Act.put, List.setIfInBounds_toArray, List.set_cons_zero, List.set_cons_succ]
          refine wpAnyH_done (by kernel_rfl) ?_ _
          clear hrun hown' hgrow hob K2 hiff
          rw [← HTS.out, show [Value.string s] = [zs.getD k Itm.none_].map (fun y => Value.string y.bytes) by rw [← HS.out]; rfl, ← List.map_append, ← HD3.out, ← exsE_snoc, ← HD3.out] at K3
          go_wp2_with fail
          go_roundw
          case rel => exact ⟨k + 1, _, HKZ.out, K3⟩
          case measure => rw [K3.rd3.len, HWR.out, List.length_drop, ← HZL.out, List.length_drop]; have := HKZ.out; omega
        · skip
          refine held_value (some 23) rfl rfl (.slice (some ⟨u1.heap.size, 0, none⟩) 1 1) (by go_simp <;> rfl) rfl trivial ?_
          simp only [Act.put, List.setIfInBounds_toArray, List.set_cons_zero, List.set_cons_succ]
          have K2 := K1.kept (only_alloc (World.grownBy.refl u1 none) (.cells #[.string s] 9))
          refine held_one (i := 1) (by kernel_rfl) ?_
          refine held_value (some 20) rfl rfl (.slice vA k vc) (exec_load1 38 (.tmp 19) rfl _ rfl _ _ Tryz.underlying38 rfl (K2.blk.cell 1)) rfl trivial ?_
          simp only [Act.put, List.setIfInBounds_toArray, List.set_cons_zero, List.set_cons_succ]
          obtain ⟨i0, hi, hz0, hzs, hzb⟩ := info_parts string_info
          obtain ⟨v', u2, hrun, hown', hgrow, hiff, hob⟩ := run_append_own_at (P := Tryz.prog) (u1.alloc (.cells #[.string s] 9)) (r3 + 1) 38 38 9 i0 _ 1 16 Tryz.underlying38 hi hz0 hzs hzb rfl (by decide) (.slice vA k vc) k (tsV) K2.own ⟨u1.heap.size, 0, none⟩ 1 1 [.string s] rfl (cell_one_new _ _ _) (by simp [Value.oneCell']) (by simp only [maxLen]; omega) (by omega) K2.sz
          obtain ⟨g', cap', rfl⟩ := ownsRow_succ hown'
          have K3 := K2.put hown' hgrow
          refine held_one (i := 5) (by kernel_rfl) ?_
          refine held_value (some 24) rfl rfl (.slice (some ⟨g', 0, none⟩) (k + 1) cap') (exec_append (.tmp 20) (.tmp 23) 38 rfl _ _ _ rfl rfl hrun) rfl trivial ?_
          simp only [Act.put, List.setIfInBounds_toArray, List.set_cons_zero, List.set_cons_succ]
          refine held_one (i := 6) (by kernel_rfl) ?_
          refine held_value (some 25) rfl rfl (.pointer (some ⟨lb, 1, none⟩)) (by go_simp <;> rfl) rfl trivial ?_
          simp only [Act.put, List.setIfInBounds_toArray, List.set_cons_zero, List.set_cons_succ]
          refine held_one (i := 7) (by kernel_rfl) ?_
          refine held_store rfl rfl (exec_storeS (.tmp 25) (.tmp 24) rfl rfl rfl (K2.blk.grown hgrow (fun e => by have := ownBlock_ge K2.own e.symm; have := K2.lo3; omega)) (by simp)) trivial ?_
          simp only [Act.put, List.setIfInBounds_toArray, List.set_cons_zero, List.set_cons_succ]
          refine wpAnyH_done (by kernel_rfl) ?_ _
          clear hrun hown' hgrow hob K2 hiff
          rw [← HTS.out, show [Value.string s] = [zs.getD k Itm.none_].map (fun y => Value.string y.bytes) by rw [← HS.out]; rfl, ← List.map_append, ← HD3.out, ← exsE_snoc, ← HD3.out] at K3
          go_wp2_with fail
          go_roundw
          case rel => exact ⟨k + 1, _, HKZ.out, K3⟩
          case measure => rw [K3.rd3.len, HWR.out, List.length_drop, ← HZL.out, List.length_drop]; have := HKZ.out; omega
    · obtain rfl : k = zs.length := by omega
      have hT : zs.take zs.length = zs := List.take_of_length_le (Nat.le_refl _)
      have hD : zs.drop zs.length = [] := List.drop_eq_nil_of_le (Nat.le_refl _)
      rw [hT, hD, HE4.out] at K0
      rw [hD] at x0
      clear hT hD HLN hb3 hk hlt x0
      obtain ⟨A3, c3, wh3, hb3, _⟩ := K0.rd3.ex
      have x0 := hb3.cell 0; have x1 := hb3.cell 1
      obtain ⟨A2, c2, wh2, hb2, _⟩ := K0.rd2.ex
      have y1 := hb2.cell 1; have yf := hb2.frozen 1
      simp only [List.getElem?_toArray, List.getElem?_cons_zero, List.getElem?_cons_succ, List.length_nil] at x0 x1 y1
      have hg6 := only_setR (World.grownBy.refl wr (some r2)) 1 (errV wh3 E4)
      have hR6 : RdR B (wr.setCell ⟨r2, 1, none⟩ (errV wh3 E4)) r2 p3 E4 := K0.rd2.err
      have hK : Hid (LogSt B W1 r r2 r3 lb a v zs.length (zs.map fun y => Value.string y.bytes) lr p3 [] E1 E4 E4 (wr.setCell ⟨r2, 1, none⟩ (errV wh3 E4))) := by
        have := K0.lo; have := K0.lo2; have := K0.lo3; have := K0.lt; have hle := K0.rd2.le; have := hg6.size; have := K0.sz
        obtain ⟨A, cc, rfl⟩ := own_slice3 K0.own
        exact Lib.hid ⟨K0.blk.grown hg6 (by simp; omega), K0.own.kept hg6 (by cases A; exact .inl rfl; exact .inr (fun e => by have := ownBlock_ge K0.own e; omega)), K0.rd.kept hg6 (by simp; omega) (fun k hk => by cases hk; exact hle), hR6, K0.rd3.kept hg6 (by simp; omega) (fun k hk => by cases hk; exact hle),
          grown_self K0.grown hg6 (fun k hk => .inr (by cases hk; omega)), K0.lo, K0.lo2, K0.lo3, K0.lt, by omega⟩
      clear hb2 hb3 hg6 hR6 K0
      go_upto_region 6 with (fail)
      refine wp_region_list ?_
      iterate 21 go_step
      refine wp_store_err (.tmp 32) (.tmp 30) rfl r2 wh3 E4 rfl rfl _ y1 yf ?_
      generalize wr.setCell ⟨r2, 1, none⟩ (errV wh3 E4) = W6 at *
      simp only [Act.put]
      clear x0 x1 y1 yf
      go_wp2_with fail
      refine (HL3 W6 r2 hK.out.rd2).out.mono ?_
      rintro e w7 ⟨rfl, hR7, hg7⟩
      obtain ⟨A, cc, rfl⟩ := own_slice3 hK.out.own
      have HK7 : Hid (Blk w7 lb 40 #[.string a, .slice A zs.length cc, .string ⟨#[]⟩] ∧ w7.ownsRow (r3 + 1) 9 1 (.slice A zs.length cc) zs.length (zs.map fun y => Value.string y.bytes) ∧ RdR B w7 r lr E1 ∧ RdR B w7 r2 p4 F ∧ W1.grownBy w7 (some r) ∧ r2 < lb ∧ lb < r3 ∧ r3 + 1 ≤ w7.heap.size) := by
        have K0 := hK.out
        have := K0.lo; have := K0.lo2; have := K0.lo3; have := K0.lt; have hle := K0.rd2.le; have := hg7.size; have := K0.sz
        exact Lib.hid ⟨K0.blk.grown hg7 (by simp; omega), K0.own.kept hg7 (by cases A; exact .inl rfl; exact .inr (fun e => by have := ownBlock_ge K0.own e; omega)), K0.rd.kept hg7 (by simp; omega) (fun k hk => by cases hk; exact hle), hR7,
          grown_self K0.grown hg7 (fun k hk => .inr (by cases hk; omega)), K0.lo2, K0.lo3, by omega⟩
      clear hK hR7 hg7
      have b0 := HK7.out.1.cell 0; have b1 := HK7.out.1.cell 1; have b2 := HK7.out.1.cell 2; have bf := HK7.out.1.frozen 2
      simp only [List.getElem?_toArray, List.getElem?_cons_zero, List.getElem?_cons_succ] at b0 b1 b2
      have HK8 : Hid (Blk (w7.setCell ⟨lb, 2, none⟩ (.string d)) lb 40 #[.string a, .slice A zs.length cc, .string d] ∧ (w7.setCell ⟨lb, 2, none⟩ (.string d)).ownsRow (r3 + 1) 9 1 (.slice A zs.length cc) zs.length (zs.map fun y => Value.string y.bytes) ∧ RdR B (w7.setCell ⟨lb, 2, none⟩ (.string d)) r lr E1 ∧ RdR B (w7.setCell ⟨lb, 2, none⟩ (.string d)) r2 p4 F ∧ W1.grownBy (w7.setCell ⟨lb, 2, none⟩ (.string d)) (some r) ∧ r2 < lb ∧ lb < r3 ∧ r3 + 1 ≤ (w7.setCell ⟨lb, 2, none⟩ (.string d)).heap.size) := by
        obtain ⟨k1, k2, k3, k4, k5, k6, k7, k8⟩ := HK7.out
        have hg8 := only_setR (World.grownBy.refl w7 (some lb)) 2 (.string d)
        have h1 := HLE2.out; have h2 := HLT.out; have h3 := k4.le; have h4 := hg8.size; have h5 := HZ.out
        exact Lib.hid ⟨by simpa using k1.set_ 2 (.string d), k2.kept hg8 (by cases A; exact .inl rfl; exact .inr (fun e => by have := ownBlock_ge k2 e; omega)), k3.kept hg8 (by simp; omega) (fun k hk => by cases hk; omega), k4.kept hg8 (by simp; omega) (fun k hk => by cases hk; omega),
          grown_self k5 hg8 (fun k hk => .inr (by cases hk; omega)), k6, k7, by omega⟩
      clear HK7
      go_upto_region 8 with (fail)
      generalize w7.setCell ⟨lb, 2, none⟩ (.string d) = W8 at *
      clear b0 b1 b2 bf
      obtain ⟨A2, c2, wh2, hb2, _⟩ := HK8.out.2.2.2.1.ex
      have x1 := hb2.cell 1
      obtain ⟨A1, c1, wh1, hb1, _⟩ := HK8.out.2.2.1.ex
      have y1 := hb1.cell 1; have yf := hb1.frozen 1
      simp only [List.getElem?_toArray, List.getElem?_cons_zero, List.getElem?_cons_succ] at x1 y1
      have HK9 : Hid (Blk (W8.setCell ⟨r, 1, none⟩ (errV wh2 F)) lb 40 #[.string a, .slice A zs.length cc, .string d] ∧ (W8.setCell ⟨r, 1, none⟩ (errV wh2 F)).ownsRow (r3 + 1) 9 1 (.slice A zs.length cc) zs.length (zs.map fun y => Value.string y.bytes) ∧ RdR B (W8.setCell ⟨r, 1, none⟩ (errV wh2 F)) r lr F ∧ W1.grownBy (W8.setCell ⟨r, 1, none⟩ (errV wh2 F)) (some r) ∧ g0 < r3) := by
        obtain ⟨k1, k2, k3, k4, k5, k6, k7, k8⟩ := HK8.out
        have hg9 := only_setR (World.grownBy.refl W8 (some r)) 1 (errV wh2 F)
        have h1 := HLE2.out; have h2 := HLT.out
        exact Lib.hid ⟨k1.grown hg9 (by simp; omega), k2.kept hg9 (by cases A; exact .inl rfl; exact .inr (fun e => by have := ownBlock_ge k2 e; omega)), k3.err, grown_self k5 hg9 (fun k hk => .inl hk), by omega⟩
      clear HK8 hb2 hb1
      refine wp_region_list ?_
      iterate 21 go_step
      refine wp_store_err (.tmp 42) (.tmp 40) rfl r wh2 F rfl rfl _ y1 yf ?_
      generalize W8.setCell ⟨r, 1, none⟩ (errV wh2 F) = W9 at *
      simp only [Act.put]
      clear x1 y1 yf
      have b0 := HK9.out.1.cell 0; have b1 := HK9.out.1.cell 1; have b2 := HK9.out.1.cell 2
      have hBg : Blk W9 g0 40 #[.string ⟨#[]⟩, .slice none 0 0, .string ⟨#[]⟩] := HB1.out.grown HK9.out.2.2.2.1 (by have := HLT.out; simp; omega)
      have e0 := hBg.cell 0; have e1 := hBg.cell 1; have e2 := hBg.cell 2
      have f0 := hBg.frozen 0; have f1 := hBg.frozen 1; have f2 := hBg.frozen 2
      simp only [List.getElem?_toArray, List.getElem?_cons_zero, List.getElem?_cons_succ] at b0 b1 b2 e0 e1 e2
      have HEND : Hid (Blk (((W9.setCell ⟨g0, 0, none⟩ (.string a)).setCell ⟨g0, 1, none⟩ (.slice A zs.length cc)).setCell ⟨g0, 2, none⟩ (.string d)) g0 40 #[.string a, .slice A zs.length cc, .string d] ∧
          TopR (fun g => w.heap.size ≤ g) (((W9.setCell ⟨g0, 0, none⟩ (.string a)).setCell ⟨g0, 1, none⟩ (.slice A zs.length cc)).setCell ⟨g0, 2, none⟩ (.string d)) V.topics A V.topics.length ∧ (A = none → V.topics.length = 0 ∧ cc = 0) ∧
          RdR B (((W9.setCell ⟨g0, 0, none⟩ (.string a)).setCell ⟨g0, 1, none⟩ (.slice A zs.length cc)).setCell ⟨g0, 2, none⟩ (.string d)) r lr F ∧ w.grownBy (((W9.setCell ⟨g0, 0, none⟩ (.string a)).setCell ⟨g0, 1, none⟩ (.slice A zs.length cc)).setCell ⟨g0, 2, none⟩ (.string d)) (some r)) := by
        obtain ⟨k1, k2, k3, k4, k5⟩ := HK9.out
        have hgc := only_setR (only_setR (only_setR (World.grownBy.refl W9 (some g0)) 0 (.string a)) 1 (.slice A zs.length cc)) 2 (.string d)
        have h1 := HLE2.out; have h2 := HLT.out; have h3 := HW.out; have h4 := HZ.out; have h5 := k3.le
        have hv := HV.out
        subst hv
        have k2 := k2.kept hgc (by cases A; exact .inl rfl; exact .inr (fun e => by have := ownBlock_ge k2 e; omega))
        rw [show (zs.map fun y => Value.string y.bytes) = (zs.map Itm.bytes).map Value.string by rw [List.map_map]; rfl] at k2
        obtain ⟨A', c', hA, hT, hN⟩ := own_top k2
        cases hA
        refine Lib.hid ⟨by simpa using ((hBg.set_ 0 (.string a)).set_ 1 (.slice A zs.length cc)).set_ 2 (.string d), ?_, ?_, k3.kept hgc (by simp; omega) (fun k hk => by cases hk; omega), ?_⟩
        · rw [show (zs.map Itm.bytes).length = zs.length by simp]
          exact ⟨hT.1, fun h0 => by obtain ⟨g, off, p1, p2, p3⟩ := hT.2 h0; exact ⟨g, off, p1, by omega, p3⟩⟩
        · rw [show (zs.map Itm.bytes).length = zs.length by simp]; exact hN
        · exact grown_self (grown_self (grown_row HG1.out (some r)) k4 (fun k hk => .inl hk)) hgc (fun k hk => .inr (by cases hk; omega))
      clear HK9 hBg HB1 HG1 HR1
      go_wp2_with fail
      refine bodyPost_ret (results_cell1 (fn := Tryz.f65) rfl _ _ _ _ rfl (load_logF HEND.out.1)) rfl ?_
      obtain ⟨k1, k2, k3, k4, k5⟩ := HEND.out
      have hv : logC V A cc = #[.string a, .slice A zs.length cc, .string d] := by rw [HV.out]; simp [logC]
      exact ⟨A, cc, by rw [hv], k2, k3, k4, k5⟩
end Go.Proofs.YthalohloneojlaaGreatDoor
/- Receipts: what reading a receipt's parts answers; the row of logs while it is made. -/
namespace Go.Proofs.YthalohloneojlaaGreatDoor
open Go.RowKit Go.Shelf
set_option linter.unusedVariables false
set_option linter.unusedSimpArgs false

/-- the errors of logs, one behind the other -/
def logsE (E : Int) (zs : List Itm) : Int := zs.foldl logE E
theorem logsE_snoc (E : Int) (zs : List Itm) (y : Itm) : logsE E (zs ++ [y]) = logE (logsE E zs) y := by simp [logsE]
/-- the parts behind the logs: whether there are any, two numbers, the error -/
def ofF (E : Int) (l : List Itm) : Bool := !l.isEmpty
def ofN (l : List Itm) : Nat := if l.isEmpty then 0 else numV (l.headD Itm.none_).list (l.headD Itm.none_).bytes
def ofE1 (E : Int) (l : List Itm) : Int := if l.isEmpty then E else fst1 E (numE (l.headD Itm.none_).list (l.headD Itm.none_).bytes)
/-- the version's error -/
def ofE2 (E : Int) (l : List Itm) : Int := if l.isEmpty then E else if numV (l.headD Itm.none_).list (l.headD Itm.none_).bytes = 1 then fst1 E (numE (l.headD Itm.none_).list (l.headD Itm.none_).bytes) else fst1 (fst1 E (numE (l.headD Itm.none_).list (l.headD Itm.none_).bytes)) 2
/-- what reading a receipt's parts answers: the receipt, the error -/
def ofX (kd : Int) (l : List Itm) : Rcp := ⟨kd, yesVI (l.headD Itm.none_), numV (l.tail.headD Itm.none_).list (l.tail.headD Itm.none_).bytes, (rowL 0 16 (l.tail.tail.headD Itm.none_)).map logL, !l.tail.tail.tail.isEmpty, ofN l.tail.tail.tail, ofN l.tail.tail.tail.tail⟩
def ofE (E : Int) (l : List Itm) : Int :=
  ofE2 (ofE1 (logsE (fst1 (fst1 (fst1 E (yesEI (l.headD Itm.none_))) (numE (l.tail.headD Itm.none_).list (l.tail.headD Itm.none_).bytes)) (rowE 0 16 (l.tail.tail.headD Itm.none_))) (rowL 0 16 (l.tail.tail.headD Itm.none_))) l.tail.tail.tail) l.tail.tail.tail.tail
/-- a row of logs as cells -/
def logsV (xs : List LogV) (vs : List (Option Addr × Nat)) : List Value := (xs.zip vs).flatMap fun p => [.string p.1.addr, .slice p.2.1 p.1.topics.length p.2.2, .string p.1.data]
theorem logsV_snoc (xs : List LogV) (vs : List (Option Addr × Nat)) (h : xs.length = vs.length) (x : LogV) (T : Option Addr) (tc : Nat) : logsV (xs ++ [x]) (vs ++ [(T, tc)]) = logsV xs vs ++ [.string x.addr, .slice T x.topics.length tc, .string x.data] := by
  unfold logsV
  rw [List.zip_append h, List.flatMap_append]
  rfl
theorem logsV_get (xs : List LogV) (vs : List (Option Addr × Nat)) (h : xs.length = vs.length) (i : Nat) (hi : i < xs.length) (q : Nat) (hq : q < 3) : (logsV xs vs)[i * 3 + q]? = [Value.string (xs.getD i LogV.none_).addr, .slice (vs.getD i (none, 0)).1 (xs.getD i LogV.none_).topics.length (vs.getD i (none, 0)).2, .string (xs.getD i LogV.none_).data][q]? := by
  induction xs generalizing vs i with
  | nil => cases hi
  | cons x xs ih =>
    cases vs with
    | nil => cases h
    | cons v vs =>
      have e : logsV (x :: xs) (v :: vs) = [.string x.addr, .slice v.1 x.topics.length v.2, .string x.data] ++ logsV xs vs := rfl
      rw [e]
      cases i with
      | zero => rw [Nat.zero_mul, Nat.zero_add, List.getElem?_append_left (by simpa using hq)]; rfl
      | succ i =>
        rw [List.getElem?_append_right (by simp; omega), show (i + 1) * 3 + q - [Value.string x.addr, .slice v.1 x.topics.length v.2, .string x.data].length = i * 3 + q by simp; omega, ih vs (by simpa using h) i (by simpa using hi)]
        rfl
theorem TopR.lt {S : Nat → Prop} {W : World} {ts : List ByteArray} {T : Option Addr} {n : Nat} (h : TopR S W ts T n) : TopR (fun g => S g ∧ g < W.heap.size) W ts T n := by
  refine ⟨h.1, fun h0 => ?_⟩
  obtain ⟨g, off, a, b, c⟩ := h.2 h0
  refine ⟨g, off, a, ⟨b, ?_⟩, c⟩
  have := c 0 h0
  rcases Nat.lt_or_ge g W.heap.size with h1 | h1
  · exact h1
  · unfold World.cell? at this
    rw [Array.getElem?_eq_none h1] at this
    cases this
theorem TopR.weak {S S' : Nat → Prop} {W : World} {ts : List ByteArray} {T : Option Addr} {n : Nat} (h : TopR S W ts T n) (hs : ∀ g, S g → S' g) : TopR S' W ts T n :=
  ⟨h.1, fun h0 => by obtain ⟨g, off, a, b, c⟩ := h.2 h0; exact ⟨g, off, a, hs g b, c⟩⟩
theorem TopR.reads {S : Nat → Prop} {W : World} {ts : List ByteArray} {T : Option Addr} {n : Nat} (h : TopR S W ts T n) : Reads W W.heap.size 1 T n (ts.map Value.string) := by
  obtain ⟨hl, hh⟩ := h.lt
  refine ⟨by simp [hl], fun h0 => ?_⟩
  obtain ⟨g, off, a, b, c⟩ := hh h0
  refine ⟨_, a, b.2, fun j u hu => ?_⟩
  have hj : j < ts.length := by
    have := (List.getElem?_eq_some_iff.1 hu).1
    simpa using this
  have e : (⟨g, off, none⟩ : Addr).add j = ⟨g, off + j, none⟩ := by
    unfold Addr.add
    by_cases hj : j = 0
    · subst hj; simp
    · simp [hj]
  rw [e, c j (by omega)]
  rw [List.getElem?_map, List.getElem?_eq_getElem hj] at hu
  rw [List.getD_eq_getElem?_getD, List.getElem?_eq_getElem hj]
  simpa using hu
/-- logs as they lie, in blocks of a set -/
def LogsS (S : Nat → Prop) (W : World) (ls : List LogV) (A : Option Addr) (n : Nat) : Prop :=
  ls.length = n ∧ (0 < n → ∃ g off, A = some ⟨g, off, none⟩ ∧ S g ∧ ∀ i, i < n → ∃ T tc, W.cell? ⟨g, off + i * 3, none⟩ = some (.string (ls.getD i LogV.none_).addr) ∧ W.cell? ⟨g, off + i * 3 + 1, none⟩ = some (.slice T (ls.getD i LogV.none_).topics.length tc) ∧ W.cell? ⟨g, off + i * 3 + 2, none⟩ = some (.string (ls.getD i LogV.none_).data) ∧
    TopR S W (ls.getD i LogV.none_).topics T (ls.getD i LogV.none_).topics.length ∧ (ls.getD i LogV.none_).topics.length ≤ 9223372036854775807 ∧ (T = none → (ls.getD i LogV.none_).topics.length = 0 ∧ tc = 0))
theorem LogsS.keep {S : Nat → Prop} {W W' : World} {ls : List LogV} {A : Option Addr} {n : Nat} (h : LogsS S W ls A n) (hk : ∀ p : Addr, S p.block → ∀ u, W.cell? p = some u → W'.cell? p = some u) : LogsS S W' ls A n := by
  refine ⟨h.1, fun h0 => ?_⟩
  obtain ⟨g, off, h1, h2, h3⟩ := h.2 h0
  refine ⟨g, off, h1, h2, fun i hi => ?_⟩
  obtain ⟨T, tc, a, b, c, d, e, f⟩ := h3 i hi
  exact ⟨T, tc, hk _ h2 _ a, hk _ h2 _ b, hk _ h2 _ c, d.keep hk, e, f⟩
theorem LogsS.weak {S S' : Nat → Prop} {W : World} {ls : List LogV} {A : Option Addr} {n : Nat} (h : LogsS S W ls A n) (hs : ∀ g, S g → S' g) : LogsS S' W ls A n := by
  refine ⟨h.1, fun h0 => ?_⟩
  obtain ⟨g, off, h1, h2, h3⟩ := h.2 h0
  refine ⟨g, off, h1, hs g h2, fun i hi => ?_⟩
  obtain ⟨T, tc, a, b, c, d, e, f⟩ := h3 i hi
  exact ⟨T, tc, a, b, c, d.weak hs, e, f⟩
theorem LogsS.toR {S : Nat → Prop} {W : World} {ls : List LogV} {A : Option Addr} {n : Nat} (h : LogsS S W ls A n) : LogsR W.heap.size W ls A n := by
  refine ⟨h.1, fun h0 => ?_⟩
  obtain ⟨g, off, h1, h2, h3⟩ := h.2 h0
  have hlt : g < W.heap.size := by
    obtain ⟨T, tc, a, _⟩ := h3 0 h0
    rcases Nat.lt_or_ge g W.heap.size with h1 | h1
    · exact h1
    · unfold World.cell? at a
      rw [Array.getElem?_eq_none h1] at a
      cases a
  refine ⟨g, off, h1, hlt, fun i hi => ?_⟩
  obtain ⟨T, tc, a, b, c, d, e, f⟩ := h3 i hi
  exact ⟨T, tc, a, b, c, d.reads, e, f⟩
/-- what stands while a receipt's logs are read -/
structure OfSt (B : Nat) (w0 : World) (r r2 xb : Nat) (kd : Int) (st : Bool) (gas : Nat) (v : Value) (k : Nat) (ls : List LogV) (vs : List (Option Addr × Nat)) (lr l2 : List Itm) (E E2 : Int) (u : World) : Prop where
  blk : Blk u xb 25 #[.int .i64 kd, .bool st, .int .u64 (gas : Int), v, .bool false, .int .u64 0, .int .u64 0]
  own : u.ownsRow (r2 + 1) 40 3 v k (logsV ls vs)
  lx : ls.length = k
  lv : vs.length = k
  top : ∀ i, i < k → TopR (fun g => r2 + 1 ≤ g ∧ v.ownBlock ≠ some g) u (ls.getD i LogV.none_).topics (vs.getD i (none, 0)).1 (ls.getD i LogV.none_).topics.length ∧ ((vs.getD i (none, 0)).1 = none → (ls.getD i LogV.none_).topics.length = 0 ∧ (vs.getD i (none, 0)).2 = 0)
  rd : RdR B u r lr E
  rd2 : RdR B u r2 l2 E2
  grown : w0.grownBy u (some r)
  lo : w0.heap.size ≤ xb
  lo3 : xb < r2
  lt : r < w0.heap.size
  sz : r2 + 1 ≤ u.heap.size
section
variable {B : Nat} {w0 u u' : World} {r r2 xb k : Nat} {kd : Int} {st : Bool} {gas : Nat} {v : Value} {ls : List LogV} {vs : List (Option Addr × Nat)} {lr l2 : List Itm} {E E2 : Int}
theorem OfSt.kept (h : OfSt B w0 r r2 xb kd st gas v k ls vs lr l2 E E2 u) (hg : u.grownBy u' none) : OfSt B w0 r r2 xb kd st gas v k ls vs lr l2 E E2 u' := by
  obtain ⟨A, c, rfl⟩ := own_slice3 h.own
  have := hg.size; have := h.sz
  exact ⟨h.blk.grown hg (by simp), h.own.kept hg (by cases A; exact .inl rfl; exact .inr (by simp [Value.ownBlock])), h.lx, h.lv, fun i hi => ⟨(h.top i hi).1.keep fun p _ c hc => hg.cell hc (by simp), (h.top i hi).2⟩, h.rd.kept hg (by simp) (by simp), h.rd2.kept hg (by simp) (by simp), grown_self h.grown (grown_row hg (some r)) (fun k hk => .inl hk), h.lo, h.lo3, h.lt, by omega⟩
theorem OfSt.drew (h : OfSt B w0 r r2 xb kd st gas v k ls vs lr l2 E E2 u) : OfSt B w0 r r2 xb kd st gas v k ls vs lr l2 E E2 u.drew := h.kept (only_drew (World.grownBy.refl u none))
theorem OfSt.read {l2' : List Itm} {E2' : Int} (h : OfSt B w0 r r2 xb kd st gas v k ls vs lr l2 E E2 u) (hg : u.grownBy u' (some r2)) (hR : RdR B u' r2 l2' E2') : OfSt B w0 r r2 xb kd st gas v k ls vs lr l2' E E2' u' := by
  obtain ⟨A, c, rfl⟩ := own_slice3 h.own
  have := hg.size; have := h.sz; have := h.lo; have := h.lo3; have := h.lt; have := h.rd2.le
  exact ⟨h.blk.grown hg (by simp; omega), h.own.kept hg (by cases A; exact .inl rfl; exact .inr (fun e => by have := ownBlock_ge h.own e; omega)), h.lx, h.lv, fun i hi => ⟨(h.top i hi).1.keep fun p hp c hc => hg.cell hc (fun e => by have := hp.1; injection e with e; omega), (h.top i hi).2⟩, h.rd.kept hg (by simp; omega) (fun k hk => by cases hk; assumption), hR, grown_self h.grown hg (fun k hk => .inr (by cases hk; omega)), h.lo, h.lo3, h.lt, by omega⟩
theorem OfSt.put {g' cap' tc : Nat} {T : Option Addr} {u2 : World} {x : LogV} (h : OfSt B w0 r r2 xb kd st gas v k ls vs lr l2 E E2 u) (hT : TopR (fun g => r2 + 1 ≤ g ∧ v.ownBlock ≠ some g) u x.topics T x.topics.length) (hN : T = none → x.topics.length = 0 ∧ tc = 0)
    (hown : u2.ownsRow (r2 + 1) 40 3 (.slice (some ⟨g', 0, none⟩) (k + 1) cap') (k + 1) (logsV ls vs ++ [.string x.addr, .slice T x.topics.length tc, .string x.data])) (hg : u.grownBy u2 v.ownBlock)
    (hob : (Value.slice (some ⟨g', 0, none⟩) (k + 1) cap').ownBlock = v.ownBlock ∨ (Value.slice (some ⟨g', 0, none⟩) (k + 1) cap').ownBlock = some u.heap.size) :
    OfSt B w0 r r2 xb kd st gas (.slice (some ⟨g', 0, none⟩) (k + 1) cap') (k + 1) (ls ++ [x]) (vs ++ [(T, tc)]) lr l2 E E2 (u2.setCell ⟨xb, 3, none⟩ (.slice (some ⟨g', 0, none⟩) (k + 1) cap')) := by
  have hge : r2 + 1 ≤ g' := ownBlock_ge hown rfl
  have hs := hg.size; have := h.sz; have := h.lo; have := h.lo3; have := h.lt; have := h.rd2.le; have := h.rd.le
  have hob' : ∀ {g}, v.ownBlock = some g → r2 + 1 ≤ g := fun e => ownBlock_ge h.own e
  have hb := (h.blk.grown hg (fun e => by have := hob' e.symm; omega)).set_ 3 (.slice (some ⟨g', 0, none⟩) (k + 1) cap')
  have hgs : u2.grownBy (u2.setCell ⟨xb, 3, none⟩ (.slice (some ⟨g', 0, none⟩) (k + 1) cap')) (some xb) := only_setR (World.grownBy.refl u2 _) 3 _
  have hB : B ≤ xb := by omega
  have key : ∀ ts T' n, TopR (fun g => r2 + 1 ≤ g ∧ v.ownBlock ≠ some g) u ts T' n → TopR (fun g => r2 + 1 ≤ g ∧ (Value.slice (some ⟨g', 0, none⟩) (k + 1) cap').ownBlock ≠ some g) (u2.setCell ⟨xb, 3, none⟩ (.slice (some ⟨g', 0, none⟩) (k + 1) cap')) ts T' n := by
    intro ts T' n hs
    refine (hs.lt.keep fun p hp c hc => ?_).weak fun g hS => ⟨hS.1.1, fun e => ?_⟩
    · rw [World.cell?_setCell_far _ _ _ _ (by have := hp.1.1; show xb ≠ p.block; omega)]
      exact hg.cell hc (fun e => hp.1.2 e.symm)
    · rcases hob with e2 | e2
      · exact hS.1.2 (e2.symm.trans e)
      · have := e2.symm.trans e
        have := Option.some.inj this
        have := hS.2
        omega
  refine ⟨by simpa using hb, own_far (by rw [logsV_snoc ls vs (by rw [h.lx, h.lv])]; exact hown) (p := ⟨xb, 3, none⟩) (by show g' ≠ xb; omega) _, by simp [h.lx], by simp [h.lv], fun i hi => ?_, ?_, ?_, ?_, h.lo, h.lo3, h.lt, by have := hgs.size; omega⟩
  · by_cases hij : i < k
    · rw [List.getD_eq_getElem?_getD, List.getElem?_append_left (by rw [h.lx]; exact hij), ← List.getD_eq_getElem?_getD, List.getD_eq_getElem?_getD (l := vs ++ [(T, tc)]), List.getElem?_append_left (by rw [h.lv]; exact hij), ← List.getD_eq_getElem?_getD]
      exact ⟨key _ _ _ (h.top i hij).1, (h.top i hij).2⟩
    · obtain rfl : i = k := by omega
      rw [List.getD_eq_getElem?_getD, List.getElem?_append_right (by rw [h.lx]; omega), List.getD_eq_getElem?_getD (l := vs ++ [(T, tc)]), List.getElem?_append_right (by rw [h.lv]; omega), h.lx, h.lv, Nat.sub_self]
      exact ⟨key _ _ _ hT, hN⟩
  · exact (h.rd.kept hg (fun e => by have := hob' e.symm; omega) (fun k hk => by have := hob' hk; omega)).kept hgs (by simp; omega) (fun k hk => by cases hk; exact hB)
  · exact (h.rd2.kept hg (fun e => by have := hob' e.symm; omega) (fun k hk => by have := hob' hk; omega)).kept hgs (by simp; omega) (fun k hk => by cases hk; exact hB)
  · exact grown_self (grown_self h.grown hg (fun j hj => .inr (by have := hob' hj; omega))) hgs (fun j hj => .inr (by cases hj; omega))
end
theorem logL_topics (y : Itm) : (logL y).topics.length ≤ 4 := by
  have := rowL_le 0 4 ((rowL 3 3 y).tail.headD Itm.none_)
  simp only [logL, List.length_map]
  omega
theorem exec_storeL {W : World} {a : Act} {o : Oper} {g off : Nat} {cur : Array Value} {t : TypeId} {A : Option Addr} {n c : Nat} (x y : Operand) (ho : o.op = .store 23 x y) (hx : a.eval x = .pointer (some ⟨g, off, none⟩)) (hy : a.eval y = .slice A n c)
    (hb : Blk W g t cur) (hsz : off < cur.size) : (execOp a.eval o).run Tryz.prog W = .ok .skip (W.setCell ⟨g, off, none⟩ (.slice A n c)) := by
  have c0 : W.cell? ⟨g, off, none⟩ = some cur[off] := by rw [hb.cell]; exact Array.getElem?_eq_getElem (by omega)
  have f0 := hb.frozen off
  have hu := Tryz.underlying23
  have hagg := Tryz.isAgg23
  unfold execOp
  simp only [ho, hx, hy]
  simp [go_sem, c0, f0]
/-- a method value is called -/
theorem exec_callm {P : Program} {a : Act} {o : Oper} {W : World} (f : FuncId) (y : Operand) (ho : o.op = .call { callee := .value y, args := #[], argTypes := #[] }) (v : Value) (hy : a.eval y = .func (.func f) #[v] #[])
    (hf : (callFunc f #[v]).run P W = .ok (.enter f #[v]) W) : (execOp a.eval o).run P W = .ok (.enter f #[v]) W := by
  unfold execOp
  generalize a.eval = ev at *
  simp only [ho]
  simp [resolve, invoke, go_sem, hy, hf]
theorem log_info : (Tryz.prog.info? 40).map (fun i => (i.zero, i.size, i.bytes)) = some (some (.agg #[.string .empty, .slice none 0 0, .string .empty]), 3, 56) := by kernel_rfl
theorem load_rcF {w : World} {g : Nat} {a b c d e f h : Value} (hg : Blk w g 25 #[a, b, c, d, e, f, h]) : (loadVar 25 ⟨g, 0, none⟩).run Tryz.prog w = .ok (.agg #[a, b, c, d, e, f, h]) w :=
  run_loadVar_row w g 25 25 _ (0, 0) _ hg Tryz.underlying25 rfl (by kernel_rfl)
end Go.Proofs.YthalohloneojlaaGreatDoor
/- Receipts: the reader: a receipt's parts (what stands behind the logs).  Printed by wip/genRcpI.py -/
namespace Go.Proofs.YthalohloneojlaaGreatDoor
open Go.RowKit Go.Shelf
set_option linter.unusedVariables false
set_option linter.unusedSimpArgs false

theorem OfSt.new_top {B : Nat} {w0 u u' : World} {r r2 xb k : Nat} {kd : Int} {st : Bool} {gas : Nat} {v : Value} {ls : List LogV} {vs : List (Option Addr × Nat)} {lr l2 : List Itm} {E E2 : Int} (h : OfSt B w0 r r2 xb kd st gas v k ls vs lr l2 E E2 u) {ts : List ByteArray} {T : Option Addr} {n : Nat} (hT : TopR (fun g => u.heap.size ≤ g) u' ts T n) : TopR (fun g => r2 + 1 ≤ g ∧ v.ownBlock ≠ some g) u' ts T n := by
  refine hT.weak fun g hg => ⟨by have := h.sz; omega, fun e => ?_⟩
  rcases h.own.2 with ⟨hv, _⟩ | ⟨g', cap, cur, hv, hb, hh, _⟩
  · rw [hv] at e; cases e
  · rw [hv] at e
    have e : g' = g := by simpa [Value.ownBlock] using e
    have := Blk.lt (show Blk u g' 40 cur from hh)
    omega
/-- what stands behind the logs -/
structure OfEnd (B : Nat) (w0 : World) (r r2 xb : Nat) (cs : Array Value) (A : Option Addr) (c k : Nat) (ls : List LogV) (lr : List Itm) (E : Int) (u : World) : Prop where
  blk : Blk u xb 25 cs
  own : ∃ vs : List (Option Addr × Nat), u.ownsRow (r2 + 1) 40 3 (.slice A k c) k (logsV ls vs) ∧ vs.length = k ∧ ∀ i, i < k → TopR (fun g => r2 + 1 ≤ g) u (ls.getD i LogV.none_).topics (vs.getD i (none, 0)).1 (ls.getD i LogV.none_).topics.length ∧ ((vs.getD i (none, 0)).1 = none → (ls.getD i LogV.none_).topics.length = 0 ∧ (vs.getD i (none, 0)).2 = 0)
  lx : ls.length = k
  rd : RdR B u r lr E
  grown : w0.grownBy u (some r)
  lo : w0.heap.size ≤ xb
  lo3 : xb < r2
  lt : r < w0.heap.size
section
variable {B : Nat} {w0 u u' : World} {r r2 xb k c : Nat} {cs : Array Value} {A : Option Addr} {ls : List LogV} {lr : List Itm} {E : Int}
theorem OfEnd.turn (h : OfEnd B w0 r r2 xb cs A c k ls lr E u) {g : Nat} (hg : u.grownBy u' (some g)) (hgr : g ≤ r2) {cs' : Array Value} (hb : Blk u' xb 25 cs') {lr' : List Itm} {E' : Int} (hR : RdR B u' r lr' E') (hgw : g = r ∨ w0.heap.size ≤ g) : OfEnd B w0 r r2 xb cs' A c k ls lr' E' u' := by
  obtain ⟨vs, o1, o2, o3⟩ := h.own
  have h1 := h.lo; have h2 := h.lo3; have h3 := h.lt
  exact ⟨hb, ⟨vs, o1.kept hg (by cases A; exact .inl rfl; exact .inr (fun e => by have := ownBlock_ge o1 e; omega)), o2, fun i hi => ⟨(o3 i hi).1.keep fun p hp c hc => hg.cell hc (fun e => by injection e with e; have h : r2 + 1 ≤ p.block := hp; omega), (o3 i hi).2⟩⟩, h.lx, hR, grown_self h.grown hg (fun k hk => by cases hk; rcases hgw with rfl | e; exact .inl rfl; exact .inr e), h1, h2, h3⟩
theorem OfEnd.read (h : OfEnd B w0 r r2 xb cs A c k ls lr E u) (hg : u.grownBy u' (some r)) {lr' : List Itm} {E' : Int} (hR : RdR B u' r lr' E') : OfEnd B w0 r r2 xb cs A c k ls lr' E' u' := by
  have h1 := h.lo; have h2 := h.lo3; have h3 := h.lt
  exact h.turn hg (by omega) (h.blk.grown hg (by simp; omega)) hR (.inl rfl)
theorem OfEnd.setx (h : OfEnd B w0 r r2 xb cs A c k ls lr E u) (i : Nat) (v : Value) : OfEnd B w0 r r2 xb (cs.setIfInBounds i v) A c k ls lr E (u.setCell ⟨xb, i, none⟩ v) := by
  have h1 := h.lo; have h2 := h.lo3; have h3 := h.lt; have h4 := h.rd.le
  have hg := only_setR (World.grownBy.refl u (some xb)) i v
  exact h.turn hg (by omega) (h.blk.set_ i v) (h.rd.kept hg (by simp; omega) (fun k hk => by cases hk; omega)) (.inr h1)
theorem OfEnd.err (h : OfEnd B w0 r r2 xb cs A c k ls lr E u) (wh : ByteArray) (E' : Int) : OfEnd B w0 r r2 xb cs A c k ls lr E' (u.setCell ⟨r, 1, none⟩ (errV wh E')) := by
  have h1 := h.lo; have h2 := h.lo3; have h3 := h.lt
  have hg := only_setR (World.grownBy.refl u (some r)) 1 (errV wh E')
  exact h.turn hg (by omega) (h.blk.grown hg (by simp; omega)) h.rd.err (.inl rfl)
theorem OfEnd.logs (h : OfEnd B w0 r r2 xb cs A c k ls lr E u) (ht : ∀ i, i < k → (ls.getD i LogV.none_).topics.length ≤ 9223372036854775807) : LogsS (fun g => r2 + 1 ≤ g) u ls A k := by
  obtain ⟨vs, o1, o2, o3⟩ := h.own
  refine ⟨h.lx, fun h0 => ?_⟩
  rcases o1.2 with ⟨hv, h1⟩ | ⟨g, cap, cur, hv, hb, hg, hn, hc, hs, hx⟩
  · omega
  cases hv
  refine ⟨g, 0, rfl, hb, fun i hi => ?_⟩
  have hcell : ∀ q, q < 3 → u.cell? ⟨g, i * 3 + q, none⟩ = (logsV ls vs)[i * 3 + q]? := by
    intro q hq
    rw [cell_of_row u g (i * 3 + q) cur 40 (0, 0) hg, ← hx, List.getElem?_take_of_lt (by omega), Array.getElem?_toList]
  have hget := fun q hq => (hcell q hq).trans (logsV_get ls vs (by rw [h.lx, o2]) i (by rw [h.lx]; exact hi) q hq)
  have g0 := hget 0 (by omega); have g1 := hget 1 (by omega); have g2 := hget 2 (by omega)
  simp only [List.getElem?_cons_zero, List.getElem?_cons_succ] at g0 g1 g2
  obtain ⟨t1, t2⟩ := o3 i hi
  exact ⟨_, _, by rw [Nat.zero_add]; exact g0, by rw [Nat.zero_add]; exact g1, by rw [Nat.zero_add]; exact g2, t1, ht i hi, t2⟩
/-- the receipt is stored as the result -/
def set7 (W : World) (g : Nat) (a b c d e f h : Value) : World := ((((((W.setCell ⟨g, 0, none⟩ a).setCell ⟨g, 1, none⟩ b).setCell ⟨g, 2, none⟩ c).setCell ⟨g, 3, none⟩ d).setCell ⟨g, 4, none⟩ e).setCell ⟨g, 5, none⟩ f).setCell ⟨g, 6, none⟩ h
theorem OfEnd.done {g : Nat} {z0 z1 z2 z3 z4 z5 z6 : Value} (h : OfEnd B w0 r r2 xb cs A c k ls lr E u) (hb : Blk u g 25 #[z0, z1, z2, z3, z4, z5, z6]) (hg : g < w0.heap.size) (hgr : r < g) (ht : ∀ i, i < k → (ls.getD i LogV.none_).topics.length ≤ 9223372036854775807) (a b x d e f y : Value) :
    Blk (set7 u g a b x d e f y) g 25 #[a, b, x, d, e, f, y] ∧ LogsS (fun q => w0.heap.size ≤ q) (set7 u g a b x d e f y) ls A k ∧ RdR B (set7 u g a b x d e f y) r lr E ∧ u.grownBy (set7 u g a b x d e f y) (some g) := by
  have h1 := h.lo; have h2 := h.lo3; have h3 := h.lt; have h4 := h.rd.le
  have hgc : u.grownBy (set7 u g a b x d e f y) (some g) := only_setR (only_setR (only_setR (only_setR (only_setR (only_setR (only_setR (World.grownBy.refl u (some g)) 0 a) 1 b) 2 x) 3 d) 4 e) 5 f) 6 y
  have hR := h.rd.kept hgc (by simp; omega) (fun k hk => by cases hk; omega)
  refine ⟨by simpa [set7] using ((((((hb.set_ 0 a).set_ 1 b).set_ 2 x).set_ 3 d).set_ 4 e).set_ 5 f).set_ 6 y, ?_, hR, hgc⟩
  exact ((h.logs ht).keep fun p hp c hc => hgc.cell hc (fun e => by injection e with e; have h : r2 + 1 ≤ p.block := hp; omega)).weak fun q (hq : r2 + 1 ≤ q) => (show w0.heap.size ≤ q by omega)
end
theorem OfSt.fin {B : Nat} {w0 u : World} {r r2 xb k c : Nat} {kd : Int} {st : Bool} {gas : Nat} {A : Option Addr} {ls : List LogV} {vs : List (Option Addr × Nat)} {lr l2 : List Itm} {E E2 : Int} (h : OfSt B w0 r r2 xb kd st gas (.slice A k c) k ls vs lr l2 E E2 u) : OfEnd B w0 r r2 xb #[.int .i64 kd, .bool st, .int .u64 (gas : Int), .slice A k c, .bool false, .int .u64 0, .int .u64 0] A c k ls lr E u :=
  ⟨h.blk, ⟨vs, h.own, h.lv, fun i hi => ⟨(h.top i hi).1.weak fun g hg => hg.1, (h.top i hi).2⟩⟩, h.lx, h.rd, h.grown, h.lo, h.lo3, h.lt⟩
end Go.Proofs.YthalohloneojlaaGreatDoor
