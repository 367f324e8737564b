/- Merged: CoC, HeldSt. -/
import Derived.Test.YtgclnikdkfpflaaGreatDoorMs1
import Derived.Test.YtgclnikdkfpflaaGreatDoorMs6
import Derived.Deep.MidRow
namespace Go.Proofs.YtgclnikdkfpflaaGreatDoor
open Go.RowKit Go.Shelf
open List renaming set_cons_zero → jz, set_cons_succ → js, setIfInBounds_toArray → jb
set_option linter.unusedVariables false
set_option linter.unusedSimpArgs false
set_option maxRecDepth 100000
set_option maxHeartbeats 16000000
def txA (kind : Int) (chain : Int) (nonce : Int) (tip0 tip1 tip2 tip3 : Int) (price0 price1 price2 price3 : Int) (gas : Int) (dst : ByteArray) (value0 value1 value2 value3 : Int) (data : ByteArray) (sa : Value) (sb : Value) (y : Int) (r0 r1 r2 r3 : Int) (s0 s1 s2 s3 : Int) (source : ByteArray) (frm : ByteArray) (mint0 mint1 mint2 mint3 : Int) (system : Bool) : Array Value := #[.int .i64 kind, .int .u64 chain, .int .u64 nonce, .int .u64 tip0, .int .u64 tip1, .int .u64 tip2, .int .u64 tip3, .int .u64 price0, .int .u64 price1, .int .u64 price2, .int .u64 price3, .int .u64 gas, .string dst, .int .u64 value0, .int .u64 value1, .int .u64 value2, .int .u64 value3, .string data, sa, sb, .int .u64 y, .int .u64 r0, .int .u64 r1, .int .u64 r2, .int .u64 r3, .int .u64 s0, .int .u64 s1, .int .u64 s2, .int .u64 s3, .string source, .string frm, .int .u64 mint0, .int .u64 mint1, .int .u64 mint2, .int .u64 mint3, .bool system]
def restA (kind : Int) (chain : Int) (nonce : Int) (tip0 tip1 tip2 tip3 : Int) (price0 price1 price2 price3 : Int) (gas : Int) (dst : ByteArray) (value0 value1 value2 value3 : Int) (data : ByteArray) (y : Int) (r0 r1 r2 r3 : Int) (s0 s1 s2 s3 : Int) (source : ByteArray) (frm : ByteArray) (mint0 mint1 mint2 mint3 : Int) (system : Bool) : Array Value := #[.int .i64 kind, .int .u64 chain, .int .u64 nonce, .int .u64 gas, .int .u64 y, .int .u64 tip0, .int .u64 tip1, .int .u64 tip2, .int .u64 tip3, .int .u64 price0, .int .u64 price1, .int .u64 price2, .int .u64 price3, .int .u64 value0, .int .u64 value1, .int .u64 value2, .int .u64 value3, .int .u64 r0, .int .u64 r1, .int .u64 r2, .int .u64 r3, .int .u64 s0, .int .u64 s1, .int .u64 s2, .int .u64 s3, .int .u64 mint0, .int .u64 mint1, .int .u64 mint2, .int .u64 mint3, .string dst, .string data, .string source, .string frm, .bool system]
theorem txA_eq (t : TxV) (sa sb : Value) : txC t sa sb = txA t.kind (t.chain : Int) (t.nonce : Int) ((wp t.tip 0 : Nat) : Int) ((wp t.tip 1 : Nat) : Int) ((wp t.tip 2 : Nat) : Int) ((wp t.tip 3 : Nat) : Int) ((wp t.price 0 : Nat) : Int) ((wp t.price 1 : Nat) : Int) ((wp t.price 2 : Nat) : Int) ((wp t.price 3 : Nat) : Int) (t.gas : Int) t.dst ((wp t.value 0 : Nat) : Int) ((wp t.value 1 : Nat) : Int) ((wp t.value 2 : Nat) : Int) ((wp t.value 3 : Nat) : Int) t.data sa sb (t.y : Int) ((wp t.r 0 : Nat) : Int) ((wp t.r 1 : Nat) : Int) ((wp t.r 2 : Nat) : Int) ((wp t.r 3 : Nat) : Int) ((wp t.s 0 : Nat) : Int) ((wp t.s 1 : Nat) : Int) ((wp t.s 2 : Nat) : Int) ((wp t.s 3 : Nat) : Int) t.source t.frm ((wp t.mint 0 : Nat) : Int) ((wp t.mint 1 : Nat) : Int) ((wp t.mint 2 : Nat) : Int) ((wp t.mint 3 : Nat) : Int) t.system := rfl
theorem restA_eq (t : TxV) : restC t = restA t.kind (t.chain : Int) (t.nonce : Int) ((wp t.tip 0 : Nat) : Int) ((wp t.tip 1 : Nat) : Int) ((wp t.tip 2 : Nat) : Int) ((wp t.tip 3 : Nat) : Int) ((wp t.price 0 : Nat) : Int) ((wp t.price 1 : Nat) : Int) ((wp t.price 2 : Nat) : Int) ((wp t.price 3 : Nat) : Int) (t.gas : Int) t.dst ((wp t.value 0 : Nat) : Int) ((wp t.value 1 : Nat) : Int) ((wp t.value 2 : Nat) : Int) ((wp t.value 3 : Nat) : Int) t.data (t.y : Int) ((wp t.r 0 : Nat) : Int) ((wp t.r 1 : Nat) : Int) ((wp t.r 2 : Nat) : Int) ((wp t.r 3 : Nat) : Int) ((wp t.s 0 : Nat) : Int) ((wp t.s 1 : Nat) : Int) ((wp t.s 2 : Nat) : Int) ((wp t.s 3 : Nat) : Int) t.source t.frm ((wp t.mint 0 : Nat) : Int) ((wp t.mint 1 : Nat) : Int) ((wp t.mint 2 : Nat) : Int) ((wp t.mint 3 : Nat) : Int) t.system := rfl
theorem restA_one (kind : Int) (chain : Int) (nonce : Int) (tip0 tip1 tip2 tip3 : Int) (price0 price1 price2 price3 : Int) (gas : Int) (dst : ByteArray) (value0 value1 value2 value3 : Int) (data : ByteArray) (y : Int) (r0 r1 r2 r3 : Int) (s0 s1 s2 s3 : Int) (source : ByteArray) (frm : ByteArray) (mint0 mint1 mint2 mint3 : Int) (system : Bool) : ((restA kind chain nonce tip0 tip1 tip2 tip3 price0 price1 price2 price3 gas dst value0 value1 value2 value3 data y r0 r1 r2 r3 s0 s1 s2 s3 source frm mint0 mint1 mint2 mint3 system).all fun x => x.oneCell') = true := by unfold restA; simp [Value.oneCell']
def restZ : Array Value := restA 0 0 0 0 0 0 0 0 0 0 0 0 ⟨#[]⟩ 0 0 0 0 ⟨#[]⟩ 0 0 0 0 0 0 0 0 0 ⟨#[]⟩ ⟨#[]⟩ 0 0 0 0 false
theorem txRestA_any (kind : Int) (chain : Int) (nonce : Int) (tip0 tip1 tip2 tip3 : Int) (price0 price1 price2 price3 : Int) (gas : Int) (dst : ByteArray) (value0 value1 value2 value3 : Int) (data : ByteArray) (sa : Value) (sb : Value) (y : Int) (r0 r1 r2 r3 : Int) (s0 s1 s2 s3 : Int) (source : ByteArray) (frm : ByteArray) (mint0 mint1 mint2 mint3 : Int) (system : Bool) (w : World) : Calls Tryz.prog 101 #[.agg (txA kind chain nonce tip0 tip1 tip2 tip3 price0 price1 price2 price3 gas dst value0 value1 value2 value3 data sa sb y r0 r1 r2 r3 s0 s1 s2 s3 source frm mint0 mint1 mint2 mint3 system)] w fun e w' => e = .returned (.agg (restA kind chain nonce tip0 tip1 tip2 tip3 price0 price1 price2 price3 gas dst value0 value1 value2 value3 data y r0 r1 r2 r3 s0 s1 s2 s3 source frm mint0 mint1 mint2 mint3 system)) ∧ w.grownBy w' none := by
 have hB := Blk.new w 42 (txA kind chain nonce tip0 tip1 tip2 tip3 price0 price1 price2 price3 gas dst value0 value1 value2 value3 data sa sb y r0 r1 r2 r3 s0 s1 s2 s3 source frm mint0 mint1 mint2 mint3 system)
 have hG := only_alloc (World.grownBy.refl w none) (.cells (txA kind chain nonce tip0 tip1 tip2 tip3 price0 price1 price2 price3 gas dst value0 value1 value2 value3 data sa sb y r0 r1 r2 r3 s0 s1 s2 s3 source frm mint0 mint1 mint2 mint3 system) 42)
 go_enter Tryz.func101, Tryz.ntmps101
 go_upto_region 1 with (fail)
 have hR := Blk.new (w.alloc (.cells (txA kind chain nonce tip0 tip1 tip2 tip3 price0 price1 price2 price3 gas dst value0 value1 value2 value3 data sa sb y r0 r1 r2 r3 s0 s1 s2 s3 source frm mint0 mint1 mint2 mint3 system) 42)) 136 restZ
 rw [World.size_alloc] at hR
 have hB2 := hB.alloc (.cells restZ 136)
 have hG2 := only_alloc hG (.cells restZ 136)
 change Code.wp _ _ _ _ ((w.alloc (.cells (txA kind chain nonce tip0 tip1 tip2 tip3 price0 price1 price2 price3 gas dst value0 value1 value2 value3 data sa sb y r0 r1 r2 r3 s0 s1 s2 s3 source frm mint0 mint1 mint2 mint3 system) 42)).alloc (.cells restZ 136))
 obtain ⟨g, hg⟩ : ∃ g, w.heap.size = g := ⟨_, rfl⟩
 have HW := Lib.hid hg
 rw [hg] at hR hB2 ⊢
 clear hg hB hG
 generalize (w.alloc (.cells (txA kind chain nonce tip0 tip1 tip2 tip3 price0 price1 price2 price3 gas dst value0 value1 value2 value3 data sa sb y r0 r1 r2 r3 s0 s1 s2 s3 source frm mint0 mint1 mint2 mint3 system) 42)).alloc (.cells restZ 136) = w1 at *
 have c0 : w1.cell? ⟨g, 0, none⟩ = some (.int .i64 kind) := hB2.cell 0
 have c1 : w1.cell? ⟨g, 1, none⟩ = some (.int .u64 chain) := hB2.cell 1
 have c2 : w1.cell? ⟨g, 2, none⟩ = some (.int .u64 nonce) := hB2.cell 2
 have c3 : w1.cell? ⟨g, 3, none⟩ = some (.int .u64 tip0) := hB2.cell 3
 have c4 : w1.cell? ⟨g, 4, none⟩ = some (.int .u64 tip1) := hB2.cell 4
 have c5 : w1.cell? ⟨g, 5, none⟩ = some (.int .u64 tip2) := hB2.cell 5
 have c6 : w1.cell? ⟨g, 6, none⟩ = some (.int .u64 tip3) := hB2.cell 6
 have c7 : w1.cell? ⟨g, 7, none⟩ = some (.int .u64 price0) := hB2.cell 7
 have c8 : w1.cell? ⟨g, 8, none⟩ = some (.int .u64 price1) := hB2.cell 8
 have c9 : w1.cell? ⟨g, 9, none⟩ = some (.int .u64 price2) := hB2.cell 9
 have c10 : w1.cell? ⟨g, 10, none⟩ = some (.int .u64 price3) := hB2.cell 10
 have c11 : w1.cell? ⟨g, 11, none⟩ = some (.int .u64 gas) := hB2.cell 11
 have c12 : w1.cell? ⟨g, 12, none⟩ = some (.string dst) := hB2.cell 12
 have c13 : w1.cell? ⟨g, 13, none⟩ = some (.int .u64 value0) := hB2.cell 13
 have c14 : w1.cell? ⟨g, 14, none⟩ = some (.int .u64 value1) := hB2.cell 14
 have c15 : w1.cell? ⟨g, 15, none⟩ = some (.int .u64 value2) := hB2.cell 15
 have c16 : w1.cell? ⟨g, 16, none⟩ = some (.int .u64 value3) := hB2.cell 16
 have c17 : w1.cell? ⟨g, 17, none⟩ = some (.string data) := hB2.cell 17
 have c20 : w1.cell? ⟨g, 20, none⟩ = some (.int .u64 y) := hB2.cell 20
 have c21 : w1.cell? ⟨g, 21, none⟩ = some (.int .u64 r0) := hB2.cell 21
 have c22 : w1.cell? ⟨g, 22, none⟩ = some (.int .u64 r1) := hB2.cell 22
 have c23 : w1.cell? ⟨g, 23, none⟩ = some (.int .u64 r2) := hB2.cell 23
 have c24 : w1.cell? ⟨g, 24, none⟩ = some (.int .u64 r3) := hB2.cell 24
 have c25 : w1.cell? ⟨g, 25, none⟩ = some (.int .u64 s0) := hB2.cell 25
 have c26 : w1.cell? ⟨g, 26, none⟩ = some (.int .u64 s1) := hB2.cell 26
 have c27 : w1.cell? ⟨g, 27, none⟩ = some (.int .u64 s2) := hB2.cell 27
 have c28 : w1.cell? ⟨g, 28, none⟩ = some (.int .u64 s3) := hB2.cell 28
 have c29 : w1.cell? ⟨g, 29, none⟩ = some (.string source) := hB2.cell 29
 have c30 : w1.cell? ⟨g, 30, none⟩ = some (.string frm) := hB2.cell 30
 have c31 : w1.cell? ⟨g, 31, none⟩ = some (.int .u64 mint0) := hB2.cell 31
 have c32 : w1.cell? ⟨g, 32, none⟩ = some (.int .u64 mint1) := hB2.cell 32
 have c33 : w1.cell? ⟨g, 33, none⟩ = some (.int .u64 mint2) := hB2.cell 33
 have c34 : w1.cell? ⟨g, 34, none⟩ = some (.int .u64 mint3) := hB2.cell 34
 have c35 : w1.cell? ⟨g, 35, none⟩ = some (.bool system) := hB2.cell 35
 have HR := Lib.hid hR; have HG2 := Lib.hid hG2
 clear hB2 hR hG2
 refine wp_region_list ?_
 iterate 99 go_step
 refine wp_store_row 136 (.tmp 2) (.tmp 35) rfl (g + 1) (restA kind chain nonce tip0 tip1 tip2 tip3 price0 price1 price2 price3 gas dst value0 value1 value2 value3 data y r0 r1 r2 r3 s0 s1 s2 s3 source frm mint0 mint1 mint2 mint3 system) rfl rfl 136 restZ HR.out (by kernel_rfl) rfl (restA_one kind chain nonce tip0 tip1 tip2 tip3 price0 price1 price2 price3 gas dst value0 value1 value2 value3 data y r0 r1 r2 r3 s0 s1 s2 s3 source frm mint0 mint1 mint2 mint3 system) ?_
 have hR2 : Blk (w1.setRow (g + 1) (restA kind chain nonce tip0 tip1 tip2 tip3 price0 price1 price2 price3 gas dst value0 value1 value2 value3 data y r0 r1 r2 r3 s0 s1 s2 s3 source frm mint0 mint1 mint2 mint3 system)) (g + 1) 136 (restA kind chain nonce tip0 tip1 tip2 tip3 price0 price1 price2 price3 gas dst value0 value1 value2 value3 data y r0 r1 r2 r3 s0 s1 s2 s3 source frm mint0 mint1 mint2 mint3 system) := blk_setRow HR.out
 have hG3 : w.grownBy (w1.setRow (g + 1) (restA kind chain nonce tip0 tip1 tip2 tip3 price0 price1 price2 price3 gas dst value0 value1 value2 value3 data y r0 r1 r2 r3 s0 s1 s2 s3 source frm mint0 mint1 mint2 mint3 system)) none := only_setRow HG2.out (by have := HW.out; omega) _
 have HR2 := Lib.hid hR2; have HG3 := Lib.hid hG3
 clear hR2 hG3 HR HG2
 generalize w1.setRow (g + 1) (restA kind chain nonce tip0 tip1 tip2 tip3 price0 price1 price2 price3 gas dst value0 value1 value2 value3 data y r0 r1 r2 r3 s0 s1 s2 s3 source frm mint0 mint1 mint2 mint3 system) = w2 at *
 simp only [Act.put]
 go_wp2_with fail
 refine bodyPost_ret (results_cell_row (fn := Tryz.f101) rfl _ _ _ _ _ _ _ rfl HR2.out Tryz.underlying136 rfl (by kernel_rfl)) rfl ?_
 exact ⟨rfl, HG3.out⟩
theorem txRestC_any (t : TxV) (sa sb : Value) (w : World) : Calls Tryz.prog 101 #[.agg (txC t sa sb)] w fun e w' => e = .returned (.agg (restC t)) ∧ w.grownBy w' none := by
 rw [txA_eq, restA_eq]
 exact txRestA_any t.kind (t.chain : Int) (t.nonce : Int) ((wp t.tip 0 : Nat) : Int) ((wp t.tip 1 : Nat) : Int) ((wp t.tip 2 : Nat) : Int) ((wp t.tip 3 : Nat) : Int) ((wp t.price 0 : Nat) : Int) ((wp t.price 1 : Nat) : Int) ((wp t.price 2 : Nat) : Int) ((wp t.price 3 : Nat) : Int) (t.gas : Int) t.dst ((wp t.value 0 : Nat) : Int) ((wp t.value 1 : Nat) : Int) ((wp t.value 2 : Nat) : Int) ((wp t.value 3 : Nat) : Int) t.data sa sb (t.y : Int) ((wp t.r 0 : Nat) : Int) ((wp t.r 1 : Nat) : Int) ((wp t.r 2 : Nat) : Int) ((wp t.r 3 : Nat) : Int) ((wp t.s 0 : Nat) : Int) ((wp t.s 1 : Nat) : Int) ((wp t.s 2 : Nat) : Int) ((wp t.s 3 : Nat) : Int) t.source t.frm ((wp t.mint 0 : Nat) : Int) ((wp t.mint 1 : Nat) : Int) ((wp t.mint 2 : Nat) : Int) ((wp t.mint 3 : Nat) : Int) t.system w
section
variable {P : Program} {ops : Array Oper} {md : Region.Mode} {Q : Exit → Act → World → Prop} {S : World → Prop}
end
def putA : Nat → List Value → Array Value → Array Value
 | _, [], c => c
 | o, v :: r, c => putA (o + 1) r (c.setIfInBounds o v)
theorem putA_size : ∀ (vs : List Value) (o : Nat) (c : Array Value), (putA o vs c).size = c.size
 | [], _, _ => rfl
 | v :: r, o, c => by rw [putA, putA_size r]; simp
theorem setRow_setCell {W : World} {g : Nat} {t : TypeId} {c0 : Array Value} (h : Blk W g t c0) (c : Array Value) (i : Nat) (v : Value) : (W.setRow g c).setCell ⟨g, i, none⟩ v = W.setRow g (c.setIfInBounds i v) := by
 have h : W.heap[g]? = some (.cells c0 t (0, 0)) := h
 have h1 := setRow_heap W g c0 c t (0, 0) h
 have h2 := setRow_heap W g c0 (c.setIfInBounds i v) t (0, 0) h
 have hh : ((W.setRow g c).setCell ⟨g, i, none⟩ v).heap = (W.setRow g (c.setIfInBounds i v)).heap := by
  apply Array.ext_getElem?
  intro k
  by_cases hk : k = g
  ·subst hk
   rw [h2]
   show ((W.setRow k c).heap.modify k _)[k]? = _
   rw [Array.getElem?_modify, if_pos rfl, h1]
   simp
  ·show ((W.setRow g c).heap.modify g _)[k]? = _
   rw [Array.getElem?_modify, if_neg (fun e => hk e.symm), setRow_other W g k c hk, setRow_other W g k _ hk]
 calc (W.setRow g c).setCell ⟨g, i, none⟩ v = { W with heap := ((W.setRow g c).setCell ⟨g, i, none⟩ v).heap } := rfl
  _ = { W with heap := (W.setRow g (c.setIfInBounds i v)).heap } := by rw [hh]
  _ = W.setRow g (c.setIfInBounds i v) := rfl
theorem setRow_setCells {W : World} {g : Nat} {t : TypeId} {c0 : Array Value} (h : Blk W g t c0) : ∀ (vs : List Value) (o : Nat) (c : Array Value), (W.setRow g c).setCells g o vs = W.setRow g (putA o vs c)
 | [], _, _ => rfl
 | v :: r, o, c => by rw [World.setCells, setRow_setCell h, setRow_setCells h r, putA]
theorem blk_setRowH {w : World} {g : Nat} {t : TypeId} {cs cs' : Array Value} (h : Blk w g t cs) : Blk (w.setRow g cs') g t cs' := setRow_heap w g cs cs' t (0, 0) h
section
variable {P : Program}
theorem run_storeVar_val (w : World) (b o : Nat) (ty : TypeId) (v : Value) (cells : Array Value) (hv : v.cells = cells) (ht : w.there b o cells.size) (hi : (P.info? ty).map (·.size) = some cells.size) (h1 : cells.all (·.oneCell') = true) :
  (storeVar ty ⟨b, o, none⟩ v).run P w = .ok () (w.setCells b o cells.toList) := by
 have := run_storeCells_cells (P := P) b o cells.toList 0 w (fun j hj => by simpa using (ht j (by simpa using hj)).1) (fun j hj => by simpa using (ht j (by simpa using hj)).2)
  (fun v hv => (Array.all_eq_true_iff_forall_mem.1 h1) v (by simpa using hv))
 cases hq : P.info? ty with
 | none => simp [hq] at hi
 | some i =>
  have hs : cells.size = i.size := by simp [hq] at hi; omega
  simp only [Nat.add_zero] at this
  simp [storeVar, sizeOf, typeInfo, hq, hv, hs, this]
theorem exec_store_val {w : World} {a : Act} {op : Oper} (ty : TypeId) (x y : Operand) (ho : op.op = .store ty x y) (b o : Nat) (hx : a.eval x = .pointer (some ⟨b, o, none⟩)) (v : Value) (hy : a.eval y = v) (cells : Array Value) (hv : v.cells = cells)
  (ht : w.there b o cells.size) (hi : (P.info? ty).map (·.size) = some cells.size) (h1 : cells.all (·.oneCell') = true) : (execOp a.eval op).run P w = .ok .skip (w.setCells b o cells.toList) := by
 unfold execOp
 simp only [ho, hx, hy, Instr.storeAt, Instr.sureAddr, Sem.run_bind, Sem.run_pure, Result.andThen_ok, run_storeVar_val w b o ty v cells hv ht hi h1]
end
theorem there_blk {w : World} {g : Nat} {t : TypeId} {c : Array Value} (h : Blk w g t c) {o n : Nat} (hn : o + n ≤ c.size) : w.there g o n := fun j hj =>
 ⟨by rw [h.cell (o + j), Array.getElem?_eq_getElem (by omega)]; rfl, h.frozen (o + j)⟩
section
variable {P : Program} {ops : Array Oper} {md : Region.Mode} {Q : Exit → Act → World → Prop} {S : World → Prop}
end
section
variable {P : Program} {ops : Array Oper} {md : Region.Mode} {Q : Exit → Act → World → Prop} {S : World → Prop}
theorem held_skip {i fuel : Nat} {listed : Array Bool} {oi : Oper} {a : Act} {w w' : World} (hi : ops[i]? = some oi) (hw : Region.wanted oi (yielded ops a.tmps) = true) (hd : oi.dst = none) (hrun : (execOp a.eval oi).run P w = .ok .skip w') (hS : S w')
  (h : wpAnyH P md ops Q S fuel (listed.setIfInBounds i true) a w') : wpOp P ops Q i (Behind P ops md Q S fuel listed i) a w := by
 unfold wpOp
 simp only [hi, hw, if_true]
 refine .inl ?_
 unfold Oper.wp
 rw [hrun]
 simp only [Oper.upon, hd, Act.put]
 exact ⟨hS, h⟩
theorem exec_store_row {W0 : World} {g : Nat} {t : TypeId} {c0 : Array Value} (hb : Blk W0 g t c0) (c : Array Value) {a : Act} {op : Oper} (ty : TypeId) (x y : Operand) (ho : op.op = .store ty x y) (o : Nat) (hx : a.eval x = .pointer (some ⟨g, o, none⟩)) (v : Value) (hy : a.eval y = v) (vs : List Value) (hv : v.cells = vs.toArray)
  (hn : Nat.ble (o + vs.length) c.size = true) (hi : (P.info? ty).map (·.size) = some vs.length) (h1 : vs.toArray.all (·.oneCell') = true) (c' : Array Value) (hc : putA o vs c = c') : (execOp a.eval op).run P (W0.setRow g c) = .ok .skip (W0.setRow g c') := by
 have hbc : Blk (W0.setRow g c) g t c := blk_setRowH hb
 have := exec_store_val (P := P) (w := W0.setRow g c) ty x y ho g o hx v hy vs.toArray hv (there_blk hbc (by simpa using Nat.le_of_ble_eq_true hn)) (by simpa using hi) h1
 rw [this]
 show Result.ok Next.skip ((W0.setRow g c).setCells g o vs) = _
 rw [setRow_setCells hb, hc]
end
section
variable {P : Program}
theorem wpList_value {ops : Array Oper} {rest : List Oper} {op : Oper} {a : Act} {w w' : World} {Q : Exit → Act → World → Prop} (hgd : op.guard = none) (v : Value) (h : (execOp a.eval op).run P w = .ok (.value v) w') (hk : wpList P ops Q rest (a.put op.dst v) w') : wpList P ops Q (op :: rest) a w :=
 wpList_plain hgd fun K hK => by unfold Oper.wp; rw [h]; exact hK _ _ hk
theorem wpList_skip {ops : Array Oper} {rest : List Oper} {op : Oper} {a : Act} {w w' : World} {Q : Exit → Act → World → Prop} (hgd : op.guard = none) (hd : op.dst = none) (h : (execOp a.eval op).run P w = .ok .skip w') (hk : wpList P ops Q rest a w') : wpList P ops Q (op :: rest) a w :=
 wpList_plain hgd fun K hK => by unfold Oper.wp; rw [h]; simp only [Oper.upon, hd, Act.put]; exact hK _ _ hk
end
end Go.Proofs.YtgclnikdkfpflaaGreatDoor
