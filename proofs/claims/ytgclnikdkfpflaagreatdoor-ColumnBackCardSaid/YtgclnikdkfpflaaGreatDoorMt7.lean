/- Merged: CoC, HeldSt, CoE, EqS. -/
import Derived.Test.YtgclnikdkfpflaaGreatDoorMt1
import Derived.Test.YtgclnikdkfpflaaGreatDoorMt2
import Derived.Test.YtgclnikdkfpflaaGreatDoorMt6
import Derived.Deep.MidRow
namespace Go.Proofs.YtgclnikdkfpflaaGreatDoor
open Go.RowKit Go.Shelf
open List renaming set_cons_zero → jz, set_cons_succ → js, setIfInBounds_toArray → jb
set_option linter.unusedVariables false
set_option linter.unusedSimpArgs false
set_option maxRecDepth 100000
set_option maxHeartbeats 16000000
def txA (kind : Int) (chain : Int) (nonce : Int) (tip0 tip1 tip2 tip3 : Int) (price0 price1 price2 price3 : Int) (gas : Int) (dst : ByteArray) (value0 value1 value2 value3 : Int) (data : ByteArray) (sa : Value) (sb : Value) (y : Int) (r0 r1 r2 r3 : Int) (s0 s1 s2 s3 : Int) (source : ByteArray) (frm : ByteArray) (mint0 mint1 mint2 mint3 : Int) (system : Bool) : Array Value := #[.int .i64 kind, .int .u64 chain, .int .u64 nonce, .int .u64 tip0, .int .u64 tip1, .int .u64 tip2, .int .u64 tip3, .int .u64 price0, .int .u64 price1, .int .u64 price2, .int .u64 price3, .int .u64 gas, .string dst, .int .u64 value0, .int .u64 value1, .int .u64 value2, .int .u64 value3, .string data, sa, sb, .int .u64 y, .int .u64 r0, .int .u64 r1, .int .u64 r2, .int .u64 r3, .int .u64 s0, .int .u64 s1, .int .u64 s2, .int .u64 s3, .string source, .string frm, .int .u64 mint0, .int .u64 mint1, .int .u64 mint2, .int .u64 mint3, .bool system]
def restA (kind : Int) (chain : Int) (nonce : Int) (tip0 tip1 tip2 tip3 : Int) (price0 price1 price2 price3 : Int) (gas : Int) (dst : ByteArray) (value0 value1 value2 value3 : Int) (data : ByteArray) (y : Int) (r0 r1 r2 r3 : Int) (s0 s1 s2 s3 : Int) (source : ByteArray) (frm : ByteArray) (mint0 mint1 mint2 mint3 : Int) (system : Bool) : Array Value := #[.int .i64 kind, .int .u64 chain, .int .u64 nonce, .int .u64 gas, .int .u64 y, .int .u64 tip0, .int .u64 tip1, .int .u64 tip2, .int .u64 tip3, .int .u64 price0, .int .u64 price1, .int .u64 price2, .int .u64 price3, .int .u64 value0, .int .u64 value1, .int .u64 value2, .int .u64 value3, .int .u64 r0, .int .u64 r1, .int .u64 r2, .int .u64 r3, .int .u64 s0, .int .u64 s1, .int .u64 s2, .int .u64 s3, .int .u64 mint0, .int .u64 mint1, .int .u64 mint2, .int .u64 mint3, .string dst, .string data, .string source, .string frm, .bool system]
theorem txA_eq (t : TxV) (sa sb : Value) : txC t sa sb = txA t.kind (t.chain : Int) (t.nonce : Int) ((wp t.tip 0 : Nat) : Int) ((wp t.tip 1 : Nat) : Int) ((wp t.tip 2 : Nat) : Int) ((wp t.tip 3 : Nat) : Int) ((wp t.price 0 : Nat) : Int) ((wp t.price 1 : Nat) : Int) ((wp t.price 2 : Nat) : Int) ((wp t.price 3 : Nat) : Int) (t.gas : Int) t.dst ((wp t.value 0 : Nat) : Int) ((wp t.value 1 : Nat) : Int) ((wp t.value 2 : Nat) : Int) ((wp t.value 3 : Nat) : Int) t.data sa sb (t.y : Int) ((wp t.r 0 : Nat) : Int) ((wp t.r 1 : Nat) : Int) ((wp t.r 2 : Nat) : Int) ((wp t.r 3 : Nat) : Int) ((wp t.s 0 : Nat) : Int) ((wp t.s 1 : Nat) : Int) ((wp t.s 2 : Nat) : Int) ((wp t.s 3 : Nat) : Int) t.source t.frm ((wp t.mint 0 : Nat) : Int) ((wp t.mint 1 : Nat) : Int) ((wp t.mint 2 : Nat) : Int) ((wp t.mint 3 : Nat) : Int) t.system := rfl
theorem restA_eq (t : TxV) : restC t = restA t.kind (t.chain : Int) (t.nonce : Int) ((wp t.tip 0 : Nat) : Int) ((wp t.tip 1 : Nat) : Int) ((wp t.tip 2 : Nat) : Int) ((wp t.tip 3 : Nat) : Int) ((wp t.price 0 : Nat) : Int) ((wp t.price 1 : Nat) : Int) ((wp t.price 2 : Nat) : Int) ((wp t.price 3 : Nat) : Int) (t.gas : Int) t.dst ((wp t.value 0 : Nat) : Int) ((wp t.value 1 : Nat) : Int) ((wp t.value 2 : Nat) : Int) ((wp t.value 3 : Nat) : Int) t.data (t.y : Int) ((wp t.r 0 : Nat) : Int) ((wp t.r 1 : Nat) : Int) ((wp t.r 2 : Nat) : Int) ((wp t.r 3 : Nat) : Int) ((wp t.s 0 : Nat) : Int) ((wp t.s 1 : Nat) : Int) ((wp t.s 2 : Nat) : Int) ((wp t.s 3 : Nat) : Int) t.source t.frm ((wp t.mint 0 : Nat) : Int) ((wp t.mint 1 : Nat) : Int) ((wp t.mint 2 : Nat) : Int) ((wp t.mint 3 : Nat) : Int) t.system := rfl
theorem restA_one (kind : Int) (chain : Int) (nonce : Int) (tip0 tip1 tip2 tip3 : Int) (price0 price1 price2 price3 : Int) (gas : Int) (dst : ByteArray) (value0 value1 value2 value3 : Int) (data : ByteArray) (y : Int) (r0 r1 r2 r3 : Int) (s0 s1 s2 s3 : Int) (source : ByteArray) (frm : ByteArray) (mint0 mint1 mint2 mint3 : Int) (system : Bool) : ((restA kind chain nonce tip0 tip1 tip2 tip3 price0 price1 price2 price3 gas dst value0 value1 value2 value3 data y r0 r1 r2 r3 s0 s1 s2 s3 source frm mint0 mint1 mint2 mint3 system).all fun x => x.oneCell') = true := by unfold restA; simp [Value.oneCell']
def restZ : Array Value := restA 0 0 0 0 0 0 0 0 0 0 0 0 ⟨#[]⟩ 0 0 0 0 ⟨#[]⟩ 0 0 0 0 0 0 0 0 0 ⟨#[]⟩ ⟨#[]⟩ 0 0 0 0 false
theorem txRestA_any (kind : Int) (chain : Int) (nonce : Int) (tip0 tip1 tip2 tip3 : Int) (price0 price1 price2 price3 : Int) (gas : Int) (dst : ByteArray) (value0 value1 value2 value3 : Int) (data : ByteArray) (sa : Value) (sb : Value) (y : Int) (r0 r1 r2 r3 : Int) (s0 s1 s2 s3 : Int) (source : ByteArray) (frm : ByteArray) (mint0 mint1 mint2 mint3 : Int) (system : Bool) (w : World) : Calls Tryz.prog 101 #[.agg (txA kind chain nonce tip0 tip1 tip2 tip3 price0 price1 price2 price3 gas dst value0 value1 value2 value3 data sa sb y r0 r1 r2 r3 s0 s1 s2 s3 source frm mint0 mint1 mint2 mint3 system)] w fun e w' => e = .returned (.agg (restA kind chain nonce tip0 tip1 tip2 tip3 price0 price1 price2 price3 gas dst value0 value1 value2 value3 data y r0 r1 r2 r3 s0 s1 s2 s3 source frm mint0 mint1 mint2 mint3 system)) ∧ w.grownBy w' none := by
 have hB := Blk.new w 42 (txA kind chain nonce tip0 tip1 tip2 tip3 price0 price1 price2 price3 gas dst value0 value1 value2 value3 data sa sb y r0 r1 r2 r3 s0 s1 s2 s3 source frm mint0 mint1 mint2 mint3 system)
 have hG := only_alloc (World.grownBy.refl w none) (.cells (txA kind chain nonce tip0 tip1 tip2 tip3 price0 price1 price2 price3 gas dst value0 value1 value2 value3 data sa sb y r0 r1 r2 r3 s0 s1 s2 s3 source frm mint0 mint1 mint2 mint3 system) 42)
 go_enter Tryz.func101, Tryz.ntmps101
 go_upto_region 1 with (fail)
 have hR := Blk.new (w.alloc (.cells (txA kind chain nonce tip0 tip1 tip2 tip3 price0 price1 price2 price3 gas dst value0 value1 value2 value3 data sa sb y r0 r1 r2 r3 s0 s1 s2 s3 source frm mint0 mint1 mint2 mint3 system) 42)) 136 restZ
 rw [World.size_alloc] at hR
 have hB2 := hB.alloc (.cells restZ 136)
 have hG2 := only_alloc hG (.cells restZ 136)
 change Code.wp _ _ _ _ ((w.alloc (.cells (txA kind chain nonce tip0 tip1 tip2 tip3 price0 price1 price2 price3 gas dst value0 value1 value2 value3 data sa sb y r0 r1 r2 r3 s0 s1 s2 s3 source frm mint0 mint1 mint2 mint3 system) 42)).alloc (.cells restZ 136))
 obtain ⟨g, hg⟩ : ∃ g, w.heap.size = g := ⟨_, rfl⟩
 have HW := Lib.hid hg
 rw [hg] at hR hB2 ⊢
 clear hg hB hG
 generalize (w.alloc (.cells (txA kind chain nonce tip0 tip1 tip2 tip3 price0 price1 price2 price3 gas dst value0 value1 value2 value3 data sa sb y r0 r1 r2 r3 s0 s1 s2 s3 source frm mint0 mint1 mint2 mint3 system) 42)).alloc (.cells restZ 136) = w1 at *
 have c0 : w1.cell? ⟨g, 0, none⟩ = some (.int .i64 kind) := hB2.cell 0
 have c1 : w1.cell? ⟨g, 1, none⟩ = some (.int .u64 chain) := hB2.cell 1
 have c2 : w1.cell? ⟨g, 2, none⟩ = some (.int .u64 nonce) := hB2.cell 2
 have c3 : w1.cell? ⟨g, 3, none⟩ = some (.int .u64 tip0) := hB2.cell 3
 have c4 : w1.cell? ⟨g, 4, none⟩ = some (.int .u64 tip1) := hB2.cell 4
 have c5 : w1.cell? ⟨g, 5, none⟩ = some (.int .u64 tip2) := hB2.cell 5
 have c6 : w1.cell? ⟨g, 6, none⟩ = some (.int .u64 tip3) := hB2.cell 6
 have c7 : w1.cell? ⟨g, 7, none⟩ = some (.int .u64 price0) := hB2.cell 7
 have c8 : w1.cell? ⟨g, 8, none⟩ = some (.int .u64 price1) := hB2.cell 8
 have c9 : w1.cell? ⟨g, 9, none⟩ = some (.int .u64 price2) := hB2.cell 9
 have c10 : w1.cell? ⟨g, 10, none⟩ = some (.int .u64 price3) := hB2.cell 10
 have c11 : w1.cell? ⟨g, 11, none⟩ = some (.int .u64 gas) := hB2.cell 11
 have c12 : w1.cell? ⟨g, 12, none⟩ = some (.string dst) := hB2.cell 12
 have c13 : w1.cell? ⟨g, 13, none⟩ = some (.int .u64 value0) := hB2.cell 13
 have c14 : w1.cell? ⟨g, 14, none⟩ = some (.int .u64 value1) := hB2.cell 14
 have c15 : w1.cell? ⟨g, 15, none⟩ = some (.int .u64 value2) := hB2.cell 15
 have c16 : w1.cell? ⟨g, 16, none⟩ = some (.int .u64 value3) := hB2.cell 16
 have c17 : w1.cell? ⟨g, 17, none⟩ = some (.string data) := hB2.cell 17
 have c20 : w1.cell? ⟨g, 20, none⟩ = some (.int .u64 y) := hB2.cell 20
 have c21 : w1.cell? ⟨g, 21, none⟩ = some (.int .u64 r0) := hB2.cell 21
 have c22 : w1.cell? ⟨g, 22, none⟩ = some (.int .u64 r1) := hB2.cell 22
 have c23 : w1.cell? ⟨g, 23, none⟩ = some (.int .u64 r2) := hB2.cell 23
 have c24 : w1.cell? ⟨g, 24, none⟩ = some (.int .u64 r3) := hB2.cell 24
 have c25 : w1.cell? ⟨g, 25, none⟩ = some (.int .u64 s0) := hB2.cell 25
 have c26 : w1.cell? ⟨g, 26, none⟩ = some (.int .u64 s1) := hB2.cell 26
 have c27 : w1.cell? ⟨g, 27, none⟩ = some (.int .u64 s2) := hB2.cell 27
 have c28 : w1.cell? ⟨g, 28, none⟩ = some (.int .u64 s3) := hB2.cell 28
 have c29 : w1.cell? ⟨g, 29, none⟩ = some (.string source) := hB2.cell 29
 have c30 : w1.cell? ⟨g, 30, none⟩ = some (.string frm) := hB2.cell 30
 have c31 : w1.cell? ⟨g, 31, none⟩ = some (.int .u64 mint0) := hB2.cell 31
 have c32 : w1.cell? ⟨g, 32, none⟩ = some (.int .u64 mint1) := hB2.cell 32
 have c33 : w1.cell? ⟨g, 33, none⟩ = some (.int .u64 mint2) := hB2.cell 33
 have c34 : w1.cell? ⟨g, 34, none⟩ = some (.int .u64 mint3) := hB2.cell 34
 have c35 : w1.cell? ⟨g, 35, none⟩ = some (.bool system) := hB2.cell 35
 have HR := Lib.hid hR; have HG2 := Lib.hid hG2
 clear hB2 hR hG2
 refine wp_region_list ?_
 iterate 99 go_step
 refine wp_store_row 136 (.tmp 2) (.tmp 35) rfl (g + 1) (restA kind chain nonce tip0 tip1 tip2 tip3 price0 price1 price2 price3 gas dst value0 value1 value2 value3 data y r0 r1 r2 r3 s0 s1 s2 s3 source frm mint0 mint1 mint2 mint3 system) rfl rfl 136 restZ HR.out (by kernel_rfl) rfl (restA_one kind chain nonce tip0 tip1 tip2 tip3 price0 price1 price2 price3 gas dst value0 value1 value2 value3 data y r0 r1 r2 r3 s0 s1 s2 s3 source frm mint0 mint1 mint2 mint3 system) ?_
 have hR2 : Blk (w1.setRow (g + 1) (restA kind chain nonce tip0 tip1 tip2 tip3 price0 price1 price2 price3 gas dst value0 value1 value2 value3 data y r0 r1 r2 r3 s0 s1 s2 s3 source frm mint0 mint1 mint2 mint3 system)) (g + 1) 136 (restA kind chain nonce tip0 tip1 tip2 tip3 price0 price1 price2 price3 gas dst value0 value1 value2 value3 data y r0 r1 r2 r3 s0 s1 s2 s3 source frm mint0 mint1 mint2 mint3 system) := blk_setRow HR.out
 have hG3 : w.grownBy (w1.setRow (g + 1) (restA kind chain nonce tip0 tip1 tip2 tip3 price0 price1 price2 price3 gas dst value0 value1 value2 value3 data y r0 r1 r2 r3 s0 s1 s2 s3 source frm mint0 mint1 mint2 mint3 system)) none := only_setRow HG2.out (by have := HW.out; omega) _
 have HR2 := Lib.hid hR2; have HG3 := Lib.hid hG3
 clear hR2 hG3 HR HG2
 generalize w1.setRow (g + 1) (restA kind chain nonce tip0 tip1 tip2 tip3 price0 price1 price2 price3 gas dst value0 value1 value2 value3 data y r0 r1 r2 r3 s0 s1 s2 s3 source frm mint0 mint1 mint2 mint3 system) = w2 at *
 simp only [Act.put]
 go_wp2_with fail
 refine bodyPost_ret (results_cell_row (fn := Tryz.f101) rfl _ _ _ _ _ _ _ rfl HR2.out Tryz.underlying136 rfl (by kernel_rfl)) rfl ?_
 exact ⟨rfl, HG3.out⟩
theorem txRestC_any (t : TxV) (sa sb : Value) (w : World) : Calls Tryz.prog 101 #[.agg (txC t sa sb)] w fun e w' => e = .returned (.agg (restC t)) ∧ w.grownBy w' none := by
 rw [txA_eq, restA_eq]
 exact txRestA_any t.kind (t.chain : Int) (t.nonce : Int) ((wp t.tip 0 : Nat) : Int) ((wp t.tip 1 : Nat) : Int) ((wp t.tip 2 : Nat) : Int) ((wp t.tip 3 : Nat) : Int) ((wp t.price 0 : Nat) : Int) ((wp t.price 1 : Nat) : Int) ((wp t.price 2 : Nat) : Int) ((wp t.price 3 : Nat) : Int) (t.gas : Int) t.dst ((wp t.value 0 : Nat) : Int) ((wp t.value 1 : Nat) : Int) ((wp t.value 2 : Nat) : Int) ((wp t.value 3 : Nat) : Int) t.data sa sb (t.y : Int) ((wp t.r 0 : Nat) : Int) ((wp t.r 1 : Nat) : Int) ((wp t.r 2 : Nat) : Int) ((wp t.r 3 : Nat) : Int) ((wp t.s 0 : Nat) : Int) ((wp t.s 1 : Nat) : Int) ((wp t.s 2 : Nat) : Int) ((wp t.s 3 : Nat) : Int) t.source t.frm ((wp t.mint 0 : Nat) : Int) ((wp t.mint 1 : Nat) : Int) ((wp t.mint 2 : Nat) : Int) ((wp t.mint 3 : Nat) : Int) t.system w
section
variable {P : Program} {ops : Array Oper} {md : Region.Mode} {Q : Exit → Act → World → Prop} {S : World → Prop}
end
def putA : Nat → List Value → Array Value → Array Value
 | _, [], c => c
 | o, v :: r, c => putA (o + 1) r (c.setIfInBounds o v)
theorem putA_size : ∀ (vs : List Value) (o : Nat) (c : Array Value), (putA o vs c).size = c.size
 | [], _, _ => rfl
 | v :: r, o, c => by rw [putA, putA_size r]; simp
theorem setRow_setCell {W : World} {g : Nat} {t : TypeId} {c0 : Array Value} (h : Blk W g t c0) (c : Array Value) (i : Nat) (v : Value) : (W.setRow g c).setCell ⟨g, i, none⟩ v = W.setRow g (c.setIfInBounds i v) := by
 have h : W.heap[g]? = some (.cells c0 t (0, 0)) := h
 have h1 := setRow_heap W g c0 c t (0, 0) h
 have h2 := setRow_heap W g c0 (c.setIfInBounds i v) t (0, 0) h
 have hh : ((W.setRow g c).setCell ⟨g, i, none⟩ v).heap = (W.setRow g (c.setIfInBounds i v)).heap := by
  apply Array.ext_getElem?
  intro k
  by_cases hk : k = g
  ·subst hk
   rw [h2]
   show ((W.setRow k c).heap.modify k _)[k]? = _
   rw [Array.getElem?_modify, if_pos rfl, h1]
   simp
  ·show ((W.setRow g c).heap.modify g _)[k]? = _
   rw [Array.getElem?_modify, if_neg (fun e => hk e.symm), setRow_other W g k c hk, setRow_other W g k _ hk]
 calc (W.setRow g c).setCell ⟨g, i, none⟩ v = { W with heap := ((W.setRow g c).setCell ⟨g, i, none⟩ v).heap } := rfl
  _ = { W with heap := (W.setRow g (c.setIfInBounds i v)).heap } := by rw [hh]
  _ = W.setRow g (c.setIfInBounds i v) := rfl
theorem setRow_setCells {W : World} {g : Nat} {t : TypeId} {c0 : Array Value} (h : Blk W g t c0) : ∀ (vs : List Value) (o : Nat) (c : Array Value), (W.setRow g c).setCells g o vs = W.setRow g (putA o vs c)
 | [], _, _ => rfl
 | v :: r, o, c => by rw [World.setCells, setRow_setCell h, setRow_setCells h r, putA]
theorem blk_setRowH {w : World} {g : Nat} {t : TypeId} {cs cs' : Array Value} (h : Blk w g t cs) : Blk (w.setRow g cs') g t cs' := setRow_heap w g cs cs' t (0, 0) h
section
variable {P : Program}
theorem run_storeVar_val (w : World) (b o : Nat) (ty : TypeId) (v : Value) (cells : Array Value) (hv : v.cells = cells) (ht : w.there b o cells.size) (hi : (P.info? ty).map (·.size) = some cells.size) (h1 : cells.all (·.oneCell') = true) :
  (storeVar ty ⟨b, o, none⟩ v).run P w = .ok () (w.setCells b o cells.toList) := by
 have := run_storeCells_cells (P := P) b o cells.toList 0 w (fun j hj => by simpa using (ht j (by simpa using hj)).1) (fun j hj => by simpa using (ht j (by simpa using hj)).2)
  (fun v hv => (Array.all_eq_true_iff_forall_mem.1 h1) v (by simpa using hv))
 cases hq : P.info? ty with
 | none => simp [hq] at hi
 | some i =>
  have hs : cells.size = i.size := by simp [hq] at hi; omega
  simp only [Nat.add_zero] at this
  simp [storeVar, sizeOf, typeInfo, hq, hv, hs, this]
theorem exec_store_val {w : World} {a : Act} {op : Oper} (ty : TypeId) (x y : Operand) (ho : op.op = .store ty x y) (b o : Nat) (hx : a.eval x = .pointer (some ⟨b, o, none⟩)) (v : Value) (hy : a.eval y = v) (cells : Array Value) (hv : v.cells = cells)
  (ht : w.there b o cells.size) (hi : (P.info? ty).map (·.size) = some cells.size) (h1 : cells.all (·.oneCell') = true) : (execOp a.eval op).run P w = .ok .skip (w.setCells b o cells.toList) := by
 unfold execOp
 simp only [ho, hx, hy, Instr.storeAt, Instr.sureAddr, Sem.run_bind, Sem.run_pure, Result.andThen_ok, run_storeVar_val w b o ty v cells hv ht hi h1]
end
theorem there_blk {w : World} {g : Nat} {t : TypeId} {c : Array Value} (h : Blk w g t c) {o n : Nat} (hn : o + n ≤ c.size) : w.there g o n := fun j hj =>
 ⟨by rw [h.cell (o + j), Array.getElem?_eq_getElem (by omega)]; rfl, h.frozen (o + j)⟩
section
variable {P : Program} {ops : Array Oper} {md : Region.Mode} {Q : Exit → Act → World → Prop} {S : World → Prop}
end
section
variable {P : Program} {ops : Array Oper} {md : Region.Mode} {Q : Exit → Act → World → Prop} {S : World → Prop}
theorem held_skip {i fuel : Nat} {listed : Array Bool} {oi : Oper} {a : Act} {w w' : World} (hi : ops[i]? = some oi) (hw : Region.wanted oi (yielded ops a.tmps) = true) (hd : oi.dst = none) (hrun : (execOp a.eval oi).run P w = .ok .skip w') (hS : S w')
  (h : wpAnyH P md ops Q S fuel (listed.setIfInBounds i true) a w') : wpOp P ops Q i (Behind P ops md Q S fuel listed i) a w := by
 unfold wpOp
 simp only [hi, hw, if_true]
 refine .inl ?_
 unfold Oper.wp
 rw [hrun]
 simp only [Oper.upon, hd, Act.put]
 exact ⟨hS, h⟩
theorem exec_store_row {W0 : World} {g : Nat} {t : TypeId} {c0 : Array Value} (hb : Blk W0 g t c0) (c : Array Value) {a : Act} {op : Oper} (ty : TypeId) (x y : Operand) (ho : op.op = .store ty x y) (o : Nat) (hx : a.eval x = .pointer (some ⟨g, o, none⟩)) (v : Value) (hy : a.eval y = v) (vs : List Value) (hv : v.cells = vs.toArray)
  (hn : Nat.ble (o + vs.length) c.size = true) (hi : (P.info? ty).map (·.size) = some vs.length) (h1 : vs.toArray.all (·.oneCell') = true) (c' : Array Value) (hc : putA o vs c = c') : (execOp a.eval op).run P (W0.setRow g c) = .ok .skip (W0.setRow g c') := by
 have hbc : Blk (W0.setRow g c) g t c := blk_setRowH hb
 have := exec_store_val (P := P) (w := W0.setRow g c) ty x y ho g o hx v hy vs.toArray hv (there_blk hbc (by simpa using Nat.le_of_ble_eq_true hn)) (by simpa using hi) h1
 rw [this]
 show Result.ok Next.skip ((W0.setRow g c).setCells g o vs) = _
 rw [setRow_setCells hb, hc]
end
section
variable {P : Program}
theorem wpList_value {ops : Array Oper} {rest : List Oper} {op : Oper} {a : Act} {w w' : World} {Q : Exit → Act → World → Prop} (hgd : op.guard = none) (v : Value) (h : (execOp a.eval op).run P w = .ok (.value v) w') (hk : wpList P ops Q rest (a.put op.dst v) w') : wpList P ops Q (op :: rest) a w :=
 wpList_plain hgd fun K hK => by unfold Oper.wp; rw [h]; exact hK _ _ hk
theorem wpList_skip {ops : Array Oper} {rest : List Oper} {op : Oper} {a : Act} {w w' : World} {Q : Exit → Act → World → Prop} (hgd : op.guard = none) (hd : op.dst = none) (h : (execOp a.eval op).run P w = .ok .skip w') (hk : wpList P ops Q rest a w') : wpList P ops Q (op :: rest) a w :=
 wpList_plain hgd fun K hK => by unfold Oper.wp; rw [h]; simp only [Oper.upon, hd, Act.put]; exact hK _ _ hk
end
section
variable {P : Program}
theorem exec_loadC {a : Act} {o : Oper} {W : World} (ty : TypeId) (x : Operand) (ho : o.op = .load ty x) (p : Addr) (hx : a.eval x = .pointer (some p)) (v : Value) (d : TypeDesc) (hu : P.underlying ty = some d) (hd : (match d with | .struct _ | .array _ _ => true | _ => false) = false) (hc : W.cell? p = some v) : (execOp a.eval o).run P W = .ok (.value v) W := by
 unfold execOp
 simp only [ho, hx, Instr.loadAt, Instr.sureAddr, Sem.run_bind, Sem.run_pure, Result.andThen_ok, load_cell hu hd hc]
end
theorem grown_drew {a W : World} (h : a.grownBy W none) : a.grownBy W.drew none := grown_self h (grown_of_below (show Below W.heap.size W W.drew from ⟨rfl, rfl, rfl, Nat.le_refl _, fun _ _ => rfl⟩)) (by simp)
theorem blk_setO {W : World} {g h : Nat} {t : TypeId} {cs : Array Value} (hb : Blk W g t cs) (hne : g ≠ h) (i : Nat) (v : Value) : Blk (W.setCell ⟨h, i, none⟩ v) g t cs := by
 have hb' : W.heap[g]? = some (.cells cs t (0, 0)) := hb
 show (W.heap.modify h _)[g]? = _
 rw [Array.getElem?_modify, if_neg (fun e => hne e.symm), hb']
structure TA where
 k : Int := 0
 c : Int := 0
 n : Int := 0
 t0 : Int := 0
 t1 : Int := 0
 t2 : Int := 0
 t3 : Int := 0
 p0 : Int := 0
 p1 : Int := 0
 p2 : Int := 0
 p3 : Int := 0
 g : Int := 0
 d : ByteArray := ⟨#[]⟩
 v0 : Int := 0
 v1 : Int := 0
 v2 : Int := 0
 v3 : Int := 0
 x : ByteArray := ⟨#[]⟩
 pa : Option Addr := none
 na : Nat := 0
 xa : Nat := 0
 pb : Option Addr := none
 nb : Nat := 0
 xb : Nat := 0
 y : Int := 0
 r0 : Int := 0
 r1 : Int := 0
 r2 : Int := 0
 r3 : Int := 0
 s0 : Int := 0
 s1 : Int := 0
 s2 : Int := 0
 s3 : Int := 0
 o : ByteArray := ⟨#[]⟩
 f : ByteArray := ⟨#[]⟩
 m0 : Int := 0
 m1 : Int := 0
 m2 : Int := 0
 m3 : Int := 0
 b : Bool := false
def TA.L (t : TA) : Array Value := txA t.k t.c t.n t.t0 t.t1 t.t2 t.t3 t.p0 t.p1 t.p2 t.p3 t.g t.d t.v0 t.v1 t.v2 t.v3 t.x (.slice t.pa t.na t.xa) (.slice t.pb t.nb t.xb) t.y t.r0 t.r1 t.r2 t.r3 t.s0 t.s1 t.s2 t.s3 t.o t.f t.m0 t.m1 t.m2 t.m3 t.b
theorem TA.one (t : TA) : (t.L.all fun x => x.oneCell') = true := by unfold TA.L txA; simp [Value.oneCell']
def txZ : Array Value := ({} : TA).L
def nmA (t : TA) : TA := { k := t.k, g := t.g, d := t.d, v0 := t.v0, v1 := t.v1, v2 := t.v2, v3 := t.v3, x := t.x }
def nmD (t : TA) (j : Nat) : TA := { nmA t with o := bif Nat.blt 0 j then t.o else ⟨#[]⟩, f := bif Nat.blt 1 j then t.f else ⟨#[]⟩, m0 := bif Nat.blt 2 j then t.m0 else 0, m1 := bif Nat.blt 2 j then t.m1 else 0, m2 := bif Nat.blt 2 j then t.m2 else 0, m3 := bif Nat.blt 2 j then t.m3 else 0, b := bif Nat.blt 3 j then t.b else false }
def nmB (t : TA) (j : Nat) : TA := { nmA t with c := bif Nat.blt 0 j then t.c else 0, n := bif Nat.blt 1 j then t.n else 0, p0 := bif Nat.blt 2 j then t.p0 else 0, p1 := bif Nat.blt 2 j then t.p1 else 0, p2 := bif Nat.blt 2 j then t.p2 else 0, p3 := bif Nat.blt 2 j then t.p3 else 0, y := bif Nat.blt 3 j then t.y else 0, r0 := bif Nat.blt 4 j then t.r0 else 0, r1 := bif Nat.blt 4 j then t.r1 else 0, r2 := bif Nat.blt 4 j then t.r2 else 0, r3 := bif Nat.blt 4 j then t.r3 else 0, s0 := bif Nat.blt 5 j then t.s0 else 0, s1 := bif Nat.blt 5 j then t.s1 else 0, s2 := bif Nat.blt 5 j then t.s2 else 0, s3 := bif Nat.blt 5 j then t.s3 else 0 }
def nmH (h : Bool) (t u : TA) : TA := { u with pb := bif h then t.pb else u.pb, nb := bif h then t.nb else u.nb, xb := bif h then t.xb else u.xb }
def nmT (h : Bool) (t u : TA) : TA := { u with t0 := bif h then t.t0 else u.t0, t1 := bif h then t.t1 else u.t1, t2 := bif h then t.t2 else u.t2, t3 := bif h then t.t3 else u.t3 }
def nmX (h : Bool) (t u : TA) : TA := { u with pa := bif h then t.pa else u.pa, na := bif h then t.na else u.na, xa := bif h then t.xa else u.xa }
section
variable {P : Program} {ops : Array Oper} {md : Region.Mode} {Q : Exit → Act → World → Prop} {fuel : Nat} {listed : Array Bool} {a : Act} {w : World} {g : Nat} {t : TypeId} {cs : Array Value} {S : World → Prop} {oi : Oper}
theorem cP (g i d o : Nat) (hi : ops[i]? = some oi) (hS : S w) (h : wpAnyH P md ops Q S fuel (listed.setIfInBounds i true) (a.put (some d) (.pointer (some ⟨g, o, none⟩))) w)
  (hd : oi.dst = some d := by rfl) (hQ : ∀ c a w, Q (.panic c) (a.put oi.dst (.pointer (some ⟨g, o, none⟩))) w → Q (.panic c) a w := by exact fun _ _ _ h => h) (hs : Region.noSelect ops = true := by kernel_rfl) (hf : Region.free md ops listed i = true := by kernel_rfl) (hr : (Region.ready md ops listed).contains i = true := by kernel_rfl) (hw : Region.wanted oi (yielded ops a.tmps) = true := by kernel_rfl)
  (hy : ∀ W, (execOp a.eval oi).run P W = .ok (.value (.pointer (some ⟨g, o, none⟩))) W := by intro W; go_simp) : wpAnyH P md ops Q S (fuel + 1) listed a w :=
 held_take (i := i) (v := .pointer (some ⟨g, o, none⟩)) (some d) hi hs hf hr hQ hd (Or.inl ⟨hw, fun W _ => hy W⟩) hS h
theorem cL (i d : Nat) (v : Value) (hi : ops[i]? = some oi) (hy : ∀ W, S W → (execOp a.eval oi).run P W = .ok (.value v) W) (hS : S w) (h : wpAnyH P md ops Q S fuel (listed.setIfInBounds i true) (a.put (some d) v) w)
  (hd : oi.dst = some d := by rfl) (hQ : ∀ c a w, Q (.panic c) (a.put oi.dst v) w → Q (.panic c) a w := by exact fun _ _ _ h => h) (hs : Region.noSelect ops = true := by kernel_rfl) (hf : Region.free md ops listed i = true := by kernel_rfl) (hr : (Region.ready md ops listed).contains i = true := by kernel_rfl) (hw : Region.wanted oi (yielded ops a.tmps) = true := by kernel_rfl) : wpAnyH P md ops Q S (fuel + 1) listed a w :=
 held_take (i := i) (v := v) (some d) hi hs hf hr hQ hd (Or.inl ⟨hw, hy⟩) hS h
theorem cS {W0 : World} {g' : Nat} {t' : TypeId} {c0 c : Array Value} (hb : Blk W0 g' t' c0) (i : Nat) (ty : TypeId) (x y : Operand) (o : Nat) (v : Value) (vs : List Value) (c' : Array Value) (hi : ops[i]? = some oi) (ho : oi.op = .store ty x y) (hx : a.eval x = .pointer (some ⟨g', o, none⟩)) (hy : a.eval y = v) (hS : S (W0.setRow g' c')) (h : wpAnyH P md ops Q S fuel (listed.setIfInBounds i true) a (W0.setRow g' c'))
  (hv : v.cells = vs.toArray := by rfl) (hd : oi.dst = none := by rfl) (hr : Region.ready md ops listed = [i] := by kernel_rfl) (hw : Region.wanted oi (yielded ops a.tmps) = true := by kernel_rfl) (hn : Nat.ble (o + vs.length) c.size = true := by kernel_rfl) (hz : (P.info? ty).map (·.size) = some vs.length := by kernel_rfl) (h1 : vs.toArray.all (·.oneCell') = true := by simp [Value.oneCell']) (hc : putA o vs c = c' := by kernel_rfl) : wpAnyH P md ops Q S (fuel + 1) listed a (W0.setRow g' c) :=
 held_one hr (held_skip hi hw hd (exec_store_row hb c ty x y ho o hx v hy vs hv hn hz h1 c' hc) hS h)
end
structure NmS (w : World) (t u : TA) (g g3 : Nat) (W : World) : Prop where
 a : Blk W g 42 t.L
 b : Blk W (g + 1) 42 txZ
 c : Blk W g3 42 u.L
 d : w.grownBy W none
 e : w.heap.size = g
 f : g3 = g + 2
theorem NmS.put {w : World} {t u u' : TA} {g g3 : Nat} {W : World} (h : NmS w t u g g3 W) : NmS w t u' g g3 (W.setRow g3 u'.L) := by
 obtain ⟨a, b, c, d, e, f⟩ := h
 exact ⟨(setRow_other W g3 g _ (by omega)).trans a, (setRow_other W g3 (g + 1) _ (by omega)).trans b, blk_setRow c, only_setRow d (by omega) _, e, f⟩
theorem txNamedA_any (t : TA) (w : World) : Calls Tryz.prog 60 #[.agg t.L] w fun e w' => e = .returned (.agg (if t.k = 126 then nmD t 4 else nmX (decide (t.k = 1 ∨ t.k = 2 ∨ t.k = 4)) t (nmT (decide (t.k = 2 ∨ t.k = 4)) t (nmH (decide (t.k = 4)) t (nmB t 6)))).L) ∧ w.grownBy w' none := by
 obtain ⟨R, hR⟩ : ∃ R, (if t.k = 126 then nmD t 4 else nmX (decide (t.k = 1 ∨ t.k = 2 ∨ t.k = 4)) t (nmT (decide (t.k = 2 ∨ t.k = 4)) t (nmH (decide (t.k = 4)) t (nmB t 6)))).L = R := ⟨_, rfl⟩
 have HQ := Lib.hid hR
 rw [hR]
 clear hR
 have hG := only_alloc (only_alloc (World.grownBy.refl w none) (.cells t.L 42)) (.cells txZ 42)
 have hb1 := (Blk.new w 42 t.L).alloc (.cells txZ 42)
 have hb2 := Blk.new (w.alloc (.cells t.L 42)) 42 txZ
 rw [World.size_alloc] at hb2
 go_enter Tryz.func60, Tryz.ntmps60
 go_upto_region 1 with (fail)
 change Code.wp _ _ _ _ ((w.alloc (.cells t.L 42)).alloc (.cells txZ 42))
 obtain ⟨g, hg⟩ : ∃ g, w.heap.size = g := ⟨_, rfl⟩
 have HW := Lib.hid hg
 rw [hg] at hb1 hb2 ⊢
 clear hg
 have hsz : ((w.alloc (.cells t.L 42)).alloc (.cells txZ 42)).heap.size = g + 2 := by rw [World.size_alloc, World.size_alloc, HW.out]
 generalize (w.alloc (.cells t.L 42)).alloc (.cells txZ 42) = w1 at *
 have c0 : w1.cell? ⟨g, 0, none⟩ = some (.int .i64 t.k) := hb1.cell 0
 have c11 : w1.cell? ⟨g, 11, none⟩ = some (.int .u64 t.g) := hb1.cell 11
 have c12 : w1.cell? ⟨g, 12, none⟩ = some (.string t.d) := hb1.cell 12
 have c13 : w1.cell? ⟨g, 13, none⟩ = some (.int .u64 t.v0) := hb1.cell 13
 have c14 : w1.cell? ⟨g, 14, none⟩ = some (.int .u64 t.v1) := hb1.cell 14
 have c15 : w1.cell? ⟨g, 15, none⟩ = some (.int .u64 t.v2) := hb1.cell 15
 have c16 : w1.cell? ⟨g, 16, none⟩ = some (.int .u64 t.v3) := hb1.cell 16
 have c17 : w1.cell? ⟨g, 17, none⟩ = some (.string t.x) := hb1.cell 17
 have HB1 := Lib.hid (hb1.alloc (.cells (nmA t).L 42)); have HB2 := Lib.hid (hb2.alloc (.cells (nmA t).L 42)); have HB3 := Lib.hid (Blk.new w1 42 (nmA t).L)
 have HG := Lib.hid (only_alloc hG (.cells (nmA t).L 42))
 have HSZ := Lib.hid hsz
 clear hb1 hb2 hG hsz
 refine wp_region_list ?_
 iterate 36 go_step
 refine wp_store_row 42 (.tmp 3) (.tmp 14) rfl w1.heap.size (nmA t).L rfl rfl 42 txZ (Blk.new w1 _ txZ) (by kernel_rfl) rfl (TA.one _) ?_
 rw [World.setRow_alloc_new]
 obtain ⟨g3, hg3⟩ : ∃ g, w1.heap.size = g := ⟨_, rfl⟩
 rw [hg3] at HB3 ⊢
 have HNE := Lib.hid (show g3 = g + 2 by rw [← hg3]; exact HSZ.out)
 clear hg3
 generalize w1.alloc (.cells (nmA t).L 42) = w2 at *
 clear c0 c11 c12 c13 c14 c15 c16 c17
 have c0 : w2.cell? ⟨g, 0, none⟩ = some (.int .i64 t.k) := HB1.out.cell 0
 obtain ⟨K, hK⟩ : ∃ K, t.k = K := ⟨_, rfl⟩
 rw [hK] at c0
 have HK := Lib.hid hK
 clear hK
 by_cases h126 : K = 126
 ·subst h126
  go_upto_region 3 with (fail)
  refine wp_region_held (S := fun V => Blk V g 42 t.L) (by kernel_rfl) ?_
  change wpAnyH _ _ _ _ _ _ _ _ w2.drew
  have hS0 : Blk w2.drew g 42 t.L := HB1.out
  have hU0 : Blk w2.drew g3 42 (nmA t).L := HB3.out
  have hT0 : Blk w2.drew (g + 1) 42 txZ := HB2.out
  have hg0 := grown_drew HG.out
  clear c0
  generalize w2.drew = u0 at *
  refine cP g 0 18 29 rfl hS0 ?_
  simp only [Act.put, jb, jz, js]
  refine cL 1 19 (.string t.o) rfl (fun W hW => exec_loadC 9 _ rfl _ rfl _ _ Tryz.underlying9 rfl ((Blk.cell hW 29).trans rfl)) hS0 ?_
  simp only [Act.put, jb, jz, js]
  refine cP g 2 20 30 rfl hS0 ?_
  simp only [Act.put, jb, jz, js]
  refine cL 3 21 (.string t.f) rfl (fun W hW => exec_loadC 9 _ rfl _ rfl _ _ Tryz.underlying9 rfl ((Blk.cell hW 30).trans rfl)) hS0 ?_
  simp only [Act.put, jb, jz, js]
  refine cP g 4 22 31 rfl hS0 ?_
  simp only [Act.put, jb, jz, js]
  refine cL 5 23 (.agg #[.int .u64 t.m0, .int .u64 t.m1, .int .u64 t.m2, .int .u64 t.m3]) rfl (fun W hW => exec_loadW _ rfl rfl ((Blk.cell hW 31).trans rfl) ((Blk.cell hW 32).trans rfl) ((Blk.cell hW 33).trans rfl) ((Blk.cell hW 34).trans rfl)) hS0 ?_
  simp only [Act.put, jb, jz, js]
  refine cP g 6 24 35 rfl hS0 ?_
  simp only [Act.put, jb, jz, js]
  refine cL 7 25 (.bool t.b) rfl (fun W hW => exec_loadC 4 _ rfl _ rfl _ _ Tryz.underlying4 rfl ((Blk.cell hW 35).trans rfl)) hS0 ?_
  simp only [Act.put, jb, jz, js]
  have hSr : ∀ c, Blk (u0.setRow g3 c) g 42 t.L := fun c => (setRow_other u0 g3 g c (by have := HNE.out; omega)).trans hS0
  have hself := setRow_self u0 g3 _ 42 (0, 0) hU0
  rw [← hself]
  clear hself
  refine cP g3 8 26 29 rfl (hSr _) ?_
  simp only [Act.put, jb, jz, js]
  refine cS hU0 9 9 (.tmp 26) (.tmp 19) 29 (.string t.o) [.string t.o] (nmD t 1).L rfl rfl rfl rfl (hSr _) ?_
  (try simp only [Act.put, jb, jz, js])
  refine cP g3 10 27 30 rfl (hSr _) ?_
  simp only [Act.put, jb, jz, js]
  refine cS hU0 11 9 (.tmp 27) (.tmp 21) 30 (.string t.f) [.string t.f] (nmD t 2).L rfl rfl rfl rfl (hSr _) ?_
  (try simp only [Act.put, jb, jz, js])
  refine cP g3 12 28 31 rfl (hSr _) ?_
  simp only [Act.put, jb, jz, js]
  refine cS hU0 13 38 (.tmp 28) (.tmp 23) 31 (.agg #[.int .u64 t.m0, .int .u64 t.m1, .int .u64 t.m2, .int .u64 t.m3]) [.int .u64 t.m0, .int .u64 t.m1, .int .u64 t.m2, .int .u64 t.m3] (nmD t 3).L rfl rfl rfl rfl (hSr _) ?_
  (try simp only [Act.put, jb, jz, js])
  refine cP g3 14 29 35 rfl (hSr _) ?_
  simp only [Act.put, jb, jz, js]
  refine cS hU0 15 4 (.tmp 29) (.tmp 25) 35 (.bool t.b) [.bool t.b] (nmD t 4).L rfl rfl rfl rfl (hSr _) ?_
  (try simp only [Act.put, jb, jz, js])
  refine wpAnyH_done (by kernel_rfl) ?_ _
  replace HB1 := Lib.hid (hSr (nmD t 4).L)
  replace HB2 := Lib.hid (show Blk (u0.setRow g3 (nmD t 4).L) (g + 1) 42 txZ from (setRow_other u0 g3 (g + 1) _ (by have := HNE.out; omega)).trans hT0)
  replace HB3 := Lib.hid (blk_setRow (cs' := (nmD t 4).L) hU0)
  replace HG := Lib.hid (only_setRow (g := g3) hg0 (by have := HW.out; have := HNE.out; omega) (nmD t 4).L)
  clear hS0 hT0 hU0 hg0 hSr
  generalize u0.setRow g3 (nmD t 4).L = w3 at *
  go_upto_region 4 with (fail)
  refine wp_region_list ?_
  refine wpList_load_row rfl 42 (.tmp 3) rfl g3 rfl 42 (nmD t 4).L (0, 0) _ HB3.out Tryz.underlying42 rfl (by kernel_rfl) ?_
  simp only [Act.put, jb, jz, js]
  refine wpList_store_row rfl 42 (.tmp 2) (.tmp 30) rfl (g + 1) (nmD t 4).L rfl rfl 42 txZ HB2.out (by kernel_rfl) rfl (TA.one _) ?_
  have HR2 := Lib.hid (blk_setRow (cs' := (nmD t 4).L) HB2.out)
  have HG3 := Lib.hid (only_setRow (g := g + 1) HG.out (by have := HW.out; omega) (nmD t 4).L)
  generalize w3.setRow (g + 1) (nmD t 4).L = w9 at *
  refine wpList_nil ?_
  simp only [Act.put, jb, jz, js]
  go_wp2_with fail
  refine bodyPost_ret (results_cell_row (fn := Tryz.f60) rfl _ _ _ _ _ _ _ rfl HR2.out Tryz.underlying42 rfl (by kernel_rfl)) rfl ?_
  exact ⟨by rw [← HQ.out]; rw [if_pos HK.out], HG3.out⟩
 have d126 : decide (K = 126) = false := decide_eq_false h126
 have H126 := Lib.hid (show ¬ t.k = 126 by rw [HK.out]; exact h126)
 go_upto_region 5 with (fail)
 refine wp_region_held (S := fun V => Blk V g 42 t.L) (by kernel_rfl) ?_
 change wpAnyH _ _ _ _ _ _ _ _ w2.drew
 have hS0 : Blk w2.drew g 42 t.L := HB1.out
 have hU0 : Blk w2.drew g3 42 (nmA t).L := HB3.out
 have hT0 : Blk w2.drew (g + 1) 42 txZ := HB2.out
 have hg0 := grown_drew HG.out
 clear c0
 generalize w2.drew = u0 at *
 refine cP g 0 31 1 rfl hS0 ?_
 simp only [Act.put, jb, jz, js]
 refine cL 1 32 (.int .u64 t.c) rfl (fun W hW => exec_loadC 23 _ rfl _ rfl _ _ Tryz.underlying23 rfl ((Blk.cell hW 1).trans rfl)) hS0 ?_
 simp only [Act.put, jb, jz, js]
 refine cP g 2 33 2 rfl hS0 ?_
 simp only [Act.put, jb, jz, js]
 refine cL 3 34 (.int .u64 t.n) rfl (fun W hW => exec_loadC 23 _ rfl _ rfl _ _ Tryz.underlying23 rfl ((Blk.cell hW 2).trans rfl)) hS0 ?_
 simp only [Act.put, jb, jz, js]
 refine cP g 4 35 7 rfl hS0 ?_
 simp only [Act.put, jb, jz, js]
 refine cL 5 36 (.agg #[.int .u64 t.p0, .int .u64 t.p1, .int .u64 t.p2, .int .u64 t.p3]) rfl (fun W hW => exec_loadW _ rfl rfl ((Blk.cell hW 7).trans rfl) ((Blk.cell hW 8).trans rfl) ((Blk.cell hW 9).trans rfl) ((Blk.cell hW 10).trans rfl)) hS0 ?_
 simp only [Act.put, jb, jz, js]
 refine cP g 6 37 20 rfl hS0 ?_
 simp only [Act.put, jb, jz, js]
 refine cL 7 38 (.int .u64 t.y) rfl (fun W hW => exec_loadC 23 _ rfl _ rfl _ _ Tryz.underlying23 rfl ((Blk.cell hW 20).trans rfl)) hS0 ?_
 simp only [Act.put, jb, jz, js]
 refine cP g 8 39 21 rfl hS0 ?_
 simp only [Act.put, jb, jz, js]
 refine cL 9 40 (.agg #[.int .u64 t.r0, .int .u64 t.r1, .int .u64 t.r2, .int .u64 t.r3]) rfl (fun W hW => exec_loadW _ rfl rfl ((Blk.cell hW 21).trans rfl) ((Blk.cell hW 22).trans rfl) ((Blk.cell hW 23).trans rfl) ((Blk.cell hW 24).trans rfl)) hS0 ?_
 simp only [Act.put, jb, jz, js]
 refine cP g 10 41 25 rfl hS0 ?_
 simp only [Act.put, jb, jz, js]
 refine cL 11 42 (.agg #[.int .u64 t.s0, .int .u64 t.s1, .int .u64 t.s2, .int .u64 t.s3]) rfl (fun W hW => exec_loadW _ rfl rfl ((Blk.cell hW 25).trans rfl) ((Blk.cell hW 26).trans rfl) ((Blk.cell hW 27).trans rfl) ((Blk.cell hW 28).trans rfl)) hS0 ?_
 simp only [Act.put, jb, jz, js]
 have hSr : ∀ c, Blk (u0.setRow g3 c) g 42 t.L := fun c => (setRow_other u0 g3 g c (by have := HNE.out; omega)).trans hS0
 have hself := setRow_self u0 g3 _ 42 (0, 0) hU0
 rw [← hself]
 clear hself
 refine cP g3 12 43 1 rfl (hSr _) ?_
 simp only [Act.put, jb, jz, js]
 refine cS hU0 13 23 (.tmp 43) (.tmp 32) 1 (.int .u64 t.c) [.int .u64 t.c] (nmB t 1).L rfl rfl rfl rfl (hSr _) ?_
 (try simp only [Act.put, jb, jz, js])
 refine cP g3 14 44 2 rfl (hSr _) ?_
 simp only [Act.put, jb, jz, js]
 refine cS hU0 15 23 (.tmp 44) (.tmp 34) 2 (.int .u64 t.n) [.int .u64 t.n] (nmB t 2).L rfl rfl rfl rfl (hSr _) ?_
 (try simp only [Act.put, jb, jz, js])
 refine cP g3 16 45 7 rfl (hSr _) ?_
 simp only [Act.put, jb, jz, js]
 refine cS hU0 17 38 (.tmp 45) (.tmp 36) 7 (.agg #[.int .u64 t.p0, .int .u64 t.p1, .int .u64 t.p2, .int .u64 t.p3]) [.int .u64 t.p0, .int .u64 t.p1, .int .u64 t.p2, .int .u64 t.p3] (nmB t 3).L rfl rfl rfl rfl (hSr _) ?_
 (try simp only [Act.put, jb, jz, js])
 refine cP g3 18 46 20 rfl (hSr _) ?_
 simp only [Act.put, jb, jz, js]
 refine cS hU0 19 23 (.tmp 46) (.tmp 38) 20 (.int .u64 t.y) [.int .u64 t.y] (nmB t 4).L rfl rfl rfl rfl (hSr _) ?_
 (try simp only [Act.put, jb, jz, js])
 refine cP g3 20 47 21 rfl (hSr _) ?_
 simp only [Act.put, jb, jz, js]
 refine cS hU0 21 38 (.tmp 47) (.tmp 40) 21 (.agg #[.int .u64 t.r0, .int .u64 t.r1, .int .u64 t.r2, .int .u64 t.r3]) [.int .u64 t.r0, .int .u64 t.r1, .int .u64 t.r2, .int .u64 t.r3] (nmB t 5).L rfl rfl rfl rfl (hSr _) ?_
 (try simp only [Act.put, jb, jz, js])
 refine cP g3 22 48 25 rfl (hSr _) ?_
 simp only [Act.put, jb, jz, js]
 refine cS hU0 23 38 (.tmp 48) (.tmp 42) 25 (.agg #[.int .u64 t.s0, .int .u64 t.s1, .int .u64 t.s2, .int .u64 t.s3]) [.int .u64 t.s0, .int .u64 t.s1, .int .u64 t.s2, .int .u64 t.s3] (nmB t 6).L rfl rfl rfl rfl (hSr _) ?_
 (try simp only [Act.put, jb, jz, js])
 refine wpAnyH_done (by kernel_rfl) ?_ _
 replace HB1 := Lib.hid (hSr (nmB t 6).L)
 replace HB2 := Lib.hid (show Blk (u0.setRow g3 (nmB t 6).L) (g + 1) 42 txZ from (setRow_other u0 g3 (g + 1) _ (by have := HNE.out; omega)).trans hT0)
 replace HB3 := Lib.hid (blk_setRow (cs' := (nmB t 6).L) hU0)
 replace HG := Lib.hid (only_setRow (g := g3) hg0 (by have := HW.out; have := HNE.out; omega) (nmB t 6).L)
 clear hS0 hT0 hU0 hg0 hSr
 generalize u0.setRow g3 (nmB t 6).L = w3 at *
 have c0 : w3.cell? ⟨g, 0, none⟩ = some (.int .i64 K) := by rw [← HK.out]; exact HB1.out.cell 0
 have H : NmS w t (nmB t 6) g g3 w3 := ⟨HB1.out, HB2.out, HB3.out, HG.out, HW.out, HNE.out⟩
 clear HB1 HB2 HB3 HG
 go_upto_region 7 with (fail)
 clear d126
 by_cases h4 : K = 4
 ·subst h4
  clear h126
  go_upto_region 10 with (fail)
  refine wp_region_list ?_
  refine wpList_value rfl (.pointer (some ⟨g, 19, none⟩)) (by go_simp <;> rfl) ?_
  simp only [Act.put, jb, jz, js]
  refine wpList_value rfl (.slice t.pb t.nb t.xb) (exec_loadC 40 _ rfl _ rfl _ _ Tryz.underlying40 rfl ((H.a.cell 19).trans rfl)) ?_
  simp only [Act.put, jb, jz, js]
  refine wpList_value rfl (.pointer (some ⟨g3, 19, none⟩)) (by go_simp <;> rfl) ?_
  simp only [Act.put, jb, jz, js]
  rw [← setRow_self w3 g3 _ 42 (0, 0) H.c]
  refine wpList_skip rfl rfl (exec_store_row H.c _ 40 (.tmp 59) (.tmp 58) rfl 19 rfl (.slice t.pb t.nb t.xb) rfl [.slice t.pb t.nb t.xb] rfl (by kernel_rfl) (by kernel_rfl) (by simp [Value.oneCell']) (nmH true t (nmB t 6)).L (by kernel_rfl)) ?_
  refine wpList_nil ?_
  replace H := H.put (u' := nmH true t (nmB t 6))
  generalize w3.setRow g3 (nmH true t (nmB t 6)).L = w4 at *
  clear c0
  go_upto_region 11 with (fail)
  refine wp_region_list ?_
  refine wpList_value rfl (.pointer (some ⟨g, 3, none⟩)) (by go_simp <;> rfl) ?_
  simp only [Act.put, jb, jz, js]
  refine wpList_value rfl (.agg #[.int .u64 t.t0, .int .u64 t.t1, .int .u64 t.t2, .int .u64 t.t3]) (exec_loadW _ rfl rfl ((H.a.cell 3).trans rfl) ((H.a.cell 4).trans rfl) ((H.a.cell 5).trans rfl) ((H.a.cell 6).trans rfl)) ?_
  simp only [Act.put, jb, jz, js]
  refine wpList_value rfl (.pointer (some ⟨g3, 3, none⟩)) (by go_simp <;> rfl) ?_
  simp only [Act.put, jb, jz, js]
  rw [← setRow_self w4 g3 _ 42 (0, 0) H.c]
  refine wpList_skip rfl rfl (exec_store_row H.c _ 38 (.tmp 62) (.tmp 61) rfl 3 rfl (.agg #[.int .u64 t.t0, .int .u64 t.t1, .int .u64 t.t2, .int .u64 t.t3]) rfl [.int .u64 t.t0, .int .u64 t.t1, .int .u64 t.t2, .int .u64 t.t3] rfl (by kernel_rfl) (by kernel_rfl) (by simp [Value.oneCell']) (nmT true t (nmH true t (nmB t 6))).L (by kernel_rfl)) ?_
  refine wpList_nil ?_
  replace H := H.put (u' := nmT true t (nmH true t (nmB t 6)))
  generalize w4.setRow g3 (nmT true t (nmH true t (nmB t 6))).L = w5 at *
  go_upto_region 12 with (fail)
  refine wp_region_list ?_
  refine wpList_value rfl (.pointer (some ⟨g, 18, none⟩)) (by go_simp <;> rfl) ?_
  simp only [Act.put, jb, jz, js]
  refine wpList_value rfl (.slice t.pa t.na t.xa) (exec_loadC 39 _ rfl _ rfl _ _ Tryz.underlying39 rfl ((H.a.cell 18).trans rfl)) ?_
  simp only [Act.put, jb, jz, js]
  refine wpList_value rfl (.pointer (some ⟨g3, 18, none⟩)) (by go_simp <;> rfl) ?_
  simp only [Act.put, jb, jz, js]
  rw [← setRow_self w5 g3 _ 42 (0, 0) H.c]
  refine wpList_skip rfl rfl (exec_store_row H.c _ 39 (.tmp 65) (.tmp 64) rfl 18 rfl (.slice t.pa t.na t.xa) rfl [.slice t.pa t.na t.xa] rfl (by kernel_rfl) (by kernel_rfl) (by simp [Value.oneCell']) (nmX true t (nmT true t (nmH true t (nmB t 6)))).L (by kernel_rfl)) ?_
  refine wpList_nil ?_
  replace H := H.put (u' := nmX true t (nmT true t (nmH true t (nmB t 6))))
  generalize w5.setRow g3 (nmX true t (nmT true t (nmH true t (nmB t 6)))).L = w6 at *
  have HB3 := Lib.hid H.c
  have HB2 := Lib.hid H.b
  have HG := Lib.hid H.d
  clear H
  go_upto_region 13 with (fail)
  refine wp_region_list ?_
  refine wpList_load_row rfl 42 (.tmp 3) rfl g3 rfl 42 (nmX true t (nmT true t (nmH true t (nmB t 6)))).L (0, 0) _ HB3.out Tryz.underlying42 rfl (by kernel_rfl) ?_
  simp only [Act.put, jb, jz, js]
  refine wpList_store_row rfl 42 (.tmp 2) (.tmp 66) rfl (g + 1) (nmX true t (nmT true t (nmH true t (nmB t 6)))).L rfl rfl 42 txZ HB2.out (by kernel_rfl) rfl (TA.one _) ?_
  have HR2 := Lib.hid (blk_setRow (cs' := (nmX true t (nmT true t (nmH true t (nmB t 6)))).L) HB2.out)
  have HG3 := Lib.hid (only_setRow (g := g + 1) HG.out (by have := HW.out; omega) (nmX true t (nmT true t (nmH true t (nmB t 6)))).L)
  generalize w6.setRow (g + 1) (nmX true t (nmT true t (nmH true t (nmB t 6)))).L = w9 at *
  refine wpList_nil ?_
  simp only [Act.put, jb, jz, js]
  go_wp2_with fail
  refine bodyPost_ret (results_cell_row (fn := Tryz.f60) rfl _ _ _ _ _ _ _ rfl HR2.out Tryz.underlying42 rfl (by kernel_rfl)) rfl ?_
  exact ⟨by rw [← HQ.out]; rw [if_neg (by rw [HK.out]; decide), HK.out]; kernel_rfl, HG3.out⟩
 have d4 : decide (K = 4) = false := decide_eq_false h4
 by_cases h2 : K = 2
 ·subst h2
  clear h126 h4
  go_upto_region 11 with (fail)
  refine wp_region_list ?_
  refine wpList_value rfl (.pointer (some ⟨g, 3, none⟩)) (by go_simp <;> rfl) ?_
  simp only [Act.put, jb, jz, js]
  refine wpList_value rfl (.agg #[.int .u64 t.t0, .int .u64 t.t1, .int .u64 t.t2, .int .u64 t.t3]) (exec_loadW _ rfl rfl ((H.a.cell 3).trans rfl) ((H.a.cell 4).trans rfl) ((H.a.cell 5).trans rfl) ((H.a.cell 6).trans rfl)) ?_
  simp only [Act.put, jb, jz, js]
  refine wpList_value rfl (.pointer (some ⟨g3, 3, none⟩)) (by go_simp <;> rfl) ?_
  simp only [Act.put, jb, jz, js]
  rw [← setRow_self w3 g3 _ 42 (0, 0) H.c]
  refine wpList_skip rfl rfl (exec_store_row H.c _ 38 (.tmp 62) (.tmp 61) rfl 3 rfl (.agg #[.int .u64 t.t0, .int .u64 t.t1, .int .u64 t.t2, .int .u64 t.t3]) rfl [.int .u64 t.t0, .int .u64 t.t1, .int .u64 t.t2, .int .u64 t.t3] rfl (by kernel_rfl) (by kernel_rfl) (by simp [Value.oneCell']) (nmT true t (nmB t 6)).L (by kernel_rfl)) ?_
  refine wpList_nil ?_
  replace H := H.put (u' := nmT true t (nmB t 6))
  generalize w3.setRow g3 (nmT true t (nmB t 6)).L = w4 at *
  clear c0
  go_upto_region 12 with (fail)
  refine wp_region_list ?_
  refine wpList_value rfl (.pointer (some ⟨g, 18, none⟩)) (by go_simp <;> rfl) ?_
  simp only [Act.put, jb, jz, js]
  refine wpList_value rfl (.slice t.pa t.na t.xa) (exec_loadC 39 _ rfl _ rfl _ _ Tryz.underlying39 rfl ((H.a.cell 18).trans rfl)) ?_
  simp only [Act.put, jb, jz, js]
  refine wpList_value rfl (.pointer (some ⟨g3, 18, none⟩)) (by go_simp <;> rfl) ?_
  simp only [Act.put, jb, jz, js]
  rw [← setRow_self w4 g3 _ 42 (0, 0) H.c]
  refine wpList_skip rfl rfl (exec_store_row H.c _ 39 (.tmp 65) (.tmp 64) rfl 18 rfl (.slice t.pa t.na t.xa) rfl [.slice t.pa t.na t.xa] rfl (by kernel_rfl) (by kernel_rfl) (by simp [Value.oneCell']) (nmX true t (nmT true t (nmB t 6))).L (by kernel_rfl)) ?_
  refine wpList_nil ?_
  replace H := H.put (u' := nmX true t (nmT true t (nmB t 6)))
  generalize w4.setRow g3 (nmX true t (nmT true t (nmB t 6))).L = w5 at *
  have HB3 := Lib.hid H.c
  have HB2 := Lib.hid H.b
  have HG := Lib.hid H.d
  clear H
  go_upto_region 13 with (fail)
  refine wp_region_list ?_
  refine wpList_load_row rfl 42 (.tmp 3) rfl g3 rfl 42 (nmX true t (nmT true t (nmB t 6))).L (0, 0) _ HB3.out Tryz.underlying42 rfl (by kernel_rfl) ?_
  simp only [Act.put, jb, jz, js]
  refine wpList_store_row rfl 42 (.tmp 2) (.tmp 66) rfl (g + 1) (nmX true t (nmT true t (nmB t 6))).L rfl rfl 42 txZ HB2.out (by kernel_rfl) rfl (TA.one _) ?_
  have HR2 := Lib.hid (blk_setRow (cs' := (nmX true t (nmT true t (nmB t 6))).L) HB2.out)
  have HG3 := Lib.hid (only_setRow (g := g + 1) HG.out (by have := HW.out; omega) (nmX true t (nmT true t (nmB t 6))).L)
  generalize w5.setRow (g + 1) (nmX true t (nmT true t (nmB t 6))).L = w9 at *
  refine wpList_nil ?_
  simp only [Act.put, jb, jz, js]
  go_wp2_with fail
  refine bodyPost_ret (results_cell_row (fn := Tryz.f60) rfl _ _ _ _ _ _ _ rfl HR2.out Tryz.underlying42 rfl (by kernel_rfl)) rfl ?_
  exact ⟨by rw [← HQ.out]; rw [if_neg (by rw [HK.out]; decide), HK.out]; kernel_rfl, HG3.out⟩
 have d2 : decide (K = 2) = false := decide_eq_false h2
 by_cases h1 : K = 1
 ·subst h1
  clear h126 h4 h2
  go_upto_region 12 with (fail)
  refine wp_region_list ?_
  refine wpList_value rfl (.pointer (some ⟨g, 18, none⟩)) (by go_simp <;> rfl) ?_
  simp only [Act.put, jb, jz, js]
  refine wpList_value rfl (.slice t.pa t.na t.xa) (exec_loadC 39 _ rfl _ rfl _ _ Tryz.underlying39 rfl ((H.a.cell 18).trans rfl)) ?_
  simp only [Act.put, jb, jz, js]
  refine wpList_value rfl (.pointer (some ⟨g3, 18, none⟩)) (by go_simp <;> rfl) ?_
  simp only [Act.put, jb, jz, js]
  rw [← setRow_self w3 g3 _ 42 (0, 0) H.c]
  refine wpList_skip rfl rfl (exec_store_row H.c _ 39 (.tmp 65) (.tmp 64) rfl 18 rfl (.slice t.pa t.na t.xa) rfl [.slice t.pa t.na t.xa] rfl (by kernel_rfl) (by kernel_rfl) (by simp [Value.oneCell']) (nmX true t (nmB t 6)).L (by kernel_rfl)) ?_
  refine wpList_nil ?_
  replace H := H.put (u' := nmX true t (nmB t 6))
  generalize w3.setRow g3 (nmX true t (nmB t 6)).L = w4 at *
  clear c0
  have HB3 := Lib.hid H.c
  have HB2 := Lib.hid H.b
  have HG := Lib.hid H.d
  clear H
  go_upto_region 13 with (fail)
  refine wp_region_list ?_
  refine wpList_load_row rfl 42 (.tmp 3) rfl g3 rfl 42 (nmX true t (nmB t 6)).L (0, 0) _ HB3.out Tryz.underlying42 rfl (by kernel_rfl) ?_
  simp only [Act.put, jb, jz, js]
  refine wpList_store_row rfl 42 (.tmp 2) (.tmp 66) rfl (g + 1) (nmX true t (nmB t 6)).L rfl rfl 42 txZ HB2.out (by kernel_rfl) rfl (TA.one _) ?_
  have HR2 := Lib.hid (blk_setRow (cs' := (nmX true t (nmB t 6)).L) HB2.out)
  have HG3 := Lib.hid (only_setRow (g := g + 1) HG.out (by have := HW.out; omega) (nmX true t (nmB t 6)).L)
  generalize w4.setRow (g + 1) (nmX true t (nmB t 6)).L = w9 at *
  refine wpList_nil ?_
  simp only [Act.put, jb, jz, js]
  go_wp2_with fail
  refine bodyPost_ret (results_cell_row (fn := Tryz.f60) rfl _ _ _ _ _ _ _ rfl HR2.out Tryz.underlying42 rfl (by kernel_rfl)) rfl ?_
  exact ⟨by rw [← HQ.out]; rw [if_neg (by rw [HK.out]; decide), HK.out]; kernel_rfl, HG3.out⟩
 have d1 : decide (K = 1) = false := decide_eq_false h1
 have e1 : decide (K = 1 ∨ K = 2 ∨ K = 4) = false := decide_eq_false (by omega)
 have e2 : decide (K = 2 ∨ K = 4) = false := decide_eq_false (by omega)
 have E1 := Lib.hid e1; have E2 := Lib.hid e2; have E4 := Lib.hid d4
 clear e1 e2 h126
 have HB3 := Lib.hid H.c
 have HB2 := Lib.hid H.b
 have HG := Lib.hid H.d
 clear H
 go_upto_region 13 with (fail)
 refine wp_region_list ?_
 refine wpList_load_row rfl 42 (.tmp 3) rfl g3 rfl 42 (nmB t 6).L (0, 0) _ HB3.out Tryz.underlying42 rfl (by kernel_rfl) ?_
 simp only [Act.put, jb, jz, js]
 refine wpList_store_row rfl 42 (.tmp 2) (.tmp 66) rfl (g + 1) (nmB t 6).L rfl rfl 42 txZ HB2.out (by kernel_rfl) rfl (TA.one _) ?_
 have HR2 := Lib.hid (blk_setRow (cs' := (nmB t 6).L) HB2.out)
 have HG3 := Lib.hid (only_setRow (g := g + 1) HG.out (by have := HW.out; omega) (nmB t 6).L)
 generalize w3.setRow (g + 1) (nmB t 6).L = w9 at *
 refine wpList_nil ?_
 simp only [Act.put, jb, jz, js]
 go_wp2_with fail
 refine bodyPost_ret (results_cell_row (fn := Tryz.f60) rfl _ _ _ _ _ _ _ rfl HR2.out Tryz.underlying42 rfl (by kernel_rfl)) rfl ?_
 exact ⟨by rw [← HQ.out]; rw [if_neg H126.out, HK.out, E1.out, E2.out, E4.out]; kernel_rfl, HG3.out⟩
theorem rows_extS {xs ys : List ByteArray} (h : xs.length = ys.length) (hi : ∀ i, i < xs.length → xs.getD i .empty = ys.getD i .empty) : xs = ys := by
 apply List.ext_getElem h
 intro i h1 h2
 have := hi i h1
 rwa [List.getD_eq_getElem?_getD, List.getD_eq_getElem?_getD, List.getElem?_eq_getElem h1, List.getElem?_eq_getElem h2] at this
theorem equalS_any (B B' : Nat) (A A' : Option Addr) (n m c d : Nat) (xs ys : List ByteArray) (w : World) (h : Reads w B 1 A n (xs.map Value.string)) (h' : Reads w B' 1 A' m (ys.map Value.string)) (hn : n ≤ 9223372036854775807) (hm : m ≤ 9223372036854775807) :
  Calls Tryz.prog 98 #[.slice A n c, .slice A' m d] w fun e w' => e = .returned (.bool (decide (xs = ys))) ∧ w.grownBy w' none := by
 have hl : xs.length = n := by have := h.1; simpa using this
 have hl' : ys.length = m := by have := h'.1; simpa using this
 by_cases hnm : n = m
 ·subst hnm
  have HL := Lib.hid hl; have HL' := Lib.hid hl'
  have qe : ((n : Int) != (n : Int)) = false := by simp
  clear hl hl'
  go_enter Tryz.func98, Tryz.ntmps98
  go_wp2_with fail
  clear qe
  go_loopw [13] (fun i wr => ∃ k : Nat, i = .int .i64 k ∧ k ≤ n ∧ (∃ q, wr = w.drewN q) ∧ Hid (∀ i : Nat, i < k → xs.getD i .empty = ys.getD i .empty)) (fun i _ => n - (intOf i).toNat)
  case atStart => exact ⟨0, rfl, by omega, ⟨0, rfl⟩, Lib.hid (by intro i h1; omega)⟩
  case round =>
   obtain ⟨k, rfl, hk, ⟨q, rfl⟩, h2⟩ := hrel
   have h2' := Lib.hid h2.out
   by_cases hlt : k < n
   ·obtain ⟨g, off, rfl, hg, hc⟩ := Reads.vals Value.string .empty h hlt
    obtain ⟨g', off', rfl, hg', hc'⟩ := Reads.vals Value.string .empty h' hlt
    have c0 := hc k hlt; have d0 := hc' k hlt
    have q1 : (k : Int) < (n : Int) := by omega
    obtain ⟨x, hx⟩ : ∃ x, xs.getD k .empty = x := ⟨_, rfl⟩
    obtain ⟨y, hy⟩ : ∃ y, ys.getD k .empty = y := ⟨_, rfl⟩
    rw [hx] at c0
    rw [hy] at d0
    have HX := Lib.hid hx; have HY := Lib.hid hy
    clear h h' h2 hc hc' hx hy
    by_cases hxy : x = y
    ·have heq : (x.toList == y.toList) = true := by rw [hxy]; simp
     have hne : (x.toList != y.toList) = false := by rw [bne, heq]; rfl
     have HE := Lib.hid hxy
     clear hxy
     go_wp2_with fail
     go_quiet (fail)
     go_wp2_with fail
     refine ⟨⟨k + 1, by go_num, by omega, ⟨_, rfl⟩, Lib.hid fun i hi => ?_⟩, by simp [intOf]; omega⟩
     by_cases hik : i = k
     ·rw [hik, HX.out, HY.out, HE.out]
     ·exact h2'.out i (by omega)
    ·have heq := str_ne hxy
     have hne : (x.toList != y.toList) = true := by rw [bne, heq]; rfl
     have hf : decide (xs = ys) = false := decide_eq_false (fun e => hxy (by rw [← HX.out, ← HY.out, e]))
     have HF := Lib.hid hf
     clear hxy hf
     go_wp2_with fail
     go_quiet (fail)
     go_wp2_with fail
     go_ret
     exact ⟨by rw [HF.out]; rfl, grown_of_below (below_drewN (below_drewN (Below.refl _ w) _) _)⟩
   ·have he : xs = ys := rows_extS (by rw [HL.out, HL'.out]) fun i hi => h2'.out i (by have := HL.out; omega)
    have HE := Lib.hid he
    have q0 : (n : Int) ≤ (k : Int) := by omega
    clear he h2
    go_wp2_with fail
    go_ret
    exact ⟨by rw [decide_eq_true HE.out]; rfl, grown_of_below (below_drewN (Below.refl _ _) _)⟩
 ·have hne : ¬ xs = ys := by rintro rfl; exact hnm (hl.symm.trans hl')
  have HE := Lib.hid hne
  have hb : ((n : Int) != (m : Int)) = true := by simp; omega
  clear hne hnm hl hl'
  go_enter Tryz.func98, Tryz.ntmps98
  go_wp2_with fail
  go_ret
  exact ⟨by rw [decide_eq_false HE.out]; rfl, World.grownBy.refl _ _⟩
end Go.Proofs.YtgclnikdkfpflaaGreatDoor
