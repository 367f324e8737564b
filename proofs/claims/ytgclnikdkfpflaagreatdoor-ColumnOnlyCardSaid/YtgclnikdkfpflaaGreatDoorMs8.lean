/- Merged: CoE. -/
import Derived.Test.YtgclnikdkfpflaaGreatDoorMs1
import Derived.Test.YtgclnikdkfpflaaGreatDoorMs7
namespace Go.Proofs.YtgclnikdkfpflaaGreatDoor
open Go.RowKit Go.Shelf
open List renaming set_cons_zero → jz, set_cons_succ → js, setIfInBounds_toArray → jb
set_option linter.unusedVariables false
set_option linter.unusedSimpArgs false
set_option maxRecDepth 100000
set_option maxHeartbeats 16000000
theorem txA_one (kind chain nonce tip0 tip1 tip2 tip3 p0 p1 p2 p3 gas : Int) (dst : ByteArray) (v0 v1 v2 v3 : Int) (data : ByteArray) (pa : Option Addr) (na xa : Nat) (pb : Option Addr) (nb xb : Nat) (y r0 r1 r2 r3 s0 s1 s2 s3 : Int) (source frm : ByteArray) (mint0 mint1 mint2 mint3 : Int) (system : Bool) :
  ((txA kind chain nonce tip0 tip1 tip2 tip3 p0 p1 p2 p3 gas dst v0 v1 v2 v3 data (.slice pa na xa) (.slice pb nb xb) y r0 r1 r2 r3 s0 s1 s2 s3 source frm mint0 mint1 mint2 mint3 system).all fun x => x.oneCell') = true := by unfold txA; simp [Value.oneCell']
section
variable {P : Program}
theorem exec_loadC {a : Act} {o : Oper} {W : World} (ty : TypeId) (x : Operand) (ho : o.op = .load ty x) (p : Addr) (hx : a.eval x = .pointer (some p)) (v : Value) (d : TypeDesc) (hu : P.underlying ty = some d) (hd : (match d with | .struct _ | .array _ _ => true | _ => false) = false) (hc : W.cell? p = some v) : (execOp a.eval o).run P W = .ok (.value v) W := by
 unfold execOp
 simp only [ho, hx, Instr.loadAt, Instr.sureAddr, Sem.run_bind, Sem.run_pure, Result.andThen_ok, load_cell hu hd hc]
end
def txZ : Array Value := txA 0 0 0 0 0 0 0 0 0 0 0 0 ⟨#[]⟩ 0 0 0 0 ⟨#[]⟩ (.slice none 0 0) (.slice none 0 0) 0 0 0 0 0 0 0 0 0 ⟨#[]⟩ ⟨#[]⟩ 0 0 0 0 false
theorem grown_drew {a W : World} (h : a.grownBy W none) : a.grownBy W.drew none := grown_self h (grown_of_below (show Below W.heap.size W W.drew from ⟨rfl, rfl, rfl, Nat.le_refl _, fun _ _ => rfl⟩)) (by simp)
theorem blk_setO {W : World} {g h : Nat} {t : TypeId} {cs : Array Value} (hb : Blk W g t cs) (hne : g ≠ h) (i : Nat) (v : Value) : Blk (W.setCell ⟨h, i, none⟩ v) g t cs := by
 have hb' : W.heap[g]? = some (.cells cs t (0, 0)) := hb
 show (W.heap.modify h _)[g]? = _
 rw [Array.getElem?_modify, if_neg (fun e => hne e.symm), hb']
theorem txNamedA_0 (chain nonce tip0 tip1 tip2 tip3 p0 p1 p2 p3 gas : Int) (dst : ByteArray) (v0 v1 v2 v3 : Int) (data : ByteArray) (pa : Option Addr) (na xa : Nat) (pb : Option Addr) (nb xb : Nat) (y r0 r1 r2 r3 s0 s1 s2 s3 : Int) (source frm : ByteArray) (mint0 mint1 mint2 mint3 : Int) (system : Bool) (w : World) : Calls Tryz.prog 60 #[.agg (txA 0 chain nonce tip0 tip1 tip2 tip3 p0 p1 p2 p3 gas dst v0 v1 v2 v3 data (.slice pa na xa) (.slice pb nb xb) y r0 r1 r2 r3 s0 s1 s2 s3 source frm mint0 mint1 mint2 mint3 system)] w fun e w' => e = .returned (.agg (txA 0 chain nonce 0 0 0 0 p0 p1 p2 p3 gas dst v0 v1 v2 v3 data (.slice none 0 0) (.slice none 0 0) y r0 r1 r2 r3 s0 s1 s2 s3 ⟨#[]⟩ ⟨#[]⟩ 0 0 0 0 false)) ∧ w.grownBy w' none := by
 have hG := only_alloc (only_alloc (World.grownBy.refl w none) (.cells (txA 0 chain nonce tip0 tip1 tip2 tip3 p0 p1 p2 p3 gas dst v0 v1 v2 v3 data (.slice pa na xa) (.slice pb nb xb) y r0 r1 r2 r3 s0 s1 s2 s3 source frm mint0 mint1 mint2 mint3 system) 42)) (.cells txZ 42)
 have hb1 := (Blk.new w 42 (txA 0 chain nonce tip0 tip1 tip2 tip3 p0 p1 p2 p3 gas dst v0 v1 v2 v3 data (.slice pa na xa) (.slice pb nb xb) y r0 r1 r2 r3 s0 s1 s2 s3 source frm mint0 mint1 mint2 mint3 system)).alloc (.cells txZ 42)
 have hb2 := Blk.new (w.alloc (.cells (txA 0 chain nonce tip0 tip1 tip2 tip3 p0 p1 p2 p3 gas dst v0 v1 v2 v3 data (.slice pa na xa) (.slice pb nb xb) y r0 r1 r2 r3 s0 s1 s2 s3 source frm mint0 mint1 mint2 mint3 system) 42)) 42 txZ
 rw [World.size_alloc] at hb2
 go_enter Tryz.func60, Tryz.ntmps60
 go_upto_region 1 with (fail)
 change Code.wp _ _ _ _ ((w.alloc (.cells (txA 0 chain nonce tip0 tip1 tip2 tip3 p0 p1 p2 p3 gas dst v0 v1 v2 v3 data (.slice pa na xa) (.slice pb nb xb) y r0 r1 r2 r3 s0 s1 s2 s3 source frm mint0 mint1 mint2 mint3 system) 42)).alloc (.cells txZ 42))
 obtain ⟨g, hg⟩ : ∃ g, w.heap.size = g := ⟨_, rfl⟩
 have HW := Lib.hid hg
 rw [hg] at hb1 hb2 ⊢
 clear hg
 have hsz : ((w.alloc (.cells (txA 0 chain nonce tip0 tip1 tip2 tip3 p0 p1 p2 p3 gas dst v0 v1 v2 v3 data (.slice pa na xa) (.slice pb nb xb) y r0 r1 r2 r3 s0 s1 s2 s3 source frm mint0 mint1 mint2 mint3 system) 42)).alloc (.cells txZ 42)).heap.size = g + 2 := by rw [World.size_alloc, World.size_alloc, HW.out]
 generalize (w.alloc (.cells (txA 0 chain nonce tip0 tip1 tip2 tip3 p0 p1 p2 p3 gas dst v0 v1 v2 v3 data (.slice pa na xa) (.slice pb nb xb) y r0 r1 r2 r3 s0 s1 s2 s3 source frm mint0 mint1 mint2 mint3 system) 42)).alloc (.cells txZ 42) = w1 at *
 have c0 : w1.cell? ⟨g, 0, none⟩ = some (.int .i64 0) := hb1.cell 0
 have c11 : w1.cell? ⟨g, 11, none⟩ = some (.int .u64 gas) := hb1.cell 11
 have c12 : w1.cell? ⟨g, 12, none⟩ = some (.string dst) := hb1.cell 12
 have c13 : w1.cell? ⟨g, 13, none⟩ = some (.int .u64 v0) := hb1.cell 13
 have c14 : w1.cell? ⟨g, 14, none⟩ = some (.int .u64 v1) := hb1.cell 14
 have c15 : w1.cell? ⟨g, 15, none⟩ = some (.int .u64 v2) := hb1.cell 15
 have c16 : w1.cell? ⟨g, 16, none⟩ = some (.int .u64 v3) := hb1.cell 16
 have c17 : w1.cell? ⟨g, 17, none⟩ = some (.string data) := hb1.cell 17
 have HB1 := Lib.hid (hb1.alloc (.cells (txA 0 0 0 0 0 0 0 0 0 0 0 gas dst v0 v1 v2 v3 data (.slice none 0 0) (.slice none 0 0) 0 0 0 0 0 0 0 0 0 ⟨#[]⟩ ⟨#[]⟩ 0 0 0 0 false) 42)); have HB2 := Lib.hid (hb2.alloc (.cells (txA 0 0 0 0 0 0 0 0 0 0 0 gas dst v0 v1 v2 v3 data (.slice none 0 0) (.slice none 0 0) 0 0 0 0 0 0 0 0 0 ⟨#[]⟩ ⟨#[]⟩ 0 0 0 0 false) 42)); have HB3 := Lib.hid (Blk.new w1 42 (txA 0 0 0 0 0 0 0 0 0 0 0 gas dst v0 v1 v2 v3 data (.slice none 0 0) (.slice none 0 0) 0 0 0 0 0 0 0 0 0 ⟨#[]⟩ ⟨#[]⟩ 0 0 0 0 false))
 have HG := Lib.hid (only_alloc hG (.cells (txA 0 0 0 0 0 0 0 0 0 0 0 gas dst v0 v1 v2 v3 data (.slice none 0 0) (.slice none 0 0) 0 0 0 0 0 0 0 0 0 ⟨#[]⟩ ⟨#[]⟩ 0 0 0 0 false) 42))
 have HSZ := Lib.hid hsz
 clear hb1 hb2 hG hsz
 refine wp_region_list ?_
 iterate 36 go_step
 refine wp_store_row 42 (.tmp 3) (.tmp 14) rfl w1.heap.size (txA 0 0 0 0 0 0 0 0 0 0 0 gas dst v0 v1 v2 v3 data (.slice none 0 0) (.slice none 0 0) 0 0 0 0 0 0 0 0 0 ⟨#[]⟩ ⟨#[]⟩ 0 0 0 0 false) rfl rfl 42 txZ (Blk.new w1 _ txZ) (by kernel_rfl) rfl (txA_one _ _ _ _ _ _ _ _ _ _ _ _ _ _ _ _ _ _ _ _ _ _ _ _ _ _ _ _ _ _ _ _ _ _ _ _ _ _ _ _) ?_
 rw [World.setRow_alloc_new]
 obtain ⟨g3, hg3⟩ : ∃ g, w1.heap.size = g := ⟨_, rfl⟩
 rw [hg3] at HB3 ⊢
 have HNE := Lib.hid (show g3 = g + 2 by rw [← hg3]; exact HSZ.out)
 clear hg3
 generalize w1.alloc (.cells (txA 0 0 0 0 0 0 0 0 0 0 0 gas dst v0 v1 v2 v3 data (.slice none 0 0) (.slice none 0 0) 0 0 0 0 0 0 0 0 0 ⟨#[]⟩ ⟨#[]⟩ 0 0 0 0 false) 42) = w2 at *
 clear c0 c11 c12 c13 c14 c15 c16 c17
 have c0 : w2.cell? ⟨g, 0, none⟩ = some (.int .i64 0) := HB1.out.cell 0
 go_upto_region 5 with (fail)
 refine wp_region_held (S := fun V => Blk V g 42 ((txA 0 chain nonce tip0 tip1 tip2 tip3 p0 p1 p2 p3 gas dst v0 v1 v2 v3 data (.slice pa na xa) (.slice pb nb xb) y r0 r1 r2 r3 s0 s1 s2 s3 source frm mint0 mint1 mint2 mint3 system))) (by kernel_rfl) ?_
 change wpAnyH _ _ _ _ _ _ _ _ w2.drew
 have hS0 : Blk w2.drew g 42 (txA 0 chain nonce tip0 tip1 tip2 tip3 p0 p1 p2 p3 gas dst v0 v1 v2 v3 data (.slice pa na xa) (.slice pb nb xb) y r0 r1 r2 r3 s0 s1 s2 s3 source frm mint0 mint1 mint2 mint3 system) := HB1.out
 have hT0 : Blk w2.drew (g + 1) 42 txZ := HB2.out
 have hU0 : Blk w2.drew g3 42 (txA 0 0 0 0 0 0 0 0 0 0 0 gas dst v0 v1 v2 v3 data (.slice none 0 0) (.slice none 0 0) 0 0 0 0 0 0 0 0 0 ⟨#[]⟩ ⟨#[]⟩ 0 0 0 0 false) := HB3.out
 have hg0 : w.grownBy w2.drew none := grown_drew HG.out
 clear c0
 generalize w2.drew = u0 at *
 refine zt 0 (.pointer (some ⟨g, 1, none⟩)) (some 31) rfl (fun W hW => by go_simp) hS0 ?_
 simp only [Act.put, jb, jz, js]
 refine zt 1 (.int .u64 chain) (some 32) rfl (fun W hW => exec_loadC 23 _ rfl _ rfl _ _ Tryz.underlying23 rfl ((Blk.cell hW 1).trans rfl)) hS0 ?_
 simp only [Act.put, jb, jz, js]
 refine zt 2 (.pointer (some ⟨g, 2, none⟩)) (some 33) rfl (fun W hW => by go_simp) hS0 ?_
 simp only [Act.put, jb, jz, js]
 refine zt 3 (.int .u64 nonce) (some 34) rfl (fun W hW => exec_loadC 23 _ rfl _ rfl _ _ Tryz.underlying23 rfl ((Blk.cell hW 2).trans rfl)) hS0 ?_
 simp only [Act.put, jb, jz, js]
 refine zt 4 (.pointer (some ⟨g, 7, none⟩)) (some 35) rfl (fun W hW => by go_simp) hS0 ?_
 simp only [Act.put, jb, jz, js]
 refine zt 5 (.agg #[.int .u64 p0, .int .u64 p1, .int .u64 p2, .int .u64 p3]) (some 36) rfl (fun W hW => exec_loadW _ rfl rfl ((Blk.cell hW 7).trans rfl) ((Blk.cell hW 8).trans rfl) ((Blk.cell hW 9).trans rfl) ((Blk.cell hW 10).trans rfl)) hS0 ?_
 simp only [Act.put, jb, jz, js]
 refine zt 6 (.pointer (some ⟨g, 20, none⟩)) (some 37) rfl (fun W hW => by go_simp) hS0 ?_
 simp only [Act.put, jb, jz, js]
 refine zt 7 (.int .u64 y) (some 38) rfl (fun W hW => exec_loadC 23 _ rfl _ rfl _ _ Tryz.underlying23 rfl ((Blk.cell hW 20).trans rfl)) hS0 ?_
 simp only [Act.put, jb, jz, js]
 refine zt 8 (.pointer (some ⟨g, 21, none⟩)) (some 39) rfl (fun W hW => by go_simp) hS0 ?_
 simp only [Act.put, jb, jz, js]
 refine zt 9 (.agg #[.int .u64 r0, .int .u64 r1, .int .u64 r2, .int .u64 r3]) (some 40) rfl (fun W hW => exec_loadW _ rfl rfl ((Blk.cell hW 21).trans rfl) ((Blk.cell hW 22).trans rfl) ((Blk.cell hW 23).trans rfl) ((Blk.cell hW 24).trans rfl)) hS0 ?_
 simp only [Act.put, jb, jz, js]
 refine zt 10 (.pointer (some ⟨g, 25, none⟩)) (some 41) rfl (fun W hW => by go_simp) hS0 ?_
 simp only [Act.put, jb, jz, js]
 refine zt 11 (.agg #[.int .u64 s0, .int .u64 s1, .int .u64 s2, .int .u64 s3]) (some 42) rfl (fun W hW => exec_loadW _ rfl rfl ((Blk.cell hW 25).trans rfl) ((Blk.cell hW 26).trans rfl) ((Blk.cell hW 27).trans rfl) ((Blk.cell hW 28).trans rfl)) hS0 ?_
 simp only [Act.put, jb, jz, js]
 have hSr : ∀ c, Blk (u0.setRow g3 c) g 42 ((txA 0 chain nonce tip0 tip1 tip2 tip3 p0 p1 p2 p3 gas dst v0 v1 v2 v3 data (.slice pa na xa) (.slice pb nb xb) y r0 r1 r2 r3 s0 s1 s2 s3 source frm mint0 mint1 mint2 mint3 system)) := fun c => (setRow_other u0 g3 g c (by have := HNE.out; omega)).trans hS0
 have hself := setRow_self u0 g3 _ 42 (0, 0) hU0
 rw [← hself]
 clear hself
 refine zt 12 (.pointer (some ⟨g3, 1, none⟩)) (some 43) rfl (fun W hW => by go_simp) (hSr _) ?_
 simp only [Act.put, jb, jz, js]
 refine held_one (i := 13) (by kernel_rfl) ?_
 refine held_skip rfl rfl rfl (exec_store_row hU0 _ 23 (.tmp 43) (.tmp 32) rfl 1 rfl (.int .u64 chain) rfl [.int .u64 chain] rfl (by kernel_rfl) (by kernel_rfl) (by simp [Value.oneCell']) (txA 0 chain 0 0 0 0 0 0 0 0 0 gas dst v0 v1 v2 v3 data (.slice none 0 0) (.slice none 0 0) 0 0 0 0 0 0 0 0 0 ⟨#[]⟩ ⟨#[]⟩ 0 0 0 0 false) (by kernel_rfl)) (hSr _) ?_
 (try simp only [Act.put, jb, jz, js])
 refine zt 14 (.pointer (some ⟨g3, 2, none⟩)) (some 44) rfl (fun W hW => by go_simp) (hSr _) ?_
 simp only [Act.put, jb, jz, js]
 refine held_one (i := 15) (by kernel_rfl) ?_
 refine held_skip rfl rfl rfl (exec_store_row hU0 _ 23 (.tmp 44) (.tmp 34) rfl 2 rfl (.int .u64 nonce) rfl [.int .u64 nonce] rfl (by kernel_rfl) (by kernel_rfl) (by simp [Value.oneCell']) (txA 0 chain nonce 0 0 0 0 0 0 0 0 gas dst v0 v1 v2 v3 data (.slice none 0 0) (.slice none 0 0) 0 0 0 0 0 0 0 0 0 ⟨#[]⟩ ⟨#[]⟩ 0 0 0 0 false) (by kernel_rfl)) (hSr _) ?_
 (try simp only [Act.put, jb, jz, js])
 refine zt 16 (.pointer (some ⟨g3, 7, none⟩)) (some 45) rfl (fun W hW => by go_simp) (hSr _) ?_
 simp only [Act.put, jb, jz, js]
 refine held_one (i := 17) (by kernel_rfl) ?_
 refine held_skip rfl rfl rfl (exec_store_row hU0 _ 38 (.tmp 45) (.tmp 36) rfl 7 rfl (.agg #[.int .u64 p0, .int .u64 p1, .int .u64 p2, .int .u64 p3]) rfl [.int .u64 p0, .int .u64 p1, .int .u64 p2, .int .u64 p3] rfl (by kernel_rfl) (by kernel_rfl) (by simp [Value.oneCell']) (txA 0 chain nonce 0 0 0 0 p0 p1 p2 p3 gas dst v0 v1 v2 v3 data (.slice none 0 0) (.slice none 0 0) 0 0 0 0 0 0 0 0 0 ⟨#[]⟩ ⟨#[]⟩ 0 0 0 0 false) (by kernel_rfl)) (hSr _) ?_
 (try simp only [Act.put, jb, jz, js])
 refine zt 18 (.pointer (some ⟨g3, 20, none⟩)) (some 46) rfl (fun W hW => by go_simp) (hSr _) ?_
 simp only [Act.put, jb, jz, js]
 refine held_one (i := 19) (by kernel_rfl) ?_
 refine held_skip rfl rfl rfl (exec_store_row hU0 _ 23 (.tmp 46) (.tmp 38) rfl 20 rfl (.int .u64 y) rfl [.int .u64 y] rfl (by kernel_rfl) (by kernel_rfl) (by simp [Value.oneCell']) (txA 0 chain nonce 0 0 0 0 p0 p1 p2 p3 gas dst v0 v1 v2 v3 data (.slice none 0 0) (.slice none 0 0) y 0 0 0 0 0 0 0 0 ⟨#[]⟩ ⟨#[]⟩ 0 0 0 0 false) (by kernel_rfl)) (hSr _) ?_
 (try simp only [Act.put, jb, jz, js])
 refine zt 20 (.pointer (some ⟨g3, 21, none⟩)) (some 47) rfl (fun W hW => by go_simp) (hSr _) ?_
 simp only [Act.put, jb, jz, js]
 refine held_one (i := 21) (by kernel_rfl) ?_
 refine held_skip rfl rfl rfl (exec_store_row hU0 _ 38 (.tmp 47) (.tmp 40) rfl 21 rfl (.agg #[.int .u64 r0, .int .u64 r1, .int .u64 r2, .int .u64 r3]) rfl [.int .u64 r0, .int .u64 r1, .int .u64 r2, .int .u64 r3] rfl (by kernel_rfl) (by kernel_rfl) (by simp [Value.oneCell']) (txA 0 chain nonce 0 0 0 0 p0 p1 p2 p3 gas dst v0 v1 v2 v3 data (.slice none 0 0) (.slice none 0 0) y r0 r1 r2 r3 0 0 0 0 ⟨#[]⟩ ⟨#[]⟩ 0 0 0 0 false) (by kernel_rfl)) (hSr _) ?_
 (try simp only [Act.put, jb, jz, js])
 refine zt 22 (.pointer (some ⟨g3, 25, none⟩)) (some 48) rfl (fun W hW => by go_simp) (hSr _) ?_
 simp only [Act.put, jb, jz, js]
 refine held_one (i := 23) (by kernel_rfl) ?_
 refine held_skip rfl rfl rfl (exec_store_row hU0 _ 38 (.tmp 48) (.tmp 42) rfl 25 rfl (.agg #[.int .u64 s0, .int .u64 s1, .int .u64 s2, .int .u64 s3]) rfl [.int .u64 s0, .int .u64 s1, .int .u64 s2, .int .u64 s3] rfl (by kernel_rfl) (by kernel_rfl) (by simp [Value.oneCell']) (txA 0 chain nonce 0 0 0 0 p0 p1 p2 p3 gas dst v0 v1 v2 v3 data (.slice none 0 0) (.slice none 0 0) y r0 r1 r2 r3 s0 s1 s2 s3 ⟨#[]⟩ ⟨#[]⟩ 0 0 0 0 false) (by kernel_rfl)) (hSr _) ?_
 (try simp only [Act.put, jb, jz, js])
 refine wpAnyH_done (by kernel_rfl) ?_ _
 replace HB1 := Lib.hid (show Blk (u0.setRow g3 (txA 0 chain nonce 0 0 0 0 p0 p1 p2 p3 gas dst v0 v1 v2 v3 data (.slice none 0 0) (.slice none 0 0) y r0 r1 r2 r3 s0 s1 s2 s3 ⟨#[]⟩ ⟨#[]⟩ 0 0 0 0 false)) g 42 (txA 0 chain nonce tip0 tip1 tip2 tip3 p0 p1 p2 p3 gas dst v0 v1 v2 v3 data (.slice pa na xa) (.slice pb nb xb) y r0 r1 r2 r3 s0 s1 s2 s3 source frm mint0 mint1 mint2 mint3 system) from (setRow_other u0 g3 g _ (by have := HNE.out; omega)).trans hS0)
 replace HB2 := Lib.hid (show Blk (u0.setRow g3 (txA 0 chain nonce 0 0 0 0 p0 p1 p2 p3 gas dst v0 v1 v2 v3 data (.slice none 0 0) (.slice none 0 0) y r0 r1 r2 r3 s0 s1 s2 s3 ⟨#[]⟩ ⟨#[]⟩ 0 0 0 0 false)) (g + 1) 42 txZ from (setRow_other u0 g3 (g + 1) _ (by have := HNE.out; omega)).trans hT0)
 replace HB3 := Lib.hid (blk_setRow (cs' := (txA 0 chain nonce 0 0 0 0 p0 p1 p2 p3 gas dst v0 v1 v2 v3 data (.slice none 0 0) (.slice none 0 0) y r0 r1 r2 r3 s0 s1 s2 s3 ⟨#[]⟩ ⟨#[]⟩ 0 0 0 0 false)) hU0)
 replace HG := Lib.hid (only_setRow (g := g3) hg0 (by have := HW.out; have := HNE.out; omega) (txA 0 chain nonce 0 0 0 0 p0 p1 p2 p3 gas dst v0 v1 v2 v3 data (.slice none 0 0) (.slice none 0 0) y r0 r1 r2 r3 s0 s1 s2 s3 ⟨#[]⟩ ⟨#[]⟩ 0 0 0 0 false))
 clear hS0 hT0 hU0 hg0 hSr
 generalize u0.setRow g3 (txA 0 chain nonce 0 0 0 0 p0 p1 p2 p3 gas dst v0 v1 v2 v3 data (.slice none 0 0) (.slice none 0 0) y r0 r1 r2 r3 s0 s1 s2 s3 ⟨#[]⟩ ⟨#[]⟩ 0 0 0 0 false) = w3 at *
 have c0 : w3.cell? ⟨g, 0, none⟩ = some (.int .i64 0) := HB1.out.cell 0
 go_upto_region 13 with (fail)
 refine wp_region_list ?_
 refine wpList_load_row rfl 42 (.tmp 3) rfl g3 rfl 42 (txA 0 chain nonce 0 0 0 0 p0 p1 p2 p3 gas dst v0 v1 v2 v3 data (.slice none 0 0) (.slice none 0 0) y r0 r1 r2 r3 s0 s1 s2 s3 ⟨#[]⟩ ⟨#[]⟩ 0 0 0 0 false) (0, 0) _ HB3.out Tryz.underlying42 rfl (by kernel_rfl) ?_
 simp only [Act.put, jb, jz, js]
 refine wpList_store_row rfl 42 (.tmp 2) (.tmp 66) rfl (g + 1) (txA 0 chain nonce 0 0 0 0 p0 p1 p2 p3 gas dst v0 v1 v2 v3 data (.slice none 0 0) (.slice none 0 0) y r0 r1 r2 r3 s0 s1 s2 s3 ⟨#[]⟩ ⟨#[]⟩ 0 0 0 0 false) rfl rfl 42 txZ HB2.out (by kernel_rfl) rfl (txA_one _ _ _ _ _ _ _ _ _ _ _ _ _ _ _ _ _ _ _ _ _ _ _ _ _ _ _ _ _ _ _ _ _ _ _ _ _ _ _ _) ?_
 have HR2 := Lib.hid (blk_setRow (cs' := (txA 0 chain nonce 0 0 0 0 p0 p1 p2 p3 gas dst v0 v1 v2 v3 data (.slice none 0 0) (.slice none 0 0) y r0 r1 r2 r3 s0 s1 s2 s3 ⟨#[]⟩ ⟨#[]⟩ 0 0 0 0 false)) HB2.out)
 have HG3 := Lib.hid (only_setRow (g := g + 1) HG.out (by have := HW.out; omega) (txA 0 chain nonce 0 0 0 0 p0 p1 p2 p3 gas dst v0 v1 v2 v3 data (.slice none 0 0) (.slice none 0 0) y r0 r1 r2 r3 s0 s1 s2 s3 ⟨#[]⟩ ⟨#[]⟩ 0 0 0 0 false))
 generalize w3.setRow (g + 1) (txA 0 chain nonce 0 0 0 0 p0 p1 p2 p3 gas dst v0 v1 v2 v3 data (.slice none 0 0) (.slice none 0 0) y r0 r1 r2 r3 s0 s1 s2 s3 ⟨#[]⟩ ⟨#[]⟩ 0 0 0 0 false) = w9 at *
 refine wpList_nil ?_
 simp only [Act.put, jb, jz, js]
 go_wp2_with fail
 refine bodyPost_ret (results_cell_row (fn := Tryz.f60) rfl _ _ _ _ _ _ _ rfl HR2.out Tryz.underlying42 rfl (by kernel_rfl)) rfl ?_
 exact ⟨rfl, HG3.out⟩
theorem txNamedA_1 (chain nonce tip0 tip1 tip2 tip3 p0 p1 p2 p3 gas : Int) (dst : ByteArray) (v0 v1 v2 v3 : Int) (data : ByteArray) (pa : Option Addr) (na xa : Nat) (pb : Option Addr) (nb xb : Nat) (y r0 r1 r2 r3 s0 s1 s2 s3 : Int) (source frm : ByteArray) (mint0 mint1 mint2 mint3 : Int) (system : Bool) (w : World) : Calls Tryz.prog 60 #[.agg (txA 1 chain nonce tip0 tip1 tip2 tip3 p0 p1 p2 p3 gas dst v0 v1 v2 v3 data (.slice pa na xa) (.slice pb nb xb) y r0 r1 r2 r3 s0 s1 s2 s3 source frm mint0 mint1 mint2 mint3 system)] w fun e w' => e = .returned (.agg (txA 1 chain nonce 0 0 0 0 p0 p1 p2 p3 gas dst v0 v1 v2 v3 data (.slice pa na xa) (.slice none 0 0) y r0 r1 r2 r3 s0 s1 s2 s3 ⟨#[]⟩ ⟨#[]⟩ 0 0 0 0 false)) ∧ w.grownBy w' none := by
 have hG := only_alloc (only_alloc (World.grownBy.refl w none) (.cells (txA 1 chain nonce tip0 tip1 tip2 tip3 p0 p1 p2 p3 gas dst v0 v1 v2 v3 data (.slice pa na xa) (.slice pb nb xb) y r0 r1 r2 r3 s0 s1 s2 s3 source frm mint0 mint1 mint2 mint3 system) 42)) (.cells txZ 42)
 have hb1 := (Blk.new w 42 (txA 1 chain nonce tip0 tip1 tip2 tip3 p0 p1 p2 p3 gas dst v0 v1 v2 v3 data (.slice pa na xa) (.slice pb nb xb) y r0 r1 r2 r3 s0 s1 s2 s3 source frm mint0 mint1 mint2 mint3 system)).alloc (.cells txZ 42)
 have hb2 := Blk.new (w.alloc (.cells (txA 1 chain nonce tip0 tip1 tip2 tip3 p0 p1 p2 p3 gas dst v0 v1 v2 v3 data (.slice pa na xa) (.slice pb nb xb) y r0 r1 r2 r3 s0 s1 s2 s3 source frm mint0 mint1 mint2 mint3 system) 42)) 42 txZ
 rw [World.size_alloc] at hb2
 go_enter Tryz.func60, Tryz.ntmps60
 go_upto_region 1 with (fail)
 change Code.wp _ _ _ _ ((w.alloc (.cells (txA 1 chain nonce tip0 tip1 tip2 tip3 p0 p1 p2 p3 gas dst v0 v1 v2 v3 data (.slice pa na xa) (.slice pb nb xb) y r0 r1 r2 r3 s0 s1 s2 s3 source frm mint0 mint1 mint2 mint3 system) 42)).alloc (.cells txZ 42))
 obtain ⟨g, hg⟩ : ∃ g, w.heap.size = g := ⟨_, rfl⟩
 have HW := Lib.hid hg
 rw [hg] at hb1 hb2 ⊢
 clear hg
 have hsz : ((w.alloc (.cells (txA 1 chain nonce tip0 tip1 tip2 tip3 p0 p1 p2 p3 gas dst v0 v1 v2 v3 data (.slice pa na xa) (.slice pb nb xb) y r0 r1 r2 r3 s0 s1 s2 s3 source frm mint0 mint1 mint2 mint3 system) 42)).alloc (.cells txZ 42)).heap.size = g + 2 := by rw [World.size_alloc, World.size_alloc, HW.out]
 generalize (w.alloc (.cells (txA 1 chain nonce tip0 tip1 tip2 tip3 p0 p1 p2 p3 gas dst v0 v1 v2 v3 data (.slice pa na xa) (.slice pb nb xb) y r0 r1 r2 r3 s0 s1 s2 s3 source frm mint0 mint1 mint2 mint3 system) 42)).alloc (.cells txZ 42) = w1 at *
 have c0 : w1.cell? ⟨g, 0, none⟩ = some (.int .i64 1) := hb1.cell 0
 have c11 : w1.cell? ⟨g, 11, none⟩ = some (.int .u64 gas) := hb1.cell 11
 have c12 : w1.cell? ⟨g, 12, none⟩ = some (.string dst) := hb1.cell 12
 have c13 : w1.cell? ⟨g, 13, none⟩ = some (.int .u64 v0) := hb1.cell 13
 have c14 : w1.cell? ⟨g, 14, none⟩ = some (.int .u64 v1) := hb1.cell 14
 have c15 : w1.cell? ⟨g, 15, none⟩ = some (.int .u64 v2) := hb1.cell 15
 have c16 : w1.cell? ⟨g, 16, none⟩ = some (.int .u64 v3) := hb1.cell 16
 have c17 : w1.cell? ⟨g, 17, none⟩ = some (.string data) := hb1.cell 17
 have HB1 := Lib.hid (hb1.alloc (.cells (txA 1 0 0 0 0 0 0 0 0 0 0 gas dst v0 v1 v2 v3 data (.slice none 0 0) (.slice none 0 0) 0 0 0 0 0 0 0 0 0 ⟨#[]⟩ ⟨#[]⟩ 0 0 0 0 false) 42)); have HB2 := Lib.hid (hb2.alloc (.cells (txA 1 0 0 0 0 0 0 0 0 0 0 gas dst v0 v1 v2 v3 data (.slice none 0 0) (.slice none 0 0) 0 0 0 0 0 0 0 0 0 ⟨#[]⟩ ⟨#[]⟩ 0 0 0 0 false) 42)); have HB3 := Lib.hid (Blk.new w1 42 (txA 1 0 0 0 0 0 0 0 0 0 0 gas dst v0 v1 v2 v3 data (.slice none 0 0) (.slice none 0 0) 0 0 0 0 0 0 0 0 0 ⟨#[]⟩ ⟨#[]⟩ 0 0 0 0 false))
 have HG := Lib.hid (only_alloc hG (.cells (txA 1 0 0 0 0 0 0 0 0 0 0 gas dst v0 v1 v2 v3 data (.slice none 0 0) (.slice none 0 0) 0 0 0 0 0 0 0 0 0 ⟨#[]⟩ ⟨#[]⟩ 0 0 0 0 false) 42))
 have HSZ := Lib.hid hsz
 clear hb1 hb2 hG hsz
 refine wp_region_list ?_
 iterate 36 go_step
 refine wp_store_row 42 (.tmp 3) (.tmp 14) rfl w1.heap.size (txA 1 0 0 0 0 0 0 0 0 0 0 gas dst v0 v1 v2 v3 data (.slice none 0 0) (.slice none 0 0) 0 0 0 0 0 0 0 0 0 ⟨#[]⟩ ⟨#[]⟩ 0 0 0 0 false) rfl rfl 42 txZ (Blk.new w1 _ txZ) (by kernel_rfl) rfl (txA_one _ _ _ _ _ _ _ _ _ _ _ _ _ _ _ _ _ _ _ _ _ _ _ _ _ _ _ _ _ _ _ _ _ _ _ _ _ _ _ _) ?_
 rw [World.setRow_alloc_new]
 obtain ⟨g3, hg3⟩ : ∃ g, w1.heap.size = g := ⟨_, rfl⟩
 rw [hg3] at HB3 ⊢
 have HNE := Lib.hid (show g3 = g + 2 by rw [← hg3]; exact HSZ.out)
 clear hg3
 generalize w1.alloc (.cells (txA 1 0 0 0 0 0 0 0 0 0 0 gas dst v0 v1 v2 v3 data (.slice none 0 0) (.slice none 0 0) 0 0 0 0 0 0 0 0 0 ⟨#[]⟩ ⟨#[]⟩ 0 0 0 0 false) 42) = w2 at *
 clear c0 c11 c12 c13 c14 c15 c16 c17
 have c0 : w2.cell? ⟨g, 0, none⟩ = some (.int .i64 1) := HB1.out.cell 0
 go_upto_region 5 with (fail)
 refine wp_region_held (S := fun V => Blk V g 42 ((txA 1 chain nonce tip0 tip1 tip2 tip3 p0 p1 p2 p3 gas dst v0 v1 v2 v3 data (.slice pa na xa) (.slice pb nb xb) y r0 r1 r2 r3 s0 s1 s2 s3 source frm mint0 mint1 mint2 mint3 system))) (by kernel_rfl) ?_
 change wpAnyH _ _ _ _ _ _ _ _ w2.drew
 have hS0 : Blk w2.drew g 42 (txA 1 chain nonce tip0 tip1 tip2 tip3 p0 p1 p2 p3 gas dst v0 v1 v2 v3 data (.slice pa na xa) (.slice pb nb xb) y r0 r1 r2 r3 s0 s1 s2 s3 source frm mint0 mint1 mint2 mint3 system) := HB1.out
 have hT0 : Blk w2.drew (g + 1) 42 txZ := HB2.out
 have hU0 : Blk w2.drew g3 42 (txA 1 0 0 0 0 0 0 0 0 0 0 gas dst v0 v1 v2 v3 data (.slice none 0 0) (.slice none 0 0) 0 0 0 0 0 0 0 0 0 ⟨#[]⟩ ⟨#[]⟩ 0 0 0 0 false) := HB3.out
 have hg0 : w.grownBy w2.drew none := grown_drew HG.out
 clear c0
 generalize w2.drew = u0 at *
 refine zt 0 (.pointer (some ⟨g, 1, none⟩)) (some 31) rfl (fun W hW => by go_simp) hS0 ?_
 simp only [Act.put, jb, jz, js]
 refine zt 1 (.int .u64 chain) (some 32) rfl (fun W hW => exec_loadC 23 _ rfl _ rfl _ _ Tryz.underlying23 rfl ((Blk.cell hW 1).trans rfl)) hS0 ?_
 simp only [Act.put, jb, jz, js]
 refine zt 2 (.pointer (some ⟨g, 2, none⟩)) (some 33) rfl (fun W hW => by go_simp) hS0 ?_
 simp only [Act.put, jb, jz, js]
 refine zt 3 (.int .u64 nonce) (some 34) rfl (fun W hW => exec_loadC 23 _ rfl _ rfl _ _ Tryz.underlying23 rfl ((Blk.cell hW 2).trans rfl)) hS0 ?_
 simp only [Act.put, jb, jz, js]
 refine zt 4 (.pointer (some ⟨g, 7, none⟩)) (some 35) rfl (fun W hW => by go_simp) hS0 ?_
 simp only [Act.put, jb, jz, js]
 refine zt 5 (.agg #[.int .u64 p0, .int .u64 p1, .int .u64 p2, .int .u64 p3]) (some 36) rfl (fun W hW => exec_loadW _ rfl rfl ((Blk.cell hW 7).trans rfl) ((Blk.cell hW 8).trans rfl) ((Blk.cell hW 9).trans rfl) ((Blk.cell hW 10).trans rfl)) hS0 ?_
 simp only [Act.put, jb, jz, js]
 refine zt 6 (.pointer (some ⟨g, 20, none⟩)) (some 37) rfl (fun W hW => by go_simp) hS0 ?_
 simp only [Act.put, jb, jz, js]
 refine zt 7 (.int .u64 y) (some 38) rfl (fun W hW => exec_loadC 23 _ rfl _ rfl _ _ Tryz.underlying23 rfl ((Blk.cell hW 20).trans rfl)) hS0 ?_
 simp only [Act.put, jb, jz, js]
 refine zt 8 (.pointer (some ⟨g, 21, none⟩)) (some 39) rfl (fun W hW => by go_simp) hS0 ?_
 simp only [Act.put, jb, jz, js]
 refine zt 9 (.agg #[.int .u64 r0, .int .u64 r1, .int .u64 r2, .int .u64 r3]) (some 40) rfl (fun W hW => exec_loadW _ rfl rfl ((Blk.cell hW 21).trans rfl) ((Blk.cell hW 22).trans rfl) ((Blk.cell hW 23).trans rfl) ((Blk.cell hW 24).trans rfl)) hS0 ?_
 simp only [Act.put, jb, jz, js]
 refine zt 10 (.pointer (some ⟨g, 25, none⟩)) (some 41) rfl (fun W hW => by go_simp) hS0 ?_
 simp only [Act.put, jb, jz, js]
 refine zt 11 (.agg #[.int .u64 s0, .int .u64 s1, .int .u64 s2, .int .u64 s3]) (some 42) rfl (fun W hW => exec_loadW _ rfl rfl ((Blk.cell hW 25).trans rfl) ((Blk.cell hW 26).trans rfl) ((Blk.cell hW 27).trans rfl) ((Blk.cell hW 28).trans rfl)) hS0 ?_
 simp only [Act.put, jb, jz, js]
 have hSr : ∀ c, Blk (u0.setRow g3 c) g 42 ((txA 1 chain nonce tip0 tip1 tip2 tip3 p0 p1 p2 p3 gas dst v0 v1 v2 v3 data (.slice pa na xa) (.slice pb nb xb) y r0 r1 r2 r3 s0 s1 s2 s3 source frm mint0 mint1 mint2 mint3 system)) := fun c => (setRow_other u0 g3 g c (by have := HNE.out; omega)).trans hS0
 have hself := setRow_self u0 g3 _ 42 (0, 0) hU0
 rw [← hself]
 clear hself
 refine zt 12 (.pointer (some ⟨g3, 1, none⟩)) (some 43) rfl (fun W hW => by go_simp) (hSr _) ?_
 simp only [Act.put, jb, jz, js]
 refine held_one (i := 13) (by kernel_rfl) ?_
 refine held_skip rfl rfl rfl (exec_store_row hU0 _ 23 (.tmp 43) (.tmp 32) rfl 1 rfl (.int .u64 chain) rfl [.int .u64 chain] rfl (by kernel_rfl) (by kernel_rfl) (by simp [Value.oneCell']) (txA 1 chain 0 0 0 0 0 0 0 0 0 gas dst v0 v1 v2 v3 data (.slice none 0 0) (.slice none 0 0) 0 0 0 0 0 0 0 0 0 ⟨#[]⟩ ⟨#[]⟩ 0 0 0 0 false) (by kernel_rfl)) (hSr _) ?_
 (try simp only [Act.put, jb, jz, js])
 refine zt 14 (.pointer (some ⟨g3, 2, none⟩)) (some 44) rfl (fun W hW => by go_simp) (hSr _) ?_
 simp only [Act.put, jb, jz, js]
 refine held_one (i := 15) (by kernel_rfl) ?_
 refine held_skip rfl rfl rfl (exec_store_row hU0 _ 23 (.tmp 44) (.tmp 34) rfl 2 rfl (.int .u64 nonce) rfl [.int .u64 nonce] rfl (by kernel_rfl) (by kernel_rfl) (by simp [Value.oneCell']) (txA 1 chain nonce 0 0 0 0 0 0 0 0 gas dst v0 v1 v2 v3 data (.slice none 0 0) (.slice none 0 0) 0 0 0 0 0 0 0 0 0 ⟨#[]⟩ ⟨#[]⟩ 0 0 0 0 false) (by kernel_rfl)) (hSr _) ?_
 (try simp only [Act.put, jb, jz, js])
 refine zt 16 (.pointer (some ⟨g3, 7, none⟩)) (some 45) rfl (fun W hW => by go_simp) (hSr _) ?_
 simp only [Act.put, jb, jz, js]
 refine held_one (i := 17) (by kernel_rfl) ?_
 refine held_skip rfl rfl rfl (exec_store_row hU0 _ 38 (.tmp 45) (.tmp 36) rfl 7 rfl (.agg #[.int .u64 p0, .int .u64 p1, .int .u64 p2, .int .u64 p3]) rfl [.int .u64 p0, .int .u64 p1, .int .u64 p2, .int .u64 p3] rfl (by kernel_rfl) (by kernel_rfl) (by simp [Value.oneCell']) (txA 1 chain nonce 0 0 0 0 p0 p1 p2 p3 gas dst v0 v1 v2 v3 data (.slice none 0 0) (.slice none 0 0) 0 0 0 0 0 0 0 0 0 ⟨#[]⟩ ⟨#[]⟩ 0 0 0 0 false) (by kernel_rfl)) (hSr _) ?_
 (try simp only [Act.put, jb, jz, js])
 refine zt 18 (.pointer (some ⟨g3, 20, none⟩)) (some 46) rfl (fun W hW => by go_simp) (hSr _) ?_
 simp only [Act.put, jb, jz, js]
 refine held_one (i := 19) (by kernel_rfl) ?_
 refine held_skip rfl rfl rfl (exec_store_row hU0 _ 23 (.tmp 46) (.tmp 38) rfl 20 rfl (.int .u64 y) rfl [.int .u64 y] rfl (by kernel_rfl) (by kernel_rfl) (by simp [Value.oneCell']) (txA 1 chain nonce 0 0 0 0 p0 p1 p2 p3 gas dst v0 v1 v2 v3 data (.slice none 0 0) (.slice none 0 0) y 0 0 0 0 0 0 0 0 ⟨#[]⟩ ⟨#[]⟩ 0 0 0 0 false) (by kernel_rfl)) (hSr _) ?_
 (try simp only [Act.put, jb, jz, js])
 refine zt 20 (.pointer (some ⟨g3, 21, none⟩)) (some 47) rfl (fun W hW => by go_simp) (hSr _) ?_
 simp only [Act.put, jb, jz, js]
 refine held_one (i := 21) (by kernel_rfl) ?_
 refine held_skip rfl rfl rfl (exec_store_row hU0 _ 38 (.tmp 47) (.tmp 40) rfl 21 rfl (.agg #[.int .u64 r0, .int .u64 r1, .int .u64 r2, .int .u64 r3]) rfl [.int .u64 r0, .int .u64 r1, .int .u64 r2, .int .u64 r3] rfl (by kernel_rfl) (by kernel_rfl) (by simp [Value.oneCell']) (txA 1 chain nonce 0 0 0 0 p0 p1 p2 p3 gas dst v0 v1 v2 v3 data (.slice none 0 0) (.slice none 0 0) y r0 r1 r2 r3 0 0 0 0 ⟨#[]⟩ ⟨#[]⟩ 0 0 0 0 false) (by kernel_rfl)) (hSr _) ?_
 (try simp only [Act.put, jb, jz, js])
 refine zt 22 (.pointer (some ⟨g3, 25, none⟩)) (some 48) rfl (fun W hW => by go_simp) (hSr _) ?_
 simp only [Act.put, jb, jz, js]
 refine held_one (i := 23) (by kernel_rfl) ?_
 refine held_skip rfl rfl rfl (exec_store_row hU0 _ 38 (.tmp 48) (.tmp 42) rfl 25 rfl (.agg #[.int .u64 s0, .int .u64 s1, .int .u64 s2, .int .u64 s3]) rfl [.int .u64 s0, .int .u64 s1, .int .u64 s2, .int .u64 s3] rfl (by kernel_rfl) (by kernel_rfl) (by simp [Value.oneCell']) (txA 1 chain nonce 0 0 0 0 p0 p1 p2 p3 gas dst v0 v1 v2 v3 data (.slice none 0 0) (.slice none 0 0) y r0 r1 r2 r3 s0 s1 s2 s3 ⟨#[]⟩ ⟨#[]⟩ 0 0 0 0 false) (by kernel_rfl)) (hSr _) ?_
 (try simp only [Act.put, jb, jz, js])
 refine wpAnyH_done (by kernel_rfl) ?_ _
 replace HB1 := Lib.hid (show Blk (u0.setRow g3 (txA 1 chain nonce 0 0 0 0 p0 p1 p2 p3 gas dst v0 v1 v2 v3 data (.slice none 0 0) (.slice none 0 0) y r0 r1 r2 r3 s0 s1 s2 s3 ⟨#[]⟩ ⟨#[]⟩ 0 0 0 0 false)) g 42 (txA 1 chain nonce tip0 tip1 tip2 tip3 p0 p1 p2 p3 gas dst v0 v1 v2 v3 data (.slice pa na xa) (.slice pb nb xb) y r0 r1 r2 r3 s0 s1 s2 s3 source frm mint0 mint1 mint2 mint3 system) from (setRow_other u0 g3 g _ (by have := HNE.out; omega)).trans hS0)
 replace HB2 := Lib.hid (show Blk (u0.setRow g3 (txA 1 chain nonce 0 0 0 0 p0 p1 p2 p3 gas dst v0 v1 v2 v3 data (.slice none 0 0) (.slice none 0 0) y r0 r1 r2 r3 s0 s1 s2 s3 ⟨#[]⟩ ⟨#[]⟩ 0 0 0 0 false)) (g + 1) 42 txZ from (setRow_other u0 g3 (g + 1) _ (by have := HNE.out; omega)).trans hT0)
 replace HB3 := Lib.hid (blk_setRow (cs' := (txA 1 chain nonce 0 0 0 0 p0 p1 p2 p3 gas dst v0 v1 v2 v3 data (.slice none 0 0) (.slice none 0 0) y r0 r1 r2 r3 s0 s1 s2 s3 ⟨#[]⟩ ⟨#[]⟩ 0 0 0 0 false)) hU0)
 replace HG := Lib.hid (only_setRow (g := g3) hg0 (by have := HW.out; have := HNE.out; omega) (txA 1 chain nonce 0 0 0 0 p0 p1 p2 p3 gas dst v0 v1 v2 v3 data (.slice none 0 0) (.slice none 0 0) y r0 r1 r2 r3 s0 s1 s2 s3 ⟨#[]⟩ ⟨#[]⟩ 0 0 0 0 false))
 clear hS0 hT0 hU0 hg0 hSr
 generalize u0.setRow g3 (txA 1 chain nonce 0 0 0 0 p0 p1 p2 p3 gas dst v0 v1 v2 v3 data (.slice none 0 0) (.slice none 0 0) y r0 r1 r2 r3 s0 s1 s2 s3 ⟨#[]⟩ ⟨#[]⟩ 0 0 0 0 false) = w3 at *
 have c0 : w3.cell? ⟨g, 0, none⟩ = some (.int .i64 1) := HB1.out.cell 0
 go_upto_region 12 with (fail)
 refine wp_region_list ?_
 have hW := HB1.out
 have hU0 := HB3.out
 refine wpList_value rfl (.pointer (some ⟨g, 18, none⟩)) (by go_simp <;> rfl) ?_
 simp only [Act.put, jb, jz, js]
 refine wpList_value rfl (.slice pa na xa) (exec_loadC 39 _ rfl _ rfl _ _ Tryz.underlying39 rfl ((Blk.cell hW 18).trans rfl)) ?_
 simp only [Act.put, jb, jz, js]
 refine wpList_value rfl (.pointer (some ⟨g3, 18, none⟩)) (by go_simp <;> rfl) ?_
 simp only [Act.put, jb, jz, js]
 have hself := setRow_self w3 g3 _ 42 (0, 0) hU0
 rw [← hself]
 clear hself
 refine wpList_skip rfl rfl (exec_store_row hU0 _ 39 (.tmp 65) (.tmp 64) rfl 18 rfl (.slice pa na xa) rfl [.slice pa na xa] rfl (by kernel_rfl) (by kernel_rfl) (by simp [Value.oneCell']) (txA 1 chain nonce 0 0 0 0 p0 p1 p2 p3 gas dst v0 v1 v2 v3 data (.slice pa na xa) (.slice none 0 0) y r0 r1 r2 r3 s0 s1 s2 s3 ⟨#[]⟩ ⟨#[]⟩ 0 0 0 0 false) (by kernel_rfl)) ?_
 refine wpList_nil ?_
 replace HB1 := Lib.hid (show Blk (w3.setRow g3 (txA 1 chain nonce 0 0 0 0 p0 p1 p2 p3 gas dst v0 v1 v2 v3 data (.slice pa na xa) (.slice none 0 0) y r0 r1 r2 r3 s0 s1 s2 s3 ⟨#[]⟩ ⟨#[]⟩ 0 0 0 0 false)) g 42 (txA 1 chain nonce tip0 tip1 tip2 tip3 p0 p1 p2 p3 gas dst v0 v1 v2 v3 data (.slice pa na xa) (.slice pb nb xb) y r0 r1 r2 r3 s0 s1 s2 s3 source frm mint0 mint1 mint2 mint3 system) from (setRow_other w3 g3 g _ (by have := HNE.out; omega)).trans hW)
 replace HB2 := Lib.hid (show Blk (w3.setRow g3 (txA 1 chain nonce 0 0 0 0 p0 p1 p2 p3 gas dst v0 v1 v2 v3 data (.slice pa na xa) (.slice none 0 0) y r0 r1 r2 r3 s0 s1 s2 s3 ⟨#[]⟩ ⟨#[]⟩ 0 0 0 0 false)) (g + 1) 42 txZ from (setRow_other w3 g3 (g + 1) _ (by have := HNE.out; omega)).trans HB2.out)
 replace HB3 := Lib.hid (blk_setRow (cs' := (txA 1 chain nonce 0 0 0 0 p0 p1 p2 p3 gas dst v0 v1 v2 v3 data (.slice pa na xa) (.slice none 0 0) y r0 r1 r2 r3 s0 s1 s2 s3 ⟨#[]⟩ ⟨#[]⟩ 0 0 0 0 false)) hU0)
 replace HG := Lib.hid (only_setRow (g := g3) HG.out (by have := HW.out; have := HNE.out; omega) (txA 1 chain nonce 0 0 0 0 p0 p1 p2 p3 gas dst v0 v1 v2 v3 data (.slice pa na xa) (.slice none 0 0) y r0 r1 r2 r3 s0 s1 s2 s3 ⟨#[]⟩ ⟨#[]⟩ 0 0 0 0 false))
 clear hW hU0
 generalize w3.setRow g3 (txA 1 chain nonce 0 0 0 0 p0 p1 p2 p3 gas dst v0 v1 v2 v3 data (.slice pa na xa) (.slice none 0 0) y r0 r1 r2 r3 s0 s1 s2 s3 ⟨#[]⟩ ⟨#[]⟩ 0 0 0 0 false) = w4 at *
 clear c0
 go_upto_region 13 with (fail)
 refine wp_region_list ?_
 refine wpList_load_row rfl 42 (.tmp 3) rfl g3 rfl 42 (txA 1 chain nonce 0 0 0 0 p0 p1 p2 p3 gas dst v0 v1 v2 v3 data (.slice pa na xa) (.slice none 0 0) y r0 r1 r2 r3 s0 s1 s2 s3 ⟨#[]⟩ ⟨#[]⟩ 0 0 0 0 false) (0, 0) _ HB3.out Tryz.underlying42 rfl (by kernel_rfl) ?_
 simp only [Act.put, jb, jz, js]
 refine wpList_store_row rfl 42 (.tmp 2) (.tmp 66) rfl (g + 1) (txA 1 chain nonce 0 0 0 0 p0 p1 p2 p3 gas dst v0 v1 v2 v3 data (.slice pa na xa) (.slice none 0 0) y r0 r1 r2 r3 s0 s1 s2 s3 ⟨#[]⟩ ⟨#[]⟩ 0 0 0 0 false) rfl rfl 42 txZ HB2.out (by kernel_rfl) rfl (txA_one _ _ _ _ _ _ _ _ _ _ _ _ _ _ _ _ _ _ _ _ _ _ _ _ _ _ _ _ _ _ _ _ _ _ _ _ _ _ _ _) ?_
 have HR2 := Lib.hid (blk_setRow (cs' := (txA 1 chain nonce 0 0 0 0 p0 p1 p2 p3 gas dst v0 v1 v2 v3 data (.slice pa na xa) (.slice none 0 0) y r0 r1 r2 r3 s0 s1 s2 s3 ⟨#[]⟩ ⟨#[]⟩ 0 0 0 0 false)) HB2.out)
 have HG3 := Lib.hid (only_setRow (g := g + 1) HG.out (by have := HW.out; omega) (txA 1 chain nonce 0 0 0 0 p0 p1 p2 p3 gas dst v0 v1 v2 v3 data (.slice pa na xa) (.slice none 0 0) y r0 r1 r2 r3 s0 s1 s2 s3 ⟨#[]⟩ ⟨#[]⟩ 0 0 0 0 false))
 generalize w4.setRow (g + 1) (txA 1 chain nonce 0 0 0 0 p0 p1 p2 p3 gas dst v0 v1 v2 v3 data (.slice pa na xa) (.slice none 0 0) y r0 r1 r2 r3 s0 s1 s2 s3 ⟨#[]⟩ ⟨#[]⟩ 0 0 0 0 false) = w9 at *
 refine wpList_nil ?_
 simp only [Act.put, jb, jz, js]
 go_wp2_with fail
 refine bodyPost_ret (results_cell_row (fn := Tryz.f60) rfl _ _ _ _ _ _ _ rfl HR2.out Tryz.underlying42 rfl (by kernel_rfl)) rfl ?_
 exact ⟨rfl, HG3.out⟩
theorem txNamedA_2 (chain nonce tip0 tip1 tip2 tip3 p0 p1 p2 p3 gas : Int) (dst : ByteArray) (v0 v1 v2 v3 : Int) (data : ByteArray) (pa : Option Addr) (na xa : Nat) (pb : Option Addr) (nb xb : Nat) (y r0 r1 r2 r3 s0 s1 s2 s3 : Int) (source frm : ByteArray) (mint0 mint1 mint2 mint3 : Int) (system : Bool) (w : World) : Calls Tryz.prog 60 #[.agg (txA 2 chain nonce tip0 tip1 tip2 tip3 p0 p1 p2 p3 gas dst v0 v1 v2 v3 data (.slice pa na xa) (.slice pb nb xb) y r0 r1 r2 r3 s0 s1 s2 s3 source frm mint0 mint1 mint2 mint3 system)] w fun e w' => e = .returned (.agg (txA 2 chain nonce tip0 tip1 tip2 tip3 p0 p1 p2 p3 gas dst v0 v1 v2 v3 data (.slice pa na xa) (.slice none 0 0) y r0 r1 r2 r3 s0 s1 s2 s3 ⟨#[]⟩ ⟨#[]⟩ 0 0 0 0 false)) ∧ w.grownBy w' none := by
 have hG := only_alloc (only_alloc (World.grownBy.refl w none) (.cells (txA 2 chain nonce tip0 tip1 tip2 tip3 p0 p1 p2 p3 gas dst v0 v1 v2 v3 data (.slice pa na xa) (.slice pb nb xb) y r0 r1 r2 r3 s0 s1 s2 s3 source frm mint0 mint1 mint2 mint3 system) 42)) (.cells txZ 42)
 have hb1 := (Blk.new w 42 (txA 2 chain nonce tip0 tip1 tip2 tip3 p0 p1 p2 p3 gas dst v0 v1 v2 v3 data (.slice pa na xa) (.slice pb nb xb) y r0 r1 r2 r3 s0 s1 s2 s3 source frm mint0 mint1 mint2 mint3 system)).alloc (.cells txZ 42)
 have hb2 := Blk.new (w.alloc (.cells (txA 2 chain nonce tip0 tip1 tip2 tip3 p0 p1 p2 p3 gas dst v0 v1 v2 v3 data (.slice pa na xa) (.slice pb nb xb) y r0 r1 r2 r3 s0 s1 s2 s3 source frm mint0 mint1 mint2 mint3 system) 42)) 42 txZ
 rw [World.size_alloc] at hb2
 go_enter Tryz.func60, Tryz.ntmps60
 go_upto_region 1 with (fail)
 change Code.wp _ _ _ _ ((w.alloc (.cells (txA 2 chain nonce tip0 tip1 tip2 tip3 p0 p1 p2 p3 gas dst v0 v1 v2 v3 data (.slice pa na xa) (.slice pb nb xb) y r0 r1 r2 r3 s0 s1 s2 s3 source frm mint0 mint1 mint2 mint3 system) 42)).alloc (.cells txZ 42))
 obtain ⟨g, hg⟩ : ∃ g, w.heap.size = g := ⟨_, rfl⟩
 have HW := Lib.hid hg
 rw [hg] at hb1 hb2 ⊢
 clear hg
 have hsz : ((w.alloc (.cells (txA 2 chain nonce tip0 tip1 tip2 tip3 p0 p1 p2 p3 gas dst v0 v1 v2 v3 data (.slice pa na xa) (.slice pb nb xb) y r0 r1 r2 r3 s0 s1 s2 s3 source frm mint0 mint1 mint2 mint3 system) 42)).alloc (.cells txZ 42)).heap.size = g + 2 := by rw [World.size_alloc, World.size_alloc, HW.out]
 generalize (w.alloc (.cells (txA 2 chain nonce tip0 tip1 tip2 tip3 p0 p1 p2 p3 gas dst v0 v1 v2 v3 data (.slice pa na xa) (.slice pb nb xb) y r0 r1 r2 r3 s0 s1 s2 s3 source frm mint0 mint1 mint2 mint3 system) 42)).alloc (.cells txZ 42) = w1 at *
 have c0 : w1.cell? ⟨g, 0, none⟩ = some (.int .i64 2) := hb1.cell 0
 have c11 : w1.cell? ⟨g, 11, none⟩ = some (.int .u64 gas) := hb1.cell 11
 have c12 : w1.cell? ⟨g, 12, none⟩ = some (.string dst) := hb1.cell 12
 have c13 : w1.cell? ⟨g, 13, none⟩ = some (.int .u64 v0) := hb1.cell 13
 have c14 : w1.cell? ⟨g, 14, none⟩ = some (.int .u64 v1) := hb1.cell 14
 have c15 : w1.cell? ⟨g, 15, none⟩ = some (.int .u64 v2) := hb1.cell 15
 have c16 : w1.cell? ⟨g, 16, none⟩ = some (.int .u64 v3) := hb1.cell 16
 have c17 : w1.cell? ⟨g, 17, none⟩ = some (.string data) := hb1.cell 17
 have HB1 := Lib.hid (hb1.alloc (.cells (txA 2 0 0 0 0 0 0 0 0 0 0 gas dst v0 v1 v2 v3 data (.slice none 0 0) (.slice none 0 0) 0 0 0 0 0 0 0 0 0 ⟨#[]⟩ ⟨#[]⟩ 0 0 0 0 false) 42)); have HB2 := Lib.hid (hb2.alloc (.cells (txA 2 0 0 0 0 0 0 0 0 0 0 gas dst v0 v1 v2 v3 data (.slice none 0 0) (.slice none 0 0) 0 0 0 0 0 0 0 0 0 ⟨#[]⟩ ⟨#[]⟩ 0 0 0 0 false) 42)); have HB3 := Lib.hid (Blk.new w1 42 (txA 2 0 0 0 0 0 0 0 0 0 0 gas dst v0 v1 v2 v3 data (.slice none 0 0) (.slice none 0 0) 0 0 0 0 0 0 0 0 0 ⟨#[]⟩ ⟨#[]⟩ 0 0 0 0 false))
 have HG := Lib.hid (only_alloc hG (.cells (txA 2 0 0 0 0 0 0 0 0 0 0 gas dst v0 v1 v2 v3 data (.slice none 0 0) (.slice none 0 0) 0 0 0 0 0 0 0 0 0 ⟨#[]⟩ ⟨#[]⟩ 0 0 0 0 false) 42))
 have HSZ := Lib.hid hsz
 clear hb1 hb2 hG hsz
 refine wp_region_list ?_
 iterate 36 go_step
 refine wp_store_row 42 (.tmp 3) (.tmp 14) rfl w1.heap.size (txA 2 0 0 0 0 0 0 0 0 0 0 gas dst v0 v1 v2 v3 data (.slice none 0 0) (.slice none 0 0) 0 0 0 0 0 0 0 0 0 ⟨#[]⟩ ⟨#[]⟩ 0 0 0 0 false) rfl rfl 42 txZ (Blk.new w1 _ txZ) (by kernel_rfl) rfl (txA_one _ _ _ _ _ _ _ _ _ _ _ _ _ _ _ _ _ _ _ _ _ _ _ _ _ _ _ _ _ _ _ _ _ _ _ _ _ _ _ _) ?_
 rw [World.setRow_alloc_new]
 obtain ⟨g3, hg3⟩ : ∃ g, w1.heap.size = g := ⟨_, rfl⟩
 rw [hg3] at HB3 ⊢
 have HNE := Lib.hid (show g3 = g + 2 by rw [← hg3]; exact HSZ.out)
 clear hg3
 generalize w1.alloc (.cells (txA 2 0 0 0 0 0 0 0 0 0 0 gas dst v0 v1 v2 v3 data (.slice none 0 0) (.slice none 0 0) 0 0 0 0 0 0 0 0 0 ⟨#[]⟩ ⟨#[]⟩ 0 0 0 0 false) 42) = w2 at *
 clear c0 c11 c12 c13 c14 c15 c16 c17
 have c0 : w2.cell? ⟨g, 0, none⟩ = some (.int .i64 2) := HB1.out.cell 0
 go_upto_region 5 with (fail)
 refine wp_region_held (S := fun V => Blk V g 42 ((txA 2 chain nonce tip0 tip1 tip2 tip3 p0 p1 p2 p3 gas dst v0 v1 v2 v3 data (.slice pa na xa) (.slice pb nb xb) y r0 r1 r2 r3 s0 s1 s2 s3 source frm mint0 mint1 mint2 mint3 system))) (by kernel_rfl) ?_
 change wpAnyH _ _ _ _ _ _ _ _ w2.drew
 have hS0 : Blk w2.drew g 42 (txA 2 chain nonce tip0 tip1 tip2 tip3 p0 p1 p2 p3 gas dst v0 v1 v2 v3 data (.slice pa na xa) (.slice pb nb xb) y r0 r1 r2 r3 s0 s1 s2 s3 source frm mint0 mint1 mint2 mint3 system) := HB1.out
 have hT0 : Blk w2.drew (g + 1) 42 txZ := HB2.out
 have hU0 : Blk w2.drew g3 42 (txA 2 0 0 0 0 0 0 0 0 0 0 gas dst v0 v1 v2 v3 data (.slice none 0 0) (.slice none 0 0) 0 0 0 0 0 0 0 0 0 ⟨#[]⟩ ⟨#[]⟩ 0 0 0 0 false) := HB3.out
 have hg0 : w.grownBy w2.drew none := grown_drew HG.out
 clear c0
 generalize w2.drew = u0 at *
 refine zt 0 (.pointer (some ⟨g, 1, none⟩)) (some 31) rfl (fun W hW => by go_simp) hS0 ?_
 simp only [Act.put, jb, jz, js]
 refine zt 1 (.int .u64 chain) (some 32) rfl (fun W hW => exec_loadC 23 _ rfl _ rfl _ _ Tryz.underlying23 rfl ((Blk.cell hW 1).trans rfl)) hS0 ?_
 simp only [Act.put, jb, jz, js]
 refine zt 2 (.pointer (some ⟨g, 2, none⟩)) (some 33) rfl (fun W hW => by go_simp) hS0 ?_
 simp only [Act.put, jb, jz, js]
 refine zt 3 (.int .u64 nonce) (some 34) rfl (fun W hW => exec_loadC 23 _ rfl _ rfl _ _ Tryz.underlying23 rfl ((Blk.cell hW 2).trans rfl)) hS0 ?_
 simp only [Act.put, jb, jz, js]
 refine zt 4 (.pointer (some ⟨g, 7, none⟩)) (some 35) rfl (fun W hW => by go_simp) hS0 ?_
 simp only [Act.put, jb, jz, js]
 refine zt 5 (.agg #[.int .u64 p0, .int .u64 p1, .int .u64 p2, .int .u64 p3]) (some 36) rfl (fun W hW => exec_loadW _ rfl rfl ((Blk.cell hW 7).trans rfl) ((Blk.cell hW 8).trans rfl) ((Blk.cell hW 9).trans rfl) ((Blk.cell hW 10).trans rfl)) hS0 ?_
 simp only [Act.put, jb, jz, js]
 refine zt 6 (.pointer (some ⟨g, 20, none⟩)) (some 37) rfl (fun W hW => by go_simp) hS0 ?_
 simp only [Act.put, jb, jz, js]
 refine zt 7 (.int .u64 y) (some 38) rfl (fun W hW => exec_loadC 23 _ rfl _ rfl _ _ Tryz.underlying23 rfl ((Blk.cell hW 20).trans rfl)) hS0 ?_
 simp only [Act.put, jb, jz, js]
 refine zt 8 (.pointer (some ⟨g, 21, none⟩)) (some 39) rfl (fun W hW => by go_simp) hS0 ?_
 simp only [Act.put, jb, jz, js]
 refine zt 9 (.agg #[.int .u64 r0, .int .u64 r1, .int .u64 r2, .int .u64 r3]) (some 40) rfl (fun W hW => exec_loadW _ rfl rfl ((Blk.cell hW 21).trans rfl) ((Blk.cell hW 22).trans rfl) ((Blk.cell hW 23).trans rfl) ((Blk.cell hW 24).trans rfl)) hS0 ?_
 simp only [Act.put, jb, jz, js]
 refine zt 10 (.pointer (some ⟨g, 25, none⟩)) (some 41) rfl (fun W hW => by go_simp) hS0 ?_
 simp only [Act.put, jb, jz, js]
 refine zt 11 (.agg #[.int .u64 s0, .int .u64 s1, .int .u64 s2, .int .u64 s3]) (some 42) rfl (fun W hW => exec_loadW _ rfl rfl ((Blk.cell hW 25).trans rfl) ((Blk.cell hW 26).trans rfl) ((Blk.cell hW 27).trans rfl) ((Blk.cell hW 28).trans rfl)) hS0 ?_
 simp only [Act.put, jb, jz, js]
 have hSr : ∀ c, Blk (u0.setRow g3 c) g 42 ((txA 2 chain nonce tip0 tip1 tip2 tip3 p0 p1 p2 p3 gas dst v0 v1 v2 v3 data (.slice pa na xa) (.slice pb nb xb) y r0 r1 r2 r3 s0 s1 s2 s3 source frm mint0 mint1 mint2 mint3 system)) := fun c => (setRow_other u0 g3 g c (by have := HNE.out; omega)).trans hS0
 have hself := setRow_self u0 g3 _ 42 (0, 0) hU0
 rw [← hself]
 clear hself
 refine zt 12 (.pointer (some ⟨g3, 1, none⟩)) (some 43) rfl (fun W hW => by go_simp) (hSr _) ?_
 simp only [Act.put, jb, jz, js]
 refine held_one (i := 13) (by kernel_rfl) ?_
 refine held_skip rfl rfl rfl (exec_store_row hU0 _ 23 (.tmp 43) (.tmp 32) rfl 1 rfl (.int .u64 chain) rfl [.int .u64 chain] rfl (by kernel_rfl) (by kernel_rfl) (by simp [Value.oneCell']) (txA 2 chain 0 0 0 0 0 0 0 0 0 gas dst v0 v1 v2 v3 data (.slice none 0 0) (.slice none 0 0) 0 0 0 0 0 0 0 0 0 ⟨#[]⟩ ⟨#[]⟩ 0 0 0 0 false) (by kernel_rfl)) (hSr _) ?_
 (try simp only [Act.put, jb, jz, js])
 refine zt 14 (.pointer (some ⟨g3, 2, none⟩)) (some 44) rfl (fun W hW => by go_simp) (hSr _) ?_
 simp only [Act.put, jb, jz, js]
 refine held_one (i := 15) (by kernel_rfl) ?_
 refine held_skip rfl rfl rfl (exec_store_row hU0 _ 23 (.tmp 44) (.tmp 34) rfl 2 rfl (.int .u64 nonce) rfl [.int .u64 nonce] rfl (by kernel_rfl) (by kernel_rfl) (by simp [Value.oneCell']) (txA 2 chain nonce 0 0 0 0 0 0 0 0 gas dst v0 v1 v2 v3 data (.slice none 0 0) (.slice none 0 0) 0 0 0 0 0 0 0 0 0 ⟨#[]⟩ ⟨#[]⟩ 0 0 0 0 false) (by kernel_rfl)) (hSr _) ?_
 (try simp only [Act.put, jb, jz, js])
 refine zt 16 (.pointer (some ⟨g3, 7, none⟩)) (some 45) rfl (fun W hW => by go_simp) (hSr _) ?_
 simp only [Act.put, jb, jz, js]
 refine held_one (i := 17) (by kernel_rfl) ?_
 refine held_skip rfl rfl rfl (exec_store_row hU0 _ 38 (.tmp 45) (.tmp 36) rfl 7 rfl (.agg #[.int .u64 p0, .int .u64 p1, .int .u64 p2, .int .u64 p3]) rfl [.int .u64 p0, .int .u64 p1, .int .u64 p2, .int .u64 p3] rfl (by kernel_rfl) (by kernel_rfl) (by simp [Value.oneCell']) (txA 2 chain nonce 0 0 0 0 p0 p1 p2 p3 gas dst v0 v1 v2 v3 data (.slice none 0 0) (.slice none 0 0) 0 0 0 0 0 0 0 0 0 ⟨#[]⟩ ⟨#[]⟩ 0 0 0 0 false) (by kernel_rfl)) (hSr _) ?_
 (try simp only [Act.put, jb, jz, js])
 refine zt 18 (.pointer (some ⟨g3, 20, none⟩)) (some 46) rfl (fun W hW => by go_simp) (hSr _) ?_
 simp only [Act.put, jb, jz, js]
 refine held_one (i := 19) (by kernel_rfl) ?_
 refine held_skip rfl rfl rfl (exec_store_row hU0 _ 23 (.tmp 46) (.tmp 38) rfl 20 rfl (.int .u64 y) rfl [.int .u64 y] rfl (by kernel_rfl) (by kernel_rfl) (by simp [Value.oneCell']) (txA 2 chain nonce 0 0 0 0 p0 p1 p2 p3 gas dst v0 v1 v2 v3 data (.slice none 0 0) (.slice none 0 0) y 0 0 0 0 0 0 0 0 ⟨#[]⟩ ⟨#[]⟩ 0 0 0 0 false) (by kernel_rfl)) (hSr _) ?_
 (try simp only [Act.put, jb, jz, js])
 refine zt 20 (.pointer (some ⟨g3, 21, none⟩)) (some 47) rfl (fun W hW => by go_simp) (hSr _) ?_
 simp only [Act.put, jb, jz, js]
 refine held_one (i := 21) (by kernel_rfl) ?_
 refine held_skip rfl rfl rfl (exec_store_row hU0 _ 38 (.tmp 47) (.tmp 40) rfl 21 rfl (.agg #[.int .u64 r0, .int .u64 r1, .int .u64 r2, .int .u64 r3]) rfl [.int .u64 r0, .int .u64 r1, .int .u64 r2, .int .u64 r3] rfl (by kernel_rfl) (by kernel_rfl) (by simp [Value.oneCell']) (txA 2 chain nonce 0 0 0 0 p0 p1 p2 p3 gas dst v0 v1 v2 v3 data (.slice none 0 0) (.slice none 0 0) y r0 r1 r2 r3 0 0 0 0 ⟨#[]⟩ ⟨#[]⟩ 0 0 0 0 false) (by kernel_rfl)) (hSr _) ?_
 (try simp only [Act.put, jb, jz, js])
 refine zt 22 (.pointer (some ⟨g3, 25, none⟩)) (some 48) rfl (fun W hW => by go_simp) (hSr _) ?_
 simp only [Act.put, jb, jz, js]
 refine held_one (i := 23) (by kernel_rfl) ?_
 refine held_skip rfl rfl rfl (exec_store_row hU0 _ 38 (.tmp 48) (.tmp 42) rfl 25 rfl (.agg #[.int .u64 s0, .int .u64 s1, .int .u64 s2, .int .u64 s3]) rfl [.int .u64 s0, .int .u64 s1, .int .u64 s2, .int .u64 s3] rfl (by kernel_rfl) (by kernel_rfl) (by simp [Value.oneCell']) (txA 2 chain nonce 0 0 0 0 p0 p1 p2 p3 gas dst v0 v1 v2 v3 data (.slice none 0 0) (.slice none 0 0) y r0 r1 r2 r3 s0 s1 s2 s3 ⟨#[]⟩ ⟨#[]⟩ 0 0 0 0 false) (by kernel_rfl)) (hSr _) ?_
 (try simp only [Act.put, jb, jz, js])
 refine wpAnyH_done (by kernel_rfl) ?_ _
 replace HB1 := Lib.hid (show Blk (u0.setRow g3 (txA 2 chain nonce 0 0 0 0 p0 p1 p2 p3 gas dst v0 v1 v2 v3 data (.slice none 0 0) (.slice none 0 0) y r0 r1 r2 r3 s0 s1 s2 s3 ⟨#[]⟩ ⟨#[]⟩ 0 0 0 0 false)) g 42 (txA 2 chain nonce tip0 tip1 tip2 tip3 p0 p1 p2 p3 gas dst v0 v1 v2 v3 data (.slice pa na xa) (.slice pb nb xb) y r0 r1 r2 r3 s0 s1 s2 s3 source frm mint0 mint1 mint2 mint3 system) from (setRow_other u0 g3 g _ (by have := HNE.out; omega)).trans hS0)
 replace HB2 := Lib.hid (show Blk (u0.setRow g3 (txA 2 chain nonce 0 0 0 0 p0 p1 p2 p3 gas dst v0 v1 v2 v3 data (.slice none 0 0) (.slice none 0 0) y r0 r1 r2 r3 s0 s1 s2 s3 ⟨#[]⟩ ⟨#[]⟩ 0 0 0 0 false)) (g + 1) 42 txZ from (setRow_other u0 g3 (g + 1) _ (by have := HNE.out; omega)).trans hT0)
 replace HB3 := Lib.hid (blk_setRow (cs' := (txA 2 chain nonce 0 0 0 0 p0 p1 p2 p3 gas dst v0 v1 v2 v3 data (.slice none 0 0) (.slice none 0 0) y r0 r1 r2 r3 s0 s1 s2 s3 ⟨#[]⟩ ⟨#[]⟩ 0 0 0 0 false)) hU0)
 replace HG := Lib.hid (only_setRow (g := g3) hg0 (by have := HW.out; have := HNE.out; omega) (txA 2 chain nonce 0 0 0 0 p0 p1 p2 p3 gas dst v0 v1 v2 v3 data (.slice none 0 0) (.slice none 0 0) y r0 r1 r2 r3 s0 s1 s2 s3 ⟨#[]⟩ ⟨#[]⟩ 0 0 0 0 false))
 clear hS0 hT0 hU0 hg0 hSr
 generalize u0.setRow g3 (txA 2 chain nonce 0 0 0 0 p0 p1 p2 p3 gas dst v0 v1 v2 v3 data (.slice none 0 0) (.slice none 0 0) y r0 r1 r2 r3 s0 s1 s2 s3 ⟨#[]⟩ ⟨#[]⟩ 0 0 0 0 false) = w3 at *
 have c0 : w3.cell? ⟨g, 0, none⟩ = some (.int .i64 2) := HB1.out.cell 0
 go_upto_region 11 with (fail)
 refine wp_region_list ?_
 have hW := HB1.out
 have hU0 := HB3.out
 refine wpList_value rfl (.pointer (some ⟨g, 3, none⟩)) (by go_simp <;> rfl) ?_
 simp only [Act.put, jb, jz, js]
 refine wpList_value rfl (.agg #[.int .u64 tip0, .int .u64 tip1, .int .u64 tip2, .int .u64 tip3]) (exec_loadW _ rfl rfl ((Blk.cell hW 3).trans rfl) ((Blk.cell hW 4).trans rfl) ((Blk.cell hW 5).trans rfl) ((Blk.cell hW 6).trans rfl)) ?_
 simp only [Act.put, jb, jz, js]
 refine wpList_value rfl (.pointer (some ⟨g3, 3, none⟩)) (by go_simp <;> rfl) ?_
 simp only [Act.put, jb, jz, js]
 have hself := setRow_self w3 g3 _ 42 (0, 0) hU0
 rw [← hself]
 clear hself
 refine wpList_skip rfl rfl (exec_store_row hU0 _ 38 (.tmp 62) (.tmp 61) rfl 3 rfl (.agg #[.int .u64 tip0, .int .u64 tip1, .int .u64 tip2, .int .u64 tip3]) rfl [.int .u64 tip0, .int .u64 tip1, .int .u64 tip2, .int .u64 tip3] rfl (by kernel_rfl) (by kernel_rfl) (by simp [Value.oneCell']) (txA 2 chain nonce tip0 tip1 tip2 tip3 p0 p1 p2 p3 gas dst v0 v1 v2 v3 data (.slice none 0 0) (.slice none 0 0) y r0 r1 r2 r3 s0 s1 s2 s3 ⟨#[]⟩ ⟨#[]⟩ 0 0 0 0 false) (by kernel_rfl)) ?_
 refine wpList_nil ?_
 replace HB1 := Lib.hid (show Blk (w3.setRow g3 (txA 2 chain nonce tip0 tip1 tip2 tip3 p0 p1 p2 p3 gas dst v0 v1 v2 v3 data (.slice none 0 0) (.slice none 0 0) y r0 r1 r2 r3 s0 s1 s2 s3 ⟨#[]⟩ ⟨#[]⟩ 0 0 0 0 false)) g 42 (txA 2 chain nonce tip0 tip1 tip2 tip3 p0 p1 p2 p3 gas dst v0 v1 v2 v3 data (.slice pa na xa) (.slice pb nb xb) y r0 r1 r2 r3 s0 s1 s2 s3 source frm mint0 mint1 mint2 mint3 system) from (setRow_other w3 g3 g _ (by have := HNE.out; omega)).trans hW)
 replace HB2 := Lib.hid (show Blk (w3.setRow g3 (txA 2 chain nonce tip0 tip1 tip2 tip3 p0 p1 p2 p3 gas dst v0 v1 v2 v3 data (.slice none 0 0) (.slice none 0 0) y r0 r1 r2 r3 s0 s1 s2 s3 ⟨#[]⟩ ⟨#[]⟩ 0 0 0 0 false)) (g + 1) 42 txZ from (setRow_other w3 g3 (g + 1) _ (by have := HNE.out; omega)).trans HB2.out)
 replace HB3 := Lib.hid (blk_setRow (cs' := (txA 2 chain nonce tip0 tip1 tip2 tip3 p0 p1 p2 p3 gas dst v0 v1 v2 v3 data (.slice none 0 0) (.slice none 0 0) y r0 r1 r2 r3 s0 s1 s2 s3 ⟨#[]⟩ ⟨#[]⟩ 0 0 0 0 false)) hU0)
 replace HG := Lib.hid (only_setRow (g := g3) HG.out (by have := HW.out; have := HNE.out; omega) (txA 2 chain nonce tip0 tip1 tip2 tip3 p0 p1 p2 p3 gas dst v0 v1 v2 v3 data (.slice none 0 0) (.slice none 0 0) y r0 r1 r2 r3 s0 s1 s2 s3 ⟨#[]⟩ ⟨#[]⟩ 0 0 0 0 false))
 clear hW hU0
 generalize w3.setRow g3 (txA 2 chain nonce tip0 tip1 tip2 tip3 p0 p1 p2 p3 gas dst v0 v1 v2 v3 data (.slice none 0 0) (.slice none 0 0) y r0 r1 r2 r3 s0 s1 s2 s3 ⟨#[]⟩ ⟨#[]⟩ 0 0 0 0 false) = w4 at *
 clear c0
 go_upto_region 12 with (fail)
 refine wp_region_list ?_
 have hW := HB1.out
 have hU0 := HB3.out
 refine wpList_value rfl (.pointer (some ⟨g, 18, none⟩)) (by go_simp <;> rfl) ?_
 simp only [Act.put, jb, jz, js]
 refine wpList_value rfl (.slice pa na xa) (exec_loadC 39 _ rfl _ rfl _ _ Tryz.underlying39 rfl ((Blk.cell hW 18).trans rfl)) ?_
 simp only [Act.put, jb, jz, js]
 refine wpList_value rfl (.pointer (some ⟨g3, 18, none⟩)) (by go_simp <;> rfl) ?_
 simp only [Act.put, jb, jz, js]
 have hself := setRow_self w4 g3 _ 42 (0, 0) hU0
 rw [← hself]
 clear hself
 refine wpList_skip rfl rfl (exec_store_row hU0 _ 39 (.tmp 65) (.tmp 64) rfl 18 rfl (.slice pa na xa) rfl [.slice pa na xa] rfl (by kernel_rfl) (by kernel_rfl) (by simp [Value.oneCell']) (txA 2 chain nonce tip0 tip1 tip2 tip3 p0 p1 p2 p3 gas dst v0 v1 v2 v3 data (.slice pa na xa) (.slice none 0 0) y r0 r1 r2 r3 s0 s1 s2 s3 ⟨#[]⟩ ⟨#[]⟩ 0 0 0 0 false) (by kernel_rfl)) ?_
 refine wpList_nil ?_
 replace HB1 := Lib.hid (show Blk (w4.setRow g3 (txA 2 chain nonce tip0 tip1 tip2 tip3 p0 p1 p2 p3 gas dst v0 v1 v2 v3 data (.slice pa na xa) (.slice none 0 0) y r0 r1 r2 r3 s0 s1 s2 s3 ⟨#[]⟩ ⟨#[]⟩ 0 0 0 0 false)) g 42 (txA 2 chain nonce tip0 tip1 tip2 tip3 p0 p1 p2 p3 gas dst v0 v1 v2 v3 data (.slice pa na xa) (.slice pb nb xb) y r0 r1 r2 r3 s0 s1 s2 s3 source frm mint0 mint1 mint2 mint3 system) from (setRow_other w4 g3 g _ (by have := HNE.out; omega)).trans hW)
 replace HB2 := Lib.hid (show Blk (w4.setRow g3 (txA 2 chain nonce tip0 tip1 tip2 tip3 p0 p1 p2 p3 gas dst v0 v1 v2 v3 data (.slice pa na xa) (.slice none 0 0) y r0 r1 r2 r3 s0 s1 s2 s3 ⟨#[]⟩ ⟨#[]⟩ 0 0 0 0 false)) (g + 1) 42 txZ from (setRow_other w4 g3 (g + 1) _ (by have := HNE.out; omega)).trans HB2.out)
 replace HB3 := Lib.hid (blk_setRow (cs' := (txA 2 chain nonce tip0 tip1 tip2 tip3 p0 p1 p2 p3 gas dst v0 v1 v2 v3 data (.slice pa na xa) (.slice none 0 0) y r0 r1 r2 r3 s0 s1 s2 s3 ⟨#[]⟩ ⟨#[]⟩ 0 0 0 0 false)) hU0)
 replace HG := Lib.hid (only_setRow (g := g3) HG.out (by have := HW.out; have := HNE.out; omega) (txA 2 chain nonce tip0 tip1 tip2 tip3 p0 p1 p2 p3 gas dst v0 v1 v2 v3 data (.slice pa na xa) (.slice none 0 0) y r0 r1 r2 r3 s0 s1 s2 s3 ⟨#[]⟩ ⟨#[]⟩ 0 0 0 0 false))
 clear hW hU0
 generalize w4.setRow g3 (txA 2 chain nonce tip0 tip1 tip2 tip3 p0 p1 p2 p3 gas dst v0 v1 v2 v3 data (.slice pa na xa) (.slice none 0 0) y r0 r1 r2 r3 s0 s1 s2 s3 ⟨#[]⟩ ⟨#[]⟩ 0 0 0 0 false) = w5 at *
 go_upto_region 13 with (fail)
 refine wp_region_list ?_
 refine wpList_load_row rfl 42 (.tmp 3) rfl g3 rfl 42 (txA 2 chain nonce tip0 tip1 tip2 tip3 p0 p1 p2 p3 gas dst v0 v1 v2 v3 data (.slice pa na xa) (.slice none 0 0) y r0 r1 r2 r3 s0 s1 s2 s3 ⟨#[]⟩ ⟨#[]⟩ 0 0 0 0 false) (0, 0) _ HB3.out Tryz.underlying42 rfl (by kernel_rfl) ?_
 simp only [Act.put, jb, jz, js]
 refine wpList_store_row rfl 42 (.tmp 2) (.tmp 66) rfl (g + 1) (txA 2 chain nonce tip0 tip1 tip2 tip3 p0 p1 p2 p3 gas dst v0 v1 v2 v3 data (.slice pa na xa) (.slice none 0 0) y r0 r1 r2 r3 s0 s1 s2 s3 ⟨#[]⟩ ⟨#[]⟩ 0 0 0 0 false) rfl rfl 42 txZ HB2.out (by kernel_rfl) rfl (txA_one _ _ _ _ _ _ _ _ _ _ _ _ _ _ _ _ _ _ _ _ _ _ _ _ _ _ _ _ _ _ _ _ _ _ _ _ _ _ _ _) ?_
 have HR2 := Lib.hid (blk_setRow (cs' := (txA 2 chain nonce tip0 tip1 tip2 tip3 p0 p1 p2 p3 gas dst v0 v1 v2 v3 data (.slice pa na xa) (.slice none 0 0) y r0 r1 r2 r3 s0 s1 s2 s3 ⟨#[]⟩ ⟨#[]⟩ 0 0 0 0 false)) HB2.out)
 have HG3 := Lib.hid (only_setRow (g := g + 1) HG.out (by have := HW.out; omega) (txA 2 chain nonce tip0 tip1 tip2 tip3 p0 p1 p2 p3 gas dst v0 v1 v2 v3 data (.slice pa na xa) (.slice none 0 0) y r0 r1 r2 r3 s0 s1 s2 s3 ⟨#[]⟩ ⟨#[]⟩ 0 0 0 0 false))
 generalize w5.setRow (g + 1) (txA 2 chain nonce tip0 tip1 tip2 tip3 p0 p1 p2 p3 gas dst v0 v1 v2 v3 data (.slice pa na xa) (.slice none 0 0) y r0 r1 r2 r3 s0 s1 s2 s3 ⟨#[]⟩ ⟨#[]⟩ 0 0 0 0 false) = w9 at *
 refine wpList_nil ?_
 simp only [Act.put, jb, jz, js]
 go_wp2_with fail
 refine bodyPost_ret (results_cell_row (fn := Tryz.f60) rfl _ _ _ _ _ _ _ rfl HR2.out Tryz.underlying42 rfl (by kernel_rfl)) rfl ?_
 exact ⟨rfl, HG3.out⟩
theorem txNamedA_4 (chain nonce tip0 tip1 tip2 tip3 p0 p1 p2 p3 gas : Int) (dst : ByteArray) (v0 v1 v2 v3 : Int) (data : ByteArray) (pa : Option Addr) (na xa : Nat) (pb : Option Addr) (nb xb : Nat) (y r0 r1 r2 r3 s0 s1 s2 s3 : Int) (source frm : ByteArray) (mint0 mint1 mint2 mint3 : Int) (system : Bool) (w : World) : Calls Tryz.prog 60 #[.agg (txA 4 chain nonce tip0 tip1 tip2 tip3 p0 p1 p2 p3 gas dst v0 v1 v2 v3 data (.slice pa na xa) (.slice pb nb xb) y r0 r1 r2 r3 s0 s1 s2 s3 source frm mint0 mint1 mint2 mint3 system)] w fun e w' => e = .returned (.agg (txA 4 chain nonce tip0 tip1 tip2 tip3 p0 p1 p2 p3 gas dst v0 v1 v2 v3 data (.slice pa na xa) (.slice pb nb xb) y r0 r1 r2 r3 s0 s1 s2 s3 ⟨#[]⟩ ⟨#[]⟩ 0 0 0 0 false)) ∧ w.grownBy w' none := by
 have hG := only_alloc (only_alloc (World.grownBy.refl w none) (.cells (txA 4 chain nonce tip0 tip1 tip2 tip3 p0 p1 p2 p3 gas dst v0 v1 v2 v3 data (.slice pa na xa) (.slice pb nb xb) y r0 r1 r2 r3 s0 s1 s2 s3 source frm mint0 mint1 mint2 mint3 system) 42)) (.cells txZ 42)
 have hb1 := (Blk.new w 42 (txA 4 chain nonce tip0 tip1 tip2 tip3 p0 p1 p2 p3 gas dst v0 v1 v2 v3 data (.slice pa na xa) (.slice pb nb xb) y r0 r1 r2 r3 s0 s1 s2 s3 source frm mint0 mint1 mint2 mint3 system)).alloc (.cells txZ 42)
 have hb2 := Blk.new (w.alloc (.cells (txA 4 chain nonce tip0 tip1 tip2 tip3 p0 p1 p2 p3 gas dst v0 v1 v2 v3 data (.slice pa na xa) (.slice pb nb xb) y r0 r1 r2 r3 s0 s1 s2 s3 source frm mint0 mint1 mint2 mint3 system) 42)) 42 txZ
 rw [World.size_alloc] at hb2
 go_enter Tryz.func60, Tryz.ntmps60
 go_upto_region 1 with (fail)
 change Code.wp _ _ _ _ ((w.alloc (.cells (txA 4 chain nonce tip0 tip1 tip2 tip3 p0 p1 p2 p3 gas dst v0 v1 v2 v3 data (.slice pa na xa) (.slice pb nb xb) y r0 r1 r2 r3 s0 s1 s2 s3 source frm mint0 mint1 mint2 mint3 system) 42)).alloc (.cells txZ 42))
 obtain ⟨g, hg⟩ : ∃ g, w.heap.size = g := ⟨_, rfl⟩
 have HW := Lib.hid hg
 rw [hg] at hb1 hb2 ⊢
 clear hg
 have hsz : ((w.alloc (.cells (txA 4 chain nonce tip0 tip1 tip2 tip3 p0 p1 p2 p3 gas dst v0 v1 v2 v3 data (.slice pa na xa) (.slice pb nb xb) y r0 r1 r2 r3 s0 s1 s2 s3 source frm mint0 mint1 mint2 mint3 system) 42)).alloc (.cells txZ 42)).heap.size = g + 2 := by rw [World.size_alloc, World.size_alloc, HW.out]
 generalize (w.alloc (.cells (txA 4 chain nonce tip0 tip1 tip2 tip3 p0 p1 p2 p3 gas dst v0 v1 v2 v3 data (.slice pa na xa) (.slice pb nb xb) y r0 r1 r2 r3 s0 s1 s2 s3 source frm mint0 mint1 mint2 mint3 system) 42)).alloc (.cells txZ 42) = w1 at *
 have c0 : w1.cell? ⟨g, 0, none⟩ = some (.int .i64 4) := hb1.cell 0
 have c11 : w1.cell? ⟨g, 11, none⟩ = some (.int .u64 gas) := hb1.cell 11
 have c12 : w1.cell? ⟨g, 12, none⟩ = some (.string dst) := hb1.cell 12
 have c13 : w1.cell? ⟨g, 13, none⟩ = some (.int .u64 v0) := hb1.cell 13
 have c14 : w1.cell? ⟨g, 14, none⟩ = some (.int .u64 v1) := hb1.cell 14
 have c15 : w1.cell? ⟨g, 15, none⟩ = some (.int .u64 v2) := hb1.cell 15
 have c16 : w1.cell? ⟨g, 16, none⟩ = some (.int .u64 v3) := hb1.cell 16
 have c17 : w1.cell? ⟨g, 17, none⟩ = some (.string data) := hb1.cell 17
 have HB1 := Lib.hid (hb1.alloc (.cells (txA 4 0 0 0 0 0 0 0 0 0 0 gas dst v0 v1 v2 v3 data (.slice none 0 0) (.slice none 0 0) 0 0 0 0 0 0 0 0 0 ⟨#[]⟩ ⟨#[]⟩ 0 0 0 0 false) 42)); have HB2 := Lib.hid (hb2.alloc (.cells (txA 4 0 0 0 0 0 0 0 0 0 0 gas dst v0 v1 v2 v3 data (.slice none 0 0) (.slice none 0 0) 0 0 0 0 0 0 0 0 0 ⟨#[]⟩ ⟨#[]⟩ 0 0 0 0 false) 42)); have HB3 := Lib.hid (Blk.new w1 42 (txA 4 0 0 0 0 0 0 0 0 0 0 gas dst v0 v1 v2 v3 data (.slice none 0 0) (.slice none 0 0) 0 0 0 0 0 0 0 0 0 ⟨#[]⟩ ⟨#[]⟩ 0 0 0 0 false))
 have HG := Lib.hid (only_alloc hG (.cells (txA 4 0 0 0 0 0 0 0 0 0 0 gas dst v0 v1 v2 v3 data (.slice none 0 0) (.slice none 0 0) 0 0 0 0 0 0 0 0 0 ⟨#[]⟩ ⟨#[]⟩ 0 0 0 0 false) 42))
 have HSZ := Lib.hid hsz
 clear hb1 hb2 hG hsz
 refine wp_region_list ?_
 iterate 36 go_step
 refine wp_store_row 42 (.tmp 3) (.tmp 14) rfl w1.heap.size (txA 4 0 0 0 0 0 0 0 0 0 0 gas dst v0 v1 v2 v3 data (.slice none 0 0) (.slice none 0 0) 0 0 0 0 0 0 0 0 0 ⟨#[]⟩ ⟨#[]⟩ 0 0 0 0 false) rfl rfl 42 txZ (Blk.new w1 _ txZ) (by kernel_rfl) rfl (txA_one _ _ _ _ _ _ _ _ _ _ _ _ _ _ _ _ _ _ _ _ _ _ _ _ _ _ _ _ _ _ _ _ _ _ _ _ _ _ _ _) ?_
 rw [World.setRow_alloc_new]
 obtain ⟨g3, hg3⟩ : ∃ g, w1.heap.size = g := ⟨_, rfl⟩
 rw [hg3] at HB3 ⊢
 have HNE := Lib.hid (show g3 = g + 2 by rw [← hg3]; exact HSZ.out)
 clear hg3
 generalize w1.alloc (.cells (txA 4 0 0 0 0 0 0 0 0 0 0 gas dst v0 v1 v2 v3 data (.slice none 0 0) (.slice none 0 0) 0 0 0 0 0 0 0 0 0 ⟨#[]⟩ ⟨#[]⟩ 0 0 0 0 false) 42) = w2 at *
 clear c0 c11 c12 c13 c14 c15 c16 c17
 have c0 : w2.cell? ⟨g, 0, none⟩ = some (.int .i64 4) := HB1.out.cell 0
 go_upto_region 5 with (fail)
 refine wp_region_held (S := fun V => Blk V g 42 ((txA 4 chain nonce tip0 tip1 tip2 tip3 p0 p1 p2 p3 gas dst v0 v1 v2 v3 data (.slice pa na xa) (.slice pb nb xb) y r0 r1 r2 r3 s0 s1 s2 s3 source frm mint0 mint1 mint2 mint3 system))) (by kernel_rfl) ?_
 change wpAnyH _ _ _ _ _ _ _ _ w2.drew
 have hS0 : Blk w2.drew g 42 (txA 4 chain nonce tip0 tip1 tip2 tip3 p0 p1 p2 p3 gas dst v0 v1 v2 v3 data (.slice pa na xa) (.slice pb nb xb) y r0 r1 r2 r3 s0 s1 s2 s3 source frm mint0 mint1 mint2 mint3 system) := HB1.out
 have hT0 : Blk w2.drew (g + 1) 42 txZ := HB2.out
 have hU0 : Blk w2.drew g3 42 (txA 4 0 0 0 0 0 0 0 0 0 0 gas dst v0 v1 v2 v3 data (.slice none 0 0) (.slice none 0 0) 0 0 0 0 0 0 0 0 0 ⟨#[]⟩ ⟨#[]⟩ 0 0 0 0 false) := HB3.out
 have hg0 : w.grownBy w2.drew none := grown_drew HG.out
 clear c0
 generalize w2.drew = u0 at *
 refine zt 0 (.pointer (some ⟨g, 1, none⟩)) (some 31) rfl (fun W hW => by go_simp) hS0 ?_
 simp only [Act.put, jb, jz, js]
 refine zt 1 (.int .u64 chain) (some 32) rfl (fun W hW => exec_loadC 23 _ rfl _ rfl _ _ Tryz.underlying23 rfl ((Blk.cell hW 1).trans rfl)) hS0 ?_
 simp only [Act.put, jb, jz, js]
 refine zt 2 (.pointer (some ⟨g, 2, none⟩)) (some 33) rfl (fun W hW => by go_simp) hS0 ?_
 simp only [Act.put, jb, jz, js]
 refine zt 3 (.int .u64 nonce) (some 34) rfl (fun W hW => exec_loadC 23 _ rfl _ rfl _ _ Tryz.underlying23 rfl ((Blk.cell hW 2).trans rfl)) hS0 ?_
 simp only [Act.put, jb, jz, js]
 refine zt 4 (.pointer (some ⟨g, 7, none⟩)) (some 35) rfl (fun W hW => by go_simp) hS0 ?_
 simp only [Act.put, jb, jz, js]
 refine zt 5 (.agg #[.int .u64 p0, .int .u64 p1, .int .u64 p2, .int .u64 p3]) (some 36) rfl (fun W hW => exec_loadW _ rfl rfl ((Blk.cell hW 7).trans rfl) ((Blk.cell hW 8).trans rfl) ((Blk.cell hW 9).trans rfl) ((Blk.cell hW 10).trans rfl)) hS0 ?_
 simp only [Act.put, jb, jz, js]
 refine zt 6 (.pointer (some ⟨g, 20, none⟩)) (some 37) rfl (fun W hW => by go_simp) hS0 ?_
 simp only [Act.put, jb, jz, js]
 refine zt 7 (.int .u64 y) (some 38) rfl (fun W hW => exec_loadC 23 _ rfl _ rfl _ _ Tryz.underlying23 rfl ((Blk.cell hW 20).trans rfl)) hS0 ?_
 simp only [Act.put, jb, jz, js]
 refine zt 8 (.pointer (some ⟨g, 21, none⟩)) (some 39) rfl (fun W hW => by go_simp) hS0 ?_
 simp only [Act.put, jb, jz, js]
 refine zt 9 (.agg #[.int .u64 r0, .int .u64 r1, .int .u64 r2, .int .u64 r3]) (some 40) rfl (fun W hW => exec_loadW _ rfl rfl ((Blk.cell hW 21).trans rfl) ((Blk.cell hW 22).trans rfl) ((Blk.cell hW 23).trans rfl) ((Blk.cell hW 24).trans rfl)) hS0 ?_
 simp only [Act.put, jb, jz, js]
 refine zt 10 (.pointer (some ⟨g, 25, none⟩)) (some 41) rfl (fun W hW => by go_simp) hS0 ?_
 simp only [Act.put, jb, jz, js]
 refine zt 11 (.agg #[.int .u64 s0, .int .u64 s1, .int .u64 s2, .int .u64 s3]) (some 42) rfl (fun W hW => exec_loadW _ rfl rfl ((Blk.cell hW 25).trans rfl) ((Blk.cell hW 26).trans rfl) ((Blk.cell hW 27).trans rfl) ((Blk.cell hW 28).trans rfl)) hS0 ?_
 simp only [Act.put, jb, jz, js]
 have hSr : ∀ c, Blk (u0.setRow g3 c) g 42 ((txA 4 chain nonce tip0 tip1 tip2 tip3 p0 p1 p2 p3 gas dst v0 v1 v2 v3 data (.slice pa na xa) (.slice pb nb xb) y r0 r1 r2 r3 s0 s1 s2 s3 source frm mint0 mint1 mint2 mint3 system)) := fun c => (setRow_other u0 g3 g c (by have := HNE.out; omega)).trans hS0
 have hself := setRow_self u0 g3 _ 42 (0, 0) hU0
 rw [← hself]
 clear hself
 refine zt 12 (.pointer (some ⟨g3, 1, none⟩)) (some 43) rfl (fun W hW => by go_simp) (hSr _) ?_
 simp only [Act.put, jb, jz, js]
 refine held_one (i := 13) (by kernel_rfl) ?_
 refine held_skip rfl rfl rfl (exec_store_row hU0 _ 23 (.tmp 43) (.tmp 32) rfl 1 rfl (.int .u64 chain) rfl [.int .u64 chain] rfl (by kernel_rfl) (by kernel_rfl) (by simp [Value.oneCell']) (txA 4 chain 0 0 0 0 0 0 0 0 0 gas dst v0 v1 v2 v3 data (.slice none 0 0) (.slice none 0 0) 0 0 0 0 0 0 0 0 0 ⟨#[]⟩ ⟨#[]⟩ 0 0 0 0 false) (by kernel_rfl)) (hSr _) ?_
 (try simp only [Act.put, jb, jz, js])
 refine zt 14 (.pointer (some ⟨g3, 2, none⟩)) (some 44) rfl (fun W hW => by go_simp) (hSr _) ?_
 simp only [Act.put, jb, jz, js]
 refine held_one (i := 15) (by kernel_rfl) ?_
 refine held_skip rfl rfl rfl (exec_store_row hU0 _ 23 (.tmp 44) (.tmp 34) rfl 2 rfl (.int .u64 nonce) rfl [.int .u64 nonce] rfl (by kernel_rfl) (by kernel_rfl) (by simp [Value.oneCell']) (txA 4 chain nonce 0 0 0 0 0 0 0 0 gas dst v0 v1 v2 v3 data (.slice none 0 0) (.slice none 0 0) 0 0 0 0 0 0 0 0 0 ⟨#[]⟩ ⟨#[]⟩ 0 0 0 0 false) (by kernel_rfl)) (hSr _) ?_
 (try simp only [Act.put, jb, jz, js])
 refine zt 16 (.pointer (some ⟨g3, 7, none⟩)) (some 45) rfl (fun W hW => by go_simp) (hSr _) ?_
 simp only [Act.put, jb, jz, js]
 refine held_one (i := 17) (by kernel_rfl) ?_
 refine held_skip rfl rfl rfl (exec_store_row hU0 _ 38 (.tmp 45) (.tmp 36) rfl 7 rfl (.agg #[.int .u64 p0, .int .u64 p1, .int .u64 p2, .int .u64 p3]) rfl [.int .u64 p0, .int .u64 p1, .int .u64 p2, .int .u64 p3] rfl (by kernel_rfl) (by kernel_rfl) (by simp [Value.oneCell']) (txA 4 chain nonce 0 0 0 0 p0 p1 p2 p3 gas dst v0 v1 v2 v3 data (.slice none 0 0) (.slice none 0 0) 0 0 0 0 0 0 0 0 0 ⟨#[]⟩ ⟨#[]⟩ 0 0 0 0 false) (by kernel_rfl)) (hSr _) ?_
 (try simp only [Act.put, jb, jz, js])
 refine zt 18 (.pointer (some ⟨g3, 20, none⟩)) (some 46) rfl (fun W hW => by go_simp) (hSr _) ?_
 simp only [Act.put, jb, jz, js]
 refine held_one (i := 19) (by kernel_rfl) ?_
 refine held_skip rfl rfl rfl (exec_store_row hU0 _ 23 (.tmp 46) (.tmp 38) rfl 20 rfl (.int .u64 y) rfl [.int .u64 y] rfl (by kernel_rfl) (by kernel_rfl) (by simp [Value.oneCell']) (txA 4 chain nonce 0 0 0 0 p0 p1 p2 p3 gas dst v0 v1 v2 v3 data (.slice none 0 0) (.slice none 0 0) y 0 0 0 0 0 0 0 0 ⟨#[]⟩ ⟨#[]⟩ 0 0 0 0 false) (by kernel_rfl)) (hSr _) ?_
 (try simp only [Act.put, jb, jz, js])
 refine zt 20 (.pointer (some ⟨g3, 21, none⟩)) (some 47) rfl (fun W hW => by go_simp) (hSr _) ?_
 simp only [Act.put, jb, jz, js]
 refine held_one (i := 21) (by kernel_rfl) ?_
 refine held_skip rfl rfl rfl (exec_store_row hU0 _ 38 (.tmp 47) (.tmp 40) rfl 21 rfl (.agg #[.int .u64 r0, .int .u64 r1, .int .u64 r2, .int .u64 r3]) rfl [.int .u64 r0, .int .u64 r1, .int .u64 r2, .int .u64 r3] rfl (by kernel_rfl) (by kernel_rfl) (by simp [Value.oneCell']) (txA 4 chain nonce 0 0 0 0 p0 p1 p2 p3 gas dst v0 v1 v2 v3 data (.slice none 0 0) (.slice none 0 0) y r0 r1 r2 r3 0 0 0 0 ⟨#[]⟩ ⟨#[]⟩ 0 0 0 0 false) (by kernel_rfl)) (hSr _) ?_
 (try simp only [Act.put, jb, jz, js])
 refine zt 22 (.pointer (some ⟨g3, 25, none⟩)) (some 48) rfl (fun W hW => by go_simp) (hSr _) ?_
 simp only [Act.put, jb, jz, js]
 refine held_one (i := 23) (by kernel_rfl) ?_
 refine held_skip rfl rfl rfl (exec_store_row hU0 _ 38 (.tmp 48) (.tmp 42) rfl 25 rfl (.agg #[.int .u64 s0, .int .u64 s1, .int .u64 s2, .int .u64 s3]) rfl [.int .u64 s0, .int .u64 s1, .int .u64 s2, .int .u64 s3] rfl (by kernel_rfl) (by kernel_rfl) (by simp [Value.oneCell']) (txA 4 chain nonce 0 0 0 0 p0 p1 p2 p3 gas dst v0 v1 v2 v3 data (.slice none 0 0) (.slice none 0 0) y r0 r1 r2 r3 s0 s1 s2 s3 ⟨#[]⟩ ⟨#[]⟩ 0 0 0 0 false) (by kernel_rfl)) (hSr _) ?_
 (try simp only [Act.put, jb, jz, js])
 refine wpAnyH_done (by kernel_rfl) ?_ _
 replace HB1 := Lib.hid (show Blk (u0.setRow g3 (txA 4 chain nonce 0 0 0 0 p0 p1 p2 p3 gas dst v0 v1 v2 v3 data (.slice none 0 0) (.slice none 0 0) y r0 r1 r2 r3 s0 s1 s2 s3 ⟨#[]⟩ ⟨#[]⟩ 0 0 0 0 false)) g 42 (txA 4 chain nonce tip0 tip1 tip2 tip3 p0 p1 p2 p3 gas dst v0 v1 v2 v3 data (.slice pa na xa) (.slice pb nb xb) y r0 r1 r2 r3 s0 s1 s2 s3 source frm mint0 mint1 mint2 mint3 system) from (setRow_other u0 g3 g _ (by have := HNE.out; omega)).trans hS0)
 replace HB2 := Lib.hid (show Blk (u0.setRow g3 (txA 4 chain nonce 0 0 0 0 p0 p1 p2 p3 gas dst v0 v1 v2 v3 data (.slice none 0 0) (.slice none 0 0) y r0 r1 r2 r3 s0 s1 s2 s3 ⟨#[]⟩ ⟨#[]⟩ 0 0 0 0 false)) (g + 1) 42 txZ from (setRow_other u0 g3 (g + 1) _ (by have := HNE.out; omega)).trans hT0)
 replace HB3 := Lib.hid (blk_setRow (cs' := (txA 4 chain nonce 0 0 0 0 p0 p1 p2 p3 gas dst v0 v1 v2 v3 data (.slice none 0 0) (.slice none 0 0) y r0 r1 r2 r3 s0 s1 s2 s3 ⟨#[]⟩ ⟨#[]⟩ 0 0 0 0 false)) hU0)
 replace HG := Lib.hid (only_setRow (g := g3) hg0 (by have := HW.out; have := HNE.out; omega) (txA 4 chain nonce 0 0 0 0 p0 p1 p2 p3 gas dst v0 v1 v2 v3 data (.slice none 0 0) (.slice none 0 0) y r0 r1 r2 r3 s0 s1 s2 s3 ⟨#[]⟩ ⟨#[]⟩ 0 0 0 0 false))
 clear hS0 hT0 hU0 hg0 hSr
 generalize u0.setRow g3 (txA 4 chain nonce 0 0 0 0 p0 p1 p2 p3 gas dst v0 v1 v2 v3 data (.slice none 0 0) (.slice none 0 0) y r0 r1 r2 r3 s0 s1 s2 s3 ⟨#[]⟩ ⟨#[]⟩ 0 0 0 0 false) = w3 at *
 have c0 : w3.cell? ⟨g, 0, none⟩ = some (.int .i64 4) := HB1.out.cell 0
 go_upto_region 10 with (fail)
 refine wp_region_list ?_
 have hW := HB1.out
 have hU0 := HB3.out
 refine wpList_value rfl (.pointer (some ⟨g, 19, none⟩)) (by go_simp <;> rfl) ?_
 simp only [Act.put, jb, jz, js]
 refine wpList_value rfl (.slice pb nb xb) (exec_loadC 40 _ rfl _ rfl _ _ Tryz.underlying40 rfl ((Blk.cell hW 19).trans rfl)) ?_
 simp only [Act.put, jb, jz, js]
 refine wpList_value rfl (.pointer (some ⟨g3, 19, none⟩)) (by go_simp <;> rfl) ?_
 simp only [Act.put, jb, jz, js]
 have hself := setRow_self w3 g3 _ 42 (0, 0) hU0
 rw [← hself]
 clear hself
 refine wpList_skip rfl rfl (exec_store_row hU0 _ 40 (.tmp 59) (.tmp 58) rfl 19 rfl (.slice pb nb xb) rfl [.slice pb nb xb] rfl (by kernel_rfl) (by kernel_rfl) (by simp [Value.oneCell']) (txA 4 chain nonce 0 0 0 0 p0 p1 p2 p3 gas dst v0 v1 v2 v3 data (.slice none 0 0) (.slice pb nb xb) y r0 r1 r2 r3 s0 s1 s2 s3 ⟨#[]⟩ ⟨#[]⟩ 0 0 0 0 false) (by kernel_rfl)) ?_
 refine wpList_nil ?_
 replace HB1 := Lib.hid (show Blk (w3.setRow g3 (txA 4 chain nonce 0 0 0 0 p0 p1 p2 p3 gas dst v0 v1 v2 v3 data (.slice none 0 0) (.slice pb nb xb) y r0 r1 r2 r3 s0 s1 s2 s3 ⟨#[]⟩ ⟨#[]⟩ 0 0 0 0 false)) g 42 (txA 4 chain nonce tip0 tip1 tip2 tip3 p0 p1 p2 p3 gas dst v0 v1 v2 v3 data (.slice pa na xa) (.slice pb nb xb) y r0 r1 r2 r3 s0 s1 s2 s3 source frm mint0 mint1 mint2 mint3 system) from (setRow_other w3 g3 g _ (by have := HNE.out; omega)).trans hW)
 replace HB2 := Lib.hid (show Blk (w3.setRow g3 (txA 4 chain nonce 0 0 0 0 p0 p1 p2 p3 gas dst v0 v1 v2 v3 data (.slice none 0 0) (.slice pb nb xb) y r0 r1 r2 r3 s0 s1 s2 s3 ⟨#[]⟩ ⟨#[]⟩ 0 0 0 0 false)) (g + 1) 42 txZ from (setRow_other w3 g3 (g + 1) _ (by have := HNE.out; omega)).trans HB2.out)
 replace HB3 := Lib.hid (blk_setRow (cs' := (txA 4 chain nonce 0 0 0 0 p0 p1 p2 p3 gas dst v0 v1 v2 v3 data (.slice none 0 0) (.slice pb nb xb) y r0 r1 r2 r3 s0 s1 s2 s3 ⟨#[]⟩ ⟨#[]⟩ 0 0 0 0 false)) hU0)
 replace HG := Lib.hid (only_setRow (g := g3) HG.out (by have := HW.out; have := HNE.out; omega) (txA 4 chain nonce 0 0 0 0 p0 p1 p2 p3 gas dst v0 v1 v2 v3 data (.slice none 0 0) (.slice pb nb xb) y r0 r1 r2 r3 s0 s1 s2 s3 ⟨#[]⟩ ⟨#[]⟩ 0 0 0 0 false))
 clear hW hU0
 generalize w3.setRow g3 (txA 4 chain nonce 0 0 0 0 p0 p1 p2 p3 gas dst v0 v1 v2 v3 data (.slice none 0 0) (.slice pb nb xb) y r0 r1 r2 r3 s0 s1 s2 s3 ⟨#[]⟩ ⟨#[]⟩ 0 0 0 0 false) = w4 at *
 clear c0
 go_upto_region 11 with (fail)
 refine wp_region_list ?_
 have hW := HB1.out
 have hU0 := HB3.out
 refine wpList_value rfl (.pointer (some ⟨g, 3, none⟩)) (by go_simp <;> rfl) ?_
 simp only [Act.put, jb, jz, js]
 refine wpList_value rfl (.agg #[.int .u64 tip0, .int .u64 tip1, .int .u64 tip2, .int .u64 tip3]) (exec_loadW _ rfl rfl ((Blk.cell hW 3).trans rfl) ((Blk.cell hW 4).trans rfl) ((Blk.cell hW 5).trans rfl) ((Blk.cell hW 6).trans rfl)) ?_
 simp only [Act.put, jb, jz, js]
 refine wpList_value rfl (.pointer (some ⟨g3, 3, none⟩)) (by go_simp <;> rfl) ?_
 simp only [Act.put, jb, jz, js]
 have hself := setRow_self w4 g3 _ 42 (0, 0) hU0
 rw [← hself]
 clear hself
 refine wpList_skip rfl rfl (exec_store_row hU0 _ 38 (.tmp 62) (.tmp 61) rfl 3 rfl (.agg #[.int .u64 tip0, .int .u64 tip1, .int .u64 tip2, .int .u64 tip3]) rfl [.int .u64 tip0, .int .u64 tip1, .int .u64 tip2, .int .u64 tip3] rfl (by kernel_rfl) (by kernel_rfl) (by simp [Value.oneCell']) (txA 4 chain nonce tip0 tip1 tip2 tip3 p0 p1 p2 p3 gas dst v0 v1 v2 v3 data (.slice none 0 0) (.slice pb nb xb) y r0 r1 r2 r3 s0 s1 s2 s3 ⟨#[]⟩ ⟨#[]⟩ 0 0 0 0 false) (by kernel_rfl)) ?_
 refine wpList_nil ?_
 replace HB1 := Lib.hid (show Blk (w4.setRow g3 (txA 4 chain nonce tip0 tip1 tip2 tip3 p0 p1 p2 p3 gas dst v0 v1 v2 v3 data (.slice none 0 0) (.slice pb nb xb) y r0 r1 r2 r3 s0 s1 s2 s3 ⟨#[]⟩ ⟨#[]⟩ 0 0 0 0 false)) g 42 (txA 4 chain nonce tip0 tip1 tip2 tip3 p0 p1 p2 p3 gas dst v0 v1 v2 v3 data (.slice pa na xa) (.slice pb nb xb) y r0 r1 r2 r3 s0 s1 s2 s3 source frm mint0 mint1 mint2 mint3 system) from (setRow_other w4 g3 g _ (by have := HNE.out; omega)).trans hW)
 replace HB2 := Lib.hid (show Blk (w4.setRow g3 (txA 4 chain nonce tip0 tip1 tip2 tip3 p0 p1 p2 p3 gas dst v0 v1 v2 v3 data (.slice none 0 0) (.slice pb nb xb) y r0 r1 r2 r3 s0 s1 s2 s3 ⟨#[]⟩ ⟨#[]⟩ 0 0 0 0 false)) (g + 1) 42 txZ from (setRow_other w4 g3 (g + 1) _ (by have := HNE.out; omega)).trans HB2.out)
 replace HB3 := Lib.hid (blk_setRow (cs' := (txA 4 chain nonce tip0 tip1 tip2 tip3 p0 p1 p2 p3 gas dst v0 v1 v2 v3 data (.slice none 0 0) (.slice pb nb xb) y r0 r1 r2 r3 s0 s1 s2 s3 ⟨#[]⟩ ⟨#[]⟩ 0 0 0 0 false)) hU0)
 replace HG := Lib.hid (only_setRow (g := g3) HG.out (by have := HW.out; have := HNE.out; omega) (txA 4 chain nonce tip0 tip1 tip2 tip3 p0 p1 p2 p3 gas dst v0 v1 v2 v3 data (.slice none 0 0) (.slice pb nb xb) y r0 r1 r2 r3 s0 s1 s2 s3 ⟨#[]⟩ ⟨#[]⟩ 0 0 0 0 false))
 clear hW hU0
 generalize w4.setRow g3 (txA 4 chain nonce tip0 tip1 tip2 tip3 p0 p1 p2 p3 gas dst v0 v1 v2 v3 data (.slice none 0 0) (.slice pb nb xb) y r0 r1 r2 r3 s0 s1 s2 s3 ⟨#[]⟩ ⟨#[]⟩ 0 0 0 0 false) = w5 at *
 go_upto_region 12 with (fail)
 refine wp_region_list ?_
 have hW := HB1.out
 have hU0 := HB3.out
 refine wpList_value rfl (.pointer (some ⟨g, 18, none⟩)) (by go_simp <;> rfl) ?_
 simp only [Act.put, jb, jz, js]
 refine wpList_value rfl (.slice pa na xa) (exec_loadC 39 _ rfl _ rfl _ _ Tryz.underlying39 rfl ((Blk.cell hW 18).trans rfl)) ?_
 simp only [Act.put, jb, jz, js]
 refine wpList_value rfl (.pointer (some ⟨g3, 18, none⟩)) (by go_simp <;> rfl) ?_
 simp only [Act.put, jb, jz, js]
 have hself := setRow_self w5 g3 _ 42 (0, 0) hU0
 rw [← hself]
 clear hself
 refine wpList_skip rfl rfl (exec_store_row hU0 _ 39 (.tmp 65) (.tmp 64) rfl 18 rfl (.slice pa na xa) rfl [.slice pa na xa] rfl (by kernel_rfl) (by kernel_rfl) (by simp [Value.oneCell']) (txA 4 chain nonce tip0 tip1 tip2 tip3 p0 p1 p2 p3 gas dst v0 v1 v2 v3 data (.slice pa na xa) (.slice pb nb xb) y r0 r1 r2 r3 s0 s1 s2 s3 ⟨#[]⟩ ⟨#[]⟩ 0 0 0 0 false) (by kernel_rfl)) ?_
 refine wpList_nil ?_
 replace HB1 := Lib.hid (show Blk (w5.setRow g3 (txA 4 chain nonce tip0 tip1 tip2 tip3 p0 p1 p2 p3 gas dst v0 v1 v2 v3 data (.slice pa na xa) (.slice pb nb xb) y r0 r1 r2 r3 s0 s1 s2 s3 ⟨#[]⟩ ⟨#[]⟩ 0 0 0 0 false)) g 42 (txA 4 chain nonce tip0 tip1 tip2 tip3 p0 p1 p2 p3 gas dst v0 v1 v2 v3 data (.slice pa na xa) (.slice pb nb xb) y r0 r1 r2 r3 s0 s1 s2 s3 source frm mint0 mint1 mint2 mint3 system) from (setRow_other w5 g3 g _ (by have := HNE.out; omega)).trans hW)
 replace HB2 := Lib.hid (show Blk (w5.setRow g3 (txA 4 chain nonce tip0 tip1 tip2 tip3 p0 p1 p2 p3 gas dst v0 v1 v2 v3 data (.slice pa na xa) (.slice pb nb xb) y r0 r1 r2 r3 s0 s1 s2 s3 ⟨#[]⟩ ⟨#[]⟩ 0 0 0 0 false)) (g + 1) 42 txZ from (setRow_other w5 g3 (g + 1) _ (by have := HNE.out; omega)).trans HB2.out)
 replace HB3 := Lib.hid (blk_setRow (cs' := (txA 4 chain nonce tip0 tip1 tip2 tip3 p0 p1 p2 p3 gas dst v0 v1 v2 v3 data (.slice pa na xa) (.slice pb nb xb) y r0 r1 r2 r3 s0 s1 s2 s3 ⟨#[]⟩ ⟨#[]⟩ 0 0 0 0 false)) hU0)
 replace HG := Lib.hid (only_setRow (g := g3) HG.out (by have := HW.out; have := HNE.out; omega) (txA 4 chain nonce tip0 tip1 tip2 tip3 p0 p1 p2 p3 gas dst v0 v1 v2 v3 data (.slice pa na xa) (.slice pb nb xb) y r0 r1 r2 r3 s0 s1 s2 s3 ⟨#[]⟩ ⟨#[]⟩ 0 0 0 0 false))
 clear hW hU0
 generalize w5.setRow g3 (txA 4 chain nonce tip0 tip1 tip2 tip3 p0 p1 p2 p3 gas dst v0 v1 v2 v3 data (.slice pa na xa) (.slice pb nb xb) y r0 r1 r2 r3 s0 s1 s2 s3 ⟨#[]⟩ ⟨#[]⟩ 0 0 0 0 false) = w6 at *
 go_upto_region 13 with (fail)
 refine wp_region_list ?_
 refine wpList_load_row rfl 42 (.tmp 3) rfl g3 rfl 42 (txA 4 chain nonce tip0 tip1 tip2 tip3 p0 p1 p2 p3 gas dst v0 v1 v2 v3 data (.slice pa na xa) (.slice pb nb xb) y r0 r1 r2 r3 s0 s1 s2 s3 ⟨#[]⟩ ⟨#[]⟩ 0 0 0 0 false) (0, 0) _ HB3.out Tryz.underlying42 rfl (by kernel_rfl) ?_
 simp only [Act.put, jb, jz, js]
 refine wpList_store_row rfl 42 (.tmp 2) (.tmp 66) rfl (g + 1) (txA 4 chain nonce tip0 tip1 tip2 tip3 p0 p1 p2 p3 gas dst v0 v1 v2 v3 data (.slice pa na xa) (.slice pb nb xb) y r0 r1 r2 r3 s0 s1 s2 s3 ⟨#[]⟩ ⟨#[]⟩ 0 0 0 0 false) rfl rfl 42 txZ HB2.out (by kernel_rfl) rfl (txA_one _ _ _ _ _ _ _ _ _ _ _ _ _ _ _ _ _ _ _ _ _ _ _ _ _ _ _ _ _ _ _ _ _ _ _ _ _ _ _ _) ?_
 have HR2 := Lib.hid (blk_setRow (cs' := (txA 4 chain nonce tip0 tip1 tip2 tip3 p0 p1 p2 p3 gas dst v0 v1 v2 v3 data (.slice pa na xa) (.slice pb nb xb) y r0 r1 r2 r3 s0 s1 s2 s3 ⟨#[]⟩ ⟨#[]⟩ 0 0 0 0 false)) HB2.out)
 have HG3 := Lib.hid (only_setRow (g := g + 1) HG.out (by have := HW.out; omega) (txA 4 chain nonce tip0 tip1 tip2 tip3 p0 p1 p2 p3 gas dst v0 v1 v2 v3 data (.slice pa na xa) (.slice pb nb xb) y r0 r1 r2 r3 s0 s1 s2 s3 ⟨#[]⟩ ⟨#[]⟩ 0 0 0 0 false))
 generalize w6.setRow (g + 1) (txA 4 chain nonce tip0 tip1 tip2 tip3 p0 p1 p2 p3 gas dst v0 v1 v2 v3 data (.slice pa na xa) (.slice pb nb xb) y r0 r1 r2 r3 s0 s1 s2 s3 ⟨#[]⟩ ⟨#[]⟩ 0 0 0 0 false) = w9 at *
 refine wpList_nil ?_
 simp only [Act.put, jb, jz, js]
 go_wp2_with fail
 refine bodyPost_ret (results_cell_row (fn := Tryz.f60) rfl _ _ _ _ _ _ _ rfl HR2.out Tryz.underlying42 rfl (by kernel_rfl)) rfl ?_
 exact ⟨rfl, HG3.out⟩
theorem txNamedA_126 (chain nonce tip0 tip1 tip2 tip3 p0 p1 p2 p3 gas : Int) (dst : ByteArray) (v0 v1 v2 v3 : Int) (data : ByteArray) (pa : Option Addr) (na xa : Nat) (pb : Option Addr) (nb xb : Nat) (y r0 r1 r2 r3 s0 s1 s2 s3 : Int) (source frm : ByteArray) (mint0 mint1 mint2 mint3 : Int) (system : Bool) (w : World) : Calls Tryz.prog 60 #[.agg (txA 126 chain nonce tip0 tip1 tip2 tip3 p0 p1 p2 p3 gas dst v0 v1 v2 v3 data (.slice pa na xa) (.slice pb nb xb) y r0 r1 r2 r3 s0 s1 s2 s3 source frm mint0 mint1 mint2 mint3 system)] w fun e w' => e = .returned (.agg (txA 126 0 0 0 0 0 0 0 0 0 0 gas dst v0 v1 v2 v3 data (.slice none 0 0) (.slice none 0 0) 0 0 0 0 0 0 0 0 0 source frm mint0 mint1 mint2 mint3 system)) ∧ w.grownBy w' none := by
 have hG := only_alloc (only_alloc (World.grownBy.refl w none) (.cells (txA 126 chain nonce tip0 tip1 tip2 tip3 p0 p1 p2 p3 gas dst v0 v1 v2 v3 data (.slice pa na xa) (.slice pb nb xb) y r0 r1 r2 r3 s0 s1 s2 s3 source frm mint0 mint1 mint2 mint3 system) 42)) (.cells txZ 42)
 have hb1 := (Blk.new w 42 (txA 126 chain nonce tip0 tip1 tip2 tip3 p0 p1 p2 p3 gas dst v0 v1 v2 v3 data (.slice pa na xa) (.slice pb nb xb) y r0 r1 r2 r3 s0 s1 s2 s3 source frm mint0 mint1 mint2 mint3 system)).alloc (.cells txZ 42)
 have hb2 := Blk.new (w.alloc (.cells (txA 126 chain nonce tip0 tip1 tip2 tip3 p0 p1 p2 p3 gas dst v0 v1 v2 v3 data (.slice pa na xa) (.slice pb nb xb) y r0 r1 r2 r3 s0 s1 s2 s3 source frm mint0 mint1 mint2 mint3 system) 42)) 42 txZ
 rw [World.size_alloc] at hb2
 go_enter Tryz.func60, Tryz.ntmps60
 go_upto_region 1 with (fail)
 change Code.wp _ _ _ _ ((w.alloc (.cells (txA 126 chain nonce tip0 tip1 tip2 tip3 p0 p1 p2 p3 gas dst v0 v1 v2 v3 data (.slice pa na xa) (.slice pb nb xb) y r0 r1 r2 r3 s0 s1 s2 s3 source frm mint0 mint1 mint2 mint3 system) 42)).alloc (.cells txZ 42))
 obtain ⟨g, hg⟩ : ∃ g, w.heap.size = g := ⟨_, rfl⟩
 have HW := Lib.hid hg
 rw [hg] at hb1 hb2 ⊢
 clear hg
 have hsz : ((w.alloc (.cells (txA 126 chain nonce tip0 tip1 tip2 tip3 p0 p1 p2 p3 gas dst v0 v1 v2 v3 data (.slice pa na xa) (.slice pb nb xb) y r0 r1 r2 r3 s0 s1 s2 s3 source frm mint0 mint1 mint2 mint3 system) 42)).alloc (.cells txZ 42)).heap.size = g + 2 := by rw [World.size_alloc, World.size_alloc, HW.out]
 generalize (w.alloc (.cells (txA 126 chain nonce tip0 tip1 tip2 tip3 p0 p1 p2 p3 gas dst v0 v1 v2 v3 data (.slice pa na xa) (.slice pb nb xb) y r0 r1 r2 r3 s0 s1 s2 s3 source frm mint0 mint1 mint2 mint3 system) 42)).alloc (.cells txZ 42) = w1 at *
 have c0 : w1.cell? ⟨g, 0, none⟩ = some (.int .i64 126) := hb1.cell 0
 have c11 : w1.cell? ⟨g, 11, none⟩ = some (.int .u64 gas) := hb1.cell 11
 have c12 : w1.cell? ⟨g, 12, none⟩ = some (.string dst) := hb1.cell 12
 have c13 : w1.cell? ⟨g, 13, none⟩ = some (.int .u64 v0) := hb1.cell 13
 have c14 : w1.cell? ⟨g, 14, none⟩ = some (.int .u64 v1) := hb1.cell 14
 have c15 : w1.cell? ⟨g, 15, none⟩ = some (.int .u64 v2) := hb1.cell 15
 have c16 : w1.cell? ⟨g, 16, none⟩ = some (.int .u64 v3) := hb1.cell 16
 have c17 : w1.cell? ⟨g, 17, none⟩ = some (.string data) := hb1.cell 17
 have HB1 := Lib.hid (hb1.alloc (.cells (txA 126 0 0 0 0 0 0 0 0 0 0 gas dst v0 v1 v2 v3 data (.slice none 0 0) (.slice none 0 0) 0 0 0 0 0 0 0 0 0 ⟨#[]⟩ ⟨#[]⟩ 0 0 0 0 false) 42)); have HB2 := Lib.hid (hb2.alloc (.cells (txA 126 0 0 0 0 0 0 0 0 0 0 gas dst v0 v1 v2 v3 data (.slice none 0 0) (.slice none 0 0) 0 0 0 0 0 0 0 0 0 ⟨#[]⟩ ⟨#[]⟩ 0 0 0 0 false) 42)); have HB3 := Lib.hid (Blk.new w1 42 (txA 126 0 0 0 0 0 0 0 0 0 0 gas dst v0 v1 v2 v3 data (.slice none 0 0) (.slice none 0 0) 0 0 0 0 0 0 0 0 0 ⟨#[]⟩ ⟨#[]⟩ 0 0 0 0 false))
 have HG := Lib.hid (only_alloc hG (.cells (txA 126 0 0 0 0 0 0 0 0 0 0 gas dst v0 v1 v2 v3 data (.slice none 0 0) (.slice none 0 0) 0 0 0 0 0 0 0 0 0 ⟨#[]⟩ ⟨#[]⟩ 0 0 0 0 false) 42))
 have HSZ := Lib.hid hsz
 clear hb1 hb2 hG hsz
 refine wp_region_list ?_
 iterate 36 go_step
 refine wp_store_row 42 (.tmp 3) (.tmp 14) rfl w1.heap.size (txA 126 0 0 0 0 0 0 0 0 0 0 gas dst v0 v1 v2 v3 data (.slice none 0 0) (.slice none 0 0) 0 0 0 0 0 0 0 0 0 ⟨#[]⟩ ⟨#[]⟩ 0 0 0 0 false) rfl rfl 42 txZ (Blk.new w1 _ txZ) (by kernel_rfl) rfl (txA_one _ _ _ _ _ _ _ _ _ _ _ _ _ _ _ _ _ _ _ _ _ _ _ _ _ _ _ _ _ _ _ _ _ _ _ _ _ _ _ _) ?_
 rw [World.setRow_alloc_new]
 obtain ⟨g3, hg3⟩ : ∃ g, w1.heap.size = g := ⟨_, rfl⟩
 rw [hg3] at HB3 ⊢
 have HNE := Lib.hid (show g3 = g + 2 by rw [← hg3]; exact HSZ.out)
 clear hg3
 generalize w1.alloc (.cells (txA 126 0 0 0 0 0 0 0 0 0 0 gas dst v0 v1 v2 v3 data (.slice none 0 0) (.slice none 0 0) 0 0 0 0 0 0 0 0 0 ⟨#[]⟩ ⟨#[]⟩ 0 0 0 0 false) 42) = w2 at *
 clear c0 c11 c12 c13 c14 c15 c16 c17
 have c0 : w2.cell? ⟨g, 0, none⟩ = some (.int .i64 126) := HB1.out.cell 0
 go_upto_region 3 with (fail)
 refine wp_region_held (S := fun V => Blk V g 42 ((txA 126 chain nonce tip0 tip1 tip2 tip3 p0 p1 p2 p3 gas dst v0 v1 v2 v3 data (.slice pa na xa) (.slice pb nb xb) y r0 r1 r2 r3 s0 s1 s2 s3 source frm mint0 mint1 mint2 mint3 system))) (by kernel_rfl) ?_
 change wpAnyH _ _ _ _ _ _ _ _ w2.drew
 have hS0 : Blk w2.drew g 42 (txA 126 chain nonce tip0 tip1 tip2 tip3 p0 p1 p2 p3 gas dst v0 v1 v2 v3 data (.slice pa na xa) (.slice pb nb xb) y r0 r1 r2 r3 s0 s1 s2 s3 source frm mint0 mint1 mint2 mint3 system) := HB1.out
 have hT0 : Blk w2.drew (g + 1) 42 txZ := HB2.out
 have hU0 : Blk w2.drew g3 42 (txA 126 0 0 0 0 0 0 0 0 0 0 gas dst v0 v1 v2 v3 data (.slice none 0 0) (.slice none 0 0) 0 0 0 0 0 0 0 0 0 ⟨#[]⟩ ⟨#[]⟩ 0 0 0 0 false) := HB3.out
 have hg0 : w.grownBy w2.drew none := grown_drew HG.out
 clear c0
 generalize w2.drew = u0 at *
 refine zt 0 (.pointer (some ⟨g, 29, none⟩)) (some 18) rfl (fun W hW => by go_simp) hS0 ?_
 simp only [Act.put, jb, jz, js]
 refine zt 1 (.string source) (some 19) rfl (fun W hW => exec_loadC 9 _ rfl _ rfl _ _ Tryz.underlying9 rfl ((Blk.cell hW 29).trans rfl)) hS0 ?_
 simp only [Act.put, jb, jz, js]
 refine zt 2 (.pointer (some ⟨g, 30, none⟩)) (some 20) rfl (fun W hW => by go_simp) hS0 ?_
 simp only [Act.put, jb, jz, js]
 refine zt 3 (.string frm) (some 21) rfl (fun W hW => exec_loadC 9 _ rfl _ rfl _ _ Tryz.underlying9 rfl ((Blk.cell hW 30).trans rfl)) hS0 ?_
 simp only [Act.put, jb, jz, js]
 refine zt 4 (.pointer (some ⟨g, 31, none⟩)) (some 22) rfl (fun W hW => by go_simp) hS0 ?_
 simp only [Act.put, jb, jz, js]
 refine zt 5 (.agg #[.int .u64 mint0, .int .u64 mint1, .int .u64 mint2, .int .u64 mint3]) (some 23) rfl (fun W hW => exec_loadW _ rfl rfl ((Blk.cell hW 31).trans rfl) ((Blk.cell hW 32).trans rfl) ((Blk.cell hW 33).trans rfl) ((Blk.cell hW 34).trans rfl)) hS0 ?_
 simp only [Act.put, jb, jz, js]
 refine zt 6 (.pointer (some ⟨g, 35, none⟩)) (some 24) rfl (fun W hW => by go_simp) hS0 ?_
 simp only [Act.put, jb, jz, js]
 refine zt 7 (.bool system) (some 25) rfl (fun W hW => exec_loadC 4 _ rfl _ rfl _ _ Tryz.underlying4 rfl ((Blk.cell hW 35).trans rfl)) hS0 ?_
 simp only [Act.put, jb, jz, js]
 have hSr : ∀ c, Blk (u0.setRow g3 c) g 42 ((txA 126 chain nonce tip0 tip1 tip2 tip3 p0 p1 p2 p3 gas dst v0 v1 v2 v3 data (.slice pa na xa) (.slice pb nb xb) y r0 r1 r2 r3 s0 s1 s2 s3 source frm mint0 mint1 mint2 mint3 system)) := fun c => (setRow_other u0 g3 g c (by have := HNE.out; omega)).trans hS0
 have hself := setRow_self u0 g3 _ 42 (0, 0) hU0
 rw [← hself]
 clear hself
 refine zt 8 (.pointer (some ⟨g3, 29, none⟩)) (some 26) rfl (fun W hW => by go_simp) (hSr _) ?_
 simp only [Act.put, jb, jz, js]
 refine held_one (i := 9) (by kernel_rfl) ?_
 refine held_skip rfl rfl rfl (exec_store_row hU0 _ 9 (.tmp 26) (.tmp 19) rfl 29 rfl (.string source) rfl [.string source] rfl (by kernel_rfl) (by kernel_rfl) (by simp [Value.oneCell']) (txA 126 0 0 0 0 0 0 0 0 0 0 gas dst v0 v1 v2 v3 data (.slice none 0 0) (.slice none 0 0) 0 0 0 0 0 0 0 0 0 source ⟨#[]⟩ 0 0 0 0 false) (by kernel_rfl)) (hSr _) ?_
 (try simp only [Act.put, jb, jz, js])
 refine zt 10 (.pointer (some ⟨g3, 30, none⟩)) (some 27) rfl (fun W hW => by go_simp) (hSr _) ?_
 simp only [Act.put, jb, jz, js]
 refine held_one (i := 11) (by kernel_rfl) ?_
 refine held_skip rfl rfl rfl (exec_store_row hU0 _ 9 (.tmp 27) (.tmp 21) rfl 30 rfl (.string frm) rfl [.string frm] rfl (by kernel_rfl) (by kernel_rfl) (by simp [Value.oneCell']) (txA 126 0 0 0 0 0 0 0 0 0 0 gas dst v0 v1 v2 v3 data (.slice none 0 0) (.slice none 0 0) 0 0 0 0 0 0 0 0 0 source frm 0 0 0 0 false) (by kernel_rfl)) (hSr _) ?_
 (try simp only [Act.put, jb, jz, js])
 refine zt 12 (.pointer (some ⟨g3, 31, none⟩)) (some 28) rfl (fun W hW => by go_simp) (hSr _) ?_
 simp only [Act.put, jb, jz, js]
 refine held_one (i := 13) (by kernel_rfl) ?_
 refine held_skip rfl rfl rfl (exec_store_row hU0 _ 38 (.tmp 28) (.tmp 23) rfl 31 rfl (.agg #[.int .u64 mint0, .int .u64 mint1, .int .u64 mint2, .int .u64 mint3]) rfl [.int .u64 mint0, .int .u64 mint1, .int .u64 mint2, .int .u64 mint3] rfl (by kernel_rfl) (by kernel_rfl) (by simp [Value.oneCell']) (txA 126 0 0 0 0 0 0 0 0 0 0 gas dst v0 v1 v2 v3 data (.slice none 0 0) (.slice none 0 0) 0 0 0 0 0 0 0 0 0 source frm mint0 mint1 mint2 mint3 false) (by kernel_rfl)) (hSr _) ?_
 (try simp only [Act.put, jb, jz, js])
 refine zt 14 (.pointer (some ⟨g3, 35, none⟩)) (some 29) rfl (fun W hW => by go_simp) (hSr _) ?_
 simp only [Act.put, jb, jz, js]
 refine held_one (i := 15) (by kernel_rfl) ?_
 refine held_skip rfl rfl rfl (exec_store_row hU0 _ 4 (.tmp 29) (.tmp 25) rfl 35 rfl (.bool system) rfl [.bool system] rfl (by kernel_rfl) (by kernel_rfl) (by simp [Value.oneCell']) (txA 126 0 0 0 0 0 0 0 0 0 0 gas dst v0 v1 v2 v3 data (.slice none 0 0) (.slice none 0 0) 0 0 0 0 0 0 0 0 0 source frm mint0 mint1 mint2 mint3 system) (by kernel_rfl)) (hSr _) ?_
 (try simp only [Act.put, jb, jz, js])
 refine wpAnyH_done (by kernel_rfl) ?_ _
 replace HB1 := Lib.hid (show Blk (u0.setRow g3 (txA 126 0 0 0 0 0 0 0 0 0 0 gas dst v0 v1 v2 v3 data (.slice none 0 0) (.slice none 0 0) 0 0 0 0 0 0 0 0 0 source frm mint0 mint1 mint2 mint3 system)) g 42 (txA 126 chain nonce tip0 tip1 tip2 tip3 p0 p1 p2 p3 gas dst v0 v1 v2 v3 data (.slice pa na xa) (.slice pb nb xb) y r0 r1 r2 r3 s0 s1 s2 s3 source frm mint0 mint1 mint2 mint3 system) from (setRow_other u0 g3 g _ (by have := HNE.out; omega)).trans hS0)
 replace HB2 := Lib.hid (show Blk (u0.setRow g3 (txA 126 0 0 0 0 0 0 0 0 0 0 gas dst v0 v1 v2 v3 data (.slice none 0 0) (.slice none 0 0) 0 0 0 0 0 0 0 0 0 source frm mint0 mint1 mint2 mint3 system)) (g + 1) 42 txZ from (setRow_other u0 g3 (g + 1) _ (by have := HNE.out; omega)).trans hT0)
 replace HB3 := Lib.hid (blk_setRow (cs' := (txA 126 0 0 0 0 0 0 0 0 0 0 gas dst v0 v1 v2 v3 data (.slice none 0 0) (.slice none 0 0) 0 0 0 0 0 0 0 0 0 source frm mint0 mint1 mint2 mint3 system)) hU0)
 replace HG := Lib.hid (only_setRow (g := g3) hg0 (by have := HW.out; have := HNE.out; omega) (txA 126 0 0 0 0 0 0 0 0 0 0 gas dst v0 v1 v2 v3 data (.slice none 0 0) (.slice none 0 0) 0 0 0 0 0 0 0 0 0 source frm mint0 mint1 mint2 mint3 system))
 clear hS0 hT0 hU0 hg0 hSr
 generalize u0.setRow g3 (txA 126 0 0 0 0 0 0 0 0 0 0 gas dst v0 v1 v2 v3 data (.slice none 0 0) (.slice none 0 0) 0 0 0 0 0 0 0 0 0 source frm mint0 mint1 mint2 mint3 system) = w3 at *
 go_upto_region 4 with (fail)
 refine wp_region_list ?_
 refine wpList_load_row rfl 42 (.tmp 3) rfl g3 rfl 42 (txA 126 0 0 0 0 0 0 0 0 0 0 gas dst v0 v1 v2 v3 data (.slice none 0 0) (.slice none 0 0) 0 0 0 0 0 0 0 0 0 source frm mint0 mint1 mint2 mint3 system) (0, 0) _ HB3.out Tryz.underlying42 rfl (by kernel_rfl) ?_
 simp only [Act.put, jb, jz, js]
 refine wpList_store_row rfl 42 (.tmp 2) (.tmp 30) rfl (g + 1) (txA 126 0 0 0 0 0 0 0 0 0 0 gas dst v0 v1 v2 v3 data (.slice none 0 0) (.slice none 0 0) 0 0 0 0 0 0 0 0 0 source frm mint0 mint1 mint2 mint3 system) rfl rfl 42 txZ HB2.out (by kernel_rfl) rfl (txA_one _ _ _ _ _ _ _ _ _ _ _ _ _ _ _ _ _ _ _ _ _ _ _ _ _ _ _ _ _ _ _ _ _ _ _ _ _ _ _ _) ?_
 have HR2 := Lib.hid (blk_setRow (cs' := (txA 126 0 0 0 0 0 0 0 0 0 0 gas dst v0 v1 v2 v3 data (.slice none 0 0) (.slice none 0 0) 0 0 0 0 0 0 0 0 0 source frm mint0 mint1 mint2 mint3 system)) HB2.out)
 have HG3 := Lib.hid (only_setRow (g := g + 1) HG.out (by have := HW.out; omega) (txA 126 0 0 0 0 0 0 0 0 0 0 gas dst v0 v1 v2 v3 data (.slice none 0 0) (.slice none 0 0) 0 0 0 0 0 0 0 0 0 source frm mint0 mint1 mint2 mint3 system))
 generalize w3.setRow (g + 1) (txA 126 0 0 0 0 0 0 0 0 0 0 gas dst v0 v1 v2 v3 data (.slice none 0 0) (.slice none 0 0) 0 0 0 0 0 0 0 0 0 source frm mint0 mint1 mint2 mint3 system) = w9 at *
 refine wpList_nil ?_
 simp only [Act.put, jb, jz, js]
 go_wp2_with fail
 refine bodyPost_ret (results_cell_row (fn := Tryz.f60) rfl _ _ _ _ _ _ _ rfl HR2.out Tryz.underlying42 rfl (by kernel_rfl)) rfl ?_
 exact ⟨rfl, HG3.out⟩
end Go.Proofs.YtgclnikdkfpflaaGreatDoor
