/- Merged: RtB, RtC, CpF. -/
import Derived.Test.YtgclnikdkfpflaaGreatDoorMt1
import Derived.Test.YtgclnikdkfpflaaGreatDoorMt23
import Derived.Test.YtgclnikdkfpflaaGreatDoorMt24
import Derived.Test.YtgclnikdkfpflaaGreatDoorMt25
import Derived.Deep.DeepCutAuto
namespace Go.Proofs.YtgclnikdkfpflaaGreatDoor
open Go.RowKit Go.Shelf
open List renaming set_cons_zero → jz, set_cons_succ → js, setIfInBounds_toArray → jb
set_option linter.unusedVariables false
set_option linter.unusedSimpArgs false
set_option maxRecDepth 100000
set_option maxHeartbeats 16000000
theorem exec_eqWd {a : Act} {o : Oper} {x y : Nat} (hx0 : x < 115792089237316195423570985008687907853269984665640564039457584007913129639936) (hy0 : y < 115792089237316195423570985008687907853269984665640564039457584007913129639936) (W : World) {p q : Operand} {u : TypeId} (ho : o.op = .binOp .eql 38 p q u) (hp : a.eval p = wordV x) (hq : a.eval q = wordV y) :
  (execOp a.eval o).run Tryz.prog W = .ok (.value (.bool (decide (x = y)))) W := by
 have h := eq_wordN 9998 hx0 hy0 W
 have hm : Tryz.prog.eqGuardType Tryz.prog.depth 38 = false := by kernel_rfl
 obtain ⟨xs, hxs⟩ : ∃ xs, wordV x = .agg xs := ⟨_, rfl⟩
 obtain ⟨ys, hys⟩ : ∃ ys, wordV y = .agg ys := ⟨_, rfl⟩
 rw [hxs] at h hp
 rw [hys] at h hq
 have h1 := run_eqGuard_agg (P := Tryz.prog) W .eql 38 p q xs ys hm
 have h2 := run_eql_struct (P := Tryz.prog) W 38 xs ys
 rw [h] at h2
 clear hxs hys
 unfold execOp
 generalize a.eval = ev at *
 simp only [ho, hp, hq]
 generalize eqGuard .eql 38 p q (.agg xs) (.agg ys) = G at *
 generalize binOp .eql 38 (.agg xs) (.agg ys) = M at *
 simp [go_sem, h1, h2]
theorem faTx (g f off : Nat) (W : World) (h : ∀ g W, (Instr.fieldAt 42 (.pointer (some ⟨g, 0, none⟩)) f).run Tryz.prog W = .ok (.pointer (some ⟨g, off, none⟩)) W) : (Instr.fieldAt 42 (.pointer (some ⟨g, 0, none⟩)) f).run Tryz.prog W = .ok (.pointer (some ⟨g, off, none⟩)) W := h g W
theorem rangeAt_blk {W : World} {g : Nat} {t : TypeId} {cs : Array Value} (hb : Blk W g t cs) (o : Nat) (l : List Value) (h : ∀ j, j < l.length → cs[o + j]? = l[j]?) : W.rangeAt g o l := fun j v hv => by
 have hj : j < l.length := (List.getElem?_eq_some_iff.1 hv).1
 rw [hb.cell, h j hj]; exact hv
section
variable {P : Program} {a : Act} {o : Oper} {W : World}
theorem exec_eqN (x y : Operand) {u : TypeId} (ho : o.op = .binOp .eql 23 x y u) (p q : Nat) (hx : a.eval x = .int .u64 (p : Int)) (hy : a.eval y = .int .u64 (q : Int)) : (execOp a.eval o).run Tryz.prog W = .ok (.value (.bool (decide (p = q)))) W := by
 have h := beq_nat p q
 unfold execOp
 generalize a.eval = ev at *
 simp [ho, hx, hy, go_sem, h]
theorem exec_eqS (x y : Operand) {u : TypeId} (ho : o.op = .binOp .eql 9 x y u) (p q : ByteArray) (hx : a.eval x = .string p) (hy : a.eval y = .string q) : (execOp a.eval o).run Tryz.prog W = .ok (.value (.bool (decide (p = q)))) W := by
 have h := beq_str p q
 unfold execOp
 generalize a.eval = ev at *
 simp [ho, hx, hy, go_sem, h]
theorem exec_eqB (x y : Operand) {u : TypeId} (ho : o.op = .binOp .eql 4 x y u) (p q : Bool) (hx : a.eval x = .bool p) (hy : a.eval y = .bool q) : (execOp a.eval o).run Tryz.prog W = .ok (.value (.bool (decide (p = q)))) W := by
 have h := beq_boo p q
 unfold execOp
 generalize a.eval = ev at *
 simp [ho, hx, hy, go_sem, h]
end
def oneB (a b : TxV) : Bool := decide (a.kind = b.kind) && (decide (a.chain = b.chain) && (decide (a.nonce = b.nonce) && (decide (a.tip = b.tip) && (decide (a.price = b.price) && (decide (a.gas = b.gas) && (decide (a.dst = b.dst) && (decide (a.value = b.value) && decide (a.data = b.data))))))))
def twoB (a b : TxV) : Bool := decide (a.y = b.y) && (decide (a.r = b.r) && (decide (a.s = b.s) && (decide (a.source = b.source) && (decide (a.frm = b.frm) && (decide (a.mint = b.mint) && decide (a.system = b.system))))))
theorem sameB_eq (a b : TxV) : (oneB a b && (twoB a b && (decide (a.acc = b.acc) && decide (a.auths = b.auths)))) = decide (a = b) := by
 obtain ⟨a1, a2, a3, a4, a5, a6, a7, a8, a9, a10, a11, a12, a13, a14, a15, a16, a17, a18⟩ := a
 obtain ⟨b1, b2, b3, b4, b5, b6, b7, b8, b9, b10, b11, b12, b13, b14, b15, b16, b17, b18⟩ := b
 rw [Bool.eq_iff_iff]
 simp only [oneB, twoB, Bool.and_eq_true, decide_eq_true_eq, TxV.mk.injEq]
 constructor
 ·rintro ⟨⟨h1, h2, h3, h4, h5, h6, h7, h8, h9⟩, ⟨h10, h11, h12, h13, h14, h15, h16⟩, h17, h18⟩
  exact ⟨h1, h2, h3, h4, h5, h6, h7, h8, h9, h17, h18, h10, h11, h12, h13, h14, h15, h16⟩
 ·rintro ⟨h1, h2, h3, h4, h5, h6, h7, h8, h9, h17, h18, h10, h11, h12, h13, h14, h15, h16⟩
  exact ⟨⟨h1, h2, h3, h4, h5, h6, h7, h8, h9⟩, ⟨h10, h11, h12, h13, h14, h15, h16⟩, h17, h18⟩
theorem txSameR_any (a b : TxV) (B B' : Nat) (sa sb sa' sb' : Value) (w : World) (ha : TxIn B w a sa sb) (hb : TxIn B' w b sa' sb') (hB : B ≤ w.heap.size) (hB' : B' ≤ w.heap.size) (oa : a.Ok) (ob : b.Ok)
  (kx : ∀ x ∈ a.acc, x.keys.length ≤ 281474976710656) (ky : ∀ x ∈ b.acc, x.keys.length ≤ 281474976710656) :
  Calls Tryz.prog 56 #[.agg (txC a sa sb), .agg (txC b sa' sb')] w fun e w' => e = .returned (.bool (decide (a = b))) ∧ w.grownBy w' none := by
 have hG := only_alloc (only_alloc (World.grownBy.refl w none) (.cells (txC a sa sb) 42)) (.cells (txC b sa' sb') 42)
 have hb1 := (Blk.new w 42 (txC a sa sb)).alloc (.cells (txC b sa' sb') 42)
 have hb2 := Blk.new (w.alloc (.cells (txC a sa sb) 42)) 42 (txC b sa' sb')
 rw [World.size_alloc] at hb2
 have hA := ha.grown hG hB; have hA' := hb.grown hG hB'
 have hS := Nat.le_trans hB hG.size; have hS' := Nat.le_trans hB' hG.size
 obtain ⟨⟨p, c, rfl, acc⟩, ⟨p', c', rfl, aut⟩, la, lb⟩ := hA
 obtain ⟨⟨q, d, rfl, acc'⟩, ⟨q', d', rfl, aut'⟩, la', lb'⟩ := hA'
 obtain ⟨g, hg⟩ : ∃ g, w.heap.size = g := ⟨_, rfl⟩
 obtain ⟨w1, hw1⟩ : ∃ x, (w.alloc (.cells (txC a (.slice p a.acc.length c) (.slice p' a.auths.length c')) 42)).alloc (.cells (txC b (.slice q b.acc.length d) (.slice q' b.auths.length d')) 42) = x := ⟨_, rfl⟩
 rw [hg, hw1] at hb1 hb2
 rw [hw1] at hG acc acc' aut aut' hS hS'
 rw [← sameB_eq a b]
 obtain ⟨one, hone⟩ : ∃ r, oneB a b = r := ⟨_, rfl⟩
 obtain ⟨two, htwo⟩ : ∃ r, twoB a b = r := ⟨_, rfl⟩
 obtain ⟨r1, hr1⟩ : ∃ z, decide (a.acc = b.acc) = z := ⟨_, rfl⟩
 obtain ⟨r2, hr2⟩ : ∃ z, decide (a.auths = b.auths) = z := ⟨_, rfl⟩
 rw [hone, htwo, hr1, hr2]
 have HONE := Lib.hid hone; have HTWO := Lib.hid htwo; have HR1 := Lib.hid hr1; have HR2 := Lib.hid hr2
 clear hone htwo hr1 hr2
 have a_kind := Lib.hid (show _ = some (.int .i64 a.kind) from (hb1.cell 0).trans rfl)
 have b_kind := Lib.hid (show _ = some (.int .i64 b.kind) from (hb2.cell 0).trans rfl)
 have a_chain := Lib.hid (show _ = some (.int .u64 (a.chain : Int)) from (hb1.cell 1).trans rfl)
 have b_chain := Lib.hid (show _ = some (.int .u64 (b.chain : Int)) from (hb2.cell 1).trans rfl)
 have a_nonce := Lib.hid (show _ = some (.int .u64 (a.nonce : Int)) from (hb1.cell 2).trans rfl)
 have b_nonce := Lib.hid (show _ = some (.int .u64 (b.nonce : Int)) from (hb2.cell 2).trans rfl)
 have a_tip := Lib.hid (rangeAt_blk hb1 3 [.int .u64 (wp a.tip 0 : Nat), .int .u64 (wp a.tip 1 : Nat), .int .u64 (wp a.tip 2 : Nat), .int .u64 (wp a.tip 3 : Nat)] (fun j hj => by match j, hj with | 0, _ => rfl | 1, _ => rfl | 2, _ => rfl | 3, _ => rfl))
 have b_tip := Lib.hid (rangeAt_blk hb2 3 [.int .u64 (wp b.tip 0 : Nat), .int .u64 (wp b.tip 1 : Nat), .int .u64 (wp b.tip 2 : Nat), .int .u64 (wp b.tip 3 : Nat)] (fun j hj => by match j, hj with | 0, _ => rfl | 1, _ => rfl | 2, _ => rfl | 3, _ => rfl))
 have a_price := Lib.hid (rangeAt_blk hb1 7 [.int .u64 (wp a.price 0 : Nat), .int .u64 (wp a.price 1 : Nat), .int .u64 (wp a.price 2 : Nat), .int .u64 (wp a.price 3 : Nat)] (fun j hj => by match j, hj with | 0, _ => rfl | 1, _ => rfl | 2, _ => rfl | 3, _ => rfl))
 have b_price := Lib.hid (rangeAt_blk hb2 7 [.int .u64 (wp b.price 0 : Nat), .int .u64 (wp b.price 1 : Nat), .int .u64 (wp b.price 2 : Nat), .int .u64 (wp b.price 3 : Nat)] (fun j hj => by match j, hj with | 0, _ => rfl | 1, _ => rfl | 2, _ => rfl | 3, _ => rfl))
 have a_gas := Lib.hid (show _ = some (.int .u64 (a.gas : Int)) from (hb1.cell 11).trans rfl)
 have b_gas := Lib.hid (show _ = some (.int .u64 (b.gas : Int)) from (hb2.cell 11).trans rfl)
 have a_dst := Lib.hid (show _ = some (.string a.dst) from (hb1.cell 12).trans rfl)
 have b_dst := Lib.hid (show _ = some (.string b.dst) from (hb2.cell 12).trans rfl)
 have a_value := Lib.hid (rangeAt_blk hb1 13 [.int .u64 (wp a.value 0 : Nat), .int .u64 (wp a.value 1 : Nat), .int .u64 (wp a.value 2 : Nat), .int .u64 (wp a.value 3 : Nat)] (fun j hj => by match j, hj with | 0, _ => rfl | 1, _ => rfl | 2, _ => rfl | 3, _ => rfl))
 have b_value := Lib.hid (rangeAt_blk hb2 13 [.int .u64 (wp b.value 0 : Nat), .int .u64 (wp b.value 1 : Nat), .int .u64 (wp b.value 2 : Nat), .int .u64 (wp b.value 3 : Nat)] (fun j hj => by match j, hj with | 0, _ => rfl | 1, _ => rfl | 2, _ => rfl | 3, _ => rfl))
 have a_data := Lib.hid (show _ = some (.string a.data) from (hb1.cell 17).trans rfl)
 have b_data := Lib.hid (show _ = some (.string b.data) from (hb2.cell 17).trans rfl)
 have a_y := Lib.hid (show _ = some (.int .u64 (a.y : Int)) from (hb1.cell 20).trans rfl)
 have b_y := Lib.hid (show _ = some (.int .u64 (b.y : Int)) from (hb2.cell 20).trans rfl)
 have a_r := Lib.hid (rangeAt_blk hb1 21 [.int .u64 (wp a.r 0 : Nat), .int .u64 (wp a.r 1 : Nat), .int .u64 (wp a.r 2 : Nat), .int .u64 (wp a.r 3 : Nat)] (fun j hj => by match j, hj with | 0, _ => rfl | 1, _ => rfl | 2, _ => rfl | 3, _ => rfl))
 have b_r := Lib.hid (rangeAt_blk hb2 21 [.int .u64 (wp b.r 0 : Nat), .int .u64 (wp b.r 1 : Nat), .int .u64 (wp b.r 2 : Nat), .int .u64 (wp b.r 3 : Nat)] (fun j hj => by match j, hj with | 0, _ => rfl | 1, _ => rfl | 2, _ => rfl | 3, _ => rfl))
 have a_s := Lib.hid (rangeAt_blk hb1 25 [.int .u64 (wp a.s 0 : Nat), .int .u64 (wp a.s 1 : Nat), .int .u64 (wp a.s 2 : Nat), .int .u64 (wp a.s 3 : Nat)] (fun j hj => by match j, hj with | 0, _ => rfl | 1, _ => rfl | 2, _ => rfl | 3, _ => rfl))
 have b_s := Lib.hid (rangeAt_blk hb2 25 [.int .u64 (wp b.s 0 : Nat), .int .u64 (wp b.s 1 : Nat), .int .u64 (wp b.s 2 : Nat), .int .u64 (wp b.s 3 : Nat)] (fun j hj => by match j, hj with | 0, _ => rfl | 1, _ => rfl | 2, _ => rfl | 3, _ => rfl))
 have a_source := Lib.hid (show _ = some (.string a.source) from (hb1.cell 29).trans rfl)
 have b_source := Lib.hid (show _ = some (.string b.source) from (hb2.cell 29).trans rfl)
 have a_frm := Lib.hid (show _ = some (.string a.frm) from (hb1.cell 30).trans rfl)
 have b_frm := Lib.hid (show _ = some (.string b.frm) from (hb2.cell 30).trans rfl)
 have a_mint := Lib.hid (rangeAt_blk hb1 31 [.int .u64 (wp a.mint 0 : Nat), .int .u64 (wp a.mint 1 : Nat), .int .u64 (wp a.mint 2 : Nat), .int .u64 (wp a.mint 3 : Nat)] (fun j hj => by match j, hj with | 0, _ => rfl | 1, _ => rfl | 2, _ => rfl | 3, _ => rfl))
 have b_mint := Lib.hid (rangeAt_blk hb2 31 [.int .u64 (wp b.mint 0 : Nat), .int .u64 (wp b.mint 1 : Nat), .int .u64 (wp b.mint 2 : Nat), .int .u64 (wp b.mint 3 : Nat)] (fun j hj => by match j, hj with | 0, _ => rfl | 1, _ => rfl | 2, _ => rfl | 3, _ => rfl))
 have a_system := Lib.hid (show _ = some (.bool a.system) from (hb1.cell 35).trans rfl)
 have b_system := Lib.hid (show _ = some (.bool b.system) from (hb2.cell 35).trans rfl)
 have a_acc := Lib.hid (show _ = some (Value.slice p a.acc.length c) from (hb1.cell 18).trans rfl)
 have b_acc := Lib.hid (show _ = some (Value.slice q b.acc.length d) from (hb2.cell 18).trans rfl)
 have a_aut := Lib.hid (show _ = some (Value.slice p' a.auths.length c') from (hb1.cell 19).trans rfl)
 have b_aut := Lib.hid (show _ = some (Value.slice q' b.auths.length d') from (hb2.cell 19).trans rfl)
 have OA := Lib.hid oa; have OB := Lib.hid ob
 generalize hca : txC a (.slice p a.acc.length c) (.slice p' a.auths.length c') = ca at *
 generalize hcb : txC b (.slice q b.acc.length d) (.slice q' b.auths.length d') = cb at *
 have HACC := Lib.hid acc; have HACC' := Lib.hid acc'; have HAUT := Lib.hid aut; have HAUT' := Lib.hid aut'
 have HSI := Lib.hid hS; have HSJ := Lib.hid hS'; have HLA := Lib.hid la; have HLA' := Lib.hid la'; have HLB := Lib.hid lb; have HLB' := Lib.hid lb'
 have HKX := Lib.hid kx; have HKY := Lib.hid ky
 have si : ca.size = 36 := by rw [← hca]; rfl
 have sj : cb.size = 36 := by rw [← hcb]; rfl
 have HG := Lib.hid hG
 clear hG ha hb hB hB' hS hS' acc acc' aut aut' la la' lb lb' oa ob hca hcb kx ky hb1 hb2
 go_enter Tryz.func56, Tryz.ntmps56
 go_upto_region 1 with (fail)
 (try rw [hg])
 (try rw [hw1])
 clear hg hw1
 clear si sj
 go_cut [5] (fun v wx => v = .bool one ∧ w1 = wx)
 case first =>
  refine wp_region_list ?_
  refine wpList_value rfl (.pointer (some ⟨g, 0, none⟩)) (by go_simp <;> rfl) ?_
  simp only [Act.put, jb, jz, js]
  refine wpList_value rfl (.int .i64 a.kind) (exec_loadC 3 (.tmp 7) rfl _ rfl _ _ Tryz.underlying3 rfl a_kind.out) ?_
  simp only [Act.put, jb, jz, js]
  refine wpList_value rfl (.pointer (some ⟨g + 1, 0, none⟩)) (by go_simp <;> rfl) ?_
  simp only [Act.put, jb, jz, js]
  refine wpList_value rfl (.int .i64 b.kind) (exec_loadC 3 (.tmp 9) rfl _ rfl _ _ Tryz.underlying3 rfl b_kind.out) ?_
  simp only [Act.put, jb, jz, js]
  have hq := beq_int a.kind b.kind
  refine wpList_value rfl (.bool (decide (a.kind = b.kind))) (by go_simp <;> first | rfl | exact hq | (rw [hq]) | simp [hq]) ?_
  simp only [Act.put, jb, jz, js]
  clear hq
  obtain ⟨b0, hb0⟩ : ∃ z, decide (a.kind = b.kind) = z := ⟨_, rfl⟩
  rw [hb0]
  refine wpList_and 5 12 (.tmp 11) b0 (decide (a.chain = b.chain)) (.pointer (some ⟨g, 1, none⟩)) (.int .u64 (a.chain : Int)) (.pointer (some ⟨g + 1, 1, none⟩)) (.int .u64 (b.chain : Int)) (by kernel_rfl) rfl rfl rfl rfl rfl rfl rfl rfl rfl rfl rfl rfl rfl rfl rfl rfl (Nat.le_of_ble_eq_true (by kernel_rfl)) (by kernel_rfl)
   (fun tm' h => exec_fa 42 (.tmp 2) 1 rfl _ _ (h 2 (by omega)) (faTx _ _ _ _ (fun g W => by go_simp <;> rfl)))
   (fun tm' h => exec_loadC 23 (.tmp 13) rfl _ (show Act.eval ⟨tm', []⟩ (.tmp 13) = _ from h) _ _ Tryz.underlying23 rfl a_chain.out)
   (fun tm' h => exec_fa 42 (.tmp 3) 1 rfl _ _ (h 3 (by omega)) (faTx _ _ _ _ (fun g W => by go_simp <;> rfl)))
   (fun tm' h => exec_loadC 23 (.tmp 15) rfl _ (show Act.eval ⟨tm', []⟩ (.tmp 15) = _ from h) _ _ Tryz.underlying23 rfl b_chain.out)
   (fun tm' h1 h2 => exec_eqN _ _ rfl _ _ (show Act.eval ⟨tm', []⟩ (.tmp 14) = _ from h1) (show Act.eval ⟨tm', []⟩ (.tmp 16) = _ from h2)) ?_
  intro x1 x2 x3 x4 x5
  simp only [Act.put, jb, jz, js]
  obtain ⟨b1, hb1⟩ : ∃ z, (b0 && decide (a.chain = b.chain)) = z := ⟨_, rfl⟩
  rw [hb1]
  refine wpList_and 12 19 (.tmp 18) b1 (decide (a.nonce = b.nonce)) (.pointer (some ⟨g, 2, none⟩)) (.int .u64 (a.nonce : Int)) (.pointer (some ⟨g + 1, 2, none⟩)) (.int .u64 (b.nonce : Int)) (by kernel_rfl) rfl rfl rfl rfl rfl rfl rfl rfl rfl rfl rfl rfl rfl rfl rfl rfl (Nat.le_of_ble_eq_true (by kernel_rfl)) (by kernel_rfl)
   (fun tm' h => exec_fa 42 (.tmp 2) 2 rfl _ _ (h 2 (by omega)) (faTx _ _ _ _ (fun g W => by go_simp <;> rfl)))
   (fun tm' h => exec_loadC 23 (.tmp 20) rfl _ (show Act.eval ⟨tm', []⟩ (.tmp 20) = _ from h) _ _ Tryz.underlying23 rfl a_nonce.out)
   (fun tm' h => exec_fa 42 (.tmp 3) 2 rfl _ _ (h 3 (by omega)) (faTx _ _ _ _ (fun g W => by go_simp <;> rfl)))
   (fun tm' h => exec_loadC 23 (.tmp 22) rfl _ (show Act.eval ⟨tm', []⟩ (.tmp 22) = _ from h) _ _ Tryz.underlying23 rfl b_nonce.out)
   (fun tm' h1 h2 => exec_eqN _ _ rfl _ _ (show Act.eval ⟨tm', []⟩ (.tmp 21) = _ from h1) (show Act.eval ⟨tm', []⟩ (.tmp 23) = _ from h2)) ?_
  intro x1 x2 x3 x4 x5
  simp only [Act.put, jb, jz, js]
  obtain ⟨b2, hb2⟩ : ∃ z, (b1 && decide (a.nonce = b.nonce)) = z := ⟨_, rfl⟩
  rw [hb2]
  refine wpList_and 19 26 (.tmp 25) b2 (decide (a.tip = b.tip)) (.pointer (some ⟨g, 3, none⟩)) (wordV a.tip) (.pointer (some ⟨g + 1, 3, none⟩)) (wordV b.tip) (by kernel_rfl) rfl rfl rfl rfl rfl rfl rfl rfl rfl rfl rfl rfl rfl rfl rfl rfl (Nat.le_of_ble_eq_true (by kernel_rfl)) (by kernel_rfl)
   (fun tm' h => exec_fa 42 (.tmp 2) 3 rfl _ _ (h 2 (by omega)) (faTx _ _ _ _ (fun g W => by go_simp <;> rfl)))
   (fun tm' h => exec_load_mid rfl (show Act.eval ⟨tm', []⟩ (.tmp 27) = _ from h) _ a_tip.out _ Tryz.underlying38 rfl (by kernel_rfl))
   (fun tm' h => exec_fa 42 (.tmp 3) 3 rfl _ _ (h 3 (by omega)) (faTx _ _ _ _ (fun g W => by go_simp <;> rfl)))
   (fun tm' h => exec_load_mid rfl (show Act.eval ⟨tm', []⟩ (.tmp 29) = _ from h) _ b_tip.out _ Tryz.underlying38 rfl (by kernel_rfl))
   (fun tm' h1 h2 => exec_eqWd OA.out.tip OB.out.tip _ rfl (show Act.eval ⟨tm', []⟩ (.tmp 28) = _ from h1) (show Act.eval ⟨tm', []⟩ (.tmp 30) = _ from h2)) ?_
  intro x1 x2 x3 x4 x5
  simp only [Act.put, jb, jz, js]
  obtain ⟨b3, hb3⟩ : ∃ z, (b2 && decide (a.tip = b.tip)) = z := ⟨_, rfl⟩
  rw [hb3]
  refine wpList_and 26 33 (.tmp 32) b3 (decide (a.price = b.price)) (.pointer (some ⟨g, 7, none⟩)) (wordV a.price) (.pointer (some ⟨g + 1, 7, none⟩)) (wordV b.price) (by kernel_rfl) rfl rfl rfl rfl rfl rfl rfl rfl rfl rfl rfl rfl rfl rfl rfl rfl (Nat.le_of_ble_eq_true (by kernel_rfl)) (by kernel_rfl)
   (fun tm' h => exec_fa 42 (.tmp 2) 4 rfl _ _ (h 2 (by omega)) (faTx _ _ _ _ (fun g W => by go_simp <;> rfl)))
   (fun tm' h => exec_load_mid rfl (show Act.eval ⟨tm', []⟩ (.tmp 34) = _ from h) _ a_price.out _ Tryz.underlying38 rfl (by kernel_rfl))
   (fun tm' h => exec_fa 42 (.tmp 3) 4 rfl _ _ (h 3 (by omega)) (faTx _ _ _ _ (fun g W => by go_simp <;> rfl)))
   (fun tm' h => exec_load_mid rfl (show Act.eval ⟨tm', []⟩ (.tmp 36) = _ from h) _ b_price.out _ Tryz.underlying38 rfl (by kernel_rfl))
   (fun tm' h1 h2 => exec_eqWd OA.out.price OB.out.price _ rfl (show Act.eval ⟨tm', []⟩ (.tmp 35) = _ from h1) (show Act.eval ⟨tm', []⟩ (.tmp 37) = _ from h2)) ?_
  intro x1 x2 x3 x4 x5
  simp only [Act.put, jb, jz, js]
  obtain ⟨b4, hb4⟩ : ∃ z, (b3 && decide (a.price = b.price)) = z := ⟨_, rfl⟩
  rw [hb4]
  refine wpList_and 33 40 (.tmp 39) b4 (decide (a.gas = b.gas)) (.pointer (some ⟨g, 11, none⟩)) (.int .u64 (a.gas : Int)) (.pointer (some ⟨g + 1, 11, none⟩)) (.int .u64 (b.gas : Int)) (by kernel_rfl) rfl rfl rfl rfl rfl rfl rfl rfl rfl rfl rfl rfl rfl rfl rfl rfl (Nat.le_of_ble_eq_true (by kernel_rfl)) (by kernel_rfl)
   (fun tm' h => exec_fa 42 (.tmp 2) 5 rfl _ _ (h 2 (by omega)) (faTx _ _ _ _ (fun g W => by go_simp <;> rfl)))
   (fun tm' h => exec_loadC 23 (.tmp 41) rfl _ (show Act.eval ⟨tm', []⟩ (.tmp 41) = _ from h) _ _ Tryz.underlying23 rfl a_gas.out)
   (fun tm' h => exec_fa 42 (.tmp 3) 5 rfl _ _ (h 3 (by omega)) (faTx _ _ _ _ (fun g W => by go_simp <;> rfl)))
   (fun tm' h => exec_loadC 23 (.tmp 43) rfl _ (show Act.eval ⟨tm', []⟩ (.tmp 43) = _ from h) _ _ Tryz.underlying23 rfl b_gas.out)
   (fun tm' h1 h2 => exec_eqN _ _ rfl _ _ (show Act.eval ⟨tm', []⟩ (.tmp 42) = _ from h1) (show Act.eval ⟨tm', []⟩ (.tmp 44) = _ from h2)) ?_
  intro x1 x2 x3 x4 x5
  simp only [Act.put, jb, jz, js]
  obtain ⟨b5, hb5⟩ : ∃ z, (b4 && decide (a.gas = b.gas)) = z := ⟨_, rfl⟩
  rw [hb5]
  refine wpList_and 40 47 (.tmp 46) b5 (decide (a.dst = b.dst)) (.pointer (some ⟨g, 12, none⟩)) (.string a.dst) (.pointer (some ⟨g + 1, 12, none⟩)) (.string b.dst) (by kernel_rfl) rfl rfl rfl rfl rfl rfl rfl rfl rfl rfl rfl rfl rfl rfl rfl rfl (Nat.le_of_ble_eq_true (by kernel_rfl)) (by kernel_rfl)
   (fun tm' h => exec_fa 42 (.tmp 2) 6 rfl _ _ (h 2 (by omega)) (faTx _ _ _ _ (fun g W => by go_simp <;> rfl)))
   (fun tm' h => exec_loadC 9 (.tmp 48) rfl _ (show Act.eval ⟨tm', []⟩ (.tmp 48) = _ from h) _ _ Tryz.underlying9 rfl a_dst.out)
   (fun tm' h => exec_fa 42 (.tmp 3) 6 rfl _ _ (h 3 (by omega)) (faTx _ _ _ _ (fun g W => by go_simp <;> rfl)))
   (fun tm' h => exec_loadC 9 (.tmp 50) rfl _ (show Act.eval ⟨tm', []⟩ (.tmp 50) = _ from h) _ _ Tryz.underlying9 rfl b_dst.out)
   (fun tm' h1 h2 => exec_eqS _ _ rfl _ _ (show Act.eval ⟨tm', []⟩ (.tmp 49) = _ from h1) (show Act.eval ⟨tm', []⟩ (.tmp 51) = _ from h2)) ?_
  intro x1 x2 x3 x4 x5
  simp only [Act.put, jb, jz, js]
  obtain ⟨b6, hb6⟩ : ∃ z, (b5 && decide (a.dst = b.dst)) = z := ⟨_, rfl⟩
  rw [hb6]
  refine wpList_and 47 54 (.tmp 53) b6 (decide (a.value = b.value)) (.pointer (some ⟨g, 13, none⟩)) (wordV a.value) (.pointer (some ⟨g + 1, 13, none⟩)) (wordV b.value) (by kernel_rfl) rfl rfl rfl rfl rfl rfl rfl rfl rfl rfl rfl rfl rfl rfl rfl rfl (Nat.le_of_ble_eq_true (by kernel_rfl)) (by kernel_rfl)
   (fun tm' h => exec_fa 42 (.tmp 2) 7 rfl _ _ (h 2 (by omega)) (faTx _ _ _ _ (fun g W => by go_simp <;> rfl)))
   (fun tm' h => exec_load_mid rfl (show Act.eval ⟨tm', []⟩ (.tmp 55) = _ from h) _ a_value.out _ Tryz.underlying38 rfl (by kernel_rfl))
   (fun tm' h => exec_fa 42 (.tmp 3) 7 rfl _ _ (h 3 (by omega)) (faTx _ _ _ _ (fun g W => by go_simp <;> rfl)))
   (fun tm' h => exec_load_mid rfl (show Act.eval ⟨tm', []⟩ (.tmp 57) = _ from h) _ b_value.out _ Tryz.underlying38 rfl (by kernel_rfl))
   (fun tm' h1 h2 => exec_eqWd OA.out.value OB.out.value _ rfl (show Act.eval ⟨tm', []⟩ (.tmp 56) = _ from h1) (show Act.eval ⟨tm', []⟩ (.tmp 58) = _ from h2)) ?_
  intro x1 x2 x3 x4 x5
  simp only [Act.put, jb, jz, js]
  obtain ⟨b7, hb7⟩ : ∃ z, (b6 && decide (a.value = b.value)) = z := ⟨_, rfl⟩
  rw [hb7]
  refine wpList_and 54 61 (.tmp 60) b7 (decide (a.data = b.data)) (.pointer (some ⟨g, 17, none⟩)) (.string a.data) (.pointer (some ⟨g + 1, 17, none⟩)) (.string b.data) (by kernel_rfl) rfl rfl rfl rfl rfl rfl rfl rfl rfl rfl rfl rfl rfl rfl rfl rfl (Nat.le_of_ble_eq_true (by kernel_rfl)) (by kernel_rfl)
   (fun tm' h => exec_fa 42 (.tmp 2) 8 rfl _ _ (h 2 (by omega)) (faTx _ _ _ _ (fun g W => by go_simp <;> rfl)))
   (fun tm' h => exec_loadC 9 (.tmp 62) rfl _ (show Act.eval ⟨tm', []⟩ (.tmp 62) = _ from h) _ _ Tryz.underlying9 rfl a_data.out)
   (fun tm' h => exec_fa 42 (.tmp 3) 8 rfl _ _ (h 3 (by omega)) (faTx _ _ _ _ (fun g W => by go_simp <;> rfl)))
   (fun tm' h => exec_loadC 9 (.tmp 64) rfl _ (show Act.eval ⟨tm', []⟩ (.tmp 64) = _ from h) _ _ Tryz.underlying9 rfl b_data.out)
   (fun tm' h1 h2 => exec_eqS _ _ rfl _ _ (show Act.eval ⟨tm', []⟩ (.tmp 63) = _ from h1) (show Act.eval ⟨tm', []⟩ (.tmp 65) = _ from h2)) ?_
  intro x1 x2 x3 x4 x5
  simp only [Act.put, jb, jz, js]
  obtain ⟨b8, hb8⟩ : ∃ z, (b7 && decide (a.data = b.data)) = z := ⟨_, rfl⟩
  rw [hb8]
  refine wpList_value rfl (.bool b8) (by go_simp <;> rfl) ?_
  simp only [Act.put, jb, jz, js]
  refine wpList_nil ?_
  have hfin : b8 = one := by
   rw [← HONE.out, ← hb8, ← hb7, ← hb6, ← hb5, ← hb4, ← hb3, ← hb2, ← hb1, ← hb0]
   unfold oneB
   simp only [Bool.and_assoc]
  have HFIN := Lib.hid hfin
  clear hfin
  go_wp2_with fail
  go_meet
  case rel => exact ⟨congrArg Value.bool HFIN.out, rfl⟩
 case rest =>
 obtain ⟨rfl, rfl⟩ := hcut
 clear HONE
 clear a_kind b_kind
 clear a_chain b_chain
 clear a_nonce b_nonce
 clear a_tip b_tip
 clear a_price b_price
 clear a_gas b_gas
 clear a_dst b_dst
 clear a_value b_value
 clear a_data b_data
 go_upto_region 2 with (fail)
 go_cut [6] (fun v wx => v = .bool two ∧ w1 = wx)
 case first =>
  refine wp_region_list ?_
  refine wpList_value rfl (.pointer (some ⟨g, 20, none⟩)) (by go_simp <;> rfl) ?_
  simp only [Act.put, jb, jz, js]
  refine wpList_value rfl (.int .u64 (a.y : Int)) (exec_loadC 23 (.tmp 68) rfl _ rfl _ _ Tryz.underlying23 rfl a_y.out) ?_
  simp only [Act.put, jb, jz, js]
  refine wpList_value rfl (.pointer (some ⟨g + 1, 20, none⟩)) (by go_simp <;> rfl) ?_
  simp only [Act.put, jb, jz, js]
  refine wpList_value rfl (.int .u64 (b.y : Int)) (exec_loadC 23 (.tmp 70) rfl _ rfl _ _ Tryz.underlying23 rfl b_y.out) ?_
  simp only [Act.put, jb, jz, js]
  have hq := beq_nat a.y b.y
  refine wpList_value rfl (.bool (decide (a.y = b.y))) (by go_simp <;> first | rfl | exact hq | (rw [hq]) | simp [hq]) ?_
  simp only [Act.put, jb, jz, js]
  clear hq
  obtain ⟨b0, hb0⟩ : ∃ z, decide (a.y = b.y) = z := ⟨_, rfl⟩
  rw [hb0]
  refine wpList_and 5 73 (.tmp 72) b0 (decide (a.r = b.r)) (.pointer (some ⟨g, 21, none⟩)) (wordV a.r) (.pointer (some ⟨g + 1, 21, none⟩)) (wordV b.r) (by kernel_rfl) rfl rfl rfl rfl rfl rfl rfl rfl rfl rfl rfl rfl rfl rfl rfl rfl (Nat.le_of_ble_eq_true (by kernel_rfl)) (by kernel_rfl)
   (fun tm' h => exec_fa 42 (.tmp 2) 12 rfl _ _ (h 2 (by omega)) (faTx _ _ _ _ (fun g W => by go_simp <;> rfl)))
   (fun tm' h => exec_load_mid rfl (show Act.eval ⟨tm', []⟩ (.tmp 74) = _ from h) _ a_r.out _ Tryz.underlying38 rfl (by kernel_rfl))
   (fun tm' h => exec_fa 42 (.tmp 3) 12 rfl _ _ (h 3 (by omega)) (faTx _ _ _ _ (fun g W => by go_simp <;> rfl)))
   (fun tm' h => exec_load_mid rfl (show Act.eval ⟨tm', []⟩ (.tmp 76) = _ from h) _ b_r.out _ Tryz.underlying38 rfl (by kernel_rfl))
   (fun tm' h1 h2 => exec_eqWd OA.out.r OB.out.r _ rfl (show Act.eval ⟨tm', []⟩ (.tmp 75) = _ from h1) (show Act.eval ⟨tm', []⟩ (.tmp 77) = _ from h2)) ?_
  intro x1 x2 x3 x4 x5
  simp only [Act.put, jb, jz, js]
  obtain ⟨b1, hb1⟩ : ∃ z, (b0 && decide (a.r = b.r)) = z := ⟨_, rfl⟩
  rw [hb1]
  refine wpList_and 12 80 (.tmp 79) b1 (decide (a.s = b.s)) (.pointer (some ⟨g, 25, none⟩)) (wordV a.s) (.pointer (some ⟨g + 1, 25, none⟩)) (wordV b.s) (by kernel_rfl) rfl rfl rfl rfl rfl rfl rfl rfl rfl rfl rfl rfl rfl rfl rfl rfl (Nat.le_of_ble_eq_true (by kernel_rfl)) (by kernel_rfl)
   (fun tm' h => exec_fa 42 (.tmp 2) 13 rfl _ _ (h 2 (by omega)) (faTx _ _ _ _ (fun g W => by go_simp <;> rfl)))
   (fun tm' h => exec_load_mid rfl (show Act.eval ⟨tm', []⟩ (.tmp 81) = _ from h) _ a_s.out _ Tryz.underlying38 rfl (by kernel_rfl))
   (fun tm' h => exec_fa 42 (.tmp 3) 13 rfl _ _ (h 3 (by omega)) (faTx _ _ _ _ (fun g W => by go_simp <;> rfl)))
   (fun tm' h => exec_load_mid rfl (show Act.eval ⟨tm', []⟩ (.tmp 83) = _ from h) _ b_s.out _ Tryz.underlying38 rfl (by kernel_rfl))
   (fun tm' h1 h2 => exec_eqWd OA.out.s OB.out.s _ rfl (show Act.eval ⟨tm', []⟩ (.tmp 82) = _ from h1) (show Act.eval ⟨tm', []⟩ (.tmp 84) = _ from h2)) ?_
  intro x1 x2 x3 x4 x5
  simp only [Act.put, jb, jz, js]
  obtain ⟨b2, hb2⟩ : ∃ z, (b1 && decide (a.s = b.s)) = z := ⟨_, rfl⟩
  rw [hb2]
  refine wpList_and 19 87 (.tmp 86) b2 (decide (a.source = b.source)) (.pointer (some ⟨g, 29, none⟩)) (.string a.source) (.pointer (some ⟨g + 1, 29, none⟩)) (.string b.source) (by kernel_rfl) rfl rfl rfl rfl rfl rfl rfl rfl rfl rfl rfl rfl rfl rfl rfl rfl (Nat.le_of_ble_eq_true (by kernel_rfl)) (by kernel_rfl)
   (fun tm' h => exec_fa 42 (.tmp 2) 14 rfl _ _ (h 2 (by omega)) (faTx _ _ _ _ (fun g W => by go_simp <;> rfl)))
   (fun tm' h => exec_loadC 9 (.tmp 88) rfl _ (show Act.eval ⟨tm', []⟩ (.tmp 88) = _ from h) _ _ Tryz.underlying9 rfl a_source.out)
   (fun tm' h => exec_fa 42 (.tmp 3) 14 rfl _ _ (h 3 (by omega)) (faTx _ _ _ _ (fun g W => by go_simp <;> rfl)))
   (fun tm' h => exec_loadC 9 (.tmp 90) rfl _ (show Act.eval ⟨tm', []⟩ (.tmp 90) = _ from h) _ _ Tryz.underlying9 rfl b_source.out)
   (fun tm' h1 h2 => exec_eqS _ _ rfl _ _ (show Act.eval ⟨tm', []⟩ (.tmp 89) = _ from h1) (show Act.eval ⟨tm', []⟩ (.tmp 91) = _ from h2)) ?_
  intro x1 x2 x3 x4 x5
  simp only [Act.put, jb, jz, js]
  obtain ⟨b3, hb3⟩ : ∃ z, (b2 && decide (a.source = b.source)) = z := ⟨_, rfl⟩
  rw [hb3]
  refine wpList_and 26 94 (.tmp 93) b3 (decide (a.frm = b.frm)) (.pointer (some ⟨g, 30, none⟩)) (.string a.frm) (.pointer (some ⟨g + 1, 30, none⟩)) (.string b.frm) (by kernel_rfl) rfl rfl rfl rfl rfl rfl rfl rfl rfl rfl rfl rfl rfl rfl rfl rfl (Nat.le_of_ble_eq_true (by kernel_rfl)) (by kernel_rfl)
   (fun tm' h => exec_fa 42 (.tmp 2) 15 rfl _ _ (h 2 (by omega)) (faTx _ _ _ _ (fun g W => by go_simp <;> rfl)))
   (fun tm' h => exec_loadC 9 (.tmp 95) rfl _ (show Act.eval ⟨tm', []⟩ (.tmp 95) = _ from h) _ _ Tryz.underlying9 rfl a_frm.out)
   (fun tm' h => exec_fa 42 (.tmp 3) 15 rfl _ _ (h 3 (by omega)) (faTx _ _ _ _ (fun g W => by go_simp <;> rfl)))
   (fun tm' h => exec_loadC 9 (.tmp 97) rfl _ (show Act.eval ⟨tm', []⟩ (.tmp 97) = _ from h) _ _ Tryz.underlying9 rfl b_frm.out)
   (fun tm' h1 h2 => exec_eqS _ _ rfl _ _ (show Act.eval ⟨tm', []⟩ (.tmp 96) = _ from h1) (show Act.eval ⟨tm', []⟩ (.tmp 98) = _ from h2)) ?_
  intro x1 x2 x3 x4 x5
  simp only [Act.put, jb, jz, js]
  obtain ⟨b4, hb4⟩ : ∃ z, (b3 && decide (a.frm = b.frm)) = z := ⟨_, rfl⟩
  rw [hb4]
  refine wpList_and 33 101 (.tmp 100) b4 (decide (a.mint = b.mint)) (.pointer (some ⟨g, 31, none⟩)) (wordV a.mint) (.pointer (some ⟨g + 1, 31, none⟩)) (wordV b.mint) (by kernel_rfl) rfl rfl rfl rfl rfl rfl rfl rfl rfl rfl rfl rfl rfl rfl rfl rfl (Nat.le_of_ble_eq_true (by kernel_rfl)) (by kernel_rfl)
   (fun tm' h => exec_fa 42 (.tmp 2) 16 rfl _ _ (h 2 (by omega)) (faTx _ _ _ _ (fun g W => by go_simp <;> rfl)))
   (fun tm' h => exec_load_mid rfl (show Act.eval ⟨tm', []⟩ (.tmp 102) = _ from h) _ a_mint.out _ Tryz.underlying38 rfl (by kernel_rfl))
   (fun tm' h => exec_fa 42 (.tmp 3) 16 rfl _ _ (h 3 (by omega)) (faTx _ _ _ _ (fun g W => by go_simp <;> rfl)))
   (fun tm' h => exec_load_mid rfl (show Act.eval ⟨tm', []⟩ (.tmp 104) = _ from h) _ b_mint.out _ Tryz.underlying38 rfl (by kernel_rfl))
   (fun tm' h1 h2 => exec_eqWd OA.out.mint OB.out.mint _ rfl (show Act.eval ⟨tm', []⟩ (.tmp 103) = _ from h1) (show Act.eval ⟨tm', []⟩ (.tmp 105) = _ from h2)) ?_
  intro x1 x2 x3 x4 x5
  simp only [Act.put, jb, jz, js]
  obtain ⟨b5, hb5⟩ : ∃ z, (b4 && decide (a.mint = b.mint)) = z := ⟨_, rfl⟩
  rw [hb5]
  refine wpList_and 40 108 (.tmp 107) b5 (decide (a.system = b.system)) (.pointer (some ⟨g, 35, none⟩)) (.bool a.system) (.pointer (some ⟨g + 1, 35, none⟩)) (.bool b.system) (by kernel_rfl) rfl rfl rfl rfl rfl rfl rfl rfl rfl rfl rfl rfl rfl rfl rfl rfl (Nat.le_of_ble_eq_true (by kernel_rfl)) (by kernel_rfl)
   (fun tm' h => exec_fa 42 (.tmp 2) 17 rfl _ _ (h 2 (by omega)) (faTx _ _ _ _ (fun g W => by go_simp <;> rfl)))
   (fun tm' h => exec_loadC 4 (.tmp 109) rfl _ (show Act.eval ⟨tm', []⟩ (.tmp 109) = _ from h) _ _ Tryz.underlying4 rfl a_system.out)
   (fun tm' h => exec_fa 42 (.tmp 3) 17 rfl _ _ (h 3 (by omega)) (faTx _ _ _ _ (fun g W => by go_simp <;> rfl)))
   (fun tm' h => exec_loadC 4 (.tmp 111) rfl _ (show Act.eval ⟨tm', []⟩ (.tmp 111) = _ from h) _ _ Tryz.underlying4 rfl b_system.out)
   (fun tm' h1 h2 => exec_eqB _ _ rfl _ _ (show Act.eval ⟨tm', []⟩ (.tmp 110) = _ from h1) (show Act.eval ⟨tm', []⟩ (.tmp 112) = _ from h2)) ?_
  intro x1 x2 x3 x4 x5
  simp only [Act.put, jb, jz, js]
  obtain ⟨b6, hb6⟩ : ∃ z, (b5 && decide (a.system = b.system)) = z := ⟨_, rfl⟩
  rw [hb6]
  refine wpList_value rfl (.bool b6) (by go_simp <;> rfl) ?_
  simp only [Act.put, jb, jz, js]
  refine wpList_nil ?_
  have hfin : b6 = two := by
   rw [← HTWO.out, ← hb6, ← hb5, ← hb4, ← hb3, ← hb2, ← hb1, ← hb0]
   unfold twoB
   simp only [Bool.and_assoc]
  have HFIN := Lib.hid hfin
  clear hfin
  go_wp2_with fail
  go_meet
  case rel => exact ⟨congrArg Value.bool HFIN.out, rfl⟩
 case rest =>
 obtain ⟨rfl, rfl⟩ := hcut
 clear HTWO
 clear a_y b_y
 clear a_r b_r
 clear a_s b_s
 clear a_source b_source
 clear a_frm b_frm
 clear a_mint b_mint
 clear a_system b_system
 go_upto_region 3 with (fail)
 refine wp_region_list ?_
 refine zm 5 (.bool one) rfl ?_
 simp only [Act.put, jb, jz, js]
 refine zm 115 (.bool one) rfl ?_
 simp only [Act.put, jb, jz, js]
 cases one
 ·skip
  refine wpList_lack (by kernel_rfl) ?_
  simp only [Act.put, jb, jz, js]
  refine wpList_value rfl (.bool false) (exec_pickC (.tmp 116) (.tmp 117) _ rfl false rfl _ rfl) ?_
  simp only [Act.put, jb, jz, js]
  refine zm 118 (.bool false) rfl ?_
  simp only [Act.put, jb, jz, js]
  refine wpList_lack (by kernel_rfl) ?_
  simp only [Act.put, jb, jz, js]
  refine wpList_lack (by kernel_rfl) ?_
  simp only [Act.put, jb, jz, js]
  refine wpList_lack (by kernel_rfl) ?_
  simp only [Act.put, jb, jz, js]
  refine wpList_lack (by kernel_rfl) ?_
  simp only [Act.put, jb, jz, js]
  refine wpList_lack (by kernel_rfl) ?_
  simp only [Act.put, jb, jz, js]
  refine wpList_value rfl (.bool false) (exec_pickC (.tmp 119) (.tmp 124) _ rfl false rfl _ rfl) ?_
  simp only [Act.put, jb, jz, js]
  refine zm 125 (.bool false) rfl ?_
  simp only [Act.put, jb, jz, js]
  refine wpList_lack (by kernel_rfl) ?_
  simp only [Act.put, jb, jz, js]
  refine wpList_lack (by kernel_rfl) ?_
  simp only [Act.put, jb, jz, js]
  refine wpList_lack (by kernel_rfl) ?_
  simp only [Act.put, jb, jz, js]
  refine wpList_lack (by kernel_rfl) ?_
  simp only [Act.put, jb, jz, js]
  refine wpList_lack (by kernel_rfl) ?_
  simp only [Act.put, jb, jz, js]
  refine wpList_value rfl (.bool false) (exec_pickC (.tmp 126) (.tmp 131) _ rfl false rfl _ rfl) ?_
  simp only [Act.put, jb, jz, js]
  refine wpList_value rfl (.bool false) (by go_simp <;> rfl) ?_
  simp only [Act.put, jb, jz, js]
  refine wpList_nil ?_
  go_wp2_with fail
  go_ret
  exact ⟨by simp, HG.out⟩
 ·skip
  refine wpList_valueG rfl (.bool two) (exec_moveC (.tmp 6) rfl _ rfl) ?_
  simp only [Act.put, jb, jz, js]
  refine wpList_value rfl (.bool two) (exec_pickC (.tmp 116) (.tmp 117) _ rfl true rfl _ rfl) ?_
  simp only [Act.put, jb, jz, js]
  refine zm 118 (.bool two) rfl ?_
  simp only [Act.put, jb, jz, js]
  cases two
  ·skip
   refine wpList_lack (by kernel_rfl) ?_
   simp only [Act.put, jb, jz, js]
   refine wpList_lack (by kernel_rfl) ?_
   simp only [Act.put, jb, jz, js]
   refine wpList_lack (by kernel_rfl) ?_
   simp only [Act.put, jb, jz, js]
   refine wpList_lack (by kernel_rfl) ?_
   simp only [Act.put, jb, jz, js]
   refine wpList_lack (by kernel_rfl) ?_
   simp only [Act.put, jb, jz, js]
   refine wpList_value rfl (.bool false) (exec_pickC (.tmp 119) (.tmp 124) _ rfl false rfl _ rfl) ?_
   simp only [Act.put, jb, jz, js]
   refine zm 125 (.bool false) rfl ?_
   simp only [Act.put, jb, jz, js]
   refine wpList_lack (by kernel_rfl) ?_
   simp only [Act.put, jb, jz, js]
   refine wpList_lack (by kernel_rfl) ?_
   simp only [Act.put, jb, jz, js]
   refine wpList_lack (by kernel_rfl) ?_
   simp only [Act.put, jb, jz, js]
   refine wpList_lack (by kernel_rfl) ?_
   simp only [Act.put, jb, jz, js]
   refine wpList_lack (by kernel_rfl) ?_
   simp only [Act.put, jb, jz, js]
   refine wpList_value rfl (.bool false) (exec_pickC (.tmp 126) (.tmp 131) _ rfl false rfl _ rfl) ?_
   simp only [Act.put, jb, jz, js]
   refine wpList_value rfl (.bool false) (by go_simp <;> rfl) ?_
   simp only [Act.put, jb, jz, js]
   refine wpList_nil ?_
   go_wp2_with fail
   go_ret
   exact ⟨by simp, HG.out⟩
  ·skip
   refine wpList_valueG rfl (.pointer (some ⟨g, 18, none⟩)) (by go_simp <;> rfl) ?_
   simp only [Act.put, jb, jz, js]
   refine wpList_valueG rfl (.slice p a.acc.length c) (exec_loadC 39 (.tmp 120) rfl _ rfl _ _ Tryz.underlying39 rfl a_acc.out) ?_
   simp only [Act.put, jb, jz, js]
   refine wpList_valueG rfl (.pointer (some ⟨g + 1, 18, none⟩)) (by go_simp <;> rfl) ?_
   simp only [Act.put, jb, jz, js]
   refine wpList_valueG rfl (.slice q b.acc.length d) (exec_loadC 39 (.tmp 122) rfl _ rfl _ _ Tryz.underlying39 rfl b_acc.out) ?_
   simp only [Act.put, jb, jz, js]
   have hc1 := accSameR_any B B' p q _ _ c d a.acc b.acc w1 HACC.out HACC'.out HSI.out HSJ.out HLA.out HLA'.out HKX.out HKY.out
   have hc2 := fun V hV => autSameR_any B B' p' q' _ _ c' d' a.auths b.auths V (HAUT.out.grown hV) (HAUT'.out.grown hV) (Nat.le_trans HSI.out (World.grownBy.size hV)) (Nat.le_trans HSJ.out (World.grownBy.size hV)) HLB.out HLB'.out OA.out.auths OB.out.auths
   rw [HR1.out] at hc1
   have HC2 := Lib.hid hc2
   clear hc2
   refine wpList_enterG rfl 95 #[.slice p a.acc.length c, .slice q b.acc.length d] (exec_call2 _ (.tmp 121) (.tmp 123) _ rfl _ _ rfl rfl (enters_of Tryz.func95 (by kernel_rfl) rfl _ _)) (hc1.mono ?_)
   rintro e w2 ⟨rfl, hg2⟩
   have HG2 := Lib.hid (grown_self HG.out hg2 (by simp))
   have e1 := hg2.cell a_aut.out (by simp); have e2 := hg2.cell b_aut.out (by simp)
   have hc3 := HC2.out w2 hg2
   rw [HR2.out] at hc3
   clear hg2 hc1 HC2
   refine ⟨_, rfl, ?_⟩
   simp only [Act.put, jb, jz, js]
   refine wpList_value rfl (.bool r1) (exec_pickC (.tmp 119) (.tmp 124) _ rfl true rfl _ rfl) ?_
   simp only [Act.put, jb, jz, js]
   refine zm 125 (.bool r1) rfl ?_
   simp only [Act.put, jb, jz, js]
   cases r1
   ·skip
    refine wpList_lack (by kernel_rfl) ?_
    simp only [Act.put, jb, jz, js]
    refine wpList_lack (by kernel_rfl) ?_
    simp only [Act.put, jb, jz, js]
    refine wpList_lack (by kernel_rfl) ?_
    simp only [Act.put, jb, jz, js]
    refine wpList_lack (by kernel_rfl) ?_
    simp only [Act.put, jb, jz, js]
    refine wpList_lack (by kernel_rfl) ?_
    simp only [Act.put, jb, jz, js]
    refine wpList_value rfl (.bool false) (exec_pickC (.tmp 126) (.tmp 131) _ rfl false rfl _ rfl) ?_
    simp only [Act.put, jb, jz, js]
    refine wpList_value rfl (.bool false) (by go_simp <;> rfl) ?_
    simp only [Act.put, jb, jz, js]
    refine wpList_nil ?_
    go_wp2_with fail
    go_ret
    exact ⟨by simp, HG2.out⟩
   ·skip
    refine wpList_valueG rfl (.pointer (some ⟨g, 19, none⟩)) (by go_simp <;> rfl) ?_
    simp only [Act.put, jb, jz, js]
    refine wpList_valueG rfl (.slice p' a.auths.length c') (exec_loadC 40 (.tmp 127) rfl _ rfl _ _ Tryz.underlying40 rfl e1) ?_
    simp only [Act.put, jb, jz, js]
    refine wpList_valueG rfl (.pointer (some ⟨g + 1, 19, none⟩)) (by go_simp <;> rfl) ?_
    simp only [Act.put, jb, jz, js]
    refine wpList_valueG rfl (.slice q' b.auths.length d') (exec_loadC 40 (.tmp 129) rfl _ rfl _ _ Tryz.underlying40 rfl e2) ?_
    simp only [Act.put, jb, jz, js]
    refine wpList_enterG rfl 96 #[.slice p' a.auths.length c', .slice q' b.auths.length d'] (exec_call2 _ (.tmp 128) (.tmp 130) _ rfl _ _ rfl rfl (enters_of Tryz.func96 (by kernel_rfl) rfl _ _)) (hc3.mono ?_)
    rintro e w3 ⟨rfl, hg3⟩
    have HG3 := Lib.hid (grown_self HG2.out hg3 (by simp))
    clear hg3 hc3 e1 e2
    refine ⟨_, rfl, ?_⟩
    simp only [Act.put, jb, jz, js]
    refine wpList_value rfl (.bool r2) (exec_pickC (.tmp 126) (.tmp 131) _ rfl true rfl _ rfl) ?_
    simp only [Act.put, jb, jz, js]
    refine wpList_value rfl (.bool r2) (by go_simp <;> rfl) ?_
    simp only [Act.put, jb, jz, js]
    refine wpList_nil ?_
    go_wp2_with fail
    go_ret
    exact ⟨by simp, HG3.out⟩
def KeysFew (t : TxV) : Prop := ∀ x ∈ t.acc, x.keys.length ≤ 281474976710656
theorem txsSameR_any (B B' : Nat) (A A' : Option Addr) (n m c d : Nat) (xs ys : List TxV) (w : World) (h : TxsR B w xs A n) (h' : TxsR B' w ys A' m) (hB : B ≤ w.heap.size) (hB' : B' ≤ w.heap.size) (hn : n ≤ 9223372036854775807) (hm : m ≤ 9223372036854775807)
  (ox : ∀ x ∈ xs, x.Ok) (oy : ∀ y ∈ ys, y.Ok) (kx : ∀ x ∈ xs, KeysFew x) (ky : ∀ y ∈ ys, KeysFew y) :
  Calls Tryz.prog 16 #[.slice A n c, .slice A' m d] w fun e w' => e = .returned (.bool (decide (xs = ys))) ∧ w.grownBy w' none := by
 have hl := h.1; have hl' := h'.1
 by_cases hnm : n = m
 ·subst hnm
  have HL := Lib.hid hl; have HL' := Lib.hid hl'
  have HH := Lib.hid h; have HH' := Lib.hid h'
  have HB := Lib.hid hB; have HB' := Lib.hid hB'
  have HOX := Lib.hid ox; have HOY := Lib.hid oy
  have HKX := Lib.hid kx; have HKY := Lib.hid ky
  have qe : ((n : Int) != (n : Int)) = false := by simp
  clear hl hl' h h' hB hB' ox oy kx ky
  go_enter Tryz.func16, Tryz.ntmps16
  go_wp2_with fail
  clear qe
  go_loopw [5] (fun i wr => ∃ k : Nat, i = .int .i64 k ∧ k ≤ n ∧ w.grownBy wr none ∧ Hid (∀ i : Nat, i < k → xs.getD i TxV.zero = ys.getD i TxV.zero)) (fun i _ => n - (intOf i).toNat)
  case atStart => exact ⟨0, rfl, by omega, World.grownBy.refl _ _, Lib.hid (by intro i h1; omega)⟩
  case round =>
   obtain ⟨k, rfl, hk, hg, h2⟩ := hrel
   have h2' := Lib.hid h2.out
   have HGG := Lib.hid hg
   by_cases hlt : k < n
   ·obtain ⟨g, off, sa, sb, x, rfl, hx, mx, hcx, hix⟩ := (HH.out.grown hg HB.out).at_ hlt
    obtain ⟨g', off', sa', sb', y, rfl, hy, my, hcy, hiy⟩ := (HH'.out.grown hg HB'.out).at_ hlt
    have q1 : (k : Int) < (n : Int) := by omega
    have q2 : (0 : Int) ≤ (k : Int) := by omega
    have HX := Lib.hid hx; have HY := Lib.hid hy
    have HCALL := Lib.hid (fun V hV => txSameR_any x y B B' sa sb sa' sb' V (hix.grown (show wr.grownBy V none from hV) (Nat.le_trans HB.out hg.size)) (hiy.grown hV (Nat.le_trans HB'.out hg.size)) (Nat.le_trans (Nat.le_trans HB.out hg.size) (World.grownBy.size hV)) (Nat.le_trans (Nat.le_trans HB'.out hg.size) (World.grownBy.size hV)) (HOX.out x mx) (HOY.out y my) (HKX.out x mx) (HKY.out y my))
    have HCX := Lib.hid hcx; have HCY := Lib.hid hcy
    obtain ⟨r, hr⟩ : ∃ r, decide (x = y) = r := ⟨_, rfl⟩
    rw [hr] at HCALL
    have HRR := Lib.hid hr
    obtain ⟨cx, hcx2⟩ : ∃ z, txC x sa sb = z := ⟨_, rfl⟩
    obtain ⟨cy, hcy2⟩ : ∃ z, txC y sa' sb' = z := ⟨_, rfl⟩
    have ex : txL x sa sb = cx.toList := by rw [← hcx2]; rfl
    have ey : txL y sa' sb' = cy.toList := by rw [← hcy2]; rfl
    rw [hcx2, hcy2] at HCALL
    rw [ex] at HCX
    rw [ey] at HCY
    have zx : cx.toList.length = 36 := by rw [← ex]; rfl
    have zy : cy.toList.length = 36 := by rw [← ey]; rfl
    have HZX := Lib.hid zx; have HZY := Lib.hid zy
    clear h2 hx hy hr hcx hcy mx my hg hix hiy hcx2 hcy2 ex ey zx zy
    go_upto_region 6 with (fail)
    have hC0 : (fun V => wr.grownBy V none) wr.drew := only_drew (World.grownBy.refl wr none)
    refine wp_region_class (fun V => wr.grownBy V none) (by kernel_rfl) (by kernel_rfl) hC0 ?_
    (try simp only [Act.put])
    refine wpQuiet_value rfl (.slice (some ⟨g, off, none⟩) n c) (fun V hV => by go_simp) ?_
    simp only [Act.put, jb, jz, js]
    refine wpQuiet_value rfl (.int .i64 (k : Int)) (fun V hV => by go_simp) ?_
    simp only [Act.put, jb, jz, js]
    refine wpQuiet_value rfl (.pointer (some ⟨g, off + k * 36, none⟩)) (fun V hV => by go_simp <;> first | rfl | simp [Nat.mul_comm]) ?_
    simp only [Act.put, jb, jz, js]
    refine wpQuiet_value rfl (.agg cx) (fun V hV => exec_load_mid rfl rfl cx.toList (rangeAt_grown HCX.out hV) _ Tryz.underlying42 rfl (by rw [HZX.out]; kernel_rfl)) ?_
    simp only [Act.put, jb, jz, js]
    refine wpQuiet_value rfl (.slice (some ⟨g', off', none⟩) n d) (fun V hV => by go_simp) ?_
    simp only [Act.put, jb, jz, js]
    refine wpQuiet_value rfl (.int .i64 (k : Int)) (fun V hV => by go_simp) ?_
    simp only [Act.put, jb, jz, js]
    refine wpQuiet_value rfl (.pointer (some ⟨g', off' + k * 36, none⟩)) (fun V hV => by go_simp <;> first | rfl | simp [Nat.mul_comm]) ?_
    simp only [Act.put, jb, jz, js]
    refine wpQuiet_value rfl (.agg cy) (fun V hV => exec_load_mid rfl rfl cy.toList (rangeAt_grown HCY.out hV) _ Tryz.underlying42 rfl (by rw [HZY.out]; kernel_rfl)) ?_
    simp only [Act.put, jb, jz, js]
    refine wpQuiet_enter rfl (.bool r) 56 #[.agg cx, .agg cy] (fun V hV => exec_call2 _ (.tmp 21) (.tmp 25) _ rfl _ _ rfl rfl (enters_of Tryz.func56 (by kernel_rfl) rfl _ _)) (fun V hV => (HCALL.out V hV).mono fun e V' ⟨h1, h2⟩ => ⟨h1, grown_self hV h2 (by simp)⟩) ?_
    simp only [Act.put, jb, jz, js]
    refine wpQuiet_value rfl (.bool r) (fun V hV => by go_simp <;> rfl) ?_
    simp only [Act.put, jb, jz, js]
    refine wpQuiet_nil ?_
    intro w3 hw3
    have HG2 := Lib.hid (grown_self HGG.out hw3 (by simp))
    clear hC0 hw3 HCX HCY HCALL HZX HZY
    cases r with
    | true =>
     go_wp2_with fail
     refine ⟨⟨k + 1, by go_num, by omega, HG2.out, Lib.hid fun i hi => ?_⟩, by simp [intOf]; omega⟩
     by_cases hik : i = k
     ·rw [hik, HX.out, HY.out]; exact of_decide_eq_true HRR.out
     ·exact h2'.out i (by omega)
    | false =>
     go_wp2_with fail
     go_ret
     refine ⟨?_, HG2.out⟩
     rw [show decide (xs = ys) = false from decide_eq_false (fun e => of_decide_eq_false HRR.out (by rw [← HX.out, ← HY.out, e]))]
     rfl
   ·have he : xs = ys := rows_extG TxV.zero (by rw [HL.out, HL'.out]) fun i hi => h2'.out i (by have := HL.out; omega)
    have HE := Lib.hid he
    have q0 : (n : Int) ≤ (k : Int) := by omega
    clear he h2 hg
    go_wp2_with fail
    go_ret
    exact ⟨by rw [decide_eq_true HE.out]; rfl, HGG.out⟩
 ·have hne : ¬ xs = ys := by rintro rfl; exact hnm (hl.symm.trans hl')
  have HE := Lib.hid hne
  have hb : ((n : Int) != (m : Int)) = true := by simp; omega
  clear hne hnm hl hl' h h' hB hB' ox oy kx ky
  go_enter Tryz.func16, Tryz.ntmps16
  go_wp2_with fail
  go_ret
  exact ⟨by rw [decide_eq_false HE.out]; rfl, World.grownBy.refl _ _⟩
theorem catB_bound {α : Type} (f : α → ByteArray) (m : Nat) : ∀ (l : List α), (∀ a ∈ l, (f a).size ≤ m) → (catB (l.map f)).length ≤ l.length * m
 | [], _ => by simp [catB]
 | a :: l, h => by
  have h1 := h a (by simp)
  have h2 := catB_bound f m l fun b hb => h b (by simp [hb])
  rw [List.map_cons, catB_cons, List.length_append, ba_len, List.length_cons, Nat.add_mul]
  omega
theorem restT_size {t : TxV} (h : TxC t) : (restT t).size ≤ 20001 := by
 have := restBy_len h
 rw [← ba_len]
 simpa [restT] using this
theorem colOk_of {ls : List TxV} {chain : Nat} (h : checkCol ls chain = 0) (ok : ∀ t ∈ ls, t.Ok) : ColOk ls := by
 obtain ⟨_, _, hn, hone⟩ := checkCol_0 h
 have hT : ∀ t ∈ ls, TxC t := fun t ht => (oneT_ok (hone t ht)).1
 constructor
 ·intro t ht
  have hc := hT t ht
  obtain ⟨h1, h2⟩ := hc.rest
  have h3 := hc.check.2
  refine ⟨ok t ht, hc.kind, hc.acc, fun a ha => by have := (hc.pair a ha).2.1; omega, by omega, by rw [hc.enc]; omega⟩
 ·have hf := List.length_filter_le (fun t : TxV => decide (t.kind = 0)) ls
  have b1 := catB_bound sigT 64 ls fun t _ => by rw [← ba_len, sigT_len]; exact Nat.le_refl _
  have b2 := catB_bound (fun x : TxV => x.dst) 20 ls fun t ht => by rcases (hT t ht).dst with h | h <;> omega
  have b3 := catB_bound restT 20001 ls fun t ht => restT_size (hT t ht)
  have b4 := rowL_len (ls.map fun x : TxV => (x.nonce : Int))
  have b5 := rowL_len (ls.map fun x : TxV => (x.gas : Int))
  have b6 := packL_len (ls.map fun x : TxV => decide (x.dst.size = 0))
  have b7 := packL_len (ls.map fun x : TxV => decide (x.y = 1))
  have b8 := packL_len ((ls.filter fun x : TxV => decide (x.kind = 0)).map fun x : TxV => decide (x.chain ≠ 0))
  simp only [List.length_map] at b4 b5 b6 b7 b8
  have e : ∀ l : List UInt8, (⟨l.toArray⟩ : ByteArray).size = l.length := fun l => by rw [← ba_len]
  intro s hs
  unfold colsB at hs
  simp only [colL_all, List.mem_cons, List.not_mem_nil, or_false] at hs
  rcases hs with rfl | rfl | rfl | rfl | rfl | rfl | rfl | rfl
  ·rw [e]; omega
  ·rw [e]; omega
  ·rw [e]; omega
  ·rw [e]; omega
  ·rw [e]; omega
  ·rw [e]; omega
  ·rw [e]; omega
  ·rw [e]; show (packL ((ls.filter fun x : TxV => decide (x.kind = 0)).map fun x : TxV => decide (x.chain ≠ 0))).length ≤ _; omega
theorem colPut_ok (B : Nat) (A : Option Addr) (n c : Nat) (ls : List TxV) (chain : Nat) (w : World) (h : TxsR B w ls A n) (hB : B ≤ w.heap.size) (hn : n ≤ 9223372036854775807) (ok : ∀ t ∈ ls, t.Ok) :
  Calls Tryz.prog 11 #[.slice A n c, .int .u64 (chain : Int)] w fun e w' => e = .returned (.tuple #[.string ⟨(putColL ls chain).toArray⟩, .int .i64 (checkCol ls chain)]) ∧ w.grownBy w' none :=
 colPut_any B A n c ls chain w h hB hn ok (fun h0 => colOk_of h0 ok) (fun h0 => (checkCol_0 h0).2.2.1)
def getA (s : ByteArray) (at_ n : Int) (chain : Nat) : Except Int (List TxV × Nat) := if badArg s at_ n chain = true then .error 1 else getR s at_.toNat n.toNat chain
def GetAll (s : ByteArray) (at_ n : Int) (chain : Nat) (w : World) (e : Ending) (w' : World) : Prop :=
 w.grownBy w' none ∧ ((∃ E, E ≠ 0 ∧ getA s at_ n chain = .error E ∧ e = .returned (.tuple #[.slice none 0 0, .int .i64 0, .int .i64 E])) ∨
  (∃ L T g, getA s at_ n chain = .ok (L, T) ∧ badArg s at_ n chain = false ∧ (L.length : Int) = n ∧ e = .returned (.tuple #[.slice (some ⟨g, 0, none⟩) L.length L.length, .int .i64 (T : Int), .int .i64 0]) ∧ w.heap.size ≤ g ∧ TxsR w'.heap.size w' L (some ⟨g, 0, none⟩) L.length ∧ T ≤ s.size ∧ ∀ t ∈ L, RowOk t))
theorem badArg_no {s : ByteArray} {at_ n : Int} {chain : Nat} (h : badArg s at_ n chain = false) : 0 < chain ∧ chain ≤ 4611686018427387904 ∧ ∃ a m : Nat, at_ = (a : Int) ∧ n = (m : Int) ∧ m ≤ 512 ∧ a ≤ s.size := by
 unfold badArg at h
 simp only [Bool.or_eq_false_iff, decide_eq_false_iff_not] at h
 obtain ⟨⟨⟨⟨⟨h1, h2⟩, h3⟩, h4⟩, h5⟩, h6⟩ := h
 exact ⟨by omega, by omega, at_.toNat, n.toNat, by omega, by omega, by omega, by omega⟩
theorem colGet_any (s : ByteArray) (at_ n : Int) (chain : Nat) (w : World) (hs : s.size ≤ 1000000000000) :
  Calls Tryz.prog 14 #[.string s, .int .i64 at_, .int .i64 n, .int .u64 (chain : Int)] w (GetAll s at_ n chain w) := by
 cases hb : badArg s at_ n chain with
 | true =>
  refine (getBad s at_ n chain w hs hb).mono ?_
  rintro e w' ⟨rfl, hg⟩
  exact ⟨hg, .inl ⟨1, by decide, by unfold getA; rw [if_pos hb], rfl⟩⟩
 | false =>
  obtain ⟨h1, h2, a, m, rfl, rfl, h3, h4⟩ := badArg_no hb
  refine (getGood s a m chain w hs h4 h3 h1 h2).mono ?_
  rintro e w' ⟨hg, h⟩
  have e0 : getA s a m chain = getR s a m chain := by unfold getA; rw [if_neg (by rw [hb]; simp)]; rfl
  refine ⟨hg, ?_⟩
  rw [e0]
  rcases h with h | ⟨L, T, g, g1, g2, g3, g4, g5, g6⟩
  ·exact .inl h
  ·have hl := (getR_only h4 h3 g1).2.1
   subst hl
   exact .inr ⟨L, T, g, g1, hb, rfl, g2, g3, g4, g5, g6⟩
end Go.Proofs.YtgclnikdkfpflaaGreatDoor
