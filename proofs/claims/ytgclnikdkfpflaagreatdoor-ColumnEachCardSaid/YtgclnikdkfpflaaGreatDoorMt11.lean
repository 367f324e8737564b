/- Merged: CoK. -/
import Derived.Test.YtgclnikdkfpflaaGreatDoorMt1
import Derived.Test.YtgclnikdkfpflaaGreatDoorMt2
import Derived.Test.YtgclnikdkfpflaaGreatDoorMt8
import Derived.Test.YtgclnikdkfpflaaGreatDoorMt10
namespace Go.Proofs.YtgclnikdkfpflaaGreatDoor
open Go.RowKit Go.Shelf
open List renaming set_cons_zero → jz, set_cons_succ → js, setIfInBounds_toArray → jb
set_option linter.unusedVariables false
set_option linter.unusedSimpArgs false
set_option maxRecDepth 100000
set_option maxHeartbeats 16000000
def nB (n : Nat) : ByteArray := ⟨(beN n).toArray⟩
theorem wordOf_any (p : Nat) (hp : p < 115792089237316195423570985008687907853269984665640564039457584007913129639936) (w : World) :
  Calls Tryz.prog 73 #[.agg #[.int .u64 (wp p 0 : Nat), .int .u64 (wp p 1 : Nat), .int .u64 (wp p 2 : Nat), .int .u64 (wp p 3 : Nat)]] w fun e w' => e = .returned (.agg #[.bool false, .string (nB p), .slice none 0 0]) ∧ w.grownBy w' none := by
 have h := word_any (wp p 0) (wp p 1) (wp p 2) (wp p 3) (wp_lt p 0) (wp_lt p 1) (wp_lt p 2) (wp_lt p 3) w
 rw [wp_join p (by simpa using hp)] at h
 exact h
theorem cells_new (W : World) (cs : List Value) (t : TypeId) : ∀ (j : Nat) (u : Value), cs[j]? = some u → (W.alloc (.cells cs.toArray t)).cell? ((⟨W.heap.size, 0, none⟩ : Addr).add j) = some u := by
 intro j u hj
 have hb := Blk.new W t cs.toArray
 have := hb.cell j
 rw [Addr.add_mid, Nat.zero_add, this]
 simpa using hj
theorem subNil (S : Nat → Prop) (W : World) : SubV S W [] (.slice none 0 0) := .mk [] none 0 [] (fun h => by cases h) (fun i h => by cases h)
def restI (t : TxV) : Itm := .mk true ⟨#[]⟩ (if t.kind = 0 then [txt (nB t.value), txt (nB t.price), txt t.data] else if t.kind = 1 then [txt (nB t.value), txt (nB t.price), txt t.data, accI t.acc] else [txt (nB t.value), txt (nB t.tip), txt (nB t.price), txt t.data, accI t.acc])
def restBy (t : TxV) : List UInt8 := (if t.kind = 0 then [] else if t.kind = 1 then [1] else [2]) ++ encB (restI t)
theorem rest0_any (chain nonce tip price gas : Nat) (dst : ByteArray) (value : Nat) (data : ByteArray) (acc : List AccV) (auths : List AutV) (y r s : Nat) (source frm : ByteArray) (mint : Nat) (system : Bool) (B : Nat) (pa : Option Addr) (na xa : Nat) (pb : Option Addr) (nb xb : Nat) (w : World) (hac : AccR B w acc pa na) (hB : B ≤ w.heap.size) (hna : na ≤ 16) (hke : ∀ a ∈ acc, a.keys.length ≤ 1000)
  (hva : value < 115792089237316195423570985008687907853269984665640564039457584007913129639936) (hti : tip < 115792089237316195423570985008687907853269984665640564039457584007913129639936) (hpr : price < 115792089237316195423570985008687907853269984665640564039457584007913129639936)
  (hwt : wtF (restI (TxV.mk 0 chain nonce tip price gas dst value data acc auths y r s source frm mint system)) ≤ 1000000000) (hlen : (encB (restI (TxV.mk 0 chain nonce tip price gas dst value data acc auths y r s source frm mint system))).length ≤ 1000000000) :
  Calls Tryz.prog 40 #[.agg (txC (TxV.mk 0 chain nonce tip price gas dst value data acc auths y r s source frm mint system) (.slice pa na xa) (.slice pb nb xb))] w fun e w' => e = .returned (.string ⟨(restBy (TxV.mk 0 chain nonce tip price gas dst value data acc auths y r s source frm mint system)).toArray⟩) ∧ w.grownBy w' none := by
 have hla := hac.1
 have hb := Blk.new w 42 (txC (TxV.mk 0 chain nonce tip price gas dst value data acc auths y r s source frm mint system) (.slice pa na xa) (.slice pb nb xb))
 have hG := only_alloc (World.grownBy.refl w none) (.cells (txC (TxV.mk 0 chain nonce tip price gas dst value data acc auths y r s source frm mint system) (.slice pa na xa) (.slice pb nb xb)) 42)
 have HENC := Lib.hid (fun V sx h => encodeP_any (restI (TxV.mk 0 chain nonce tip price gas dst value data acc auths y r s source frm mint system)) V sx h hwt)
 obtain ⟨L, hL⟩ : ∃ L, encB (restI (TxV.mk 0 chain nonce tip price gas dst value data acc auths y r s source frm mint system)) = L := ⟨_, rfl⟩
 obtain ⟨E, hE⟩ : ∃ L, checkI (restI (TxV.mk 0 chain nonce tip price gas dst value data acc auths y r s source frm mint system)) = L := ⟨_, rfl⟩
 have hR : restBy (TxV.mk 0 chain nonce tip price gas dst value data acc auths y r s source frm mint system) = [] ++ L := by rw [← hL]; rfl
 rw [hL] at HENC hlen
 rw [hE] at HENC
 rw [hR]
 have HAC := Lib.hid hac; have HBB := Lib.hid hB; have HNA := Lib.hid hna; have HKE := Lib.hid hke; have HVA := Lib.hid hva; have HTI := Lib.hid hti; have HPR := Lib.hid hpr; have HLEN := Lib.hid hlen; have HLA := Lib.hid hla
 clear hac hB hna hke hva hti hpr hlen hwt hL hE hR hla
 go_enter Tryz.func40, Tryz.ntmps40
 go_upto_region 1 with (fail)
 obtain ⟨g, hg⟩ : ∃ g, w.heap.size = g := ⟨_, rfl⟩
 have HW := Lib.hid hg
 rw [hg] at hb ⊢
 clear hg
 generalize w.alloc (.cells (txC (TxV.mk 0 chain nonce tip price gas dst value data acc auths y r s source frm mint system) (.slice pa na xa) (.slice pb nb xb)) 42) = w1 at *
 refine wp_region_list ?_
 refine wpList_value rfl (.pointer (some ⟨g, 13, none⟩)) (by go_simp <;> rfl) ?_
 simp only [Act.put, jb, jz, js]
 refine wpList_value rfl (.agg #[.int .u64 (wp value 0 : Nat), .int .u64 (wp value 1 : Nat), .int .u64 (wp value 2 : Nat), .int .u64 (wp value 3 : Nat)]) (exec_loadW _ rfl rfl ((hb.cell 13).trans rfl) ((hb.cell 14).trans rfl) ((hb.cell 15).trans rfl) ((hb.cell 16).trans rfl)) ?_
 simp only [Act.put, jb, jz, js]
 go_wp2_with fail
 refine (wordOf_any value HVA.out _).mono ?_
 rintro e w2 ⟨rfl, hg2⟩
 have hb2 := hb.grown hg2 (by simp)
 have hG2 := grown_self hG hg2 (by simp)
 clear hb hG hg2
 go_wp2_with fail
 refine (list_any _ ⟨_, _, _, rfl⟩ _).mono ?_
 rintro e w3 ⟨rfl, hg3⟩
 obtain ⟨z, hz⟩ : ∃ z, w2.heap.size = z := ⟨_, rfl⟩
 have hzb := Blk.new w2 106 #[.bool false, .string (nB value), .slice none 0 0]
 have hzz : (w2.alloc (.cells #[.bool false, .string (nB value), .slice none 0 0] 106)).heap.size = z + 1 := by simp [hz]
 have hG3 := only_alloc hG2 (.cells #[.bool false, .string (nB value), .slice none 0 0] 106)
 have hb3' := hb2.alloc (.cells #[.bool false, .string (nB value), .slice none 0 0] 106)
 have hgz : g < z := by have := hb2.lt; omega
 have hwz : w.heap.size ≤ z := by have := hG2.size; omega
 rw [hz] at hzb ⊢
 clear hz hG2 hb2
 generalize w2.alloc (.cells #[.bool false, .string (nB value), .slice none 0 0] 106) = w2' at *
 have hz3 := hg3.size
 obtain ⟨b3, hb3⟩ : ∃ b, w3.heap.size = b := ⟨_, rfl⟩
 have hzlt : z < b3 := by omega
 have hbn := Blk.new w3 106 #[.bool true, .string ⟨#[]⟩, .slice (some ⟨z, 0, none⟩) 1 1]
 rw [hb3] at hbn
 have hga := only_alloc (World.grownBy.refl w3 none) (.cells #[.bool true, .string ⟨#[]⟩, .slice (some ⟨z, 0, none⟩) 1 1] 106)
 have hzb4 : Blk (w3.alloc (.cells #[.bool true, .string ⟨#[]⟩, .slice (some ⟨z, 0, none⟩) 1 1] 106)) z 106 #[.bool false, .string (nB value), .slice none 0 0] := (hzb.grown hg3 (by simp)).grown hga (by simp)
 have hG4 := grown_self (grown_self hG3 hg3 (by simp)) hga (by simp)
 have K0 : RdJ w z b3 (.slice (some ⟨z, 0, none⟩) 1 1) 1 [txt (nB value)] [.slice none 0 0] (w3.alloc (.cells #[.bool true, .string ⟨#[]⟩, .slice (some ⟨z, 0, none⟩) 1 1] 106)) := by
  refine ⟨hbn, ⟨rfl, .inr ⟨z, 1, #[.bool false, .string (nB value), .slice none 0 0], rfl, Nat.le_refl _, hzb4, Nat.le_refl _, by simp [maxLen], rfl, rfl⟩⟩, ?_, hG4, hwz, by omega, by have := hzb4.lt; omega, rfl, rfl, fun i hi => ?_⟩
  ·simp only [Value.ownBlock, ne_eq, Option.some.injEq]; omega
  ·match i, hi with
   | 0, _ => exact subNil _ _
 have HBS : Blk (w3.alloc (.cells #[.bool true, .string ⟨#[]⟩, .slice (some ⟨z, 0, none⟩) 1 1] 106)) g 42 (txC (TxV.mk 0 chain nonce tip price gas dst value data acc auths y r s source frm mint system) (.slice pa na xa) (.slice pb nb xb)) := (hb3'.grown hg3 (by simp)).grown hga (by simp)
 have HGZ := Lib.hid hgz; have HZB := Lib.hid hzlt
 clear hzb hzz hG3 hb3' hgz hwz hz3 hzlt hbn hga hzb4 hG4 hg3
 go_upto_region 2 with (fail)
 clear hb3
 generalize w3.alloc (.cells #[.bool true, .string ⟨#[]⟩, .slice (some ⟨z, 0, none⟩) 1 1] 106) = w4 at *
 have c0 : w4.cell? ⟨g, 0, none⟩ = some (.int .i64 0) := (HBS.cell 0).trans rfl
 go_upto_region 7 with (fail)
 refine wp_region_f 11 (fun b W => b = false → W.cell? ⟨b3, 2, none⟩ = some (.slice (some ⟨z, 0, none⟩) 1 1) ∧ Blk W g 42 (txC (TxV.mk 0 chain nonce tip price gas dst value data acc auths y r s source frm mint system) (.slice pa na xa) (.slice pb nb xb))) (by kernel_rfl) ?_
 replace K0 := K0.kept (only_drew (World.grownBy.refl w4 none))
 replace HBS : Blk w4.drew g 42 (txC (TxV.mk 0 chain nonce tip price gas dst value data acc auths y r s source frm mint system) (.slice pa na xa) (.slice pb nb xb)) := HBS
 (try clear c0)
 generalize w4.drew = u0 at *
 have hS0 : false = false → u0.cell? ⟨b3, 2, none⟩ = some (.slice (some ⟨z, 0, none⟩) 1 1) ∧ Blk u0 g 42 (txC (TxV.mk 0 chain nonce tip price gas dst value data acc auths y r s source frm mint system) (.slice pa na xa) (.slice pb nb xb)) := fun _ => ⟨K0.blk.cell 2, HBS⟩
 refine f_take (i := 0) (v := .pointer (some ⟨b3, 2, none⟩)) (some 31) rfl (by kernel_rfl) (by kernel_rfl) (by kernel_rfl) (by kernel_rfl) (by kernel_rfl) (by kernel_rfl) (fun _ _ _ h => h) rfl (Or.inl ⟨by rfl, fun W hW => by go_simp⟩) hS0 ?_
 simp only [Act.put, jb, jz, js]
 refine f_take (i := 1) (v := .slice (some ⟨z, 0, none⟩) 1 1) (some 32) rfl (by kernel_rfl) (by kernel_rfl) (by kernel_rfl) (by kernel_rfl) (by kernel_rfl) (by kernel_rfl) (fun _ _ _ h => h) rfl (Or.inl ⟨by rfl, fun W hW => exec_loadC 104 (.tmp 31) rfl _ rfl _ _ Tryz.underlying104 rfl (hW rfl).1⟩) hS0 ?_
 simp only [Act.put, jb, jz, js]
 refine f_take (i := 2) (v := .pointer (some ⟨g, 7, none⟩)) (some 33) rfl (by kernel_rfl) (by kernel_rfl) (by kernel_rfl) (by kernel_rfl) (by kernel_rfl) (by kernel_rfl) (fun _ _ _ h => h) rfl (Or.inl ⟨by rfl, fun W hW => by go_simp⟩) hS0 ?_
 simp only [Act.put, jb, jz, js]
 refine f_take (i := 3) (v := .agg #[.int .u64 (wp price 0 : Nat), .int .u64 (wp price 1 : Nat), .int .u64 (wp price 2 : Nat), .int .u64 (wp price 3 : Nat)]) (some 34) rfl (by kernel_rfl) (by kernel_rfl) (by kernel_rfl) (by kernel_rfl) (by kernel_rfl) (by kernel_rfl) (fun _ _ _ h => h) rfl (Or.inl ⟨by rfl, fun W hW => exec_loadW _ rfl rfl (((hW rfl).2.cell 7).trans rfl) (((hW rfl).2.cell 8).trans rfl) (((hW rfl).2.cell 9).trans rfl) (((hW rfl).2.cell 10).trans rfl)⟩) hS0 ?_
 simp only [Act.put, jb, jz, js]
 refine f_take (i := 5) (v := .pointer (some ⟨g, 17, none⟩)) (some 36) rfl (by kernel_rfl) (by kernel_rfl) (by kernel_rfl) (by kernel_rfl) (by kernel_rfl) (by kernel_rfl) (fun _ _ _ h => h) rfl (Or.inl ⟨by rfl, fun W hW => by go_simp⟩) hS0 ?_
 simp only [Act.put, jb, jz, js]
 refine f_take (i := 6) (v := .string data) (some 37) rfl (by kernel_rfl) (by kernel_rfl) (by kernel_rfl) (by kernel_rfl) (by kernel_rfl) (by kernel_rfl) (fun _ _ _ h => h) rfl (Or.inl ⟨by rfl, fun W hW => exec_loadC 9 (.tmp 36) rfl _ rfl _ _ Tryz.underlying9 rfl (((hW rfl).2.cell 17).trans rfl)⟩) hS0 ?_
 simp only [Act.put, jb, jz, js]
 clear hS0
 refine f_one (i := 4) (by kernel_rfl) ?_
 refine f_enter (some 35) rfl rfl 73 #[.agg #[.int .u64 (wp price 0 : Nat), .int .u64 (wp price 1 : Nat), .int .u64 (wp price 2 : Nat), .int .u64 (wp price 3 : Nat)]] (exec_call1 _ (.tmp 34) _ rfl _ rfl (enters_of Tryz.func73 (by kernel_rfl) rfl _ _)) rfl false (by kernel_rfl) ((wordOf_any price HPR.out u0).mono ?_)
 rintro e u1 ⟨rfl, hg⟩
 replace K0 := K0.kept hg
 replace HBS := HBS.grown hg (by simp)
 clear hg
 refine ⟨_, rfl, (fun _ => ⟨K0.blk.cell 2, HBS⟩), ?_⟩
 simp only [Act.put, jb, jz, js]
 refine f_one (i := 7) (by kernel_rfl) ?_
 refine f_enter (some 38) rfl rfl 74 #[.string data] (exec_call1 _ (.tmp 37) _ rfl _ rfl (enters_of Tryz.func74 (by kernel_rfl) rfl _ _)) rfl false (by kernel_rfl) ((text_any data u1).mono ?_)
 rintro e u2 ⟨rfl, hg⟩
 replace K0 := K0.kept hg
 replace HBS := HBS.grown hg (by simp)
 clear hg
 refine ⟨_, rfl, (fun _ => ⟨K0.blk.cell 2, HBS⟩), ?_⟩
 simp only [Act.put, jb, jz, js]
 refine f_one (i := 8) (by kernel_rfl) ?_
 have hga := only_alloc (World.grownBy.refl u2 none) (.cells #[.bool false, .string (nB price), .slice none 0 0, .bool false, .string data, .slice none 0 0] 106)
 replace K0 := K0.kept hga
 replace HBS := HBS.grown hga (by simp)
 refine f_value (some 39) rfl rfl (.slice (some ⟨u2.heap.size, 0, none⟩) 2 2) (w' := u2.alloc (.cells #[.bool false, .string (nB price), .slice none 0 0, .bool false, .string data, .slice none 0 0] 106)) (by go_simp <;> rfl) rfl false (by kernel_rfl) (fun _ => ⟨K0.blk.cell 2, HBS⟩) ?_
 simp only [Act.put, jb, jz, js]
 obtain ⟨i0, hi, hz0, hzs, hzb⟩ := info_parts item_info
 obtain ⟨v', v2, hrun, hown', hgrow, hiff, hob⟩ := run_append_own_at (P := Tryz.prog) (u2.alloc (.cells #[.bool false, .string (nB price), .slice none 0 0, .bool false, .string data, .slice none 0 0] 106)) z 104 104 106 i0 _ 3 48 Tryz.underlying104 hi hz0 hzs hzb rfl (by decide) (.slice (some ⟨z, 0, none⟩) 1 1) 1 (itemsV [txt (nB value)] [.slice none 0 0]) K0.own ⟨u2.heap.size, 0, none⟩ 2 2 [.bool false, .string (nB price), .slice none 0 0, .bool false, .string data, .slice none 0 0] rfl (cells_new _ [.bool false, .string (nB price), .slice none 0 0, .bool false, .string data, .slice none 0 0] _) (by simp [Value.oneCell']) (by simp only [maxLen]; omega) (by omega) K0.size
 obtain ⟨g5, cap5, rfl⟩ := ownsRow_succ (k := 2) hown'
 have hnn : (Value.slice (some ⟨u2.heap.size, 0, none⟩) 2 2 : Value) = .slice (some ⟨u2.heap.size, 0, none⟩) 2 2 := rfl
 have K1 := K0.put (m := 2) [txt (nB price), txt data] [.slice none 0 0, .slice none 0 0] rfl rfl (fun i hi => by
  match i, hi with
  | 0, _ => exact subNil _ _
  | 1, _ => exact subNil _ _) hown' hgrow hob
 have hb8 := HBS.grown hgrow (fun e => by have := ownBlock_ge K0.own e.symm; have := HGZ.out; omega)
 have hbb := K0.blk.grown hgrow (fun e => K0.ne e.symm)
 refine f_one (i := 9) (by kernel_rfl) ?_
 refine f_value (some 40) rfl rfl (.slice (some ⟨g5, 0, none⟩) 3 cap5) (exec_append (.tmp 32) (.tmp 39) 104 rfl _ _ _ rfl rfl hrun) rfl false (by kernel_rfl) (fun _ => ⟨hbb.cell 2, hb8⟩) ?_
 simp only [Act.put, jb, jz, js]
 refine f_one (i := 10) (by kernel_rfl) ?_
 refine f_value (some 41) rfl rfl (.pointer (some ⟨b3, 2, none⟩)) (by go_simp <;> rfl) rfl false (by kernel_rfl) (fun _ => ⟨hbb.cell 2, hb8⟩) ?_
 simp only [Act.put, jb, jz, js]
 refine f_one (i := 11) (by kernel_rfl) ?_
 refine f_skip rfl rfl rfl (exec_store1 (.tmp 41) (.tmp 40) rfl rfl rfl hbb (by simp)) true (by kernel_rfl) (fun e => by cases e) ?_
 (try simp only [Act.put, jb, jz, js])
 refine f_done (by kernel_rfl) ?_ _
 replace K0 : RdJ w z b3 (.slice (some ⟨g5, 0, none⟩) 3 cap5) 3 [txt (nB value), txt (nB price), txt data] [.slice none 0 0, .slice none 0 0, .slice none 0 0] (v2.setCell ⟨b3, 2, none⟩ (.slice (some ⟨g5, 0, none⟩) 3 cap5)) := K1
 replace HBS : Blk (v2.setCell ⟨b3, 2, none⟩ (.slice (some ⟨g5, 0, none⟩) 3 cap5)) g 42 (txC (TxV.mk 0 chain nonce tip price gas dst value data acc auths y r s source frm mint system) (.slice pa na xa) (.slice pb nb xb)) := blk_setO hb8 (by have := HGZ.out; have := HZB.out; omega) 2 _
 clear hrun hown' hgrow hob hiff K1 hb8 hbb hga hnn 
 generalize v2.setCell ⟨b3, 2, none⟩ (.slice (some ⟨g5, 0, none⟩) 3 cap5) = y5 at *
 have c0 : y5.cell? ⟨g, 0, none⟩ = some (.int .i64 0) := (HBS.cell 0).trans rfl
 have hI : restI (TxV.mk 0 chain nonce tip price gas dst value data acc auths y r s source frm mint system) = .mk true ⟨#[]⟩ [txt (nB value), txt (nB price), txt data] := rfl
 rw [hI] at HENC
 have hsub := K0.row.here
 have e0 := K0.blk.cell 0; have e1 := K0.blk.cell 1; have e2 := K0.blk.cell 2
 simp only [List.getElem?_toArray, List.getElem?_cons_zero, List.getElem?_cons_succ] at e0 e1 e2
 have HGG := Lib.hid K0.grown
 clear hI HBS
 clear K0
 go_wp2_with fail
 refine (HENC.out y5 _ hsub).mono ?_
 rintro e w9 ⟨rfl, hg9⟩
 have HG := Lib.hid (grown_self HGG.out hg9 (by simp))
 have hl := HLEN.out
 have hsum : L.length ≤ 9223372036854775807 := by omega
 clear e0 e1 e2 hg9 hsub HENC hl
 (try clear c0)
 go_wp2_with fail
 go_ret
 refine ⟨?_, HG.out⟩
 first | rfl | (rw [← ba_cat]; rfl)
theorem rest1_any (chain nonce tip price gas : Nat) (dst : ByteArray) (value : Nat) (data : ByteArray) (acc : List AccV) (auths : List AutV) (y r s : Nat) (source frm : ByteArray) (mint : Nat) (system : Bool) (B : Nat) (pa : Option Addr) (na xa : Nat) (pb : Option Addr) (nb xb : Nat) (w : World) (hac : AccR B w acc pa na) (hB : B ≤ w.heap.size) (hna : na ≤ 16) (hke : ∀ a ∈ acc, a.keys.length ≤ 1000)
  (hva : value < 115792089237316195423570985008687907853269984665640564039457584007913129639936) (hti : tip < 115792089237316195423570985008687907853269984665640564039457584007913129639936) (hpr : price < 115792089237316195423570985008687907853269984665640564039457584007913129639936)
  (hwt : wtF (restI (TxV.mk 1 chain nonce tip price gas dst value data acc auths y r s source frm mint system)) ≤ 1000000000) (hlen : (encB (restI (TxV.mk 1 chain nonce tip price gas dst value data acc auths y r s source frm mint system))).length ≤ 1000000000) :
  Calls Tryz.prog 40 #[.agg (txC (TxV.mk 1 chain nonce tip price gas dst value data acc auths y r s source frm mint system) (.slice pa na xa) (.slice pb nb xb))] w fun e w' => e = .returned (.string ⟨(restBy (TxV.mk 1 chain nonce tip price gas dst value data acc auths y r s source frm mint system)).toArray⟩) ∧ w.grownBy w' none := by
 have hla := hac.1
 have hb := Blk.new w 42 (txC (TxV.mk 1 chain nonce tip price gas dst value data acc auths y r s source frm mint system) (.slice pa na xa) (.slice pb nb xb))
 have hG := only_alloc (World.grownBy.refl w none) (.cells (txC (TxV.mk 1 chain nonce tip price gas dst value data acc auths y r s source frm mint system) (.slice pa na xa) (.slice pb nb xb)) 42)
 have HENC := Lib.hid (fun V sx h => encodeP_any (restI (TxV.mk 1 chain nonce tip price gas dst value data acc auths y r s source frm mint system)) V sx h hwt)
 obtain ⟨L, hL⟩ : ∃ L, encB (restI (TxV.mk 1 chain nonce tip price gas dst value data acc auths y r s source frm mint system)) = L := ⟨_, rfl⟩
 obtain ⟨E, hE⟩ : ∃ L, checkI (restI (TxV.mk 1 chain nonce tip price gas dst value data acc auths y r s source frm mint system)) = L := ⟨_, rfl⟩
 have hR : restBy (TxV.mk 1 chain nonce tip price gas dst value data acc auths y r s source frm mint system) = [1] ++ L := by rw [← hL]; rfl
 rw [hL] at HENC hlen
 rw [hE] at HENC
 rw [hR]
 have HAC := Lib.hid hac; have HBB := Lib.hid hB; have HNA := Lib.hid hna; have HKE := Lib.hid hke; have HVA := Lib.hid hva; have HTI := Lib.hid hti; have HPR := Lib.hid hpr; have HLEN := Lib.hid hlen; have HLA := Lib.hid hla
 clear hac hB hna hke hva hti hpr hlen hwt hL hE hR hla
 go_enter Tryz.func40, Tryz.ntmps40
 go_upto_region 1 with (fail)
 obtain ⟨g, hg⟩ : ∃ g, w.heap.size = g := ⟨_, rfl⟩
 have HW := Lib.hid hg
 rw [hg] at hb ⊢
 clear hg
 generalize w.alloc (.cells (txC (TxV.mk 1 chain nonce tip price gas dst value data acc auths y r s source frm mint system) (.slice pa na xa) (.slice pb nb xb)) 42) = w1 at *
 refine wp_region_list ?_
 refine wpList_value rfl (.pointer (some ⟨g, 13, none⟩)) (by go_simp <;> rfl) ?_
 simp only [Act.put, jb, jz, js]
 refine wpList_value rfl (.agg #[.int .u64 (wp value 0 : Nat), .int .u64 (wp value 1 : Nat), .int .u64 (wp value 2 : Nat), .int .u64 (wp value 3 : Nat)]) (exec_loadW _ rfl rfl ((hb.cell 13).trans rfl) ((hb.cell 14).trans rfl) ((hb.cell 15).trans rfl) ((hb.cell 16).trans rfl)) ?_
 simp only [Act.put, jb, jz, js]
 go_wp2_with fail
 refine (wordOf_any value HVA.out _).mono ?_
 rintro e w2 ⟨rfl, hg2⟩
 have hb2 := hb.grown hg2 (by simp)
 have hG2 := grown_self hG hg2 (by simp)
 clear hb hG hg2
 go_wp2_with fail
 refine (list_any _ ⟨_, _, _, rfl⟩ _).mono ?_
 rintro e w3 ⟨rfl, hg3⟩
 obtain ⟨z, hz⟩ : ∃ z, w2.heap.size = z := ⟨_, rfl⟩
 have hzb := Blk.new w2 106 #[.bool false, .string (nB value), .slice none 0 0]
 have hzz : (w2.alloc (.cells #[.bool false, .string (nB value), .slice none 0 0] 106)).heap.size = z + 1 := by simp [hz]
 have hG3 := only_alloc hG2 (.cells #[.bool false, .string (nB value), .slice none 0 0] 106)
 have hb3' := hb2.alloc (.cells #[.bool false, .string (nB value), .slice none 0 0] 106)
 have hgz : g < z := by have := hb2.lt; omega
 have hwz : w.heap.size ≤ z := by have := hG2.size; omega
 rw [hz] at hzb ⊢
 clear hz hG2 hb2
 generalize w2.alloc (.cells #[.bool false, .string (nB value), .slice none 0 0] 106) = w2' at *
 have hz3 := hg3.size
 obtain ⟨b3, hb3⟩ : ∃ b, w3.heap.size = b := ⟨_, rfl⟩
 have hzlt : z < b3 := by omega
 have hbn := Blk.new w3 106 #[.bool true, .string ⟨#[]⟩, .slice (some ⟨z, 0, none⟩) 1 1]
 rw [hb3] at hbn
 have hga := only_alloc (World.grownBy.refl w3 none) (.cells #[.bool true, .string ⟨#[]⟩, .slice (some ⟨z, 0, none⟩) 1 1] 106)
 have hzb4 : Blk (w3.alloc (.cells #[.bool true, .string ⟨#[]⟩, .slice (some ⟨z, 0, none⟩) 1 1] 106)) z 106 #[.bool false, .string (nB value), .slice none 0 0] := (hzb.grown hg3 (by simp)).grown hga (by simp)
 have hG4 := grown_self (grown_self hG3 hg3 (by simp)) hga (by simp)
 have K0 : RdJ w z b3 (.slice (some ⟨z, 0, none⟩) 1 1) 1 [txt (nB value)] [.slice none 0 0] (w3.alloc (.cells #[.bool true, .string ⟨#[]⟩, .slice (some ⟨z, 0, none⟩) 1 1] 106)) := by
  refine ⟨hbn, ⟨rfl, .inr ⟨z, 1, #[.bool false, .string (nB value), .slice none 0 0], rfl, Nat.le_refl _, hzb4, Nat.le_refl _, by simp [maxLen], rfl, rfl⟩⟩, ?_, hG4, hwz, by omega, by have := hzb4.lt; omega, rfl, rfl, fun i hi => ?_⟩
  ·simp only [Value.ownBlock, ne_eq, Option.some.injEq]; omega
  ·match i, hi with
   | 0, _ => exact subNil _ _
 have HBS : Blk (w3.alloc (.cells #[.bool true, .string ⟨#[]⟩, .slice (some ⟨z, 0, none⟩) 1 1] 106)) g 42 (txC (TxV.mk 1 chain nonce tip price gas dst value data acc auths y r s source frm mint system) (.slice pa na xa) (.slice pb nb xb)) := (hb3'.grown hg3 (by simp)).grown hga (by simp)
 have HGZ := Lib.hid hgz; have HZB := Lib.hid hzlt
 clear hzb hzz hG3 hb3' hgz hwz hz3 hzlt hbn hga hzb4 hG4 hg3
 go_upto_region 2 with (fail)
 clear hb3
 generalize w3.alloc (.cells #[.bool true, .string ⟨#[]⟩, .slice (some ⟨z, 0, none⟩) 1 1] 106) = w4 at *
 have c0 : w4.cell? ⟨g, 0, none⟩ = some (.int .i64 1) := (HBS.cell 0).trans rfl
 have hcv : (convert 43 9 (.slice (some ⟨w4.heap.size, 0, none⟩) 1 1)).run Tryz.prog (w4.alloc (.cells #[.int .u8 1] 5)) = .ok (.string ⟨#[1]⟩) (w4.alloc (.cells #[.int .u8 1] 5)) := conv_own (own_new1 w4 1)
 have hga := only_alloc (World.grownBy.refl w4 none) (.cells #[.int .u8 1] 5)
 have c0' := hga.cell c0 (by simp)
 go_upto_region 5 with (fail)
 replace K0 := K0.kept hga
 replace HBS := HBS.grown hga (by simp)
 clear hga hcv c0
 generalize w4.alloc (.cells #[.int .u8 1] 5) = w5 at *
 have c0 := c0'
 clear c0'
 go_upto_region 7 with (fail)
 refine wp_region_f 11 (fun b W => b = false → W.cell? ⟨b3, 2, none⟩ = some (.slice (some ⟨z, 0, none⟩) 1 1) ∧ Blk W g 42 (txC (TxV.mk 1 chain nonce tip price gas dst value data acc auths y r s source frm mint system) (.slice pa na xa) (.slice pb nb xb))) (by kernel_rfl) ?_
 replace K0 := K0.kept (only_drew (World.grownBy.refl w5 none))
 replace HBS : Blk w5.drew g 42 (txC (TxV.mk 1 chain nonce tip price gas dst value data acc auths y r s source frm mint system) (.slice pa na xa) (.slice pb nb xb)) := HBS
 (try clear c0)
 generalize w5.drew = u0 at *
 have hS0 : false = false → u0.cell? ⟨b3, 2, none⟩ = some (.slice (some ⟨z, 0, none⟩) 1 1) ∧ Blk u0 g 42 (txC (TxV.mk 1 chain nonce tip price gas dst value data acc auths y r s source frm mint system) (.slice pa na xa) (.slice pb nb xb)) := fun _ => ⟨K0.blk.cell 2, HBS⟩
 refine f_take (i := 0) (v := .pointer (some ⟨b3, 2, none⟩)) (some 31) rfl (by kernel_rfl) (by kernel_rfl) (by kernel_rfl) (by kernel_rfl) (by kernel_rfl) (by kernel_rfl) (fun _ _ _ h => h) rfl (Or.inl ⟨by rfl, fun W hW => by go_simp⟩) hS0 ?_
 simp only [Act.put, jb, jz, js]
 refine f_take (i := 1) (v := .slice (some ⟨z, 0, none⟩) 1 1) (some 32) rfl (by kernel_rfl) (by kernel_rfl) (by kernel_rfl) (by kernel_rfl) (by kernel_rfl) (by kernel_rfl) (fun _ _ _ h => h) rfl (Or.inl ⟨by rfl, fun W hW => exec_loadC 104 (.tmp 31) rfl _ rfl _ _ Tryz.underlying104 rfl (hW rfl).1⟩) hS0 ?_
 simp only [Act.put, jb, jz, js]
 refine f_take (i := 2) (v := .pointer (some ⟨g, 7, none⟩)) (some 33) rfl (by kernel_rfl) (by kernel_rfl) (by kernel_rfl) (by kernel_rfl) (by kernel_rfl) (by kernel_rfl) (fun _ _ _ h => h) rfl (Or.inl ⟨by rfl, fun W hW => by go_simp⟩) hS0 ?_
 simp only [Act.put, jb, jz, js]
 refine f_take (i := 3) (v := .agg #[.int .u64 (wp price 0 : Nat), .int .u64 (wp price 1 : Nat), .int .u64 (wp price 2 : Nat), .int .u64 (wp price 3 : Nat)]) (some 34) rfl (by kernel_rfl) (by kernel_rfl) (by kernel_rfl) (by kernel_rfl) (by kernel_rfl) (by kernel_rfl) (fun _ _ _ h => h) rfl (Or.inl ⟨by rfl, fun W hW => exec_loadW _ rfl rfl (((hW rfl).2.cell 7).trans rfl) (((hW rfl).2.cell 8).trans rfl) (((hW rfl).2.cell 9).trans rfl) (((hW rfl).2.cell 10).trans rfl)⟩) hS0 ?_
 simp only [Act.put, jb, jz, js]
 refine f_take (i := 5) (v := .pointer (some ⟨g, 17, none⟩)) (some 36) rfl (by kernel_rfl) (by kernel_rfl) (by kernel_rfl) (by kernel_rfl) (by kernel_rfl) (by kernel_rfl) (fun _ _ _ h => h) rfl (Or.inl ⟨by rfl, fun W hW => by go_simp⟩) hS0 ?_
 simp only [Act.put, jb, jz, js]
 refine f_take (i := 6) (v := .string data) (some 37) rfl (by kernel_rfl) (by kernel_rfl) (by kernel_rfl) (by kernel_rfl) (by kernel_rfl) (by kernel_rfl) (fun _ _ _ h => h) rfl (Or.inl ⟨by rfl, fun W hW => exec_loadC 9 (.tmp 36) rfl _ rfl _ _ Tryz.underlying9 rfl (((hW rfl).2.cell 17).trans rfl)⟩) hS0 ?_
 simp only [Act.put, jb, jz, js]
 clear hS0
 refine f_one (i := 4) (by kernel_rfl) ?_
 refine f_enter (some 35) rfl rfl 73 #[.agg #[.int .u64 (wp price 0 : Nat), .int .u64 (wp price 1 : Nat), .int .u64 (wp price 2 : Nat), .int .u64 (wp price 3 : Nat)]] (exec_call1 _ (.tmp 34) _ rfl _ rfl (enters_of Tryz.func73 (by kernel_rfl) rfl _ _)) rfl false (by kernel_rfl) ((wordOf_any price HPR.out u0).mono ?_)
 rintro e u1 ⟨rfl, hg⟩
 replace K0 := K0.kept hg
 replace HBS := HBS.grown hg (by simp)
 clear hg
 refine ⟨_, rfl, (fun _ => ⟨K0.blk.cell 2, HBS⟩), ?_⟩
 simp only [Act.put, jb, jz, js]
 refine f_one (i := 7) (by kernel_rfl) ?_
 refine f_enter (some 38) rfl rfl 74 #[.string data] (exec_call1 _ (.tmp 37) _ rfl _ rfl (enters_of Tryz.func74 (by kernel_rfl) rfl _ _)) rfl false (by kernel_rfl) ((text_any data u1).mono ?_)
 rintro e u2 ⟨rfl, hg⟩
 replace K0 := K0.kept hg
 replace HBS := HBS.grown hg (by simp)
 clear hg
 refine ⟨_, rfl, (fun _ => ⟨K0.blk.cell 2, HBS⟩), ?_⟩
 simp only [Act.put, jb, jz, js]
 refine f_one (i := 8) (by kernel_rfl) ?_
 have hga := only_alloc (World.grownBy.refl u2 none) (.cells #[.bool false, .string (nB price), .slice none 0 0, .bool false, .string data, .slice none 0 0] 106)
 replace K0 := K0.kept hga
 replace HBS := HBS.grown hga (by simp)
 refine f_value (some 39) rfl rfl (.slice (some ⟨u2.heap.size, 0, none⟩) 2 2) (w' := u2.alloc (.cells #[.bool false, .string (nB price), .slice none 0 0, .bool false, .string data, .slice none 0 0] 106)) (by go_simp <;> rfl) rfl false (by kernel_rfl) (fun _ => ⟨K0.blk.cell 2, HBS⟩) ?_
 simp only [Act.put, jb, jz, js]
 obtain ⟨i0, hi, hz0, hzs, hzb⟩ := info_parts item_info
 obtain ⟨v', v2, hrun, hown', hgrow, hiff, hob⟩ := run_append_own_at (P := Tryz.prog) (u2.alloc (.cells #[.bool false, .string (nB price), .slice none 0 0, .bool false, .string data, .slice none 0 0] 106)) z 104 104 106 i0 _ 3 48 Tryz.underlying104 hi hz0 hzs hzb rfl (by decide) (.slice (some ⟨z, 0, none⟩) 1 1) 1 (itemsV [txt (nB value)] [.slice none 0 0]) K0.own ⟨u2.heap.size, 0, none⟩ 2 2 [.bool false, .string (nB price), .slice none 0 0, .bool false, .string data, .slice none 0 0] rfl (cells_new _ [.bool false, .string (nB price), .slice none 0 0, .bool false, .string data, .slice none 0 0] _) (by simp [Value.oneCell']) (by simp only [maxLen]; omega) (by omega) K0.size
 obtain ⟨g5, cap5, rfl⟩ := ownsRow_succ (k := 2) hown'
 have hnn : (Value.slice (some ⟨u2.heap.size, 0, none⟩) 2 2 : Value) = .slice (some ⟨u2.heap.size, 0, none⟩) 2 2 := rfl
 have K1 := K0.put (m := 2) [txt (nB price), txt data] [.slice none 0 0, .slice none 0 0] rfl rfl (fun i hi => by
  match i, hi with
  | 0, _ => exact subNil _ _
  | 1, _ => exact subNil _ _) hown' hgrow hob
 have hb8 := HBS.grown hgrow (fun e => by have := ownBlock_ge K0.own e.symm; have := HGZ.out; omega)
 have hbb := K0.blk.grown hgrow (fun e => K0.ne e.symm)
 refine f_one (i := 9) (by kernel_rfl) ?_
 refine f_value (some 40) rfl rfl (.slice (some ⟨g5, 0, none⟩) 3 cap5) (exec_append (.tmp 32) (.tmp 39) 104 rfl _ _ _ rfl rfl hrun) rfl false (by kernel_rfl) (fun _ => ⟨hbb.cell 2, hb8⟩) ?_
 simp only [Act.put, jb, jz, js]
 refine f_one (i := 10) (by kernel_rfl) ?_
 refine f_value (some 41) rfl rfl (.pointer (some ⟨b3, 2, none⟩)) (by go_simp <;> rfl) rfl false (by kernel_rfl) (fun _ => ⟨hbb.cell 2, hb8⟩) ?_
 simp only [Act.put, jb, jz, js]
 refine f_one (i := 11) (by kernel_rfl) ?_
 refine f_skip rfl rfl rfl (exec_store1 (.tmp 41) (.tmp 40) rfl rfl rfl hbb (by simp)) true (by kernel_rfl) (fun e => by cases e) ?_
 (try simp only [Act.put, jb, jz, js])
 refine f_done (by kernel_rfl) ?_ _
 replace K0 : RdJ w z b3 (.slice (some ⟨g5, 0, none⟩) 3 cap5) 3 [txt (nB value), txt (nB price), txt data] [.slice none 0 0, .slice none 0 0, .slice none 0 0] (v2.setCell ⟨b3, 2, none⟩ (.slice (some ⟨g5, 0, none⟩) 3 cap5)) := K1
 replace HBS : Blk (v2.setCell ⟨b3, 2, none⟩ (.slice (some ⟨g5, 0, none⟩) 3 cap5)) g 42 (txC (TxV.mk 1 chain nonce tip price gas dst value data acc auths y r s source frm mint system) (.slice pa na xa) (.slice pb nb xb)) := blk_setO hb8 (by have := HGZ.out; have := HZB.out; omega) 2 _
 clear hrun hown' hgrow hob hiff K1 hb8 hbb hga hnn 
 generalize v2.setCell ⟨b3, 2, none⟩ (.slice (some ⟨g5, 0, none⟩) 3 cap5) = y5 at *
 have c0 : y5.cell? ⟨g, 0, none⟩ = some (.int .i64 1) := (HBS.cell 0).trans rfl
 go_upto_region 9 with (fail)
 refine wp_region_f 8 (fun b W => b = false → W.cell? ⟨b3, 2, none⟩ = some (.slice (some ⟨g5, 0, none⟩) 3 cap5) ∧ Blk W g 42 (txC (TxV.mk 1 chain nonce tip price gas dst value data acc auths y r s source frm mint system) (.slice pa na xa) (.slice pb nb xb))) (by kernel_rfl) ?_
 replace K0 := K0.kept (only_drew (World.grownBy.refl y5 none))
 replace HBS : Blk y5.drew g 42 (txC (TxV.mk 1 chain nonce tip price gas dst value data acc auths y r s source frm mint system) (.slice pa na xa) (.slice pb nb xb)) := HBS
 (try clear c0)
 generalize y5.drew = u0 at *
 have hS0 : false = false → u0.cell? ⟨b3, 2, none⟩ = some (.slice (some ⟨g5, 0, none⟩) 3 cap5) ∧ Blk u0 g 42 (txC (TxV.mk 1 chain nonce tip price gas dst value data acc auths y r s source frm mint system) (.slice pa na xa) (.slice pb nb xb)) := fun _ => ⟨K0.blk.cell 2, HBS⟩
 refine f_take (i := 0) (v := .pointer (some ⟨b3, 2, none⟩)) (some 45) rfl (by kernel_rfl) (by kernel_rfl) (by kernel_rfl) (by kernel_rfl) (by kernel_rfl) (by kernel_rfl) (fun _ _ _ h => h) rfl (Or.inl ⟨by rfl, fun W hW => by go_simp⟩) hS0 ?_
 simp only [Act.put, jb, jz, js]
 refine f_take (i := 1) (v := .slice (some ⟨g5, 0, none⟩) 3 cap5) (some 46) rfl (by kernel_rfl) (by kernel_rfl) (by kernel_rfl) (by kernel_rfl) (by kernel_rfl) (by kernel_rfl) (fun _ _ _ h => h) rfl (Or.inl ⟨by rfl, fun W hW => exec_loadC 104 (.tmp 45) rfl _ rfl _ _ Tryz.underlying104 rfl (hW rfl).1⟩) hS0 ?_
 simp only [Act.put, jb, jz, js]
 refine f_take (i := 2) (v := .pointer (some ⟨g, 18, none⟩)) (some 47) rfl (by kernel_rfl) (by kernel_rfl) (by kernel_rfl) (by kernel_rfl) (by kernel_rfl) (by kernel_rfl) (fun _ _ _ h => h) rfl (Or.inl ⟨by rfl, fun W hW => by go_simp⟩) hS0 ?_
 simp only [Act.put, jb, jz, js]
 refine f_take (i := 3) (v := .slice pa na xa) (some 48) rfl (by kernel_rfl) (by kernel_rfl) (by kernel_rfl) (by kernel_rfl) (by kernel_rfl) (by kernel_rfl) (fun _ _ _ h => h) rfl (Or.inl ⟨by rfl, fun W hW => exec_loadC 39 (.tmp 47) rfl _ rfl _ _ Tryz.underlying39 rfl (((hW rfl).2.cell 18).trans rfl)⟩) hS0 ?_
 simp only [Act.put, jb, jz, js]
 clear hS0
 refine f_one (i := 4) (by kernel_rfl) ?_
 refine f_enter (some 49) rfl rfl 75 #[.slice pa na xa] (exec_call1 _ (.tmp 48) _ rfl _ rfl (enters_of Tryz.func75 (by kernel_rfl) rfl _ _)) rfl false (by kernel_rfl) ((accessI_any B pa na xa acc u0 (HAC.out.grown K0.grown HBB.out) (Nat.le_trans HBB.out K0.grown.size) (by have := HNA.out; omega) HKE.out).mono ?_)
 rintro e u1 ⟨A', c', rfl, hsub, hg⟩
 have hx0 : SubV (fun g => z ≤ g ∧ g ≠ b3 ∧ (.slice (some ⟨g5, 0, none⟩) 3 cap5 : Value).ownBlock ≠ some g) u1 (acc.map pairI) (.slice A' na c') := hsub.weak (fun g (h : u0.heap.size ≤ g) => ⟨Nat.le_trans K0.size h, fun e => by have := K0.blk.lt; omega, fun e => by have := own_ltB K0.own e; omega⟩)
 clear hsub
 replace K0 := K0.kept hg
 replace HBS := HBS.grown hg (by simp)
 clear hg
 refine ⟨_, rfl, (fun _ => ⟨K0.blk.cell 2, HBS⟩), ?_⟩
 simp only [Act.put, jb, jz, js]
 refine f_one (i := 5) (by kernel_rfl) ?_
 have hga := only_alloc (World.grownBy.refl u1 none) (.cells #[.bool true, .string ⟨#[]⟩, .slice A' na c'] 106)
 replace K0 := K0.kept hga
 replace HBS := HBS.grown hga (by simp)
 replace hx0 := SubV.grown hx0 hga
 refine f_value (some 50) rfl rfl (.slice (some ⟨u1.heap.size, 0, none⟩) 1 1) (w' := u1.alloc (.cells #[.bool true, .string ⟨#[]⟩, .slice A' na c'] 106)) (by go_simp <;> rfl) rfl false (by kernel_rfl) (fun _ => ⟨K0.blk.cell 2, HBS⟩) ?_
 simp only [Act.put, jb, jz, js]
 obtain ⟨i0, hi, hz0, hzs, hzb⟩ := info_parts item_info
 obtain ⟨v', v2, hrun, hown', hgrow, hiff, hob⟩ := run_append_own_at (P := Tryz.prog) (u1.alloc (.cells #[.bool true, .string ⟨#[]⟩, .slice A' na c'] 106)) z 104 104 106 i0 _ 3 48 Tryz.underlying104 hi hz0 hzs hzb rfl (by decide) (.slice (some ⟨g5, 0, none⟩) 3 cap5) 3 (itemsV [txt (nB value), txt (nB price), txt data] [.slice none 0 0, .slice none 0 0, .slice none 0 0]) K0.own ⟨u1.heap.size, 0, none⟩ 1 1 [.bool true, .string ⟨#[]⟩, .slice A' na c'] rfl (cells_new _ [.bool true, .string ⟨#[]⟩, .slice A' na c'] _) (by simp [Value.oneCell']) (by simp only [maxLen]; omega) (by omega) K0.size
 obtain ⟨g6, cap6, rfl⟩ := ownsRow_succ (k := 3) hown'
 have hnn : (Value.slice (some ⟨u1.heap.size, 0, none⟩) 1 1 : Value) = .slice (some ⟨u1.heap.size, 0, none⟩) 1 1 := rfl
 have K1 := K0.put (m := 1) [accI acc] [.slice A' na c'] rfl rfl (fun i hi => by
  match i, hi with
  | 0, _ => exact hx0) hown' hgrow hob
 have hb8 := HBS.grown hgrow (fun e => by have := ownBlock_ge K0.own e.symm; have := HGZ.out; omega)
 have hbb := K0.blk.grown hgrow (fun e => K0.ne e.symm)
 refine f_one (i := 6) (by kernel_rfl) ?_
 refine f_value (some 51) rfl rfl (.slice (some ⟨g6, 0, none⟩) 4 cap6) (exec_append (.tmp 46) (.tmp 50) 104 rfl _ _ _ rfl rfl hrun) rfl false (by kernel_rfl) (fun _ => ⟨hbb.cell 2, hb8⟩) ?_
 simp only [Act.put, jb, jz, js]
 refine f_one (i := 7) (by kernel_rfl) ?_
 refine f_value (some 52) rfl rfl (.pointer (some ⟨b3, 2, none⟩)) (by go_simp <;> rfl) rfl false (by kernel_rfl) (fun _ => ⟨hbb.cell 2, hb8⟩) ?_
 simp only [Act.put, jb, jz, js]
 refine f_one (i := 8) (by kernel_rfl) ?_
 refine f_skip rfl rfl rfl (exec_store1 (.tmp 52) (.tmp 51) rfl rfl rfl hbb (by simp)) true (by kernel_rfl) (fun e => by cases e) ?_
 (try simp only [Act.put, jb, jz, js])
 refine f_done (by kernel_rfl) ?_ _
 replace K0 : RdJ w z b3 (.slice (some ⟨g6, 0, none⟩) 4 cap6) 4 [txt (nB value), txt (nB price), txt data, accI acc] [.slice none 0 0, .slice none 0 0, .slice none 0 0, .slice A' na c'] (v2.setCell ⟨b3, 2, none⟩ (.slice (some ⟨g6, 0, none⟩) 4 cap6)) := K1
 replace HBS : Blk (v2.setCell ⟨b3, 2, none⟩ (.slice (some ⟨g6, 0, none⟩) 4 cap6)) g 42 (txC (TxV.mk 1 chain nonce tip price gas dst value data acc auths y r s source frm mint system) (.slice pa na xa) (.slice pb nb xb)) := blk_setO hb8 (by have := HGZ.out; have := HZB.out; omega) 2 _
 clear hrun hown' hgrow hob hiff K1 hb8 hbb hga hnn hx0
 generalize v2.setCell ⟨b3, 2, none⟩ (.slice (some ⟨g6, 0, none⟩) 4 cap6) = y6 at *
 have hI : restI (TxV.mk 1 chain nonce tip price gas dst value data acc auths y r s source frm mint system) = .mk true ⟨#[]⟩ [txt (nB value), txt (nB price), txt data, accI acc] := rfl
 rw [hI] at HENC
 have hsub := K0.row.here
 have e0 := K0.blk.cell 0; have e1 := K0.blk.cell 1; have e2 := K0.blk.cell 2
 simp only [List.getElem?_toArray, List.getElem?_cons_zero, List.getElem?_cons_succ] at e0 e1 e2
 have HGG := Lib.hid K0.grown
 clear hI HBS
 clear K0
 go_wp2_with fail
 refine (HENC.out y6 _ hsub).mono ?_
 rintro e w9 ⟨rfl, hg9⟩
 have HG := Lib.hid (grown_self HGG.out hg9 (by simp))
 have hl := HLEN.out
 have hsum : 1 + L.length ≤ 9223372036854775807 := by omega
 clear e0 e1 e2 hg9 hsub HENC hl
 (try clear c0)
 go_wp2_with fail
 go_ret
 refine ⟨?_, HG.out⟩
 first | rfl | (rw [← ba_cat]; rfl)
theorem rest2_any (chain nonce tip price gas : Nat) (dst : ByteArray) (value : Nat) (data : ByteArray) (acc : List AccV) (auths : List AutV) (y r s : Nat) (source frm : ByteArray) (mint : Nat) (system : Bool) (B : Nat) (pa : Option Addr) (na xa : Nat) (pb : Option Addr) (nb xb : Nat) (w : World) (hac : AccR B w acc pa na) (hB : B ≤ w.heap.size) (hna : na ≤ 16) (hke : ∀ a ∈ acc, a.keys.length ≤ 1000)
  (hva : value < 115792089237316195423570985008687907853269984665640564039457584007913129639936) (hti : tip < 115792089237316195423570985008687907853269984665640564039457584007913129639936) (hpr : price < 115792089237316195423570985008687907853269984665640564039457584007913129639936)
  (hwt : wtF (restI (TxV.mk 2 chain nonce tip price gas dst value data acc auths y r s source frm mint system)) ≤ 1000000000) (hlen : (encB (restI (TxV.mk 2 chain nonce tip price gas dst value data acc auths y r s source frm mint system))).length ≤ 1000000000) :
  Calls Tryz.prog 40 #[.agg (txC (TxV.mk 2 chain nonce tip price gas dst value data acc auths y r s source frm mint system) (.slice pa na xa) (.slice pb nb xb))] w fun e w' => e = .returned (.string ⟨(restBy (TxV.mk 2 chain nonce tip price gas dst value data acc auths y r s source frm mint system)).toArray⟩) ∧ w.grownBy w' none := by
 have hla := hac.1
 have hb := Blk.new w 42 (txC (TxV.mk 2 chain nonce tip price gas dst value data acc auths y r s source frm mint system) (.slice pa na xa) (.slice pb nb xb))
 have hG := only_alloc (World.grownBy.refl w none) (.cells (txC (TxV.mk 2 chain nonce tip price gas dst value data acc auths y r s source frm mint system) (.slice pa na xa) (.slice pb nb xb)) 42)
 have HENC := Lib.hid (fun V sx h => encodeP_any (restI (TxV.mk 2 chain nonce tip price gas dst value data acc auths y r s source frm mint system)) V sx h hwt)
 obtain ⟨L, hL⟩ : ∃ L, encB (restI (TxV.mk 2 chain nonce tip price gas dst value data acc auths y r s source frm mint system)) = L := ⟨_, rfl⟩
 obtain ⟨E, hE⟩ : ∃ L, checkI (restI (TxV.mk 2 chain nonce tip price gas dst value data acc auths y r s source frm mint system)) = L := ⟨_, rfl⟩
 have hR : restBy (TxV.mk 2 chain nonce tip price gas dst value data acc auths y r s source frm mint system) = [2] ++ L := by rw [← hL]; rfl
 rw [hL] at HENC hlen
 rw [hE] at HENC
 rw [hR]
 have HAC := Lib.hid hac; have HBB := Lib.hid hB; have HNA := Lib.hid hna; have HKE := Lib.hid hke; have HVA := Lib.hid hva; have HTI := Lib.hid hti; have HPR := Lib.hid hpr; have HLEN := Lib.hid hlen; have HLA := Lib.hid hla
 clear hac hB hna hke hva hti hpr hlen hwt hL hE hR hla
 go_enter Tryz.func40, Tryz.ntmps40
 go_upto_region 1 with (fail)
 obtain ⟨g, hg⟩ : ∃ g, w.heap.size = g := ⟨_, rfl⟩
 have HW := Lib.hid hg
 rw [hg] at hb ⊢
 clear hg
 generalize w.alloc (.cells (txC (TxV.mk 2 chain nonce tip price gas dst value data acc auths y r s source frm mint system) (.slice pa na xa) (.slice pb nb xb)) 42) = w1 at *
 refine wp_region_list ?_
 refine wpList_value rfl (.pointer (some ⟨g, 13, none⟩)) (by go_simp <;> rfl) ?_
 simp only [Act.put, jb, jz, js]
 refine wpList_value rfl (.agg #[.int .u64 (wp value 0 : Nat), .int .u64 (wp value 1 : Nat), .int .u64 (wp value 2 : Nat), .int .u64 (wp value 3 : Nat)]) (exec_loadW _ rfl rfl ((hb.cell 13).trans rfl) ((hb.cell 14).trans rfl) ((hb.cell 15).trans rfl) ((hb.cell 16).trans rfl)) ?_
 simp only [Act.put, jb, jz, js]
 go_wp2_with fail
 refine (wordOf_any value HVA.out _).mono ?_
 rintro e w2 ⟨rfl, hg2⟩
 have hb2 := hb.grown hg2 (by simp)
 have hG2 := grown_self hG hg2 (by simp)
 clear hb hG hg2
 go_wp2_with fail
 refine (list_any _ ⟨_, _, _, rfl⟩ _).mono ?_
 rintro e w3 ⟨rfl, hg3⟩
 obtain ⟨z, hz⟩ : ∃ z, w2.heap.size = z := ⟨_, rfl⟩
 have hzb := Blk.new w2 106 #[.bool false, .string (nB value), .slice none 0 0]
 have hzz : (w2.alloc (.cells #[.bool false, .string (nB value), .slice none 0 0] 106)).heap.size = z + 1 := by simp [hz]
 have hG3 := only_alloc hG2 (.cells #[.bool false, .string (nB value), .slice none 0 0] 106)
 have hb3' := hb2.alloc (.cells #[.bool false, .string (nB value), .slice none 0 0] 106)
 have hgz : g < z := by have := hb2.lt; omega
 have hwz : w.heap.size ≤ z := by have := hG2.size; omega
 rw [hz] at hzb ⊢
 clear hz hG2 hb2
 generalize w2.alloc (.cells #[.bool false, .string (nB value), .slice none 0 0] 106) = w2' at *
 have hz3 := hg3.size
 obtain ⟨b3, hb3⟩ : ∃ b, w3.heap.size = b := ⟨_, rfl⟩
 have hzlt : z < b3 := by omega
 have hbn := Blk.new w3 106 #[.bool true, .string ⟨#[]⟩, .slice (some ⟨z, 0, none⟩) 1 1]
 rw [hb3] at hbn
 have hga := only_alloc (World.grownBy.refl w3 none) (.cells #[.bool true, .string ⟨#[]⟩, .slice (some ⟨z, 0, none⟩) 1 1] 106)
 have hzb4 : Blk (w3.alloc (.cells #[.bool true, .string ⟨#[]⟩, .slice (some ⟨z, 0, none⟩) 1 1] 106)) z 106 #[.bool false, .string (nB value), .slice none 0 0] := (hzb.grown hg3 (by simp)).grown hga (by simp)
 have hG4 := grown_self (grown_self hG3 hg3 (by simp)) hga (by simp)
 have K0 : RdJ w z b3 (.slice (some ⟨z, 0, none⟩) 1 1) 1 [txt (nB value)] [.slice none 0 0] (w3.alloc (.cells #[.bool true, .string ⟨#[]⟩, .slice (some ⟨z, 0, none⟩) 1 1] 106)) := by
  refine ⟨hbn, ⟨rfl, .inr ⟨z, 1, #[.bool false, .string (nB value), .slice none 0 0], rfl, Nat.le_refl _, hzb4, Nat.le_refl _, by simp [maxLen], rfl, rfl⟩⟩, ?_, hG4, hwz, by omega, by have := hzb4.lt; omega, rfl, rfl, fun i hi => ?_⟩
  ·simp only [Value.ownBlock, ne_eq, Option.some.injEq]; omega
  ·match i, hi with
   | 0, _ => exact subNil _ _
 have HBS : Blk (w3.alloc (.cells #[.bool true, .string ⟨#[]⟩, .slice (some ⟨z, 0, none⟩) 1 1] 106)) g 42 (txC (TxV.mk 2 chain nonce tip price gas dst value data acc auths y r s source frm mint system) (.slice pa na xa) (.slice pb nb xb)) := (hb3'.grown hg3 (by simp)).grown hga (by simp)
 have HGZ := Lib.hid hgz; have HZB := Lib.hid hzlt
 clear hzb hzz hG3 hb3' hgz hwz hz3 hzlt hbn hga hzb4 hG4 hg3
 go_upto_region 2 with (fail)
 clear hb3
 generalize w3.alloc (.cells #[.bool true, .string ⟨#[]⟩, .slice (some ⟨z, 0, none⟩) 1 1] 106) = w4 at *
 have c0 : w4.cell? ⟨g, 0, none⟩ = some (.int .i64 2) := (HBS.cell 0).trans rfl
 have hcv : (convert 43 9 (.slice (some ⟨w4.heap.size, 0, none⟩) 1 1)).run Tryz.prog (w4.alloc (.cells #[.int .u8 2] 5)) = .ok (.string ⟨#[2]⟩) (w4.alloc (.cells #[.int .u8 2] 5)) := conv_own (own_new1 w4 2)
 have hga := only_alloc (World.grownBy.refl w4 none) (.cells #[.int .u8 2] 5)
 have c0' := hga.cell c0 (by simp)
 go_upto_region 5 with (fail)
 replace K0 := K0.kept hga
 replace HBS := HBS.grown hga (by simp)
 clear hga hcv c0
 generalize w4.alloc (.cells #[.int .u8 2] 5) = w5 at *
 have c0 := c0'
 clear c0'
 go_upto_region 6 with (fail)
 refine wp_region_f 8 (fun b W => b = false → W.cell? ⟨b3, 2, none⟩ = some (.slice (some ⟨z, 0, none⟩) 1 1) ∧ Blk W g 42 (txC (TxV.mk 2 chain nonce tip price gas dst value data acc auths y r s source frm mint system) (.slice pa na xa) (.slice pb nb xb))) (by kernel_rfl) ?_
 replace K0 := K0.kept (only_drew (World.grownBy.refl w5 none))
 replace HBS : Blk w5.drew g 42 (txC (TxV.mk 2 chain nonce tip price gas dst value data acc auths y r s source frm mint system) (.slice pa na xa) (.slice pb nb xb)) := HBS
 (try clear c0)
 generalize w5.drew = u0 at *
 have hS0 : false = false → u0.cell? ⟨b3, 2, none⟩ = some (.slice (some ⟨z, 0, none⟩) 1 1) ∧ Blk u0 g 42 (txC (TxV.mk 2 chain nonce tip price gas dst value data acc auths y r s source frm mint system) (.slice pa na xa) (.slice pb nb xb)) := fun _ => ⟨K0.blk.cell 2, HBS⟩
 refine f_take (i := 0) (v := .pointer (some ⟨b3, 2, none⟩)) (some 23) rfl (by kernel_rfl) (by kernel_rfl) (by kernel_rfl) (by kernel_rfl) (by kernel_rfl) (by kernel_rfl) (fun _ _ _ h => h) rfl (Or.inl ⟨by rfl, fun W hW => by go_simp⟩) hS0 ?_
 simp only [Act.put, jb, jz, js]
 refine f_take (i := 1) (v := .slice (some ⟨z, 0, none⟩) 1 1) (some 24) rfl (by kernel_rfl) (by kernel_rfl) (by kernel_rfl) (by kernel_rfl) (by kernel_rfl) (by kernel_rfl) (fun _ _ _ h => h) rfl (Or.inl ⟨by rfl, fun W hW => exec_loadC 104 (.tmp 23) rfl _ rfl _ _ Tryz.underlying104 rfl (hW rfl).1⟩) hS0 ?_
 simp only [Act.put, jb, jz, js]
 refine f_take (i := 2) (v := .pointer (some ⟨g, 3, none⟩)) (some 25) rfl (by kernel_rfl) (by kernel_rfl) (by kernel_rfl) (by kernel_rfl) (by kernel_rfl) (by kernel_rfl) (fun _ _ _ h => h) rfl (Or.inl ⟨by rfl, fun W hW => by go_simp⟩) hS0 ?_
 simp only [Act.put, jb, jz, js]
 refine f_take (i := 3) (v := .agg #[.int .u64 (wp tip 0 : Nat), .int .u64 (wp tip 1 : Nat), .int .u64 (wp tip 2 : Nat), .int .u64 (wp tip 3 : Nat)]) (some 26) rfl (by kernel_rfl) (by kernel_rfl) (by kernel_rfl) (by kernel_rfl) (by kernel_rfl) (by kernel_rfl) (fun _ _ _ h => h) rfl (Or.inl ⟨by rfl, fun W hW => exec_loadW _ rfl rfl (((hW rfl).2.cell 3).trans rfl) (((hW rfl).2.cell 4).trans rfl) (((hW rfl).2.cell 5).trans rfl) (((hW rfl).2.cell 6).trans rfl)⟩) hS0 ?_
 simp only [Act.put, jb, jz, js]
 clear hS0
 refine f_one (i := 4) (by kernel_rfl) ?_
 refine f_enter (some 27) rfl rfl 73 #[.agg #[.int .u64 (wp tip 0 : Nat), .int .u64 (wp tip 1 : Nat), .int .u64 (wp tip 2 : Nat), .int .u64 (wp tip 3 : Nat)]] (exec_call1 _ (.tmp 26) _ rfl _ rfl (enters_of Tryz.func73 (by kernel_rfl) rfl _ _)) rfl false (by kernel_rfl) ((wordOf_any tip HTI.out u0).mono ?_)
 rintro e u1 ⟨rfl, hg⟩
 replace K0 := K0.kept hg
 replace HBS := HBS.grown hg (by simp)
 clear hg
 refine ⟨_, rfl, (fun _ => ⟨K0.blk.cell 2, HBS⟩), ?_⟩
 simp only [Act.put, jb, jz, js]
 refine f_one (i := 5) (by kernel_rfl) ?_
 have hga := only_alloc (World.grownBy.refl u1 none) (.cells #[.bool false, .string (nB tip), .slice none 0 0] 106)
 replace K0 := K0.kept hga
 replace HBS := HBS.grown hga (by simp)
 refine f_value (some 28) rfl rfl (.slice (some ⟨u1.heap.size, 0, none⟩) 1 1) (w' := u1.alloc (.cells #[.bool false, .string (nB tip), .slice none 0 0] 106)) (by go_simp <;> rfl) rfl false (by kernel_rfl) (fun _ => ⟨K0.blk.cell 2, HBS⟩) ?_
 simp only [Act.put, jb, jz, js]
 obtain ⟨i0, hi, hz0, hzs, hzb⟩ := info_parts item_info
 obtain ⟨v', v2, hrun, hown', hgrow, hiff, hob⟩ := run_append_own_at (P := Tryz.prog) (u1.alloc (.cells #[.bool false, .string (nB tip), .slice none 0 0] 106)) z 104 104 106 i0 _ 3 48 Tryz.underlying104 hi hz0 hzs hzb rfl (by decide) (.slice (some ⟨z, 0, none⟩) 1 1) 1 (itemsV [txt (nB value)] [.slice none 0 0]) K0.own ⟨u1.heap.size, 0, none⟩ 1 1 [.bool false, .string (nB tip), .slice none 0 0] rfl (cells_new _ [.bool false, .string (nB tip), .slice none 0 0] _) (by simp [Value.oneCell']) (by simp only [maxLen]; omega) (by omega) K0.size
 obtain ⟨g5, cap5, rfl⟩ := ownsRow_succ (k := 1) hown'
 have hnn : (Value.slice (some ⟨u1.heap.size, 0, none⟩) 1 1 : Value) = .slice (some ⟨u1.heap.size, 0, none⟩) 1 1 := rfl
 have K1 := K0.put (m := 1) [txt (nB tip)] [.slice none 0 0] rfl rfl (fun i hi => by
  match i, hi with
  | 0, _ => exact subNil _ _) hown' hgrow hob
 have hb8 := HBS.grown hgrow (fun e => by have := ownBlock_ge K0.own e.symm; have := HGZ.out; omega)
 have hbb := K0.blk.grown hgrow (fun e => K0.ne e.symm)
 refine f_one (i := 6) (by kernel_rfl) ?_
 refine f_value (some 29) rfl rfl (.slice (some ⟨g5, 0, none⟩) 2 cap5) (exec_append (.tmp 24) (.tmp 28) 104 rfl _ _ _ rfl rfl hrun) rfl false (by kernel_rfl) (fun _ => ⟨hbb.cell 2, hb8⟩) ?_
 simp only [Act.put, jb, jz, js]
 refine f_one (i := 7) (by kernel_rfl) ?_
 refine f_value (some 30) rfl rfl (.pointer (some ⟨b3, 2, none⟩)) (by go_simp <;> rfl) rfl false (by kernel_rfl) (fun _ => ⟨hbb.cell 2, hb8⟩) ?_
 simp only [Act.put, jb, jz, js]
 refine f_one (i := 8) (by kernel_rfl) ?_
 refine f_skip rfl rfl rfl (exec_store1 (.tmp 30) (.tmp 29) rfl rfl rfl hbb (by simp)) true (by kernel_rfl) (fun e => by cases e) ?_
 (try simp only [Act.put, jb, jz, js])
 refine f_done (by kernel_rfl) ?_ _
 replace K0 : RdJ w z b3 (.slice (some ⟨g5, 0, none⟩) 2 cap5) 2 [txt (nB value), txt (nB tip)] [.slice none 0 0, .slice none 0 0] (v2.setCell ⟨b3, 2, none⟩ (.slice (some ⟨g5, 0, none⟩) 2 cap5)) := K1
 replace HBS : Blk (v2.setCell ⟨b3, 2, none⟩ (.slice (some ⟨g5, 0, none⟩) 2 cap5)) g 42 (txC (TxV.mk 2 chain nonce tip price gas dst value data acc auths y r s source frm mint system) (.slice pa na xa) (.slice pb nb xb)) := blk_setO hb8 (by have := HGZ.out; have := HZB.out; omega) 2 _
 clear hrun hown' hgrow hob hiff K1 hb8 hbb hga hnn 
 generalize v2.setCell ⟨b3, 2, none⟩ (.slice (some ⟨g5, 0, none⟩) 2 cap5) = y5 at *
 go_upto_region 7 with (fail)
 refine wp_region_f 11 (fun b W => b = false → W.cell? ⟨b3, 2, none⟩ = some (.slice (some ⟨g5, 0, none⟩) 2 cap5) ∧ Blk W g 42 (txC (TxV.mk 2 chain nonce tip price gas dst value data acc auths y r s source frm mint system) (.slice pa na xa) (.slice pb nb xb))) (by kernel_rfl) ?_
 replace K0 := K0.kept (only_drew (World.grownBy.refl y5 none))
 replace HBS : Blk y5.drew g 42 (txC (TxV.mk 2 chain nonce tip price gas dst value data acc auths y r s source frm mint system) (.slice pa na xa) (.slice pb nb xb)) := HBS
 (try clear c0)
 generalize y5.drew = u0 at *
 have hS0 : false = false → u0.cell? ⟨b3, 2, none⟩ = some (.slice (some ⟨g5, 0, none⟩) 2 cap5) ∧ Blk u0 g 42 (txC (TxV.mk 2 chain nonce tip price gas dst value data acc auths y r s source frm mint system) (.slice pa na xa) (.slice pb nb xb)) := fun _ => ⟨K0.blk.cell 2, HBS⟩
 refine f_take (i := 0) (v := .pointer (some ⟨b3, 2, none⟩)) (some 31) rfl (by kernel_rfl) (by kernel_rfl) (by kernel_rfl) (by kernel_rfl) (by kernel_rfl) (by kernel_rfl) (fun _ _ _ h => h) rfl (Or.inl ⟨by rfl, fun W hW => by go_simp⟩) hS0 ?_
 simp only [Act.put, jb, jz, js]
 refine f_take (i := 1) (v := .slice (some ⟨g5, 0, none⟩) 2 cap5) (some 32) rfl (by kernel_rfl) (by kernel_rfl) (by kernel_rfl) (by kernel_rfl) (by kernel_rfl) (by kernel_rfl) (fun _ _ _ h => h) rfl (Or.inl ⟨by rfl, fun W hW => exec_loadC 104 (.tmp 31) rfl _ rfl _ _ Tryz.underlying104 rfl (hW rfl).1⟩) hS0 ?_
 simp only [Act.put, jb, jz, js]
 refine f_take (i := 2) (v := .pointer (some ⟨g, 7, none⟩)) (some 33) rfl (by kernel_rfl) (by kernel_rfl) (by kernel_rfl) (by kernel_rfl) (by kernel_rfl) (by kernel_rfl) (fun _ _ _ h => h) rfl (Or.inl ⟨by rfl, fun W hW => by go_simp⟩) hS0 ?_
 simp only [Act.put, jb, jz, js]
 refine f_take (i := 3) (v := .agg #[.int .u64 (wp price 0 : Nat), .int .u64 (wp price 1 : Nat), .int .u64 (wp price 2 : Nat), .int .u64 (wp price 3 : Nat)]) (some 34) rfl (by kernel_rfl) (by kernel_rfl) (by kernel_rfl) (by kernel_rfl) (by kernel_rfl) (by kernel_rfl) (fun _ _ _ h => h) rfl (Or.inl ⟨by rfl, fun W hW => exec_loadW _ rfl rfl (((hW rfl).2.cell 7).trans rfl) (((hW rfl).2.cell 8).trans rfl) (((hW rfl).2.cell 9).trans rfl) (((hW rfl).2.cell 10).trans rfl)⟩) hS0 ?_
 simp only [Act.put, jb, jz, js]
 refine f_take (i := 5) (v := .pointer (some ⟨g, 17, none⟩)) (some 36) rfl (by kernel_rfl) (by kernel_rfl) (by kernel_rfl) (by kernel_rfl) (by kernel_rfl) (by kernel_rfl) (fun _ _ _ h => h) rfl (Or.inl ⟨by rfl, fun W hW => by go_simp⟩) hS0 ?_
 simp only [Act.put, jb, jz, js]
 refine f_take (i := 6) (v := .string data) (some 37) rfl (by kernel_rfl) (by kernel_rfl) (by kernel_rfl) (by kernel_rfl) (by kernel_rfl) (by kernel_rfl) (fun _ _ _ h => h) rfl (Or.inl ⟨by rfl, fun W hW => exec_loadC 9 (.tmp 36) rfl _ rfl _ _ Tryz.underlying9 rfl (((hW rfl).2.cell 17).trans rfl)⟩) hS0 ?_
 simp only [Act.put, jb, jz, js]
 clear hS0
 refine f_one (i := 4) (by kernel_rfl) ?_
 refine f_enter (some 35) rfl rfl 73 #[.agg #[.int .u64 (wp price 0 : Nat), .int .u64 (wp price 1 : Nat), .int .u64 (wp price 2 : Nat), .int .u64 (wp price 3 : Nat)]] (exec_call1 _ (.tmp 34) _ rfl _ rfl (enters_of Tryz.func73 (by kernel_rfl) rfl _ _)) rfl false (by kernel_rfl) ((wordOf_any price HPR.out u0).mono ?_)
 rintro e u1 ⟨rfl, hg⟩
 replace K0 := K0.kept hg
 replace HBS := HBS.grown hg (by simp)
 clear hg
 refine ⟨_, rfl, (fun _ => ⟨K0.blk.cell 2, HBS⟩), ?_⟩
 simp only [Act.put, jb, jz, js]
 refine f_one (i := 7) (by kernel_rfl) ?_
 refine f_enter (some 38) rfl rfl 74 #[.string data] (exec_call1 _ (.tmp 37) _ rfl _ rfl (enters_of Tryz.func74 (by kernel_rfl) rfl _ _)) rfl false (by kernel_rfl) ((text_any data u1).mono ?_)
 rintro e u2 ⟨rfl, hg⟩
 replace K0 := K0.kept hg
 replace HBS := HBS.grown hg (by simp)
 clear hg
 refine ⟨_, rfl, (fun _ => ⟨K0.blk.cell 2, HBS⟩), ?_⟩
 simp only [Act.put, jb, jz, js]
 refine f_one (i := 8) (by kernel_rfl) ?_
 have hga := only_alloc (World.grownBy.refl u2 none) (.cells #[.bool false, .string (nB price), .slice none 0 0, .bool false, .string data, .slice none 0 0] 106)
 replace K0 := K0.kept hga
 replace HBS := HBS.grown hga (by simp)
 refine f_value (some 39) rfl rfl (.slice (some ⟨u2.heap.size, 0, none⟩) 2 2) (w' := u2.alloc (.cells #[.bool false, .string (nB price), .slice none 0 0, .bool false, .string data, .slice none 0 0] 106)) (by go_simp <;> rfl) rfl false (by kernel_rfl) (fun _ => ⟨K0.blk.cell 2, HBS⟩) ?_
 simp only [Act.put, jb, jz, js]
 obtain ⟨i0, hi, hz0, hzs, hzb⟩ := info_parts item_info
 obtain ⟨v', v2, hrun, hown', hgrow, hiff, hob⟩ := run_append_own_at (P := Tryz.prog) (u2.alloc (.cells #[.bool false, .string (nB price), .slice none 0 0, .bool false, .string data, .slice none 0 0] 106)) z 104 104 106 i0 _ 3 48 Tryz.underlying104 hi hz0 hzs hzb rfl (by decide) (.slice (some ⟨g5, 0, none⟩) 2 cap5) 2 (itemsV [txt (nB value), txt (nB tip)] [.slice none 0 0, .slice none 0 0]) K0.own ⟨u2.heap.size, 0, none⟩ 2 2 [.bool false, .string (nB price), .slice none 0 0, .bool false, .string data, .slice none 0 0] rfl (cells_new _ [.bool false, .string (nB price), .slice none 0 0, .bool false, .string data, .slice none 0 0] _) (by simp [Value.oneCell']) (by simp only [maxLen]; omega) (by omega) K0.size
 obtain ⟨g6, cap6, rfl⟩ := ownsRow_succ (k := 3) hown'
 have hnn : (Value.slice (some ⟨u2.heap.size, 0, none⟩) 2 2 : Value) = .slice (some ⟨u2.heap.size, 0, none⟩) 2 2 := rfl
 have K1 := K0.put (m := 2) [txt (nB price), txt data] [.slice none 0 0, .slice none 0 0] rfl rfl (fun i hi => by
  match i, hi with
  | 0, _ => exact subNil _ _
  | 1, _ => exact subNil _ _) hown' hgrow hob
 have hb8 := HBS.grown hgrow (fun e => by have := ownBlock_ge K0.own e.symm; have := HGZ.out; omega)
 have hbb := K0.blk.grown hgrow (fun e => K0.ne e.symm)
 refine f_one (i := 9) (by kernel_rfl) ?_
 refine f_value (some 40) rfl rfl (.slice (some ⟨g6, 0, none⟩) 4 cap6) (exec_append (.tmp 32) (.tmp 39) 104 rfl _ _ _ rfl rfl hrun) rfl false (by kernel_rfl) (fun _ => ⟨hbb.cell 2, hb8⟩) ?_
 simp only [Act.put, jb, jz, js]
 refine f_one (i := 10) (by kernel_rfl) ?_
 refine f_value (some 41) rfl rfl (.pointer (some ⟨b3, 2, none⟩)) (by go_simp <;> rfl) rfl false (by kernel_rfl) (fun _ => ⟨hbb.cell 2, hb8⟩) ?_
 simp only [Act.put, jb, jz, js]
 refine f_one (i := 11) (by kernel_rfl) ?_
 refine f_skip rfl rfl rfl (exec_store1 (.tmp 41) (.tmp 40) rfl rfl rfl hbb (by simp)) true (by kernel_rfl) (fun e => by cases e) ?_
 (try simp only [Act.put, jb, jz, js])
 refine f_done (by kernel_rfl) ?_ _
 replace K0 : RdJ w z b3 (.slice (some ⟨g6, 0, none⟩) 4 cap6) 4 [txt (nB value), txt (nB tip), txt (nB price), txt data] [.slice none 0 0, .slice none 0 0, .slice none 0 0, .slice none 0 0] (v2.setCell ⟨b3, 2, none⟩ (.slice (some ⟨g6, 0, none⟩) 4 cap6)) := K1
 replace HBS : Blk (v2.setCell ⟨b3, 2, none⟩ (.slice (some ⟨g6, 0, none⟩) 4 cap6)) g 42 (txC (TxV.mk 2 chain nonce tip price gas dst value data acc auths y r s source frm mint system) (.slice pa na xa) (.slice pb nb xb)) := blk_setO hb8 (by have := HGZ.out; have := HZB.out; omega) 2 _
 clear hrun hown' hgrow hob hiff K1 hb8 hbb hga hnn 
 generalize v2.setCell ⟨b3, 2, none⟩ (.slice (some ⟨g6, 0, none⟩) 4 cap6) = y6 at *
 have c0 : y6.cell? ⟨g, 0, none⟩ = some (.int .i64 2) := (HBS.cell 0).trans rfl
 go_upto_region 9 with (fail)
 refine wp_region_f 8 (fun b W => b = false → W.cell? ⟨b3, 2, none⟩ = some (.slice (some ⟨g6, 0, none⟩) 4 cap6) ∧ Blk W g 42 (txC (TxV.mk 2 chain nonce tip price gas dst value data acc auths y r s source frm mint system) (.slice pa na xa) (.slice pb nb xb))) (by kernel_rfl) ?_
 replace K0 := K0.kept (only_drew (World.grownBy.refl y6 none))
 replace HBS : Blk y6.drew g 42 (txC (TxV.mk 2 chain nonce tip price gas dst value data acc auths y r s source frm mint system) (.slice pa na xa) (.slice pb nb xb)) := HBS
 (try clear c0)
 generalize y6.drew = u0 at *
 have hS0 : false = false → u0.cell? ⟨b3, 2, none⟩ = some (.slice (some ⟨g6, 0, none⟩) 4 cap6) ∧ Blk u0 g 42 (txC (TxV.mk 2 chain nonce tip price gas dst value data acc auths y r s source frm mint system) (.slice pa na xa) (.slice pb nb xb)) := fun _ => ⟨K0.blk.cell 2, HBS⟩
 refine f_take (i := 0) (v := .pointer (some ⟨b3, 2, none⟩)) (some 45) rfl (by kernel_rfl) (by kernel_rfl) (by kernel_rfl) (by kernel_rfl) (by kernel_rfl) (by kernel_rfl) (fun _ _ _ h => h) rfl (Or.inl ⟨by rfl, fun W hW => by go_simp⟩) hS0 ?_
 simp only [Act.put, jb, jz, js]
 refine f_take (i := 1) (v := .slice (some ⟨g6, 0, none⟩) 4 cap6) (some 46) rfl (by kernel_rfl) (by kernel_rfl) (by kernel_rfl) (by kernel_rfl) (by kernel_rfl) (by kernel_rfl) (fun _ _ _ h => h) rfl (Or.inl ⟨by rfl, fun W hW => exec_loadC 104 (.tmp 45) rfl _ rfl _ _ Tryz.underlying104 rfl (hW rfl).1⟩) hS0 ?_
 simp only [Act.put, jb, jz, js]
 refine f_take (i := 2) (v := .pointer (some ⟨g, 18, none⟩)) (some 47) rfl (by kernel_rfl) (by kernel_rfl) (by kernel_rfl) (by kernel_rfl) (by kernel_rfl) (by kernel_rfl) (fun _ _ _ h => h) rfl (Or.inl ⟨by rfl, fun W hW => by go_simp⟩) hS0 ?_
 simp only [Act.put, jb, jz, js]
 refine f_take (i := 3) (v := .slice pa na xa) (some 48) rfl (by kernel_rfl) (by kernel_rfl) (by kernel_rfl) (by kernel_rfl) (by kernel_rfl) (by kernel_rfl) (fun _ _ _ h => h) rfl (Or.inl ⟨by rfl, fun W hW => exec_loadC 39 (.tmp 47) rfl _ rfl _ _ Tryz.underlying39 rfl (((hW rfl).2.cell 18).trans rfl)⟩) hS0 ?_
 simp only [Act.put, jb, jz, js]
 clear hS0
 refine f_one (i := 4) (by kernel_rfl) ?_
 refine f_enter (some 49) rfl rfl 75 #[.slice pa na xa] (exec_call1 _ (.tmp 48) _ rfl _ rfl (enters_of Tryz.func75 (by kernel_rfl) rfl _ _)) rfl false (by kernel_rfl) ((accessI_any B pa na xa acc u0 (HAC.out.grown K0.grown HBB.out) (Nat.le_trans HBB.out K0.grown.size) (by have := HNA.out; omega) HKE.out).mono ?_)
 rintro e u1 ⟨A', c', rfl, hsub, hg⟩
 have hx0 : SubV (fun g => z ≤ g ∧ g ≠ b3 ∧ (.slice (some ⟨g6, 0, none⟩) 4 cap6 : Value).ownBlock ≠ some g) u1 (acc.map pairI) (.slice A' na c') := hsub.weak (fun g (h : u0.heap.size ≤ g) => ⟨Nat.le_trans K0.size h, fun e => by have := K0.blk.lt; omega, fun e => by have := own_ltB K0.own e; omega⟩)
 clear hsub
 replace K0 := K0.kept hg
 replace HBS := HBS.grown hg (by simp)
 clear hg
 refine ⟨_, rfl, (fun _ => ⟨K0.blk.cell 2, HBS⟩), ?_⟩
 simp only [Act.put, jb, jz, js]
 refine f_one (i := 5) (by kernel_rfl) ?_
 have hga := only_alloc (World.grownBy.refl u1 none) (.cells #[.bool true, .string ⟨#[]⟩, .slice A' na c'] 106)
 replace K0 := K0.kept hga
 replace HBS := HBS.grown hga (by simp)
 replace hx0 := SubV.grown hx0 hga
 refine f_value (some 50) rfl rfl (.slice (some ⟨u1.heap.size, 0, none⟩) 1 1) (w' := u1.alloc (.cells #[.bool true, .string ⟨#[]⟩, .slice A' na c'] 106)) (by go_simp <;> rfl) rfl false (by kernel_rfl) (fun _ => ⟨K0.blk.cell 2, HBS⟩) ?_
 simp only [Act.put, jb, jz, js]
 obtain ⟨i0, hi, hz0, hzs, hzb⟩ := info_parts item_info
 obtain ⟨v', v2, hrun, hown', hgrow, hiff, hob⟩ := run_append_own_at (P := Tryz.prog) (u1.alloc (.cells #[.bool true, .string ⟨#[]⟩, .slice A' na c'] 106)) z 104 104 106 i0 _ 3 48 Tryz.underlying104 hi hz0 hzs hzb rfl (by decide) (.slice (some ⟨g6, 0, none⟩) 4 cap6) 4 (itemsV [txt (nB value), txt (nB tip), txt (nB price), txt data] [.slice none 0 0, .slice none 0 0, .slice none 0 0, .slice none 0 0]) K0.own ⟨u1.heap.size, 0, none⟩ 1 1 [.bool true, .string ⟨#[]⟩, .slice A' na c'] rfl (cells_new _ [.bool true, .string ⟨#[]⟩, .slice A' na c'] _) (by simp [Value.oneCell']) (by simp only [maxLen]; omega) (by omega) K0.size
 obtain ⟨g7, cap7, rfl⟩ := ownsRow_succ (k := 4) hown'
 have hnn : (Value.slice (some ⟨u1.heap.size, 0, none⟩) 1 1 : Value) = .slice (some ⟨u1.heap.size, 0, none⟩) 1 1 := rfl
 have K1 := K0.put (m := 1) [accI acc] [.slice A' na c'] rfl rfl (fun i hi => by
  match i, hi with
  | 0, _ => exact hx0) hown' hgrow hob
 have hb8 := HBS.grown hgrow (fun e => by have := ownBlock_ge K0.own e.symm; have := HGZ.out; omega)
 have hbb := K0.blk.grown hgrow (fun e => K0.ne e.symm)
 refine f_one (i := 6) (by kernel_rfl) ?_
 refine f_value (some 51) rfl rfl (.slice (some ⟨g7, 0, none⟩) 5 cap7) (exec_append (.tmp 46) (.tmp 50) 104 rfl _ _ _ rfl rfl hrun) rfl false (by kernel_rfl) (fun _ => ⟨hbb.cell 2, hb8⟩) ?_
 simp only [Act.put, jb, jz, js]
 refine f_one (i := 7) (by kernel_rfl) ?_
 refine f_value (some 52) rfl rfl (.pointer (some ⟨b3, 2, none⟩)) (by go_simp <;> rfl) rfl false (by kernel_rfl) (fun _ => ⟨hbb.cell 2, hb8⟩) ?_
 simp only [Act.put, jb, jz, js]
 refine f_one (i := 8) (by kernel_rfl) ?_
 refine f_skip rfl rfl rfl (exec_store1 (.tmp 52) (.tmp 51) rfl rfl rfl hbb (by simp)) true (by kernel_rfl) (fun e => by cases e) ?_
 (try simp only [Act.put, jb, jz, js])
 refine f_done (by kernel_rfl) ?_ _
 replace K0 : RdJ w z b3 (.slice (some ⟨g7, 0, none⟩) 5 cap7) 5 [txt (nB value), txt (nB tip), txt (nB price), txt data, accI acc] [.slice none 0 0, .slice none 0 0, .slice none 0 0, .slice none 0 0, .slice A' na c'] (v2.setCell ⟨b3, 2, none⟩ (.slice (some ⟨g7, 0, none⟩) 5 cap7)) := K1
 replace HBS : Blk (v2.setCell ⟨b3, 2, none⟩ (.slice (some ⟨g7, 0, none⟩) 5 cap7)) g 42 (txC (TxV.mk 2 chain nonce tip price gas dst value data acc auths y r s source frm mint system) (.slice pa na xa) (.slice pb nb xb)) := blk_setO hb8 (by have := HGZ.out; have := HZB.out; omega) 2 _
 clear hrun hown' hgrow hob hiff K1 hb8 hbb hga hnn hx0
 generalize v2.setCell ⟨b3, 2, none⟩ (.slice (some ⟨g7, 0, none⟩) 5 cap7) = y7 at *
 have hI : restI (TxV.mk 2 chain nonce tip price gas dst value data acc auths y r s source frm mint system) = .mk true ⟨#[]⟩ [txt (nB value), txt (nB tip), txt (nB price), txt data, accI acc] := rfl
 rw [hI] at HENC
 have hsub := K0.row.here
 have e0 := K0.blk.cell 0; have e1 := K0.blk.cell 1; have e2 := K0.blk.cell 2
 simp only [List.getElem?_toArray, List.getElem?_cons_zero, List.getElem?_cons_succ] at e0 e1 e2
 have HGG := Lib.hid K0.grown
 clear hI HBS
 clear K0
 go_wp2_with fail
 refine (HENC.out y7 _ hsub).mono ?_
 rintro e w9 ⟨rfl, hg9⟩
 have HG := Lib.hid (grown_self HGG.out hg9 (by simp))
 have hl := HLEN.out
 have hsum : 1 + L.length ≤ 9223372036854775807 := by omega
 clear e0 e1 e2 hg9 hsub HENC hl
 (try clear c0)
 go_wp2_with fail
 go_ret
 refine ⟨?_, HG.out⟩
 first | rfl | (rw [← ba_cat]; rfl)
end Go.Proofs.YtgclnikdkfpflaaGreatDoor
