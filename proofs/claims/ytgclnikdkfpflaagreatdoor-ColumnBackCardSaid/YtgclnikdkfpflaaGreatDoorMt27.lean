/- Merged: CpG, CpH, Open, CpI, CpJ. -/
import Derived.Test.YtgclnikdkfpflaaGreatDoorMt1
import Derived.Test.YtgclnikdkfpflaaGreatDoorMt26
import Derived.Great.BuildSlice
import Derived.Deep.DeepCutAuto
namespace Go.Proofs.YtgclnikdkfpflaaGreatDoor
open Go.RowKit Go.Shelf
open List renaming set_cons_zero → jz, set_cons_succ → js, setIfInBounds_toArray → jb
set_option linter.unusedVariables false
set_option linter.unusedSimpArgs false
set_option maxRecDepth 100000
set_option maxHeartbeats 16000000
def to20 : ByteArray := ⟨Array.replicate 20 0⟩
def wk0 : TxV := { TxV.zero with nonce := 300, dst := to20, y := 1 }
def wk1 : TxV := { TxV.zero with kind := 1, chain := 9, gas := 5, data := ⟨#[120]⟩ }
def wk2 : TxV := { TxV.zero with kind := 126 }
def wkL : List TxV := [wk0, wk1]
theorem wk_c0 : checkCol [] 9 = 0 := by decide +kernel
theorem wk_c1 : checkCol wkL 9 = 0 := by decide +kernel
theorem wk_c2 : checkCol wkL 8 = 2 := by decide +kernel
theorem wk_c3 : checkCol [] 0 = 1 := by decide +kernel
theorem wk_c4 : checkCol [wk2] 9 = 9 := by decide +kernel
theorem wk_p0 : putColL [] 9 = [] := by decide +kernel
def wkB : List UInt8 := colsL wkL
theorem wk_p1 : putColL wkL 9 = wkB := by unfold putColL; rw [if_pos wk_c1]; rfl
theorem wk_len : wkB.length = 166 ∧ wkB.take 2 = [2, 1] := by decide +kernel
theorem wk_ok : ∀ t ∈ wkL, t.Ok := by
 intro t ht
 have h : t = wk0 ∨ t = wk1 := by simpa [wkL] using ht
 rcases h with rfl | rfl <;> exact ⟨by decide, by decide, by decide, by decide, by decide, by decide, by decide, by decide, by decide, by decide, fun a h => by cases h⟩
theorem wk2_ok : ∀ t ∈ [wk2], t.Ok := by
 intro t ht
 have h : t = wk2 := by simpa using ht
 subst h
 exact ⟨by decide, by decide, by decide, by decide, by decide, by decide, by decide, by decide, by decide, by decide, fun a h => by cases h⟩
theorem wk_g1 : getR ⟨([97, 98] ++ wkB ++ [99]).toArray⟩ 2 2 9 = .ok (wkL, 168) := by
 have h := getR_put (s := ⟨([97, 98] ++ wkB ++ [99]).toArray⟩) (a := 2) wk_c1 wk_ok ⟨[99], rfl⟩ (by rw [← ba_len]; simp)
 have e : 2 + (colsL wkL).length = 168 := by have := wk_len.1; unfold wkB at this; omega
 rw [e] at h
 exact h
theorem wk_g2 : ∃ E, E ≠ 0 ∧ getR ⟨wkB.toArray⟩ 0 3 9 = .error E := by
 have h : (match getR ⟨wkB.toArray⟩ 0 3 9 with | .error e => e | .ok _ => 0) ≠ 0 := by decide +kernel
 split at h
 ·rename_i e he; exact ⟨e, h, he⟩
 ·exact absurd rfl h
theorem wk_a1 : getA ⟨([97, 98] ++ wkB ++ [99]).toArray⟩ 2 2 9 = .ok (wkL, 168) := by
 have hl := wk_len.1
 have hz : (⟨([97, 98] ++ wkB ++ [99]).toArray⟩ : ByteArray).size = 169 := by rw [← ba_len]; simp [hl]
 have hb : badArg ⟨([97, 98] ++ wkB ++ [99]).toArray⟩ 2 2 9 = false := by unfold badArg; rw [hz]; rfl
 unfold getA
 rw [if_neg (by rw [hb]; simp)]
 exact wk_g1
theorem wk_a2 : ∃ E, E ≠ 0 ∧ getA ⟨wkB.toArray⟩ 0 3 9 = .error E := by
 have hl := wk_len.1
 have hz : (⟨wkB.toArray⟩ : ByteArray).size = 166 := by rw [← ba_len]; exact hl
 have hb : badArg ⟨wkB.toArray⟩ 0 3 9 = false := by unfold badArg; rw [hz]; rfl
 obtain ⟨E, h1, h2⟩ := wk_g2
 refine ⟨E, h1, ?_⟩
 unfold getA
 rw [if_neg (by rw [hb]; simp)]
 exact h2
theorem wk_k : ∀ t ∈ wkL, KeysFew t := by
 intro t ht
 have h : t = wk0 ∨ t = wk1 := by simpa [wkL] using ht
 rcases h with rfl | rfl <;> exact fun x h => by cases h
def flatTx (ls : List TxV) : List Value := ls.flatMap fun t => txL t (.slice none 0 0) (.slice none 0 0)
theorem flatTx_at : ∀ (ls : List TxV) (i j : Nat), i < ls.length → j < 36 → (flatTx ls)[i * 36 + j]? = (txL (ls.getD i TxV.zero) (.slice none 0 0) (.slice none 0 0))[j]?
 | [], i, j, h, _ => by simp at h
 | t :: ls, 0, j, _, hj => by
  show (txL t _ _ ++ flatTx ls)[0 * 36 + j]? = _
  rw [List.getElem?_append_left (by rw [txL_len]; omega), Nat.zero_mul, Nat.zero_add]; rfl
 | t :: ls, i + 1, j, h, hj => by
  show (txL t _ _ ++ flatTx ls)[(i + 1) * 36 + j]? = _
  rw [List.getElem?_append_right (by rw [txL_len]; omega), txL_len, show (i + 1) * 36 + j - 36 = i * 36 + j by omega, flatTx_at ls i j (by simpa using h) hj]; rfl
theorem litTxs {W : World} {g : Nat} {ls : List TxV} (hb : Blk W g 42 (flatTx ls).toArray) (h : ∀ t ∈ ls, t.acc = [] ∧ t.auths = []) : TxsR W.heap.size W ls (some ⟨g, 0, none⟩) ls.length := by
 refine ⟨rfl, fun _ => ⟨g, 0, rfl, hb.lt, fun i hi => ?_⟩⟩
 have hm : ls.getD i TxV.zero ∈ ls := by rw [List.getD_eq_getElem?_getD, List.getElem?_eq_getElem hi]; exact List.getElem_mem _
 obtain ⟨h1, h2⟩ := h _ hm
 refine ⟨.slice none 0 0, .slice none 0 0, fun j v hv => ?_, ⟨⟨none, 0, by rw [h1]; rfl, by rw [h1]; exact AccR.nil _ _ _⟩, ⟨none, 0, by rw [h2]; rfl, by rw [h2]; exact AutR.nil _ _ _⟩, by rw [h1]; simp, by rw [h2]; simp⟩⟩
 have hj : j < 36 := (List.getElem?_eq_some_iff.1 hv).1
 rw [hb.cell, ← hv, ← flatTx_at ls i j hi hj, Nat.zero_add, List.getElem?_toArray]
theorem nilTxs (B : Nat) (W : World) : TxsR B W [] none 0 := ⟨rfl, fun h => absurd h (Nat.lt_irrefl _)⟩
theorem makeU (m : Nat) (hm : m ≤ 1000000) (w : World) : (Instr.makeSlice 43 (.int .i64 (m : Int)) (.int .i64 (m : Int))).run Tryz.prog w =
  .ok (.slice (some ⟨w.heap.size, 0, none⟩) m m) (w.alloc (.cells (Array.replicate m (.int .u8 0)) 5)) := by
 have hs : (Tryz.prog.info? 5).isSome = true := by kernel_rfl
 obtain ⟨i, hi⟩ := Option.isSome_iff_exists.1 hs
 have hb : (Tryz.prog.info? 5).map (·.bytes) = some 1 := by kernel_rfl
 have hsz : (Tryz.prog.info? 5).map (·.size) = some 1 := by kernel_rfl
 have hz : (Tryz.prog.info? 5).bind (·.zero) = some (.int .u8 0) := by kernel_rfl
 rw [hi] at hb hsz hz
 simp only [Option.map_some, Option.some.injEq, Option.bind_some] at hb hsz hz
 have hmk := run_make_rowN (P := Tryz.prog) 43 5 i _ (by kernel_rfl) hi hz .i64 .i64 m m (Nat.le_refl _) (by rw [hb]; omega) (by omega) w
 rw [hmk, hsz]
 congr 3
 refine Array.ext_getElem? fun j => ?_
 by_cases hj : j < m
 ·simp [madeCells, hj, Value.cells, Nat.mod_one]
 ·simp [madeCells, hj]
theorem litU8 (w : World) : (w.alloc (.cells (Array.replicate 20 (.int .u8 0)) 5)).ownsRow w.heap.size 5 1 (.slice (some ⟨w.heap.size, 0, none⟩) 20 20) 20 (u8s (List.replicate 20 0)) :=
 ⟨rfl, .inr ⟨w.heap.size, 20, _, rfl, Nat.le_refl _, heap_alloc_new w _, Nat.le_refl _, by decide, rfl, rfl⟩⟩
theorem exec_catS {a : Act} {o : Oper} {W : World} (x y : Operand) {u : TypeId} (ho : o.op = .binOp .add 9 x y u) (p q r : ByteArray) (hx : a.eval x = .string p) (hy : a.eval y = .string q) (hl : p.size + q.size ≤ 1000000000000000000) (hr : p ++ q = r) : (execOp a.eval o).run Tryz.prog W = .ok (.value (.string r)) W := by
 have h : ¬ 9223372036854775807 < p.size + q.size := by omega
 subst hr
 unfold execOp
 generalize a.eval = ev at *
 simp [ho, hx, hy, go_sem, h]
section
variable {P : Program}
theorem wpList_buildC {ops : Array Oper} {rest : List Oper} {o : Oper} {a : Act} {w : World} {Q : Exit → Act → World → Prop} (hgd : o.guard = none) (t : TypeId) (parts : Array (Nat × Operand)) (cells : Array Value) (ho : o.op = .build t parts)
  (hf : P.built t (parts.map fun (i, x) => (i, a.eval x)).toList = some cells)
  (h : wpList P ops Q rest (a.put o.dst (.agg cells)) w) : wpList P ops Q (o :: rest) a w :=
 wpList_plain hgd fun _ hK => wp_build t parts ho (by rw [hf]; rfl) (by rw [hf]; exact hK _ _ h)
end
theorem wpList_bsTx {ops : Array Oper} {rest : List Oper} {o : Oper} {a : Act} {w : World} {Q : Exit → Act → World → Prop} (hgd : o.guard = none) (len : Nat) (parts : Array (Nat × Operand)) (ho : o.op = .buildSlice 22 len parts) (h0 : 0 < len) (h1 : len ≤ 100) (cells : Array Value)
  (hf : Instr.fill (fun i => some (i * 36, 36)) ((Array.range (len * 36)).map (blankL.toArray[· % 36]!)) (parts.map fun (i, x) => (i, a.eval x)).toList = some cells)
  (h : wpList Tryz.prog ops Q rest (a.put o.dst (.slice (some ⟨w.heap.size, 0, none⟩) len len)) (w.alloc (.cells cells 42))) : wpList Tryz.prog ops Q (o :: rest) a w := by
 have hs : (Tryz.prog.info? 42).isSome = true := by kernel_rfl
 obtain ⟨i, hi⟩ := Option.isSome_iff_exists.1 hs
 have hsz : (Tryz.prog.info? 42).map (·.size) = some 36 := by kernel_rfl
 have hz : (Tryz.prog.info? 42).bind (·.zero) = some (.agg blankL.toArray) := by kernel_rfl
 rw [hi] at hsz hz
 simp only [Option.map_some, Option.some.injEq, Option.bind_some] at hsz hz
 refine wpList_buildSlice hgd 22 42 len parts ho cells i _ Tryz.underlying22 hi hz (by rw [hsz]; omega) (by rw [hsz]; omega) ?_ h
 rw [hsz]
 exact hf
theorem worksCo_any (w : World) : Calls Tryz.prog 8 #[] w fun e w' => e = .returned (.bool true) ∧ w.grownBy w' none := by
 have hmk : ∀ V : World, (Instr.makeSlice 43 (.int .i64 20) (.int .i64 20)).run Tryz.prog V = .ok (.slice (some ⟨V.heap.size, 0, none⟩) 20 20) (V.alloc (.cells (Array.replicate 20 (.int .u8 0)) 5)) := fun V => makeU 20 (by omega) V
 have hcv : (convert 43 9 (.slice (some ⟨w.heap.size, 0, none⟩) 20 20)).run Tryz.prog (w.alloc (.cells (Array.replicate 20 (.int .u8 0)) 5)) = .ok (.string to20) (w.alloc (.cells (Array.replicate 20 (.int .u8 0)) 5)) := conv_own (litU8 w)
 have hg0 := only_alloc (World.grownBy.refl w none) (.cells (Array.replicate 20 (.int .u8 0)) 5)
 have HG0 := Lib.hid hg0
 clear hg0
 go_enter Tryz.func8, Tryz.ntmps8
 go_upto_region 2 with (fail)
 change Code.wp _ _ _ _ (w.alloc (.cells (Array.replicate 20 (.int .u8 0)) 5))
 generalize w.alloc (.cells (Array.replicate 20 (.int .u8 0)) 5) = w1 at *
 clear hmk hcv
 refine wp_region_list ?_
 refine zm 1 (.string to20) rfl ?_
 simp only [Act.put, jb, jz, js]
 refine wpList_buildC rfl 42 _ (txC wk0 (.slice none 0 0) (.slice none 0 0)) rfl (by kernel_rfl) ?_
 simp only [Act.put, jb, jz, js]
 refine wpList_buildC rfl 42 _ (txC wk1 (.slice none 0 0) (.slice none 0 0)) rfl (by kernel_rfl) ?_
 simp only [Act.put, jb, jz, js]
 refine wpList_bsTx rfl 2 _ rfl (by omega) (by omega) (flatTx wkL).toArray (by kernel_rfl) ?_
 simp only [Act.put, jb, jz, js]
 refine wpList_value rfl (.slice (some ⟨w1.heap.size, 0, none⟩) 2 2) (by go_simp <;> rfl) ?_
 simp only [Act.put, jb, jz, js]
 refine wpList_nil ?_
 have hga := only_alloc (World.grownBy.refl w1 none) (.cells (flatTx wkL).toArray 42)
 have hbl := Blk.new w1 42 (flatTx wkL).toArray
 obtain ⟨g, hg⟩ : ∃ g, w1.heap.size = g := ⟨_, rfl⟩
 rw [hg] at hbl ⊢
 generalize w1.alloc (.cells (flatTx wkL).toArray 42) = w2 at *
 have htx := litTxs hbl (fun t ht => by
  have h : t = wk0 ∨ t = wk1 := by simpa [wkL] using ht
  rcases h with rfl | rfl <;> exact ⟨rfl, rfl⟩)
 have HT := Lib.hid htx; have BHT := Lib.hid (Nat.le_refl w2.heap.size); have HG := Lib.hid (grown_self HG0.out hga (by simp))
 clear hga hbl hg htx HG0
 go_upto_region 3 with (fail)
 refine wp_region_list ?_
 have hc := colPut_ok 0 none 0 0 [] 9 w2 (nilTxs _ _) (Nat.zero_le _) (by decide) (fun t h => by cases h)
 rw [wk_p0, wk_c0] at hc
 refine wpList_enter rfl 11 #[.slice none 0 0, .int .u64 9] (exec_call2 _ (.const (.slice none 0 0)) (.const (.int .u64 9)) _ rfl _ _ rfl rfl (enters_of Tryz.func11 (by kernel_rfl) rfl _ _)) (hc.mono ?_)
 clear hc
 rintro e w3 ⟨rfl, hg⟩
 have HG := Lib.hid (grown_self HG.out hg (by simp))
 have HT := Lib.hid (HT.out.grown hg BHT.out); have BHT := Lib.hid (Nat.le_trans BHT.out hg.size)
 clear hg
 refine ⟨_, rfl, ?_⟩
 simp only [Act.put, jb, jz, js]
 refine zm 27 (.tuple #[.string ⟨([] : List UInt8).toArray⟩, .int .i64 0]) rfl ?_
 simp only [Act.put, jb, jz, js]
 refine wpList_value rfl (.string ⟨([] : List UInt8).toArray⟩) (by go_simp <;> rfl) ?_
 simp only [Act.put, jb, jz, js]
 refine wpList_value rfl (.int .i64 0) (by go_simp <;> rfl) ?_
 simp only [Act.put, jb, jz, js]
 refine wpList_value rfl (.string ⟨([] : List UInt8).toArray⟩) (by go_simp <;> rfl) ?_
 simp only [Act.put, jb, jz, js]
 refine wpList_value rfl (.int .i64 0) (by go_simp <;> rfl) ?_
 simp only [Act.put, jb, jz, js]
 refine wpList_nil ?_
 go_upto_region 4 with (fail)
 refine wp_region_list ?_
 refine zm 2 (.slice (some ⟨g, 0, none⟩) 2 2) rfl ?_
 simp only [Act.put, jb, jz, js]
 have hc := colPut_ok _ (some ⟨g, 0, none⟩) 2 2 wkL 9 w3 HT.out BHT.out (by decide) wk_ok
 rw [wk_p1, wk_c1] at hc
 refine wpList_enter rfl 11 #[.slice (some ⟨g, 0, none⟩) 2 2, .int .u64 9] (exec_call2 _ (.tmp 31) (.const (.int .u64 9)) _ rfl _ _ rfl rfl (enters_of Tryz.func11 (by kernel_rfl) rfl _ _)) (hc.mono ?_)
 clear hc
 rintro e w4 ⟨rfl, hg⟩
 have HG := Lib.hid (grown_self HG.out hg (by simp))
 have HT := Lib.hid (HT.out.grown hg BHT.out); have BHT := Lib.hid (Nat.le_trans BHT.out hg.size)
 clear hg
 refine ⟨_, rfl, ?_⟩
 simp only [Act.put, jb, jz, js]
 refine zm 32 (.tuple #[.string ⟨wkB.toArray⟩, .int .i64 0]) rfl ?_
 simp only [Act.put, jb, jz, js]
 refine wpList_value rfl (.string ⟨wkB.toArray⟩) (by go_simp <;> rfl) ?_
 simp only [Act.put, jb, jz, js]
 refine wpList_value rfl (.int .i64 0) (by go_simp <;> rfl) ?_
 simp only [Act.put, jb, jz, js]
 refine wpList_value rfl (.string ⟨wkB.toArray⟩) (by go_simp <;> rfl) ?_
 simp only [Act.put, jb, jz, js]
 refine wpList_value rfl (.int .i64 0) (by go_simp <;> rfl) ?_
 simp only [Act.put, jb, jz, js]
 refine wpList_nil ?_
 obtain ⟨S, hS⟩ : ∃ S : ByteArray, (⟨wkB.toArray⟩ : ByteArray) = S := ⟨_, rfl⟩
 obtain ⟨S1, hS1⟩ : ∃ S : ByteArray, (⟨([97, 98] ++ wkB ++ [99]).toArray⟩ : ByteArray) = S := ⟨_, rfl⟩
 have hsz : S.size = 166 := by rw [← hS, ← ba_len]; exact wk_len.1
 have hsz1 : S1.size = 169 := by rw [← hS1, ← ba_len]; simp [wk_len.1]
 have ha1 := wk_a1
 obtain ⟨EA, hea, ha2⟩ := wk_a2
 have happ : (⟨#[97, 98]⟩ : ByteArray) ++ S ++ ⟨#[99]⟩ = S1 := by
  rw [← hS, ← hS1]; refine ba_ext ?_; simp
 have hpre : S.extract 0 2 = ⟨#[2, 1]⟩ := by
  refine ba_ext ?_
  have := ba_takeC S 0 2
  rw [Nat.zero_add, List.drop_zero] at this
  rw [this, ← hS]
  exact wk_len.2
 rw [hS1] at ha1
 rw [hS] at ha2 ⊢
 have HSZ0 := Lib.hid hsz; have HSZ1 := Lib.hid hsz1; have HA1 := Lib.hid ha1; have HA2 := Lib.hid ha2; have HAPP := Lib.hid happ; have HPRE := Lib.hid hpre; have HEA := Lib.hid hea
 clear hS hS1 hsz hsz1 ha1 ha2 happ hpre hea
 go_upto_region 5 with (fail)
 refine wp_region_list ?_
 refine zm 5 (.string S) rfl ?_
 simp only [Act.put, jb, jz, js]
 have hs1 := HAPP.out
 have hs2 := HSZ0.out; have hs3 : ((⟨#[97, 98]⟩ : ByteArray) ++ S).size = 168 := by rw [ByteArray.size_append, hs2]; rfl
 refine wpList_value rfl (.string (⟨#[97, 98]⟩ ++ S)) (exec_catS _ _ rfl _ _ _ rfl rfl (by rw [hs2]; decide) rfl) ?_
 simp only [Act.put, jb, jz, js]
 refine wpList_value rfl (.string S1) (exec_catS _ _ rfl _ _ _ rfl rfl (by rw [hs3]; decide) hs1) ?_
 simp only [Act.put, jb, jz, js]
 refine wpList_enter rfl 14 #[.string S1, .int .i64 2, .int .i64 2, .int .u64 9] (exec_call4C _ (.tmp 38) (.const (.int .i64 2)) (.const (.int .i64 2)) (.const (.int .u64 9)) _ rfl _ _ _ _ rfl rfl rfl rfl (enters_of Tryz.func14 (by kernel_rfl) rfl _ _)) ((colGet_any S1 2 2 9 w4 (by have := HSZ1.out; omega)).mono ?_)
 rintro e w5 ⟨hg, hh⟩
 have hh2 : ∃ gm, e = .returned (.tuple #[.slice (some ⟨gm, 0, none⟩) 2 2, .int .i64 168, .int .i64 0]) ∧ TxsR w5.heap.size w5 wkL (some ⟨gm, 0, none⟩) 2 := by
  rcases hh with ⟨E, h1, h2, _⟩ | ⟨L, T, gm, h1, _, _, h3, _, h5, _, _⟩
  ·rw [HA1.out] at h2; cases h2
  ·rw [HA1.out] at h1; cases h1
   exact ⟨gm, h3, h5⟩
 obtain ⟨gm, rfl, htm⟩ := hh2
 have HTM := Lib.hid htm; have BHTM := Lib.hid (Nat.le_refl w5.heap.size)
 have HG := Lib.hid (grown_self HG.out hg (by simp))
 have HT := Lib.hid (HT.out.grown hg BHT.out); have BHT := Lib.hid (Nat.le_trans BHT.out hg.size)
 clear hg hh htm hs1
 refine ⟨_, rfl, ?_⟩
 simp only [Act.put, jb, jz, js]
 refine zm 39 (.tuple #[.slice (some ⟨gm, 0, none⟩) 2 2, .int .i64 168, .int .i64 0]) rfl ?_
 simp only [Act.put, jb, jz, js]
 refine wpList_value rfl (.slice (some ⟨gm, 0, none⟩) 2 2) (by go_simp <;> rfl) ?_
 simp only [Act.put, jb, jz, js]
 refine wpList_value rfl (.int .i64 168) (by go_simp <;> rfl) ?_
 simp only [Act.put, jb, jz, js]
 refine wpList_value rfl (.int .i64 0) (by go_simp <;> rfl) ?_
 simp only [Act.put, jb, jz, js]
 refine wpList_value rfl (.slice (some ⟨gm, 0, none⟩) 2 2) (by go_simp <;> rfl) ?_
 simp only [Act.put, jb, jz, js]
 refine wpList_value rfl (.int .i64 168) (by go_simp <;> rfl) ?_
 simp only [Act.put, jb, jz, js]
 refine wpList_value rfl (.int .i64 0) (by go_simp <;> rfl) ?_
 simp only [Act.put, jb, jz, js]
 refine wpList_nil ?_
 go_upto_region 6 with (fail)
 refine wp_region_list ?_
 refine zm 5 (.string S) rfl ?_
 simp only [Act.put, jb, jz, js]
 refine wpList_enter rfl 14 #[.string S, .int .i64 0, .int .i64 3, .int .u64 9] (exec_call4C _ (.tmp 44) (.const (.int .i64 0)) (.const (.int .i64 3)) (.const (.int .u64 9)) _ rfl _ _ _ _ rfl rfl rfl rfl (enters_of Tryz.func14 (by kernel_rfl) rfl _ _)) ((colGet_any S 0 3 9 w5 (by have := HSZ0.out; omega)).mono ?_)
 rintro e w6 ⟨hg, hh⟩
 have hh2 : e = .returned (.tuple #[.slice none 0 0, .int .i64 0, .int .i64 EA]) := by
  rcases hh with ⟨E, h1, h2, h3⟩ | ⟨L, T, gm, h1, _⟩
  ·rw [HA2.out] at h2; cases h2
   exact h3
  ·rw [HA2.out] at h1; cases h1
 subst hh2
 have HG := Lib.hid (grown_self HG.out hg (by simp))
 have HT := Lib.hid (HT.out.grown hg BHT.out); have BHT := Lib.hid (Nat.le_trans BHT.out hg.size); have HTM := Lib.hid (HTM.out.grown hg BHTM.out); have BHTM := Lib.hid (Nat.le_trans BHTM.out hg.size)
 clear hg hh
 refine ⟨_, rfl, ?_⟩
 simp only [Act.put, jb, jz, js]
 refine zm 45 (.tuple #[.slice none 0 0, .int .i64 0, .int .i64 EA]) rfl ?_
 simp only [Act.put, jb, jz, js]
 refine wpList_value rfl (.slice none 0 0) (by go_simp <;> rfl) ?_
 simp only [Act.put, jb, jz, js]
 refine wpList_value rfl (.int .i64 0) (by go_simp <;> rfl) ?_
 simp only [Act.put, jb, jz, js]
 refine wpList_value rfl (.int .i64 EA) (by go_simp <;> rfl) ?_
 simp only [Act.put, jb, jz, js]
 refine wpList_value rfl (.slice none 0 0) (by go_simp <;> rfl) ?_
 simp only [Act.put, jb, jz, js]
 refine wpList_value rfl (.int .i64 0) (by go_simp <;> rfl) ?_
 simp only [Act.put, jb, jz, js]
 refine wpList_value rfl (.int .i64 EA) (by go_simp <;> rfl) ?_
 simp only [Act.put, jb, jz, js]
 refine wpList_nil ?_
 go_upto_region 7 with (fail)
 refine wp_region_list ?_
 refine zm 2 (.slice (some ⟨g, 0, none⟩) 2 2) rfl ?_
 simp only [Act.put, jb, jz, js]
 have hc := colPut_ok _ (some ⟨g, 0, none⟩) 2 2 wkL 8 w6 HT.out BHT.out (by decide) wk_ok
 rw [wk_c2] at hc
 refine wpList_enter rfl 11 #[.slice (some ⟨g, 0, none⟩) 2 2, .int .u64 8] (exec_call2 _ (.tmp 50) (.const (.int .u64 8)) _ rfl _ _ rfl rfl (enters_of Tryz.func11 (by kernel_rfl) rfl _ _)) (hc.mono ?_)
 clear hc
 rintro e w7 ⟨rfl, hg⟩
 have HG := Lib.hid (grown_self HG.out hg (by simp))
 have HT := Lib.hid (HT.out.grown hg BHT.out); have BHT := Lib.hid (Nat.le_trans BHT.out hg.size)
 have HTM := Lib.hid (HTM.out.grown hg BHTM.out); have BHTM := Lib.hid (Nat.le_trans BHTM.out hg.size)
 clear hg
 refine ⟨_, rfl, ?_⟩
 simp only [Act.put, jb, jz, js]
 obtain ⟨S8, hS8⟩ : ∃ S : ByteArray, (⟨(putColL wkL 8).toArray⟩ : ByteArray) = S := ⟨_, rfl⟩
 rw [hS8]
 clear hS8
 refine zm 51 (.tuple #[.string S8, .int .i64 2]) rfl ?_
 simp only [Act.put, jb, jz, js]
 refine wpList_value rfl (.string S8) (by go_simp <;> rfl) ?_
 simp only [Act.put, jb, jz, js]
 refine wpList_value rfl (.int .i64 2) (by go_simp <;> rfl) ?_
 simp only [Act.put, jb, jz, js]
 refine wpList_value rfl (.string S8) (by go_simp <;> rfl) ?_
 simp only [Act.put, jb, jz, js]
 refine wpList_value rfl (.int .i64 2) (by go_simp <;> rfl) ?_
 simp only [Act.put, jb, jz, js]
 refine wpList_nil ?_
 go_upto_region 8 with (fail)
 refine wp_region_list ?_
 have hc := colPut_ok 0 none 0 0 [] 0 w7 (nilTxs _ _) (Nat.zero_le _) (by decide) (fun t h => by cases h)
 rw [wk_c3] at hc
 refine wpList_enter rfl 11 #[.slice none 0 0, .int .u64 0] (exec_call2 _ (.const (.slice none 0 0)) (.const (.int .u64 0)) _ rfl _ _ rfl rfl (enters_of Tryz.func11 (by kernel_rfl) rfl _ _)) (hc.mono ?_)
 clear hc
 rintro e w8 ⟨rfl, hg⟩
 have HG := Lib.hid (grown_self HG.out hg (by simp))
 have HT := Lib.hid (HT.out.grown hg BHT.out); have BHT := Lib.hid (Nat.le_trans BHT.out hg.size)
 have HTM := Lib.hid (HTM.out.grown hg BHTM.out); have BHTM := Lib.hid (Nat.le_trans BHTM.out hg.size)
 clear hg
 refine ⟨_, rfl, ?_⟩
 simp only [Act.put, jb, jz, js]
 obtain ⟨S9, hS9⟩ : ∃ S : ByteArray, (⟨(putColL [] 0).toArray⟩ : ByteArray) = S := ⟨_, rfl⟩
 rw [hS9]
 clear hS9
 refine zm 55 (.tuple #[.string S9, .int .i64 1]) rfl ?_
 simp only [Act.put, jb, jz, js]
 refine wpList_value rfl (.string S9) (by go_simp <;> rfl) ?_
 simp only [Act.put, jb, jz, js]
 refine wpList_value rfl (.int .i64 1) (by go_simp <;> rfl) ?_
 simp only [Act.put, jb, jz, js]
 refine wpList_value rfl (.string S9) (by go_simp <;> rfl) ?_
 simp only [Act.put, jb, jz, js]
 refine wpList_value rfl (.int .i64 1) (by go_simp <;> rfl) ?_
 simp only [Act.put, jb, jz, js]
 refine wpList_nil ?_
 go_upto_region 9 with (fail)
 refine wp_region_list ?_
 refine wpList_buildC rfl 42 _ (txC wk2 (.slice none 0 0) (.slice none 0 0)) rfl (by kernel_rfl) ?_
 simp only [Act.put, jb, jz, js]
 refine wpList_bsTx rfl 1 _ rfl (by omega) (by omega) (flatTx [wk2]).toArray (by kernel_rfl) ?_
 simp only [Act.put, jb, jz, js]
 have hg := only_alloc (World.grownBy.refl w8 none) (.cells (flatTx [wk2]).toArray 42)
 have hbl := Blk.new w8 42 (flatTx [wk2]).toArray
 obtain ⟨g2, hg2⟩ : ∃ g, w8.heap.size = g := ⟨_, rfl⟩
 rw [hg2] at hbl ⊢
 generalize w8.alloc (.cells (flatTx [wk2]).toArray 42) = w9 at *
 have htx := litTxs hbl (fun t ht => by
  have h : t = wk2 := by simpa using ht
  subst h; exact ⟨rfl, rfl⟩)
 have HT2 := Lib.hid htx; have HG := Lib.hid (grown_self HG.out hg (by simp))
 have HT := Lib.hid (HT.out.grown hg BHT.out); have BHT := Lib.hid (Nat.le_trans BHT.out hg.size); have HTM := Lib.hid (HTM.out.grown hg BHTM.out); have BHTM := Lib.hid (Nat.le_trans BHTM.out hg.size)
 clear hg hbl hg2 htx
 have hc := colPut_ok _ (some ⟨g2, 0, none⟩) 1 1 [wk2] 9 w9 HT2.out (Nat.le_refl _) (by decide) wk2_ok
 rw [wk_c4] at hc
 refine wpList_enter rfl 11 #[.slice (some ⟨g2, 0, none⟩) 1 1, .int .u64 9] (exec_call2 _ (.tmp 60) (.const (.int .u64 9)) _ rfl _ _ rfl rfl (enters_of Tryz.func11 (by kernel_rfl) rfl _ _)) (hc.mono ?_)
 clear hc
 rintro e w10 ⟨rfl, hg⟩
 have HG := Lib.hid (grown_self HG.out hg (by simp))
 have HT := Lib.hid (HT.out.grown hg BHT.out); have BHT := Lib.hid (Nat.le_trans BHT.out hg.size)
 have HTM := Lib.hid (HTM.out.grown hg BHTM.out); have BHTM := Lib.hid (Nat.le_trans BHTM.out hg.size)
 clear hg
 refine ⟨_, rfl, ?_⟩
 simp only [Act.put, jb, jz, js]
 obtain ⟨S10, hS10⟩ : ∃ S : ByteArray, (⟨(putColL [wk2] 9).toArray⟩ : ByteArray) = S := ⟨_, rfl⟩
 rw [hS10]
 clear hS10
 refine zm 61 (.tuple #[.string S10, .int .i64 9]) rfl ?_
 simp only [Act.put, jb, jz, js]
 refine wpList_value rfl (.string S10) (by go_simp <;> rfl) ?_
 simp only [Act.put, jb, jz, js]
 refine wpList_value rfl (.int .i64 9) (by go_simp <;> rfl) ?_
 simp only [Act.put, jb, jz, js]
 refine wpList_value rfl (.string S10) (by go_simp <;> rfl) ?_
 simp only [Act.put, jb, jz, js]
 refine wpList_value rfl (.int .i64 9) (by go_simp <;> rfl) ?_
 simp only [Act.put, jb, jz, js]
 refine wpList_nil ?_
 go_upto_region 10 with (fail)
 refine wp_region_list ?_
 refine zm 2 (.slice (some ⟨g, 0, none⟩) 2 2) rfl ?_
 simp only [Act.put, jb, jz, js]
 refine zm 7 (.slice (some ⟨gm, 0, none⟩) 2 2) rfl ?_
 simp only [Act.put, jb, jz, js]
 have hc := txsSameR_any _ _ (some ⟨g, 0, none⟩) (some ⟨gm, 0, none⟩) 2 2 2 2 wkL wkL w10 HT.out HTM.out BHT.out BHTM.out (by decide) (by decide) wk_ok wk_ok wk_k wk_k
 rw [decide_eq_true rfl] at hc
 refine wpList_enter rfl 16 #[.slice (some ⟨g, 0, none⟩) 2 2, .slice (some ⟨gm, 0, none⟩) 2 2] (exec_call2 _ (.tmp 64) (.tmp 65) _ rfl _ _ rfl rfl (enters_of Tryz.func16 (by kernel_rfl) rfl _ _)) (hc.mono ?_)
 clear hc
 rintro e w11 ⟨rfl, hg⟩
 have HG := Lib.hid (grown_self HG.out hg (by simp))
 have HT := Lib.hid (HT.out.grown hg BHT.out); have BHT := Lib.hid (Nat.le_trans BHT.out hg.size)
 clear hg
 refine ⟨_, rfl, ?_⟩
 simp only [Act.put, jb, jz, js]
 refine wpList_value rfl (.bool true) (by go_simp <;> rfl) ?_
 simp only [Act.put, jb, jz, js]
 refine wpList_nil ?_
 go_upto_region 11 with (fail)
 refine wp_region_list ?_
 refine zm 3 (.string ⟨([] : List UInt8).toArray⟩) rfl ?_
 simp only [Act.put, jb, jz, js]
 refine wpList_value rfl (.bool true) (by rw [exec_eqS (.tmp 67) (.const (.string ⟨#[]⟩)) rfl (⟨([] : List UInt8).toArray⟩) (⟨#[]⟩) rfl rfl, decide_eq_true (rfl)]) ?_
 simp only [Act.put, jb, jz, js]
 refine zm 68 (.bool true) rfl ?_
 simp only [Act.put, jb, jz, js]
 refine wpList_valueG rfl (.int .i64 0) (exec_moveC (.tmp 4) rfl _ rfl) ?_
 simp only [Act.put, jb, jz, js]
 refine wpList_valueG rfl (.bool true) (by go_simp <;> rfl) ?_
 simp only [Act.put, jb, jz, js]
 refine wpList_value rfl (.bool true) (exec_pickC (.tmp 69) (.tmp 71) _ rfl true rfl _ rfl) ?_
 simp only [Act.put, jb, jz, js]
 refine zm 72 (.bool true) rfl ?_
 simp only [Act.put, jb, jz, js]
 refine wpList_valueG rfl (.string S) (exec_moveC (.tmp 5) rfl _ rfl) ?_
 simp only [Act.put, jb, jz, js]
 have hs4 := HSZ0.out
 refine wpList_valueG rfl (.int .i64 166) (by go_simp <;> first | rfl | (rw [hs4]; rfl) | simp [hs4]) ?_
 simp only [Act.put, jb, jz, js]
 refine wpList_valueG rfl (.bool true) (by go_simp <;> rfl) ?_
 simp only [Act.put, jb, jz, js]
 refine wpList_value rfl (.bool true) (exec_pickC (.tmp 73) (.tmp 76) _ rfl true rfl _ rfl) ?_
 simp only [Act.put, jb, jz, js]
 refine zm 77 (.bool true) rfl ?_
 simp only [Act.put, jb, jz, js]
 refine wpList_valueG rfl (.string S) (exec_moveC (.tmp 5) rfl _ rfl) ?_
 simp only [Act.put, jb, jz, js]
 have hs5 := HPRE.out; have hs6 : 2 ≤ S.size := by omega
 refine wpList_valueG rfl (.string (S.extract 0 2)) (by go_simp <;> first | rfl | (intro h; omega)) ?_
 simp only [Act.put, jb, jz, js]
 refine wpList_valueG rfl (.bool true) (by rw [exec_eqS (.tmp 80) (.const (.string ⟨#[2, 1]⟩)) rfl (S.extract 0 2) (⟨#[2, 1]⟩) rfl rfl, decide_eq_true (hs5)]) ?_
 simp only [Act.put, jb, jz, js]
 refine wpList_value rfl (.bool true) (exec_pickC (.tmp 78) (.tmp 81) _ rfl true rfl _ rfl) ?_
 simp only [Act.put, jb, jz, js]
 refine zm 82 (.bool true) rfl ?_
 simp only [Act.put, jb, jz, js]
 refine wpList_valueG rfl (.int .i64 0) (exec_moveC (.tmp 6) rfl _ rfl) ?_
 simp only [Act.put, jb, jz, js]
 refine wpList_valueG rfl (.bool true) (by go_simp <;> rfl) ?_
 simp only [Act.put, jb, jz, js]
 refine wpList_value rfl (.bool true) (exec_pickC (.tmp 83) (.tmp 85) _ rfl true rfl _ rfl) ?_
 simp only [Act.put, jb, jz, js]
 refine zm 86 (.bool true) rfl ?_
 simp only [Act.put, jb, jz, js]
 refine wpList_valueG rfl (.bool true) (exec_moveC (.tmp 19) rfl _ rfl) ?_
 simp only [Act.put, jb, jz, js]
 refine wpList_value rfl (.bool true) (exec_pickC (.tmp 87) (.tmp 88) _ rfl true rfl _ rfl) ?_
 simp only [Act.put, jb, jz, js]
 refine zm 89 (.bool true) rfl ?_
 simp only [Act.put, jb, jz, js]
 refine wpList_valueG rfl (.int .i64 168) (exec_moveC (.tmp 8) rfl _ rfl) ?_
 simp only [Act.put, jb, jz, js]
 refine wpList_valueG rfl (.bool true) (by go_simp <;> rfl) ?_
 simp only [Act.put, jb, jz, js]
 refine wpList_value rfl (.bool true) (exec_pickC (.tmp 90) (.tmp 92) _ rfl true rfl _ rfl) ?_
 simp only [Act.put, jb, jz, js]
 refine zm 93 (.bool true) rfl ?_
 simp only [Act.put, jb, jz, js]
 refine wpList_valueG rfl (.int .i64 0) (exec_moveC (.tmp 9) rfl _ rfl) ?_
 simp only [Act.put, jb, jz, js]
 refine wpList_valueG rfl (.bool true) (by go_simp <;> rfl) ?_
 simp only [Act.put, jb, jz, js]
 refine wpList_value rfl (.bool true) (exec_pickC (.tmp 94) (.tmp 96) _ rfl true rfl _ rfl) ?_
 simp only [Act.put, jb, jz, js]
 refine zm 97 (.bool true) rfl ?_
 simp only [Act.put, jb, jz, js]
 refine wpList_valueG rfl (.int .i64 EA) (exec_moveC (.tmp 12) rfl _ rfl) ?_
 simp only [Act.put, jb, jz, js]
 have hs7 : (EA != 0) = true := by simpa using HEA.out
 refine wpList_valueG rfl (.bool true) (by go_simp <;> first | rfl | exact hs7 | simp [hs7]) ?_
 simp only [Act.put, jb, jz, js]
 refine wpList_value rfl (.bool true) (exec_pickC (.tmp 98) (.tmp 100) _ rfl true rfl _ rfl) ?_
 simp only [Act.put, jb, jz, js]
 refine zm 101 (.bool true) rfl ?_
 simp only [Act.put, jb, jz, js]
 refine wpList_valueG rfl (.int .i64 2) (exec_moveC (.tmp 14) rfl _ rfl) ?_
 simp only [Act.put, jb, jz, js]
 refine wpList_valueG rfl (.bool true) (by go_simp <;> rfl) ?_
 simp only [Act.put, jb, jz, js]
 refine wpList_value rfl (.bool true) (exec_pickC (.tmp 102) (.tmp 104) _ rfl true rfl _ rfl) ?_
 simp only [Act.put, jb, jz, js]
 refine zm 105 (.bool true) rfl ?_
 simp only [Act.put, jb, jz, js]
 refine wpList_valueG rfl (.int .i64 1) (exec_moveC (.tmp 16) rfl _ rfl) ?_
 simp only [Act.put, jb, jz, js]
 refine wpList_valueG rfl (.bool true) (by go_simp <;> rfl) ?_
 simp only [Act.put, jb, jz, js]
 refine wpList_value rfl (.bool true) (exec_pickC (.tmp 106) (.tmp 108) _ rfl true rfl _ rfl) ?_
 simp only [Act.put, jb, jz, js]
 refine zm 109 (.bool true) rfl ?_
 simp only [Act.put, jb, jz, js]
 refine wpList_valueG rfl (.int .i64 9) (exec_moveC (.tmp 18) rfl _ rfl) ?_
 simp only [Act.put, jb, jz, js]
 refine wpList_valueG rfl (.bool true) (by go_simp <;> rfl) ?_
 simp only [Act.put, jb, jz, js]
 refine wpList_value rfl (.bool true) (exec_pickC (.tmp 110) (.tmp 112) _ rfl true rfl _ rfl) ?_
 simp only [Act.put, jb, jz, js]
 refine zm 113 (.bool true) rfl ?_
 simp only [Act.put, jb, jz, js]
 refine wpList_valueG rfl (.slice (some ⟨g, 0, none⟩) 2 2) (exec_moveC (.tmp 2) rfl _ rfl) ?_
 simp only [Act.put, jb, jz, js]
 have hc := colCheck_any _ (some ⟨g, 0, none⟩) 2 2 wkL 9 w11 HT.out BHT.out (by decide) wk_ok
 rw [wk_c1] at hc
 refine wpList_enterG rfl 13 #[.slice (some ⟨g, 0, none⟩) 2 2, .int .u64 9] (exec_call2 _ (.tmp 115) (.const (.int .u64 9)) _ rfl _ _ rfl rfl (enters_of Tryz.func13 (by kernel_rfl) rfl _ _)) (hc.mono ?_)
 clear hc
 rintro e w12 ⟨rfl, hg⟩
 have HG := Lib.hid (grown_self HG.out hg (by simp))
 clear hg
 refine ⟨_, rfl, ?_⟩
 simp only [Act.put, jb, jz, js]
 refine wpList_valueG rfl (.bool true) (by go_simp <;> rfl) ?_
 simp only [Act.put, jb, jz, js]
 refine wpList_value rfl (.bool true) (exec_pickC (.tmp 114) (.tmp 117) _ rfl true rfl _ rfl) ?_
 simp only [Act.put, jb, jz, js]
 refine wpList_value rfl (.bool true) (by go_simp <;> rfl) ?_
 simp only [Act.put, jb, jz, js]
 refine wpList_nil ?_
 clear hs2 hs3 hs4 hs5 hs6 hs7
 go_wp2_with fail
 go_ret
 exact ⟨rfl, HG.out⟩
theorem conly_law (s : ByteArray) (at_ n : Int) (chain : Nat) (w : World) :
  Calls Tryz.prog 6 #[.string s, .int .i64 at_, .int .i64 n, .int .u64 (chain : Int)] w fun e w' => e = .returned (.bool true) ∧ w.grownBy w' none := by
 have HWK := Lib.hid (worksCo_any w)
 go_enter Tryz.func6, Tryz.ntmps6
 go_wp2_with fail
 refine HWK.out.mono ?_
 rintro e w2 ⟨rfl, hg2⟩
 have HG := Lib.hid hg2
 clear hg2 HWK
 by_cases hbig : 2500 < s.size
 ·have q : (2500 : Int) < (s.size : Int) := by omega
  clear hbig
  go_wp2_with fail
  go_ret
  exact ⟨rfl, HG.out⟩
 have q : decide ((2500 : Int) < (s.size : Int)) = false := decide_eq_false (by omega)
 have hsz : s.size ≤ 1000000000000 := by omega
 have HSZ := Lib.hid hsz
 clear hbig hsz
 go_wp2_with fail
 refine (colGet_any s at_ n chain w2 HSZ.out).mono ?_
 rintro e w3 ⟨hg3, hh⟩
 have HG := Lib.hid (grown_self HG.out hg3 (by simp))
 clear hg3 q
 rcases hh with ⟨E, h1, _, rfl⟩ | ⟨L, T, g, h1, hb, hn, rfl, _, htx, hT, hok⟩
 ·have q1 : (E != 0) = true := by simpa using h1
  clear h1
  go_wp2_with fail
  go_ret
  exact ⟨rfl, HG.out⟩
 ·obtain ⟨c0, c1, a, m, rfl, rfl, hm, ha⟩ := badArg_no hb
  have hgr : getR s a m chain = .ok (L, T) := by
   unfold getA at h1
   rw [if_neg (by rw [hb]; simp)] at h1
   exact h1
  obtain ⟨k1, k2, k3, k4, k5⟩ := getR_only ha hm hgr
  subst k2
  have hp : putColL L chain = colsL L := by unfold putColL; rw [if_pos k1]
  have hex : (⟨(colsL L).toArray⟩ : ByteArray) = s.extract a T := by
   refine ba_ext ?_
   have := ba_takeC s a (T - a)
   rw [show a + (T - a) = T by omega] at this
   rw [this, k5]
  have HTX := Lib.hid htx; have HOK := Lib.hid hok; have HK1 := Lib.hid k1; have HK3 := Lib.hid k3; have HT := Lib.hid hT; have HP := Lib.hid hp; have HEX := Lib.hid hex; have HLEN := Lib.hid (show L.length ≤ 9223372036854775807 by omega)
  have hput := colPut_ok w3.heap.size (some ⟨g, 0, none⟩) L.length L.length L chain w3 htx (Nat.le_refl _) (by omega) (fun t ht => (hok t ht).ok)
  rw [hp, k1] at hput
  have HPUT := Lib.hid hput
  obtain ⟨n, hn2⟩ : ∃ n, L.length = n := ⟨_, rfl⟩
  rw [hn2] at HPUT HTX HLEN ⊢
  clear h1 hb hn htx hT hok c0 c1 hm ha hgr k1 k3 k4 k5 hp hex hput
  go_wp2_with fail
  refine HPUT.out.mono ?_
  rintro e w4 ⟨rfl, hg4⟩
  have HG := Lib.hid (grown_self HG.out hg4 (by simp))
  have HTX := Lib.hid (HTX.out.grown hg4 (Nat.le_refl _)); have HSX := Lib.hid hg4.size
  rw [HEX.out]
  clear hg4 HPUT
  go_upto_region 10 with (fail)
  refine wp_region_list ?_
  refine zm 9 (.bool true) rfl ?_
  simp only [Act.put, jb, jz, js]
  refine zm 49 (.bool true) rfl ?_
  simp only [Act.put, jb, jz, js]
  refine wpList_valueG rfl (.int .i64 0) (exec_moveC (.tmp 14) rfl _ rfl) ?_
  simp only [Act.put, jb, jz, js]
  refine wpList_valueG rfl (.bool true) (by go_simp <;> rfl) ?_
  simp only [Act.put, jb, jz, js]
  refine wpList_value rfl (.bool true) (exec_pickC (.tmp 50) (.tmp 52) _ rfl true rfl _ rfl) ?_
  simp only [Act.put, jb, jz, js]
  refine zm 53 (.bool true) rfl ?_
  simp only [Act.put, jb, jz, js]
  refine wpList_valueG rfl (.slice (some ⟨g, 0, none⟩) n n) (exec_moveC (.tmp 10) rfl _ rfl) ?_
  simp only [Act.put, jb, jz, js]
  refine wpList_valueG rfl (.int .i64 (n : Int)) (by go_simp <;> rfl) ?_
  simp only [Act.put, jb, jz, js]
  refine wpList_valueG rfl (.int .i64 (n : Int)) (exec_moveC (.tmp 2) rfl _ rfl) ?_
  simp only [Act.put, jb, jz, js]
  refine wpList_valueG rfl (.bool true) (by go_simp <;> first | rfl | simp) ?_
  simp only [Act.put, jb, jz, js]
  refine wpList_value rfl (.bool true) (exec_pickC (.tmp 54) (.tmp 58) _ rfl true rfl _ rfl) ?_
  simp only [Act.put, jb, jz, js]
  refine zm 59 (.bool true) rfl ?_
  simp only [Act.put, jb, jz, js]
  refine wpList_valueG rfl (.int .i64 (T : Int)) (exec_moveC (.tmp 11) rfl _ rfl) ?_
  simp only [Act.put, jb, jz, js]
  refine wpList_valueG rfl (.int .i64 (a : Int)) (exec_moveC (.tmp 1) rfl _ rfl) ?_
  simp only [Act.put, jb, jz, js]
  have q5 : (a : Int) ≤ (T : Int) := by have := HK3.out; omega
  have q6 : (T : Int) ≤ (s.size : Int) := by have := HT.out; omega
  refine wpList_valueG rfl (.bool true) (by go_simp <;> first | rfl | simp [q5] | exact decide_eq_true q5) ?_
  simp only [Act.put, jb, jz, js]
  refine wpList_value rfl (.bool true) (exec_pickC (.tmp 60) (.tmp 63) _ rfl true rfl _ rfl) ?_
  simp only [Act.put, jb, jz, js]
  refine zm 64 (.bool true) rfl ?_
  simp only [Act.put, jb, jz, js]
  refine wpList_valueG rfl (.int .i64 (T : Int)) (exec_moveC (.tmp 11) rfl _ rfl) ?_
  simp only [Act.put, jb, jz, js]
  refine wpList_valueG rfl (.string s) (exec_moveC (.tmp 0) rfl _ rfl) ?_
  simp only [Act.put, jb, jz, js]
  refine wpList_valueG rfl (.int .i64 (s.size : Int)) (by go_simp <;> rfl) ?_
  simp only [Act.put, jb, jz, js]
  refine wpList_valueG rfl (.bool true) (by go_simp <;> first | rfl | simp [q6] | exact decide_eq_true q6) ?_
  simp only [Act.put, jb, jz, js]
  refine wpList_value rfl (.bool true) (exec_pickC (.tmp 65) (.tmp 69) _ rfl true rfl _ rfl) ?_
  simp only [Act.put, jb, jz, js]
  refine zm 70 (.bool true) rfl ?_
  simp only [Act.put, jb, jz, js]
  refine wpList_valueG rfl (.string (s.extract a T)) (exec_moveC (.tmp 13) rfl _ rfl) ?_
  simp only [Act.put, jb, jz, js]
  refine wpList_valueG rfl (.string s) (exec_moveC (.tmp 0) rfl _ rfl) ?_
  simp only [Act.put, jb, jz, js]
  refine wpList_valueG rfl (.int .i64 (a : Int)) (exec_moveC (.tmp 1) rfl _ rfl) ?_
  simp only [Act.put, jb, jz, js]
  refine wpList_valueG rfl (.int .i64 (T : Int)) (exec_moveC (.tmp 11) rfl _ rfl) ?_
  simp only [Act.put, jb, jz, js]
  refine wpList_valueG rfl (.string (s.extract a T)) (by go_simp <;> first | rfl | (rw [if_pos (by omega)]) | (intro h; omega) | simp [q5, q6]) ?_
  simp only [Act.put, jb, jz, js]
  refine wpList_valueG rfl (.bool true) (by rw [exec_eqS (.tmp 72) (.tmp 76) rfl _ _ rfl rfl, decide_eq_true rfl]) ?_
  simp only [Act.put, jb, jz, js]
  refine wpList_value rfl (.bool true) (exec_pickC (.tmp 71) (.tmp 77) _ rfl true rfl _ rfl) ?_
  simp only [Act.put, jb, jz, js]
  refine zm 78 (.bool true) rfl ?_
  simp only [Act.put, jb, jz, js]
  refine wpList_valueG rfl (.slice (some ⟨g, 0, none⟩) n n) (exec_moveC (.tmp 10) rfl _ rfl) ?_
  simp only [Act.put, jb, jz, js]
  refine wpList_valueG rfl (.int .u64 (chain : Int)) (exec_moveC (.tmp 3) rfl _ rfl) ?_
  simp only [Act.put, jb, jz, js]
  have hc := colCheck_any w3.heap.size (some ⟨g, 0, none⟩) n n L chain w4 HTX.out HSX.out HLEN.out (fun t ht => (HOK.out t ht).ok)
  rw [HK1.out] at hc
  refine wpList_enterG rfl 13 #[.slice (some ⟨g, 0, none⟩) n n, .int .u64 (chain : Int)] (exec_call2 _ (.tmp 80) (.tmp 81) _ rfl _ _ rfl rfl (enters_of Tryz.func13 (by kernel_rfl) rfl _ _)) (hc.mono ?_)
  clear hc
  rintro e w5 ⟨rfl, hg⟩
  have HG := Lib.hid (grown_self HG.out hg (by simp))
  clear hg q5 q6
  refine ⟨_, rfl, ?_⟩
  simp only [Act.put, jb, jz, js]
  refine wpList_valueG rfl (.bool true) (by go_simp <;> rfl) ?_
  simp only [Act.put, jb, jz, js]
  refine wpList_value rfl (.bool true) (exec_pickC (.tmp 79) (.tmp 83) _ rfl true rfl _ rfl) ?_
  simp only [Act.put, jb, jz, js]
  refine wpList_value rfl (.bool true) (by go_simp <;> rfl) ?_
  simp only [Act.put, jb, jz, js]
  refine wpList_nil ?_
  go_wp2_with fail
  go_ret
  exact ⟨rfl, HG.out⟩
open Go.ChangeShapes Go.WideShapes Go.ChangeAt Go.RowKit Go.Deep Go.Joins
section
variable {H : Type} {enc : TypeId × Value → H} {P : Program} {w : World} {base : Nat} {spare : Nat → Bool} {held : Bool}
theorem open_slice_fields {t e : TypeId} {fs : Array Field} {fuel : Nat} {cs : List Value} {x : DataW H × List MemPlace} (ht : P.underlying t = some (.slice e)) (he : P.underlying e = some (.struct fs))
  (hone : oneCellFields P fs = true) (hC : P.cellsOf e = fs.size) (h : DataW.trod enc P w base spare held fuel t cs = some x) :
  (cs = [.slice none 0 0] ∧ x = (.nil, [])) ∨
  ∃ (a : Addr) (len cap m : Nat) (D : Nat → DataW H) (Pl : Nat → List MemPlace), cs = [.slice (some a) len cap] ∧ base ≤ a.block ∧ len ≤ cap ∧ cap ≤ maxLen ∧ m = (if spare a.block then cap else len) ∧
   x = (.slice ((List.range len).map D) ((List.range (m - len)).map fun j => D (len + j)), MemPlace.row a (m * fs.size) ++ (List.range m).flatMap Pl) ∧
   ∀ i, i < m → ∃ (ys : List (DataW H × List MemPlace)) (n : Nat), D i = .agg (ys.map (·.1)) ∧ Pl i = ys.flatMap (·.2) ∧ ys.length = fs.size ∧
    ∀ (j : Nat) (f : Field), fs[j]? = some f → ∃ (v : Value) (y : DataW H × List MemPlace), w.cell? (a.add (i * fs.size + j)) = some v ∧ ys[j]? = some y ∧ DataW.trod enc P w base spare held n f.type [v] = some y := by
 rcases open_slice ht h with h0 | ⟨a, len, cap, m, n, D, Pl, hcs, hb, hl, hm, hmm, hx, hi⟩
 ·exact .inl h0
 ·refine .inr ⟨a, len, cap, m, D, Pl, hcs, hb, hl, hm, hmm, by rw [hC] at hx; exact hx, fun i him => ?_⟩
  obtain ⟨cs', hc, ht'⟩ := hi i him
  rw [hC] at hc
  obtain ⟨ys, n', hn', hy, hlen, hyl, hf⟩ := DataW.trod_struct he ht'
  obtain ⟨_, hcl, hat⟩ := World.cells?_some hc
  simp only [Prod.mk.injEq] at hy
  refine ⟨ys, n', hy.1, hy.2, hyl, fun j f hj => ?_⟩
  obtain ⟨ho, hk⟩ := hone_of hone j f hj
  have hjl : j < fs.size := (Array.getElem?_eq_some_iff.1 hj).1
  have hcell := hat j hjl
  have hv : cs'[j]? = some (cs'[j]'(by omega)) := List.getElem?_eq_getElem (by omega)
  have h1 := hf j f hj
  rw [ho, hk] at h1
  have hone' : (cs'.drop j).take 1 = [cs'[j]'(by omega)] := by
   rw [List.drop_eq_getElem_cons (by omega)]
   rfl
  rw [hone'] at h1
  have hys : ys[j]? = some (ys[j]'(by omega)) := List.getElem?_eq_getElem (by omega)
  refine ⟨_, _, ?_, hys, h1.trans hys⟩
  rw [← Go.Deep.add_add, hcell, hv]
end
section
variable {H : Type} {enc : TypeId × Value → H} {P : Program} {w : World} {base : Nat} {spare : Nat → Bool} {held : Bool}
end
section
variable {H : Type} {enc : TypeId × Value → H} {P : Program}
end
section
variable {H : Type} {enc : TypeId × Value → H} {P : Program} {w : World} {base : Nat} {spare : Nat → Bool} {held : Bool}
theorem wf_u64 {a : Int} (h : (Lit.int .u64 a).wf = true) : 0 ≤ a ∧ a ≤ 18446744073709551615 := by simpa [Lit.wf, IntKind.min, IntKind.max, IntKind.signed, IntKind.bits] using h
end
section
variable {H : Type} {enc : TypeId × Value → H} {P : Program}
theorem trodAll_below (hl : laidOutB P = true) {W W' : World} (hb : Below W.heap.size W W') : ∀ {ts : List TypeId} {vs : List Value} {ds : List (DataW H)} {ps : List MemPlace},
  (ts.all fun t => P.readableRec t && decide (t < P.types.size)) = true → DataW.TrodAll enc P W 0 (fun _ => true) true ts vs ds ps → DataW.TrodAll enc P W' 0 (fun b => decide (b < W.heap.size)) true ts vs ds ps
 | [], [], [], _, _, h => h
 | [], [], _ :: _, _, _, h => h.elim
 | [], _ :: _, _, _, _, h => h.elim
 | _ :: _, [], _, _, _, h => h.elim
 | _ :: _, _ :: _, [], _, _, h => h.elim
 | t :: ts, v :: vs, d :: ds, ps, hT, h => by
  obtain ⟨p, q, h1, h2, e⟩ := h
  simp only [List.all_cons, Bool.and_eq_true, decide_eq_true_eq] at hT
  refine ⟨p, q, Below.trod hl hT.1.1 hT.1.2 h1 hb ?_, trodAll_below hl hb (by simpa using hT.2) h2, e⟩
  obtain ⟨m, hm⟩ := h1
  exact DataW.trod_lt m _ _ _ hm
theorem law_post {f : Func} {s : ChangeSpec} {W W' : World} {args : Array Value} {ds gs : List (DataW H)} {before : List MemPlace} {tb : TypeId} (hv : s.vars = []) (hl : laidOutB P = true)
  (hT : (f.params.toList.all fun t => P.readableRec t && decide (t < P.types.size)) = true) (hr : f.resultTypes = #[tb]) (hb : P.underlying tb = some .bool)
  (hs : s.fn H (ds ++ gs) = { results := [.lit (.bool true)], args := ds })
  (hW : DataW.Whole enc P f.params.toList s.vars false W args.toList ds gs before) (bel : Below W.heap.size W W') :
  s.post enc P f false true false false W args (.bool true) W' := by
 have hW' := hW
 obtain ⟨p, q, hA, hV, he, hz, hn⟩ := hW
 rw [hv] at hV
 have hV' := hV
 obtain rfl : gs = [] := by cases gs with | nil => rfl | cons _ _ => exact hV.elim
 obtain rfl : q = [] := hV
 refine ⟨ds, [], before, [], p, [], hW', ?_, ?_, ?_, bel.frame _, fun h => by cases h⟩
 ·rw [hs, hr]
  exact trodAll_mk1 (shut_bool hb _)
 ·rw [hs]
  exact trodAll_below hl bel hT hA
 ·rw [hs, hv]
  rfl
end
theorem fewTx_any (a : TxV) (B : Nat) (sa sb : Value) (w : World) (ha : TxIn B w a sa sb) (hB : B ≤ w.heap.size) :
  Calls Tryz.prog 18 #[.agg (txC a sa sb)] w fun e w' => (∃ b, e = .returned (.bool b)) ∧ w.grownBy w' none := by
 have hG := only_alloc (World.grownBy.refl w none) (.cells (txC a sa sb) 42)
 have hb1 := Blk.new w 42 (txC a sa sb)
 have hA := ha.grown hG hB
 have hS := Nat.le_trans hB hG.size
 obtain ⟨⟨p, c, rfl, acc⟩, ⟨p', c', rfl, aut⟩, la, lb⟩ := hA
 obtain ⟨g, hg⟩ : ∃ g, w.heap.size = g := ⟨_, rfl⟩
 obtain ⟨w1, hw1⟩ : ∃ x, w.alloc (.cells (txC a (.slice p a.acc.length c) (.slice p' a.auths.length c')) 42) = x := ⟨_, rfl⟩
 rw [hg, hw1] at hb1
 rw [hw1] at hG acc aut hS
 have c17 : w1.cell? ⟨g, 17, none⟩ = some (.string a.data) := (hb1.cell 17).trans rfl
 have c18 : w1.cell? ⟨g, 18, none⟩ = some (Value.slice p a.acc.length c) := (hb1.cell 18).trans rfl
 have c19 : w1.cell? ⟨g, 19, none⟩ = some (Value.slice p' a.auths.length c') := (hb1.cell 19).trans rfl
 have c12 : w1.cell? ⟨g, 12, none⟩ = some (.string a.dst) := (hb1.cell 12).trans rfl
 have c29 : w1.cell? ⟨g, 29, none⟩ = some (.string a.source) := (hb1.cell 29).trans rfl
 have c30 : w1.cell? ⟨g, 30, none⟩ = some (.string a.frm) := (hb1.cell 30).trans rfl
 generalize hca : txC a (.slice p a.acc.length c) (.slice p' a.auths.length c') = ca at *
 have HACC := Lib.hid acc; have HAUT := Lib.hid aut; have HS := Lib.hid hS; have HG := Lib.hid hG; have LA := Lib.hid la; have LB := Lib.hid lb
 have si : ca.size = 36 := by rw [← hca]; rfl
 clear hG ha hB hS acc aut la lb hca hb1
 go_enter Tryz.func18, Tryz.ntmps18
 go_upto_region 1 with (fail)
 (try rw [hg])
 (try rw [hw1])
 clear hg hw1 si
 go_cut [45] (fun v wx => ∃ b, v = .bool b ∧ w1 = wx)
 case first =>
  go_wp2_with fail
  all_goals (try go_meet)
  all_goals exact ⟨_, rfl, rfl⟩
 case rest =>
  obtain ⟨b, rfl, rfl⟩ := hcut
  cases b with
  | true =>
   go_wp2_with fail
   go_ret
   exact ⟨⟨_, rfl⟩, HG.out⟩
  | false =>
   obtain ⟨N, hN⟩ : ∃ N, a.acc.length = N := ⟨_, rfl⟩
   obtain ⟨M, hM⟩ : ∃ N, a.auths.length = N := ⟨_, rfl⟩
   rw [hN] at c18 HACC LA
   rw [hM] at c19 HAUT LB
   clear hN hM c17 c12 c29 c30
   go_wp2_with fail
   go_loopw [3] (fun v wr => ∃ k : Nat, v = .int .i64 k ∧ k ≤ N ∧ w1 = wr) (fun v _ => N - (intOf v).toNat)
   case atStart => exact ⟨0, rfl, Nat.zero_le _, rfl⟩
   case round =>
    obtain ⟨k, rfl, hk, rfl⟩ := hrel
    by_cases hlt : k < N
    ·obtain ⟨g1, off, T, tc, x, rfl, hx, _, c0, c1, hT, hTn⟩ := HACC.out.at_ hlt
     have q1 : (k : Int) < (N : Int) := by omega
     obtain ⟨K, hK⟩ : ∃ K, x.keys.length = K := ⟨_, rfl⟩
     rw [hK] at c1 hT hTn
     have HT := Lib.hid hT; have HTN := Lib.hid hTn
     have HKK := Lib.hid hK
     clear hx hT hTn hK
     go_upto_region 6 with (fail)
     go_cut [70] (fun v wx => ∃ b, v = .bool b ∧ w1 = wx)
     case first =>
      go_wp2_with fail
      all_goals (try go_meet)
      all_goals exact ⟨_, rfl, rfl⟩
     case rest =>
      obtain ⟨b, rfl, rfl⟩ := hcut
      cases b with
      | true =>
       go_wp2_with fail
       go_ret
       exact ⟨⟨_, rfl⟩, HG.out⟩
      | false =>
       go_wp2_with fail
       go_loopw [4] (fun v wr => ∃ j : Nat, v = .int .i64 j ∧ j ≤ K ∧ w1 = wr) (fun v _ => K - (intOf v).toNat)
       case atStart => exact ⟨0, rfl, Nat.zero_le _, rfl⟩
       case round =>
        obtain ⟨j, rfl, hj, rfl⟩ := hrel
        by_cases hjl : j < K
        ·have q2 : (j : Int) < (K : Int) := by omega
         obtain ⟨gk, ok, hT, hgk, hck⟩ := Reads.vals Value.string .empty HT.out hjl
         have d0 := hck j hjl
         obtain ⟨y, hy⟩ : ∃ y, x.keys.getD j .empty = y := ⟨_, rfl⟩
         rw [hy] at d0
         subst hT
         clear hck hgk hy
         by_cases hl : 100 < y.size
         ·have q3 : (100 : Int) < (y.size : Int) := by omega
          clear hl
          go_wp2_with fail
          go_ret
          exact ⟨⟨_, rfl⟩, HG.out⟩
         ·have q3 : decide ((100 : Int) < (y.size : Int)) = false := decide_eq_false (by omega)
          have q4 : (y.size : Int) ≤ 100 := by omega
          have hwj : IntKind.i64.wrap ((j : Int) + 1) = ((j + 1 : Nat) : Int) := wrap_natC (k := j + 1) (by have := HTN.out; omega)
          clear hl
          go_wp2_with fail
          go_roundw
          case rel => exact ⟨j + 1, by go_num, by omega, trivial⟩
          case measure => simp [intOf]; omega
        ·have q2 : ¬ ((j : Int) < (K : Int)) := by omega
         have hwk : IntKind.i64.wrap ((k : Int) + 1) = ((k + 1 : Nat) : Int) := wrap_natC (k := k + 1) (by have := LA.out; omega)
         clear hj hjl
         go_wp2_with fail
         go_roundw
         case rel => exact ⟨k + 1, by go_num, by omega, trivial⟩
         case measure => simp [intOf]; omega
    ·have q1 : ¬ ((k : Int) < (N : Int)) := by omega
     clear hk hlt
     go_wp2_with fail
     go_loopw [5] (fun v wr => ∃ k : Nat, v = .int .i64 k ∧ k ≤ M ∧ w1 = wr) (fun v _ => M - (intOf v).toNat)
     case atStart => exact ⟨0, rfl, Nat.zero_le _, rfl⟩
     case round =>
      obtain ⟨k2, rfl, hk2, rfl⟩ := hrel
      by_cases hlt2 : k2 < M
      ·obtain ⟨g1, off, x, rfl, hx, _, hcx⟩ := HAUT.out.at_ hlt2
       have q2 : (k2 : Int) < (M : Int) := by omega
       have d0 : w1.cell? ⟨g1, off + k2 * 12 + 1, none⟩ = some (.string x.addr) := hcx 1 _ rfl
       obtain ⟨y, hy⟩ : ∃ y, x.addr = y := ⟨_, rfl⟩
       rw [hy] at d0
       clear hcx hx hy
       by_cases hl : 100 < y.size
       ·have q3 : (100 : Int) < (y.size : Int) := by omega
        clear hl
        go_wp2_with fail
        go_ret
        exact ⟨⟨_, rfl⟩, HG.out⟩
       ·have q3 : decide ((100 : Int) < (y.size : Int)) = false := decide_eq_false (by omega)
        have q4 : (y.size : Int) ≤ 100 := by omega
        have hwk : IntKind.i64.wrap ((k2 : Int) + 1) = ((k2 + 1 : Nat) : Int) := wrap_natC (k := k2 + 1) (by have := LB.out; omega)
        clear hl
        go_wp2_with fail
        go_roundw
        case rel => exact ⟨k2 + 1, by go_num, by omega, trivial⟩
        case measure => simp [intOf]; omega
      ·have q2 : ¬ ((k2 : Int) < (M : Int)) := by omega
       clear hk2 hlt2
       go_wp2_with fail
       go_ret
       exact ⟨.inr rfl, HG.out⟩
def FewEnd (n : Nat) (w : World) (e : Ending) (w' : World) : Prop := (∃ b, e = .returned (.bool b) ∧ (b = true → n ≤ 12)) ∧ w.grownBy w' none
theorem FewEnd.t {n : Nat} {w w' : World} (h : n ≤ 12) (hg : w.grownBy w' none) : FewEnd n w (.returned (.bool true)) w' := ⟨⟨_, rfl, fun _ => h⟩, hg⟩
theorem FewEnd.f {n : Nat} {w w' : World} (hg : w.grownBy w' none) : FewEnd n w (.returned (.bool false)) w' := ⟨⟨_, rfl, fun h => by cases h⟩, hg⟩
theorem fewTxs_any (B : Nat) (A : Option Addr) (n c : Nat) (ls : List TxV) (w : World) (h : TxsR B w ls A n) (hB : B ≤ w.heap.size) (hn : n ≤ 9223372036854775807) :
  Calls Tryz.prog 9 #[.slice A n c] w (FewEnd n w) := by
 have HH := Lib.hid h; have HB := Lib.hid hB; have HN := Lib.hid hn
 clear h hB hn
 go_enter Tryz.func9, Tryz.ntmps9
 go_wp2_with fail
 go_loopw [3] (fun v wr => ∃ k : Nat, v = .int .i64 k ∧ k ≤ n ∧ w.grownBy wr none) (fun v _ => n - (intOf v).toNat)
 case atStart => exact ⟨0, rfl, Nat.zero_le _, World.grownBy.refl _ _⟩
 case round =>
  obtain ⟨k, rfl, hk, hg⟩ := hrel
  have HG := Lib.hid hg
  by_cases hlt : k < n ∧ k ≤ 12
  ·obtain ⟨h1, h2⟩ := hlt
   obtain ⟨g, off, sa, sb, x, rfl, hx, _, hcx, hix⟩ := (HH.out.grown hg HB.out).at_ h1
   have q1 : (k : Int) < (n : Int) := by omega
   have q2 : (k : Int) ≤ 12 := by omega
   have HC := Lib.hid (fewTx_any x B sa sb wr hix (Nat.le_trans HB.out hg.size))
   have hw : IntKind.i64.wrap ((k : Int) + 1) = ((k + 1 : Nat) : Int) := wrap_natC (k := k + 1) (by omega)
   have HW := Lib.hid hw
   obtain ⟨cx, hcx2⟩ : ∃ z, txC x sa sb = z := ⟨_, rfl⟩
   have ex : txL x sa sb = cx.toList := by rw [← hcx2]; rfl
   rw [hcx2] at HC
   rw [ex] at hcx
   have zx : cx.toList.length = 36 := by rw [← ex]; rfl
   have HCX := Lib.hid hcx; have HZX := Lib.hid zx
   clear hx hcx hix hw hcx2 ex zx hg
   go_upto_region 4 with (fail)
   refine wp_region_list ?_
   refine zm 0 (.slice (some ⟨g, off, none⟩) n c) rfl ?_
   simp only [Act.put, jb, jz, js]
   refine zm 3 (.int .i64 (k : Int)) rfl ?_
   simp only [Act.put, jb, jz, js]
   refine wpList_value rfl (.pointer (some ⟨g, off + k * 36, none⟩)) (by go_simp <;> first | rfl | simp [Nat.mul_comm]) ?_
   simp only [Act.put, jb, jz, js]
   refine wpList_value rfl (.agg cx) (exec_load_mid rfl rfl cx.toList HCX.out _ Tryz.underlying42 rfl (by rw [HZX.out]; kernel_rfl)) ?_
   simp only [Act.put, jb, jz, js]
   refine wpList_enter rfl 18 #[.agg cx] (exec_call1 _ (.tmp 18) _ rfl _ rfl (enters_of Tryz.func18 (by kernel_rfl) rfl _ _)) (HC.out.mono ?_)
   rintro e w3 ⟨⟨b, rfl⟩, hg3⟩
   have HG3 := Lib.hid (grown_self HG.out hg3 (by simp))
   clear hg3 HC HCX HZX
   refine ⟨_, rfl, ?_⟩
   simp only [Act.put, jb, jz, js]
   refine wpList_value rfl (.bool b) (by go_simp <;> rfl) ?_
   simp only [Act.put, jb, jz, js]
   refine wpList_nil ?_
   have hw := HW.out
   cases b with
   | true =>
    go_wp2_with fail
    go_roundw
    case rel => exact ⟨k + 1, by go_num, by omega, HG3.out⟩
    case measure => simp [intOf]; omega
   | false =>
    go_wp2_with fail
    go_ret
    exact FewEnd.f HG3.out
  ·by_cases h1 : k < n
   ·have q1 : (k : Int) < (n : Int) := by omega
    have q2 : decide ((k : Int) ≤ 12) = false := decide_eq_false (by omega)
    have q4 : ¬ ((k : Int) ≤ 12) := by omega
    by_cases h3 : n ≤ 12
    ·have q3 : (n : Int) ≤ 12 := by omega
     have HN12 := Lib.hid h3
     clear hlt h1 h3 hg
     go_wp2_with fail
     go_ret
     exact FewEnd.t HN12.out HG.out
    ·have q3 : decide ((n : Int) ≤ 12) = false := decide_eq_false (by omega)
     clear hlt h1 h3 hg
     go_wp2_with fail
     go_ret
     exact FewEnd.f HG.out
   ·have q1 : decide ((k : Int) < (n : Int)) = false := decide_eq_false (by omega)
    have q5 : ¬ ((k : Int) < (n : Int)) := by omega
    by_cases h3 : n ≤ 12
    ·have q3 : (n : Int) ≤ 12 := by omega
     have HN12 := Lib.hid h3
     clear hlt h1 h3 hg
     go_wp2_with fail
     go_ret
     exact FewEnd.t HN12.out HG.out
    ·have q3 : decide ((n : Int) ≤ 12) = false := decide_eq_false (by omega)
     clear hlt h1 h3 hg
     go_wp2_with fail
     go_ret
     exact FewEnd.f HG.out
end Go.Proofs.YtgclnikdkfpflaaGreatDoor
