/- Merged: FldZ0, SngQ, MemD, SngA, SngB, SngC, SngD. -/
import Derived.Test.YtagjpbcmhaekpaaGreatDoorMg10
import Derived.Deep.DeepCutAuto
/- What an item is that may be, and what is read of it: plain laws of fields. -/
namespace Go.Proofs.YtagjpbcmhaekpaaGreatDoor
open Go.RowKit Go.Shelf
set_option linter.unusedVariables false
set_option linter.unusedSimpArgs false

theorem ba_same6 {s : ByteArray} : (⟨s.data.toList.toArray⟩ : ByteArray) = s := by cases s; rfl
theorem ba_empty6 {s : ByteArray} (h : s.size = 0) : s = ⟨#[]⟩ := by
  rcases s with ⟨⟨l⟩⟩
  have : l.length = 0 := h
  cases l with
  | nil => rfl
  | cons a b => simp at this
/-- what an item is that may be -/
theorem only_leaf {s : ByteArray} {xs : List Itm} (h : checkI (.mk false s xs) = 0) : xs = [] ∧ s.size ≤ 65536 := by
  unfold checkI at h
  split at h
  · rename_i h1; exact absurd h h1
  rename_i h1
  split at h
  · cases h
  rename_i h2
  have h1 : formF (.mk false s xs) 0 = 0 := by simpa using h1
  rw [formF_eq] at h1
  have h3 : xs.length = 0 := by
    by_cases h4 : xs.length = 0
    · exact h4
    · rw [if_pos (.inr ⟨rfl, h4⟩)] at h1; cases h1
  refine ⟨List.length_eq_zero_iff.1 h3, ?_⟩
  have e : bytesF (.mk false s xs) = bytesT s := by rw [bytesF_eq]; rfl
  rw [e] at h2
  have hl : s.data.toList.length = s.size := Array.length_toList
  unfold bytesT at h2
  split at h2
  · omega
  · rw [List.length_append] at h2; omega
theorem formL_all {xs : List Itm} {d : Nat} (h : formL xs d = 0) : ∀ y ∈ xs, formF y d = 0 := by
  induction xs with
  | nil => intro y hy; cases hy
  | cons x xs ih =>
    rw [formL] at h
    by_cases h1 : formF x d = 0
    · rw [if_neg (by simp [h1])] at h
      intro y hy
      rcases List.mem_cons.1 hy with e | e
      · exact e ▸ h1
      · exact ih h y e
    · rw [if_pos h1] at h; exact absurd h h1
theorem only_list {s : ByteArray} {xs : List Itm} (h : checkI (.mk true s xs) = 0) : s = ⟨#[]⟩ ∧ xs.length ≤ 512 ∧ ∀ y ∈ xs, y.list = false → y.items = [] := by
  unfold checkI at h
  split at h
  · rename_i h1; exact absurd h h1
  rename_i h1
  have h1 : formF (.mk true s xs) 0 = 0 := by simpa using h1
  rw [formF_eq] at h1
  split at h1
  · cases h1
  rename_i h2
  split at h1
  · rename_i h3; cases h3
  split at h1
  · cases h1
  split at h1
  · cases h1
  rename_i h512
  have h512 : ¬ 512 < xs.length := h512
  refine ⟨ba_empty6 (by
    by_cases h4 : s.size = 0
    · exact h4
    · exact absurd (.inl ⟨rfl, h4⟩) h2), by omega, fun y hy hl => ?_⟩
  have := formL_all h1 y hy
  rw [formF_eq] at this
  by_cases h5 : y.items.length = 0
  · exact List.length_eq_zero_iff.1 h5
  · rw [if_pos (.inr ⟨hl, h5⟩)] at this; cases this
theorem gtx_all {ys : List Itm} {a b : Int} (h : gtxE ys a b = 0) : ∀ y ∈ ys, y.list = false := by
  induction ys with
  | nil => intro y hy; cases hy
  | cons x xs ih =>
    rw [gtxE] at h
    by_cases h1 : tE x a b = 0
    · rw [if_neg (by simp [h1])] at h
      intro y hy
      rcases List.mem_cons.1 hy with e | e
      · subst e
        unfold tE at h1
        cases hl : y.list with
        | false => rfl
        | true => rw [hl] at h1; cases h1
      · exact ih h y e
    · rw [if_pos h1] at h; exact absurd h h1
theorem only_texts {s : ByteArray} {xs : List Itm} {n : Nat} (hn : n = xs.length) (h : checkI (.mk true s xs) = 0) (hg : gtE true n 600 0 70000 xs = 0) : n ≤ 600 ∧ (xs.map Itm.bytes).map txt = xs := by
  obtain ⟨-, -, h2⟩ := only_list h
  have hE : textE n 0 600 = 0 ∧ gtxE (gtYs true n 600 xs) 0 70000 = 0 := by
    unfold gtE at hg
    split at hg
    · rename_i h1; exact absurd hg h1
    · rename_i h1; exact ⟨hg, by simpa using h1⟩
  have h3 : gtYs true n 600 xs = xs := if_pos ⟨rfl, hE.1⟩
  rw [h3] at hE
  refine ⟨?_, ?_⟩
  · have h4 := hE.1
    unfold textE at h4
    by_cases h5 : (600 : Int) < (n : Int)
    · rw [if_neg (by omega), if_pos h5] at h4; cases h4
    · omega
  · rw [List.map_map]
    refine (List.map_congr_left fun y hy => ?_).trans (List.map_id _)
    have e1 := gtx_all hE.2 y hy
    have e2 := h2 y hy e1
    rcases y with ⟨l, b, ys⟩
    have e1 : l = false := e1
    have e2 : ys = [] := e2
    subst e1; subst e2; rfl
end Go.Proofs.YtagjpbcmhaekpaaGreatDoor
/- Batches of one block, plain: what is got is put just so; one transaction more. -/
namespace Go.Proofs.YtagjpbcmhaekpaaGreatDoor
open Go.RowKit Go.Shelf
set_option linter.unusedVariables false
set_option linter.unusedSimpArgs false

theorem leaf_of {y : Itm} {d : Nat} (hl : y.list = false) (hf : formF y d = 0) : y = txt y.bytes := by
  rw [formF_eq] at hf
  have h : y.items = [] := by
    by_cases h5 : y.items.length = 0
    · exact List.length_eq_zero_iff.1 h5
    · rw [if_pos (.inr ⟨hl, h5⟩)] at hf; cases hf
  rcases y with ⟨l, b, ys⟩
  have hl : l = false := hl
  have h : ys = [] := h
  subst hl; subst h; rfl
theorem tE_0 {y : Itm} {a b : Int} (h : tE y a b = 0) : y.list = false ∧ a ≤ (y.bytes.size : Int) ∧ (y.bytes.size : Int) ≤ b := by
  unfold tE at h
  split at h
  · cases h
  rename_i h1
  have h1 : y.list = false := by simpa using h1
  unfold textE at h
  split at h
  · cases h
  split at h
  · cases h
  exact ⟨h1, by omega, by omega⟩
theorem gtx_0 {ys : List Itm} {a b : Int} (h : gtxE ys a b = 0) : ∀ y ∈ ys, tE y a b = 0 := by
  induction ys with
  | nil => intro y hy; cases hy
  | cons x xs ih =>
    rw [gtxE] at h
    by_cases h1 : tE x a b = 0
    · rw [if_neg (by simp [h1])] at h
      intro y hy
      rcases List.mem_cons.1 hy with e | e
      · exact e ▸ h1
      · exact ih h y e
    · rw [if_pos h1] at h; exact absurd h h1
theorem ba_of_list {s : ByteArray} {l : List UInt8} (h : l = s.data.toList) : (⟨l.toArray⟩ : ByteArray) = s := by subst h; cases s; rfl
theorem numB_only {l : Bool} {s : ByteArray} (h : numE l s = 0) : l = false ∧ numB (numV l s) = s ∧ numV l s < 18446744073709551616 := by
  obtain ⟨h1, h2⟩ := number_only h
  refine ⟨h1, ba_of_list h2, ?_⟩
  have key : unbeN s.data.toList < 18446744073709551616 := by
    by_cases g1 : 8 < s.data.toList.length
    · rw [show unbeN s.data.toList = 0 from if_pos g1]; decide
    · rw [show unbeN s.data.toList = parseP s.data.toList 0 from if_neg g1]
      by_cases g2 : parseE s.data.toList = 0
      · rw [show parseP s.data.toList 0 = wp (beV s.data.toList) 0 from if_pos g2]; exact wp_lt _ _
      · rw [show parseP s.data.toList 0 = 0 from if_neg g2]; decide
  rw [show numV l s = unbeN s.data.toList from if_pos h]
  exact key
/-- a list's row of texts, read -/
theorem gt_only {e : Itm} {n : Nat} (hn : n = e.items.length) (hf : formF e 1 = 0) (hg : gtE e.list n 32 1 4096 e.items = 0) : e = .mk true ⟨#[]⟩ ((e.items.map Itm.bytes).map txt) ∧ n ≤ 32 ∧ ∀ x ∈ e.items.map Itm.bytes, 1 ≤ x.size ∧ x.size ≤ 4096 := by
  have hl : e.list = true := by
    cases hh : e.list with
    | true => rfl
    | false =>
      rw [hh] at hg
      unfold gtE at hg
      rw [show gtYs false n 32 e.items = [] from if_neg (by rintro ⟨g, _⟩; cases g)] at hg
      rw [if_neg (by simp [gtxE])] at hg
      cases hg
  rw [hl] at hg
  have hE : textE n 0 32 = 0 ∧ gtxE (gtYs true n 32 e.items) 1 4096 = 0 := by
    unfold gtE at hg
    split at hg
    · rename_i h1; exact absurd hg h1
    · rename_i h1; exact ⟨hg, by simpa using h1⟩
  have h3 : gtYs true n 32 e.items = e.items := if_pos ⟨rfl, hE.1⟩
  rw [h3] at hE
  have hx := gtx_0 hE.2
  rw [formF_eq] at hf
  split at hf
  · cases hf
  rename_i h5
  rw [if_neg (by rw [hl]; simp), if_neg (by decide)] at hf
  split at hf
  · cases hf
  have hfl := formL_all hf
  have hb : e.bytes = ⟨#[]⟩ := ba_empty6 (by
    by_cases h4 : e.bytes.size = 0
    · exact h4
    · exact absurd (.inl ⟨hl, h4⟩) h5)
  have hi : (e.items.map Itm.bytes).map txt = e.items := by
    rw [List.map_map]
    exact (List.map_congr_left fun y hy => (leaf_of (tE_0 (hx y hy)).1 (hfl y hy)).symm).trans (List.map_id _)
  refine ⟨?_, ?_, fun x h => ?_⟩
  · rw [hi]
    rcases e with ⟨l, b, ys⟩
    have hl : l = true := hl
    have hb : b = ⟨#[]⟩ := hb
    rw [hl, hb]; rfl
  · have h4 := hE.1
    unfold textE at h4
    by_cases h5 : (32 : Int) < (n : Int)
    · rw [if_neg (by omega), if_pos h5] at h4; cases h4
    · omega
  · obtain ⟨y, hy, rfl⟩ := List.mem_map.1 h
    have := tE_0 (hx y hy)
    omega
/-- WHAT IS GOT IS PUT JUST SO -/
theorem getS_only {l : List UInt8} (h : getSE l = 0) : putSE (getSB l) = 0 ∧ putSL (getSB l) = l ∧ (getSB l).Ok ∧ checkS (getSB l) = 0 := by
  have hB : getSB l = match decodeF (l.drop 1) with
    | .error _ => Sgl.zero
    | .ok x => fieldsS x.items := if_pos h
  unfold getSE at h
  split at h
  · cases h
  rename_i h1
  split at h
  · cases h
  rename_i h2
  have h2 : l.getD 0 0 = 0 := by simpa using h2
  cases hd : decodeF (l.drop 1) with
  | error e =>
    rw [hd] at h
    have h : (if e = 0 then (3 : Int) else e) = 0 := h
    split at h
    · cases h
    · rename_i g; exact absurd h g
  | ok x =>
    rw [hd] at h hB
    replace h : (if (if x.list then textE x.items.length 5 5 else 2) ≠ 0 then (if x.list then textE x.items.length 5 5 else 2) else fieldsE x.items) = 0 := h
    replace hB : getSB l = fieldsS x.items := hB
    obtain ⟨d1, d2, -⟩ := decode_only hd
    have hxl : x.list = true := by
      cases hh : x.list with
      | true => rfl
      | false => rw [hh] at h; exact absurd h (by simp)
    rw [hxl] at h
    have hG : textE x.items.length 5 5 = 0 := by
      by_cases g : textE x.items.length 5 5 = 0
      · exact g
      · rw [show (if true then textE x.items.length 5 5 else 2) = textE x.items.length 5 5 from rfl, if_pos g] at h; exact h
    replace h : fieldsE x.items = 0 := by
      rw [show (if true then textE x.items.length 5 5 else 2) = textE x.items.length 5 5 from rfl, if_neg (by rw [hG]; simp)] at h; exact h
    have h5 : x.items.length = 5 := by
      unfold textE at hG
      split at hG
      · cases hG
      split at hG
      · cases hG
      omega
    obtain ⟨a, b, c, d, e, hi⟩ : ∃ a b c d e, x.items = [a, b, c, d, e] := by
      match hx : x.items, h5 with
      | [a, b, c, d, e], _ => exact ⟨a, b, c, d, e, rfl⟩
    have hx0 : x.bytes = ⟨#[]⟩ ∧ ∀ y ∈ x.items, formF y 1 = 0 := by
      unfold checkI at d1
      split at d1
      · rename_i g1; exact absurd d1 g1
      rename_i g1
      have g1 : formF x 0 = 0 := by simpa using g1
      rw [formF_eq] at g1
      split at g1
      · cases g1
      rename_i g2
      rw [if_neg (by rw [hxl]; simp), if_neg (by decide)] at g1
      split at g1
      · cases g1
      exact ⟨ba_empty6 (by
        by_cases h4 : x.bytes.size = 0
        · exact h4
        · exact absurd (.inl ⟨hxl, h4⟩) g2), formL_all g1⟩
    rw [hi] at h hB hx0
    obtain ⟨hb0, hf⟩ := hx0
    replace h : (if tE a 32 32 ≠ 0 then tE a 32 32 else if numE b.list b.bytes ≠ 0 then numE b.list b.bytes else if tE c 32 32 ≠ 0 then tE c 32 32 else if numE d.list d.bytes ≠ 0 then numE d.list d.bytes else gtE e.list e.items.length 32 1 4096 e.items) = 0 := h
    split at h
    · rename_i q; exact absurd h q
    rename_i q1
    split at h
    · rename_i q; exact absurd h q
    rename_i q2
    split at h
    · rename_i q; exact absurd h q
    rename_i q3
    split at h
    · rename_i q; exact absurd h q
    rename_i q4
    have q1 : tE a 32 32 = 0 := by simpa using q1
    have q2 : numE b.list b.bytes = 0 := by simpa using q2
    have q3 : tE c 32 32 = 0 := by simpa using q3
    have q4 : numE d.list d.bytes = 0 := by simpa using q4
    obtain ⟨a1, a2, a3⟩ := tE_0 q1
    obtain ⟨c1, c2, c3⟩ := tE_0 q3
    obtain ⟨b1, b2, b3⟩ := numB_only q2
    obtain ⟨e1, e2, e3⟩ := numB_only q4
    obtain ⟨t1, t2, t3⟩ := gt_only rfl (hf e (by simp)) h
    have hxi : itemS (fieldsS [a, b, c, d, e]) = x := by
      show Itm.mk true ⟨#[]⟩ [txt a.bytes, txt (numB (numV b.list b.bytes)), txt c.bytes, txt (numB (numV d.list d.bytes)), .mk true ⟨#[]⟩ ((e.items.map Itm.bytes).map txt)] = x
      rw [b2, e2, ← t1, ← leaf_of a1 (hf a (by simp)), ← leaf_of b1 (hf b (by simp)), ← leaf_of c1 (hf c (by simp)), ← leaf_of e1 (hf d (by simp)), ← hi]
      rcases x with ⟨l0, b0, ys⟩
      have hxl : l0 = true := hxl
      have hb0 : b0 = ⟨#[]⟩ := hb0
      rw [hxl, hb0]; rfl
    have hc : checkS (fieldsS [a, b, c, d, e]) = 0 := checkS_0.2 ⟨by show a.bytes.size = 32; omega, by show c.bytes.size = 32; omega, by show (e.items.map Itm.bytes).length ≤ 32; rw [List.length_map]; exact t2, t3⟩
    have hp : putSE (fieldsS [a, b, c, d, e]) = 0 := by unfold putSE; rw [if_neg (by rw [hc]; simp), hxi]; exact d1
    rw [hB]
    refine ⟨hp, ?_, ⟨b3, e3⟩, hc⟩
    unfold putSL
    rw [if_pos hp, hxi, d2]
    cases l with
    | nil => exact absurd rfl h1
    | cons u r => have h2 : u = 0 := h2; rw [h2]; rfl
theorem getS_bad {l : List UInt8} (h : getSE l ≠ 0) : getSB l = Sgl.zero := if_neg h
end Go.Proofs.YtagjpbcmhaekpaaGreatDoor
/- Small laws: members by place; calls and loads in a drawn region. -/
namespace Go.Proofs.YtagjpbcmhaekpaaGreatDoor
open Go.RowKit Go.Shelf
set_option linter.unusedVariables false
set_option linter.unusedSimpArgs false

section
variable {P : Program} {ops : Array Oper} {Q : Act → Prop} {a : Act} {o : Oper} {rest : List Oper} {W1 : World}
/-- a call in a drawn region walked over the worlds that have grown -/
theorem quiet_callW (v : Value) (f : FuncId) (args : Array Value) (hw : Region.wanted o (yielded ops a.tmps) = true) (hrun : ∀ V, (execOp a.eval o).run P V = .ok (.enter f args) V)
    (hc : ∀ V, Below W1.heap.size W1 V → Calls P f args V fun e w' => e = .returned v ∧ V.grownBy w' none) (hk : wpQuiet P ops (fun V => Below W1.heap.size W1 V) Q rest (a.put o.dst v)) : wpQuiet P ops (fun V => Below W1.heap.size W1 V) Q (o :: rest) a :=
  wpQuiet_enter hw v f args (fun V _ => hrun V) (fun V hV => (hc V hV).mono fun e w' ⟨he, hgg⟩ => ⟨he, below_of_grown (grown_self (grown_of_below hV) hgg (by simp))⟩) hk
end
section
variable {P : Program} {ops : Array Oper} {C : World → Prop} {Q : Act → Prop} {a : Act} {o : Oper} {rest : List Oper}
theorem wpQuiet_loadM (v : Value) (ty : TypeId) (x : Operand) (p : Addr) (d : TypeDesc) (ho : o.op = .load ty x) (hw : Region.wanted o (yielded ops a.tmps) = true) (hx : a.eval x = .pointer (some p))
    (hu : P.underlying ty = some d) (hd : (match d with | .struct _ | .array _ _ => true | _ => false) = false) (hc : ∀ W, C W → W.cell? p = some v) (hk : wpQuiet P ops C Q rest (a.put o.dst v)) : wpQuiet P ops C Q (o :: rest) a :=
  wpQuiet_value hw v (fun W hW => by
    unfold execOp
    simp only [ho, hx, Instr.loadAt, Instr.sureAddr, Sem.run_bind, Sem.run_pure, Result.andThen_ok, load_cell hu hd (hc W hW)]) hk
end

theorem wrap_nat64 {k : Nat} (h : k < 18446744073709551616) : IntKind.u64.wrap (k : Int) = (k : Int) := by
  simp [IntKind.wrap, IntKind.bits, IntKind.signed]
  omega
theorem getD_mem {xs : List ByteArray} {k : Nat} (h : k < xs.length) : xs.getD k .empty ∈ xs := by
  rw [List.getD_eq_getElem?_getD, List.getElem?_eq_getElem h]
  exact List.getElem_mem h
theorem mem_getD {xs : List ByteArray} {x : ByteArray} (h : x ∈ xs) : ∃ k, k < xs.length ∧ xs.getD k .empty = x := by
  obtain ⟨k, hk, he⟩ := List.getElem_of_mem h
  exact ⟨k, hk, by rw [List.getD_eq_getElem?_getD, List.getElem?_eq_getElem hk]; exact he⟩
end Go.Proofs.YtagjpbcmhaekpaaGreatDoor
/- Batches of one block: Check. -/
namespace Go.Proofs.YtagjpbcmhaekpaaGreatDoor
open Go.RowKit Go.Shelf
set_option linter.unusedVariables false
set_option linter.unusedSimpArgs false

def hasLong (xs : List ByteArray) : Bool := xs.any fun x => decide (4096 < x.size)
def hasNone (xs : List ByteArray) : Bool := xs.any fun x => decide (x.size = 0)
theorem hasLong_iff (xs : List ByteArray) : hasLong xs = true ↔ ∃ x ∈ xs, 4096 < x.size := by simp [hasLong]
theorem hasNone_iff (xs : List ByteArray) : hasNone xs = true ↔ ∃ x ∈ xs, x.size = 0 := by simp [hasNone]
theorem ba_zero {x : ByteArray} (h : x.size = 0) : x = ⟨#[]⟩ := ba_empty6 h
/-- a string against the empty one -/
theorem str_none {x : ByteArray} (h : x.size ≠ 0) : ((⟨#[]⟩ : ByteArray).toList == x.toList) = false ∧ (x.toList == (⟨#[]⟩ : ByteArray).toList) = false ∧ ([] == x.toList) = false ∧ (x.toList == []) = false ∧ x.toList.isEmpty = false := by
  have hl := ba_len x
  have h1 : x.data.toList ≠ [] := fun e => by rw [e] at hl; exact h hl.symm
  have e0 : (⟨#[]⟩ : ByteArray).toList = [] := by rw [Lib.toList_data]
  have e1 : x.toList ≠ [] := by rw [Lib.toList_data]; exact h1
  rw [e0]
  refine ⟨?_, ?_, ?_, ?_, ?_⟩
  · rw [beq_eq_false_iff_ne]; exact fun e => e1 e.symm
  · rw [beq_eq_false_iff_ne]; exact e1
  · rw [beq_eq_false_iff_ne]; exact fun e => e1 e.symm
  · rw [beq_eq_false_iff_ne]; exact e1
  · cases hh : x.toList with
    | nil => exact absurd hh e1
    | cons a b => rfl
theorem longS_any (s : ByteArray) (w : World) :
    Calls Tryz.prog 26 #[.string s] w fun e w' => e = .returned (.bool (decide (4096 < s.size))) ∧ w' = w := by
  go_enter Tryz.func26, Tryz.ntmps26
  go_wp2_with fail
  go_ret
  exact ⟨by simp; omega, rfl⟩
set_option maxRecDepth 100000 in
set_option maxHeartbeats 1000000 in
theorem indexL_any (B : Nat) (A : Option Addr) (n c : Nat) (xs : List ByteArray) (w : World) (h : Reads w B 1 A n (xs.map Value.string)) (hn : n ≤ 9223372036854775807) :
    Calls Tryz.prog 51 #[.slice A n c, .func (.func 26) #[] #[]] w fun e w' => ∃ i : Int, e = .returned (.int .i64 i) ∧ (0 ≤ i ↔ hasLong xs = true) ∧ w' = w := by
  have hl : xs.length = n := by have := h.1; simpa using this
  have HL := Lib.hid hl; have HR := Lib.hid h
  clear hl h
  go_enter Tryz.func51, Tryz.ntmps51
  go_wp2_with fail
  go_loopw [8] (fun i wr => ∃ k : Nat, i = .int .i64 k ∧ k ≤ n ∧ wr = w ∧ Hid (∀ i : Nat, i < k → (xs.getD i .empty).size ≤ 4096)) (fun i _ => n - (intOf i).toNat)
  case atStart => exact ⟨0, rfl, by omega, rfl, Lib.hid (by intro i h1; omega)⟩
  case round =>
    obtain ⟨k, rfl, hk, rfl, h2⟩ := hrel
    have h2' := Lib.hid h2.out
    by_cases hlt : k < n
    · obtain ⟨q, off, rfl, hq, hc⟩ := Reads.vals Value.string .empty HR.out hlt
      have c0 := hc k hlt
      have q1 : (k : Int) < (n : Int) := by omega
      have hmem := getD_mem (xs := xs) (k := k) (by have := HL.out; omega)
      obtain ⟨x, hx⟩ : ∃ x, xs.getD k .empty = x := ⟨_, rfl⟩
      rw [hx] at c0 hmem
      have HX := Lib.hid hx; have HM := Lib.hid hmem
      clear h2 hc hx hmem
      go_wp2_with fail
      refine (longS_any x _).mono ?_
      rintro e w2 ⟨rfl, hw2⟩
      rw [hw2]
      clear hw2
      by_cases he : 4096 < x.size
      · have HE := Lib.hid he
        rw [decide_eq_true he]
        clear he c0
        go_wp2_with fail
        go_ret
        exact ⟨(k : Int), rfl, ⟨fun _ => (hasLong_iff _).2 ⟨x, HM.out, HE.out⟩, fun _ => by omega⟩, rfl⟩
      · have HE := Lib.hid he
        rw [decide_eq_false he]
        clear he c0
        go_wp2_with fail
        refine ⟨⟨k + 1, by go_num, by omega, trivial, Lib.hid fun i hi => ?_⟩, by simp [intOf]; omega⟩
        by_cases hik : i = k
        · rw [hik, HX.out]; have := HE.out; omega
        · exact h2'.out i (by omega)
    · have q1 : (n : Int) ≤ (k : Int) := by omega
      have hno : ¬ hasLong xs = true := fun e => by
        obtain ⟨x, hx, e⟩ := (hasLong_iff _).1 e
        obtain ⟨i, hi, rfl⟩ := mem_getD hx
        have := h2.out i (by have := HL.out; omega)
        omega
      have HN := Lib.hid hno
      clear h2 hno
      go_wp2_with fail
      go_ret
      exact ⟨-1, rfl, ⟨fun e => absurd e (by decide), fun e => absurd e HN.out⟩, rfl⟩
set_option maxRecDepth 100000 in
set_option maxHeartbeats 1000000 in
theorem indexN_any (B : Nat) (A : Option Addr) (n c : Nat) (xs : List ByteArray) (w : World) (h : Reads w B 1 A n (xs.map Value.string)) (hn : n ≤ 9223372036854775807) :
    Calls Tryz.prog 50 #[.slice A n c, .string ⟨#[]⟩] w fun e w' => ∃ i : Int, e = .returned (.int .i64 i) ∧ (0 ≤ i ↔ hasNone xs = true) ∧ w' = w := by
  have hl : xs.length = n := by have := h.1; simpa using this
  have HL := Lib.hid hl; have HR := Lib.hid h
  clear hl h
  go_enter Tryz.func50, Tryz.ntmps50
  go_wp2_with fail
  go_loopw [8] (fun i wr => ∃ k : Nat, i = .int .i64 k ∧ k ≤ n ∧ wr = w ∧ Hid (∀ i : Nat, i < k → (xs.getD i .empty).size ≠ 0)) (fun i _ => n - (intOf i).toNat)
  case atStart => exact ⟨0, rfl, by omega, rfl, Lib.hid (by intro i h1; omega)⟩
  case round =>
    obtain ⟨k, rfl, hk, rfl, h2⟩ := hrel
    have h2' := Lib.hid h2.out
    by_cases hlt : k < n
    · obtain ⟨q, off, rfl, hq, hc⟩ := Reads.vals Value.string .empty HR.out hlt
      have c0 := hc k hlt
      have q1 : (k : Int) < (n : Int) := by omega
      have hmem := getD_mem (xs := xs) (k := k) (by have := HL.out; omega)
      obtain ⟨x, hx⟩ : ∃ x, xs.getD k .empty = x := ⟨_, rfl⟩
      rw [hx] at c0 hmem
      have HX := Lib.hid hx; have HM := Lib.hid hmem
      clear h2 hc hx hmem
      by_cases he : x.size = 0
      · have HE := Lib.hid he
        obtain rfl := ba_zero he
        clear he
        go_wp2_with fail
        all_goals
          go_ret
          exact ⟨(k : Int), rfl, ⟨fun _ => (hasNone_iff _).2 ⟨_, HM.out, HE.out⟩, fun _ => by omega⟩, rfl⟩
      · have HE := Lib.hid he
        obtain ⟨s1, s2, s3, s4, s5⟩ := str_none he
        clear he
        go_wp2_with fail
        refine ⟨⟨k + 1, by go_num, by omega, trivial, Lib.hid fun i hi => ?_⟩, by simp [intOf]; omega⟩
        by_cases hik : i = k
        · rw [hik, HX.out]; exact HE.out
        · exact h2'.out i (by omega)
    · have q1 : (n : Int) ≤ (k : Int) := by omega
      have hno : ¬ hasNone xs = true := fun e => by
        obtain ⟨x, hx, e⟩ := (hasNone_iff _).1 e
        obtain ⟨i, hi, rfl⟩ := mem_getD hx
        exact h2.out i (by have := HL.out; omega) e
      have HN := Lib.hid hno
      clear h2 hno
      go_wp2_with fail
      go_ret
      exact ⟨-1, rfl, ⟨fun e => absurd e (by decide), fun e => absurd e HN.out⟩, rfl⟩
theorem ge_bool {i : Int} {b : Bool} (h : 0 ≤ i ↔ b = true) : decide (0 ≤ i) = b := by
  cases b with
  | true => exact decide_eq_true (h.2 rfl)
  | false => exact decide_eq_false fun e => by have := h.1 e; cases this
theorem containsL_any (B : Nat) (A : Option Addr) (n c : Nat) (xs : List ByteArray) (w : World) (h : Reads w B 1 A n (xs.map Value.string)) (hn : n ≤ 9223372036854775807) :
    Calls Tryz.prog 28 #[.slice A n c, .func (.func 26) #[] #[]] w fun e w' => e = .returned (.bool (hasLong xs)) ∧ w' = w := by
  have HI := Lib.hid (indexL_any B A n c xs w h hn)
  clear h
  go_enter Tryz.func28, Tryz.ntmps28
  go_wp2_with fail
  refine HI.out.mono ?_
  rintro e w2 ⟨i, rfl, hi, hw2⟩
  rw [hw2]
  have HK := Lib.hid (ge_bool hi)
  clear hi HI hw2
  go_wp2_with fail
  go_ret
  exact ⟨congrArg Ending.returned (congrArg Value.bool HK.out), rfl⟩
theorem containsN_any (B : Nat) (A : Option Addr) (n c : Nat) (xs : List ByteArray) (w : World) (h : Reads w B 1 A n (xs.map Value.string)) (hn : n ≤ 9223372036854775807) :
    Calls Tryz.prog 27 #[.slice A n c, .string ⟨#[]⟩] w fun e w' => e = .returned (.bool (hasNone xs)) ∧ w' = w := by
  have HI := Lib.hid (indexN_any B A n c xs w h hn)
  clear h
  go_enter Tryz.func27, Tryz.ntmps27
  go_wp2_with fail
  refine HI.out.mono ?_
  rintro e w2 ⟨i, rfl, hi, hw2⟩
  rw [hw2]
  have HK := Lib.hid (ge_bool hi)
  clear hi HI hw2
  go_wp2_with fail
  go_ret
  exact ⟨congrArg Ending.returned (congrArg Value.bool HK.out), rfl⟩
end Go.Proofs.YtagjpbcmhaekpaaGreatDoor
/- Batches of one block: Check, Few. -/
namespace Go.Proofs.YtagjpbcmhaekpaaGreatDoor
open Go.RowKit Go.Shelf
set_option linter.unusedVariables false
set_option linter.unusedSimpArgs false

/-- a batch's cells -/
abbrev sglC (b : Sgl) (v : Value) : Array Value := #[.string b.parent, .int .u64 (b.epoch : Int), .string b.hash, .int .u64 (b.time : Int), v]
theorem checkS_eq (b : Sgl) : checkS b = if b.parent.size ≠ 32 then 2 else if b.hash.size ≠ 32 then 2 else if hasNone b.txs = true then 2 else if 32 < b.txs.length then 5 else if hasLong b.txs = true then 5 else 0 := by
  unfold checkS
  by_cases h1 : b.parent.size ≠ 32
  · rw [if_pos (.inl h1), if_pos h1]
  rw [if_neg h1]
  by_cases h2 : b.hash.size ≠ 32
  · rw [if_pos (.inr (.inl h2)), if_pos h2]
  rw [if_neg h2]
  by_cases h3 : hasNone b.txs = true
  · rw [if_pos (.inr (.inr h3)), if_pos h3]
  rw [if_neg (by rintro (e | e | e); exact h1 e; exact h2 e; exact h3 e), if_neg h3]
  by_cases h4 : 32 < b.txs.length
  · rw [if_pos (.inl h4), if_pos h4]
  rw [if_neg h4]
  by_cases h5 : hasLong b.txs = true
  · rw [if_pos (.inr h5), if_pos h5]
  · rw [if_neg (by rintro (e | e); exact h4 e; exact h5 e), if_neg h5]
set_option maxRecDepth 100000 in
set_option maxHeartbeats 2000000 in
theorem checkSg_any (b : Sgl) (B : Nat) (A : Option Addr) (n c : Nat) (w : World) (h : Reads w B 1 A n (b.txs.map Value.string)) (hB : B ≤ w.heap.size) (hn : n ≤ 9223372036854775807) :
    Calls Tryz.prog 11 #[.agg (sglC b (.slice A n c))] w fun e w' => e = .returned (.int .i64 (checkS b)) ∧ w.grownBy w' none := by
  have hl : b.txs.length = n := by have := h.1; simpa using this
  have hbk := Blk.new w 25 (sglC b (.slice A n c))
  have hG := only_alloc (World.grownBy.refl w none) (.cells (sglC b (.slice A n c)) 25)
  have hR := h.grown hG hB (by simp)
  have HCN := Lib.hid (containsN_any B A n c b.txs _ hR hn)
  have HCL := Lib.hid (containsL_any B A n c b.txs _ hR hn)
  have HG := Lib.hid hG
  have hE := checkS_eq b
  rw [hl] at hE
  obtain ⟨E, hEE⟩ : ∃ E, checkS b = E := ⟨_, rfl⟩
  rw [hEE] at hE ⊢
  have HE := Lib.hid hE
  obtain ⟨bp, be, bh, bt, xs⟩ := b
  simp only [sglC] at *
  clear hEE hE hl h hR hG
  generalize hasNone xs = r1 at *
  generalize hasLong xs = r2 at *
  go_enter Tryz.func11, Tryz.ntmps11
  go_upto_region 1 with (fail)
  obtain ⟨g, hg⟩ : ∃ g, w.heap.size = g := ⟨_, rfl⟩
  rw [hg] at hbk ⊢
  clear hg
  have c0 := hbk.cell 0; have c2 := hbk.cell 2; have c4 := hbk.cell 4
  simp only [List.getElem?_toArray, List.getElem?_cons_zero, List.getElem?_cons_succ] at c0 c2 c4
  clear hbk
  generalize w.alloc (.cells #[.string bp, .int .u64 (be : Int), .string bh, .int .u64 (bt : Int), .slice A n c] 25) = w1 at *
  by_cases h1 : bp.size = 32
  rotate_left
  · have q1 : ((bp.size : Int) != 32) = true := by rw [bne_iff_ne]; omega
    have H1 := Lib.hid h1
    clear h1
    go_wp2_with fail
    go_ret
    exact ⟨by rw [HE.out, if_pos H1.out]; rfl, HG.out⟩
  have q1 : ((bp.size : Int) != 32) = false := by rw [bne_eq_false_iff_eq]; omega
  have H1 := Lib.hid (show ¬ bp.size ≠ 32 by omega)
  clear h1
  by_cases h2 : bh.size = 32
  rotate_left
  · have q2 : ((bh.size : Int) != 32) = true := by rw [bne_iff_ne]; omega
    have H2 := Lib.hid h2
    clear h2
    go_wp2_with fail
    go_ret
    exact ⟨by rw [HE.out, if_neg H1.out, if_pos H2.out]; rfl, HG.out⟩
  have q2 : ((bh.size : Int) != 32) = false := by rw [bne_eq_false_iff_eq]; omega
  have H2 := Lib.hid (show ¬ bh.size ≠ 32 by omega)
  clear h2
  go_wp2_with fail
  refine HCN.out.mono ?_
  rintro e w2 ⟨rfl, hw2⟩
  rw [hw2]
  clear hw2 HCN
  cases r1 with
  | true =>
    go_wp2_with fail
    go_ret
    exact ⟨by rw [HE.out, if_neg H1.out, if_neg H2.out, if_pos (by simp)]; rfl, HG.out⟩
  | false =>
  by_cases h3 : 32 < n
  · have q3 : decide ((32 : Int) < (n : Int)) = true := by simp; omega
    have H3 := Lib.hid h3
    clear h3
    go_wp2_with fail
    go_ret
    exact ⟨by rw [HE.out, if_neg H1.out, if_neg H2.out, if_neg (by simp), if_pos H3.out]; rfl, HG.out⟩
  have q3 : decide ((32 : Int) < (n : Int)) = false := by simp; omega
  have H3 := Lib.hid (show ¬ 32 < n from h3)
  clear h3
  go_wp2_with fail
  refine HCL.out.mono ?_
  rintro e w2 ⟨rfl, hw2⟩
  rw [hw2]
  clear hw2 HCL
  have H3' : ¬ 32 < n := by first | exact H3.out | exact Nat.not_lt.2 H3.out
  have H3 := Lib.hid H3'
  clear H3'
  cases r2 with
  | true =>
    go_wp2_with fail
    go_ret
    exact ⟨by rw [HE.out, if_neg H1.out, if_neg H2.out, if_neg (by simp), if_neg (by first | exact H3.out | exact Nat.not_lt.2 H3.out), if_pos (by simp)]; rfl, HG.out⟩
  | false =>
    go_wp2_with fail
    go_ret
    exact ⟨by rw [HE.out, if_neg H1.out, if_neg H2.out, if_neg (by simp), if_neg (by first | exact H3.out | exact Nat.not_lt.2 H3.out), if_neg (by simp)]; rfl, HG.out⟩
end Go.Proofs.YtagjpbcmhaekpaaGreatDoor
/- Batches of one block: Few. -/
namespace Go.Proofs.YtagjpbcmhaekpaaGreatDoor
open Go.RowKit Go.Shelf
set_option linter.unusedVariables false
set_option linter.unusedSimpArgs false

def fewSN (xs : List ByteArray) : Nat := (xs.map fun x => if x.size ≤ 4096 then x.size else 0).sum
def fewS (b : Sgl) : Bool := if 40 < b.txs.length ∨ 100 < b.parent.size ∨ 100 < b.hash.size then false else decide (fewSN b.txs ≤ 1500)
theorem fewSN_snoc (xs : List ByteArray) (x : ByteArray) : fewSN (xs ++ [x]) = fewSN xs + (if x.size ≤ 4096 then x.size else 0) := by simp [fewSN]
theorem fewSN_le : ∀ (xs : List ByteArray), fewSN xs ≤ xs.length * 4096
  | [] => by simp [fewSN]
  | x :: xs => by
    have h := fewSN_le xs
    have e : fewSN (x :: xs) = (if x.size ≤ 4096 then x.size else 0) + fewSN xs := by simp [fewSN]
    rw [e, List.length_cons, Nat.succ_mul]
    split <;> omega
theorem fewSN_cat : ∀ (xs : List ByteArray), (∀ x ∈ xs, x.size ≤ 4096) → (catB xs).length = fewSN xs
  | [], _ => rfl
  | x :: xs, h => by
    have h1 := fewSN_cat xs fun y hy => h y (by simp [hy])
    have h2 : x.data.toList.length = x.size := Array.length_toList
    have e : fewSN (x :: xs) = (if x.size ≤ 4096 then x.size else 0) + fewSN xs := by simp [fewSN]
    have e2 : catB (x :: xs) = x.data.toList ++ catB xs := by simp [catB]
    rw [e, e2, if_pos (h x (by simp)), List.length_append, h1, h2]
theorem take_snocS (xs : List ByteArray) (k : Nat) (hk : k < xs.length) : xs.take (k + 1) = xs.take k ++ [xs.getD k .empty] := by
  rw [List.take_succ_eq_append_getElem hk, List.getD_eq_getElem?_getD, List.getElem?_eq_getElem hk]; rfl
set_option maxRecDepth 100000 in
set_option maxHeartbeats 2000000 in
theorem fewSg_any (b : Sgl) (B : Nat) (A : Option Addr) (n c : Nat) (w : World) (h : Reads w B 1 A n (b.txs.map Value.string)) (hB : B ≤ w.heap.size) (hn : n ≤ 9223372036854775807) :
    Calls Tryz.prog 6 #[.agg (sglC b (.slice A n c))] w fun e w' => e = .returned (.bool (fewS b)) ∧ w.grownBy w' none := by
  have hl : b.txs.length = n := by have := h.1; simpa using this
  have hbk := Blk.new w 25 (sglC b (.slice A n c))
  have hG := only_alloc (World.grownBy.refl w none) (.cells (sglC b (.slice A n c)) 25)
  have HR := Lib.hid (h.grown hG hB (by simp))
  have HG := Lib.hid hG
  have hE : fewS b = if 40 < n ∨ 100 < b.parent.size ∨ 100 < b.hash.size then false else decide (fewSN b.txs ≤ 1500) := by rw [← hl]; rfl
  obtain ⟨E, hEE⟩ : ∃ E, fewS b = E := ⟨_, rfl⟩
  rw [hEE] at hE ⊢
  obtain ⟨bp, be, bh, bt, xs⟩ := b
  have hE : E = if 40 < n ∨ 100 < bp.size ∨ 100 < bh.size then false else decide (fewSN xs ≤ 1500) := hE
  have hl : xs.length = n := hl
  have HE := Lib.hid hE; have HL := Lib.hid hl
  simp only [sglC] at *
  clear hEE hE hl h hG
  go_enter Tryz.func6, Tryz.ntmps6
  go_upto_region 1 with (fail)
  obtain ⟨g, hg⟩ : ∃ g, w.heap.size = g := ⟨_, rfl⟩
  rw [hg] at hbk ⊢
  clear hg
  have c0 := hbk.cell 0; have c2 := hbk.cell 2; have c4 := hbk.cell 4
  simp only [List.getElem?_toArray, List.getElem?_cons_zero, List.getElem?_cons_succ] at c0 c2 c4
  clear hbk
  generalize w.alloc (.cells #[.string bp, .int .u64 (be : Int), .string bh, .int .u64 (bt : Int), .slice A n c] 25) = w1 at *
  by_cases h1 : 40 < n
  · have q1 : decide ((40 : Int) < (n : Int)) = true := by simp; omega
    have H1 := Lib.hid h1
    clear h1
    go_wp2_with fail
    go_ret
    exact ⟨by rw [HE.out, if_pos (.inl H1.out)]; rfl, HG.out⟩
  have q1 : decide ((40 : Int) < (n : Int)) = false := by simp; omega
  have n40 : n ≤ 40 := by omega
  clear h1
  by_cases h2 : 100 < bp.size
  · have q2 : decide ((100 : Int) < (bp.size : Int)) = true := by simp; omega
    have H1 := Lib.hid h2
    clear h2
    go_wp2_with fail
    go_ret
    exact ⟨by rw [HE.out, if_pos (.inr (.inl H1.out))]; rfl, HG.out⟩
  have q2 : decide ((100 : Int) < (bp.size : Int)) = false := by simp; omega
  have p1 : bp.size ≤ 100 := by omega
  clear h2
  by_cases h3 : 100 < bh.size
  · have q3 : decide ((100 : Int) < (bh.size : Int)) = true := by simp; omega
    have H1 := Lib.hid h3
    clear h3
    go_wp2_with fail
    go_ret
    exact ⟨by rw [HE.out, if_pos (.inr (.inr H1.out))]; rfl, HG.out⟩
  have q3 : decide ((100 : Int) < (bh.size : Int)) = false := by simp; omega
  have HE2 := Lib.hid (show E = decide (fewSN xs ≤ 1500) by rw [HE.out, if_neg (by omega)])
  have N40 := Lib.hid n40
  clear h3 HE
  go_wp2_with fail
  clear q1 q2 q3 p1 n40
  go_loopw [3, 4] (fun v i wr => ∃ (k m : Nat), v = .int .i64 (m : Int) ∧ i = .int .i64 k ∧ k ≤ n ∧ Hid (m = fewSN (xs.take k)) ∧ wr = w1) (fun _ i _ => n - (intOf i).toNat)
  case atStart => exact ⟨0, 0, rfl, rfl, by omega, by rfl, rfl⟩
  case round =>
    obtain ⟨k, m, rfl, rfl, hk, hmf, rfl⟩ := hrel
    have hn40 := N40.out
    by_cases hlt : k < n
    · have q1 : decide ((k : Int) < (n : Int)) = true := by simp; omega
      obtain ⟨q, off, rfl, hq, hc⟩ := Reads.vals Value.string .empty HR.out hlt
      have d0 := hc k hlt
      obtain ⟨x, hx⟩ : ∃ x, xs.getD k .empty = x := ⟨_, rfl⟩
      rw [hx] at d0
      have hsn : fewSN (xs.take (k + 1)) = fewSN (xs.take k) + (if x.size ≤ 4096 then x.size else 0) := by rw [take_snocS xs k (by have := HL.out; omega), fewSN_snoc, hx]
      have hle := fewSN_le (xs.take (k + 1))
      have hln : (xs.take (k + 1)).length ≤ 40 := by rw [List.length_take]; omega
      have hle2 : (xs.take (k + 1)).length * 4096 ≤ 40 * 4096 := Nat.mul_le_mul_right _ hln
      have hmm := hmf.out
      by_cases hx3 : x.size ≤ 4096
      · rw [if_pos hx3] at hsn
        have q3 : decide ((x.size : Int) ≤ 4096) = true := by simp; omega
        have w1 : IntKind.i64.wrap ((m : Int) + (x.size : Int)) = ((m + x.size : Nat) : Int) := by rw [← Int.natCast_add]; exact IntWalk.i64_in _ (by omega)
        have HSN := Lib.hid (show m + x.size = fewSN (xs.take (k + 1)) by omega)
        clear hc hx hsn hle hln hle2 hmm hmf hx3
        go_wp2_with fail
        exact ⟨⟨k + 1, m + x.size, by simp, by go_num, by omega, HSN, trivial⟩, by simp [intOf]; omega⟩
      · rw [if_neg hx3] at hsn
        have q3 : decide ((x.size : Int) ≤ 4096) = false := by simp; omega
        have HSN := Lib.hid (show m = fewSN (xs.take (k + 1)) by omega)
        clear hc hx hsn hle hln hle2 hmm hmf hx3
        go_wp2_with fail
        exact ⟨⟨k + 1, m, rfl, by go_num, by omega, HSN, trivial⟩, by simp [intOf]; omega⟩
    · have q1 : decide ((k : Int) < (n : Int)) = false := by simp; omega
      have HF : Hid (E = decide ((m : Int) ≤ 1500)) := Lib.hid (by
        rw [HE2.out, hmf.out, List.take_of_length_le (by have := HL.out; omega)]
        exact decide_eq_decide.2 (by omega))
      clear hmf
      go_wp2_with fail
      go_ret
      exact ⟨by rw [HF.out]; rfl, HG.out⟩
end Go.Proofs.YtagjpbcmhaekpaaGreatDoor
/- Batches of one block: Put.  Printed by wip/genSngD.py -/
namespace Go.Proofs.YtagjpbcmhaekpaaGreatDoor
open Go.RowKit Go.Shelf
set_option linter.unusedVariables false
set_option linter.unusedSimpArgs false

/-- a row of five items -/
theorem five_sub (V : World) (p q r s : ByteArray) (ys : List Itm) (A : Option Addr) (c : Nat) (h : SubW V ys (.slice A ys.length c)) :
    SubW (V.alloc (.cells #[.bool false, .string p, .slice none 0 0, .bool false, .string q, .slice none 0 0, .bool false, .string r, .slice none 0 0, .bool false, .string s, .slice none 0 0, .bool true, .string ⟨#[]⟩, .slice A ys.length c] 40)) [txt p, txt q, txt r, txt s, .mk true ⟨#[]⟩ ys] (.slice (some ⟨V.heap.size, 0, none⟩) 5 5) := by
  have hb := Blk.new V 40 #[.bool false, .string p, .slice none 0 0, .bool false, .string q, .slice none 0 0, .bool false, .string r, .slice none 0 0, .bool false, .string s, .slice none 0 0, .bool true, .string ⟨#[]⟩, .slice A ys.length c]
  have hg := only_alloc (World.grownBy.refl V none) (.cells #[.bool false, .string p, .slice none 0 0, .bool false, .string q, .slice none 0 0, .bool false, .string r, .slice none 0 0, .bool false, .string s, .slice none 0 0, .bool true, .string ⟨#[]⟩, .slice A ys.length c] 40)
  have hn : ∀ W : World, SubV (fun g => g < W.heap.size) W [] (.slice none 0 0) := fun W => .mk [] none 0 [] (fun h => by cases h) (fun i h => by cases h)
  refine .mk [txt p, txt q, txt r, txt s, .mk true ⟨#[]⟩ ys] (some ⟨V.heap.size, 0, none⟩) 5 [.slice none 0 0, .slice none 0 0, .slice none 0 0, .slice none 0 0, .slice A ys.length c] ?_ ?_
  · intro _
    refine ⟨V.heap.size, 0, rfl, by simp, fun i hi => ?_⟩
    match i, hi with
    | 0, _ => exact ⟨hb.cell 0, hb.cell 1, hb.cell 2⟩
    | 1, _ => exact ⟨hb.cell 3, hb.cell 4, hb.cell 5⟩
    | 2, _ => exact ⟨hb.cell 6, hb.cell 7, hb.cell 8⟩
    | 3, _ => exact ⟨hb.cell 9, hb.cell 10, hb.cell 11⟩
    | 4, _ => exact ⟨hb.cell 12, hb.cell 13, hb.cell 14⟩
  · intro i hi
    match i, hi with
    | 0, _ => exact hn _
    | 1, _ => exact hn _
    | 2, _ => exact hn _
    | 3, _ => exact hn _
    | 4, _ => exact SubW.grown h hg
theorem own_grownS {w w' : World} {base : Nat} {e : TypeId} {size : Nat} {v : Value} {k : Nat} {xs : List Value} (h : w.ownsRow base e size v k xs) (hg : w.grownBy w' none) : w'.ownsRow base e size v k xs := by
  refine h.kept hg ?_
  rcases h.2 with ⟨rfl, _⟩ | ⟨g, cap, cur, rfl, _⟩
  · exact .inl rfl
  · exact .inr (by simp [Value.ownBlock])

set_option maxRecDepth 100000 in
set_option maxHeartbeats 4000000 in
theorem putSg_any (b : Sgl) (hk : b.Ok) (B : Nat) (A : Option Addr) (n c : Nat) (w : World) (h : Reads w B 1 A n (b.txs.map Value.string)) (hB : B ≤ w.heap.size) (hn : n ≤ 9223372036854775807) :
    Calls Tryz.prog 8 #[.agg (sglC b (.slice A n c))] w fun e w' => e = .returned (.tuple #[.string ⟨(putSL b).toArray⟩, .int .i64 (putSE b)]) ∧ w.grownBy w' none := by
  have hl : b.txs.length = n := by have := h.1; simpa using this
  have hbk := Blk.new w 25 (sglC b (.slice A n c))
  have hG := only_alloc (World.grownBy.refl w none) (.cells (sglC b (.slice A n c)) 25)
  have hR := h.grown hG hB (by simp)
  have hB1 := Nat.le_trans hB hG.size
  have HC := Lib.hid (checkSg_any b B A n c _ hR hB1 hn)
  have HR := Lib.hid hR; have HB1 := Lib.hid hB1; have HG := Lib.hid hG; have HL := Lib.hid hl
  obtain ⟨E, hE⟩ : ∃ E, checkS b = E := ⟨_, rfl⟩
  by_cases h0 : E = 0
  rotate_left
  · have hp : putSE b = E := by unfold putSE; rw [hE, if_pos h0]
    have hp2 : putSL b = [] := if_neg (by rw [hp]; exact h0)
    have e1 : (E != 0) = true := by simpa using h0
    rw [hE] at HC
    rw [hp, hp2]
    obtain ⟨bp, be, bh, bt, xs⟩ := b
    simp only [sglC] at *
    clear hp hp2 hE h0 h hR hG hB1 hl HR hB
    go_enter Tryz.func8, Tryz.ntmps8
    go_upto_region 1 with (fail)
    obtain ⟨g, hg⟩ : ∃ g, w.heap.size = g := ⟨_, rfl⟩
    rw [hg] at hbk ⊢
    clear hg HB1
    have c0 := hbk.cell 0; have c1 := hbk.cell 1; have c2 := hbk.cell 2; have c3 := hbk.cell 3; have c4 := hbk.cell 4
    simp only [List.getElem?_toArray, List.getElem?_cons_zero, List.getElem?_cons_succ] at c0 c1 c2 c3 c4
    clear hbk
    generalize w.alloc (.cells #[.string bp, .int .u64 (be : Int), .string bh, .int .u64 (bt : Int), .slice A n c] 25) = w1 at *
    go_wp2_with fail
    refine HC.out.mono ?_
    rintro e w2 ⟨rfl, hg⟩
    have HG := Lib.hid (grown_self HG.out hg (by simp))
    clear hg HC
    go_wp2_with fail
    go_ret2
    exact ⟨rfl, HG.out⟩
  subst h0
  obtain ⟨k1, k2, k3, k4⟩ := checkS_0.1 hE
  have hpE : putSE b = checkI (itemS b) := by unfold putSE; rw [if_neg (by rw [hE]; simp)]
  have hpL : putSL b = if checkI (itemS b) = 0 then 0 :: bytesF (itemS b) else [] := by unfold putSL; rw [hpE]
  have hcb : (catB b.txs).length ≤ 32 * 4096 := by
    have key : ∀ ys : List ByteArray, (∀ x ∈ ys, 1 ≤ x.size ∧ x.size ≤ 4096) → (catB ys).length ≤ ys.length * 4096 := by
      intro ys
      induction ys with
      | nil => intro _; simp [catB]
      | cons y ys ih =>
        intro hy
        have h1 := ih fun z hz => hy z (by simp [hz])
        have h2 := hy y (by simp)
        have h3 : y.data.toList.length = y.size := Array.length_toList
        have e : catB (y :: ys) = y.data.toList ++ catB ys := by simp [catB]
        rw [e, List.length_append, List.length_cons, Nat.succ_mul]; omega
    exact Nat.le_trans (key _ k4) (Nat.mul_le_mul_right _ k3)
  have hwt := wt_item b hk
  have hwt2 : wtF (itemS b) ≤ 1000000000 := by omega
  have HENC := Lib.hid (fun V sx h => encodeP_any (itemS b) V sx h hwt2)
  have hci := check_item b (by omega)
  rw [hE] at HC
  have HK1 := Lib.hid hk.1; have HK2 := Lib.hid hk.2
  have HN := Lib.hid (show n ≤ 32 by omega)
  obtain ⟨IE, hIE⟩ : ∃ IE, checkI (itemS b) = IE := ⟨_, rfl⟩
  obtain ⟨L, hL⟩ : ∃ L, bytesF (itemS b) = L := ⟨_, rfl⟩
  have hencB : encB (itemS b) = if IE = 0 then L else [] := by unfold encB; rw [hIE, hL]
  rw [hIE, hencB] at HENC
  have hLs : IE = 0 → L.length ≤ 65536 := fun h => by
    rw [hIE, hL] at hci
    split at hci
    · rw [h] at hci; cases hci
    · omega
  have HLS := Lib.hid hLs
  have hI : itemS b = .mk true ⟨#[]⟩ [txt b.parent, txt (numB b.epoch), txt b.hash, txt (numB b.time), .mk true ⟨#[]⟩ (b.txs.map txt)] := rfl
  rw [hI] at HENC
  rw [hpE, hpL, hIE, hL]
  obtain ⟨bp, be, bh, bt, xs⟩ := b
  simp only [sglC] at *
  have hnum1 := fun V => number_any be HK1.out V
  have hnum2 := fun V => number_any bt HK2.out V
  obtain ⟨N1, hN1⟩ : ∃ N1, numB be = N1 := ⟨_, rfl⟩
  obtain ⟨N2, hN2⟩ : ∃ N1, numB bt = N1 := ⟨_, rfl⟩
  rw [show (⟨(beN be).toArray⟩ : ByteArray) = N1 from hN1] at hnum1
  rw [show (⟨(beN bt).toArray⟩ : ByteArray) = N2 from hN2] at hnum2
  rw [hN1, hN2] at HENC
  have HM1 := Lib.hid hnum1; have HM2 := Lib.hid hnum2
  have hl : xs.length = n := hl
  clear hpE hpL hE k1 k2 k3 k4 h hR hG hB1 hB hcb hwt hwt2 hci hk hIE hL hencB hLs hI hnum1 hnum2 hN1 hN2
  go_enter Tryz.func8, Tryz.ntmps8
  go_upto_region 1 with (fail)
  obtain ⟨g, hg⟩ : ∃ g, w.heap.size = g := ⟨_, rfl⟩
  have hgz : g < (w.alloc (.cells #[.string bp, .int .u64 (be : Int), .string bh, .int .u64 (bt : Int), .slice A n c] 25)).heap.size := by rw [← hg]; simp
  rw [hg] at hbk ⊢
  clear hg
  generalize w.alloc (.cells #[.string bp, .int .u64 (be : Int), .string bh, .int .u64 (bt : Int), .slice A n c] 25) = w1 at *
  have c0 := hbk.cell 0; have c1 := hbk.cell 1; have c2 := hbk.cell 2; have c3 := hbk.cell 3; have c4 := hbk.cell 4
  simp only [List.getElem?_toArray, List.getElem?_cons_zero, List.getElem?_cons_succ] at c0 c1 c2 c3 c4
  go_wp2_with fail
  refine HC.out.mono ?_
  rintro e w2 ⟨rfl, hg⟩
  have HG := Lib.hid (grown_self HG.out hg (by simp))
  have HR := Lib.hid (HR.out.grown hg HB1.out (by simp))
  have HB1 := Lib.hid (Nat.le_trans HB1.out hg.size)
  have hbk2 := hbk.grown hg (by simp)
  have hgz2 : g < w2.heap.size := Nat.lt_of_lt_of_le hgz hg.size
  clear hg HC c0 c1 c2 c3 c4 hbk hgz
  go_upto_region 4 with (fail)
  have hr0 : ∀ V, Below w2.heap.size w2 V → V.cell? ⟨g, 0, none⟩ = some (.string bp) := fun V hV => (hV.cell (p := ⟨g, 0, none⟩) hgz2).trans (hbk2.cell 0)
  have hr1 : ∀ V, Below w2.heap.size w2 V → V.cell? ⟨g, 1, none⟩ = some (.int .u64 (be : Int)) := fun V hV => (hV.cell (p := ⟨g, 1, none⟩) hgz2).trans (hbk2.cell 1)
  have hr2 : ∀ V, Below w2.heap.size w2 V → V.cell? ⟨g, 2, none⟩ = some (.string bh) := fun V hV => (hV.cell (p := ⟨g, 2, none⟩) hgz2).trans (hbk2.cell 2)
  have hr3 : ∀ V, Below w2.heap.size w2 V → V.cell? ⟨g, 3, none⟩ = some (.int .u64 (bt : Int)) := fun V hV => (hV.cell (p := ⟨g, 3, none⟩) hgz2).trans (hbk2.cell 3)
  have hr4 : ∀ V, Below w2.heap.size w2 V → V.cell? ⟨g, 4, none⟩ = some (.slice A n c) := fun V hV => (hV.cell (p := ⟨g, 4, none⟩) hgz2).trans (hbk2.cell 4)
  refine wp_region_held (S := fun W => Below w2.heap.size w2 W) (by kernel_rfl) ?_
  change wpAnyH _ _ _ _ _ _ _ _ w2.drew
  have hS0 : Below w2.heap.size w2 w2.drew := ⟨rfl, rfl, rfl, Nat.le_refl _, fun _ _ => rfl⟩
  generalize w2.drew = u0 at *
  refine held_take (i := 0) (v := .pointer (some ⟨g, 0, none⟩)) (some 13) rfl (by kernel_rfl) (by kernel_rfl) (by kernel_rfl) (fun _ _ _ h => h) rfl (Or.inl ⟨by rfl, fun W hW => by go_simp⟩) hS0 ?_
  simp only [Act.put, List.setIfInBounds_toArray, List.set_cons_zero, List.set_cons_succ]
  refine held_take (i := 1) (v := .string bp) (some 14) rfl (by kernel_rfl) (by kernel_rfl) (by kernel_rfl) (fun _ _ _ h => h) rfl (Or.inl ⟨by rfl, fun W hW => by have q := hr0 W hW; go_simp⟩) hS0 ?_
  simp only [Act.put, List.setIfInBounds_toArray, List.set_cons_zero, List.set_cons_succ]
  refine held_take (i := 3) (v := .pointer (some ⟨g, 1, none⟩)) (some 16) rfl (by kernel_rfl) (by kernel_rfl) (by kernel_rfl) (fun _ _ _ h => h) rfl (Or.inl ⟨by rfl, fun W hW => by go_simp⟩) hS0 ?_
  simp only [Act.put, List.setIfInBounds_toArray, List.set_cons_zero, List.set_cons_succ]
  refine held_take (i := 4) (v := .int .u64 (be : Int)) (some 17) rfl (by kernel_rfl) (by kernel_rfl) (by kernel_rfl) (fun _ _ _ h => h) rfl (Or.inl ⟨by rfl, fun W hW => by have q := hr1 W hW; go_simp⟩) hS0 ?_
  simp only [Act.put, List.setIfInBounds_toArray, List.set_cons_zero, List.set_cons_succ]
  refine held_take (i := 6) (v := .pointer (some ⟨g, 2, none⟩)) (some 19) rfl (by kernel_rfl) (by kernel_rfl) (by kernel_rfl) (fun _ _ _ h => h) rfl (Or.inl ⟨by rfl, fun W hW => by go_simp⟩) hS0 ?_
  simp only [Act.put, List.setIfInBounds_toArray, List.set_cons_zero, List.set_cons_succ]
  refine held_take (i := 7) (v := .string bh) (some 20) rfl (by kernel_rfl) (by kernel_rfl) (by kernel_rfl) (fun _ _ _ h => h) rfl (Or.inl ⟨by rfl, fun W hW => by have q := hr2 W hW; go_simp⟩) hS0 ?_
  simp only [Act.put, List.setIfInBounds_toArray, List.set_cons_zero, List.set_cons_succ]
  refine held_take (i := 9) (v := .pointer (some ⟨g, 3, none⟩)) (some 22) rfl (by kernel_rfl) (by kernel_rfl) (by kernel_rfl) (fun _ _ _ h => h) rfl (Or.inl ⟨by rfl, fun W hW => by go_simp⟩) hS0 ?_
  simp only [Act.put, List.setIfInBounds_toArray, List.set_cons_zero, List.set_cons_succ]
  refine held_take (i := 10) (v := .int .u64 (bt : Int)) (some 23) rfl (by kernel_rfl) (by kernel_rfl) (by kernel_rfl) (fun _ _ _ h => h) rfl (Or.inl ⟨by rfl, fun W hW => by have q := hr3 W hW; go_simp⟩) hS0 ?_
  simp only [Act.put, List.setIfInBounds_toArray, List.set_cons_zero, List.set_cons_succ]
  refine held_take (i := 12) (v := .pointer (some ⟨g, 4, none⟩)) (some 25) rfl (by kernel_rfl) (by kernel_rfl) (by kernel_rfl) (fun _ _ _ h => h) rfl (Or.inl ⟨by rfl, fun W hW => by go_simp⟩) hS0 ?_
  simp only [Act.put, List.setIfInBounds_toArray, List.set_cons_zero, List.set_cons_succ]
  refine held_take (i := 13) (v := .slice A n c) (some 26) rfl (by kernel_rfl) (by kernel_rfl) (by kernel_rfl) (fun _ _ _ h => h) rfl (Or.inl ⟨by rfl, fun W hW => by have q := hr4 W hW; go_simp⟩) hS0 ?_
  simp only [Act.put, List.setIfInBounds_toArray, List.set_cons_zero, List.set_cons_succ]
  refine held_one (i := 2) (by kernel_rfl) ?_
  refine held_enter (some 15) rfl rfl 17 #[.string bp] (exec_call1 _ (.tmp 14) _ rfl _ rfl (enters_of Tryz.func17 (by kernel_rfl) rfl _ _)) rfl ((text_any bp u0).mono ?_)
  rintro e u1 ⟨rfl, hg⟩
  have hS1 : Below w2.heap.size w2 u1 := hS0.trans ((below_of_grown hg).mono hS0.size)
  refine ⟨_, rfl, hS1, ?_⟩
  simp only [Act.put, List.setIfInBounds_toArray, List.set_cons_zero, List.set_cons_succ]
  clear hg
  refine held_one (i := 5) (by kernel_rfl) ?_
  refine held_enter (some 18) rfl rfl 18 #[.int .u64 (be : Int)] (exec_call1 _ (.tmp 17) _ rfl _ rfl (enters_of Tryz.func18 (by kernel_rfl) rfl _ _)) rfl ((HM1.out u1).mono ?_)
  rintro e u2 ⟨rfl, hg⟩
  have hS2 : Below w2.heap.size w2 u2 := hS1.trans ((below_of_grown hg).mono hS1.size)
  refine ⟨_, rfl, hS2, ?_⟩
  simp only [Act.put, List.setIfInBounds_toArray, List.set_cons_zero, List.set_cons_succ]
  clear hg
  refine held_one (i := 8) (by kernel_rfl) ?_
  refine held_enter (some 21) rfl rfl 17 #[.string bh] (exec_call1 _ (.tmp 20) _ rfl _ rfl (enters_of Tryz.func17 (by kernel_rfl) rfl _ _)) rfl ((text_any bh u2).mono ?_)
  rintro e u3 ⟨rfl, hg⟩
  have hS3 : Below w2.heap.size w2 u3 := hS2.trans ((below_of_grown hg).mono hS2.size)
  refine ⟨_, rfl, hS3, ?_⟩
  simp only [Act.put, List.setIfInBounds_toArray, List.set_cons_zero, List.set_cons_succ]
  clear hg
  refine held_one (i := 11) (by kernel_rfl) ?_
  refine held_enter (some 24) rfl rfl 18 #[.int .u64 (bt : Int)] (exec_call1 _ (.tmp 23) _ rfl _ rfl (enters_of Tryz.func18 (by kernel_rfl) rfl _ _)) rfl ((HM2.out u3).mono ?_)
  rintro e u4 ⟨rfl, hg⟩
  have hS4 : Below w2.heap.size w2 u4 := hS3.trans ((below_of_grown hg).mono hS3.size)
  refine ⟨_, rfl, hS4, ?_⟩
  simp only [Act.put, List.setIfInBounds_toArray, List.set_cons_zero, List.set_cons_succ]
  clear hg
  have hR4 := HR.out.grown (grown_of_below hS4) HB1.out (by simp)
  refine held_one (i := 14) (by kernel_rfl) ?_
  refine held_enter (some 27) rfl rfl 19 #[.slice A n c] (exec_call1 _ (.tmp 26) _ rfl _ rfl (enters_of Tryz.func19 (by kernel_rfl) rfl _ _)) rfl ((texts_any B A n c xs u4 hR4 (Nat.le_trans HB1.out hS4.size) (by have := HN.out; omega)).mono ?_)
  rintro e u5 ⟨A', c', rfl, hsub, hg⟩
  have hS5 : Below w2.heap.size w2 u5 := hS4.trans ((below_of_grown hg).mono hS4.size)
  refine ⟨_, rfl, hS5, ?_⟩
  simp only [Act.put, List.setIfInBounds_toArray, List.set_cons_zero, List.set_cons_succ]
  have hml : (xs.map txt).length = n := by rw [List.length_map]; exact HL.out
  have h5 := hsub.here
  rw [← hml] at h5
  have h6 := five_sub u5 bp N1 bh N2 (xs.map txt) A' c' h5
  rw [hml] at h6
  have hS6 : Below w2.heap.size w2 (u5.alloc (.cells #[.bool false, .string bp, .slice none 0 0, .bool false, .string N1, .slice none 0 0, .bool false, .string bh, .slice none 0 0, .bool false, .string N2, .slice none 0 0, .bool true, .string ⟨#[]⟩, .slice A' n c'] 40)) := hS5.alloc hS5.size _
  clear hg hsub h5 hR4
  refine held_one (i := 15) (by kernel_rfl) ?_
  refine held_value (some 28) rfl rfl (.slice (some ⟨u5.heap.size, 0, none⟩) 5 5) (w' := u5.alloc (.cells #[.bool false, .string bp, .slice none 0 0, .bool false, .string N1, .slice none 0 0, .bool false, .string bh, .slice none 0 0, .bool false, .string N2, .slice none 0 0, .bool true, .string ⟨#[]⟩, .slice A' n c'] 40)) (by go_simp <;> rfl) rfl hS6 ?_
  simp only [Act.put, List.setIfInBounds_toArray, List.set_cons_zero, List.set_cons_succ]
  obtain ⟨u5z, hu5z⟩ : ∃ z, u5.heap.size = z := ⟨_, rfl⟩
  rw [hu5z] at h6
  generalize u5.alloc (.cells #[.bool false, .string bp, .slice none 0 0, .bool false, .string N1, .slice none 0 0, .bool false, .string bh, .slice none 0 0, .bool false, .string N2, .slice none 0 0, .bool true, .string ⟨#[]⟩, .slice A' n c'] 40) = u6 at *
  refine held_one (i := 16) (by kernel_rfl) ?_
  refine held_enter (some 29) rfl rfl 16 #[.slice (some ⟨u5z, 0, none⟩) 5 5] (exec_call1 _ (.tmp 28) _ rfl _ (by rw [← hu5z]; rfl) (enters_of Tryz.func16 (by kernel_rfl) rfl _ _)) rfl ((list_any (.slice (some ⟨u5z, 0, none⟩) 5 5) ⟨_, _, _, rfl⟩ u6).mono ?_)
  rintro e u7 ⟨rfl, hg⟩
  have hS7 : Below w2.heap.size w2 u7 := hS6.trans ((below_of_grown hg).mono hS6.size)
  refine ⟨_, rfl, hS7, ?_⟩
  simp only [Act.put, List.setIfInBounds_toArray, List.set_cons_zero, List.set_cons_succ]
  have h7 := SubW.grown h6 hg
  clear hg h6
  refine held_one (i := 17) (by kernel_rfl) ?_
  refine held_enter (some 30) rfl rfl 15 #[.agg #[.bool true, .string ⟨#[]⟩, .slice (some ⟨u5z, 0, none⟩) 5 5]] (exec_call1 _ (.tmp 29) _ rfl _ rfl (enters_of Tryz.func15 (by kernel_rfl) rfl _ _)) rfl ((HENC.out u7 _ h7).mono ?_)
  rintro e u8 ⟨rfl, hg⟩
  have hS8 : Below w2.heap.size w2 u8 := hS7.trans ((below_of_grown hg).mono hS7.size)
  refine ⟨_, rfl, hS8, ?_⟩
  simp only [Act.put, List.setIfInBounds_toArray, List.set_cons_zero, List.set_cons_succ]
  clear hg h7
  refine held_take (i := 18) (v := .tuple #[.string ⟨(if IE = 0 then L else []).toArray⟩, .int .i64 IE]) (some 12) rfl (by kernel_rfl) (by kernel_rfl) (by kernel_rfl) (fun _ _ _ h => h) rfl (Or.inl ⟨by rfl, fun W hW => exec_move (.tmp 30) rfl _ rfl⟩) hS8 ?_
  simp only [Act.put, List.setIfInBounds_toArray, List.set_cons_zero, List.set_cons_succ]
  refine held_take (i := 19) (v := .string ⟨(if IE = 0 then L else []).toArray⟩) (some 31) rfl (by kernel_rfl) (by kernel_rfl) (by kernel_rfl) (fun _ _ _ h => h) rfl (Or.inl ⟨by rfl, fun W hW => by go_simp⟩) hS8 ?_
  simp only [Act.put, List.setIfInBounds_toArray, List.set_cons_zero, List.set_cons_succ]
  refine held_take (i := 20) (v := .int .i64 IE) (some 32) rfl (by kernel_rfl) (by kernel_rfl) (by kernel_rfl) (fun _ _ _ h => h) rfl (Or.inl ⟨by rfl, fun W hW => by go_simp⟩) hS8 ?_
  simp only [Act.put, List.setIfInBounds_toArray, List.set_cons_zero, List.set_cons_succ]
  refine held_take (i := 21) (v := .string ⟨(if IE = 0 then L else []).toArray⟩) (some 5) rfl (by kernel_rfl) (by kernel_rfl) (by kernel_rfl) (fun _ _ _ h => h) rfl (Or.inl ⟨by rfl, fun W hW => by go_simp⟩) hS8 ?_
  simp only [Act.put, List.setIfInBounds_toArray, List.set_cons_zero, List.set_cons_succ]
  refine held_take (i := 22) (v := .int .i64 IE) (some 6) rfl (by kernel_rfl) (by kernel_rfl) (by kernel_rfl) (fun _ _ _ h => h) rfl (Or.inl ⟨by rfl, fun W hW => by go_simp⟩) hS8 ?_
  simp only [Act.put, List.setIfInBounds_toArray, List.set_cons_zero, List.set_cons_succ]
  refine wpAnyH_done (by kernel_rfl) ?_ _
  have HG := Lib.hid (grown_self HG.out (grown_of_below hS8) (by simp))
  clear hS0 hS1 hS2 hS3 hS4 hS5 hS6 hS7 hS8 hr0 hr1 hr2 hr3 hr4 hbk2 hml hu5z
  by_cases hI0 : IE = 0
  rotate_left
  · have e1 : (IE != 0) = true := by simpa using hI0
    rw [if_neg hI0]
    have HI := Lib.hid hI0
    clear hI0
    go_wp2_with fail
    go_ret2
    exact ⟨by first | rfl | (rw [if_neg HI.out]; rfl), HG.out⟩
  subst hI0
  rw [if_pos rfl]
  have hls := HLS.out rfl
  have hsum : 1 + L.length ≤ 9223372036854775807 := by omega
  have hcv : (convert 36 9 (.slice (some ⟨u8.heap.size, 0, none⟩) 1 1)).run Tryz.prog (u8.alloc (.cells #[.int .u8 0] 5)) = .ok (.string ⟨#[0]⟩) (u8.alloc (.cells #[.int .u8 0] 5)) := conv_own (own_new1 u8 0)
  have HG := Lib.hid (only_alloc HG.out (.cells #[.int .u8 0] 5))
  clear hls
  go_wp2_with fail
  go_ret2
  refine ⟨?_, HG.out⟩
  (try rw [if_pos rfl])
  rw [show (0 :: L) = [0] ++ L from rfl, ← ba_cat]
  rfl
  end Go.Proofs.YtagjpbcmhaekpaaGreatDoor
