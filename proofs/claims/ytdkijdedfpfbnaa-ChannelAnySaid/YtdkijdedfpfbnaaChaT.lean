/- Frames that come in any order: plain laws. -/
import Derived.Test.YtdkijdedfpfbnaaChaS
namespace Go.Proofs.Ytdkijdedfpfbnaa
open Go.RowKit Go.Shelf

/-- the frames that have come -/
def metL (l : List Frm) (M : List Bool) : List Frm := l.filter fun f => M.getD f.num.toNat false
/-- frames told from 0 on, the last one marked -/
structure Told (l : List Frm) : Prop where
  heard : HeardP l
  num : ∀ k, k < l.length → (l.getD k Frm.none_).num = (k : Int)
  last : ∀ k, k < l.length → (l.getD k Frm.none_).last = decide (k + 1 = l.length)
  few : l.length ≤ 32
theorem metL_sub (l : List Frm) (M : List Bool) : (metL l M).Sublist l := List.filter_sublist
theorem metL_mem {l : List Frm} (h : Told l) {M : List Bool} {k : Nat} (hk : k < l.length) : l.getD k Frm.none_ ∈ metL l M ↔ M.getD k false = true := by
  unfold metL
  rw [List.mem_filter, h.num k hk]
  simp only [Int.toNat_natCast]
  exact ⟨fun e => e.2, fun e => ⟨getD_mem l k hk, e⟩⟩
theorem metL_twice {l : List Frm} (h : Told l) {M : List Bool} {k : Nat} (hk : k < l.length) (hm : M.getD k false = true) : addE (metL l M) (l.getD k Frm.none_) = 13 ∧ addL (metL l M) (l.getD k Frm.none_) = metL l M := by
  have h13 := addE_twice (h.heard.sub (metL_sub l M)) ((metL_mem h hk).2 hm)
  exact ⟨h13, by unfold addL; rw [if_neg (by rw [h13]; decide)]⟩
theorem filter_cong {p q : Frm → Bool} {l : List Frm} (h : ∀ f ∈ l, p f = q f) : l.filter p = l.filter q := List.filter_congr h
theorem metL_new {l : List Frm} (h : Told l) {M : List Bool} {k : Nat} (hM : M.length = l.length) (hk : k < l.length) (hm : M.getD k false = false) : addE (metL l M) (l.getD k Frm.none_) = 0 ∧ addL (metL l M) (l.getD k Frm.none_) = metL l (M.set k true) ∧ (metL l (M.set k true)).length = (metL l M).length + 1 := by
  have hnum := h.num k hk
  have hno : l.getD k Frm.none_ ∉ metL l M := fun e => by rw [metL_mem h hk, hm] at e; cases e
  have hE := addE_new h.heard (metL_sub l M) (getD_mem l k hk) hno (by have := h.few; omega)
  refine ⟨hE, ?_⟩
  have hl : l = l.take k ++ l.getD k Frm.none_ :: l.drop (k + 1) := by
    rw [getD_get hk, ← List.drop_eq_getElem_cons hk, List.take_append_drop]
  have h1 : ∀ g ∈ l.take k, g.num < (k : Int) ∧ 0 ≤ g.num := by
    intro g hg
    obtain ⟨i, hi, rfl⟩ := List.mem_iff_getElem.1 hg
    rw [List.length_take] at hi
    have := h.num i (by omega)
    rw [getD_get (by omega)] at this
    rw [List.getElem_take, this]
    omega
  have h2 : ∀ g ∈ l.drop (k + 1), (k : Int) < g.num := by
    intro g hg
    obtain ⟨i, hi, rfl⟩ := List.mem_iff_getElem.1 hg
    rw [List.length_drop] at hi
    have := h.num (k + 1 + i) (by omega)
    rw [getD_get (by omega)] at this
    rw [List.getElem_drop, this]
    omega
  generalize l.take k = l1 at *
  generalize l.drop (k + 1) = l2 at *
  generalize l.getD k Frm.none_ = f at *
  have hset : ∀ j : Nat, (M.set k true).getD j false = if j = k then true else M.getD j false := by
    intro j
    rw [List.getD_eq_getElem?_getD, List.getElem?_set]
    by_cases hj : k = j
    · subst hj; rw [if_pos rfl, if_pos (by omega), if_pos rfl]; rfl
    · rw [if_neg hj, if_neg (fun e => hj e.symm), ← List.getD_eq_getElem?_getD]
  have e1 : metL l M = l1.filter (fun f => M.getD f.num.toNat false) ++ l2.filter (fun f => M.getD f.num.toNat false) := by
    unfold metL
    rw [hl, List.filter_append, List.filter_cons, if_neg (by rw [hnum, Int.toNat_natCast, hm]; simp)]
  have e2 : metL l (M.set k true) = l1.filter (fun f => M.getD f.num.toNat false) ++ f :: l2.filter (fun f => M.getD f.num.toNat false) := by
    unfold metL
    rw [hl, List.filter_append, List.filter_cons, if_pos (by rw [hset, hnum, Int.toNat_natCast, if_pos rfl])]
    congr 1
    · refine filter_cong fun g hg => ?_
      have := h1 g hg
      rw [hset, if_neg (by omega)]
    · congr 1
      refine filter_cong fun g hg => ?_
      have := h2 g hg
      rw [hset, if_neg (by omega)]
  rw [e1] at hE
  rw [e2, e1, addL_app (fun g hg => by have := h1 g (List.mem_filter.1 hg).1; omega) (fun g hg => by have := h2 g (List.mem_filter.1 hg).1; omega) hE]
  exact ⟨rfl, by simp only [List.length_append, List.length_cons]; omega⟩
theorem metL_full {l : List Frm} {M : List Bool} (h : (metL l M).length = l.length) : metL l M = l := (metL_sub l M).eq_of_length h
theorem metL_ready {l : List Frm} (h : Told l) (M : List Bool) (hw : wholeF l = true) : readyF (metL l M) = decide ((metL l M).length = l.length) ∧ ((metL l M).length = l.length → joinE (metL l M) = 0 ∧ joinL (metL l M) = joinL l) ∧ ((metL l M).length ≠ l.length → joinE (metL l M) = 3) := by
  have hh := heard_of (h.heard.sub (metL_sub l M))
  by_cases hc : (metL l M).length = l.length
  · have he := metL_full hc
    rw [he] at hh ⊢
    refine ⟨by unfold readyF; rw [hh, hw]; simp, fun _ => ⟨by unfold joinE; rw [if_neg (by rw [hh]; simp), if_neg (by rw [hw]; simp)], rfl⟩, fun h => absurd rfl h⟩
  · have hwf : wholeF (metL l M) = false := by
      cases hx : wholeF (metL l M)
      · rfl
      · exfalso
        unfold wholeF at hx
        simp only [Bool.and_eq_true, decide_eq_true_eq] at hx
        obtain ⟨x1, x2, x3⟩ := hx
        have hmem := (metL_sub l M).subset (getD_mem (metL l M) ((metL l M).length - 1) (by omega))
        obtain ⟨t, ht, hte⟩ := mem_getD l _ hmem
        have a := h.num t ht
        have b := h.last t ht
        rw [hte] at a b
        rw [x2] at b
        have := of_decide_eq_true b.symm
        omega
    refine ⟨by unfold readyF; rw [hh, hwf, decide_eq_false hc]; rfl, fun e => absurd e hc, fun _ => by unfold joinE; rw [if_neg (by rw [hh]; simp), if_pos hwf]⟩
theorem metL_none (l : List Frm) (n : Nat) : metL l (List.replicate n false) = [] := by
  unfold metL
  refine List.filter_eq_nil_iff.2 fun f _ => ?_
  rw [List.getD_eq_getElem?_getD, List.getElem?_replicate]
  split <;> simp
theorem metL_all {l : List Frm} (h : Told l) {M : List Bool} (hall : ∀ k, k < l.length → M.getD k false = true) : metL l M = l := by
  unfold metL
  refine List.filter_eq_self.2 fun f hf => ?_
  obtain ⟨t, ht, rfl⟩ := mem_getD l f hf
  rw [h.num t ht]
  exact hall t ht
theorem splitL0_told (id : ByteArray) (d : List UInt8) (n : Nat) (hid : id.size = 16) (hn : n ≤ 4096) (hN : splitN d.length n ≤ 32) : Told (splitL0 id d n) := by
  refine ⟨heardP_of (splitL0_heard id d n hid hn hN), fun k hk => ?_, fun k hk => ?_, by rw [splitL0_len]; exact hN⟩
  · rw [splitL0_len] at hk; rw [splitL0_at id d n k hk]
  · rw [splitL0_len] at hk ⊢; rw [splitL0_at id d n k hk]
theorem set_same {M : List Bool} {k : Nat} (h : M.getD k false = true) : M.set k true = M := by
  refine List.ext_getElem? fun j => ?_
  rw [List.getElem?_set]
  by_cases hj : k = j
  · subst hj
    rw [if_pos rfl]
    rw [List.getD_eq_getElem?_getD] at h
    rcases Nat.lt_or_ge k M.length with hl | hl
    · rw [List.getElem?_eq_getElem hl] at h ⊢
      rw [if_pos hl]
      simpa using h.symm
    · rw [List.getElem?_eq_none hl] at h; cases h
  · rw [if_neg hj]
theorem set_met {M : List Bool} {k j : Nat} (hk : k < M.length) : (M.set k true).getD j false = if k = j then true else M.getD j false := by
  rw [List.getD_eq_getElem?_getD, List.getElem?_set]
  by_cases hj : k = j
  · subst hj; rw [if_pos rfl, if_pos hk, if_pos rfl]; rfl
  · rw [if_neg hj, if_neg hj, ← List.getD_eq_getElem?_getD]
/-- a row of frames does not lie in a row of bools -/
theorem reads_apart {w : World} {B g k h : Nat} {A : Option Addr} {ys : List Frm} {M : List Bool} {v : Value} (hr : Reads w B 4 A h (framesV ys)) (hb : Blk w g 4 (M.map Value.bool).toArray) : Reads (w.setCell ⟨g, k, none⟩ v) B 4 A h (framesV ys) := by
  refine ⟨hr.1, fun h0 => ?_⟩
  obtain ⟨a, ha, hB, hc⟩ := hr.2 h0
  refine ⟨a, ha, hB, fun j u hu => ?_⟩
  obtain ⟨b, off, hA, _, hf⟩ := hr.frames (k := 0) h0
  rw [ha] at hA
  injection hA with hA
  have hne : g ≠ b := by
    rintro rfl
    have h1 := (hf 0 h0).1
    rw [hb.cell, List.getElem?_toArray, List.getElem?_map] at h1
    revert h1
    cases M[off + 0 * 4]? <;> simp
  rw [World.cell?_setCell_far _ _ _ _ (by rw [hA]; show g ≠ (Addr.add _ j).block; unfold Addr.add; split <;> exact hne)]
  exact hc j u hu
theorem make_bools (m : Nat) (hm : m ≤ 1000000) (w : World) : (Instr.makeSlice 38 (.int .i64 (m : Int)) (.int .i64 (m : Int))).run Try.prog w =
    .ok (.slice (some ⟨w.heap.size, 0, none⟩) m m) (w.alloc (.cells ((List.replicate m false).map Value.bool).toArray 4)) := by
  have hs : (Try.prog.info? 4).isSome = true := by kernel_rfl
  obtain ⟨i, hi⟩ := Option.isSome_iff_exists.1 hs
  have hb : (Try.prog.info? 4).map (·.bytes) = some 1 := by kernel_rfl
  have hsz : (Try.prog.info? 4).map (·.size) = some 1 := by kernel_rfl
  have hz : (Try.prog.info? 4).bind (·.zero) = some (.bool false) := by kernel_rfl
  rw [hi] at hb hsz hz
  simp only [Option.map_some, Option.some.injEq, Option.bind_some] at hb hsz hz
  have hmk := run_make_rowN (P := Try.prog) 38 4 i _ (by kernel_rfl) hi hz .i64 .i64 m m (Nat.le_refl _) (by rw [hb]; omega) (by omega) w
  rw [hmk, hsz]
  congr 3
  refine Array.ext_getElem? fun j => ?_
  by_cases hj : j < m
  · simp [madeCells, hj, Value.cells, Nat.mod_one]
  · rw [Array.getElem?_eq_none (by simp [madeCells]; omega), Array.getElem?_eq_none (by simp; omega)]
theorem bools_cell {w : World} {g k : Nat} {M : List Bool} (h : Blk w g 4 (M.map Value.bool).toArray) (hk : k < M.length) : w.cell? ⟨g, k, none⟩ = some (.bool (M.getD k false)) := by
  rw [h.cell, List.getElem?_toArray, List.getElem?_map, List.getD_eq_getElem?_getD, List.getElem?_eq_getElem hk]; rfl
theorem bools_set {w : World} {g k : Nat} {M : List Bool} (h : Blk w g 4 (M.map Value.bool).toArray) : Blk (w.setCell ⟨g, k, none⟩ (.bool true)) g 4 ((M.set k true).map Value.bool).toArray := by
  have := h.set_ k (.bool true)
  rwa [List.setIfInBounds_toArray, ← List.map_set] at this
end Go.Proofs.Ytdkijdedfpfbnaa
