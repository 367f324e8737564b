/- Split. -/
import Derived.Test.YtdkijdedfpfbnaaChaL
namespace Go.Proofs.Ytdkijdedfpfbnaa
open Go.RowKit Go.Shelf
attribute [local go_sem] Oper.semAt_some

theorem results_tt {P : Program} {fn : Func} {q r : Tmp} (h : fn.results = #[.tmp q, .tmp r]) (tmps : Array Value) (w : World) : (results fn tmps).run P w = .ok (.tuple #[tmps.getD q undef, tmps.getD r undef]) w := by
  simp [results, h]
theorem ownFrom_ex {β γ : Type} {B : Nat} {I : γ → β → World → Prop} (h : ∀ c, OwnFrom B (I c)) : OwnFrom B (fun s W => ∃ c, I c s W) := fun s W W' row ⟨c, hc⟩ hg hr => ⟨c, h c s W W' row hc hg hr⟩
theorem bytes_at {w : World} {g cap : Nat} {d : ByteArray} {fr : Nat × Nat} (h : w.heap[g]? = some (.cells (bytesRow d cap) 5 fr)) (n k : Nat) :
    ∀ j (hj : j < ((d.data.toList.drop (k * n)).take n).length), w.cell? ((⟨g, k * n, none⟩ : Addr).add j) = some (.int .u8 (((d.data.toList.drop (k * n)).take n)[j].toNat : Int)) := by
  intro j hj
  have hl := ba_len d
  rw [List.length_take, List.length_drop, hl] at hj
  have e : (⟨g, k * n, none⟩ : Addr).add j = ⟨g, k * n + j, none⟩ := by
    unfold Addr.add
    by_cases h0 : j = 0
    · subst h0; simp
    · simp [h0]
  rw [e, cell_of_row w g _ _ _ _ h]
  have hs : k * n + j < d.data.size := by rw [← Array.length_toList, hl]; omega
  unfold bytesRow
  rw [Array.getElem?_append_left (by simpa using hs), Array.getElem?_map, Array.getElem?_eq_getElem hs]
  simp
theorem part_size (d : ByteArray) (n k : Nat) : (partB d.data.toList n k).size = min n (d.size - k * n) := by
  rw [← ba_len]; show ((d.data.toList.drop (k * n)).take n).length = _; rw [List.length_take, List.length_drop, ba_len]
theorem partsN_le {len n : Nat} (hn : 1 ≤ n) (h : len ≤ 32 * n) : partsN len n ≤ 32 := by
  rcases Nat.lt_or_ge 32 (partsN len n) with h2 | h2
  · have := (parts_lt (len := len) hn).1 h2; omega
  · exact h2
/-- the frames of the parts that came -/
def preF (id : ByteArray) (d : List UInt8) (n : Nat) {N : Nat} (pre : List (Fin N)) : List Frm := pre.mapIdx fun i x => ⟨id, (i : Int), partB d n x.val, false⟩
theorem preF_snoc (id : ByteArray) (d : List UInt8) (n : Nat) {N : Nat} (pre : List (Fin N)) (x : Fin N) : preF id d n (pre ++ [x]) = preF id d n pre ++ [⟨id, (pre.length : Int), partB d n x.val, false⟩] := by simp [preF, List.mapIdx_append]
theorem preF_all (id : ByteArray) (d : List UInt8) (n N : Nat) : preF id d n (List.finRange N) = frames0 id d n N := by
  refine List.ext_getElem (by simp [preF, frames0]) fun i h1 h2 => ?_
  simp [preF, frames0]
theorem cells_own {β : Type} (g : Nat) (cs : Array Value) (t : TypeId) (fr : Nat × Nat) : Own (fun (_ : β) W => W.heap[g]? = some (.cells cs t fr)) := by
  intro s X Y row h hg hrow
  refine (hg.block g (Array.getElem?_eq_some_iff.1 h).1 (fun e => ?_)).trans h
  obtain ⟨o, ho, hc⟩ := hrow g e.symm
  rw [h] at ho; cases ho; cases hc
theorem str_newbox (w : World) (v : Value) (t : TypeId) (o : Obj) : Boxed ((w.alloc (.cells #[v] t)).alloc o) w.heap.size t v := (Boxed.new w t v).alloc o

set_option maxRecDepth 100000 in
set_option maxHeartbeats 4000000 in
theorem split_any (id d : ByteArray) (n : Int) (hn : -9223372036854775808 ≤ n ∧ n ≤ 9223372036854775807) (w : World) :
    Calls Try.prog 10 #[.string id, .string d, .int .i64 n] w fun e w' => ∃ v, e = .returned (.tuple #[v, .int .i64 (splitE id d n)]) ∧ w'.ownsRow w.heap.size 30 4 v (splitL id d n).length (framesV (splitL id d n)) ∧ Below w.heap.size w w' := by
  obtain ⟨i0, hi, hz0, hz1, hz2⟩ := info_parts frame_info
  have hbw : Below w.heap.size w (w.alloc (.cells #[.string id] 9)) := (Below.refl _ w).alloc (Nat.le_refl _) _
  refine (callsIn_wide (n := 6)).1 ?_
  refine callsIn_of_wp_marks Try.func10 rfl trivial ?_ rfl
  simp only [Try.ntmps10, List.size_toArray, List.length_cons, List.length_nil, Nat.reduceAdd, Nat.reduceSub, Array.replicate_succ, Array.replicate_zero, List.push_toArray, List.append_toArray, List.nil_append, List.cons_append]
  by_cases h1 : n < 1 ∨ 4096 < n
  · have hE : splitE id d n = 1 := by unfold splitE; rw [if_pos h1]
    have hL : splitL id d n = [] := by unfold splitL; rw [if_neg (by rw [hE]; decide)]
    rw [hE, hL]
    clear hE hL
    by_cases h2 : n < 1
    · clear h1
      gi_wp2_with fail
      exact ⟨_, results_tt rfl _ _, _, rfl, World.ownsRow_nil _ _ _ _, hbw⟩
    · have h3 : 4096 < n := by omega
      have d2 : decide (n < 1) = false := decide_eq_false h2
      clear h1 h2
      gi_wp2_with fail
      exact ⟨_, results_tt rfl _ _, _, rfl, World.ownsRow_nil _ _ _ _, hbw⟩
  obtain ⟨m, rfl⟩ := Int.eq_ofNat_of_zero_le (show 0 ≤ n by omega)
  have hm1 : 1 ≤ m := by omega
  have hm2 : m ≤ 4096 := by omega
  have d1 : decide ((m : Int) < 1) = false := decide_eq_false (by omega)
  have d2 : decide (4096 < (m : Int)) = false := decide_eq_false (by omega)
  have d1' : decide (m < 1) = false := decide_eq_false (by omega)
  by_cases h2 : id.size = 16
  · have d3 : ((id.size : Int) != 16) = false := by simp; omega
    by_cases h3 : 32 * (m : Int) < (d.size : Int)
    · have hE : splitE id d m = 5 := by unfold splitE; rw [if_neg h1, if_neg (by omega), if_pos h3]
      have hL : splitL id d m = [] := by unfold splitL; rw [if_neg (by rw [hE]; decide)]
      rw [hE, hL]
      have HI := Lib.hid h2
      clear hE hL h1 h2
      gi_wp2_with fail
      exact ⟨_, results_tt rfl _ _, _, rfl, World.ownsRow_nil _ _ _ _, hbw⟩
    · have hE : splitE id d m = 0 := by unfold splitE; rw [if_neg h1, if_neg (by omega), if_neg h3]
      have hL : splitL id d m = splitL0 id d.data.toList m := by unfold splitL; rw [if_pos hE]; rfl
      rw [hE, hL]
      have hdz : d.size ≤ 32 * m := by omega
      have d4 : decide (32 * (m : Int) < (d.size : Int)) = false := decide_eq_false h3
      have d4' : decide (32 * m < d.size) = false := decide_eq_false (by omega)
      have HI := Lib.hid h2
      have hdl := ba_len d
      have HDL := Lib.hid hdl
      have hP32 := partsN_le (len := d.size) hm1 hdz
      clear hE hL h1 h2 h3 hdl
      -- the boxes
      have x1 : Boxed ((w.alloc (.cells #[.string id] 9)).alloc (.cells #[.slice none 0 0] 23)) w.heap.size 9 (.string id) := (Boxed.new w _ _).alloc _
      have x2 : Boxed ((w.alloc (.cells #[.string id] 9)).alloc (.cells #[.slice none 0 0] 23)) (w.heap.size + 1) 23 (.slice none 0 0) := by
        have := Boxed.new (w.alloc (.cells #[.string id] 9)) 23 (.slice none 0 0)
        rwa [World.size_alloc] at this
      have xb : Below w.heap.size w ((w.alloc (.cells #[.string id] 9)).alloc (.cells #[.slice none 0 0] 23)) := hbw.alloc (by simp) _
      have xz : ((w.alloc (.cells #[.string id] 9)).alloc (.cells #[.slice none 0 0] 23)).heap.size = w.heap.size + 2 := by simp
      have hcv := run_bytes_of_string (P := Try.prog) ((w.alloc (.cells #[.string id] 9)).alloc (.cells #[.slice none 0 0] 23)) 9 37 5 d Try.underlying9 Try.underlying37 Try.underlying5
      obtain ⟨b, hb⟩ : ∃ b, w.heap.size = b := ⟨_, rfl⟩
      have hcap := grownCap_ge ((w.alloc (.cells #[.string id] 9)).alloc (.cells #[.slice none 0 0] 23)) d.size 0 5
      generalize grownCap ((w.alloc (.cells #[.string id] 9)).alloc (.cells #[.slice none 0 0] 23)) d.size 0 5 = cap at *
      rw [xz] at hcv
      clear hbw
      gi_wp2_with fail
      have hT := heap_alloc_new ((w.alloc (.cells #[.string id] 9)).alloc (.cells #[.slice none 0 0] 23)).drew (.cells (bytesRow d cap) 5 ((bytesRow d cap).size, (bytesRow d cap).size + 1))
      have y1 : Boxed (((w.alloc (.cells #[.string id] 9)).alloc (.cells #[.slice none 0 0] 23)).drew.alloc (.cells (bytesRow d cap) 5 ((bytesRow d cap).size, (bytesRow d cap).size + 1))) w.heap.size 9 (.string id) := Boxed.alloc (W := ((w.alloc (.cells #[.string id] 9)).alloc (.cells #[.slice none 0 0] 23)).drew) x1 _
      have y2 : Boxed (((w.alloc (.cells #[.string id] 9)).alloc (.cells #[.slice none 0 0] 23)).drew.alloc (.cells (bytesRow d cap) 5 ((bytesRow d cap).size, (bytesRow d cap).size + 1))) (w.heap.size + 1) 23 (.slice none 0 0) := Boxed.alloc (W := ((w.alloc (.cells #[.string id] 9)).alloc (.cells #[.slice none 0 0] 23)).drew) x2 _
      have yb : Below w.heap.size w (((w.alloc (.cells #[.string id] 9)).alloc (.cells #[.slice none 0 0] 23)).drew.alloc (.cells (bytesRow d cap) 5 ((bytesRow d cap).size, (bytesRow d cap).size + 1))) := (Below.drew' xb).alloc (by show _ ≤ ((w.alloc _).alloc _).heap.size; simp; omega) _
      have yz : (((w.alloc (.cells #[.string id] 9)).alloc (.cells #[.slice none 0 0] 23)).drew.alloc (.cells (bytesRow d cap) 5 ((bytesRow d cap).size, (bytesRow d cap).size + 1))).heap.size = w.heap.size + 3 := by rw [World.size_alloc]; show ((w.alloc _).alloc _).heap.size + 1 = _; simp
      rw [show ((w.alloc (.cells #[.string id] 9)).alloc (.cells #[.slice none 0 0] 23)).drew.heap.size = w.heap.size + 2 from xz] at hT
      clear x1 x2 xb xz hcv
      refine ⟨trivial, callsIn_wide.2 ((chunk_any _ _ _ (m : Int) (by omega) _).mono ?_)⟩
      generalize hW3 : (((w.alloc (.cells #[.string id] 9)).alloc (.cells #[.slice none 0 0] 23)).drew.alloc (.cells (bytesRow d cap) 5 ((bytesRow d cap).size, (bytesRow d cap).size + 1))) = w3 at *
      rintro e w4 ⟨rfl, hw4⟩
      have hw4' : w4 = (w3.alloc (.cells #[.slice (some ⟨b + 2, 0, none⟩) d.size cap] 37)).alloc (.cells #[.int .i64 (m : Int)] 3) := by rw [← hW3]; exact hw4
      have hs3 : ((((w.alloc (.cells #[.string id] 9)).alloc (.cells #[.slice none 0 0] 23)).alloc (.cells (bytesRow d cap) 5 ((bytesRow d cap).size, (bytesRow d cap).size + 1))).drew).heap.size = b + 3 := by rw [← hb, ← yz, ← hW3]; rfl
      rw [hs3]
      rw [hb] at y1 y2 yb yz hT
      have bS : Boxed w4 (b + 3) 37 (.slice (some ⟨b + 2, 0, none⟩) d.size cap) := by rw [hw4', ← yz]; exact (Boxed.new w3 _ _).alloc _
      have bN : Boxed w4 (b + 4) 3 (.int .i64 (m : Int)) := by
        have := Boxed.new (w3.alloc (.cells #[.slice (some ⟨b + 2, 0, none⟩) d.size cap] 37)) 3 (.int .i64 (m : Int))
        rw [World.size_alloc, yz] at this
        rw [hw4']; exact this
      have u1 : Boxed w4 b 9 (.string id) := by rw [hw4']; exact (y1.alloc _).alloc _
      have u2 : Boxed w4 (b + 1) 23 (.slice none 0 0) := by rw [hw4']; exact (y2.alloc _).alloc _
      have uT : w4.heap[b + 2]? = some (.cells (bytesRow d cap) 5 ((bytesRow d cap).size, (bytesRow d cap).size + 1)) := by
        rw [hw4']; exact (Below.heap_alloc _ _ _ (by simp; omega)).trans ((Below.heap_alloc _ _ _ (by omega)).trans hT)
      have ub : Below b w w4 := by rw [hw4']; exact (yb.alloc (by omega) _).alloc (by simp; omega) _
      have uz : w4.heap.size = b + 5 := by rw [hw4']; simp [yz]
      have HB0 := Lib.hid hb
      clear hw4 hw4' hs3 hW3 y1 y2 yb yz hT hb
      gi_wp2_with fail
      have UZ := Lib.hid uz
      have hKS : ∀ k, (k < b ∨ k = b + 3 ∨ k = b + 4) → k < w4.heap.size := by intro k hk; omega
      clear uz
      refine wpIn_rangeFunc_ownG rfl (by omega) (gf := 33) (lb := #[.pointer (some ⟨b + 3, 0, none⟩), .pointer (some ⟨b + 3 + 1, 0, none⟩)]) rfl trivial (enters_of Try.func33 (by kernel_rfl) rfl)
        (encs := fun x : Fin (partsN d.size m) => #[.slice (some ⟨b + 2, x.val * m, none⟩) (min m (d.size - x.val * m)) (min m (d.size - x.val * m))]) (S := fun ys => ys = List.finRange (partsN d.size m)) (Sp := fun pre => pre <+: List.finRange (partsN d.size m)) (N := partsN d.size m) (w0 := w4) (Kp := KeepS (fun k => k < b ∨ k = b + 3 ∨ k = b + 4))
        (fun l J Jx W hW hA _ hY h0 => chunk1_in 5 (by omega) l (b + 3) (b + 4) b (b + 2) d.size cap m hm1 (by omega) (by omega) hcap J Jx hY W ((hW.cell (p := ⟨b + 3, 0, none⟩) (by have := UZ.out; simp; omega)).trans bS.cell) ((hW.cell (p := ⟨b + 4, 0, none⟩) (by have := UZ.out; simp; omega)).trans bN.cell) h0 (fun s W n h => hA s W _ none h ⟨rfl, rfl, rfl, Nat.le_refl _, fun _ _ _ => rfl⟩ (by simp)))
        keepS_t (keepS_b hKS) (Below.refl _ _) (fun _ => rfl)
        (fun pre W => (∃ v, Boxed W (b + 1) 23 v ∧ W.ownsRow b 30 4 v pre.length (framesV (preF id d.data.toList m pre)) ∧ True) ∧ (Below b w W ∧ (Boxed W b 9 (.string id) ∧ (Boxed W (b + 3) 37 (.slice (some ⟨b + 2, 0, none⟩) d.size cap) ∧ (Boxed W (b + 4) 3 (.int .i64 (m : Int)) ∧ W.heap[b + 2]? = some (.cells (bytesRow d cap) 5 ((bytesRow d cap).size, (bytesRow d cap).size + 1)))))))
        (fun _ _ _ => False)
        ?hI
        (fun _ _ _ _ _ hs _ _ => hs)
        ⟨⟨_, u2, World.ownsRow_nil _ _ _ _, trivial⟩, ub, u1, bS, bN, uT⟩
        (fun x => { tmps := #[.string id, .string d, .int .i64 (m : Int), .pointer (some ⟨b, 0, none⟩), undef, undef, .slice none 0 0, .int .i64 0, .pointer (some ⟨b + 1, 0, none⟩), .slice (some ⟨b + 2, x.val * m, none⟩) (min m (d.size - x.val * m)) (min m (d.size - x.val * m)), .bool false, .int .i64 (m : Int), .bool false, .bool false, .int .i64 (m : Int), .bool false, .bool false, .bool false, .string id, .int .i64 (id.size : Int), .bool false, .bool false, .string d, .int .i64 (d.size : Int), .int .i64 (m : Int), .int .i64 (32 * (m : Int)), .bool false, .string d, .slice (some ⟨b + 2, 0, none⟩) d.size cap, .int .i64 (m : Int), .func (.func 33) #[] #[.pointer (some ⟨b + 3, 0, none⟩), .pointer (some ⟨b + 3 + 1, 0, none⟩)], .slice (some ⟨b + 2, x.val * m, none⟩) (min m (d.size - x.val * m)) (min m (d.size - x.val * m)), undef, undef, undef, undef, undef, undef, undef, undef, undef, undef, undef, undef, undef, undef, undef, undef, undef, undef, undef, undef, undef, undef, undef, undef], defers := [] }) ?assign ?body ?done ?stop
      case hI => exact OwnFrom.and (Own.from (holdsRow_own b (b + 1) 23 30 4 (fun pre : List (Fin (partsN d.size m)) => pre.length) (fun pre => framesV (preF id d.data.toList m pre)) (fun _ _ => True)) _) (OwnFrom.and (ownFrom_below (by have := HB0.out; omega) (by have := UZ.out; omega)) (OwnFrom.and (Own.from (boxed_own _ _ (fun _ => _)) _) (OwnFrom.and (Own.from (boxed_own _ _ (fun _ => _)) _) (OwnFrom.and (Own.from (boxed_own _ _ (fun _ => _)) _) (Own.from (cells_own _ _ _ _) _)))))
      case assign =>
        intro l x W K hK
        gi_wp2
        exact hK
      case body =>
        rintro l pre x W ⟨⟨v, hv, hrow, _⟩, hB, u1, u3, u4, uT⟩ hlt
        have hc := hv.cell
        have e1 := u1.cell
        have hBz : b ≤ W.heap.size := Nat.le_trans (by have := HB0.out; omega) hB.size
        have hBz2 : b + 3 ≤ W.heap.size := (Array.getElem?_eq_some_iff.1 uT).1
        obtain ⟨A, cc, rfl⟩ := own_slice4 hrow
        obtain ⟨e, he⟩ : ∃ e, min m (d.size - x.val * m) = e := ⟨_, rfl⟩
        have hconv : (convert 37 9 (.slice (some ⟨b + 2, x.val * m, none⟩) e e)).run Try.prog W = .ok (.string (partB d.data.toList m x.val)) W := by
          have := run_convert_bytes_back (P := Try.prog) W 37 9 5 ⟨b + 2, x.val * m, none⟩ e ((d.data.toList.drop (x.val * m)).take m) (by kernel_rfl) (by kernel_rfl) (by kernel_rfl) (bytes_at uT m x.val)
          have hl : ((d.data.toList.drop (x.val * m)).take m).length = e := by rw [List.length_take, List.length_drop, HDL.out, he]
          rw [hl] at this
          exact this
        rw [he]
        have hV := preF_snoc id d.data.toList m pre x
        obtain ⟨pb, hpb⟩ : ∃ pb, partB d.data.toList m x.val = pb := ⟨_, rfl⟩
        rw [hpb] at hconv hV
        have HV := Lib.hid hV
        clear he hpb hV
        gi_wp2_with (gi_at_builtin; refine wpListIn_append_own _ rfl _ _ 23 rfl b 30 i0 (.agg #[.string .empty, .int .i64 0, .string .empty, .bool false]) 4 48 Try.underlying23 hi hz0 hz1 hz2 rfl (by decide) _ _ _ rfl (hrow.alloc _) ⟨W.heap.size, 0, none⟩ 1 1 [.string id, .int .i64 (pre.length : Int), .string pb, .bool false] rfl rfl (cell_four_new _ _ _ _ _ _) (by simp [Value.oneCell']) (by simp only [maxLen]; omega) (by omega) (by simp; omega) ?_; intro v' w5 hown' hgrow _; obtain ⟨g', cap', rfl⟩ := ownsRow_succ hown'; obtain ⟨hv1, hv2, hr2, hk2, hb2⟩ := hv.appended (by decide) hrow hBz (by omega) hown' hgrow; have hc1 := hv1.cell; have hf1 := hv1.frozen)
        have a1 := KeepS.appendedBox (v' := .slice (some ⟨g', 0, none⟩) (pre.length + 1) cap') hBz u1 (by decide) hrow (B := b + 1) (by omega) (by omega) hgrow
        have a3 := KeepS.appendedBox (v' := .slice (some ⟨g', 0, none⟩) (pre.length + 1) cap') hBz u3 (by decide) hrow (B := b + 1) (by omega) (by omega) hgrow
        have a4 := KeepS.appendedBox (v' := .slice (some ⟨g', 0, none⟩) (pre.length + 1) cap') hBz u4 (by decide) hrow (B := b + 1) (by omega) (by omega) hgrow
        have hTn : some (b + 2) ≠ (Value.slice A pre.length cc).ownBlock := by
          intro e'
          rcases hrow.2 with ⟨hvn, _⟩ | ⟨g9, c9, cur9, hvn, _, hh9, _⟩
          · rw [hvn] at e'; cases e'
          · rw [hvn] at e'
            have : b + 2 = g9 := by simpa [Value.ownBlock] using e'
            subst this
            rw [uT] at hh9; cases hh9
        have uT2 : (w5.setCell ⟨b + 1, 0, none⟩ (.slice (some ⟨g', 0, none⟩) (pre.length + 1) cap')).heap[b + 2]? = some (.cells (bytesRow d cap) 5 ((bytesRow d cap).size, (bytesRow d cap).size + 1)) :=
          (Below.heap_setCell _ _ _ _ (by show b + 2 ≠ b + 1; omega)).trans ((hgrow.block (b + 2) (by simp; omega) hTn).trans ((Below.heap_alloc _ _ _ (by omega)).trans uT))
        have hs2 := hb2.size
        refine ⟨hk2.from _, ?_, ⟨_, hv2, ?_, trivial⟩, hB.trans hb2, a1.2, a3.2, a4.2, uT2⟩
        · refine ⟨hs2, fun k hk => ?_⟩
          rcases hk with hk | rfl | rfl
          · exact hb2.block k hk
          · exact a3.1.block _ (.inr rfl)
          · exact a4.1.block _ (.inr rfl)
        · rw [HV.out, framesV_snoc, List.length_append]; exact hr2
      case done =>
        rintro D ys W hD rfl ⟨⟨v, hv, hrow, _⟩, hB, u1, u3, u4, uT⟩ hK
        rw [List.length_finRange, preF_all] at hrow
        have hDW : D < W.heap.size := (Array.getElem?_eq_some_iff.1 hK).1
        have hBz : b ≤ W.heap.size := Nat.le_trans (by have := HB0.out; omega) hB.size
        have hBz2 : b + 3 ≤ W.heap.size := (Array.getElem?_eq_some_iff.1 uT).1
        have hD5 : b + 5 ≤ D := by have := UZ.out; omega
        have hsn : splitN d.data.toList.length m = max 1 (partsN d.size m) := by rw [HDL.out]; rfl
        have hc := hv.cell
        by_cases h0 : partsN d.size m = 0
        · have hS : splitL0 id d.data.toList m = frames0 id d.data.toList m 0 ++ [⟨id, ((0 : Nat) : Int), partB d.data.toList m 0, true⟩] := by unfold splitL0; rw [hsn, h0]; rfl
          have hSL : (splitL0 id d.data.toList m).length = 0 + 1 := by rw [hS]; rfl
          have HSL := Lib.hid hSL
          have hd0 : d.size = 0 := by
            by_cases h9 : d.size = 0
            · exact h9
            · have := (parts_lt (len := d.size) (n := m) (k := 0) hm1).2 (by omega); omega
          have hpb : partB d.data.toList m 0 = ⟨#[]⟩ := by
            have := part_size d m 0
            rw [hd0] at this
            refine ba_ext (List.eq_nil_of_length_eq_zero ?_)
            rw [ba_len, this]; simp
          rw [h0] at hrow
          have HS := Lib.hid hS; have HPB := Lib.hid hpb
          have e1 := u1.cell
          obtain ⟨A, cc, rfl⟩ := own_slice4 hrow
          clear hS hSL hpb hd0 h0 hsn
          gi_wp2_with (gi_at_builtin; refine wpListIn_append_own _ rfl _ _ 23 rfl b 30 i0 (.agg #[.string .empty, .int .i64 0, .string .empty, .bool false]) 4 48 Try.underlying23 hi hz0 hz1 hz2 rfl (by decide) _ _ _ rfl (hrow.alloc _) ⟨W.heap.size, 0, none⟩ 1 1 [.string id, .int .i64 0, .string ⟨#[]⟩, .bool false] rfl rfl (cell_four_new _ _ _ _ _ _) (by simp [Value.oneCell']) (by simp only [maxLen]; omega) (by omega) (by simp; omega) ?_; intro v' w5 hown' hgrow _; refine veiled ?_)
          obtain ⟨g', cap', rfl⟩ := ownsRow_succ hown'
          obtain ⟨hv1, hv2, hr2, hk2, hb2⟩ := hv.appended (by decide) hrow hBz (by omega) hown' hgrow
          have hfr : framesV (frames0 id d.data.toList m 0) ++ [.string id, .int .i64 0, .string ⟨#[]⟩, .bool false] = framesV (frames0 id d.data.toList m 0 ++ [⟨id, ((0 : Nat) : Int), partB d.data.toList m 0, false⟩]) := by rw [framesV_snoc, HPB.out]; rfl
          rw [hfr] at hr2 hown'
          have hm5 := own_mark (frames0_len id d.data.toList m 0) hown'
          obtain ⟨_, _, hown2⟩ := own_mark (frames0_len id d.data.toList m 0) hr2
          obtain ⟨hfz, ⟨u, hcu⟩, _⟩ := hm5
          rw [show (⟨(⟨id, ((0 : Nat) : Int), partB d.data.toList m 0, false⟩ : Frm).id, (⟨id, ((0 : Nat) : Int), partB d.data.toList m 0, false⟩ : Frm).num, (⟨id, ((0 : Nat) : Int), partB d.data.toList m 0, false⟩ : Frm).data, true⟩ : Frm) = ⟨id, ((0 : Nat) : Int), partB d.data.toList m 0, true⟩ from rfl, ← HS.out] at hown2
          have hgb : b ≤ g' := own_ge hown' rfl
          have hne : ¬ g' = b + 1 := by intro e; have := hv1.not_row (by decide) hown'; rw [← e] at this; exact this rfl
          have hne' : ¬ b + 1 = g' := fun e => hne e.symm
          have hbf := (hB.trans hb2).setCell (p := ⟨g', 0 * 4 + 3, none⟩) hgb (.bool true)
          have hKD := (KeepsOthers.setCell _ ⟨g', 0 * 4 + 3, none⟩ (.bool true)).same D _ (hk2.same D _ hK rfl) rfl
          have hc1 := hv1.cell; have hf1 := hv1.frozen
          simp only [Nat.zero_mul, Nat.zero_add] at hcu hfz hown2 hbf hKD ⊢
          have HO := Lib.hid hown2; have HBF := Lib.hid hbf; have HKD := Lib.hid hKD
          clear hown2 hbf hKD hv1 hv2 hr2 hk2 hb2 hgrow hown' hB hK hfr HS HPB hrow hv uT u1
          refine ⟨?_⟩
          gi_wp2
          refine ⟨by simp, .inl ⟨_, _, rfl, run_takeDeferred HKD.out, ?_⟩⟩
          exact ⟨_, results_tt rfl _ _, _, rfl, by rw [HSL.out, HB0.out]; exact ownsRow_putObj HO.out _ HKD.out rfl, by rw [HB0.out]; exact HBF.out.trans (belowK_b (w := w) (by have := HB0.out; omega) _ D _ _ (by have := HB0.out; omega) HKD.out rfl rfl)⟩
        · obtain ⟨j, hj⟩ : ∃ j, partsN d.size m = j + 1 := ⟨partsN d.size m - 1, by omega⟩
          have hS : splitL0 id d.data.toList m = frames0 id d.data.toList m j ++ [⟨id, (j : Int), partB d.data.toList m j, true⟩] := by
            unfold splitL0; rw [hsn, hj, show max 1 (j + 1) - 1 = j by omega]
          have hSL : (splitL0 id d.data.toList m).length = j + 1 := by rw [hS]; simp [frames0_len]
          have HSL := Lib.hid hSL
          rw [hj] at hrow
          obtain ⟨g, cap9, rfl⟩ := ownsRow_succ hrow
          rw [frames0_succ] at hrow
          obtain ⟨hfz, ⟨u, hcu⟩, hown2⟩ := own_mark (frames0_len id d.data.toList m j) hrow
          rw [show (⟨(⟨id, (j : Int), partB d.data.toList m j, false⟩ : Frm).id, (⟨id, (j : Int), partB d.data.toList m j, false⟩ : Frm).num, (⟨id, (j : Int), partB d.data.toList m j, false⟩ : Frm).data, true⟩ : Frm) = ⟨id, (j : Int), partB d.data.toList m j, true⟩ from rfl, ← hS] at hown2
          have hgb : b ≤ g := own_ge hrow rfl
          have hne : ¬ g = b + 1 := by intro e; have := hv.not_row (by decide) hrow; rw [← e] at this; exact this rfl
          have hne' : ¬ b + 1 = g := fun e => hne e.symm
          have hbf := hB.setCell (p := ⟨g, j * 4 + 3, none⟩) hgb (.bool true)
          have hKD := (KeepsOthers.setCell W ⟨g, j * 4 + 3, none⟩ (.bool true)).same D _ hK rfl
          have hj31 : j ≤ 31 := by omega
          have HO := Lib.hid hown2; have HBF := Lib.hid hbf; have HKD := Lib.hid hKD
          have e3 : (0 : Int) ≤ (j : Int) := by omega
          have e4 : (j : Int) < (j : Int) + 1 := by omega
          have e5 : (j : Int) + 1 - 1 = (j : Int) := by omega
          have e6 : ((j : Int) + 1 == 0) = false := by rw [beq_eq_false_iff_ne]; omega
          clear hown2 hbf hKD hB hK hS hSL hrow hv uT u1 hsn hj h0
          gi_wp2
          refine ⟨by simp, .inl ⟨_, _, rfl, run_takeDeferred HKD.out, ?_⟩⟩
          exact ⟨_, results_tt rfl _ _, _, rfl, by rw [HSL.out, HB0.out]; exact ownsRow_putObj HO.out _ HKD.out rfl, by rw [HB0.out]; exact HBF.out.trans (belowK_b (w := w) (by have := HB0.out; omega) _ D _ _ (by have := HB0.out; omega) HKD.out rfl rfl)⟩
      case stop =>
        rintro D c pre W _ _ h _
        exact h.elim
  · have d3 : ((id.size : Int) != 16) = true := by simp; omega
    have hE : splitE id d m = 2 := by unfold splitE; rw [if_neg h1, if_pos h2]
    have hL : splitL id d m = [] := by unfold splitL; rw [if_neg (by rw [hE]; decide)]
    rw [hE, hL]
    clear hE hL h1 h2
    gi_wp2_with fail
    exact ⟨_, results_tt rfl _ _, _, rfl, World.ownsRow_nil _ _ _ _, hbw⟩
end Go.Proofs.Ytdkijdedfpfbnaa
