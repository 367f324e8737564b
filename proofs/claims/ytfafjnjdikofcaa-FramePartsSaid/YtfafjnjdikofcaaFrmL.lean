/- Get. -/
import Derived.Test.YtfafjnjdikofcaaFrmK
import Derived.Test.YtfafjnjdikofcaaBoxLoop
import Derived.Test.YtfafjnjdikofcaaKeep
namespace Go.Proofs.Ytfafjnjdikofcaa
open Go.RowKit Go.Shelf
attribute [local go_sem] Oper.semAt_some

/-- what is gathered of what is told -/
def gatherL : List (Frm × Int) → List Frm → List Frm × Int
  | [], acc => (acc, 0)
  | p :: r, acc => if acc.length = 32 then ([], 5) else if p.2 ≠ 0 then ([], p.2) else gatherL r (acc ++ [p.1])
/-- the frames of bytes, and what is wrong -/
def getS (l : List UInt8) : List Frm × Int :=
  if l = [] then ([], 3) else if l.getD 0 0 ≠ 0 then ([], 9) else if l.length = 1 then ([], 3) else gatherL (tellsL l (l.length + 1) 1) []

/-- what stands behind the frames that were told -/
def GI (w : World) (s : ByteArray) (b : Nat) (T : List (Frm × Int)) (pre : List (Fin T.length)) (W : World) : Prop :=
  (∃ v, Boxed W (b + 2) 22 v ∧ W.ownsRow b 24 4 v pre.length (framesV (pre.map fun x => T[x].1)) ∧ ((∀ x ∈ pre, T[x].2 = 0) ∧ pre.length ≤ 32)) ∧ (Below b w W ∧ (Boxed W b 22 (.slice none 0 0) ∧ (Boxed W (b + 1) 27 (.int .i64 0) ∧ (Boxed W (b + 3) 9 (.string s) ∧ (b + 5 ≤ W.heap.size ∧ ∃ z, Boxed W (b + 3 + 1) 3 z)))))
def GX (w : World) (b : Nat) (T : List (Frm × Int)) (c : Code) (pre : List (Fin T.length)) (W : World) : Prop :=
  c = .ret ∧ ∃ e', (pre <+: List.finRange T.length → gatherL T [] = ([], e')) ∧ (Below b w W ∧ (Boxed W b 22 (.slice none 0 0) ∧ Boxed W (b + 1) 27 (.int .i64 e')))
def GA (s : ByteArray) (b : Nat) (T : List (Frm × Int)) (x : Fin T.length) (a' : Act) (W : World) : Prop :=
  ∃ g, b + 5 ≤ g ∧ W.heap[g]? = some (.cells #[.string T[x].1.id, .int .i64 T[x].1.num, .string T[x].1.data, .bool T[x].1.last] 24 (0, 0)) ∧ a' = { tmps := #[.string s, undef, .pointer (some ⟨b, 0, none⟩), .pointer (some ⟨b + 1, 0, none⟩), .pointer (some ⟨b + 2, 0, none⟩), .pointer (some ⟨g, 0, none⟩), .int .i64 T[x].2, .bool false, .string s, .bool false, .bool false, .string s, .int .u8 0, .bool false, .bool false, .string s, .int .i64 s.size, .bool false, .string s, .func (.func 26) #[] #[.pointer (some ⟨b + 3 + 1, 0, none⟩), .pointer (some ⟨b + 3, 0, none⟩)], .agg #[.string T[x].1.id, .int .i64 T[x].1.num, .string T[x].1.data, .bool T[x].1.last], .int .i64 T[x].2, undef, undef, undef, undef, undef, undef, undef, undef, undef, undef, undef], defers := [] }
theorem ownFrom_ex {β γ : Type} {B : Nat} {I : γ → β → World → Prop} (h : ∀ c, OwnFrom B (I c)) : OwnFrom B (fun s W => ∃ c, I c s W) := fun s W W' row ⟨c, hc⟩ hg hr => ⟨c, h c s W W' row hc hg hr⟩
theorem ownFrom_size {β : Type} {B n : Nat} : OwnFrom B (fun (_ : β) W => n ≤ W.heap.size) := fun _ _ _ _ hs hg _ => Nat.le_trans hs hg.size
theorem GI.own {w : World} {s : ByteArray} {b : Nat} {T : List (Frm × Int)} {B : Nat} (h1 : b ≤ w.heap.size) (h2 : b ≤ B) : OwnFrom B (GI w s b T) :=
  OwnFrom.and (Own.from (holdsRow_own b (b + 2) 22 24 4 (fun pre : List (Fin T.length) => pre.length) (fun pre => framesV (pre.map fun x => T[x].1)) (fun pre _ => (∀ x ∈ pre, T[x].2 = 0) ∧ pre.length ≤ 32)) _)
    (OwnFrom.and (ownFrom_below h1 h2) (OwnFrom.and (Own.from (boxed_own _ _ (fun _ => _)) _) (OwnFrom.and (Own.from (boxed_own _ _ (fun _ => _)) _) (OwnFrom.and (Own.from (boxed_own _ _ (fun _ => _)) _) (OwnFrom.and ownFrom_size (ownFrom_ex fun z => Own.from (boxed_own _ _ (fun _ => z)) _))))))
theorem GX.own {w : World} {b : Nat} {T : List (Frm × Int)} {B : Nat} (h1 : b ≤ w.heap.size) (h2 : b ≤ B) (c : Code) : OwnFrom B (GX w b T c) := by
  rintro pre W W' row ⟨hc, e', hp, hB, q1, q2⟩ hg hr
  exact ⟨hc, e', hp, ownFrom_below h1 h2 () W W' row hB hg hr, Own.from (boxed_own b _ (fun _ : Unit => _)) B () W W' row q1 hg hr, Own.from (boxed_own (b + 1) _ (fun _ : Unit => _)) B () W W' row q2 hg hr⟩
theorem GI.free {w : World} {s : ByteArray} {b : Nat} {T : List (Frm × Int)} (hw : b ≤ w.heap.size) : BoxFree (b + 3 + 1) (GI w s b T) := by
  constructor
  · intro pre W W' h hg
    exact GI.own (B := b) hw (Nat.le_refl _) pre W W' none h hg (fun r e => by cases e)
  · rintro pre W u ⟨⟨v, hv, hr, hp⟩, hB, q1, q2, q3, hz, z, q4⟩
    exact ⟨⟨v, hv.other (by omega) _, hr.kept (grownBy_setCell' W (b + 3 + 1) u) (.inr (q4.not_row (by decide) hr).symm), hp⟩, hB.setCell (p := ⟨b + 3 + 1, 0, none⟩) (by show b ≤ b + 3 + 1; omega) _, q1.other (by omega) _, q2.other (by omega) _, q3.other (by omega) _, by simpa [World.setCell] using hz, u, q4.set u⟩

/-- what is gathered, from the middle on -/
theorem gather_go (r : List (Frm × Int)) : ∀ (xs : List (Frm × Int)) (acc : List Frm), (∀ p ∈ xs, p.2 = 0) → acc.length + xs.length ≤ 32 → gatherL (xs ++ r) acc = gatherL r (acc ++ xs.map (·.1))
  | [], acc, _, _ => by simp
  | p :: xs, acc, h, hl => by
    rw [List.cons_append, gatherL, if_neg (by simp at hl; omega), if_neg (by simp [h p (by simp)]), gather_go r xs (acc ++ [p.1]) (fun q hq => h q (by simp [hq])) (by simp at hl ⊢; omega)]
    simp
theorem told_split (T : List (Frm × Int)) (pre : List (Fin T.length)) (x : Fin T.length) (h : pre ++ [x] <+: List.finRange T.length) : ∃ r, T = pre.map (fun i => T[i]) ++ T[x] :: r := by
  obtain ⟨r, hr⟩ := h
  have key : (List.finRange T.length).map (fun i => T[i]) = T := by
    refine List.ext_getElem (by simp) fun i h1 h2 => ?_
    simp
  refine ⟨r.map (fun i => T[i]), ?_⟩
  conv => lhs; rw [← key, ← hr]
  simp
theorem gather_full (T : List (Frm × Int)) (pre : List (Fin T.length)) (x : Fin T.length) (h : pre ++ [x] <+: List.finRange T.length) (h0 : ∀ y ∈ pre, T[y].2 = 0) (hl : pre.length = 32) : gatherL T [] = ([], 5) := by
  obtain ⟨r, hr⟩ := told_split T pre x h
  rw [hr, gather_go _ _ _ (by intro p hp; obtain ⟨y, hy, rfl⟩ := List.mem_map.1 hp; exact h0 y hy) (by simp [hl]), gatherL, if_pos (by simp [hl])]
theorem gather_fail (T : List (Frm × Int)) (pre : List (Fin T.length)) (x : Fin T.length) (h : pre ++ [x] <+: List.finRange T.length) (h0 : ∀ y ∈ pre, T[y].2 = 0) (hl : pre.length < 32) (he : T[x].2 ≠ 0) : gatherL T [] = ([], T[x].2) := by
  obtain ⟨r, hr⟩ := told_split T pre x h
  conv => lhs; rw [hr]
  rw [gather_go _ _ _ (by intro p hp; obtain ⟨y, hy, rfl⟩ := List.mem_map.1 hp; exact h0 y hy) (by simp; omega), gatherL, if_neg (by simp; omega), if_pos he]
theorem gather_all (T : List (Frm × Int)) (h0 : ∀ y ∈ List.finRange T.length, T[y].2 = 0) (hl : T.length ≤ 32) : gatherL T [] = (T.map (·.1), 0) := by
  have key : (List.finRange T.length).map (fun i => T[i]) = T := by
    refine List.ext_getElem (by simp) fun i h1 h2 => ?_
    simp
  have := gather_go [] T [] (by intro p hp; rw [← key] at hp; obtain ⟨y, hy, rfl⟩ := List.mem_map.1 hp; exact h0 y hy) (by simpa using hl)
  rw [List.append_nil] at this
  rw [this]; simp [gatherL]
theorem own_slice4 {w : World} {base : Nat} {e : TypeId} {size : Nat} {v : Value} {n : Nat} {xs : List Value} (h : w.ownsRow base e size v n xs) : ∃ A c, v = .slice A n c := by
  rcases h.2 with ⟨rfl, h0⟩ | ⟨g, cap, cur, rfl, _⟩
  · exact ⟨none, 0, by rw [h0]⟩
  · exact ⟨_, _, rfl⟩
theorem frame_info : (Try.prog.info? 24).map (fun i => (i.zero, i.size, i.bytes)) = some (some (.agg #[.string .empty, .int .i64 0, .string .empty, .bool false]), 4, 48) := by kernel_rfl
theorem cell_four_new (W : World) (x0 x1 x2 x3 : Value) (t : TypeId) : ∀ (j : Nat) (u : Value), [x0, x1, x2, x3][j]? = some u → (W.alloc (.cells #[x0, x1, x2, x3] t)).cell? ((⟨W.heap.size, 0, none⟩ : Addr).add j) = some u := by
  intro j u hj
  have hb := Blk.new W t #[x0, x1, x2, x3]
  have := hb.cell j
  rw [Addr.add_mid, Nat.zero_add, this]
  simpa using hj

theorem GA.own {s : ByteArray} {b : Nat} {T : List (Frm × Int)} {B : Nat} (x : Fin T.length) (a' : Act) : OwnFrom B (fun (_ : Unit) W => GA s b T x a' W) := by
  rintro _ W W' row ⟨g, h1, h2, h3⟩ hg hr
  refine ⟨g, h1, (hg.block g (Array.getElem?_eq_some_iff.1 h2).1 (fun e => ?_)).trans h2, h3⟩
  obtain ⟨_, o, ho, hc⟩ := hr g e.symm
  rw [h2] at ho
  cases ho; cases hc

theorem fbox (w : World) (x : Int) : Boxed ((w.alloc (.cells #[.slice none 0 0] 22)).alloc (.cells #[.int .i64 x] 27)) w.heap.size 22 (.slice none 0 0) ∧
    Boxed ((w.alloc (.cells #[.slice none 0 0] 22)).alloc (.cells #[.int .i64 x] 27)) (w.heap.size + 1) 27 (.int .i64 x) ∧
    Below w.heap.size w ((w.alloc (.cells #[.slice none 0 0] 22)).alloc (.cells #[.int .i64 x] 27)) ∧ ((w.alloc (.cells #[.slice none 0 0] 22)).alloc (.cells #[.int .i64 x] 27)).heap.size = w.heap.size + 2 := by
  have x1 := (Boxed.new w 22 (.slice none 0 0)).alloc (.cells #[.int .i64 x] 27)
  have x2 := Boxed.new (w.alloc (.cells #[.slice none 0 0] 22)) 27 (.int .i64 x)
  rw [World.size_alloc] at x2
  exact ⟨x1, x2, ((Below.refl _ w).alloc (Nat.le_refl _) _).alloc (by simp) _, by simp⟩

set_option maxRecDepth 100000 in
set_option maxHeartbeats 1000000 in
theorem get_any (s : ByteArray) (hs : s.size ≤ 1000000000000) (w : World) :
    Calls Try.prog 16 #[.string s] w fun e w' => ∃ v, e = .returned (.tuple #[v, .int .i64 (getS s.data.toList).2]) ∧
      w'.ownsRow w.heap.size 24 4 v (getS s.data.toList).1.length (framesV (getS s.data.toList).1) ∧ Below w.heap.size w w' := by
  have hsl := ba_len s
  obtain ⟨i0, hi, hz0, hz1, hz2⟩ := info_parts frame_info
  refine (callsIn_wide (n := 6)).1 ?_
  refine callsIn_of_wp_marks Try.func16 rfl trivial ?_ rfl
  simp only [Try.ntmps16, List.size_toArray, List.length_cons, List.length_nil, Nat.reduceAdd, Nat.reduceSub, Array.replicate_succ, Array.replicate_zero, List.push_toArray, List.append_toArray, List.nil_append, List.cons_append]
  have box := fun x : Int => fbox w x
  by_cases h0 : s.size = 0
  · have he : getS s.data.toList = ([], 3) := by unfold getS; rw [if_pos (List.eq_nil_of_length_eq_zero (by omega))]
    rw [he]
    obtain rfl : s = .empty := ba_ext (by rw [List.eq_nil_of_length_eq_zero (l := s.data.toList) (by omega)]; rfl)
    obtain ⟨x1, x2, xb, _⟩ := box 3
    clear he hsl box
    gi_wp2_with fail
    exact ⟨_, results_cell2 rfl _ _ _ _ _ _ rfl rfl (load_cell Try.underlying22 rfl x1.cell) (load_cell Try.underlying27 rfl x2.cell), _, rfl, World.ownsRow_nil _ _ _ _, xb⟩
  obtain ⟨c, hc⟩ : ∃ c, s.data.toList.getD 0 0 = c := ⟨_, rfl⟩
  have hc0 : s.data.toList[0]? = some c := by rw [← hc, List.getD_eq_getElem?_getD, List.getElem?_eq_getElem (by omega)]; rfl
  have hidx := fun W => idx_str s 0 c hc0 W
  have hl0 : ¬ s.data.toList = [] := by intro h; rw [h] at hsl; simp at hsl; omega
  have hne : (s.toList == []) = false := by
    rw [beq_eq_false_iff_ne, Lib.toList_data]
    exact hl0
  simp only [Int.ofNat_zero] at hidx
  by_cases h1 : c = 0
  · subst h1
    by_cases h2 : s.size = 1
    · have he : getS s.data.toList = ([], 3) := by unfold getS; rw [if_neg hl0, if_neg (by rw [hc]; simp), if_pos (by omega)]
      rw [he]
      obtain ⟨x1, x2, xb, _⟩ := box 3
      clear he hsl box hc hc0 hl0
      gi_wp2_with fail
      exact ⟨_, results_cell2 rfl _ _ _ _ _ _ rfl rfl (load_cell Try.underlying22 rfl x1.cell) (load_cell Try.underlying27 rfl x2.cell), _, rfl, World.ownsRow_nil _ _ _ _, xb⟩
    · obtain ⟨T, hT⟩ : ∃ T, tellsL s.data.toList (s.size + 1) 1 = T := ⟨_, rfl⟩
      have he : getS s.data.toList = gatherL T [] := by unfold getS; rw [if_neg hl0, if_neg (by rw [hc]; simp), if_neg (by omega), hsl, hT]
      rw [he]
      have h2' : ((s.size : Int) == 1) = false := by rw [beq_eq_false_iff_ne]; omega
      obtain ⟨x1, x2, xb, xz⟩ := box 0
      clear he hsl box hc hc0 hl0 h2
      have HT := Lib.hid hT
      clear hT
      gi_wp2_with fail
      generalize (w.alloc (.cells #[.slice none 0 0] 22)).alloc (.cells #[.int .i64 0] 27) = w1 at *
      generalize hb0 : w.heap.size = b at *
      have HB0 := Lib.hid hb0
      have v1 := x1.alloc (.cells #[.slice none 0 0] 22)
      have v2 := x2.alloc (.cells #[.slice none 0 0] 22)
      have v3 := Boxed.new w1 22 (.slice none 0 0)
      rw [xz] at v3
      have vb : Below b w (w1.alloc (.cells #[.slice none 0 0] 22)) := xb.alloc (by omega) _
      have vz : (w1.alloc (.cells #[.slice none 0 0] 22)).heap.size = b + 3 := by simp [xz]
      generalize w1.alloc (.cells #[.slice none 0 0] 22) = w2 at *
      clear hb0 x1 x2 xb xz
      refine ⟨trivial, callsIn_wide.2 ((fEach_any _ _ _).mono ?_)⟩
      rintro e w4 ⟨rfl, hw4⟩
      rw [vz]
      have u1 : Boxed w4 b 22 (.slice none 0 0) := by rw [hw4]; exact (v1.alloc _).alloc _
      have u2 : Boxed w4 (b + 1) 27 (.int .i64 0) := by rw [hw4]; exact (v2.alloc _).alloc _
      have u3 : Boxed w4 (b + 2) 22 (.slice none 0 0) := by rw [hw4]; exact (v3.alloc _).alloc _
      have u4 : Boxed w4 (b + 3) 9 (.string s) := by rw [hw4, ← vz]; exact (Boxed.new w2 _ _).alloc _
      have u5 : Boxed w4 (b + 3 + 1) 3 (.int .i64 1) := by
        have := Boxed.new (w2.alloc (.cells #[.string s] 9)) 3 (.int .i64 1)
        rw [World.size_alloc, vz] at this
        rw [hw4]; exact this
      have ub : Below b w w4 := by rw [hw4]; exact (vb.alloc (by omega) _).alloc (by simp; omega) _
      have uz : w4.heap.size = b + 5 := by rw [hw4]; simp [vz]
      clear hw4 v1 v2 v3 vb vz
      gi_wp2_with fail
      have hB1 : b + 3 + 1 < w4.heap.size := by omega
      have hKS : ∀ k, (k = b + 3 ∨ k = b + 3 + 1) → k < w4.heap.size := by intro k hk; omega
      have UZ := Lib.hid uz
      refine range_box (b + 3 + 1) hB1 rfl (by omega) (gf := 26) (lb := #[.pointer (some ⟨b + 3 + 1, 0, none⟩), .pointer (some ⟨b + 3, 0, none⟩)]) rfl trivial (enters_of Try.func26 (by kernel_rfl) rfl)
        (encs := fun x : Fin T.length => #[.agg #[.string T[x].1.id, .int .i64 T[x].1.num, .string T[x].1.data, .bool T[x].1.last], .int .i64 T[x].2]) (S := fun ys => ys = List.finRange T.length) (Sp := fun pre => pre <+: List.finRange T.length) (N := T.length) (Kp := KeepS (fun k => k = b + 3 ∨ k = b + 3 + 1))
        (fun l J Jx W hW hJ hY h0 => fEach1_in 5 (by omega) l (b + 3) (b + 3 + 1) (by omega) s hs 1 T HT.out J Jx hJ hY W ((hW.block (b + 3) (by omega)).trans u4) ((hW.block (b + 3 + 1) (by omega)).trans u5) h0)
        keepS_t (keepS_b hKS) (fun _ => rfl)
        (GI w s b T) (GX w b T) (GI.own (by have := HB0.out; omega) (by have := UZ.out; omega)) (GI.free (by have := HB0.out; omega)) (GX.own (by have := HB0.out; omega) (by have := UZ.out; omega)) ⟨⟨_, u3, World.ownsRow_nil _ _ _ _, by simp, by simp⟩, ub, u1, u2, u4, by omega, _, u5⟩
        (GA s b T) GA.own ?assign ?body ?done ?stop
      case assign =>
        intro l pre x W K hi hK
        have hz : b + 5 ≤ W.heap.size := hi.2.2.2.2.2.1
        have hb0 := HB0.out
        have hn := heap_alloc_new W (.cells #[.string T[x].1.id, .int .i64 T[x].1.num, .string T[x].1.data, .bool T[x].1.last] 24)
        have hi2 := (GI.free (by omega)).grown pre W _ hi (only_alloc (World.grownBy.refl W none) (.cells #[.string T[x].1.id, .int .i64 T[x].1.num, .string T[x].1.data, .bool T[x].1.last] 24))
        have hk1 : KeepsFrom w4.heap.size W (W.alloc (.cells #[.string T[x].1.id, .int .i64 T[x].1.num, .string T[x].1.data, .bool T[x].1.last] 24)) := KeepsFrom.of_grownBy (only_alloc (World.grownBy.refl W none) _) (fun j e => by cases e)
        have hk2 : KeepS (fun k => k = b + 3 ∨ k = b + 3 + 1) W (W.alloc (.cells #[.string T[x].1.id, .int .i64 T[x].1.num, .string T[x].1.data, .bool T[x].1.last] 24)) := (KeepS.refl _ W).alloc (fun k hk => by omega) _
        gi_wp2
        exact hK _ _ hk1 hk2 hi2 ⟨W.heap.size, hz, hn, rfl⟩
      case body =>
        rintro l pre x a' W ⟨⟨v, hv, hrow, hp0, hpl⟩, hB, q1, q2, q3, hz, z, q4⟩ ⟨g, hgb, hgc, rfl⟩ hlt
        obtain ⟨f, hf⟩ : ∃ f, T[x].1 = f := ⟨_, rfl⟩
        obtain ⟨ε, hε⟩ : ∃ e, T[x].2 = e := ⟨_, rfl⟩
        have hm : (pre ++ [x]).map (fun x => T[x].1) = pre.map (fun x => T[x].1) ++ [f] := by rw [List.map_append, ← hf]; rfl
        have hfull := gather_full T pre x
        have hfail := gather_fail T pre x
        rw [hε] at hfail
        rw [hf] at hgc
        have hG : Blk W g 24 #[.string f.id, .int .i64 f.num, .string f.data, .bool f.last] := hgc
        rw [hf, hε]
        have HF := Lib.hid hf; have HE := Lib.hid hε; have HM := Lib.hid hm
        have HFU := Lib.hid hfull; have HFA := Lib.hid hfail
        clear hf hε hm hfull hfail hgc
        obtain ⟨fid, fnum, fdata, flast⟩ := f
        have g0 := hG.cell 0; have g1 := hG.cell 1; have g2 := hG.cell 2; have g3 := hG.cell 3
        simp only [List.getElem?_toArray, List.getElem?_cons_zero, List.getElem?_cons_succ] at g0 g1 g2 g3
        have hc := hv.cell
        have e1 := q1.cell; have f1 := q1.frozen
        have e2 := q2.cell; have f2 := q2.frozen
        have hb0 := HB0.out
        have HP0 := Lib.hid hp0
        clear hp0
        obtain ⟨A, cc, rfl⟩ := own_slice4 hrow
        have hBz : b ≤ W.heap.size := by omega
        by_cases hl32 : pre.length = 32
        · have d1 : ((pre.length : Int) == 32) = true := by simp; omega
          have HL := Lib.hid hl32
          clear hl32
          gi_wp2
          exact ⟨((KeepsOthers.setCell _ _ _).trans (KeepsOthers.setCell _ _ _)).from _, rfl, 5, fun hpre => HFU.out hpre HP0.out HL.out, (hB.setCell (p := ⟨b, 0, none⟩) (Nat.le_refl _) _).setCell (p := ⟨b + 1, 0, none⟩) (by show b ≤ b + 1; omega) _, (q1.set _).other (by omega) _, (q2.other (by omega) _).set _⟩
        · have d1 : ((pre.length : Int) == 32) = false := by rw [beq_eq_false_iff_ne]; omega
          have HL := Lib.hid hl32
          clear hl32
          by_cases h0 : ε = 0
          · have HZ := Lib.hid h0
            subst h0
            gi_wp2_with (gi_at_builtin; refine wpListIn_append_own _ rfl _ _ 22 rfl b 24 i0 (.agg #[.string .empty, .int .i64 0, .string .empty, .bool false]) 4 48 Try.underlying22 hi hz0 hz1 hz2 rfl (by decide) _ _ _ rfl (hrow.alloc _) ⟨W.heap.size, 0, none⟩ 1 1 [.string fid, .int .i64 fnum, .string fdata, .bool flast] rfl rfl (cell_four_new _ _ _ _ _ _) (by simp [Value.oneCell']) (by simp only [maxLen]; omega) (by omega) (by simp; omega) ?_; intro v' w5 hown' hgrow _; obtain ⟨g', cap', rfl⟩ := ownsRow_succ hown'; obtain ⟨hv1, hv2, hr2, hk2, hb2⟩ := hv.appended (by decide) hrow hBz (by omega) hown' hgrow; have hc1 := hv1.cell; have hf1 := hv1.frozen)
            have a1 := KeepS.appendedBox (v' := .slice (some ⟨g', 0, none⟩) (pre.length + 1) cap') hBz q1 (by decide) hrow (B := b + 2) (by omega) (by omega) hgrow
            have a2 := KeepS.appendedBox (v' := .slice (some ⟨g', 0, none⟩) (pre.length + 1) cap') hBz q2 (by decide) hrow (B := b + 2) (by omega) (by omega) hgrow
            have a3 := KeepS.appendedBox (v' := .slice (some ⟨g', 0, none⟩) (pre.length + 1) cap') hBz q3 (by decide) hrow (B := b + 2) (by omega) (by omega) hgrow
            have a4 := KeepS.appendedBox (v' := .slice (some ⟨g', 0, none⟩) (pre.length + 1) cap') hBz q4 (by decide) hrow (B := b + 2) (by omega) (by omega) hgrow
            refine ⟨hk2.from _, ⟨a4.1.size, fun j hj => ?_⟩, ⟨_, hv2, ?_, ?_, ?_⟩, hB.trans hb2, a1.2, a2.2, a3.2, ?_, z, a4.2⟩
            · rcases hj with rfl | rfl
              · exact a3.1.block _ (.inr rfl)
              · exact a4.1.block _ (.inr rfl)
            · rw [HM.out, framesV_snoc, List.length_append]; exact hr2
            · intro y hy
              rcases List.mem_append.1 hy with hy | hy
              · exact HP0.out y hy
              · obtain rfl : y = x := by simpa using hy
                exact HE.out
            · have := HL.out
              rw [List.length_append, List.length_singleton]; omega
            · have := hb2.size; omega
          · have d2 : (ε != 0) = true := by simpa using h0
            have HZ := Lib.hid h0
            clear h0
            gi_wp2
            exact ⟨((KeepsOthers.setCell _ _ _).trans (KeepsOthers.setCell _ _ _)).from _, rfl, ε, fun hpre => HFA.out hpre HP0.out (by have := HL.out; omega) HZ.out, (hB.setCell (p := ⟨b, 0, none⟩) (Nat.le_refl _) _).setCell (p := ⟨b + 1, 0, none⟩) (by show b ≤ b + 1; omega) _, (q1.set _).other (by omega) _, (q2.other (by omega) _).set _⟩
      case done =>
        rintro D ys W hD rfl ⟨⟨v, hv, hrow, hp0, hpl⟩, hB, q1, q2, q3, hz, z, q4⟩ hK
        have hga := gather_all T hp0 (by simpa using hpl)
        have hm : (List.finRange T.length).map (fun x => T[x].1) = T.map (·.1) := by
          refine List.ext_getElem (by simp) fun i h1 h2 => ?_
          simp
        rw [hm, List.length_finRange] at hrow
        have HGA := Lib.hid hga
        have HB1 := HB0.out; have UZ1 := UZ.out
        clear hp0 hpl hga hm
        have hc := hv.cell
        have e1 := q1.cell; have f1 := q1.frozen
        have e2 := q2.cell; have f2 := q2.frozen
        have hDW : D < W.heap.size := (Array.getElem?_eq_some_iff.1 hK).1
        obtain ⟨A, cc, rfl⟩ := own_slice4 hrow
        have HBB := Lib.hid HB1; have UZZ := Lib.hid UZ1
        clear HB1 UZ1
        gi_wp2
        have tK := ((KeepsOthers.setCell W ⟨b, 0, none⟩ (.slice A T.length cc)).trans (KeepsOthers.setCell _ ⟨b + 1, 0, none⟩ (.int .i64 0))).same D _ hK rfl
        refine ⟨by simp, .inl ⟨_, _, rfl, run_takeDeferred tK, ?_⟩⟩
        have t1 : Boxed ((W.setCell ⟨b, 0, none⟩ (.slice A T.length cc)).setCell ⟨b + 1, 0, none⟩ (.int .i64 0)) b 22 _ := (q1.set _).other (by omega) _
        have t2 : Boxed ((W.setCell ⟨b, 0, none⟩ (.slice A T.length cc)).setCell ⟨b + 1, 0, none⟩ (.int .i64 0)) (b + 1) 27 (.int .i64 0) := (q2.other (by omega) _).set _
        have tb := (hB.setCell (p := ⟨b, 0, none⟩) (Nat.le_refl _) (.slice A T.length cc)).setCell (p := ⟨b + 1, 0, none⟩) (by show b ≤ b + 1; omega) (.int .i64 0)
        have tr : ((W.setCell ⟨b, 0, none⟩ (.slice A T.length cc)).setCell ⟨b + 1, 0, none⟩ (.int .i64 0)).ownsRow b 24 4 (.slice A T.length cc) _ _ :=
          (hrow.kept (grownBy_setCell' W b _) (.inr (q1.not_row (by decide) hrow).symm)).kept (grownBy_setCell' _ (b + 1) _) (.inr (q2.not_row (by decide) hrow).symm)
        have r1 : D ≠ b := by have := UZZ.out; omega
        have r2 : D ≠ b + 1 := by have := UZZ.out; omega
        exact ⟨_, results_cell2 rfl _ _ _ _ _ _ rfl rfl (load_cell Try.underlying22 rfl ((t1.kept (grownBy_putObj' _ D _) (by simp; omega)).cell)) (load_cell Try.underlying27 rfl ((t2.kept (grownBy_putObj' _ D _) (by simp; omega)).cell)),
          _, by rw [HGA.out], by rw [HGA.out, HBB.out, List.length_map]; exact ownsRow_putObj tr _ tK rfl, by rw [HBB.out]; exact tb.trans (belowK_b (w := w) (by have := HBB.out; omega) _ D _ _ (by have := HBB.out; have := UZZ.out; omega) tK rfl rfl)⟩
      case stop =>
        rintro D c pre W hD hpre ⟨rfl, e', he', hB, q1, q2⟩ hK
        have hga := he' hpre
        have HGA := Lib.hid hga
        clear he' hga
        gi_wp2
        have hDW : D < W.heap.size := (Array.getElem?_eq_some_iff.1 hK).1
        have UZ1 := UZ.out
        have r1 : D ≠ b := by omega
        have r2 : D ≠ b + 1 := by omega
        refine ⟨by simp, .inl ⟨_, _, rfl, run_takeDeferred hK, ?_⟩⟩
        exact ⟨_, results_cell2 rfl _ _ _ _ _ _ rfl rfl (load_cell Try.underlying22 rfl ((q1.kept (grownBy_putObj' _ D _) (by simp; omega)).cell)) (load_cell Try.underlying27 rfl ((q2.kept (grownBy_putObj' _ D _) (by simp; omega)).cell)),
          _, by rw [HGA.out], by rw [HGA.out]; exact World.ownsRow_nil _ _ _ _, by rw [HB0.out]; exact hB.trans (belowK_b (w := w) (by have := HB0.out; omega) _ D _ _ (by have := HB0.out; omega) hK rfl rfl)⟩
  · have he : getS s.data.toList = ([], 9) := by unfold getS; rw [if_neg hl0, if_pos (by rw [hc]; exact h1)]
    rw [he]
    have hcn : ((c.toNat : Int) != 0) = true := by
      simp
      intro h; exact h1 (UInt8.toNat.inj h)
    obtain ⟨x1, x2, xb, _⟩ := box 9
    clear he hsl box hc hc0 hl0 h1
    gi_wp2_with fail
    exact ⟨_, results_cell2 rfl _ _ _ _ _ _ rfl rfl (load_cell Try.underlying22 rfl x1.cell) (load_cell Try.underlying27 rfl x2.cell), _, rfl, World.ownsRow_nil _ _ _ _, xb⟩
end Go.Proofs.Ytfafjnjdikofcaa
