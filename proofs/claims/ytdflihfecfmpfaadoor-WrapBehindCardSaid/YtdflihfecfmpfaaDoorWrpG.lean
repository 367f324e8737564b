/- Wrappers: Get, walked.  Printed by wip/genWrpG.py -/
import Derived.Test.YtdflihfecfmpfaaDoorWrpF
namespace Go.Proofs.YtdflihfecfmpfaaDoor
open Go.RowKit Go.Shelf
set_option linter.unusedVariables false
set_option linter.unusedSimpArgs false
attribute [local go_sem] Oper.semAt_some

theorem infoW : ∃ i, Tryd.prog.info? 9 = some i ∧ i.zero = some (.string .empty) ∧ i.size = 1 ∧ i.bytes = 16 ∧ (Value.string ByteArray.empty).cells.size = 1 := by
  have h : (Tryd.prog.info? 9).map (fun i => (i.zero, i.size, i.bytes)) = some (some (.string .empty), 1, 16) := by kernel_rfl
  obtain ⟨i, hi⟩ := Option.isSome_iff_exists.1 (show (Tryd.prog.info? 9).isSome = true by kernel_rfl)
  rw [hi] at h
  simp only [Option.map_some, Option.some.injEq, Prod.mk.injEq] at h
  exact ⟨i, hi, h.1, h.2.1, h.2.2, rfl⟩
theorem own_capW {w : World} {base : Nat} {e : TypeId} {size : Nat} {A : Option Addr} {c k : Nat} {xs : List Value} (h : w.ownsRow base e size (.slice A k c) k xs) : k ≤ c := by
  rcases h.2 with ⟨hv, hk⟩ | ⟨g, cap, cur, hv, _, _, hn, _⟩
  · injection hv; omega
  · injection hv; omega

theorem own_slice3W {w : World} {base : Nat} {e : TypeId} {size : Nat} {v : Value} {n : Nat} {xs : List Value} (h : w.ownsRow base e size v n xs) : ∃ A c, v = .slice A n c := by
  rcases h.2 with ⟨rfl, h0⟩ | ⟨g, cap, cur, rfl, _⟩
  · exact ⟨none, 0, by rw [h0]⟩
  · exact ⟨_, _, rfl⟩
theorem own_grownW {w w' : World} {base : Nat} {e : TypeId} {size : Nat} {v : Value} {k : Nat} {xs : List Value} (h : w.ownsRow base e size v k xs) (hg : w.grownBy w' none) : w'.ownsRow base e size v k xs := by
  refine h.kept hg ?_
  rcases h.2 with ⟨rfl, _⟩ | ⟨g, cap, cur, rfl, _⟩
  · exact .inl rfl
  · exact .inr (by simp [Value.ownBlock])
theorem told_plain {s : ByteArray} {T : List (ByteArray × Int)} (hn : verN s.data.toList ≠ 2) (h : toldW s.data.toList = T) : plainT (s.size + 1) s.data.toList 0 = T := by
  unfold toldW at h
  rw [if_neg hn, ba_len] at h
  exact h
theorem told_count {s : ByteArray} {T : List (ByteArray × Int)} (hn : verN s.data.toList = 2) (h : toldW s.data.toList = T) : countT s.data.toList = T := by
  unfold toldW at h
  rw [if_pos hn] at h
  exact h

def WA0 (s : ByteArray) (b : Nat) (T : List (ByteArray × Int)) (x : Fin T.length) (a' : Act) : Prop :=
  a' = { tmps := #[.string s, undef, .pointer (some ⟨b, 0, none⟩), .pointer (some ⟨b + 1, 0, none⟩), .pointer (some ⟨b + 1 + 1, 0, none⟩), .int .i64 0, .int .i64 0, .map (some (b + 3)), .pointer (some ⟨b + 4, 0, none⟩), .string T[x].1, .int .i64 T[x].2, .tuple #[.int .i64 0, .int .i64 0], .string s, .tuple #[.int .i64 0, .int .i64 0], .int .i64 0, .int .i64 0, .int .i64 0, .bool false, undef, .map (some (b + 3)), .map (some (b + 3)), .map (some (b + 3)), .int .i64 0, .func (.func 28) #[] #[], .string s, .func (.func 38) #[] #[.pointer (some ⟨b + 5, 0, none⟩)], .string T[x].1, .int .i64 T[x].2, undef, undef, undef, undef, undef, undef, undef, undef, undef, undef, undef, undef], defers := [] }
set_option maxRecDepth 100000 in
set_option maxHeartbeats 4000000 in
theorem wget_0 (s : ByteArray) (hs : s.size ≤ 1000000000000) (w : World) (hv : verE s.data.toList = 0) (hn : verN s.data.toList = 0) :
    Calls Tryd.prog 14 #[.string s] w fun e w' => ∃ u, e = .returned (.tuple #[.int .i64 (getV s.data.toList), u, .int .i64 (getE s.data.toList)]) ∧ w'.ownsRow w.heap.size 9 1 u (getL s.data.toList).length ((getL s.data.toList).map Value.string) ∧ Below w.heap.size w w' := by
  have hsl := ba_len s
  obtain ⟨T, hT⟩ : ∃ T, toldW s.data.toList = T := ⟨_, rfl⟩
  have hTl : T.length ≤ 1000000000070 := by have := told_len s.data.toList; rw [hT] at this; omega
  have HT := Lib.hid hT
  have hver := fun V => version_any s V
  rw [hv, hn] at hver
  have HVER := Lib.hid hver; have HV := Lib.hid hv; have HN := Lib.hid hn
  refine (callsIn_wide (n := 6)).1 ?_
  refine callsIn_of_wp_marks Tryd.func14 rfl trivial ?_ rfl
  simp only [Tryd.ntmps14, List.size_toArray, List.length_cons, List.length_nil, Nat.reduceAdd, Nat.reduceSub, Array.replicate_succ, Array.replicate_zero, List.push_toArray, List.append_toArray, List.nil_append, List.cons_append]
  obtain ⟨x0, x1, x2, xb, xz⟩ := box3 w (.int .i64 0) (.slice none 0 0) (.int .i64 0) 3 22 25
  clear hver hv hn hT hsl
  gi_wp2_with fail
  generalize ((w.alloc (.cells #[.int .i64 0] 3)).alloc (.cells #[.slice none 0 0] 22)).alloc (.cells #[.int .i64 0] 25) = w1 at *
  refine ⟨trivial, callsIn_wide.2 ((HVER.out _).mono ?_)⟩
  rintro e w1' ⟨rfl, hw1⟩
  rw [hw1]
  clear hw1 HVER
  obtain ⟨w2, w3, e1, e2, m1, m2, m3⟩ := map_two Tryd.underlying57 Tryd.underlying3 0 2 (by decide) (.func (.func 28) #[] #[]) (.func (.func 29) #[] #[]) w1
  rw [xz] at e1 e2 m3
  have hmm := @run_makeMap Tryd.prog
  have e3 := (m3 (w3.alloc (.cells #[.slice none 0 0] 22)) (Below.heap_alloc _ _ _ (by omega))).1
  generalize hb0 : w.heap.size = b at *
  have HB0 := Lib.hid hb0
  rw [show b + 1 + 1 = b + 2 from rfl] at x2
  have y0 : Boxed w3 b 3 (.int .i64 0) := (m1.block b (by omega)).trans x0
  have y1 : Boxed w3 (b + 1) 22 (.slice none 0 0) := (m1.block (b + 1) (by omega)).trans x1
  have y2 : Boxed w3 (b + 2) 25 (.int .i64 0) := (m1.block (b + 2) (by omega)).trans x2
  have yb : Below b w w3 := xb.trans (m1.mono (by omega))
  have yz : w3.heap.size = b + 4 := by omega
  have z0 := y0.alloc (.cells #[.slice none 0 0] 22); have z1 := y1.alloc (.cells #[.slice none 0 0] 22); have z2 := y2.alloc (.cells #[.slice none 0 0] 22)
  have z3 := Boxed.new w3 22 (.slice none 0 0)
  rw [yz] at z3
  have zb : Below b w (w3.alloc (.cells #[.slice none 0 0] 22)) := yb.alloc (by omega) _
  have zz : (w3.alloc (.cells #[.slice none 0 0] 22)).heap.size = b + 5 := by simp [yz]
  clear m1 m2 m3 x0 x1 x2 xb y0 y1 y2 yb
  gi_wp2_with fail
  refine ⟨trivial, callsIn_wide.2 ((plains_any _ _).mono ?_)⟩
  rintro e w5 ⟨rfl, hw5⟩
  rw [zz]
  have u0 : Boxed w5 b 3 (.int .i64 0) := by rw [hw5]; exact z0.alloc _
  have u1 : Boxed w5 (b + 1) 22 (.slice none 0 0) := by rw [hw5]; exact z1.alloc _
  have u2 : Boxed w5 (b + 2) 25 (.int .i64 0) := by rw [hw5]; exact z2.alloc _
  have u3 : Boxed w5 (b + 4) 22 (.slice none 0 0) := by rw [hw5]; exact z3.alloc _
  have u4 : Boxed w5 (b + 5) 9 (.string s) := by rw [hw5, ← zz]; exact Boxed.new _ _ _
  have ub : Below b w w5 := by rw [hw5]; exact zb.alloc (by omega) _
  have uz : w5.heap.size = b + 6 := by rw [hw5]; simp [yz]
  clear hw5 z0 z1 z2 z3 zb zz e1 e2 e3 hmm yz xz
  gi_wp2_with fail
  have hB1 : b < w5.heap.size := by omega
  have hKS : ∀ k, k = b + 5 → k < w5.heap.size := by intro k hk; omega
  have UZ := Lib.hid uz
  obtain ⟨i0, hi, hz0, hz1, hz2, hz3⟩ := infoW
  refine range_box b hB1 rfl (by omega) (gf := 38) (lb := #[.pointer (some ⟨b + 5, 0, none⟩)]) rfl trivial (enters_of Tryd.func38 (by kernel_rfl) rfl)
    (encs := fun x : Fin T.length => #[.string T[x].1, .int .i64 T[x].2]) (S := fun ys => ys = List.finRange T.length) (Sp := fun pre => pre <+: List.finRange T.length) (N := T.length) (Kp := KeepS (fun k => k = b + 5))
    (fun l J Jx W hW hJ hY h0 => plains1_in 5 (by omega) l (b + 5) s hs T (told_plain (by rw [HN.out]; decide) HT.out) J Jx hJ.grown hY W ((hW.block (b + 5) (by omega)).trans u4) h0)
    keepS_t (keepS_b hKS) (fun _ => rfl)
    (WI w b T) (WX w b T) (WI.own (by have := HB0.out; omega) (by have := UZ.out; omega)) (WI.free (by have := HB0.out; omega)) (WX.own (by have := HB0.out; omega) (by have := UZ.out; omega)) ⟨⟨_, u3, World.ownsRow_nil _ _ _ _, by simp⟩, ub, u1, u2, by omega, _, u0⟩
    (fun x a' _ => WA0 s b T x a') (fun x a' _ _ _ _ h _ _ => h) ?assign ?body ?done ?stop
  case assign =>
    intro l pre x W K hi hK
    have hk1 : KeepsFrom w5.heap.size W W := KeepsFrom.of_grownBy (World.grownBy.refl W none) (fun j e => by cases e)
    gi_wp2
    exact hK _ _ hk1 (KeepS.refl _ W) hi rfl
  case body =>
    rintro l pre x a' W ⟨⟨v, hv, hrow, hp0⟩, hB, q1, q2, hz, z, q0⟩ rfl hlt
    obtain ⟨f, hf⟩ : ∃ f, T[x].1 = f := ⟨_, rfl⟩
    obtain ⟨ε, hε⟩ : ∃ e, T[x].2 = e := ⟨_, rfl⟩
    have hm : (pre ++ [x]).map (fun x => Value.string T[x].1) = pre.map (fun x => Value.string T[x].1) ++ [.string f] := by rw [List.map_append, ← hf]; rfl
    have hfail := gatherW_fail T pre x
    rw [hε] at hfail
    rw [hf, hε]
    have HF := Lib.hid hf; have HE := Lib.hid hε; have HM := Lib.hid hm
    have HFA := Lib.hid hfail
    clear hf hε hm hfail
    have hc := hv.cell
    have e0 := q0.cell; have f0 := q0.frozen
    have e1 := q1.cell; have f1 := q1.frozen
    have e2 := q2.cell; have f2 := q2.frozen
    have hb0 := HB0.out
    have HP0 := Lib.hid hp0
    clear hp0
    obtain ⟨A, cc, rfl⟩ := own_slice3W hrow
    have hBz : b ≤ W.heap.size := by omega
    have hBz6 : b + 6 ≤ W.heap.size := hz
    by_cases h0 : ε = 0
    · have HZ := Lib.hid h0
      subst h0
      gi_wp2_with (gi_at_builtin; refine wpListIn_append_own _ rfl _ _ 22 rfl (b + 6) 9 i0 (.string .empty) 1 16 Tryd.underlying22 hi hz0 hz1 hz2 hz3 (by decide) _ _ _ rfl (hrow.alloc _) ⟨W.heap.size, 0, none⟩ 1 1 [.string f] rfl rfl (cell_one_new _ _ _) (by simp [Value.oneCell']) (by simp only [maxLen]; omega) (by omega) (by simp; omega) ?_; intro v' w5 hown' hgrow _; obtain ⟨g', cap', rfl⟩ := ownsRow_succ hown'; obtain ⟨hv1, hv2, hr2, hk2, hb2⟩ := appendedW (lo := b) hv (by decide) hrow hBz (by omega) (by omega) hown' hgrow; have hc1 := hv1.cell; have hf1 := hv1.frozen)
      have hrL := own_lowerW (base' := b) hrow (by omega)
      have a0 := KeepS.appendedBox (v' := .slice (some ⟨g', 0, none⟩) (pre.length + 1) cap') hBz q0 (by decide) hrL (B := b + 4) (by omega) (by omega) hgrow
      have a1 := KeepS.appendedBox (v' := .slice (some ⟨g', 0, none⟩) (pre.length + 1) cap') hBz q1 (by decide) hrL (B := b + 4) (by omega) (by omega) hgrow
      have a2 := KeepS.appendedBox (v' := .slice (some ⟨g', 0, none⟩) (pre.length + 1) cap') hBz q2 (by decide) hrL (B := b + 4) (by omega) (by omega) hgrow
      refine ⟨hk2.from _, KeepS.appended (v := .slice A pre.length cc) (fun k hk => by omega) (fun g hg hk => by have := ownBlock_ge hrow hg; omega) (by omega) hgrow, ⟨_, hv2, ?_, ?_⟩, hB.trans hb2, a1.2, a2.2, ?_, z, a0.2⟩
      · rw [HM.out, List.length_append]; exact hr2
      · intro y hy
        rcases List.mem_append.1 hy with hy | hy
        · exact HP0.out y hy
        · obtain rfl : y = x := by simpa using hy
          exact HE.out
      · have := hb2.size; omega
    · have d2 : (ε != 0) = true := by simpa using h0
      have HZ := Lib.hid h0
      clear h0
      gi_wp2
      exact ⟨(((KeepsOthers.setCell _ _ _).trans (KeepsOthers.setCell _ _ _)).trans (KeepsOthers.setCell _ _ _)).from _, rfl, ε, fun hpre => ⟨HFA.out hpre HP0.out HZ.out, HZ.out⟩, ((hB.setCell (p := ⟨b, 0, none⟩) (Nat.le_refl _) _).setCell (p := ⟨b + 1, 0, none⟩) (by show b ≤ b + 1; omega) _).setCell (p := ⟨b + 1 + 1, 0, none⟩) (by show b ≤ b + 1 + 1; omega) _, ((q0.set _).other (by omega) _).other (by omega) _, ((q1.other (by omega) _).set _).other (by omega) _, ((q2.other (by omega) _).other (by omega) _).set _⟩
  case done =>
    rintro D ys W hD rfl ⟨⟨v, hv, hrow, hp0⟩, hB, q1, q2, hz, z, q0⟩ hK
    have hga := gatherW_all T hp0
    have hm : (List.finRange T.length).map (fun x => Value.string T[x].1) = (T.map (·.1)).map Value.string := by
      refine List.ext_getElem (by simp) fun i h1 h2 => ?_
      simp
    rw [hm, List.length_finRange] at hrow
    have htx : toldW s.data.toList = (T.map (·.1)).map (fun x => (x, (0 : Int))) := by
      rw [HT.out]
      refine List.ext_getElem (by simp) fun i h1 h2 => ?_
      have := hp0 ⟨i, h1⟩ (List.mem_finRange _)
      simp at this ⊢
      exact Prod.ext rfl this
    obtain ⟨ok1, ok2⟩ := told_ok htx
    obtain ⟨XS, hXS⟩ : ∃ XS, T.map (·.1) = XS := ⟨_, rfl⟩
    rw [hXS] at hga hrow ok1 ok2
    have hXl : XS.length = T.length := by rw [← hXS]; simp
    have hcb := catB_bound XS fun x hx => (longE_0.1 (ok1 x hx)).2
    have hcb2 : (catB XS).length ≤ 140737488355328 := by have : XS.length * 32768 ≤ 64 * 32768 := Nat.mul_le_mul_right _ ok2; omega
    have hE1 : getE s.data.toList = if 131072 < (catB XS).length then 5 else 0 := by
      unfold getE; rw [if_neg (by rw [HV.out]; simp), HT.out, hga, if_neg (by simp)]
    have HG2 : getE s.data.toList = 0 → getV s.data.toList = 0 ∧ getL s.data.toList = XS := fun h => ⟨by unfold getV; rw [if_pos h, HN.out], by unfold getL; rw [if_pos h, HT.out, hga]⟩
    have HG3 : getE s.data.toList ≠ 0 → getV s.data.toList = 0 ∧ getL s.data.toList = [] := fun h => ⟨by unfold getV; rw [if_neg h], by unfold getL; rw [if_neg h]⟩
    obtain ⟨A, cc, rfl⟩ := own_slice3W hrow
    have hcap := own_capW hrow
    have hrd := Reads.of_own hrow
    have HALL := Lib.hid (all_any W.heap.size A T.length cc XS W (Nat.le_refl _) hrd (by omega) hcap hcb2)
    have HE1 := Lib.hid hE1; have HG2 := Lib.hid HG2; have HG3 := Lib.hid HG3; have HXL := Lib.hid hXl
    have HB1 := HB0.out; have UZ1 := UZ.out
    clear hp0 hga hm htx ok1 ok2 hXS hcb hcb2 hE1 hXl hcap hrd
    have hc := hv.cell
    have hDW : D < W.heap.size := (Array.getElem?_eq_some_iff.1 hK).1
    have HBB := Lib.hid HB1; have UZZ := Lib.hid UZ1
    clear HB1 UZ1
    gi_wp2
    refine ⟨trivial, callsIn_wide.2 (HALL.out.mono ?_)⟩
    rintro e W2 ⟨rfl, hg⟩
    have hK2 : W2.heap[D]? = some (.deferred (some [])) := (hg.block D hDW (by simp)).trans hK
    have hrow2 := own_grownW hrow hg
    replace q0 := q0.kept hg (by simp); replace q1 := q1.kept hg (by simp); replace q2 := q2.kept hg (by simp); replace hv := hv.kept hg (by simp)
    have hc := hv.cell
    have e0 := q0.cell; have f0 := q0.frozen
    have e1 := q1.cell; have f1 := q1.frozen
    have e2 := q2.cell; have f2 := q2.frozen
    by_cases hbig : 131072 < (catB XS).length
    · have hdd : decide ((catB XS).length ≤ 131072) = false := decide_eq_false (by omega)
      rw [hdd]
      have HBIG := Lib.hid hbig
      clear hdd hbig
      have hgE : getE s.data.toList = 5 := by rw [HE1.out, if_pos HBIG.out]
      have h3 := HG3.out (by rw [hgE]; decide)
      have hB2 : Below b w W2 := hB.trans ((below_of_grown hg).mono (by omega))
      have p0 := q0; have p1 := q1; have p2 := q2
      have HQ := Lib.hid (And.intro hgE h3)
      clear hgE h3
      gi_wp2
      obtain ⟨hgE, h3⟩ := HQ.out
      have tK := (((KeepsOthers.setCell W2 ⟨b, 0, none⟩ (.int .i64 0)).trans (KeepsOthers.setCell _ ⟨b + 1, 0, none⟩ (.slice none 0 0))).trans (KeepsOthers.setCell _ ⟨b + 1 + 1, 0, none⟩ (.int .i64 5))).same D _ hK2 rfl
      refine ⟨by simp, .inl ⟨_, _, rfl, run_takeDeferred tK, ?_⟩⟩
      have t0 : Boxed (((W2.setCell ⟨b, 0, none⟩ (.int .i64 0)).setCell ⟨b + 1, 0, none⟩ (.slice none 0 0)).setCell ⟨b + 1 + 1, 0, none⟩ (.int .i64 5)) b 3 _ := ((p0.set _).other (by omega) _).other (by omega) _
      have t1 : Boxed (((W2.setCell ⟨b, 0, none⟩ (.int .i64 0)).setCell ⟨b + 1, 0, none⟩ (.slice none 0 0)).setCell ⟨b + 1 + 1, 0, none⟩ (.int .i64 5)) (b + 1) 22 _ := ((p1.other (by omega) _).set _).other (by omega) _
      have t2 : Boxed (((W2.setCell ⟨b, 0, none⟩ (.int .i64 0)).setCell ⟨b + 1, 0, none⟩ (.slice none 0 0)).setCell ⟨b + 1 + 1, 0, none⟩ (.int .i64 5)) (b + 2) 25 (.int .i64 5) := ((p2.other (by omega) _).other (by omega) _).set _
      have tb := ((hB2.setCell (p := ⟨b, 0, none⟩) (Nat.le_refl _) (.int .i64 0)).setCell (p := ⟨b + 1, 0, none⟩) (by show b ≤ b + 1; omega) (.slice none 0 0)).setCell (p := ⟨b + 1 + 1, 0, none⟩) (by show b ≤ b + 1 + 1; omega) (.int .i64 5)
      have r0 : D ≠ b := by have := UZZ.out; omega
      have r1 : D ≠ b + 1 := by have := UZZ.out; omega
      have r2 : D ≠ b + 2 := by have := UZZ.out; omega
      exact ⟨_, results_cell3 rfl _ _ _ _ _ _ _ _ rfl rfl rfl (load_cell Tryd.underlying3 rfl ((t0.kept (grownBy_putObj' _ D _) (by simp; omega)).cell)) (load_cell Tryd.underlying22 rfl ((t1.kept (grownBy_putObj' _ D _) (by simp; omega)).cell)) (load_cell Tryd.underlying25 rfl ((t2.kept (grownBy_putObj' _ D _) (by simp; omega)).cell)),
        _, by rw [hgE, h3.1], by rw [h3.2, HBB.out]; exact World.ownsRow_nil _ _ _ _, by rw [HBB.out]; exact tb.trans (belowK_b (w := w) (by have := HBB.out; omega) _ D _ _ (by have := HBB.out; have := UZZ.out; omega) tK rfl rfl)⟩
    · have hdd : decide ((catB XS).length ≤ 131072) = true := decide_eq_true (by omega)
      rw [hdd]
      have HBIG := Lib.hid hbig
      clear hdd hbig
      have hgE : getE s.data.toList = 0 := by rw [HE1.out, if_neg HBIG.out]
      have h3 := HG2.out hgE
      have hB1 : Below b w W2 := hB.trans ((below_of_grown hg).mono (by omega))
      have hB2 : Below b w W2.drew := ⟨hB1.os, hB1.tape, hB1.output, hB1.size, hB1.block⟩
      have p0 : Boxed W2.drew b _ _ := q0; have p1 : Boxed W2.drew (b + 1) _ _ := q1; have p2 : Boxed W2.drew (b + 2) _ _ := q2
      have hK2 : W2.drew.heap[D]? = some (.deferred (some [])) := hK2
      have hrow3 := own_grownW hrow2 (show W2.grownBy W2.drew none from ⟨rfl, rfl, rfl, Nat.le_refl _, fun _ _ _ => rfl⟩)
      have HQ := Lib.hid (And.intro hgE h3)
      clear hgE h3
      gi_wp2
      have c4 : W2.drew.cell? ⟨b + 4, 0, none⟩ = some (.slice A T.length cc) := hc
      have c44 : (W2.drew.setCell ⟨b, 0, none⟩ (.int .i64 0)).cell? ⟨b + 4, 0, none⟩ = some (.slice A T.length cc) := (World.cell?_setCell_far _ _ _ _ (by show b ≠ b + 4; omega)).trans hc
      gi_region
      all_goals
        gi_wp2
        obtain ⟨hgE, h3⟩ := HQ.out
        have tK := (((KeepsOthers.setCell W2.drew ⟨b, 0, none⟩ (.int .i64 0)).trans (KeepsOthers.setCell _ ⟨b + 1, 0, none⟩ (.slice A T.length cc))).trans (KeepsOthers.setCell _ ⟨b + 1 + 1, 0, none⟩ (.int .i64 0))).same D _ hK2 rfl
        refine ⟨by simp, .inl ⟨_, _, rfl, run_takeDeferred tK, ?_⟩⟩
        have t0 : Boxed (((W2.drew.setCell ⟨b, 0, none⟩ (.int .i64 0)).setCell ⟨b + 1, 0, none⟩ (.slice A T.length cc)).setCell ⟨b + 1 + 1, 0, none⟩ (.int .i64 0)) b 3 _ := ((p0.set _).other (by omega) _).other (by omega) _
        have t1 : Boxed (((W2.drew.setCell ⟨b, 0, none⟩ (.int .i64 0)).setCell ⟨b + 1, 0, none⟩ (.slice A T.length cc)).setCell ⟨b + 1 + 1, 0, none⟩ (.int .i64 0)) (b + 1) 22 _ := ((p1.other (by omega) _).set _).other (by omega) _
        have t2 : Boxed (((W2.drew.setCell ⟨b, 0, none⟩ (.int .i64 0)).setCell ⟨b + 1, 0, none⟩ (.slice A T.length cc)).setCell ⟨b + 1 + 1, 0, none⟩ (.int .i64 0)) (b + 2) 25 (.int .i64 0) := ((p2.other (by omega) _).other (by omega) _).set _
        have tb := ((hB2.setCell (p := ⟨b, 0, none⟩) (Nat.le_refl _) (.int .i64 0)).setCell (p := ⟨b + 1, 0, none⟩) (by show b ≤ b + 1; omega) (.slice A T.length cc)).setCell (p := ⟨b + 1 + 1, 0, none⟩) (by show b ≤ b + 1 + 1; omega) (.int .i64 0)
        have tr0 := hrow3.kept (grownBy_setCell' W2.drew b (.int .i64 0)) (.inr (p0.not_row (by decide) hrow3).symm)
        have tr1 := tr0.kept (grownBy_setCell' (W2.drew.setCell ⟨b, 0, none⟩ (.int .i64 0)) (b + 1) (.slice A T.length cc)) (.inr (p1.not_row (by decide) hrow3).symm)
        have tr := tr1.kept (grownBy_setCell' ((W2.drew.setCell ⟨b, 0, none⟩ (.int .i64 0)).setCell ⟨b + 1, 0, none⟩ (.slice A T.length cc)) (b + 1 + 1) (.int .i64 0)) (.inr (p2.not_row (by decide) hrow3).symm)
        have r0 : D ≠ b := by have := UZZ.out; omega
        have r1 : D ≠ b + 1 := by have := UZZ.out; omega
        have r2 : D ≠ b + 2 := by have := UZZ.out; omega
        exact ⟨_, results_cell3 rfl _ _ _ _ _ _ _ _ rfl rfl rfl (load_cell Tryd.underlying3 rfl ((t0.kept (grownBy_putObj' _ D _) (by simp; omega)).cell)) (load_cell Tryd.underlying22 rfl ((t1.kept (grownBy_putObj' _ D _) (by simp; omega)).cell)) (load_cell Tryd.underlying25 rfl ((t2.kept (grownBy_putObj' _ D _) (by simp; omega)).cell)),
          _, by rw [hgE, h3.1], by rw [h3.2, HBB.out]; simp only [HXL.out]; exact own_lowerW (ownsRow_putObj tr _ tK rfl) (by omega), by rw [HBB.out]; exact tb.trans (belowK_b (w := w) (by have := HBB.out; omega) _ D _ _ (by have := HBB.out; have := UZZ.out; omega) tK rfl rfl)⟩
  case stop =>
    rintro D c pre W hD hpre ⟨rfl, e', he', hB, q0, q1, q2⟩ hK
    obtain ⟨hga, hne⟩ := he' hpre
    have hgE : getE s.data.toList = e' := by unfold getE; rw [if_neg (by rw [HV.out]; simp), HT.out, hga, if_pos hne]
    have h3 : getV s.data.toList = 0 ∧ getL s.data.toList = [] := ⟨by unfold getV; rw [if_neg (by rw [hgE]; exact hne)], by unfold getL; rw [if_neg (by rw [hgE]; exact hne)]⟩
    have HQ := Lib.hid (And.intro hgE h3)
    clear he' hga hgE h3 hne
    gi_wp2
    obtain ⟨hgE, h3⟩ := HQ.out
    have hDW : D < W.heap.size := (Array.getElem?_eq_some_iff.1 hK).1
    have UZ1 := UZ.out
    have r0 : D ≠ b := by omega
    have r1 : D ≠ b + 1 := by omega
    have r2 : D ≠ b + 2 := by omega
    refine ⟨by simp, .inl ⟨_, _, rfl, run_takeDeferred hK, ?_⟩⟩
    exact ⟨_, results_cell3 rfl _ _ _ _ _ _ _ _ rfl rfl rfl (load_cell Tryd.underlying3 rfl ((q0.kept (grownBy_putObj' _ D _) (by simp; omega)).cell)) (load_cell Tryd.underlying22 rfl ((q1.kept (grownBy_putObj' _ D _) (by simp; omega)).cell)) (load_cell Tryd.underlying25 rfl ((q2.kept (grownBy_putObj' _ D _) (by simp; omega)).cell)),
      _, by rw [hgE, h3.1], by rw [h3.2]; exact World.ownsRow_nil _ _ _ _, by rw [HB0.out]; exact hB.trans (belowK_b (w := w) (by have := HB0.out; omega) _ D _ _ (by have := HB0.out; omega) hK rfl rfl)⟩

def WA2 (s : ByteArray) (b : Nat) (T : List (ByteArray × Int)) (x : Fin T.length) (a' : Act) : Prop :=
  a' = { tmps := #[.string s, undef, .pointer (some ⟨b, 0, none⟩), .pointer (some ⟨b + 1, 0, none⟩), .pointer (some ⟨b + 1 + 1, 0, none⟩), .int .i64 2, .int .i64 0, .map (some (b + 3)), .pointer (some ⟨b + 4, 0, none⟩), .string T[x].1, .int .i64 T[x].2, .tuple #[.int .i64 2, .int .i64 0], .string s, .tuple #[.int .i64 2, .int .i64 0], .int .i64 2, .int .i64 0, .int .i64 0, .bool false, undef, .map (some (b + 3)), .map (some (b + 3)), .map (some (b + 3)), .int .i64 2, .func (.func 29) #[] #[], .string s, .func (.func 40) #[] #[.pointer (some ⟨b + 5, 0, none⟩)], .string T[x].1, .int .i64 T[x].2, undef, undef, undef, undef, undef, undef, undef, undef, undef, undef, undef, undef], defers := [] }
set_option maxRecDepth 100000 in
set_option maxHeartbeats 4000000 in
theorem wget_2 (s : ByteArray) (hs : s.size ≤ 1000000000000) (w : World) (hv : verE s.data.toList = 0) (hn : verN s.data.toList = 2) :
    Calls Tryd.prog 14 #[.string s] w fun e w' => ∃ u, e = .returned (.tuple #[.int .i64 (getV s.data.toList), u, .int .i64 (getE s.data.toList)]) ∧ w'.ownsRow w.heap.size 9 1 u (getL s.data.toList).length ((getL s.data.toList).map Value.string) ∧ Below w.heap.size w w' := by
  have hsl := ba_len s
  obtain ⟨T, hT⟩ : ∃ T, toldW s.data.toList = T := ⟨_, rfl⟩
  have hTl : T.length ≤ 1000000000070 := by have := told_len s.data.toList; rw [hT] at this; omega
  have HT := Lib.hid hT
  have hver := fun V => version_any s V
  rw [hv, hn] at hver
  have HVER := Lib.hid hver; have HV := Lib.hid hv; have HN := Lib.hid hn
  refine (callsIn_wide (n := 6)).1 ?_
  refine callsIn_of_wp_marks Tryd.func14 rfl trivial ?_ rfl
  simp only [Tryd.ntmps14, List.size_toArray, List.length_cons, List.length_nil, Nat.reduceAdd, Nat.reduceSub, Array.replicate_succ, Array.replicate_zero, List.push_toArray, List.append_toArray, List.nil_append, List.cons_append]
  obtain ⟨x0, x1, x2, xb, xz⟩ := box3 w (.int .i64 0) (.slice none 0 0) (.int .i64 0) 3 22 25
  clear hver hv hn hT hsl
  gi_wp2_with fail
  generalize ((w.alloc (.cells #[.int .i64 0] 3)).alloc (.cells #[.slice none 0 0] 22)).alloc (.cells #[.int .i64 0] 25) = w1 at *
  refine ⟨trivial, callsIn_wide.2 ((HVER.out _).mono ?_)⟩
  rintro e w1' ⟨rfl, hw1⟩
  rw [hw1]
  clear hw1 HVER
  obtain ⟨w2, w3, e1, e2, m1, m2, m3⟩ := map_two Tryd.underlying57 Tryd.underlying3 0 2 (by decide) (.func (.func 28) #[] #[]) (.func (.func 29) #[] #[]) w1
  rw [xz] at e1 e2 m3
  have hmm := @run_makeMap Tryd.prog
  have e3 := (m3 (w3.alloc (.cells #[.slice none 0 0] 22)) (Below.heap_alloc _ _ _ (by omega))).2
  generalize hb0 : w.heap.size = b at *
  have HB0 := Lib.hid hb0
  rw [show b + 1 + 1 = b + 2 from rfl] at x2
  have y0 : Boxed w3 b 3 (.int .i64 0) := (m1.block b (by omega)).trans x0
  have y1 : Boxed w3 (b + 1) 22 (.slice none 0 0) := (m1.block (b + 1) (by omega)).trans x1
  have y2 : Boxed w3 (b + 2) 25 (.int .i64 0) := (m1.block (b + 2) (by omega)).trans x2
  have yb : Below b w w3 := xb.trans (m1.mono (by omega))
  have yz : w3.heap.size = b + 4 := by omega
  have z0 := y0.alloc (.cells #[.slice none 0 0] 22); have z1 := y1.alloc (.cells #[.slice none 0 0] 22); have z2 := y2.alloc (.cells #[.slice none 0 0] 22)
  have z3 := Boxed.new w3 22 (.slice none 0 0)
  rw [yz] at z3
  have zb : Below b w (w3.alloc (.cells #[.slice none 0 0] 22)) := yb.alloc (by omega) _
  have zz : (w3.alloc (.cells #[.slice none 0 0] 22)).heap.size = b + 5 := by simp [yz]
  clear m1 m2 m3 x0 x1 x2 xb y0 y1 y2 yb
  gi_wp2_with fail
  refine ⟨trivial, callsIn_wide.2 ((counts_any _ _).mono ?_)⟩
  rintro e w5 ⟨rfl, hw5⟩
  rw [zz]
  have u0 : Boxed w5 b 3 (.int .i64 0) := by rw [hw5]; exact z0.alloc _
  have u1 : Boxed w5 (b + 1) 22 (.slice none 0 0) := by rw [hw5]; exact z1.alloc _
  have u2 : Boxed w5 (b + 2) 25 (.int .i64 0) := by rw [hw5]; exact z2.alloc _
  have u3 : Boxed w5 (b + 4) 22 (.slice none 0 0) := by rw [hw5]; exact z3.alloc _
  have u4 : Boxed w5 (b + 5) 9 (.string s) := by rw [hw5, ← zz]; exact Boxed.new _ _ _
  have ub : Below b w w5 := by rw [hw5]; exact zb.alloc (by omega) _
  have uz : w5.heap.size = b + 6 := by rw [hw5]; simp [yz]
  clear hw5 z0 z1 z2 z3 zb zz e1 e2 e3 hmm yz xz
  gi_wp2_with fail
  have hB1 : b < w5.heap.size := by omega
  have hKS : ∀ k, k = b + 5 → k < w5.heap.size := by intro k hk; omega
  have UZ := Lib.hid uz
  obtain ⟨i0, hi, hz0, hz1, hz2, hz3⟩ := infoW
  refine range_box b hB1 rfl (by omega) (gf := 40) (lb := #[.pointer (some ⟨b + 5, 0, none⟩)]) rfl trivial (enters_of Tryd.func40 (by kernel_rfl) rfl)
    (encs := fun x : Fin T.length => #[.string T[x].1, .int .i64 T[x].2]) (S := fun ys => ys = List.finRange T.length) (Sp := fun pre => pre <+: List.finRange T.length) (N := T.length) (Kp := KeepS (fun k => k = b + 5))
    (fun l J Jx W hW hJ hY h0 => counts1_in 5 (by omega) l (b + 5) s hs T (told_count HN.out HT.out) J Jx hJ.grown hY W ((hW.block (b + 5) (by omega)).trans u4) h0)
    keepS_t (keepS_b hKS) (fun _ => rfl)
    (WI w b T) (WX w b T) (WI.own (by have := HB0.out; omega) (by have := UZ.out; omega)) (WI.free (by have := HB0.out; omega)) (WX.own (by have := HB0.out; omega) (by have := UZ.out; omega)) ⟨⟨_, u3, World.ownsRow_nil _ _ _ _, by simp⟩, ub, u1, u2, by omega, _, u0⟩
    (fun x a' _ => WA2 s b T x a') (fun x a' _ _ _ _ h _ _ => h) ?assign ?body ?done ?stop
  case assign =>
    intro l pre x W K hi hK
    have hk1 : KeepsFrom w5.heap.size W W := KeepsFrom.of_grownBy (World.grownBy.refl W none) (fun j e => by cases e)
    gi_wp2
    exact hK _ _ hk1 (KeepS.refl _ W) hi rfl
  case body =>
    rintro l pre x a' W ⟨⟨v, hv, hrow, hp0⟩, hB, q1, q2, hz, z, q0⟩ rfl hlt
    obtain ⟨f, hf⟩ : ∃ f, T[x].1 = f := ⟨_, rfl⟩
    obtain ⟨ε, hε⟩ : ∃ e, T[x].2 = e := ⟨_, rfl⟩
    have hm : (pre ++ [x]).map (fun x => Value.string T[x].1) = pre.map (fun x => Value.string T[x].1) ++ [.string f] := by rw [List.map_append, ← hf]; rfl
    have hfail := gatherW_fail T pre x
    rw [hε] at hfail
    rw [hf, hε]
    have HF := Lib.hid hf; have HE := Lib.hid hε; have HM := Lib.hid hm
    have HFA := Lib.hid hfail
    clear hf hε hm hfail
    have hc := hv.cell
    have e0 := q0.cell; have f0 := q0.frozen
    have e1 := q1.cell; have f1 := q1.frozen
    have e2 := q2.cell; have f2 := q2.frozen
    have hb0 := HB0.out
    have HP0 := Lib.hid hp0
    clear hp0
    obtain ⟨A, cc, rfl⟩ := own_slice3W hrow
    have hBz : b ≤ W.heap.size := by omega
    have hBz6 : b + 6 ≤ W.heap.size := hz
    by_cases h0 : ε = 0
    · have HZ := Lib.hid h0
      subst h0
      gi_wp2_with (gi_at_builtin; refine wpListIn_append_own _ rfl _ _ 22 rfl (b + 6) 9 i0 (.string .empty) 1 16 Tryd.underlying22 hi hz0 hz1 hz2 hz3 (by decide) _ _ _ rfl (hrow.alloc _) ⟨W.heap.size, 0, none⟩ 1 1 [.string f] rfl rfl (cell_one_new _ _ _) (by simp [Value.oneCell']) (by simp only [maxLen]; omega) (by omega) (by simp; omega) ?_; intro v' w5 hown' hgrow _; obtain ⟨g', cap', rfl⟩ := ownsRow_succ hown'; obtain ⟨hv1, hv2, hr2, hk2, hb2⟩ := appendedW (lo := b) hv (by decide) hrow hBz (by omega) (by omega) hown' hgrow; have hc1 := hv1.cell; have hf1 := hv1.frozen)
      have hrL := own_lowerW (base' := b) hrow (by omega)
      have a0 := KeepS.appendedBox (v' := .slice (some ⟨g', 0, none⟩) (pre.length + 1) cap') hBz q0 (by decide) hrL (B := b + 4) (by omega) (by omega) hgrow
      have a1 := KeepS.appendedBox (v' := .slice (some ⟨g', 0, none⟩) (pre.length + 1) cap') hBz q1 (by decide) hrL (B := b + 4) (by omega) (by omega) hgrow
      have a2 := KeepS.appendedBox (v' := .slice (some ⟨g', 0, none⟩) (pre.length + 1) cap') hBz q2 (by decide) hrL (B := b + 4) (by omega) (by omega) hgrow
      refine ⟨hk2.from _, KeepS.appended (v := .slice A pre.length cc) (fun k hk => by omega) (fun g hg hk => by have := ownBlock_ge hrow hg; omega) (by omega) hgrow, ⟨_, hv2, ?_, ?_⟩, hB.trans hb2, a1.2, a2.2, ?_, z, a0.2⟩
      · rw [HM.out, List.length_append]; exact hr2
      · intro y hy
        rcases List.mem_append.1 hy with hy | hy
        · exact HP0.out y hy
        · obtain rfl : y = x := by simpa using hy
          exact HE.out
      · have := hb2.size; omega
    · have d2 : (ε != 0) = true := by simpa using h0
      have HZ := Lib.hid h0
      clear h0
      gi_wp2
      exact ⟨(((KeepsOthers.setCell _ _ _).trans (KeepsOthers.setCell _ _ _)).trans (KeepsOthers.setCell _ _ _)).from _, rfl, ε, fun hpre => ⟨HFA.out hpre HP0.out HZ.out, HZ.out⟩, ((hB.setCell (p := ⟨b, 0, none⟩) (Nat.le_refl _) _).setCell (p := ⟨b + 1, 0, none⟩) (by show b ≤ b + 1; omega) _).setCell (p := ⟨b + 1 + 1, 0, none⟩) (by show b ≤ b + 1 + 1; omega) _, ((q0.set _).other (by omega) _).other (by omega) _, ((q1.other (by omega) _).set _).other (by omega) _, ((q2.other (by omega) _).other (by omega) _).set _⟩
  case done =>
    rintro D ys W hD rfl ⟨⟨v, hv, hrow, hp0⟩, hB, q1, q2, hz, z, q0⟩ hK
    have hga := gatherW_all T hp0
    have hm : (List.finRange T.length).map (fun x => Value.string T[x].1) = (T.map (·.1)).map Value.string := by
      refine List.ext_getElem (by simp) fun i h1 h2 => ?_
      simp
    rw [hm, List.length_finRange] at hrow
    have htx : toldW s.data.toList = (T.map (·.1)).map (fun x => (x, (0 : Int))) := by
      rw [HT.out]
      refine List.ext_getElem (by simp) fun i h1 h2 => ?_
      have := hp0 ⟨i, h1⟩ (List.mem_finRange _)
      simp at this ⊢
      exact Prod.ext rfl this
    obtain ⟨ok1, ok2⟩ := told_ok htx
    obtain ⟨XS, hXS⟩ : ∃ XS, T.map (·.1) = XS := ⟨_, rfl⟩
    rw [hXS] at hga hrow ok1 ok2
    have hXl : XS.length = T.length := by rw [← hXS]; simp
    have hcb := catB_bound XS fun x hx => (longE_0.1 (ok1 x hx)).2
    have hcb2 : (catB XS).length ≤ 140737488355328 := by have : XS.length * 32768 ≤ 64 * 32768 := Nat.mul_le_mul_right _ ok2; omega
    have hE1 : getE s.data.toList = if 131072 < (catB XS).length then 5 else 0 := by
      unfold getE; rw [if_neg (by rw [HV.out]; simp), HT.out, hga, if_neg (by simp)]
    have HG2 : getE s.data.toList = 0 → getV s.data.toList = 2 ∧ getL s.data.toList = XS := fun h => ⟨by unfold getV; rw [if_pos h, HN.out], by unfold getL; rw [if_pos h, HT.out, hga]⟩
    have HG3 : getE s.data.toList ≠ 0 → getV s.data.toList = 0 ∧ getL s.data.toList = [] := fun h => ⟨by unfold getV; rw [if_neg h], by unfold getL; rw [if_neg h]⟩
    obtain ⟨A, cc, rfl⟩ := own_slice3W hrow
    have hcap := own_capW hrow
    have hrd := Reads.of_own hrow
    have HALL := Lib.hid (all_any W.heap.size A T.length cc XS W (Nat.le_refl _) hrd (by omega) hcap hcb2)
    have HE1 := Lib.hid hE1; have HG2 := Lib.hid HG2; have HG3 := Lib.hid HG3; have HXL := Lib.hid hXl
    have HB1 := HB0.out; have UZ1 := UZ.out
    clear hp0 hga hm htx ok1 ok2 hXS hcb hcb2 hE1 hXl hcap hrd
    have hc := hv.cell
    have hDW : D < W.heap.size := (Array.getElem?_eq_some_iff.1 hK).1
    have HBB := Lib.hid HB1; have UZZ := Lib.hid UZ1
    clear HB1 UZ1
    gi_wp2
    refine ⟨trivial, callsIn_wide.2 (HALL.out.mono ?_)⟩
    rintro e W2 ⟨rfl, hg⟩
    have hK2 : W2.heap[D]? = some (.deferred (some [])) := (hg.block D hDW (by simp)).trans hK
    have hrow2 := own_grownW hrow hg
    replace q0 := q0.kept hg (by simp); replace q1 := q1.kept hg (by simp); replace q2 := q2.kept hg (by simp); replace hv := hv.kept hg (by simp)
    have hc := hv.cell
    have e0 := q0.cell; have f0 := q0.frozen
    have e1 := q1.cell; have f1 := q1.frozen
    have e2 := q2.cell; have f2 := q2.frozen
    by_cases hbig : 131072 < (catB XS).length
    · have hdd : decide ((catB XS).length ≤ 131072) = false := decide_eq_false (by omega)
      rw [hdd]
      have HBIG := Lib.hid hbig
      clear hdd hbig
      have hgE : getE s.data.toList = 5 := by rw [HE1.out, if_pos HBIG.out]
      have h3 := HG3.out (by rw [hgE]; decide)
      have hB2 : Below b w W2 := hB.trans ((below_of_grown hg).mono (by omega))
      have p0 := q0; have p1 := q1; have p2 := q2
      have HQ := Lib.hid (And.intro hgE h3)
      clear hgE h3
      gi_wp2
      obtain ⟨hgE, h3⟩ := HQ.out
      have tK := (((KeepsOthers.setCell W2 ⟨b, 0, none⟩ (.int .i64 0)).trans (KeepsOthers.setCell _ ⟨b + 1, 0, none⟩ (.slice none 0 0))).trans (KeepsOthers.setCell _ ⟨b + 1 + 1, 0, none⟩ (.int .i64 5))).same D _ hK2 rfl
      refine ⟨by simp, .inl ⟨_, _, rfl, run_takeDeferred tK, ?_⟩⟩
      have t0 : Boxed (((W2.setCell ⟨b, 0, none⟩ (.int .i64 0)).setCell ⟨b + 1, 0, none⟩ (.slice none 0 0)).setCell ⟨b + 1 + 1, 0, none⟩ (.int .i64 5)) b 3 _ := ((p0.set _).other (by omega) _).other (by omega) _
      have t1 : Boxed (((W2.setCell ⟨b, 0, none⟩ (.int .i64 0)).setCell ⟨b + 1, 0, none⟩ (.slice none 0 0)).setCell ⟨b + 1 + 1, 0, none⟩ (.int .i64 5)) (b + 1) 22 _ := ((p1.other (by omega) _).set _).other (by omega) _
      have t2 : Boxed (((W2.setCell ⟨b, 0, none⟩ (.int .i64 0)).setCell ⟨b + 1, 0, none⟩ (.slice none 0 0)).setCell ⟨b + 1 + 1, 0, none⟩ (.int .i64 5)) (b + 2) 25 (.int .i64 5) := ((p2.other (by omega) _).other (by omega) _).set _
      have tb := ((hB2.setCell (p := ⟨b, 0, none⟩) (Nat.le_refl _) (.int .i64 0)).setCell (p := ⟨b + 1, 0, none⟩) (by show b ≤ b + 1; omega) (.slice none 0 0)).setCell (p := ⟨b + 1 + 1, 0, none⟩) (by show b ≤ b + 1 + 1; omega) (.int .i64 5)
      have r0 : D ≠ b := by have := UZZ.out; omega
      have r1 : D ≠ b + 1 := by have := UZZ.out; omega
      have r2 : D ≠ b + 2 := by have := UZZ.out; omega
      exact ⟨_, results_cell3 rfl _ _ _ _ _ _ _ _ rfl rfl rfl (load_cell Tryd.underlying3 rfl ((t0.kept (grownBy_putObj' _ D _) (by simp; omega)).cell)) (load_cell Tryd.underlying22 rfl ((t1.kept (grownBy_putObj' _ D _) (by simp; omega)).cell)) (load_cell Tryd.underlying25 rfl ((t2.kept (grownBy_putObj' _ D _) (by simp; omega)).cell)),
        _, by rw [hgE, h3.1], by rw [h3.2, HBB.out]; exact World.ownsRow_nil _ _ _ _, by rw [HBB.out]; exact tb.trans (belowK_b (w := w) (by have := HBB.out; omega) _ D _ _ (by have := HBB.out; have := UZZ.out; omega) tK rfl rfl)⟩
    · have hdd : decide ((catB XS).length ≤ 131072) = true := decide_eq_true (by omega)
      rw [hdd]
      have HBIG := Lib.hid hbig
      clear hdd hbig
      have hgE : getE s.data.toList = 0 := by rw [HE1.out, if_neg HBIG.out]
      have h3 := HG2.out hgE
      have hB1 : Below b w W2 := hB.trans ((below_of_grown hg).mono (by omega))
      have hB2 : Below b w W2.drew := ⟨hB1.os, hB1.tape, hB1.output, hB1.size, hB1.block⟩
      have p0 : Boxed W2.drew b _ _ := q0; have p1 : Boxed W2.drew (b + 1) _ _ := q1; have p2 : Boxed W2.drew (b + 2) _ _ := q2
      have hK2 : W2.drew.heap[D]? = some (.deferred (some [])) := hK2
      have hrow3 := own_grownW hrow2 (show W2.grownBy W2.drew none from ⟨rfl, rfl, rfl, Nat.le_refl _, fun _ _ _ => rfl⟩)
      have HQ := Lib.hid (And.intro hgE h3)
      clear hgE h3
      gi_wp2
      have c4 : W2.drew.cell? ⟨b + 4, 0, none⟩ = some (.slice A T.length cc) := hc
      have c44 : (W2.drew.setCell ⟨b, 0, none⟩ (.int .i64 2)).cell? ⟨b + 4, 0, none⟩ = some (.slice A T.length cc) := (World.cell?_setCell_far _ _ _ _ (by show b ≠ b + 4; omega)).trans hc
      gi_region
      all_goals
        gi_wp2
        obtain ⟨hgE, h3⟩ := HQ.out
        have tK := (((KeepsOthers.setCell W2.drew ⟨b, 0, none⟩ (.int .i64 2)).trans (KeepsOthers.setCell _ ⟨b + 1, 0, none⟩ (.slice A T.length cc))).trans (KeepsOthers.setCell _ ⟨b + 1 + 1, 0, none⟩ (.int .i64 0))).same D _ hK2 rfl
        refine ⟨by simp, .inl ⟨_, _, rfl, run_takeDeferred tK, ?_⟩⟩
        have t0 : Boxed (((W2.drew.setCell ⟨b, 0, none⟩ (.int .i64 2)).setCell ⟨b + 1, 0, none⟩ (.slice A T.length cc)).setCell ⟨b + 1 + 1, 0, none⟩ (.int .i64 0)) b 3 _ := ((p0.set _).other (by omega) _).other (by omega) _
        have t1 : Boxed (((W2.drew.setCell ⟨b, 0, none⟩ (.int .i64 2)).setCell ⟨b + 1, 0, none⟩ (.slice A T.length cc)).setCell ⟨b + 1 + 1, 0, none⟩ (.int .i64 0)) (b + 1) 22 _ := ((p1.other (by omega) _).set _).other (by omega) _
        have t2 : Boxed (((W2.drew.setCell ⟨b, 0, none⟩ (.int .i64 2)).setCell ⟨b + 1, 0, none⟩ (.slice A T.length cc)).setCell ⟨b + 1 + 1, 0, none⟩ (.int .i64 0)) (b + 2) 25 (.int .i64 0) := ((p2.other (by omega) _).other (by omega) _).set _
        have tb := ((hB2.setCell (p := ⟨b, 0, none⟩) (Nat.le_refl _) (.int .i64 2)).setCell (p := ⟨b + 1, 0, none⟩) (by show b ≤ b + 1; omega) (.slice A T.length cc)).setCell (p := ⟨b + 1 + 1, 0, none⟩) (by show b ≤ b + 1 + 1; omega) (.int .i64 0)
        have tr0 := hrow3.kept (grownBy_setCell' W2.drew b (.int .i64 2)) (.inr (p0.not_row (by decide) hrow3).symm)
        have tr1 := tr0.kept (grownBy_setCell' (W2.drew.setCell ⟨b, 0, none⟩ (.int .i64 2)) (b + 1) (.slice A T.length cc)) (.inr (p1.not_row (by decide) hrow3).symm)
        have tr := tr1.kept (grownBy_setCell' ((W2.drew.setCell ⟨b, 0, none⟩ (.int .i64 2)).setCell ⟨b + 1, 0, none⟩ (.slice A T.length cc)) (b + 1 + 1) (.int .i64 0)) (.inr (p2.not_row (by decide) hrow3).symm)
        have r0 : D ≠ b := by have := UZZ.out; omega
        have r1 : D ≠ b + 1 := by have := UZZ.out; omega
        have r2 : D ≠ b + 2 := by have := UZZ.out; omega
        exact ⟨_, results_cell3 rfl _ _ _ _ _ _ _ _ rfl rfl rfl (load_cell Tryd.underlying3 rfl ((t0.kept (grownBy_putObj' _ D _) (by simp; omega)).cell)) (load_cell Tryd.underlying22 rfl ((t1.kept (grownBy_putObj' _ D _) (by simp; omega)).cell)) (load_cell Tryd.underlying25 rfl ((t2.kept (grownBy_putObj' _ D _) (by simp; omega)).cell)),
          _, by rw [hgE, h3.1], by rw [h3.2, HBB.out]; simp only [HXL.out]; exact own_lowerW (ownsRow_putObj tr _ tK rfl) (by omega), by rw [HBB.out]; exact tb.trans (belowK_b (w := w) (by have := HBB.out; omega) _ D _ _ (by have := HBB.out; have := UZZ.out; omega) tK rfl rfl)⟩
  case stop =>
    rintro D c pre W hD hpre ⟨rfl, e', he', hB, q0, q1, q2⟩ hK
    obtain ⟨hga, hne⟩ := he' hpre
    have hgE : getE s.data.toList = e' := by unfold getE; rw [if_neg (by rw [HV.out]; simp), HT.out, hga, if_pos hne]
    have h3 : getV s.data.toList = 0 ∧ getL s.data.toList = [] := ⟨by unfold getV; rw [if_neg (by rw [hgE]; exact hne)], by unfold getL; rw [if_neg (by rw [hgE]; exact hne)]⟩
    have HQ := Lib.hid (And.intro hgE h3)
    clear he' hga hgE h3 hne
    gi_wp2
    obtain ⟨hgE, h3⟩ := HQ.out
    have hDW : D < W.heap.size := (Array.getElem?_eq_some_iff.1 hK).1
    have UZ1 := UZ.out
    have r0 : D ≠ b := by omega
    have r1 : D ≠ b + 1 := by omega
    have r2 : D ≠ b + 2 := by omega
    refine ⟨by simp, .inl ⟨_, _, rfl, run_takeDeferred hK, ?_⟩⟩
    exact ⟨_, results_cell3 rfl _ _ _ _ _ _ _ _ rfl rfl rfl (load_cell Tryd.underlying3 rfl ((q0.kept (grownBy_putObj' _ D _) (by simp; omega)).cell)) (load_cell Tryd.underlying22 rfl ((q1.kept (grownBy_putObj' _ D _) (by simp; omega)).cell)) (load_cell Tryd.underlying25 rfl ((q2.kept (grownBy_putObj' _ D _) (by simp; omega)).cell)),
      _, by rw [hgE, h3.1], by rw [h3.2]; exact World.ownsRow_nil _ _ _ _, by rw [HB0.out]; exact hB.trans (belowK_b (w := w) (by have := HB0.out; omega) _ D _ _ (by have := HB0.out; omega) hK rfl rfl)⟩

set_option maxRecDepth 100000 in
set_option maxHeartbeats 4000000 in
theorem wget_bad (s : ByteArray) (w : World) (hv : verE s.data.toList ≠ 0) :
    Calls Tryd.prog 14 #[.string s] w fun e w' => ∃ u, e = .returned (.tuple #[.int .i64 (getV s.data.toList), u, .int .i64 (getE s.data.toList)]) ∧ w'.ownsRow w.heap.size 9 1 u (getL s.data.toList).length ((getL s.data.toList).map Value.string) ∧ Below w.heap.size w w' := by
  have hE : getE s.data.toList = verE s.data.toList := if_pos hv
  have hV : getV s.data.toList = 0 := if_neg (by rw [hE]; exact hv)
  have hL : getL s.data.toList = [] := if_neg (by rw [hE]; exact hv)
  have hver := fun V => version_any s V
  rw [hE, hV, hL]
  obtain ⟨E, hEE⟩ : ∃ E, verE s.data.toList = E := ⟨_, rfl⟩
  obtain ⟨N, hNN⟩ : ∃ N, verN s.data.toList = N := ⟨_, rfl⟩
  rw [hEE, hNN] at hver
  rw [hEE] at hv ⊢
  have d1 : (E != 0) = true := by simpa using hv
  have HVER := Lib.hid hver
  refine (callsIn_wide (n := 6)).1 ?_
  refine callsIn_of_wp_marks Tryd.func14 rfl trivial ?_ rfl
  simp only [Tryd.ntmps14, List.size_toArray, List.length_cons, List.length_nil, Nat.reduceAdd, Nat.reduceSub, Array.replicate_succ, Array.replicate_zero, List.push_toArray, List.append_toArray, List.nil_append, List.cons_append]
  obtain ⟨x0, x1, x2, xb, xz⟩ := box3 w (.int .i64 0) (.slice none 0 0) (.int .i64 0) 3 22 25
  clear hver hE hV hL hEE hNN hv
  gi_wp2_with fail
  generalize ((w.alloc (.cells #[.int .i64 0] 3)).alloc (.cells #[.slice none 0 0] 22)).alloc (.cells #[.int .i64 0] 25) = w1 at *
  refine ⟨trivial, callsIn_wide.2 ((HVER.out _).mono ?_)⟩
  rintro e w1' ⟨rfl, hw1⟩
  rw [hw1]
  clear hw1 HVER
  generalize hb0 : w.heap.size = b at *
  have HB0 := Lib.hid hb0
  clear hb0
  rw [show b + 1 + 1 = b + 2 from rfl] at x2
  have e0 := x0.cell; have f0 := x0.frozen
  have e1 := x1.cell; have f1 := x1.frozen
  have e2 := x2.cell; have f2 := x2.frozen
  have t0 := ((x0.set (.int .i64 0)).other (B' := b + 1) (by omega) (.slice none 0 0)).other (B' := b + 1 + 1) (by omega) (.int .i64 E)
  have t1 := ((x1.other (B' := b) (by omega) (.int .i64 0)).set (.slice none 0 0)).other (B' := b + 1 + 1) (by omega) (.int .i64 E)
  have t2 := ((x2.other (B' := b) (by omega) (.int .i64 0)).other (B' := b + 1) (by omega) (.slice none 0 0)).set (.int .i64 E)
  have tb := ((xb.setCell (p := ⟨b, 0, none⟩) (Nat.le_refl _) (.int .i64 0)).setCell (p := ⟨b + 1, 0, none⟩) (by show b ≤ b + 1; omega) (.slice none 0 0)).setCell (p := ⟨b + 1 + 1, 0, none⟩) (by show b ≤ b + 1 + 1; omega) (.int .i64 E)
  have T0 := Lib.hid t0; have T1 := Lib.hid t1; have T2 := Lib.hid t2; have TB := Lib.hid tb
  clear t0 t1 t2 tb x0 x1 x2 xb
  gi_wp2_with fail
  exact ⟨_, results_cell3 rfl _ _ _ _ _ _ _ _ rfl rfl rfl (load_cell Tryd.underlying3 rfl T0.out.cell) (load_cell Tryd.underlying22 rfl T1.out.cell) (load_cell Tryd.underlying25 rfl T2.out.cell), _, rfl, World.ownsRow_nil _ _ _ _, HB0.out ▸ TB.out⟩
theorem wget_any (s : ByteArray) (hs : s.size ≤ 1000000000000) (w : World) :
    Calls Tryd.prog 14 #[.string s] w fun e w' => ∃ u, e = .returned (.tuple #[.int .i64 (getV s.data.toList), u, .int .i64 (getE s.data.toList)]) ∧ w'.ownsRow w.heap.size 9 1 u (getL s.data.toList).length ((getL s.data.toList).map Value.string) ∧ Below w.heap.size w w' := by
  by_cases hv : verE s.data.toList = 0
  · by_cases hn : verN s.data.toList = 2
    · exact wget_2 s hs w hv hn
    · refine wget_0 s hs w hv ?_
      unfold verN at hn ⊢
      split
      · rename_i h; rw [if_pos h] at hn; exact absurd rfl hn
      · rfl
  · exact wget_bad s w hv
end Go.Proofs.YtdflihfecfmpfaaDoor
