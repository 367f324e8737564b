/- Package keccak's columns: what it leaves. -/
import Derived.Test.YtihkbhogapopdaaKecA
namespace Go.Proofs.Ytihkbhogapopdaa
open Go.RowKit Go.Shelf
attribute [local go_sem] Oper.semAt_some

def colStep (a c : List (BitVec 64)) (i : Fin 25) : List (BitVec 64) := c.set (i.val % 5) (c.getD (i.val % 5) 0 ^^^ a.getD i.val 0)
def colsOf (a : List (BitVec 64)) (l : List (Fin 25)) : List (BitVec 64) := l.foldl (colStep a) [0, 0, 0, 0, 0]
def mixStep (c a : List (BitVec 64)) (i : Fin 25) : List (BitVec 64) :=
  a.set i.val (a.getD i.val 0 ^^^ (c.getD ((i.val % 5 + 5 - 1) % 5) 0 ^^^ (c.getD ((i.val % 5 + 1) % 5) 0).rotateLeft 1))
def thetaK (a : List (BitVec 64)) : List (BitVec 64) := (List.finRange 25).foldl (mixStep (colsOf a (List.finRange 25))) a
theorem colsOf_len (a : List (BitVec 64)) (l : List (Fin 25)) : (colsOf a l).length = 5 := by
  unfold colsOf
  have : ∀ (l : List (Fin 25)) (c : List (BitVec 64)), (l.foldl (colStep a) c).length = c.length := by
    intro l
    induction l with
    | nil => intro c; rfl
    | cons i l ih => intro c; rw [List.foldl_cons, ih]; simp [colStep]
  rw [this]; rfl
theorem colsOf_snoc (a : List (BitVec 64)) (l : List (Fin 25)) (i : Fin 25) : colsOf a (l ++ [i]) = colStep a (colsOf a l) i := by simp [colsOf]
theorem mix_len (c : List (BitVec 64)) : ∀ (l : List (Fin 25)) (a : List (BitVec 64)), (l.foldl (mixStep c) a).length = a.length := by
  intro l
  induction l with
  | nil => intro a; rfl
  | cons i l ih => intro a; rw [List.foldl_cons, ih]; simp [mixStep]

set_option maxRecDepth 100000 in
set_option maxHeartbeats 2000000 in
theorem columns_any (b : Nat) (a : List (BitVec 64)) (ha : a.length = 25) (w : World) (h : Lanes w b 37 a) :
    Calls Try.prog 25 #[.pointer (some ⟨b, 0, none⟩)] w fun e w' => (∃ v, e = .returned v) ∧ Lanes w' b 37 (thetaK a) ∧ w.grownBy w' (some b) := by
  refine (callsIn_wide (n := 8)).1 ?_
  refine callsIn_of_wp_marks Try.func25 rfl trivial ?_ rfl
  simp only [Try.ntmps25, List.size_toArray, List.length_cons, List.length_nil, Nat.reduceAdd, Nat.reduceSub, Array.replicate_succ, Array.replicate_zero, List.push_toArray, List.append_toArray, List.nil_append, List.cons_append]
  gi_wp2_with fail
  refine ⟨trivial, callsIn_wide.2 ((each_any _).mono ?_)⟩
  rintro e w' ⟨rfl, rfl⟩
  gi_wp2_with fail
  have hbw := h.lt
  have bR := (Boxed.new w 49 (.pointer (some ⟨b, 0, none⟩))).alloc (.cells #[.int .u64 0, .int .u64 0, .int .u64 0, .int .u64 0, .int .u64 0] 48)
  have bC : Lanes ((w.alloc (.cells #[.pointer (some ⟨b, 0, none⟩)] 49)).alloc (.cells #[.int .u64 0, .int .u64 0, .int .u64 0, .int .u64 0, .int .u64 0] 48)) (w.heap.size + 1) 48 (colsOf a []) := by
    have := Blk.new (w.alloc (.cells #[.pointer (some ⟨b, 0, none⟩)] 49)) 48 #[.int .u64 0, .int .u64 0, .int .u64 0, .int .u64 0, .int .u64 0]
    rw [World.size_alloc] at this
    exact this
  have hA := (h.alloc (.cells #[.pointer (some ⟨b, 0, none⟩)] 49)).alloc (.cells #[.int .u64 0, .int .u64 0, .int .u64 0, .int .u64 0, .int .u64 0] 48)
  have hg : w.grownBy ((w.alloc (.cells #[.pointer (some ⟨b, 0, none⟩)] 49)).alloc (.cells #[.int .u64 0, .int .u64 0, .int .u64 0, .int .u64 0, .int .u64 0] 48)) (some b) := only_alloc (only_alloc (World.grownBy.refl _ _) _) _
  have hz : w.heap.size + 2 ≤ ((w.alloc (.cells #[.pointer (some ⟨b, 0, none⟩)] 49)).alloc (.cells #[.int .u64 0, .int .u64 0, .int .u64 0, .int .u64 0, .int .u64 0] 48)).heap.size := by simp
  generalize (w.alloc (.cells #[.pointer (some ⟨b, 0, none⟩)] 49)).alloc (.cells #[.int .u64 0, .int .u64 0, .int .u64 0, .int .u64 0, .int .u64 0] 48) = w1 at *
  refine wpIn_rangeFunc_ownH rfl (by omega) (gf := 29) (lb := #[]) rfl trivial (enters_of Try.func29 (by kernel_rfl) rfl)
    (encs := eachEnc) (S := fun ys => ys = List.finRange 25) (Sp := fun pre => pre <+: List.finRange 25) (N := 25) (w0 := w1) (Kp := fun _ _ => True)
    (fun l J Jx W _ _ _ hY h0 => each1_in 7 (by omega) l J Jx hY W h0)
    (fun _ _ => trivial) (fun _ _ _ _ _ _ _ _ => trivial) (Below.refl _ _) (fun _ => rfl)
    (fun pre W => Lanes W (w.heap.size + 1) 48 (colsOf a pre) ∧ (Lanes W b 37 a ∧ (Boxed W w.heap.size 49 (.pointer (some ⟨b, 0, none⟩)) ∧ w.grownBy W (some b))))
    (fun _ _ _ => False)
    (OwnFrom.and (Own.from (lanes_own _ _ _) _) (OwnFrom.and (Own.from (lanes_own _ _ (fun _ => a)) _) (OwnFrom.and (Own.from (boxed_own _ _ (fun _ => _)) _) (ownFrom_grown (by omega)))))
    (fun _ _ _ _ _ hs _ _ => hs)
    ⟨bC, hA, bR, hg⟩
    (fun x a' W => ∃ Bx, w.heap.size + 1 < Bx ∧ Blk W Bx 52 #[.int .i64 ((x.val : Int) % 5), .int .i64 ((x.val : Int) / 5)] ∧ a' = { tmps := #[.pointer (some ⟨b, 0, none⟩), .pointer (some ⟨w.heap.size, 0, none⟩), .pointer (some ⟨w.heap.size + 1, 0, none⟩), .int .i64 (x.val : Int), .pointer (some ⟨Bx, 0, none⟩), undef, undef, undef, .func (.func 29) #[] #[], .int .i64 (x.val : Int), .agg #[.int .i64 ((x.val : Int) % 5), .int .i64 ((x.val : Int) / 5)], undef, undef, undef, undef, undef, undef, undef, undef, undef, undef, undef, undef, undef, undef, undef, undef, undef, undef, undef, undef, undef, undef, undef, undef, undef, undef, undef, undef, undef, undef, undef, undef, undef, undef, undef, undef, undef], defers := [] })
    ?hAx ?assign ?body ?done ?stop
  case hAx =>
    intro x a' s X Y row hs hg' hr
    obtain ⟨Bx, h1, h2, h3⟩ := hs
    refine ⟨Bx, h1, h2.grown hg' (fun e => ?_), h3⟩
    obtain ⟨_, o, ho, hc⟩ := hr Bx e.symm
    rw [show X.heap[Bx]? = _ from h2] at ho; cases ho; cases hc
  case assign =>
    rintro l pre x W K ⟨hc, ha', hr, hg'⟩ hK
    unfold eachEnc
    gi_wp2
    exact hK _ _ ((KeepsOthers.alloc _ _).from _) trivial ⟨hc.alloc _, ha'.alloc _, hr.alloc _, only_alloc hg' _⟩ ⟨W.heap.size, hc.lt, Blk.new W _ _, rfl⟩
  case body =>
    rintro l pre x a' W hl ⟨r, hr⟩ ⟨hc, ha', hbx, hg'⟩ ⟨Bx, hBx, bX, rfl⟩ hlt
    have x5 : x.val % 5 < 5 := Nat.mod_lt _ (by omega)
    have hxl := x.isLt
    have f1 : W.cell? ⟨Bx, 0, none⟩ = some (.int .i64 ((x.val : Int) % 5)) := bX.cell 0
    have f2 := hbx.cell
    have f3 := hc.cell (i := x.val % 5) (by rw [colsOf_len]; exact x5)
    have f4 := ha'.cell (i := x.val) (by omega)
    have f5 := hc.frozen (x.val % 5)
    have q1 : (0 : Int) ≤ (x.val : Int) % 5 := by omega
    have q2 : (x.val : Int) % 5 < 5 := by omega
    have q3 : ((x.val : Int) % 5).toNat = x.val % 5 := by omega
    have q4 : (x.val : Int) < 25 := by omega
    generalize hcv : (colsOf a pre).getD (x.val % 5) 0 = cv at *
    generalize hav : a.getD x.val 0 = av at *
    have hxx := bx cv av
    gi_wp2
    refine wpIn_tail_round 10 (by kernel_rfl) (by kernel_rfl) rfl (fun _ _ h => h) ?_
    simp only [List.take_succ_cons, List.take_zero, List.drop_succ_cons, List.drop_zero]
    repeat still_step
    try refine wpStill_nil ?_
    go_wp2_with fail
    refine ⟨((KeepsOthers.setCell _ _ _).trans (KeepsOthers.drew _)).from _, trivial, ?_, ?_, ?_, ?_⟩
    · rw [colsOf_snoc]
      unfold colStep
      rw [hcv, hav]
      exact (hc.set (x.val % 5) (cv ^^^ av)).drew
    · exact (ha'.far (p := ⟨w.heap.size + 1, x.val % 5, none⟩) (by show b ≠ w.heap.size + 1; omega) _).drew
    · exact (Blk.far hbx (p := ⟨w.heap.size + 1, x.val % 5, none⟩) (by show w.heap.size ≠ w.heap.size + 1; omega) _)
    · exact only_drew (only_setCell hg' (p := ⟨w.heap.size + 1, x.val % 5, none⟩) (.inr (by show w.heap.size ≤ w.heap.size + 1; omega)) _)
  case stop =>
    rintro D c pre W _ _ h _
    exact h.elim
  case done =>
    rintro D ys W hD rfl ⟨hc, ha', hbx, hg'⟩ hK
    have hDl : D < W.heap.size := (Array.getElem?_eq_some_iff.1 hK).1
    clear bR bC hA hg h
    generalize hcc : colsOf a (List.finRange 25) = cc at *
    have hcl : cc.length = 5 := by rw [← hcc]; exact colsOf_len _ _
    gi_wp2_with fail
    refine ⟨trivial, callsIn_wide.2 ((each_any _).mono ?_)⟩
    rintro e w' ⟨rfl, rfl⟩
    gi_wp2_with fail
    refine wpIn_rangeFunc_ownH rfl (by omega) (gf := 29) (lb := #[]) rfl trivial (enters_of Try.func29 (by kernel_rfl) rfl)
      (encs := eachEnc) (S := fun ys => ys = List.finRange 25) (Sp := fun pre => pre <+: List.finRange 25) (N := 25) (w0 := W) (Kp := fun _ _ => True)
      (fun l J Jx W _ _ _ hY h0 => each1_in 7 (by omega) l J Jx hY W h0)
      (fun _ _ => trivial) (fun _ _ _ _ _ _ _ _ => trivial) (Below.refl _ _) (fun _ => rfl)
      (fun pre W => Lanes W (w.heap.size + 1) 48 cc ∧ (Lanes W b 37 (pre.foldl (mixStep cc) a) ∧ (Boxed W w.heap.size 49 (.pointer (some ⟨b, 0, none⟩)) ∧ (w.grownBy W (some b) ∧ W.heap[D]? = some (.deferred (some []))))))
      (fun _ _ _ => False)
      (OwnFrom.and (Own.from (lanes_own _ _ (fun _ => cc)) _) (OwnFrom.and (Own.from (lanes_own _ _ _) _) (OwnFrom.and (Own.from (boxed_own _ _ (fun _ => _)) _) (OwnFrom.and (ownFrom_grown (by omega)) (ownFrom_obj hDl _)))))
      (fun _ _ _ _ _ hs _ _ => hs)
      ⟨hc, ha', hbx, hg', hK⟩
      (fun x a' W => ∃ Bx, w.heap.size + 1 < Bx ∧ Blk W Bx 52 #[.int .i64 ((x.val : Int) % 5), .int .i64 ((x.val : Int) / 5)] ∧ a' = { tmps := #[.pointer (some ⟨b, 0, none⟩), .pointer (some ⟨w.heap.size, 0, none⟩), .pointer (some ⟨w.heap.size + 1, 0, none⟩), undef, undef, .int .i64 (x.val : Int), .pointer (some ⟨Bx, 0, none⟩), undef, .func (.func 29) #[] #[], undef, undef, undef, undef, undef, undef, undef, undef, undef, undef, undef, undef, undef, .func (.func 29) #[] #[], .int .i64 (x.val : Int), .agg #[.int .i64 ((x.val : Int) % 5), .int .i64 ((x.val : Int) / 5)], undef, undef, undef, undef, undef, undef, undef, undef, undef, undef, undef, undef, undef, undef, undef, undef, undef, undef, undef, undef, undef, undef, undef], defers := [] })
      ?hAx2 ?assign2 ?body2 ?done2 ?stop2
    case hAx2 =>
      intro x a' s X Y row hs hg' hr
      obtain ⟨Bx, h1, h2, h3⟩ := hs
      refine ⟨Bx, h1, h2.grown hg' (fun e => ?_), h3⟩
      obtain ⟨_, o, ho, hc⟩ := hr Bx e.symm
      rw [show X.heap[Bx]? = _ from h2] at ho; cases ho; cases hc
    case assign2 =>
      rintro l pre x W2 K ⟨hc, ha', hr, hg', hK'⟩ hK
      unfold eachEnc
      gi_wp2
      exact hK _ _ ((KeepsOthers.alloc _ _).from _) trivial ⟨hc.alloc _, ha'.alloc _, hr.alloc _, only_alloc hg' _, (Below.heap_alloc _ _ _ (Array.getElem?_eq_some_iff.1 hK').1).trans hK'⟩ ⟨W2.heap.size, hc.lt, Blk.new W2 _ _, rfl⟩
    case stop2 =>
      rintro D c pre W _ _ h _
      exact h.elim
    case body2 =>
      rintro l pre x a' W2 hl ⟨r, hr⟩ ⟨hc2, ha2, hbx2, hg2, hK2⟩ ⟨Bx, hBx, bX, rfl⟩ hlt
      have x5 : x.val % 5 < 5 := Nat.mod_lt _ (by omega)
      have hxl := x.isLt
      have hal : (pre.foldl (mixStep cc) a).length = 25 := by rw [mix_len]; exact ha
      have y1 : (x.val % 5 + 5 - 1) % 5 < 5 := Nat.mod_lt _ (by omega)
      have y2 : (x.val % 5 + 1) % 5 < 5 := Nat.mod_lt _ (by omega)
      have f1 : W2.cell? ⟨Bx, 0, none⟩ = some (.int .i64 ((x.val : Int) % 5)) := bX.cell 0
      have f2 := hbx2.cell
      have f3 := hc2.cell (i := (x.val % 5 + 5 - 1) % 5) (by omega)
      have f4 := hc2.cell (i := (x.val % 5 + 1) % 5) (by omega)
      have f5 := ha2.cell (i := x.val) (by omega)
      have f6 := ha2.frozen x.val
      have q1 : (0 : Int) ≤ (x.val : Int) % 5 := by omega
      have q2 : (x.val : Int) % 5 < 5 := by omega
      have q4 : (x.val : Int) < 25 := by omega
      generalize hv1 : cc.getD ((x.val % 5 + 5 - 1) % 5) 0 = v1 at *
      generalize hv2 : cc.getD ((x.val % 5 + 1) % 5) 0 = v2 at *
      generalize hv3 : (pre.foldl (mixStep cc) a).getD x.val 0 = v3 at *
      have HV1 := Lib.hid hv1; have HV2 := Lib.hid hv2; have HV3 := Lib.hid hv3
      obtain ⟨r1, hr1⟩ : ∃ r, v2.rotateLeft 1 = r := ⟨_, rfl⟩
      obtain ⟨r2, hr2⟩ : ∃ r, v1 ^^^ r1 = r := ⟨_, rfl⟩
      obtain ⟨r3, hr3⟩ : ∃ r, v3 ^^^ r2 = r := ⟨_, rfl⟩
      have hx1 := bx_is v1 r1 r2 hr2
      have hx2 := bx_is v3 r2 r3 hr3
      have HR1 := Lib.hid hr1; have HR2 := Lib.hid hr2; have HR3 := Lib.hid hr3
      clear hv1 hv2 hv3 hr1 hr2 hr3
      obtain ⟨m1, hm1⟩ : ∃ m, (x.val % 5 + 5 - 1) % 5 = m := ⟨_, rfl⟩
      obtain ⟨m2, hm2⟩ : ∃ m, (x.val % 5 + 1) % 5 = m := ⟨_, rfl⟩
      rw [hm1] at f3 y1 HV1
      rw [hm2] at f4 y2 HV2
      have z1 : (m1 : Int) < 5 := by omega
      have z2 : (m2 : Int) < 5 := by omega
      have w1 : IntKind.i64.wrap ((x.val : Int) % 5 + 5) = (x.val : Int) % 5 + 5 := IntWalk.i64_in _ (by omega)
      have w2 : IntKind.i64.wrap ((x.val : Int) % 5 + 5 - 1) = (x.val : Int) % 5 + 5 - 1 := IntWalk.i64_in _ (by omega)
      have w3 : ((x.val : Int) % 5 + 5 - 1).tmod 5 = (m1 : Int) := by rw [Int.tmod_eq_emod_of_nonneg (by omega)]; omega
      have w4 : IntKind.i64.wrap ((x.val : Int) % 5 + 1) = (x.val : Int) % 5 + 1 := IntWalk.i64_in _ (by omega)
      have w5 : ((x.val : Int) % 5 + 1).tmod 5 = (m2 : Int) := by rw [Int.tmod_eq_emod_of_nonneg (by omega)]; omega
      have HM1 := Lib.hid hm1; have HM2 := Lib.hid hm2
      clear hm1 hm2
      gi_wp2
      refine wpIn_tail_round 20 (by kernel_rfl) (by kernel_rfl) rfl (fun _ _ h => h) ?_
      simp only [List.take_succ_cons, List.take_zero, List.drop_succ_cons, List.drop_zero]
      repeat still_step
      still_call (rotl1_same v2 r1 HR1.out _)
      repeat still_step
      refine wpStill_nil ?_
      clear w1 w2 w3 w4 w5
      go_wp2_with fail
      refine ⟨((KeepsOthers.setCell _ _ _).trans (KeepsOthers.drew _)).from _, trivial, ?_, ?_, ?_, ?_, ?_⟩
      · exact (hc2.far (p := ⟨b, x.val, none⟩) (by show w.heap.size + 1 ≠ b; omega) _).drew
      · rw [List.foldl_append, List.foldl_cons, List.foldl_nil]
        have hm : mixStep cc (pre.foldl (mixStep cc) a) x = (pre.foldl (mixStep cc) a).set x.val r3 := by
          unfold mixStep
          rw [HM1.out, HM2.out, HV1.out, HV2.out]
          have hv3 : (List.foldl (mixStep cc) a pre).getD x.val 0 = v3 := HV3.out
          unfold mixStep at hv3
          rw [hv3, HR1.out, HR2.out, HR3.out]
        rw [hm]
        exact (ha2.set x.val r3).drew
      · exact (Blk.far hbx2 (p := ⟨b, x.val, none⟩) (by show w.heap.size ≠ b; omega) _)
      · exact only_drew (only_setCell hg2 (p := ⟨b, x.val, none⟩) (.inl rfl) _)
      · exact (KeepsOthers.setCell _ _ _).same D _ hK2 rfl
    case done2 =>
      rintro D2 ys W2 hD2 rfl ⟨hc2, ha2, hbx2, hg2, hK2⟩ hK3
      gi_wp2_with fail
      have hD2' : D < D2 := by omega
      refine ⟨by simp, .inl ⟨_, _, rfl, run_takeDeferred hK3, ⟨by simp, .inl ⟨_, _, rfl, run_takeDeferred ((World.putObj_heap_other (by omega)).trans hK2), ?_⟩⟩⟩⟩
      have hg3 : w.grownBy ((W2.putObj D2 (.deferred none)).putObj D (.deferred none)) (some b) :=
        grown_self (grown_self hg2 (grownBy_putObj' _ _ _) (fun k e => .inr (by cases e; omega))) (grownBy_putObj' _ _ _) (fun k e => .inr (by cases e; omega))
      refine ⟨_, results_none rfl _ _ _, ⟨_, rfl⟩, ?_, hg3⟩
      unfold thetaK
      rw [hcc]
      exact (ha2.kept (grownBy_putObj' _ _ _) (by simp; omega)).kept (grownBy_putObj' _ _ _) (by simp; omega)
end Go.Proofs.Ytihkbhogapopdaa
