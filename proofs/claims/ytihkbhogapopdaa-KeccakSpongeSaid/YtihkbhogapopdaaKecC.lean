/- Package keccak's round: what it leaves. -/
import Derived.Test.YtihkbhogapopdaaKecB
namespace Go.Proofs.Ytihkbhogapopdaa
open Go.RowKit Go.Shelf
attribute [local go_sem] Oper.semAt_some

def rhoAt (i : Fin 25) : Nat := i.val / 5 + 5 * ((2 * (i.val % 5) + 3 * (i.val / 5)) % 5)
def rhoStep (by_ : List Nat) (a b : List (BitVec 64)) (i : Fin 25) : List (BitVec 64) := b.set (rhoAt i) ((a.getD i.val 0).rotateLeft (by_.getD i.val 0))
def rhoOf (by_ : List Nat) (a : List (BitVec 64)) (l : List (Fin 25)) : List (BitVec 64) := l.foldl (rhoStep by_ a) (List.replicate 25 0)
def chiStep (b a : List (BitVec 64)) (i : Fin 25) : List (BitVec 64) :=
  a.set i.val (b.getD i.val 0 ^^^ (~~~ b.getD (i.val - i.val % 5 + (i.val % 5 + 1) % 5) 0 &&& b.getD (i.val - i.val % 5 + (i.val % 5 + 2) % 5) 0))
def chiK (b a : List (BitVec 64)) : List (BitVec 64) := (List.finRange 25).foldl (chiStep b) a
def roundK (by_ : List Nat) (a : List (BitVec 64)) (n : BitVec 64) : List (BitVec 64) :=
  let t := thetaK a
  let c := chiK (rhoOf by_ t (List.finRange 25)) t
  c.set 0 (c.getD 0 0 ^^^ n)
theorem rhoOf_len (by_ : List Nat) (a : List (BitVec 64)) (l : List (Fin 25)) : (rhoOf by_ a l).length = 25 := by
  unfold rhoOf
  have : ∀ (l : List (Fin 25)) (c : List (BitVec 64)), (l.foldl (rhoStep by_ a) c).length = c.length := by
    intro l
    induction l with
    | nil => intro c; rfl
    | cons i l ih => intro c; rw [List.foldl_cons, ih]; simp [rhoStep]
  rw [this]; simp
theorem rhoOf_snoc (by_ : List Nat) (a : List (BitVec 64)) (l : List (Fin 25)) (i : Fin 25) : rhoOf by_ a (l ++ [i]) = rhoStep by_ a (rhoOf by_ a l) i := by simp [rhoOf]
theorem chi_len (b : List (BitVec 64)) : ∀ (l : List (Fin 25)) (a : List (BitVec 64)), (l.foldl (chiStep b) a).length = a.length := by
  intro l
  induction l with
  | nil => intro a; rfl
  | cons i l ih => intro a; rw [List.foldl_cons, ih]; simp [chiStep]
theorem thetaK_len (a : List (BitVec 64)) : (thetaK a).length = a.length := by unfold thetaK; exact mix_len _ _ _
theorem roundK_len (by_ : List Nat) (a : List (BitVec 64)) (n : BitVec 64) : (roundK by_ a n).length = a.length := by
  unfold roundK chiK
  simp only [List.length_set, chi_len, thetaK_len]

/-- whole numbers in a block -/
def intsV (l : List Nat) : Array Value := (l.map fun k : Nat => Value.int .i64 (k : Int)).toArray
theorem ints_cell {W : World} {b : Nat} {t : TypeId} {l : List Nat} (h : Blk W b t (intsV l)) {i : Nat} (hi : i < l.length) : W.cell? ⟨b, i, none⟩ = some (.int .i64 ((l.getD i 0 : Nat) : Int)) := by
  rw [Blk.cell h i]
  unfold intsV
  simp only [List.getElem?_toArray, List.getElem?_map, List.getElem?_eq_getElem hi, List.getD_eq_getElem?_getD]
  rfl
theorem blk_own {β : Type} (b : Nat) (t : TypeId) (f : β → Array Value) : Own (fun s W => Blk W b t (f s)) := fun s X Y row hs hg hrow =>
  hs.grown hg (fun e => by
    obtain ⟨o, ho, hc⟩ := hrow b e.symm
    rw [show X.heap[b]? = _ from hs] at ho; cases ho; cases hc)
theorem bn (x z : BitVec 64) (h : ~~~ x = z) : bits .xor .u64 (if IntKind.u64.signed = true then -1 else IntKind.u64.max) (x.toNat : Int) = (z.toNat : Int) := by
  have e : (if IntKind.u64.signed = true then -1 else IntKind.u64.max) = ((BitVec.allOnes 64).toNat : Int) := by decide
  rw [e, bx, BitVec.allOnes_xor, h]
theorem lanes_zero (W : World) : Lanes (W.alloc (.cells #[.int .u64 0, .int .u64 0, .int .u64 0, .int .u64 0, .int .u64 0, .int .u64 0, .int .u64 0, .int .u64 0, .int .u64 0, .int .u64 0, .int .u64 0, .int .u64 0, .int .u64 0, .int .u64 0, .int .u64 0, .int .u64 0, .int .u64 0, .int .u64 0, .int .u64 0, .int .u64 0, .int .u64 0, .int .u64 0, .int .u64 0, .int .u64 0, .int .u64 0] 37)) W.heap.size 37 (List.replicate 25 0) := Blk.new W _ _

set_option maxRecDepth 100000 in
set_option maxHeartbeats 4000000 in
theorem round_any (b : Nat) (a : List (BitVec 64)) (n : BitVec 64) (by_ : List Nat) (ha : a.length = 25) (hby : by_.length = 25) (hb64 : ∀ k ∈ by_, k < 64) (w : World) (h : Lanes w b 37 a) :
    Calls Try.prog 21 #[.pointer (some ⟨b, 0, none⟩), .int .u64 (n.toNat : Int), .agg (intsV by_)] w fun e w' => (∃ v, e = .returned v) ∧ Lanes w' b 37 (roundK by_ a n) ∧ w.grownBy w' (some b) := by
  refine (callsIn_wide (n := 8)).1 ?_
  refine callsIn_of_wp_marks Try.func21 rfl trivial ?_ rfl
  simp only [Try.ntmps21, List.size_toArray, List.length_cons, List.length_nil, Nat.reduceAdd, Nat.reduceSub, Array.replicate_succ, Array.replicate_zero, List.push_toArray, List.append_toArray, List.nil_append, List.cons_append]
  have hbw := h.lt
  generalize hbv : intsV by_ = bv at *
  gi_wp2_with fail
  have h1 : Lanes ((w.alloc (.cells #[.pointer (some ⟨b, 0, none⟩)] 49)).alloc (.cells bv 38)) b 37 a := (h.alloc _).alloc _
  refine ⟨trivial, callsIn_wide.2 ((columns_any b a ha _ h1).mono ?_)⟩
  rintro e w1 ⟨⟨v, rfl⟩, h2, hg1⟩
  have bR := (Boxed.new w 49 (.pointer (some ⟨b, 0, none⟩))).alloc (.cells bv 38)
  have bY := Blk.new (w.alloc (.cells #[.pointer (some ⟨b, 0, none⟩)] 49)) 38 bv
  rw [World.size_alloc] at bY
  have bR1 := bR.kept hg1 (by simp; omega)
  have bY1 := bY.grown hg1 (by simp; omega)
  have hg2 : w.grownBy w1 (some b) := grown_self (only_alloc (only_alloc (World.grownBy.refl _ _) _) _) hg1 (fun k e => .inl e)
  have hz1 : w.heap.size + 2 ≤ w1.heap.size := by have := hg1.size; simp at this; omega
  clear bR bY hg1 h1 h
  gi_wp2_with fail
  have bB := lanes_zero w1
  have h3 := h2.alloc (.cells #[.int .u64 0, .int .u64 0, .int .u64 0, .int .u64 0, .int .u64 0, .int .u64 0, .int .u64 0, .int .u64 0, .int .u64 0, .int .u64 0, .int .u64 0, .int .u64 0, .int .u64 0, .int .u64 0, .int .u64 0, .int .u64 0, .int .u64 0, .int .u64 0, .int .u64 0, .int .u64 0, .int .u64 0, .int .u64 0, .int .u64 0, .int .u64 0, .int .u64 0] 37)
  have bR2 := bR1.alloc (.cells #[.int .u64 0, .int .u64 0, .int .u64 0, .int .u64 0, .int .u64 0, .int .u64 0, .int .u64 0, .int .u64 0, .int .u64 0, .int .u64 0, .int .u64 0, .int .u64 0, .int .u64 0, .int .u64 0, .int .u64 0, .int .u64 0, .int .u64 0, .int .u64 0, .int .u64 0, .int .u64 0, .int .u64 0, .int .u64 0, .int .u64 0, .int .u64 0, .int .u64 0] 37)
  have bY2 := bY1.alloc (.cells #[.int .u64 0, .int .u64 0, .int .u64 0, .int .u64 0, .int .u64 0, .int .u64 0, .int .u64 0, .int .u64 0, .int .u64 0, .int .u64 0, .int .u64 0, .int .u64 0, .int .u64 0, .int .u64 0, .int .u64 0, .int .u64 0, .int .u64 0, .int .u64 0, .int .u64 0, .int .u64 0, .int .u64 0, .int .u64 0, .int .u64 0, .int .u64 0, .int .u64 0] 37)
  have hg3 := only_alloc hg2 (.cells #[.int .u64 0, .int .u64 0, .int .u64 0, .int .u64 0, .int .u64 0, .int .u64 0, .int .u64 0, .int .u64 0, .int .u64 0, .int .u64 0, .int .u64 0, .int .u64 0, .int .u64 0, .int .u64 0, .int .u64 0, .int .u64 0, .int .u64 0, .int .u64 0, .int .u64 0, .int .u64 0, .int .u64 0, .int .u64 0, .int .u64 0, .int .u64 0, .int .u64 0] 37)
  have hz2 : w1.heap.size + 1 ≤ (w1.alloc (.cells #[.int .u64 0, .int .u64 0, .int .u64 0, .int .u64 0, .int .u64 0, .int .u64 0, .int .u64 0, .int .u64 0, .int .u64 0, .int .u64 0, .int .u64 0, .int .u64 0, .int .u64 0, .int .u64 0, .int .u64 0, .int .u64 0, .int .u64 0, .int .u64 0, .int .u64 0, .int .u64 0, .int .u64 0, .int .u64 0, .int .u64 0, .int .u64 0, .int .u64 0] 37)).heap.size := by simp
  refine ⟨trivial, callsIn_wide.2 ((each_any _).mono ?_)⟩
  rintro e w' ⟨rfl, rfl⟩
  have hbw1 : b < w1.heap.size := by omega
  have htl : (thetaK a).length = 25 := by rw [thetaK_len]; exact ha
  generalize htt : thetaK a = t at *
  generalize w1.alloc (.cells #[.int .u64 0, .int .u64 0, .int .u64 0, .int .u64 0, .int .u64 0, .int .u64 0, .int .u64 0, .int .u64 0, .int .u64 0, .int .u64 0, .int .u64 0, .int .u64 0, .int .u64 0, .int .u64 0, .int .u64 0, .int .u64 0, .int .u64 0, .int .u64 0, .int .u64 0, .int .u64 0, .int .u64 0, .int .u64 0, .int .u64 0, .int .u64 0, .int .u64 0] 37) = w2 at *
  clear bR1 bY1 hg2 h2
  gi_wp2_with fail
  refine wpIn_rangeFunc_ownH rfl (by omega) (gf := 29) (lb := #[]) rfl trivial (enters_of Try.func29 (by kernel_rfl) rfl)
    (encs := eachEnc) (S := fun ys => ys = List.finRange 25) (Sp := fun pre => pre <+: List.finRange 25) (N := 25) (w0 := w2) (Kp := fun _ _ => True)
    (fun l J Jx W _ _ _ hY h0 => each1_in 7 (by omega) l J Jx hY W h0)
    (fun _ _ => trivial) (fun _ _ _ _ _ _ _ _ => trivial) (Below.refl _ _) (fun _ => rfl)
    (fun pre W => Lanes W w1.heap.size 37 (rhoOf by_ t pre) ∧ (Lanes W b 37 t ∧ (Boxed W w.heap.size 49 (.pointer (some ⟨b, 0, none⟩)) ∧ (Blk W (w.heap.size + 1) 38 bv ∧ w.grownBy W (some b)))))
    (fun _ _ _ => False)
    (OwnFrom.and (Own.from (lanes_own _ _ _) _) (OwnFrom.and (Own.from (lanes_own _ _ (fun _ => t)) _) (OwnFrom.and (Own.from (boxed_own _ _ (fun _ => _)) _) (OwnFrom.and (Own.from (blk_own _ _ (fun _ => bv)) _) (ownFrom_grown (by omega))))))
    (fun _ _ _ _ _ hs _ _ => hs)
    ⟨bB, h3, bR2, bY2, hg3⟩
    (fun x a' W => ∃ Bx, w1.heap.size < Bx ∧ Blk W Bx 52 #[.int .i64 ((x.val : Int) % 5), .int .i64 ((x.val : Int) / 5)] ∧ a' = { tmps := #[.pointer (some ⟨b, 0, none⟩), .int .u64 (n.toNat : Int), .agg bv, .pointer (some ⟨w.heap.size, 0, none⟩), undef, .pointer (some ⟨w.heap.size + 1, 0, none⟩), .pointer (some ⟨w1.heap.size, 0, none⟩), .int .i64 (x.val : Int), .pointer (some ⟨Bx, 0, none⟩), undef, undef, undef, undef, undef, undef, .pointer (some ⟨b, 0, none⟩), v, .func (.func 29) #[] #[], .int .i64 (x.val : Int), .agg #[.int .i64 ((x.val : Int) % 5), .int .i64 ((x.val : Int) / 5)], undef, undef, undef, undef, undef, undef, undef, undef, undef, undef, undef, undef, undef, undef, undef, undef, undef, undef, undef, undef, undef, undef, undef, undef, undef, undef, undef, undef, undef, undef, undef, undef, undef, undef, undef, undef, undef, undef, undef, undef, undef, undef, undef, undef, undef, undef, undef, undef, undef, undef, undef, undef, undef, undef, undef, undef, undef, undef, undef, undef, undef, undef, undef, undef], defers := [] })
    ?hAx ?assign ?body ?done ?stop
  case hAx =>
      intro x a' s X Y row hs hg' hr
      obtain ⟨Bx, h1, h2, h3⟩ := hs
      refine ⟨Bx, h1, h2.grown hg' (fun e => ?_), h3⟩
      obtain ⟨_, o, ho, hc⟩ := hr Bx e.symm
      rw [show X.heap[Bx]? = _ from h2] at ho; cases ho; cases hc
  case assign =>
      rintro l pre x W K ⟨hc, ha', hr, hy, hg'⟩ hK
      unfold eachEnc
      gi_wp2
      exact hK _ _ ((KeepsOthers.alloc _ _).from _) trivial ⟨hc.alloc _, ha'.alloc _, hr.alloc _, hy.alloc _, only_alloc hg' _⟩ ⟨W.heap.size, hc.lt, Blk.new W _ _, rfl⟩
  case stop =>
      rintro D c pre W _ _ h _
      exact h.elim
  case body =>
      rintro l pre x a' W hl ⟨r, hr⟩ ⟨hc, ha', hbx, hyb, hg'⟩ ⟨Bx, hBx, bX, rfl⟩ hlt
      have hxl := x.isLt
      subst hbv
      have f0 : W.cell? ⟨Bx, 0, none⟩ = some (.int .i64 ((x.val : Int) % 5)) := bX.cell 0
      have f1 : W.cell? ⟨Bx, 1, none⟩ = some (.int .i64 ((x.val : Int) / 5)) := bX.cell 1
      have f2 := hbx.cell
      have f3 := ha'.cell (i := x.val) (by omega)
      have f4 := ints_cell hyb (i := x.val) (by omega)
      obtain ⟨k, hk⟩ : ∃ k, by_.getD x.val 0 = k := ⟨_, rfl⟩
      have hk64 : k < 64 := by
        rw [← hk, List.getD_eq_getElem?_getD, List.getElem?_eq_getElem (by omega)]
        exact hb64 _ (List.getElem_mem _)
      obtain ⟨v1, hv1⟩ : ∃ v, t.getD x.val 0 = v := ⟨_, rfl⟩
      obtain ⟨r1, hr1⟩ : ∃ r, v1.rotateLeft k = r := ⟨_, rfl⟩
      rw [hk] at f4
      rw [hv1] at f3
      have HK := Lib.hid hk; have HV1 := Lib.hid hv1; have HR1 := Lib.hid hr1
      clear hk hv1 hr1
      obtain ⟨m, hm⟩ : ∃ m, (2 * (x.val % 5) + 3 * (x.val / 5)) % 5 = m := ⟨_, rfl⟩
      obtain ⟨q, hq⟩ : ∃ q, x.val / 5 + 5 * m = q := ⟨_, rfl⟩
      have hm5 : m < 5 := by omega
      have hq25 : q < 25 := by omega
      have f5 := hc.frozen q
      have f6 := hc.cell (i := q) (by rw [rhoOf_len]; exact hq25)
      have q25 : (q : Int) < 25 := by omega
      have q4 : (x.val : Int) < 25 := by omega
      have q6 : (0 : Int) ≤ (x.val : Int) := by omega
      obtain ⟨X, hX⟩ : ∃ X : Int, (x.val : Int) % 5 = X := ⟨_, rfl⟩
      obtain ⟨Y, hY⟩ : ∃ Y : Int, (x.val : Int) / 5 = Y := ⟨_, rfl⟩
      have p1 : IntKind.i64.wrap (2 * X) = 2 * X := IntWalk.i64_in _ (by omega)
      have p2 : IntKind.i64.wrap (3 * Y) = 3 * Y := IntWalk.i64_in _ (by omega)
      have p3 : IntKind.i64.wrap (2 * X + 3 * Y) = 2 * X + 3 * Y := IntWalk.i64_in _ (by omega)
      have p4 : (2 * X + 3 * Y).tmod 5 = (m : Int) := by rw [Int.tmod_eq_emod_of_nonneg (by omega)]; omega
      have p5 : IntKind.i64.wrap (5 * (m : Int)) = 5 * (m : Int) := IntWalk.i64_in _ (by omega)
      have p6 : IntKind.i64.wrap (Y + 5 * (m : Int)) = (q : Int) := by rw [IntWalk.i64_in _ (by omega)]; omega
      have HM := Lib.hid hm; have HQ := Lib.hid hq
      rw [hX, hY]
      rw [hX] at f0
      rw [hY] at f1
      clear hm hq hX hY
      gi_wp2
      refine wpIn_quiet_round (by kernel_rfl) (by kernel_rfl) rfl (fun _ _ h => h) ?_
      repeat (quiet_step (fail))
      refine wpQuiet_nil ?_
      intro _ hw'
      obtain ⟨nq, hw'⟩ := hw'
      subst hw'
      have hcq := hc.drewN nq; have haq := ha'.drewN nq
      have hbq : Boxed (W.drewN nq) w.heap.size 49 (.pointer (some ⟨b, 0, none⟩)) := hbx
      have hyq : Blk (W.drewN nq) (w.heap.size + 1) 38 (intsV by_) := hyb
      have hgq := only_drewN hg' nq
      have hkq : KeepsFrom w2.heap.size W (W.drewN nq) := ⟨Nat.le_refl _, fun _ _ _ h _ => h⟩
      have f2q : (W.drewN nq).cell? ⟨w.heap.size, 0, none⟩ = some (.pointer (some ⟨b, 0, none⟩)) := f2
      have f3q : (W.drewN nq).cell? ⟨b, x.val, none⟩ = some (.int .u64 (v1.toNat : Int)) := f3
      have f4q : (W.drewN nq).cell? ⟨w.heap.size + 1, x.val, none⟩ = some (.int .i64 (k : Int)) := f4
      have f5q := hcq.frozen q
      have f6q : (W.drewN nq).cell? ⟨w1.heap.size, q, none⟩ = some (.int .u64 (((rhoOf by_ t pre).getD q 0).toNat : Int)) := f6
      clear f0 f1 f2 f3 f4 f5 f6 hc ha' hbx hyb hg' bX hr
      generalize W.drewN nq = W3 at *
      gi_wp2
      refine wpIn_tail_round 18 (by kernel_rfl) (by kernel_rfl) rfl (fun _ _ h => h) ?_
      simp only [List.take_succ_cons, List.take_zero, List.drop_succ_cons, List.drop_zero]
      repeat still_step
      still_call (rotlk_same v1 r1 k hk64 HR1.out _)
      repeat still_step
      refine wpStill_nil ?_
      clear p1 p2 p3 p4 p5 p6
      go_wp2_with fail
      have hstep : rhoOf by_ t (pre ++ [x]) = (rhoOf by_ t pre).set q r1 := by
        rw [rhoOf_snoc]
        unfold rhoStep rhoAt
        rw [HM.out, HQ.out, HV1.out, HK.out, HR1.out]
      refine ⟨hkq.trans (((KeepsOthers.setCell _ _ _).trans (KeepsOthers.drew _)).from _), trivial, ?_, ?_, ?_, ?_, ?_⟩
      · rw [hstep]
        exact (hcq.set q r1).drew
      · exact (haq.far (p := ⟨w1.heap.size, q, none⟩) (by show b ≠ w1.heap.size; omega) _).drew
      · exact Blk.far hbq (p := ⟨w1.heap.size, q, none⟩) (by show w.heap.size ≠ w1.heap.size; omega) _
      · exact Blk.far hyq (p := ⟨w1.heap.size, q, none⟩) (by show w.heap.size + 1 ≠ w1.heap.size; omega) _
      · exact only_drew (only_setCell hgq (p := ⟨w1.heap.size, q, none⟩) (.inr (by show w.heap.size ≤ w1.heap.size; omega)) _)
  case done =>
    rintro D ys W hD rfl ⟨hc, ha', hbx, _, hg'⟩ hK
    have hDl : D < W.heap.size := (Array.getElem?_eq_some_iff.1 hK).1
    clear bB h3 bR2 bY2 hg3
    generalize hbb : rhoOf by_ t (List.finRange 25) = bb at *
    have hbl : bb.length = 25 := by rw [← hbb]; exact rhoOf_len _ _ _
    gi_wp2_with fail
    refine ⟨trivial, callsIn_wide.2 ((each_any _).mono ?_)⟩
    rintro e w' ⟨rfl, rfl⟩
    gi_wp2_with fail
    refine wpIn_rangeFunc_ownH rfl (by omega) (gf := 29) (lb := #[]) rfl trivial (enters_of Try.func29 (by kernel_rfl) rfl)
      (encs := eachEnc) (S := fun ys => ys = List.finRange 25) (Sp := fun pre => pre <+: List.finRange 25) (N := 25) (w0 := W) (Kp := fun _ _ => True)
      (fun l J Jx W _ _ _ hY h0 => each1_in 7 (by omega) l J Jx hY W h0)
      (fun _ _ => trivial) (fun _ _ _ _ _ _ _ _ => trivial) (Below.refl _ _) (fun _ => rfl)
      (fun pre W => Lanes W w1.heap.size 37 bb ∧ (Lanes W b 37 (pre.foldl (chiStep bb) t) ∧ (Boxed W w.heap.size 49 (.pointer (some ⟨b, 0, none⟩)) ∧ (w.grownBy W (some b) ∧ W.heap[D]? = some (.deferred (some []))))))
      (fun _ _ _ => False)
      (OwnFrom.and (Own.from (lanes_own _ _ (fun _ => bb)) _) (OwnFrom.and (Own.from (lanes_own _ _ _) _) (OwnFrom.and (Own.from (boxed_own _ _ (fun _ => _)) _) (OwnFrom.and (ownFrom_grown (by omega)) (ownFrom_obj hDl _)))))
      (fun _ _ _ _ _ hs _ _ => hs)
      ⟨hc, ha', hbx, hg', hK⟩
      (fun x a' W => ∃ Bx, w1.heap.size < Bx ∧ Blk W Bx 52 #[.int .i64 ((x.val : Int) % 5), .int .i64 ((x.val : Int) / 5)] ∧ a' = { tmps := #[.pointer (some ⟨b, 0, none⟩), .int .u64 (n.toNat : Int), .agg bv, .pointer (some ⟨w.heap.size, 0, none⟩), undef, .pointer (some ⟨w.heap.size + 1, 0, none⟩), .pointer (some ⟨w1.heap.size, 0, none⟩), undef, undef, undef, undef, .int .i64 (x.val : Int), .pointer (some ⟨Bx, 0, none⟩), undef, undef, .pointer (some ⟨b, 0, none⟩), v, .func (.func 29) #[] #[], undef, undef, undef, undef, undef, undef, undef, undef, undef, undef, undef, undef, undef, undef, undef, undef, undef, undef, undef, undef, undef, undef, undef, undef, undef, .func (.func 29) #[] #[], .int .i64 (x.val : Int), .agg #[.int .i64 ((x.val : Int) % 5), .int .i64 ((x.val : Int) / 5)], undef, undef, undef, undef, undef, undef, undef, undef, undef, undef, undef, undef, undef, undef, undef, undef, undef, undef, undef, undef, undef, undef, undef, undef, undef, undef, undef, undef, undef, undef, undef, undef, undef, undef, undef, undef, undef, undef], defers := [] })
      ?hAx2 ?assign2 ?body2 ?done2 ?stop2
    case hAx2 =>
      intro x a' s X Y row hs hg' hr
      obtain ⟨Bx, h1, h2, h3⟩ := hs
      refine ⟨Bx, h1, h2.grown hg' (fun e => ?_), h3⟩
      obtain ⟨_, o, ho, hc⟩ := hr Bx e.symm
      rw [show X.heap[Bx]? = _ from h2] at ho; cases ho; cases hc
    case assign2 =>
      rintro l pre x W2 K ⟨hc, ha', hr, hg', hK'⟩ hK
      unfold eachEnc
      gi_wp2
      exact hK _ _ ((KeepsOthers.alloc _ _).from _) trivial ⟨hc.alloc _, ha'.alloc _, hr.alloc _, only_alloc hg' _, (Below.heap_alloc _ _ _ (Array.getElem?_eq_some_iff.1 hK').1).trans hK'⟩ ⟨W2.heap.size, hc.lt, Blk.new W2 _ _, rfl⟩
    case stop2 =>
      rintro D c pre W _ _ h _
      exact h.elim
    case body2 =>
      rintro l pre x a' W2 hl ⟨r, hr⟩ ⟨hc2, ha2, hbx2, hg2, hK2⟩ ⟨Bx, hBx, bX, rfl⟩ hlt
      have hxl := x.isLt
      have hal : (pre.foldl (chiStep bb) t).length = 25 := by rw [chi_len]; exact htl
      obtain ⟨g1, hg1⟩ : ∃ m, (x.val % 5 + 1) % 5 = m := ⟨_, rfl⟩
      obtain ⟨g2, hg2'⟩ : ∃ m, (x.val % 5 + 2) % 5 = m := ⟨_, rfl⟩
      obtain ⟨m1, hm1⟩ : ∃ m, x.val - x.val % 5 + g1 = m := ⟨_, rfl⟩
      obtain ⟨m2, hm2⟩ : ∃ m, x.val - x.val % 5 + g2 = m := ⟨_, rfl⟩
      have hm1l : m1 < 25 := by omega
      have hm2l : m2 < 25 := by omega
      have f0 : W2.cell? ⟨Bx, 0, none⟩ = some (.int .i64 ((x.val : Int) % 5)) := bX.cell 0
      have f2 := hbx2.cell
      have f3 := hc2.cell (i := x.val) (by omega)
      have f4 := hc2.cell (i := m1) (by omega)
      have f5 := hc2.cell (i := m2) (by omega)
      have f6 := ha2.frozen x.val
      have f7 := ha2.cell (i := x.val) (by omega)
      obtain ⟨v1, hv1⟩ : ∃ v, bb.getD x.val 0 = v := ⟨_, rfl⟩
      obtain ⟨v2, hv2⟩ : ∃ v, bb.getD m1 0 = v := ⟨_, rfl⟩
      obtain ⟨v3, hv3⟩ : ∃ v, bb.getD m2 0 = v := ⟨_, rfl⟩
      obtain ⟨v4, hv4⟩ : ∃ v, (pre.foldl (chiStep bb) t).getD x.val 0 = v := ⟨_, rfl⟩
      rw [hv1] at f3; rw [hv2] at f4; rw [hv3] at f5; rw [hv4] at f7
      obtain ⟨r1, hr1⟩ : ∃ r, ~~~ v2 = r := ⟨_, rfl⟩
      obtain ⟨r2, hr2⟩ : ∃ r, r1 &&& v3 = r := ⟨_, rfl⟩
      obtain ⟨r3, hr3⟩ : ∃ r, v1 ^^^ r2 = r := ⟨_, rfl⟩
      have hx1 := ba_is r1 v3 r2 hr2
      have hx2 := bx_is v1 r2 r3 hr3
      have hx0 := bn v2 r1 hr1
      have HV1 := Lib.hid hv1; have HV2 := Lib.hid hv2; have HV3 := Lib.hid hv3; have HR1 := Lib.hid hr1; have HR2 := Lib.hid hr2; have HR3 := Lib.hid hr3
      clear hv1 hv2 hv3 hv4 hr1 hr2 hr3
      have q4 : (x.val : Int) < 25 := by omega
      have q5 : (m1 : Int) < 25 := by omega
      have q6 : (m2 : Int) < 25 := by omega
      obtain ⟨X, hX⟩ : ∃ X : Int, (x.val : Int) % 5 = X := ⟨_, rfl⟩
      obtain ⟨R, hR⟩ : ∃ R : Int, (x.val : Int) - X = R := ⟨_, rfl⟩
      have p0 : IntKind.i64.wrap ((x.val : Int) - X) = R := by rw [IntWalk.i64_in _ (by omega)]; exact hR
      have p1 : IntKind.i64.wrap (X + 1) = X + 1 := IntWalk.i64_in _ (by omega)
      have p2 : (X + 1).tmod 5 = (g1 : Int) := by rw [Int.tmod_eq_emod_of_nonneg (by omega)]; omega
      have p3 : IntKind.i64.wrap (R + (g1 : Int)) = (m1 : Int) := by rw [IntWalk.i64_in _ (by omega)]; omega
      have p4 : IntKind.i64.wrap (X + 2) = X + 2 := IntWalk.i64_in _ (by omega)
      have p5 : (X + 2).tmod 5 = (g2 : Int) := by rw [Int.tmod_eq_emod_of_nonneg (by omega)]; omega
      have p6 : IntKind.i64.wrap (R + (g2 : Int)) = (m2 : Int) := by rw [IntWalk.i64_in _ (by omega)]; omega
      have HG1 := Lib.hid hg1; have HG2 := Lib.hid hg2'; have HM1 := Lib.hid hm1; have HM2 := Lib.hid hm2
      rw [hX]
      rw [hX] at f0
      clear hg1 hg2' hm1 hm2 hX hR
      gi_wp2
      refine wpIn_quiet_round (by kernel_rfl) (by kernel_rfl) rfl (fun _ _ h => h) ?_
      repeat (quiet_step (fail))
      refine wpQuiet_nil ?_
      intro _ hw'
      obtain ⟨nq, hw'⟩ := hw'
      subst hw'
      have hcq := hc2.drewN nq; have haq := ha2.drewN nq
      have hbq : Boxed (W2.drewN nq) w.heap.size 49 (.pointer (some ⟨b, 0, none⟩)) := hbx2
      have hgq := only_drewN hg2 nq
      have hKq : (W2.drewN nq).heap[D]? = some (.deferred (some [])) := hK2
      have hkq : KeepsFrom W.heap.size W2 (W2.drewN nq) := ⟨Nat.le_refl _, fun _ _ _ h _ => h⟩
      have f2q : (W2.drewN nq).cell? ⟨w.heap.size, 0, none⟩ = some (.pointer (some ⟨b, 0, none⟩)) := f2
      have f3q : (W2.drewN nq).cell? ⟨w1.heap.size, x.val, none⟩ = some (.int .u64 (v1.toNat : Int)) := f3
      have f4q : (W2.drewN nq).cell? ⟨w1.heap.size, m1, none⟩ = some (.int .u64 (v2.toNat : Int)) := f4
      have f5q : (W2.drewN nq).cell? ⟨w1.heap.size, m2, none⟩ = some (.int .u64 (v3.toNat : Int)) := f5
      have f6q := haq.frozen x.val
      have f7q : (W2.drewN nq).cell? ⟨b, x.val, none⟩ = some (.int .u64 (v4.toNat : Int)) := f7
      clear f0 f2 f3 f4 f5 f6 f7 hc2 ha2 hbx2 hg2 hK2 bX hr
      generalize W2.drewN nq = W3 at *
      gi_wp2
      refine wpIn_tail_round 23 (by kernel_rfl) (by kernel_rfl) rfl (fun _ _ h => h) ?_
      simp only [List.take_succ_cons, List.take_zero, List.drop_succ_cons, List.drop_zero]
      repeat still_step
      refine wpStill_nil ?_
      clear p0 p1 p2 p3 p4 p5 p6 hx0 hx1 hx2
      repeat go_step
      have hstep : (pre ++ [x]).foldl (chiStep bb) t = (pre.foldl (chiStep bb) t).set x.val r3 := by
        rw [List.foldl_append, List.foldl_cons, List.foldl_nil]
        generalize pre.foldl (chiStep bb) t = z
        unfold chiStep
        rw [HG1.out, HG2.out, HM1.out, HM2.out, HV1.out, HV2.out, HV3.out, HR1.out, HR2.out, HR3.out]
      refine ⟨hkq.trans (((KeepsOthers.setCell _ _ _).trans (KeepsOthers.drew _)).from _), trivial, ?_, ?_, ?_, ?_, ?_⟩
      · exact (hcq.far (p := ⟨b, x.val, none⟩) (by show w1.heap.size ≠ b; omega) _).drew
      · rw [hstep]
        exact (haq.set x.val r3).drew
      · exact Blk.far hbq (p := ⟨b, x.val, none⟩) (by show w.heap.size ≠ b; omega) _
      · exact only_drew (only_setCell hgq (p := ⟨b, x.val, none⟩) (.inl rfl) _)
      · exact (KeepsOthers.setCell _ _ _).same D _ hKq rfl
    case done2 =>
      rintro D2 ys W2 hD2 rfl ⟨hc2, ha2, hbx2, hg2, hK2⟩ hK3
      have hcl : ((List.finRange 25).foldl (chiStep bb) t).length = 25 := by rw [chi_len]; exact htl
      have f1 := hbx2.cell
      have f2 := ha2.cell (i := 0) (by omega)
      have f3 := ha2.frozen 0
      obtain ⟨v1, hv1⟩ : ∃ v, ((List.finRange 25).foldl (chiStep bb) t).getD 0 0 = v := ⟨_, rfl⟩
      rw [hv1] at f2
      obtain ⟨r1, hr1⟩ : ∃ r, v1 ^^^ n = r := ⟨_, rfl⟩
      have hx1 := bx_is v1 n r1 hr1
      have HV1 := Lib.hid hv1; have HR1 := Lib.hid hr1
      clear hv1 hr1
      gi_wp2_with fail
      refine wpIn_wide.2 ?_
      go_still_tail 7, (by kernel_rfl)
      clear hx1
      repeat go_step
      have hD2' : D < D2 := by omega
      have hK2' := (KeepsOthers.setCell W2 ⟨b, 0, none⟩ (.int .u64 (r1.toNat : Int))).same D _ hK2 rfl
      have hK3' := (KeepsOthers.setCell W2 ⟨b, 0, none⟩ (.int .u64 (r1.toNat : Int))).same D2 _ hK3 rfl
      have hgs : w.grownBy ((W2.setCell ⟨b, 0, none⟩ (.int .u64 (r1.toNat : Int))).drew) (some b) := only_drew (only_setCell hg2 (p := ⟨b, 0, none⟩) (.inl rfl) _)
      have has := (ha2.set 0 r1).drew
      refine ⟨by simp, .inl ⟨_, _, rfl, run_takeDeferred hK3', ⟨by simp, .inl ⟨_, _, rfl, run_takeDeferred ((World.putObj_heap_other (by omega)).trans hK2'), ?_⟩⟩⟩⟩
      have hg3 : w.grownBy ((((W2.setCell ⟨b, 0, none⟩ (.int .u64 (r1.toNat : Int))).drew).putObj D2 (.deferred none)).putObj D (.deferred none)) (some b) :=
        grown_self (grown_self hgs (grownBy_putObj' _ _ _) (fun k e => .inr (by cases e; omega))) (grownBy_putObj' _ _ _) (fun k e => .inr (by cases e; omega))
      refine ⟨_, results_none rfl _ _ _, ⟨_, rfl⟩, ?_, hg3⟩
      have hfin : roundK by_ a n = ((List.finRange 25).foldl (chiStep bb) t).set 0 r1 := by
        unfold roundK chiK
        simp only [htt, hbb]
        rw [HV1.out, HR1.out]
      rw [hfin]
      exact (has.kept (grownBy_putObj' _ _ _) (by simp; omega)).kept (grownBy_putObj' _ _ _) (by simp; omega)
end Go.Proofs.Ytihkbhogapopdaa
