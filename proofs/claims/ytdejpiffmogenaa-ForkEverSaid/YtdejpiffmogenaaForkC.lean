/- Package fork's Active, From, Ever: what they answer. -/
import Derived.Test.YtdejpiffmogenaaForkB
import Derived.RangeFuncNested
import Derived.RangeFuncBound
import Derived.RangeFuncCalls
import Derived.RangeFuncLeaves
import Derived.RangeFuncBox
import Derived.Shelf.Abstract
import Derived.Shelf.RegionOpen
import Derived.OwnWalkIn
import Derived.TacticsInMore
import Derived.LoopNIn
import Derived.LoopIn
namespace Go.Proofs.Ytdejpiffmogenaa
open Go.RowKit Go.Shelf
attribute [local go_sem] Oper.semAt_some

/-! What a round keeps: the blocks of S lie as they lay. -/
structure KeepS (S : Nat → Prop) (W W' : World) : Prop where
  size : W.heap.size ≤ W'.heap.size
  block : ∀ k, S k → W'.heap[k]? = W.heap[k]?
section
variable {S : Nat → Prop} {W W' W'' : World}
theorem KeepS.refl (S : Nat → Prop) (W : World) : KeepS S W W := ⟨Nat.le_refl _, fun _ _ => rfl⟩
theorem KeepS.trans (h : KeepS S W W') (k : KeepS S W' W'') : KeepS S W W'' := ⟨Nat.le_trans h.size k.size, fun i hi => (k.block i hi).trans (h.block i hi)⟩
theorem KeepS.of_below {B : Nat} (h : Below B W W') (hS : ∀ k, S k → k < B) : KeepS S W W' := ⟨h.size, fun k hk => h.block k (hS k hk)⟩
theorem KeepS.drewN (h : KeepS S W W') (n : Nat) : KeepS S W (W'.drewN n) := ⟨h.size, h.block⟩
theorem KeepS.grown (h : KeepS S W W') {row : Option Nat} (hg : W'.grownBy W'' row) (hS : ∀ k, S k → k < W'.heap.size) (hr : ∀ k, row = some k → ¬ S k) : KeepS S W W'' :=
  h.trans ⟨hg.size, fun k hk => hg.block k (hS k hk) (fun e => hr k e.symm hk)⟩
theorem KeepS.setCell (h : KeepS S W W') {p : Addr} (hp : ¬ S p.block) (u : Value) : KeepS S W (W'.setCell p u) :=
  h.trans ⟨by simp [World.setCell], fun k hk => Below.heap_setCell _ _ _ _ (fun e => hp (e ▸ hk))⟩
theorem KeepS.alloc (h : KeepS S W W') (hS : ∀ k, S k → k < W'.heap.size) (o : Obj) : KeepS S W (W'.alloc o) :=
  h.trans ⟨by simp, fun k hk => Below.heap_alloc _ _ _ (hS k hk)⟩
theorem KeepS.cell (h : KeepS S W W') {p : Addr} (hp : S p.block) : W'.cell? p = W.cell? p := World.cell?_of_block (w := W) (h.block p.block hp)
theorem Reads.keepS {B size n : Nat} {A : Option Addr} {xs : List Value} (h : Reads W B size A n xs) (hk : KeepS S W W') (hS : ∀ k, k < B → S k) : Reads W' B size A n xs :=
  h.keep fun _ hp => hk.cell (hS _ hp)
theorem keepS_t (h : KeepS S W W') (k : KeepS S W' W'') : KeepS S W W'' := h.trans k
theorem keepS_b {w : World} (hS : ∀ k, S k → k < w.heap.size) (W : World) (l : Nat) (o o' : Obj) (hl : w.heap.size ≤ l) (_ : W.heap[l]? = some o) (_ : o.isCells = false) (_ : o.isWalk = false) : KeepS S W (W.putObj l o') :=
  ⟨(grownBy_putObj' W l o').size, fun k hk => World.putObj_heap_other (by have := hS k hk; omega)⟩
theorem KeepS.appended {w1 : World} {B : Nat} {v v' : Value} {tmp : Obj} (hS : ∀ k, S k → k < W.heap.size) (hr : ∀ g, v.ownBlock = some g → ¬ S g) (hB : ¬ S B) (hg : (W.alloc tmp).grownBy w1 v.ownBlock) : KeepS S W (w1.setCell ⟨B, 0, none⟩ v') :=
  (((KeepS.refl S W).alloc hS tmp).grown hg (fun k hk => by have := hS k hk; simp; omega) hr).setCell (p := ⟨B, 0, none⟩) hB v'
theorem ownBlock_ge {w : World} {base : Nat} {e : TypeId} {size : Nat} {v : Value} {k : Nat} {xs : List Value} (h : w.ownsRow base e size v k xs) {g : Nat} (hg : v.ownBlock = some g) : base ≤ g := by
  rcases h.2 with ⟨rfl, _⟩ | ⟨g', cap, cur, rfl, hb, _⟩
  · simp [Value.ownBlock] at hg
  · obtain rfl : g' = g := by simpa [Value.ownBlock] using hg
    exact hb
theorem KeepS.appendedBox {w1 : World} {n₀ B Bs : Nat} {ti e : TypeId} {u v v' : Value} {size k : Nat} {xs : List Value} {tmp : Obj} (hn : n₀ ≤ W.heap.size) (hI : Boxed W Bs ti u) (hti : ti ≠ e) (hrow : W.ownsRow n₀ e size v k xs)
    (hB : n₀ ≤ B) (hBs : B ≠ Bs) (hg : (W.alloc tmp).grownBy w1 v.ownBlock) : KeepS (fun k => k < n₀ ∨ k = Bs) W (w1.setCell ⟨B, 0, none⟩ v') ∧ Boxed (w1.setCell ⟨B, 0, none⟩ v') Bs ti u := by
  have hne := hI.not_row hti hrow
  have hk : KeepS (fun k => k < n₀ ∨ k = Bs) W (w1.setCell ⟨B, 0, none⟩ v') := by
    refine KeepS.appended (fun k hk => ?_) (fun g hgb hk => ?_) (by rintro (h | h); omega; exact hBs h) hg
    · rcases hk with hk | rfl
      · omega
      · exact hI.lt
    · rcases hk with hk | rfl
      · have := ownBlock_ge hrow hgb; omega
      · exact hne hgb.symm
  exact ⟨hk, (hk.block Bs (.inr rfl)).trans hI⟩
end

def lastAt (xs : List Int) (k : Nat) : Bool := decide (k + 1 = xs.length) || decide (xs.getD k 0 < xs.getD (k + 1) 0)
def upto {α : Type} (f : Nat → α) (k : Nat) : List α := (List.range k).map f
theorem upto_succ {α : Type} (f : Nat → α) (k : Nat) : upto f (k + 1) = upto f k ++ [f k] := by simp [upto, List.range_succ]
theorem upto_length {α : Type} (f : Nat → α) (k : Nat) : (upto f k).length = k := by simp [upto]
theorem upto_prefix {α : Type} (f : Nat → α) (k n : Nat) (h : k ≤ n) : upto f k <+: upto f n := by
  refine ⟨(List.range' k (n - k)).map f, ?_⟩
  simp only [upto, ← List.map_append]
  congr 1
  rw [List.range_eq_range', List.range_eq_range', show List.range' 0 k ++ List.range' k (n - k) = List.range' 0 (k + (n - k)) from by rw [← List.range'_append]; simp, show k + (n - k) = n by omega]

def pairsOf (xs : List Int) : List (Nat × Bool) := upto (fun k => (k, lastAt xs k)) xs.length

set_option maxRecDepth 100000 in
set_option maxHeartbeats 1000000 in
theorem spans1_in (N : Nat) (hN : 1 ≤ N) (l Bs n₀ n c : Nat) (A : Option Addr) (xs : List Int) (hn : n ≤ 281474976710656) (J Jx : List (Nat × Bool) → World → Prop)
    (hY : ∀ pre x W, J pre W → pre.length < xs.length → YieldAt Fence.wide (N - 1) Try.prog l #[.int .i64 (x.1 : Int), .bool x.2] W fun e W' =>
      (e = .returned (.bool true) ∧ J (pre ++ [x]) W' ∧ KeepS (fun k => k < n₀ ∨ k = Bs) W W') ∨ (e = .returned (.bool false) ∧ Jx (pre ++ [x]) W'))
    (W : World) (hBs : W.cell? ⟨Bs, 0, none⟩ = some (.slice A n c)) (hL : Reads W n₀ 1 A n (xs.map (Value.int .u64))) (h0 : J [] W) :
    CallsIn Fence.wide N Try.prog 22 #[.func (.yield l) #[] #[], .pointer (some ⟨Bs, 0, none⟩)] W fun e W' => (∃ v, e = .returned v) ∧
      ((∃ ys, ys = pairsOf xs ∧ J ys W') ∨ (∃ pre, pre <+: pairsOf xs ∧ Jx pre W')) := by
  have hl : xs.length = n := by simpa using hL.1
  have HL := Lib.hid hl; clear hl
  refine callsIn_of_wp Try.func22 rfl trivial ?_ rfl
  simp only [Try.ntmps22, List.size_toArray, List.length_cons, List.length_nil, Nat.reduceAdd, Nat.reduceSub, Array.replicate_succ, Array.replicate_zero, List.push_toArray, List.append_toArray, List.nil_append, List.cons_append]
  gi_wp2
  gi_loopw [8] (fun i wr => ∃ k : Nat, i = .int .i64 k ∧ k ≤ n ∧ J (upto (fun k => (k, lastAt xs k)) k) wr ∧ KeepS (fun k => k < n₀ ∨ k = Bs) W wr)
    (fun i _ => n - (intOf i).toNat)
  case atStart => exact ⟨0, rfl, Nat.zero_le _, h0, KeepS.refl _ _⟩
  case round =>
    obtain ⟨k, rfl, hk, hJ, hB⟩ := hrel
    have hbox : wr.cell? ⟨Bs, 0, none⟩ = some (.slice A n c) := (hB.cell (p := ⟨Bs, 0, none⟩) (.inr rfl)).trans hBs
    by_cases hlt : k < n
    · obtain ⟨fn, tmps, assign, body, hy, hR⟩ := hY _ (k, lastAt xs k) wr hJ (by rw [upto_length]; have := HL.out; omega)
      dsimp only at hy
      obtain ⟨b, off, rfl, hb, hc⟩ := (hL.keepS hB (fun k hk => .inl hk)).ints hlt
      have hck := hc k hlt
      have hk0 : (0 : Int) ≤ (k : Int) + 1 := by omega
      by_cases hlast : k + 1 = n
      · have hq : lastAt xs k = true := by unfold lastAt; have := HL.out; simp; omega
        rw [hq] at hy
        have ht : ((k : Int) + 1 == (n : Int)) = true := by simp; omega
        have HQ := Lib.hid hq; have HT := Lib.hid hlast
        clear hq hlast hc
        gi_wp2
        refine hR.mono ?_
        rintro e W3 (⟨rfl, hJ3, hk3⟩ | ⟨rfl, hJx3⟩)
        · gi_wp2
          go_roundw
          case rel => exact ⟨k + 1, by simp, by omega, by rw [upto_succ]; exact hJ3, hB.trans hk3⟩
          case measure => simp [intOf]; omega
        · gi_wp2
          refine bodyPost_ret (results_none rfl _ _ _) rfl ?_
          exact ⟨⟨_, rfl⟩, .inr ⟨_, by rw [← upto_succ (fun k => (k, lastAt xs k))]; exact upto_prefix _ _ _ (by have := HL.out; omega), hJx3⟩⟩
      · obtain ⟨q, hq⟩ : ∃ q, lastAt xs k = q := ⟨_, rfl⟩
        have hq2 : q = decide (xs.getD k 0 < xs.getD (k + 1) 0) := by rw [← hq]; unfold lastAt; rw [decide_eq_false (by have := HL.out; omega)]; simp
        rw [hq] at hy
        have ht : ((k : Int) + 1 == (n : Int)) = false := by simp; omega
        have hck1 := hc (k + 1) (by omega)
        have hk1 : (k : Int) + 1 < (n : Int) := by omega
        have hk2 : ((k : Int) + 1).toNat = k + 1 := by omega
        generalize xs.getD k 0 = x0 at *
        generalize xs.getD (k + 1) 0 = x1 at *
        subst hq2
        have HQ := Lib.hid hq; have HT := Lib.hid hlast
        clear hq hlast hc
        gi_wp2
        refine hR.mono ?_
        rintro e W3 (⟨rfl, hJ3, hk3⟩ | ⟨rfl, hJx3⟩)
        · gi_wp2
          go_roundw
          case rel => exact ⟨k + 1, by simp, by omega, by rw [upto_succ]; exact hJ3, hB.trans hk3⟩
          case measure => simp [intOf]; omega
        · gi_wp2
          refine bodyPost_ret (results_none rfl _ _ _) rfl ?_
          exact ⟨⟨_, rfl⟩, .inr ⟨_, by rw [← upto_succ (fun k => (k, lastAt xs k))]; exact upto_prefix _ _ _ (by have := HL.out; omega), hJx3⟩⟩
    · obtain rfl : k = n := by omega
      gi_wp2
      go_end0
      exact ⟨⟨_, rfl⟩, .inl ⟨_, by unfold pairsOf; rw [HL.out], hJ⟩⟩

theorem spans_any (A : Option Addr) (n c : Nat) (w : World) :
    Calls Try.prog 20 #[.agg #[.slice A n c]] w fun e w' => e = .returned (.func (.func 22) #[] #[.pointer (some ⟨w.heap.size, 0, none⟩)]) ∧ w' = w.alloc (.cells #[.slice A n c] 24) := by
  go_enter Try.func20, Try.ntmps20
  go_wp2
  go_ret
  exact ⟨rfl, rfl⟩

theorem info_int : (Try.prog.info? 3).map (fun i => (i.zero, i.size, i.bytes)) = some (some (.int .i64 0), 1, 8) := by kernel_rfl
def evPick (l : List (Nat × Bool)) : List Nat := (l.filter (·.2)).map (·.1)
theorem evPick_hit (l : List (Nat × Bool)) (k : Nat) : evPick (l ++ [(k, true)]) = evPick l ++ [k] := by simp [evPick]
theorem evPick_miss (l : List (Nat × Bool)) (k : Nat) : evPick (l ++ [(k, false)]) = evPick l := by simp [evPick]
theorem evPick_len (l : List (Nat × Bool)) : (evPick l).length ≤ l.length := by simp [evPick, List.length_filter_le]
theorem Boxed.below {W W' : World} {B : Nat} {t : TypeId} {v : Value} (h : Boxed W B t v) (hb : Below W.heap.size W W') : Boxed W' B t v := (hb.block B h.lt).trans h
def iv (k : Nat) : Value := .int .i64 (k : Int)
def everOf (xs : List Int) : List Nat := if ck xs = 0 then evPick (pairsOf xs) else []

set_option maxRecDepth 100000 in
set_option maxHeartbeats 2000000 in
theorem ever_any (B : Nat) (A : Option Addr) (n c : Nat) (xs : List Int) (w : World) (hB : B ≤ w.heap.size) (hh : Reads w B 1 A n (xs.map (Value.int .u64))) :
    Calls Try.prog 15 #[.agg #[.slice A n c]] w fun e w' => ∃ v, e = .returned v ∧ w'.ownsRow w.heap.size 3 1 v (everOf xs).length ((everOf xs).map iv) ∧ Below w.heap.size w w' := by
  have hl : xs.length = n := by simpa using hh.1
  have h := hh.more hB
  clear hh
  have HL := Lib.hid hl; clear hl
  obtain ⟨i0, hi, hz0, hz1, hz2⟩ := info_parts info_int
  refine (callsIn_wide (n := 5)).1 ?_
  refine callsIn_of_wp_marks Try.func15 rfl trivial ?_ rfl
  simp only [Try.ntmps15, List.size_toArray, List.length_cons, List.length_nil, Nat.reduceAdd, Nat.reduceSub, Array.replicate_succ, Array.replicate_zero, List.push_toArray, List.append_toArray, List.nil_append, List.cons_append]
  gi_wp2_with fail
  have hz : ((w.alloc (.cells #[.slice A n c] 24)).alloc (.cells #[.slice none 0 0] 34)).heap.size = w.heap.size + 2 := by simp
  have bS := (Boxed.new w 24 (.slice A n c)).alloc (.cells #[.slice none 0 0] 34)
  have bO := Boxed.new (w.alloc (.cells #[.slice A n c] 24)) 34 (.slice none 0 0)
  rw [World.size_alloc] at bO
  have hr2 := (h.alloc (Nat.le_refl _) (.cells #[.slice A n c] 24)).alloc (by simp) (.cells #[.slice none 0 0] 34)
  have hb2 : Below w.heap.size w ((w.alloc (.cells #[.slice A n c] 24)).alloc (.cells #[.slice none 0 0] 34)) := ((Below.refl _ w).alloc (Nat.le_refl _) _).alloc (by simp) _
  refine ⟨trivial, callsIn_wide.2 ((check_any _ _ _ _ xs _ (by simp; omega) hr2).mono ?_)⟩
  generalize (w.alloc (.cells #[.slice A n c] 24)).alloc (.cells #[.slice none 0 0] 34) = w2 at *
  rintro e w3 ⟨rfl, hb3⟩
  have hz3 := hb3.size
  have bS3 := Boxed.below bS hb3
  have bO3 := Boxed.below bO hb3
  have hr3 := hr2.below (hb3.mono (by omega))
  have hb4 := hb2.trans (hb3.mono (by omega))
  clear bS bO hr2 hb2 hb3 h
  have cS := bS3.cell
  by_cases hck : ck xs = 0
  · have hn6 : n ≤ 6 := by
      have hl := HL.out
      unfold ck at hck
      split at hck
      · omega
      · omega
    have he : everOf xs = evPick (pairsOf xs) := by unfold everOf; rw [if_pos hck]
    rw [hck]
    have HE := Lib.hid he; have HCK := Lib.hid hck; clear he hck
    gi_wp2_with fail
    refine ⟨trivial, callsIn_wide.2 ((spans_any _ _ _ _).mono ?_)⟩
    rintro e w' ⟨rfl, rfl⟩
    gi_wp2_with fail
    have bI := Boxed.new w3 24 (.slice A n c)
    have hS : ∀ k, (k < w.heap.size ∨ k = w3.heap.size) → k < (w3.alloc (.cells #[.slice A n c] 24)).heap.size := by intro k hk; simp; omega
    refine wpIn_rangeFunc_ownG rfl (by omega) (gf := 22) (lb := #[.pointer (some ⟨w3.heap.size, 0, none⟩)]) rfl trivial (enters_of Try.func22 (by kernel_rfl) rfl)
      (encs := fun x : Nat × Bool => #[.int .i64 (x.1 : Int), .bool x.2]) (S := fun ys => ys = pairsOf xs) (Sp := fun pre => pre <+: pairsOf xs) (N := xs.length) (w0 := w3.alloc (.cells #[.slice A n c] 24)) (Kp := KeepS (fun k => k < w.heap.size ∨ k = w3.heap.size))
      (fun l J Jx W hW _ _ hY h0 => spans1_in 4 (by omega) l w3.heap.size w.heap.size n c A xs (by omega) J Jx hY W ((hW.cell (p := ⟨w3.heap.size, 0, none⟩) (by simp)).trans bI.cell) ((hr3.alloc (by omega) _).keep fun p hp => hW.cell (p := p) (by simp; omega)) h0)
      keepS_t (keepS_b hS) (Below.refl _ _) (fun _ => rfl)
      (fun pre W => (∃ v, Boxed W (w.heap.size + 1) 34 v ∧ W.ownsRow w.heap.size 3 1 v (evPick pre).length ((evPick pre).map iv) ∧ True) ∧ (Below w.heap.size w W ∧ Boxed W w3.heap.size 24 (.slice A n c)))
      (fun _ _ _ => False)
      ?hI
      (fun _ _ _ _ _ hs _ _ => hs)
      ⟨⟨_, bO3.alloc _, World.ownsRow_nil _ _ _ _, trivial⟩, hb4.alloc (by omega) _, bI⟩
      (fun x => { tmps := #[.agg #[.slice A n c], .pointer (some ⟨w.heap.size, 0, none⟩), .slice none 0 0, .pointer (some ⟨w.heap.size + 1, 0, none⟩), .int .i64 (x.1 : Int), .bool x.2, .agg #[.slice A n c], .int .i64 0, .bool false, .agg #[.slice A n c], .func (.func 22) #[] #[.pointer (some ⟨w3.heap.size, 0, none⟩)], .int .i64 (x.1 : Int), .bool x.2, undef, undef, undef, undef, undef, undef], defers := [] }) ?assign ?body ?done ?stop
    case hI => exact OwnFrom.and (Own.from (holdsRow_own w.heap.size (w.heap.size + 1) 34 3 1 (fun pre => (evPick pre).length) (fun pre => (evPick pre).map iv) (fun _ _ => True)) _) (OwnFrom.and (ownFrom_below (Nat.le_refl _) (by simp; omega)) (Own.from (boxed_own _ _ (fun _ => _)) _))
    case assign =>
      intro l x W K hK
      gi_wp2
      exact hK
    case body =>
      rintro l pre ⟨x, y⟩ W ⟨⟨v, hv, hrow, _⟩, hB, hI⟩ hlt
      have hc := hv.cell
      have hpl := evPick_len pre
      have hlw : w3.heap.size < W.heap.size := hI.lt
      have hle : xs.length ≤ 6 := by rw [HL.out]; exact hn6
      cases y
      · gi_wp2
        exact ⟨KeepsFrom.refl _ _, KeepS.refl _ _, ⟨v, hv, by rw [evPick_miss]; exact hrow, trivial⟩, hB, hI⟩
      · gi_wp2_with (gi_at_builtin; refine wpListIn_append_own _ rfl _ _ 34 rfl w.heap.size 3 i0 (.int .i64 0) 1 8 Try.underlying34 hi hz0 hz1 hz2 rfl (by decide) _ _ _ rfl (hrow.alloc _) ⟨W.heap.size, 0, none⟩ 1 1 [.int .i64 (x : Int)] rfl rfl (cell_one_new _ _ _) (by simp [Value.oneCell']) (by simp only [maxLen]; omega) (by omega) (by have := hB.size; simp; omega) ?_; intro v' w1 hown' hgrow _; obtain ⟨g', cap', rfl⟩ := ownsRow_succ hown'; obtain ⟨hv1, hv2, hr2, hk2, hb2⟩ := hv.appended (by decide) hrow hB.size (by omega) hown' hgrow; have hc1 := hv1.cell; have hf1 := hv1.frozen)
        obtain ⟨hk5, hI5⟩ := KeepS.appendedBox (v' := .slice (some ⟨g', 0, none⟩) ((evPick pre).length + 1) cap') hB.size hI (by decide) hrow (B := w.heap.size + 1) (by omega) (by omega) hgrow
        exact ⟨hk2.from _, hk5, ⟨_, hv2, by rw [evPick_hit]; simpa [iv] using hr2, trivial⟩, hB.trans hb2, hI5⟩
    case done =>
      rintro D ys W hD rfl ⟨⟨v, hv, hrow, _⟩, hB, _⟩ hK
      have hc := hv.cell
      gi_wp2
      refine ⟨by simp, .inl ⟨_, _, rfl, run_takeDeferred hK, ?_⟩⟩
      exact ⟨_, results_tmp rfl _ _ _, v, rfl, by rw [HE.out]; exact ownsRow_putObj hrow _ hK rfl, hB.trans (belowK_b (w := w) (Nat.le_refl _) W D _ _ (by simp at hD; omega) hK rfl rfl)⟩
    case stop =>
      rintro D c pre W _ _ h _
      exact h.elim
  · have he : everOf xs = [] := by unfold everOf; rw [if_neg hck]
    have hne : (ck xs == 0) = false := by simpa using hck
    have HE := Lib.hid he; clear he hck
    gi_wp2_with fail
    exact ⟨_, results_tmp rfl _ _ _, _, rfl, by rw [HE.out]; exact World.ownsRow_nil _ _ _ _, hb4⟩
end Go.Proofs.Ytdejpiffmogenaa
