/- The word of bytes (word.Parse). -/
import Derived.Test.YtmlkjackopiekaaDoorUnfx
namespace Go.Proofs.YtmlkjackopiekaaDoor
open Go.RowKit Go.Shelf
set_option linter.unusedVariables false
set_option linter.unusedSimpArgs false

/-- the word that is read -/
def parseC (l : List UInt8) : Array Value := #[.int .u64 (parseP l 0 : Nat), .int .u64 (parseP l 1 : Nat), .int .u64 (parseP l 2 : Nat), .int .u64 (parseP l 3 : Nat)]
theorem parseC_bad {l : List UInt8} {E : Int} (h : parseE l = E) (h0 : E ≠ 0) : parseC l = #[.int .u64 0, .int .u64 0, .int .u64 0, .int .u64 0] := by
  have : ∀ q, parseP l q = 0 := fun q => if_neg (by rw [h]; exact h0)
  unfold parseC
  rw [this, this, this, this]; rfl
theorem parseC_good {l : List UInt8} (h : parseE l = 0) : parseC l = wordC (beV l) := by
  have : ∀ q, parseP l q = wp (beV l) q := fun q => if_pos h
  unfold parseC wordC
  rw [this, this, this, this]
theorem prefix_zero (l : List UInt8) : Lib.hasPrefix l [0] = decide (l.head? = some 0) := by
  cases l with
  | nil => rfl
  | cons a l =>
    show ((0 : UInt8) == a && List.isPrefixOf [] l) = _
    by_cases h : a = 0
    · subst h; simp
    · rw [decide_eq_false (by intro e; injection e with e; exact h e)]
      have : ((0 : UInt8) == a) = false := by rw [beq_eq_false_iff_ne]; exact fun e => h e.symm
      rw [this]; rfl

set_option maxRecDepth 100000 in
set_option maxHeartbeats 2000000 in
theorem parse_any (S : ByteArray) (hs : S.size ≤ 9223372036854775807) (w : World) :
    Calls Tryd.prog 38 #[.string S] w fun e w' => e = .returned (.tuple #[.agg (parseC S.data.toList), .int .i64 (parseE S.data.toList)]) ∧ w.grownBy w' none := by
  obtain ⟨l, hl⟩ : ∃ l, S.data.toList = l := ⟨_, rfl⟩
  have hlz : l.length = S.size := by rw [← hl, Array.length_toList]; rfl
  have hpre := fun V => hasPrefix_any S ⟨#[0]⟩ V
  rw [hl] at hpre ⊢
  have hpz : Lib.hasPrefix l [0] = decide (l.head? = some 0) := prefix_zero l
  have HS := Lib.hid hl
  clear hl
  have hB := Blk.new w 24 #[.int .u64 0, .int .u64 0, .int .u64 0, .int .u64 0]
  have hG := only_alloc (World.grownBy.refl w none) (.cells #[.int .u64 0, .int .u64 0, .int .u64 0, .int .u64 0] 24)
  have set4 : ∀ {V : World} (h : w.grownBy V none) (a c d e : Value), w.grownBy ((((V.setCell ⟨w.heap.size, 0, none⟩ a).setCell ⟨w.heap.size, 1, none⟩ c).setCell ⟨w.heap.size, 2, none⟩ d).setCell ⟨w.heap.size, 3, none⟩ e) none := fun h a c d e =>
    only_set (only_set (only_set (only_set h (p := ⟨w.heap.size, 0, none⟩) (Nat.le_refl _) a) (p := ⟨w.heap.size, 1, none⟩) (Nat.le_refl _) c) (p := ⟨w.heap.size, 2, none⟩) (Nat.le_refl _) d) (p := ⟨w.heap.size, 3, none⟩) (Nat.le_refl _) e
  by_cases h1 : 32 < S.size
  · have hE : parseE l = 5 := if_pos (by omega)
    rw [hE, parseC_bad hE (by decide)]
    have d1 : (32 : Int) < (S.size : Int) := by omega
    have HG2 := Lib.hid hG
    have HB2 := Lib.hid hB
    have c0 := hB.cell 0; have c1 := hB.cell 1; have c2 := hB.cell 2; have c3 := hB.cell 3
    have d0 := hB.frozen 0; have d1' := hB.frozen 1; have d2 := hB.frozen 2; have d3 := hB.frozen 3
    simp only [List.getElem?_toArray, List.getElem?_cons_zero, List.getElem?_cons_succ] at c0 c1 c2 c3
    clear hE hpre hpz hB hG set4
    go_enter Tryd.func38, Tryd.ntmps38
    go_wp2_with fail
    refine bodyPost_ret (results_cv (fn := Tryd.f38) rfl _ _ _ _ rfl (load_word HB2.out)) rfl ?_
    exact ⟨rfl, HG2.out⟩
  have d1 : decide ((32 : Int) < (S.size : Int)) = false := decide_eq_false (by omega)
  by_cases h2 : l.head? = some 0
  · have hE : parseE l = 8 := by unfold parseE; rw [if_neg (by omega), if_pos h2]
    rw [hE, parseC_bad hE (by decide)]
    rw [decide_eq_true h2] at hpz
    have HP : Hid (∀ V, Calls Tryd.prog 56 #[.string S, .string ⟨#[0]⟩] V fun e w' => e = .returned (.bool true) ∧ w' = V) := Lib.hid fun V => by
      have := hpre V
      rw [show (ByteArray.mk #[0]).data.toList = [0] from rfl, hpz] at this
      exact this
    have HG2 := Lib.hid hG
    have HB2 := Lib.hid hB
    have c0 := hB.cell 0; have c1 := hB.cell 1; have c2 := hB.cell 2; have c3 := hB.cell 3
    have d0 := hB.frozen 0; have d1' := hB.frozen 1; have d2 := hB.frozen 2; have d3 := hB.frozen 3
    simp only [List.getElem?_toArray, List.getElem?_cons_zero, List.getElem?_cons_succ] at c0 c1 c2 c3
    clear hE hpre hpz hB hG set4 h2
    go_enter Tryd.func38, Tryd.ntmps38
    go_wp2_with fail
    refine (HP.out _).mono ?_
    rintro e w2 ⟨rfl, rfl⟩
    go_wp2_with fail
    refine bodyPost_ret (results_cv (fn := Tryd.f38) rfl _ _ _ _ rfl (load_word HB2.out)) rfl ?_
    exact ⟨rfl, HG2.out⟩
  · have hE : parseE l = 0 := by unfold parseE; rw [if_neg (by omega), if_neg h2]
    rw [hE, parseC_good hE]
    rw [decide_eq_false h2] at hpz
    have HP : Hid (∀ V, Calls Tryd.prog 56 #[.string S, .string ⟨#[0]⟩] V fun e w' => e = .returned (.bool false) ∧ w' = V) := Lib.hid fun V => by
      have := hpre V
      rw [show (ByteArray.mk #[0]).data.toList = [0] from rfl, hpz] at this
      exact this
    obtain ⟨k, hk⟩ : ∃ k, 32 - S.size = k := ⟨_, rfl⟩
    obtain ⟨Z, hZ⟩ : ∃ Z : ByteArray, (⟨(zs k).toArray⟩ : ByteArray) = Z := ⟨_, rfl⟩
    have hZl : Z.data.toList = zs k := by rw [← hZ]
    have hZz : Z.size = k := by have := congrArg List.length hZl; rw [Array.length_toList, List.length_replicate] at this; exact this
    have HR : Hid (∀ V, Calls Tryd.prog 58 #[.string ⟨#[0]⟩, .int .i64 (k : Int)] V fun e w' => e = .returned (.string Z) ∧ V.grownBy w' none) := Lib.hid fun V => by
      refine (repeat_any ⟨#[0]⟩ rfl k V (by omega)).mono ?_
      rintro e w' ⟨he, hb⟩
      rw [hZ] at he
      exact ⟨he, grown_of_below hb⟩
    have hsum : (Z ++ S).size = 32 := by
      have := congrArg List.length (ba_toList Z S)
      rw [Array.length_toList, List.length_append, Array.length_toList, Array.length_toList] at this
      have e : (Z ++ S).size = Z.size + S.size := this
      omega
    have hval : beV (Z ++ S).data.toList = beV l := by rw [ba_toList, hZl, HS.out, beV_pad]
    have HU : Hid (∀ V, Calls Tryd.prog 57 #[.string (Z ++ S)] V fun e w' => e = .returned (.tuple #[.agg (wordC (beV l)), .int .i64 0]) ∧ V.grownBy w' none) := Lib.hid fun V => by
      have := unfixed_any (Z ++ S) hsum V
      rw [hval] at this
      exact this
    have v1 : IntKind.i64.wrap (32 - (S.size : Int)) = (k : Int) := by rw [IntWalk.i64_in _ (by omega)]; omega
    have HB := Lib.hid hB; have HG := Lib.hid hG
    have SET := Lib.hid (fun (V : World) h a c d e => @set4 V h a c d e)
    clear hE hpre hpz hB hG set4 h2 hval hsum hZ hZl
    go_enter Tryd.func38, Tryd.ntmps38
    go_wp2_with fail
    refine (HP.out _).mono ?_
    rintro e w2 ⟨rfl, rfl⟩
    go_wp2_with fail
    refine (HR.out _).mono ?_
    rintro e w3 ⟨rfl, hg3⟩
    have HB3 := Lib.hid (HB.out.grown hg3 (by simp)); have HG3 := Lib.hid (grown_self HG.out hg3 (by simp))
    clear hg3 HB HG HR
    go_wp2_with fail
    refine (HU.out _).mono ?_
    rintro e w4 ⟨rfl, hg4⟩
    have hB := HB3.out.grown hg4 (by simp)
    have HG2 := Lib.hid (SET.out w4 (grown_self HG3.out hg4 (by simp)) (.int .u64 (wp (beV l) 0 : Nat)) (.int .u64 (wp (beV l) 1 : Nat)) (.int .u64 (wp (beV l) 2 : Nat)) (.int .u64 (wp (beV l) 3 : Nat)))
    have HB2 := Lib.hid ((((hB.set_ 0 (.int .u64 (wp (beV l) 0 : Nat))).set_ 1 (.int .u64 (wp (beV l) 1 : Nat))).set_ 2 (.int .u64 (wp (beV l) 2 : Nat))).set_ 3 (.int .u64 (wp (beV l) 3 : Nat)))
    have c0 := hB.cell 0; have c1 := hB.cell 1; have c2 := hB.cell 2; have c3 := hB.cell 3
    have d0 := hB.frozen 0; have d1' := hB.frozen 1; have d2 := hB.frozen 2; have d3 := hB.frozen 3
    simp only [List.getElem?_toArray, List.getElem?_cons_zero, List.getElem?_cons_succ] at c0 c1 c2 c3
    clear hg4 HB3 HG3 HU SET hB
    unfold wordC
    go_wp2_with fail
    refine bodyPost_ret (results_cv (fn := Tryd.f38) rfl _ _ _ _ rfl (load_word HB2.out)) rfl ?_
    exact ⟨rfl, HG2.out⟩
end Go.Proofs.YtmlkjackopiekaaDoor
