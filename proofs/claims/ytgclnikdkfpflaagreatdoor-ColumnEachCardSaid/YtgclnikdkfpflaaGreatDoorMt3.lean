/- Merged: Unfx, Prs, WEq, Tree, RlpA, RlpB, One, FldA, FldB, FldC, FldD. -/
import Derived.Test.YtgclnikdkfpflaaGreatDoorMt1
import Derived.Test.YtgclnikdkfpflaaGreatDoorMt2
import Derived.StillTailTactics
import Derived.Laws.StructEq
namespace Go.Proofs.YtgclnikdkfpflaaGreatDoor
open Go.RowKit Go.Shelf
open List renaming set_cons_zero → jz, set_cons_succ → js, setIfInBounds_toArray → jb
set_option linter.unusedVariables false
set_option linter.unusedSimpArgs false
set_option maxRecDepth 100000
set_option maxHeartbeats 16000000
theorem results_cv {P : Program} {fn : Func} {p q : Tmp} {t : TypeId} (h : fn.results = #[.cell p t, .tmp q]) (tmps : Array Value) (w : World) (a : Addr) (x : Value) (hp : tmps.getD p undef = .pointer (some a))
  (hx : (loadVar t a).run P w = .ok x w) : (results fn tmps).run P w = .ok (.tuple #[x, tmps.getD q undef]) w := by
 have hp' : tmps[p]?.getD undef = .pointer (some a) := by simpa using hp
 simp [results, h, hp', asAddr, hx]
theorem u64_or_of (a b : Nat) (ha : a < 18446744073709551616) (hb : b < 18446744073709551616) : bits .or .u64 (a : Int) (b : Int) = ((a ||| b : Nat) : Int) := by
 have hx : a ||| b < 2 ^ 64 := Nat.or_lt_two_pow (by omega) (by omega)
 show IntKind.u64.wrap ((BitVec.ofInt 64 (a : Int) ||| BitVec.ofInt 64 (b : Int)).toNat : Int) = _
 rw [BitVec.toNat_or, BitVec.ofInt_natCast, BitVec.ofInt_natCast, BitVec.toNat_ofNat, BitVec.toNat_ofNat, Nat.mod_eq_of_lt (by omega), Nat.mod_eq_of_lt (by omega)]
 simp [IntKind.wrap, IntKind.bits, IntKind.signed]
 omega
theorem u64_wrap_of (x : Nat) (h : x < 18446744073709551616) : IntKind.u64.wrap (x : Int) = (x : Int) := by
 simp [IntKind.wrap, IntKind.bits, IntKind.signed]; omega
def wordC (N : Nat) : Array Value := #[.int .u64 (wp N 0 : Nat), .int .u64 (wp N 1 : Nat), .int .u64 (wp N 2 : Nat), .int .u64 (wp N 3 : Nat)]
theorem wordC_cell {w : World} {g : Nat} {t : TypeId} {N : Nat} (h : Blk w g t (wordC N)) (q : Nat) (hq : q < 4) : w.cell? ⟨g, q, none⟩ = some (.int .u64 ((wp N q : Nat) : Int)) := by
 rw [h.cell]
 have : q = 0 ∨ q = 1 ∨ q = 2 ∨ q = 3 := by omega
 rcases this with rfl | rfl | rfl | rfl <;> rfl
theorem wordC_step (l : List UInt8) (m : Nat) (h : m < l.length) (hm : m < 32) : (wordC (lowN l m)).setIfInBounds (m / 8) (.int .u64 (wp (lowN l (m + 1)) (m / 8) : Nat)) = wordC (lowN l (m + 1)) := by
 have e : ∀ q, q ≠ m / 8 → wp (lowN l (m + 1)) q = wp (lowN l m) q := fun q hq => by rw [lowN_step l m q h, if_neg hq]
 have : m / 8 = 0 ∨ m / 8 = 1 ∨ m / 8 = 2 ∨ m / 8 = 3 := by omega
 unfold wordC
 rcases this with hq | hq | hq | hq
 all_goals
  rw [hq]
  rw [hq] at e
 ·rw [e 1 (by omega), e 2 (by omega), e 3 (by omega)]; rfl
 ·rw [e 0 (by omega), e 2 (by omega), e 3 (by omega)]; rfl
 ·rw [e 0 (by omega), e 1 (by omega), e 3 (by omega)]; rfl
 ·rw [e 0 (by omega), e 1 (by omega), e 2 (by omega)]; rfl
theorem unfixed_any (S : ByteArray) (hS : S.size = 32) (w : World) :
  Calls Tryz.prog 84 #[.string S] w fun e w' => e = .returned (.tuple #[.agg (wordC (beV S.data.toList)), .int .i64 0]) ∧ w.grownBy w' none := by
 obtain ⟨l, hl⟩ : ∃ l, S.data.toList = l := ⟨_, rfl⟩
 have hlz : l.length = 32 := by rw [← hl, Array.length_toList]; exact hS
 have hall : lowN l 32 = beV l := by rw [← hlz]; exact lowN_all l
 rw [hl, ← hall]
 have HS := Lib.hid hl
 clear hl hall
 have e0 : ((S.size : Int) != 32) = false := by simp; omega
 have hZ4 : Hid ((#[.int .u64 0, .int .u64 0, .int .u64 0, .int .u64 0] : Array Value) = wordC 0) := Lib.hid (by unfold wordC; rw [wp_zero, wp_zero, wp_zero, wp_zero]; rfl)
 have hB := Blk.new w 38 #[.int .u64 0, .int .u64 0, .int .u64 0, .int .u64 0]
 have hO := Blk.new (w.alloc (.cells #[.int .u64 0, .int .u64 0, .int .u64 0, .int .u64 0] 38)) 38 #[.int .u64 0, .int .u64 0, .int .u64 0, .int .u64 0]
 rw [World.size_alloc] at hO
 have hB := hB.alloc (.cells #[.int .u64 0, .int .u64 0, .int .u64 0, .int .u64 0] 38)
 have hG := only_alloc (only_alloc (World.grownBy.refl w none) (.cells #[.int .u64 0, .int .u64 0, .int .u64 0, .int .u64 0] 38)) (.cells #[.int .u64 0, .int .u64 0, .int .u64 0, .int .u64 0] 38)
 go_enter Tryz.func84, Tryz.ntmps84
 go_upto_region 4 with (fail)
 obtain ⟨b, hb⟩ : ∃ b, w.heap.size = b := ⟨_, rfl⟩
 rw [hb] at hB hO ⊢
 generalize (w.alloc (.cells #[.int .u64 0, .int .u64 0, .int .u64 0, .int .u64 0] 38)).alloc (.cells #[.int .u64 0, .int .u64 0, .int .u64 0, .int .u64 0] 38) = W1 at *
 rw [hZ4.out, ← lowN_zero l] at hO
 clear hZ4
 go_wp2_with fail
 go_loopw [10] (fun i wr => ∃ m : Nat, i = .int .i64 (m : Int) ∧ m ≤ 32 ∧ Blk wr (b + 1) 38 (wordC (lowN l m)) ∧ Blk wr b 38 #[.int .u64 0, .int .u64 0, .int .u64 0, .int .u64 0] ∧ w.grownBy wr none) (fun i _ => 32 - (intOf i).toNat)
 case atStart => exact ⟨0, rfl, by omega, hO, hB, hG⟩
 case round =>
  clear hO hB hG
  obtain ⟨m, rfl, hm, hO, hB, hG⟩ := hrel
  by_cases hlt : m < 32
  ·obtain ⟨q, hq⟩ : ∃ q, m / 8 = q := ⟨_, rfl⟩
   obtain ⟨r8, hr8⟩ : ∃ r, m % 8 = r := ⟨_, rfl⟩
   obtain ⟨r, hr⟩ : ∃ r, r8 * 8 = r := ⟨_, rfl⟩
   obtain ⟨p, hp⟩ : ∃ p, 31 - m = p := ⟨_, rfl⟩
   have hst := wordC_step l m (by omega) hlt
   have hwz := lowN_step l m (m / 8) (by omega)
   rw [if_pos rfl, hr8, hr, hlz, show 32 - 1 - m = p by omega, hq] at hwz
   rw [hq] at hst
   have f2 := wordC_cell hO q (by omega)
   have f3 := hO.frozen q
   have hid := fun W => idx_str S p (l.getD p 0) (by rw [HS.out, List.getD_eq_getElem?_getD, List.getElem?_eq_getElem (by omega)]; rfl) W
   have hzl := wp_lt (lowN l (m + 1)) q
   have hvl := wp_lt (lowN l m) q
   have hrm := wp_room (lowN l m) m (lowN_lt l m)
   rw [hq, hr8, hr] at hrm
   obtain ⟨z, hz⟩ : ∃ z, wp (lowN l (m + 1)) q = z := ⟨_, rfl⟩
   obtain ⟨v, hv⟩ : ∃ v, wp (lowN l m) q = v := ⟨_, rfl⟩
   rw [hv] at hwz f2 hvl hrm
   rw [hz] at hwz hzl hst
   have hch := (l.getD p 0).toNat_lt
   obtain ⟨ch, hch2⟩ : ∃ ch, (l.getD p 0).toNat = ch := ⟨_, rfl⟩
   rw [hch2] at hwz hid hch
   have hadd := wp_or v ch r hrm
   obtain ⟨x, hx⟩ : ∃ x, ch * 2 ^ r = x := ⟨_, rfl⟩
   rw [hx] at hwz hadd
   have p8 : bits .or .u64 (v : Int) (x : Int) = (z : Int) := by rw [u64_or_of v x hvl (by omega), hwz]
   have p5 : IntKind.u64.wrap ((ch : Int) * 2 ^ r) = (x : Int) := by
    have : (ch : Int) * 2 ^ r = (x : Int) := by rw [← hx]; simp
    rw [this, u64_wrap_of x (by omega)]
   have p9 : IntKind.u64.wrap (ch : Int) = (ch : Int) := u64_wrap_of ch (by omega)
   have p1 : (m : Int).tdiv 8 = (q : Int) := by rw [Int.tdiv_eq_ediv_of_nonneg (by omega)]; omega
   have p2 : IntKind.i64.wrap (q : Int) = (q : Int) := IntWalk.i64_in _ (by omega)
   have p3 : (m : Int).tmod 8 = (r8 : Int) := by rw [Int.tmod_eq_emod_of_nonneg (by omega)]; omega
   have p4 : IntKind.i64.wrap ((r8 : Int) * 8) = (r : Int) := by rw [IntWalk.i64_in _ (by omega)]; omega
   have p6 : IntKind.i64.wrap (31 - (m : Int)) = (p : Int) := by rw [IntWalk.i64_in _ (by omega)]; omega
   have p7 : 31 - (m : Int) = (p : Int) := by omega
   have q1 : (q : Int) < 4 := by omega
   have q1' : q < 4 := by omega
   have q2 : (m : Int) < 32 := by omega
   have q3 : r < 64 := by omega
   have q4 : (p : Int) < 32 := by omega
   have q5 : (p : Int) < (S.size : Int) := by omega
   have q6 : p < S.size := by omega
   have p10 : IntKind.i64.wrap (p : Int) = (p : Int) := IntWalk.i64_in _ (by omega)
   have hgx : ((S[p]'q6).toNat : Int) = (ch : Int) := by
    have e2 : S.data[p]? = some (l.getD p 0) := by
     have : S.data.toList[p]? = some (l.getD p 0) := by rw [HS.out, List.getD_eq_getElem?_getD, List.getElem?_eq_getElem (by omega)]; rfl
     simpa using this
    obtain ⟨_, e3⟩ := Array.getElem?_eq_some_iff.1 e2
    have : S[p]'q6 = l.getD p 0 := e3
    rw [this, hch2]
   have HST := Lib.hid hst
   clear hq hr8 hr hst hwz hzl hvl hrm hz hv hch2 hadd hx hp
   have hO2 := hO.set_ q (.int .u64 (z : Int))
   rw [HST.out] at hO2
   go_wp2_with fail
   go_still_tail 15, (by kernel_rfl)
   clear p1 p2 p3 p4 p5 p6 p7 p8 p9 p10 hgx hid
   repeat go_step
   go_roundw
   case rel => exact ⟨m + 1, by go_num, by omega, hO2, hB.far (p := ⟨b + 1, q, none⟩) (by show b ≠ b + 1; omega) _, only_drew (only_set hG (p := ⟨b + 1, q, none⟩) (by show w.heap.size ≤ b + 1; omega) _)⟩
   case measure => simp [intOf]; omega
  ·obtain rfl : m = 32 := by omega
   have hO' := hO
   unfold wordC at hO'
   have c0 := hO'.cell 0; have c1 := hO'.cell 1; have c2 := hO'.cell 2; have c3 := hO'.cell 3
   have d0 := hB.frozen 0; have d1 := hB.frozen 1; have d2 := hB.frozen 2; have d3 := hB.frozen 3
   have x0 := hB.cell 0; have x1 := hB.cell 1; have x2 := hB.cell 2; have x3 := hB.cell 3
   simp only [List.getElem?_toArray, List.getElem?_cons_zero, List.getElem?_cons_succ] at c0 c1 c2 c3 x0 x1 x2 x3
   have hG2 := only_set (only_set (only_set (only_set hG (p := ⟨b, 0, none⟩) (by show w.heap.size ≤ b; omega) (.int .u64 (wp (lowN l 32) 0 : Nat))) (p := ⟨b, 1, none⟩) (by show w.heap.size ≤ b; omega) (.int .u64 (wp (lowN l 32) 1 : Nat))) (p := ⟨b, 2, none⟩) (by show w.heap.size ≤ b; omega) (.int .u64 (wp (lowN l 32) 2 : Nat))) (p := ⟨b, 3, none⟩) (by show w.heap.size ≤ b; omega) (.int .u64 (wp (lowN l 32) 3 : Nat))
   have hB2 := (((hB.set_ 0 (.int .u64 (wp (lowN l 32) 0 : Nat))).set_ 1 (.int .u64 (wp (lowN l 32) 1 : Nat))).set_ 2 (.int .u64 (wp (lowN l 32) 2 : Nat))).set_ 3 (.int .u64 (wp (lowN l 32) 3 : Nat))
   have HG2 := Lib.hid hG2; have HB2 := Lib.hid hB2
   clear hG2 hB2
   go_wp2_with fail
   refine bodyPost_ret (results_cv (fn := Tryz.f84) rfl _ _ _ _ rfl (load_word HB2.out)) rfl ?_
   exact ⟨rfl, HG2.out⟩
def parseC (l : List UInt8) : Array Value := #[.int .u64 (parseP l 0 : Nat), .int .u64 (parseP l 1 : Nat), .int .u64 (parseP l 2 : Nat), .int .u64 (parseP l 3 : Nat)]
theorem parseC_bad {l : List UInt8} {E : Int} (h : parseE l = E) (h0 : E ≠ 0) : parseC l = #[.int .u64 0, .int .u64 0, .int .u64 0, .int .u64 0] := by
 have : ∀ q, parseP l q = 0 := fun q => if_neg (by rw [h]; exact h0)
 unfold parseC
 rw [this, this, this, this]; rfl
theorem parseC_good {l : List UInt8} (h : parseE l = 0) : parseC l = wordC (beV l) := by
 have : ∀ q, parseP l q = wp (beV l) q := fun q => if_pos h
 unfold parseC wordC
 rw [this, this, this, this]
theorem prefix_zero (l : List UInt8) : Lib.hasPrefix l [0] = decide (l.head? = some 0) := by
 cases l with
 | nil => rfl
 | cons a l =>
  show ((0 : UInt8) == a && List.isPrefixOf [] l) = _
  by_cases h : a = 0
  ·subst h; simp
  ·rw [decide_eq_false (by intro e; injection e with e; exact h e)]
   have : ((0 : UInt8) == a) = false := by rw [beq_eq_false_iff_ne]; exact fun e => h e.symm
   rw [this]; rfl
theorem parse_any (S : ByteArray) (hs : S.size ≤ 9223372036854775807) (w : World) :
  Calls Tryz.prog 126 #[.string S] w fun e w' => e = .returned (.tuple #[.agg (parseC S.data.toList), .int .i64 (parseE S.data.toList)]) ∧ w.grownBy w' none := by
 obtain ⟨l, hl⟩ : ∃ l, S.data.toList = l := ⟨_, rfl⟩
 have hlz : l.length = S.size := by rw [← hl, Array.length_toList]; rfl
 have hpre := fun V => hasPrefix_any S ⟨#[0]⟩ V
 rw [hl] at hpre ⊢
 have hpz : Lib.hasPrefix l [0] = decide (l.head? = some 0) := prefix_zero l
 have HS := Lib.hid hl
 clear hl
 have hB := Blk.new w 38 #[.int .u64 0, .int .u64 0, .int .u64 0, .int .u64 0]
 have hG := only_alloc (World.grownBy.refl w none) (.cells #[.int .u64 0, .int .u64 0, .int .u64 0, .int .u64 0] 38)
 have set4 : ∀ {V : World} (h : w.grownBy V none) (a c d e : Value), w.grownBy ((((V.setCell ⟨w.heap.size, 0, none⟩ a).setCell ⟨w.heap.size, 1, none⟩ c).setCell ⟨w.heap.size, 2, none⟩ d).setCell ⟨w.heap.size, 3, none⟩ e) none := fun h a c d e =>
  only_set (only_set (only_set (only_set h (p := ⟨w.heap.size, 0, none⟩) (Nat.le_refl _) a) (p := ⟨w.heap.size, 1, none⟩) (Nat.le_refl _) c) (p := ⟨w.heap.size, 2, none⟩) (Nat.le_refl _) d) (p := ⟨w.heap.size, 3, none⟩) (Nat.le_refl _) e
 by_cases h1 : 32 < S.size
 ·have hE : parseE l = 5 := if_pos (by omega)
  rw [hE, parseC_bad hE (by decide)]
  have d1 : (32 : Int) < (S.size : Int) := by omega
  have HG2 := Lib.hid hG
  have HB2 := Lib.hid hB
  have c0 := hB.cell 0; have c1 := hB.cell 1; have c2 := hB.cell 2; have c3 := hB.cell 3
  have d0 := hB.frozen 0; have d1' := hB.frozen 1; have d2 := hB.frozen 2; have d3 := hB.frozen 3
  simp only [List.getElem?_toArray, List.getElem?_cons_zero, List.getElem?_cons_succ] at c0 c1 c2 c3
  clear hE hpre hpz hB hG set4
  go_enter Tryz.func126, Tryz.ntmps126
  go_wp2_with fail
  refine bodyPost_ret (results_cv (fn := Tryz.f126) rfl _ _ _ _ rfl (load_word HB2.out)) rfl ?_
  exact ⟨rfl, HG2.out⟩
 have d1 : decide ((32 : Int) < (S.size : Int)) = false := decide_eq_false (by omega)
 by_cases h2 : l.head? = some 0
 ·have hE : parseE l = 8 := by unfold parseE; rw [if_neg (by omega), if_pos h2]
  rw [hE, parseC_bad hE (by decide)]
  rw [decide_eq_true h2] at hpz
  have HP : Hid (∀ V, Calls Tryz.prog 155 #[.string S, .string ⟨#[0]⟩] V fun e w' => e = .returned (.bool true) ∧ w' = V) := Lib.hid fun V => by
   have := hpre V
   rw [show (ByteArray.mk #[0]).data.toList = [0] from rfl, hpz] at this
   exact this
  have HG2 := Lib.hid hG
  have HB2 := Lib.hid hB
  have c0 := hB.cell 0; have c1 := hB.cell 1; have c2 := hB.cell 2; have c3 := hB.cell 3
  have d0 := hB.frozen 0; have d1' := hB.frozen 1; have d2 := hB.frozen 2; have d3 := hB.frozen 3
  simp only [List.getElem?_toArray, List.getElem?_cons_zero, List.getElem?_cons_succ] at c0 c1 c2 c3
  clear hE hpre hpz hB hG set4 h2
  go_enter Tryz.func126, Tryz.ntmps126
  go_wp2_with fail
  refine (HP.out _).mono ?_
  rintro e w2 ⟨rfl, rfl⟩
  go_wp2_with fail
  refine bodyPost_ret (results_cv (fn := Tryz.f126) rfl _ _ _ _ rfl (load_word HB2.out)) rfl ?_
  exact ⟨rfl, HG2.out⟩
 ·have hE : parseE l = 0 := by unfold parseE; rw [if_neg (by omega), if_neg h2]
  rw [hE, parseC_good hE]
  rw [decide_eq_false h2] at hpz
  have HP : Hid (∀ V, Calls Tryz.prog 155 #[.string S, .string ⟨#[0]⟩] V fun e w' => e = .returned (.bool false) ∧ w' = V) := Lib.hid fun V => by
   have := hpre V
   rw [show (ByteArray.mk #[0]).data.toList = [0] from rfl, hpz] at this
   exact this
  obtain ⟨k, hk⟩ : ∃ k, 32 - S.size = k := ⟨_, rfl⟩
  obtain ⟨Z, hZ⟩ : ∃ Z : ByteArray, (⟨(zs k).toArray⟩ : ByteArray) = Z := ⟨_, rfl⟩
  have hZl : Z.data.toList = zs k := by rw [← hZ]
  have hZz : Z.size = k := by have := congrArg List.length hZl; rw [Array.length_toList, List.length_replicate] at this; exact this
  have HR : Hid (∀ V, Calls Tryz.prog 156 #[.string ⟨#[0]⟩, .int .i64 (k : Int)] V fun e w' => e = .returned (.string Z) ∧ V.grownBy w' none) := Lib.hid fun V => by
   refine (repeat_any ⟨#[0]⟩ rfl k V (by omega)).mono ?_
   rintro e w' ⟨he, hb⟩
   rw [hZ] at he
   exact ⟨he, grown_of_below hb⟩
  have hsum : (Z ++ S).size = 32 := by
   have := congrArg List.length (ba_toList Z S)
   rw [Array.length_toList, List.length_append, Array.length_toList, Array.length_toList] at this
   have e : (Z ++ S).size = Z.size + S.size := this
   omega
  have hval : beV (Z ++ S).data.toList = beV l := by rw [ba_toList, hZl, HS.out, beV_pad]
  have HU : Hid (∀ V, Calls Tryz.prog 84 #[.string (Z ++ S)] V fun e w' => e = .returned (.tuple #[.agg (wordC (beV l)), .int .i64 0]) ∧ V.grownBy w' none) := Lib.hid fun V => by
   have := unfixed_any (Z ++ S) hsum V
   rw [hval] at this
   exact this
  have v1 : IntKind.i64.wrap (32 - (S.size : Int)) = (k : Int) := by rw [IntWalk.i64_in _ (by omega)]; omega
  have HB := Lib.hid hB; have HG := Lib.hid hG
  have SET := Lib.hid (fun (V : World) h a c d e => @set4 V h a c d e)
  clear hE hpre hpz hB hG set4 h2 hval hsum hZ hZl
  go_enter Tryz.func126, Tryz.ntmps126
  go_wp2_with fail
  refine (HP.out _).mono ?_
  rintro e w2 ⟨rfl, rfl⟩
  go_wp2_with fail
  refine (HR.out _).mono ?_
  rintro e w3 ⟨rfl, hg3⟩
  have HB3 := Lib.hid (HB.out.grown hg3 (by simp)); have HG3 := Lib.hid (grown_self HG.out hg3 (by simp))
  clear hg3 HB HG HR
  go_wp2_with fail
  refine (HU.out _).mono ?_
  rintro e w4 ⟨rfl, hg4⟩
  have hB := HB3.out.grown hg4 (by simp)
  have HG2 := Lib.hid (SET.out w4 (grown_self HG3.out hg4 (by simp)) (.int .u64 (wp (beV l) 0 : Nat)) (.int .u64 (wp (beV l) 1 : Nat)) (.int .u64 (wp (beV l) 2 : Nat)) (.int .u64 (wp (beV l) 3 : Nat)))
  have HB2 := Lib.hid ((((hB.set_ 0 (.int .u64 (wp (beV l) 0 : Nat))).set_ 1 (.int .u64 (wp (beV l) 1 : Nat))).set_ 2 (.int .u64 (wp (beV l) 2 : Nat))).set_ 3 (.int .u64 (wp (beV l) 3 : Nat)))
  have c0 := hB.cell 0; have c1 := hB.cell 1; have c2 := hB.cell 2; have c3 := hB.cell 3
  have d0 := hB.frozen 0; have d1' := hB.frozen 1; have d2 := hB.frozen 2; have d3 := hB.frozen 3
  simp only [List.getElem?_toArray, List.getElem?_cons_zero, List.getElem?_cons_succ] at c0 c1 c2 c3
  clear hg4 HB3 HG3 HU SET hB
  unfold wordC
  go_wp2_with fail
  refine bodyPost_ret (results_cv (fn := Tryz.f126) rfl _ _ _ _ rfl (load_word HB2.out)) rfl ?_
  exact ⟨rfl, HG2.out⟩
def wv (x : Nat) : Value := .int .u64 (x : Int)
theorem all_range_eqN : ∀ (xs ys : List Nat), xs.length = ys.length → ((List.range xs.length).all fun i => xs.getD i 0 == ys.getD i 0) = (xs == ys)
 | [], [], _ => rfl
 | x :: xs, y :: ys, h => by
  have ih := all_range_eqN xs ys (by simpa using h)
  rw [List.length_cons, List.range_succ_eq_map, List.all_cons, List.all_map]
  simp only [List.getD_cons_zero, Function.comp_def, List.getD_cons_succ, ih]
  simp [List.cons_beq_cons]
 | [], _ :: _, h => by simp at h
 | _ :: _, [], h => by simp at h
section
variable {P : Program} (w : World)
theorem run_equalIn_words (d : Nat) (t e : TypeId) (n : Nat) (ht : P.underlying t = some (.array n e)) (he : P.underlying e = some (.int .u64)) (hsz : ∀ w, (sizeOf e).run P w = .ok 1 w)
  (xs ys : List Nat) (hx : xs.length = n) (hy : ys.length = n) :
  (Op.equalIn (d + 2) t (.agg (xs.map wv).toArray) (.agg (ys.map wv).toArray)).run P w = .ok (xs == ys) w := by
 rw [← all_range_eqN xs ys (hx.trans hy.symm), hx, List.range_eq_range', Op.equalIn]
 simp only [Sem.run_bind, run_underlying ht, Result.andThen_ok, hsz, Std.Legacy.Range.forIn_eq_forIn_range', Std.Legacy.Range.size, Nat.sub_zero, Nat.add_sub_cancel, Nat.div_one]
 have hl : ∀ i ∈ List.range' 0 n 1, i < n := fun i hi => by simpa using (List.mem_range'_1.1 hi).2
 generalize List.range' 0 n 1 = l at hl ⊢
 induction l with
 | nil => simp
 | cons i l ih =>
  have hi : i < n := hl i (by simp)
  have px : (part e (xs.map wv).toArray (i * 1)).run P w = .ok (wv (xs.getD i 0)) w := by
   simp [part, isAgg, run_underlying he, List.getD, List.getElem?_eq_getElem (show i < xs.length by omega)]
  have py : (part e (ys.map wv).toArray (i * 1)).run P w = .ok (wv (ys.getD i 0)) w := by
   simp [part, isAgg, run_underlying he, List.getD, List.getElem?_eq_getElem (show i < ys.length by omega)]
  have pe : (Op.equalIn (d + 1) e (wv (xs.getD i 0)) (wv (ys.getD i 0))).run P w = .ok (xs.getD i 0 == ys.getD i 0) w := by
   rw [wv, wv, run_equalIn_int w d e .u64 .u64 _ _ he]
   congr 1
   rw [Bool.eq_iff_iff]
   simp
   omega
  simp only [List.forIn_cons, Sem.run_bind, px, py, pe, Result.andThen_ok, List.all_cons]
  cases hb : (xs.getD i 0 == ys.getD i 0)
  ·simp
  ·simp only [Bool.not_true, Bool.false_eq_true, if_false, Sem.run_pure, Result.andThen_ok, Bool.true_and]
   exact ih fun j hj => hl j (by simp [hj])
end
theorem size_u64w (w : World) : (sizeOf 23).run Tryz.prog w = .ok 1 w := by kernel_rfl
theorem exec_loadW {W : World} {a : Act} {o : Oper} {b off : Nat} {x0 x1 x2 x3 : Value} (x : Operand) (ho : o.op = .load 38 x) (hx : a.eval x = .pointer (some ⟨b, off, none⟩))
  (c0 : W.cell? ⟨b, off, none⟩ = some x0) (c1 : W.cell? ⟨b, off + 1, none⟩ = some x1) (c2 : W.cell? ⟨b, off + 2, none⟩ = some x2) (c3 : W.cell? ⟨b, off + 3, none⟩ = some x3) :
  (execOp a.eval o).run Tryz.prog W = .ok (.value (.agg #[x0, x1, x2, x3])) W := by
 have hagg := Tryz.isAgg38
 have hsz := Tryz.sizeOf38
 unfold execOp
 simp only [ho, hx]
 simp [go_sem, c0, c1, c2, c3, hagg, hsz]
section
variable {P : Program} {ops : Array Oper} {C : World → Prop} {Q : Act → Prop} {a : Act} {o : Oper} {rest : List Oper}
end
inductive Itm where
 | mk (list : Bool) (bytes : ByteArray) (items : List Itm)
def Itm.list : Itm → Bool | .mk l _ _ => l
def Itm.bytes : Itm → ByteArray | .mk _ b _ => b
def Itm.items : Itm → List Itm | .mk _ _ xs => xs
def Itm.none_ : Itm := .mk false .empty []
inductive SubV (S : Nat → Prop) (W : World) : List Itm → Value → Prop
 | mk (xs : List Itm) (A : Option Addr) (c : Nat) (vs : List Value)
   (hr : 0 < xs.length → ∃ b off, A = some ⟨b, off, none⟩ ∧ S b ∧ ∀ i, i < xs.length → W.cell? ⟨b, off + i * 3, none⟩ = some (.bool (xs.getD i Itm.none_).list) ∧ W.cell? ⟨b, off + i * 3 + 1, none⟩ = some (.string (xs.getD i Itm.none_).bytes) ∧ W.cell? ⟨b, off + i * 3 + 2, none⟩ = some (vs.getD i undef))
   (hx : ∀ i, i < xs.length → SubV S W (xs.getD i Itm.none_).items (vs.getD i undef))
   (hcap : xs.length ≤ c := by first | exact Nat.le_refl _ | exact Nat.zero_le _ | simp | omega) : SubV S W xs (.slice A xs.length c)
theorem SubV.keep {S : Nat → Prop} {W W' : World} {xs : List Itm} {v : Value} (h : SubV S W xs v) (hk : ∀ p : Addr, S p.block → ∀ u, W.cell? p = some u → W'.cell? p = some u) : SubV S W' xs v := by
 induction h with
 | mk xs A c vs hr hx hcap ih =>
  refine .mk xs A c vs (fun h0 => ?_) ih hcap
  obtain ⟨b, off, hA, hb, hc⟩ := hr h0
  exact ⟨b, off, hA, hb, fun i hi => ⟨hk ⟨b, _, none⟩ hb _ (hc i hi).1, hk ⟨b, _, none⟩ hb _ (hc i hi).2.1, hk ⟨b, _, none⟩ hb _ (hc i hi).2.2⟩⟩
theorem SubV.weak {S S' : Nat → Prop} {W : World} {xs : List Itm} {v : Value} (h : SubV S W xs v) (hs : ∀ b, S b → S' b) : SubV S' W xs v := by
 induction h with
 | mk xs A c vs hr hx hcap ih =>
  refine .mk xs A c vs (fun h0 => ?_) ih hcap
  obtain ⟨b, off, hA, hb, hc⟩ := hr h0
  exact ⟨b, off, hA, hs b hb, hc⟩
theorem SubV.slice {S : Nat → Prop} {W : World} {xs : List Itm} {v : Value} (h : SubV S W xs v) : ∃ A c, v = .slice A xs.length c := by cases h; exact ⟨_, _, rfl⟩
theorem SubV.cap {S : Nat → Prop} {W : World} {xs : List Itm} {A : Option Addr} {n c : Nat} (h : SubV S W xs (.slice A n c)) : n ≤ c := by cases h; assumption
theorem SubV.one {S : Nat → Prop} {W : World} {xs : List Itm} {v : Value} (h : SubV S W xs v) : v.oneCell' = true := by obtain ⟨A, c, rfl⟩ := h.slice; rfl
theorem SubV.lt {S : Nat → Prop} {W : World} {xs : List Itm} {v : Value} (h : SubV S W xs v) : SubV (fun b => S b ∧ b < W.heap.size) W xs v := by
 induction h with
 | mk xs A c vs hr hx hcap ih =>
  refine .mk xs A c vs (fun h0 => ?_) ih hcap
  obtain ⟨b, off, hA, hb, hc⟩ := hr h0
  refine ⟨b, off, hA, ⟨hb, ?_⟩, hc⟩
  have := (hc 0 h0).1
  rcases Nat.lt_or_ge b W.heap.size with h1 | h1
  ·exact h1
  ·unfold World.cell? at this
   rw [Array.getElem?_eq_none h1] at this
   cases this
def itemsV (xs : List Itm) (vs : List Value) : List Value := (xs.zip vs).flatMap fun p => [.bool p.1.list, .string p.1.bytes, p.2]
theorem itemsV_snoc (xs : List Itm) (vs : List Value) (h : xs.length = vs.length) (x : Itm) (v : Value) : itemsV (xs ++ [x]) (vs ++ [v]) = itemsV xs vs ++ [.bool x.list, .string x.bytes, v] := by
 unfold itemsV
 rw [List.zip_append h, List.flatMap_append]
 rfl
theorem itemsV_get (xs : List Itm) (vs : List Value) (h : xs.length = vs.length) (i : Nat) (hi : i < xs.length) (q : Nat) (hq : q < 3) : (itemsV xs vs)[i * 3 + q]? = [Value.bool (xs.getD i Itm.none_).list, .string (xs.getD i Itm.none_).bytes, vs.getD i undef][q]? := by
 induction xs generalizing vs i with
 | nil => cases hi
 | cons x xs ih =>
  cases vs with
  | nil => cases h
  | cons v vs =>
   have e : itemsV (x :: xs) (v :: vs) = [.bool x.list, .string x.bytes, v] ++ itemsV xs vs := rfl
   rw [e]
   cases i with
   | zero => rw [Nat.zero_mul, Nat.zero_add, List.getElem?_append_left (by simpa using hq)]; rfl
   | succ i =>
    rw [List.getElem?_append_right (by simp; omega), show (i + 1) * 3 + q - [Value.bool x.list, .string x.bytes, v].length = i * 3 + q by simp; omega, ih vs (by simpa using h) i (by simpa using hi)]
    rfl
theorem SubV.of_own {S : Nat → Prop} {W : World} {base c : Nat} {A : Option Addr} {xs : List Itm} {vs : List Value} (hl : xs.length = vs.length) (h : W.ownsRow base 106 3 (.slice A xs.length c) xs.length (itemsV xs vs))
  (hx : ∀ i, i < xs.length → SubV S W (xs.getD i Itm.none_).items (vs.getD i undef)) (hS : ∀ g, (Value.slice A xs.length c).ownBlock = some g → S g) : SubV S W xs (.slice A xs.length c) := by
 refine .mk xs A c vs (fun h0 => ?_) hx (by
  rcases h.2 with ⟨h1, _⟩ | ⟨g, cap, cur, hv, _, _, hn, _⟩
  ·injection h1 with _ h2 h3; omega
  ·injection hv with _ _ h3; omega)
 rcases h.2 with ⟨_, h1⟩ | ⟨g, cap, cur, hv, _, hg, _, _, _, ht⟩
 ·omega
 ·injection hv with hA
  subst hA
  refine ⟨g, 0, rfl, hS g rfl, fun i hi => ?_⟩
  have key : ∀ q, q < 3 → W.cell? ⟨g, 0 + i * 3 + q, none⟩ = (itemsV xs vs)[i * 3 + q]? := by
   intro q hq
   rw [Nat.zero_add, cell_of_row W g (i * 3 + q) cur 106 (0, 0) hg, ← ht, List.getElem?_take_of_lt (by omega)]
   simp
  refine ⟨?_, ?_, ?_⟩
  ·have := key 0 (by omega); rw [itemsV_get xs vs hl i hi 0 (by omega)] at this; exact this
  ·have := key 1 (by omega); rw [itemsV_get xs vs hl i hi 1 (by omega)] at this; exact this
  ·have := key 2 (by omega); rw [itemsV_get xs vs hl i hi 2 (by omega)] at this; exact this
theorem Itm.size_get {x : Itm} {i : Nat} (h : i < x.items.length) : SizeOf.sizeOf (x.items.getD i Itm.none_) < SizeOf.sizeOf x := by
 obtain ⟨l, b, xs⟩ := x
 have h : i < xs.length := h
 have : xs.getD i Itm.none_ ∈ xs := by
  rw [List.getD_eq_getElem?_getD, List.getElem?_eq_getElem h]
  exact List.getElem_mem h
 have := List.sizeOf_lt_of_mem this
 simp only [Itm.items, Itm.mk.sizeOf_spec]
 omega
abbrev SubW (W : World) (xs : List Itm) (v : Value) : Prop := SubV (fun g => g < W.heap.size) W xs v
theorem SubW.grown {W W' : World} {xs : List Itm} {v : Value} (h : SubW W xs v) (hg : W.grownBy W' none) : SubW W' xs v :=
 (h.keep fun p hp u hu => by rw [World.cell?_of_block (w := W) (hg.block p.block hp (by simp))]; exact hu).weak fun g h1 => by have := hg.size; omega
theorem SubV.here {S : Nat → Prop} {W : World} {xs : List Itm} {v : Value} (h : SubV S W xs v) : SubW W xs v := h.lt.weak fun _ h => h.2
theorem SubV.row {S : Nat → Prop} {W : World} {xs : List Itm} {A : Option Addr} {n c : Nat} (h : SubV S W xs (.slice A n c)) : n = xs.length ∧ ∃ vs : List Value, (∀ i, i < xs.length → SubV S W (xs.getD i Itm.none_).items (vs.getD i undef)) ∧
  (0 < xs.length → ∃ b off, A = some ⟨b, off, none⟩ ∧ S b ∧ ∀ i, i < xs.length → W.cell? ⟨b, off + i * 3, none⟩ = some (.bool (xs.getD i Itm.none_).list) ∧ W.cell? ⟨b, off + i * 3 + 1, none⟩ = some (.string (xs.getD i Itm.none_).bytes) ∧ W.cell? ⟨b, off + i * 3 + 2, none⟩ = some (vs.getD i undef)) := by
 cases h with
 | mk xs A c vs hr hx => exact ⟨rfl, vs, hx, hr⟩
inductive Itm.Ok : Itm → Prop
 | mk (l : Bool) (b : ByteArray) (xs : List Itm) (hb : b.size ≤ 9223372036854775807) (hn : xs.length ≤ 9223372036854775807) (h : ∀ i, i < xs.length → Itm.Ok (xs.getD i Itm.none_)) : Itm.Ok (.mk l b xs)
theorem Itm.Ok.bytes {x : Itm} (h : x.Ok) : x.bytes.size ≤ 9223372036854775807 := by cases h; assumption
theorem Itm.Ok.items {x : Itm} (h : x.Ok) : x.items.length ≤ 9223372036854775807 := by cases h; assumption
theorem Itm.Ok.get {x : Itm} (h : x.Ok) : ∀ i, i < x.items.length → (x.items.getD i Itm.none_).Ok := by cases h; assumption
def headL (n base : Nat) : List UInt8 := if n < 56 then [UInt8.ofNat (base + n)] else UInt8.ofNat (base + 55 + (beN n).length) :: beN n
theorem joinP_any (B : Nat) (A : Option Addr) (n c : Nat) (xs : List ByteArray) (w : World) (hB : B ≤ w.heap.size) (h : Reads w B 1 A n (xs.map Value.string)) (hnm : n ≤ 1000000) (hnc : n ≤ c) (hlen : (catB xs).length ≤ 140737488355328) :
  Calls Tryz.prog 170 #[.slice A n c] w fun e w' => e = .returned (.string ⟨(catB xs).toArray⟩) ∧ Below w.heap.size w w' := by
 have hj := join_any B A n c xs w hB h hnm hnc hlen
 have HJ := Lib.hid hj
 clear hj h
 go_enter Tryz.func170, Tryz.ntmps170
 go_wp2_with fail
 refine HJ.out.mono ?_
 rintro e w2 ⟨rfl, hb⟩
 go_wp2_with fail
 go_ret
 exact ⟨rfl, hb⟩
theorem join_two (s t : ByteArray) (w : World) (hlen : s.size + t.size ≤ 140737488355328) :
  Calls Tryz.prog 170 #[.slice (some ⟨w.heap.size, 0, none⟩) 2 2] (w.alloc (.cells #[.string s, .string t] 9)) fun e w' => e = .returned (.string (s ++ t)) ∧ w.grownBy w' none := by
 have hr : Reads (w.alloc (.cells #[.string s, .string t] 9)) (w.heap.size + 1) 1 (some ⟨w.heap.size, 0, none⟩) 2 ([s, t].map Value.string) := reads_blk (heap_alloc_new w _) (by omega) 2 rfl
 have hc : catB [s, t] = (s ++ t).data.toList := by simp [catB]
 refine (joinP_any (w.heap.size + 1) _ 2 2 [s, t] _ (by simp) hr (by omega) (by omega) (by rw [hc]; rw [ba_toList, List.length_append, ba_len, ba_len]; exact hlen)).mono ?_
 rintro e w' ⟨rfl, hb⟩
 refine ⟨by rw [hc], ?_⟩
 exact grown_self (only_alloc (World.grownBy.refl w none) (.cells #[.string s, .string t] 9)) (grown_of_below hb) (by simp)
theorem u8_small (n : Nat) (h : n < 256) : ((UInt8.ofNat n).toNat : Int) = (n : Int) := by
 rw [UInt8.toNat_ofNat']; omega
theorem one_u8 (n : Nat) (h : n < 256) : IntKind.u8.wrap (n : Int) = ((UInt8.ofNat n).toNat : Int) := by
 rw [u8_small n h]
 simp [IntKind.wrap, IntKind.bits, IntKind.signed]; omega
theorem conv_one (w : World) (z : UInt8) : (convert 43 9 (.slice (some ⟨w.heap.size, 0, none⟩) 1 1)).run Tryz.prog (w.alloc (.cells #[.int .u8 (z.toNat : Int)] 5)) = .ok (.string ⟨#[z]⟩) (w.alloc (.cells #[.int .u8 (z.toNat : Int)] 5)) :=
 conv_own (own_new1 w z)
theorem headP_any (n base : Nat) (hn : n ≤ 1000000000) (hb : base ≤ 192) (w : World) :
  Calls Tryz.prog 171 #[.int .i64 (n : Int), .int .i64 (base : Int)] w fun e w' => e = .returned (.string ⟨(headL n base).toArray⟩) ∧ w.grownBy w' none := by
 by_cases h : n < 56
 ·have hh : headL n base = [UInt8.ofNat (base + n)] := if_pos h
  have v1 : IntKind.i64.wrap ((base : Int) + (n : Int)) = (base : Int) + (n : Int) := IntWalk.i64_in _ (by omega)
  have v2 : IntKind.u8.wrap ((base : Int) + (n : Int)) = ((UInt8.ofNat (base + n)).toNat : Int) := by rw [show (base : Int) + (n : Int) = ((base + n : Nat) : Int) by omega]; exact one_u8 _ (by omega)
  have d1 : (n : Int) < 56 := by omega
  have hcv := conv_one w (UInt8.ofNat (base + n))
  have HH := Lib.hid hh
  generalize UInt8.ofNat (base + n) = z at *
  clear hh
  go_enter Tryz.func171, Tryz.ntmps171
  go_wp2_with fail
  go_ret
  exact ⟨by rw [HH.out]; rfl, only_alloc (World.grownBy.refl w none) _⟩
 ·have hh : headL n base = UInt8.ofNat (base + 55 + (beN n).length) :: beN n := if_neg h
  have d1 : decide ((n : Int) < 56) = false := decide_eq_false (by omega)
  have hl := beN_len8 n (by omega)
  have HB := Lib.hid (fun V => be_any n (by omega) V)
  have v0 : IntKind.u64.wrap (n : Int) = (n : Int) := by simp [IntKind.wrap, IntKind.bits, IntKind.signed]; omega
  have v1 : IntKind.i64.wrap ((base : Int) + 56) = (base : Int) + 56 := IntWalk.i64_in _ (by omega)
  have v2 : IntKind.i64.wrap ((base : Int) + 56 - 1) = (base : Int) + 55 := by rw [IntWalk.i64_in _ (by omega)]; omega
  obtain ⟨q, hq⟩ : ∃ q, beN n = q := ⟨_, rfl⟩
  rw [hq] at hh hl HB
  have v3 : IntKind.i64.wrap ((base : Int) + 55 + (q.length : Int)) = (base : Int) + 55 + (q.length : Int) := IntWalk.i64_in _ (by omega)
  have v4 : IntKind.u8.wrap ((base : Int) + 55 + (q.length : Int)) = ((UInt8.ofNat (base + 55 + q.length)).toNat : Int) := by rw [show (base : Int) + 55 + (q.length : Int) = ((base + 55 + q.length : Nat) : Int) by omega]; exact one_u8 _ (by omega)
  have HH := Lib.hid hh
  obtain ⟨z, hz⟩ : ∃ z, UInt8.ofNat (base + 55 + q.length) = z := ⟨_, rfl⟩
  rw [hz] at v4 HH
  have e1 : (base : Int) + 56 - 1 = (base : Int) + 55 := by omega
  clear hh hq hz
  go_enter Tryz.func171, Tryz.ntmps171
  go_wp2_with fail
  refine (HB.out _).mono ?_
  rintro e w2 ⟨rfl, hg⟩
  have hcv := conv_one w2 z
  have hz0 : q.toArray.size = q.length := by simp
  go_wp2_with fail
  have hj := join_two ⟨#[z]⟩ ⟨q.toArray⟩ (w2.alloc (.cells #[.int .u8 (z.toNat : Int)] 5)) (by show 1 + q.toArray.size ≤ _; omega)
  rw [World.size_alloc] at hj
  have hG := only_alloc hg (.cells #[.int .u8 (z.toNat : Int)] 5)
  refine hj.mono ?_
  rintro e w3 ⟨rfl, hg3⟩
  have hG := Lib.hid (grown_self hG hg3 (by simp))
  clear hg hg3 hj hcv
  go_wp2_with fail
  go_ret
  refine ⟨?_, hG.out⟩
  rw [HH.out]
  show Ending.returned (.string (⟨#[z]⟩ ++ ⟨q.toArray⟩)) = _
  congr 2
theorem headed_any (s : ByteArray) (base : Nat) (hs : s.size ≤ 1000000000) (hb : base ≤ 192) (w : World) :
  Calls Tryz.prog 148 #[.string s, .int .i64 (base : Int)] w fun e w' => e = .returned (.string ⟨(headL s.size base ++ s.data.toList).toArray⟩) ∧ w.grownBy w' none := by
 have HH := Lib.hid (fun V => headP_any s.size base hs hb V)
 have hl : (headL s.size base).length ≤ 9 := by
  unfold headL
  have := beN_len8 s.size (by omega)
  split <;> simp; omega
 obtain ⟨q, hq⟩ : ∃ q, headL s.size base = q := ⟨_, rfl⟩
 rw [hq] at HH hl
 have HQ := Lib.hid hq
 clear hq
 go_enter Tryz.func148, Tryz.ntmps148
 go_wp2_with fail
 refine (HH.out _).mono ?_
 rintro e w2 ⟨rfl, hg⟩
 go_wp2_with fail
 have hj := join_two ⟨q.toArray⟩ s w2 (by show q.toArray.size + s.size ≤ _; rw [List.size_toArray]; omega)
 refine hj.mono ?_
 rintro e w3 ⟨rfl, hg3⟩
 have hG := Lib.hid (grown_self hg hg3 (by simp))
 clear hg hg3 hj
 go_wp2_with fail
 go_ret
 refine ⟨?_, hG.out⟩
 rw [HQ.out]
 show Ending.returned (.string (⟨q.toArray⟩ ++ s)) = _
 congr 2
def bytesT (b : ByteArray) : List UInt8 := if b.size = 1 ∧ (b.data.toList.getD 0 0).toNat < 128 then b.data.toList else headL b.size 128 ++ b.data.toList
mutual
def bytesF : Itm → List UInt8
 | .mk l b xs => if l then headL (bytesL xs).length 192 ++ bytesL xs else bytesT b
def bytesL : List Itm → List UInt8
 | [] => []
 | x :: xs => bytesF x ++ bytesL xs
end
mutual
def formF : Itm → Nat → Int
 | .mk l b xs, d => if (l = true ∧ b.size ≠ 0) ∨ (l = false ∧ xs.length ≠ 0) then 2 else if l = false then 0 else if 12 ≤ d then 7 else if 512 < xs.length then 5 else formL xs (d + 1)
def formL : List Itm → Nat → Int
 | [], _ => 0
 | x :: xs, d => if formF x d ≠ 0 then formF x d else formL xs d
end
mutual
def wtF : Itm → Nat
 | .mk l b xs => 10 + b.size + wtL xs
def wtL : List Itm → Nat
 | [] => 0
 | x :: xs => wtF x + wtL xs
end
theorem bytesF_eq (x : Itm) : bytesF x = if x.list then headL (bytesL x.items).length 192 ++ bytesL x.items else bytesT x.bytes := by cases x; rw [bytesF]; rfl
theorem formF_eq (x : Itm) (d : Nat) : formF x d = if (x.list = true ∧ x.bytes.size ≠ 0) ∨ (x.list = false ∧ x.items.length ≠ 0) then 2 else if x.list = false then 0 else if 12 ≤ d then 7 else if 512 < x.items.length then 5 else formL x.items (d + 1) := by cases x; rw [formF]; rfl
theorem wtF_eq (x : Itm) : wtF x = 10 + x.bytes.size + wtL x.items := by cases x; rw [wtF]; rfl
theorem bytesL_snoc (xs : List Itm) (x : Itm) : bytesL (xs ++ [x]) = bytesL xs ++ bytesF x := by
 induction xs with
 | nil => simp [bytesL]
 | cons y xs ih => simp [bytesL, ih]
theorem wtL_append (xs ys : List Itm) : wtL (xs ++ ys) = wtL xs + wtL ys := by
 induction xs with
 | nil => simp [wtL]
 | cons y xs ih => simp [wtL, ih]; omega
theorem take_item {xs : List Itm} {k : Nat} (h : k < xs.length) : xs.take (k + 1) = xs.take k ++ [xs.getD k Itm.none_] := by
 rw [List.take_succ_eq_append_getElem h, List.getD_eq_getElem?_getD, List.getElem?_eq_getElem h]; rfl
theorem item_cut {xs : List Itm} {k : Nat} (h : k < xs.length) : xs = xs.take k ++ xs.getD k Itm.none_ :: xs.drop (k + 1) := by
 have : xs.drop k = xs.getD k Itm.none_ :: xs.drop (k + 1) := by
  rw [List.drop_eq_getElem_cons h, List.getD_eq_getElem?_getD, List.getElem?_eq_getElem h]; rfl
 rw [← this, List.take_append_drop]
theorem wtL_get {xs : List Itm} {k : Nat} (h : k < xs.length) : wtF (xs.getD k Itm.none_) + wtL (xs.take k) ≤ wtL xs := by
 have e := congrArg wtL (item_cut h)
 rw [wtL_append, wtL] at e
 omega
theorem headL_len (n base : Nat) (h : n ≤ 1000000000) : (headL n base).length ≤ 9 ∧ 1 ≤ (headL n base).length := by
 unfold headL
 have := beN_len8 n (by omega)
 split <;> simp <;> omega
theorem bytesT_len (b : ByteArray) (h : b.size ≤ 1000000000) : (bytesT b).length ≤ 9 + b.size := by
 unfold bytesT
 have h2 : b.data.toList.length = b.size := Array.length_toList
 split
 ·omega
 ·rw [List.length_append]; have := (headL_len b.size 128 h).1; omega
mutual
theorem bytesF_len : ∀ x : Itm, wtF x ≤ 1000000000 → (bytesF x).length + 1 ≤ wtF x
 | .mk l b xs, h => by
  rw [wtF] at h ⊢
  rw [bytesF]
  have h1 := bytesL_len xs (by omega)
  split
  ·rw [List.length_append]; have := (headL_len (bytesL xs).length 192 (by omega)).1; omega
  ·have := bytesT_len b (by omega); omega
theorem bytesL_len : ∀ xs : List Itm, wtL xs ≤ 1000000000 → (bytesL xs).length ≤ wtL xs
 | [], _ => by simp [bytesL]
 | x :: xs, h => by
  rw [wtL] at h ⊢
  rw [bytesL, List.length_append]
  have := bytesF_len x (by omega)
  have := bytesL_len xs (by omega)
  omega
end
theorem wt_get {x : Itm} {k : Nat} (h : k < x.items.length) : wtF (x.items.getD k Itm.none_) ≤ wtF x := by
 have := wtL_get h; rw [wtF_eq x]; omega
theorem wtL_take (xs : List Itm) (k : Nat) : wtL (xs.take k) ≤ wtL xs := by
 have := congrArg wtL (List.take_append_drop k xs)
 rw [wtL_append] at this
 omega
theorem wtL_len (xs : List Itm) : 10 * xs.length ≤ wtL xs := by
 induction xs with
 | nil => simp [wtL]
 | cons x xs ih => rw [wtL, wtF_eq]; simp; omega
theorem ok_of_wt (x : Itm) (h : wtF x ≤ 1000000000) : x.Ok := by
 generalize hn : SizeOf.sizeOf x = n
 induction n using Nat.strongRecOn generalizing x with
 | _ n ih =>
  subst hn
  cases x with
  | mk l b xs =>
   have h' := h
   rw [wtF] at h'
   have := wtL_len xs
   exact .mk l b xs (by omega) (by omega) fun i hi => ih _ (Itm.size_get (x := .mk l b xs) hi) _ (Nat.le_trans (wt_get (x := .mk l b xs) hi) h) rfl
theorem BuilderAt.grown_' {T e : TypeId} {B b : Nat} {p : Value} {bs : List Value} {w w' : World} (h : Lib.BuilderAt T e B b p bs w) (hg : w.grownBy w' none) : Lib.BuilderAt T e B b p bs w' := by
 obtain ⟨h1, v, h2, h3, h4⟩ := h
 refine ⟨h1, v, (hg.block b (Array.getElem?_eq_some_iff.1 h2).1 (by simp)).trans h2, h3.kept hg ?_, h4⟩
 rcases h3.2 with ⟨rfl, _⟩ | ⟨g, cap, cur, rfl, _⟩
 ·exact .inl rfl
 ·exact .inr (by simp [Value.ownBlock])
theorem builder_grown {T e : TypeId} {B b : Nat} {bs : List Value} {w w' : World} (h : Lib.IsBuilder T e B b bs w) (hg : w.grownBy w' none) : Lib.IsBuilder T e B b bs w' := h.elim (fun h => .inl (BuilderAt.grown_' h hg)) (fun h => .inr (BuilderAt.grown_' h hg))
theorem builder_lt {T e : TypeId} {B b : Nat} {bs : List Value} {w : World} (h : Lib.IsBuilder T e B b bs w) : b < w.heap.size ∧ B ≤ b := h.elim (fun h => ⟨h.lt, h.1⟩) (fun h => ⟨h.lt, h.1⟩)
structure One (W0 W : World) (b : Nat) (x : Itm) (sx : Value) : Prop where
 hg : W0.grownBy W none
 bx : Blk W b 106 #[.bool x.list, .string x.bytes, sx]
 sx : SubW W x.items sx
theorem One.grown {W0 W W' : World} {b : Nat} {x : Itm} {sx : Value} (h : One W0 W b x sx) (hg : W.grownBy W' none) : One W0 W' b x sx :=
 ⟨grown_self h.hg hg (by simp), h.bx.grown hg (by simp), h.sx.grown hg⟩
theorem One.cells {W0 W : World} {b : Nat} {x : Itm} {sx : Value} (h : One W0 W b x sx) : W.cell? ⟨b, 0, none⟩ = some (.bool x.list) ∧ W.cell? ⟨b, 1, none⟩ = some (.string x.bytes) ∧ W.cell? ⟨b, 2, none⟩ = some sx :=
 ⟨h.bx.cell 0, h.bx.cell 1, h.bx.cell 2⟩
theorem One.below {W0 W : World} {b : Nat} {x : Itm} {sx : Value} (h : One W0 W b x sx) : Below W0.heap.size W0 W := below_of_grown h.hg
theorem load_itemF {w : World} {g : Nat} {a b c : Value} (hg : Blk w g 106 #[a, b, c]) : (loadVar 106 ⟨g, 0, none⟩).run Tryz.prog w = .ok (.agg #[a, b, c]) w :=
 run_loadVar_row w g 106 106 _ (0, 0) _ hg Tryz.underlying106 rfl (by kernel_rfl)
theorem text_any (s : ByteArray) (w : World) :
  Calls Tryz.prog 74 #[.string s] w fun e w' => e = .returned (.agg #[.bool false, .string s, .slice none 0 0]) ∧ w.grownBy w' none := by
 have hB := Blk.new w 106 #[.bool false, .string s, .slice none 0 0]
 have hG := only_alloc (World.grownBy.refl w none) (.cells #[.bool false, .string s, .slice none 0 0] 106)
 go_enter Tryz.func74, Tryz.ntmps74
 go_wp2_with fail
 refine bodyPost_ret (results_cell1 (fn := Tryz.f74) rfl _ _ _ _ rfl (load_itemF hB)) rfl ?_
 exact ⟨rfl, hG⟩
theorem within_any (n a b : Int) (w : World) :
  Calls Tryz.prog 129 #[.int .i64 n, .int .i64 a, .int .i64 b] w fun e w' => e = .returned (.int .i64 (if n < a then 3 else if b < n then 5 else 0)) ∧ w' = w := by
 by_cases h1 : n < a
 ·rw [if_pos h1]
  go_enter Tryz.func129, Tryz.ntmps129
  go_wp2_with fail
  go_ret
  exact ⟨rfl, rfl⟩
 ·rw [if_neg h1]
  have d1 : decide (n < a) = false := decide_eq_false h1
  by_cases h2 : b < n
  ·rw [if_pos h2]
   clear h1
   go_enter Tryz.func129, Tryz.ntmps129
   go_wp2_with fail
   go_ret
   exact ⟨rfl, rfl⟩
  ·rw [if_neg h2]
   have d2 : decide (b < n) = false := decide_eq_false h2
   clear h1 h2
   go_enter Tryz.func129, Tryz.ntmps129
   go_wp2_with fail
   go_ret
   exact ⟨rfl, rfl⟩
theorem list_any (sv : Value) (hsv : ∃ A n c, sv = .slice A n c) (w : World) :
  Calls Tryz.prog 72 #[sv] w fun e w' => e = .returned (.agg #[.bool true, .string ⟨#[]⟩, sv]) ∧ w.grownBy w' none := by
 obtain ⟨A, n, c, rfl⟩ := hsv
 have hB := Blk.new w 106 #[.bool true, .string ⟨#[]⟩, .slice A n c]
 have hG := only_alloc (World.grownBy.refl w none) (.cells #[.bool true, .string ⟨#[]⟩, .slice A n c] 106)
 go_enter Tryz.func72, Tryz.ntmps72
 go_wp2_with fail
 refine bodyPost_ret (results_cell1 (fn := Tryz.f72) rfl _ _ _ _ rfl (load_itemF hB)) rfl ?_
 exact ⟨rfl, hG⟩
theorem ofText_any (p q : Addr) (l : Bool) (s : ByteArray) (sv : Value) (w : World) (E : Int) (v : ByteArray) (hU : ∀ W, w.grownBy W none → Calls Tryz.prog 128 #[.string s, .pointer (some p), .pointer (some q)] W fun e w' => e = .returned (.tuple #[.string v, .int .i64 E]) ∧ w' = W) :
  Calls Tryz.prog 127 #[.agg #[.bool l, .string s, sv], .func (Fn.func 128) #[] #[.pointer (some p), .pointer (some q)]] w fun e w' => e = .returned (.tuple #[.string (if l = false ∧ E = 0 then v else ⟨#[]⟩), .int .i64 (if l then 2 else E)]) ∧ w.grownBy w' none := by
 have hB := Blk.new w 106 #[.bool l, .string s, sv]
 have hG := only_alloc (World.grownBy.refl w none) (.cells #[.bool l, .string s, sv] 106)
 have HU := Lib.hid hU; have HG := Lib.hid hG
 clear hU hG
 obtain ⟨m, hm⟩ : ∃ m, (if l = false ∧ E = 0 then v else ⟨#[]⟩) = m := ⟨_, rfl⟩
 rw [hm]
 have HM := Lib.hid hm
 clear hm
 cases l with
 | true =>
  obtain rfl : ⟨#[]⟩ = m := HM.out
  rw [show (if true = true then (2 : Int) else E) = 2 from rfl]
  clear HU HM
  go_enter Tryz.func127, Tryz.ntmps127
  go_upto_region 1 with (fail)
  obtain ⟨b, hb⟩ : ∃ b, w.heap.size = b := ⟨_, rfl⟩
  rw [hb] at hB ⊢
  generalize w.alloc (.cells #[.bool true, .string s, sv] 106) = W1 at *
  have c0 := hB.cell 0
  simp only [List.getElem?_toArray, List.getElem?_cons_zero, List.getElem?_cons_succ] at c0
  go_wp2_with fail
  go_ret2
  exact ⟨rfl, HG.out⟩
 | false =>
  rw [show (if false = true then (2 : Int) else E) = E from rfl]
  go_enter Tryz.func127, Tryz.ntmps127
  go_upto_region 1 with (fail)
  obtain ⟨b, hb⟩ : ∃ b, w.heap.size = b := ⟨_, rfl⟩
  rw [hb] at hB ⊢
  generalize w.alloc (.cells #[.bool false, .string s, sv] 106) = W1 at *
  have c0 := hB.cell 0; have c1 := hB.cell 1
  simp only [List.getElem?_toArray, List.getElem?_cons_zero, List.getElem?_cons_succ] at c0 c1
  go_wp2_with fail
  refine (HU.out _ HG.out).mono ?_
  rintro e w3 ⟨rfl, hw3⟩
  rw [hw3]
  clear hw3 c0 c1 hB HU
  by_cases h0 : E = 0
  ·subst h0
   obtain rfl : v = m := HM.out
   clear HM
   go_wp2_with fail
   go_ret2
   exact ⟨rfl, HG.out⟩
  ·have g1 : (E != 0) = true := by simpa using h0
   obtain rfl : ⟨#[]⟩ = m := by have := HM.out; rwa [if_neg (fun h => h0 h.2)] at this
   clear HM
   go_wp2_with fail
   go_ret2
   exact ⟨rfl, HG.out⟩
def textE (n : Nat) (least most : Int) : Int := if (n : Int) < least then 3 else if most < (n : Int) then 5 else 0
theorem getText1_any (s : ByteArray) (ga gb : Nat) (least most : Int) (W : World) (h1 : W.cell? ⟨ga, 0, none⟩ = some (.int .i64 least)) (h2 : W.cell? ⟨gb, 0, none⟩ = some (.int .i64 most)) :
  Calls Tryz.prog 128 #[.string s, .pointer (some ⟨ga, 0, none⟩), .pointer (some ⟨gb, 0, none⟩)] W fun e w' => e = .returned (.tuple #[.string s, .int .i64 (textE s.size least most)]) ∧ w' = W := by
 have hw := fun V => within_any (s.size : Int) least most V
 obtain ⟨E, hE⟩ : ∃ E, textE s.size least most = E := ⟨_, rfl⟩
 unfold textE at hE
 rw [hE] at hw
 rw [show textE s.size least most = E from hE]
 have HW := Lib.hid hw
 clear hw hE
 go_enter Tryz.func128, Tryz.ntmps128
 go_wp2_with fail
 refine (HW.out _).mono ?_
 rintro e w3 ⟨rfl, hw3⟩
 rw [hw3]
 clear hw3
 go_wp2_with fail
 go_ret2
 exact ⟨rfl, rfl⟩
theorem getText_any (l : Bool) (s : ByteArray) (sv : Value) (least most : Int) (w : World) :
  Calls Tryz.prog 90 #[.agg #[.bool l, .string s, sv], .int .i64 least, .int .i64 most] w fun e w' => e = .returned (.tuple #[.string (if l = false ∧ textE s.size least most = 0 then s else ⟨#[]⟩), .int .i64 (if l then 2 else textE s.size least most)]) ∧ w.grownBy w' none := by
 have hG := only_alloc (only_alloc (only_alloc (World.grownBy.refl w none) (.cells #[.bool l, .string s, sv] 106)) (.cells #[.int .i64 least] 3)) (.cells #[.int .i64 most] 3)
 have hB1 := Blk.new (w.alloc (.cells #[.bool l, .string s, sv] 106)) 3 #[.int .i64 least]
 have hB1 := hB1.alloc (.cells #[.int .i64 most] 3)
 have hB2 := Blk.new ((w.alloc (.cells #[.bool l, .string s, sv] 106)).alloc (.cells #[.int .i64 least] 3)) 3 #[.int .i64 most]
 rw [World.size_alloc] at hB1
 rw [World.size_alloc, World.size_alloc] at hB2
 have ho := fun V (hV1 : Blk V (w.heap.size + 1) 3 #[.int .i64 least]) (hV2 : Blk V (w.heap.size + 1 + 1) 3 #[.int .i64 most]) => ofText_any ⟨w.heap.size + 1, 0, none⟩ ⟨w.heap.size + 1 + 1, 0, none⟩ l s sv V (textE s.size least most) s (fun U hU => getText1_any s (w.heap.size + 1) (w.heap.size + 1 + 1) least most U ((hV1.grown hU (by simp)).cell 0) ((hV2.grown hU (by simp)).cell 0))
 obtain ⟨m, hm⟩ : ∃ m, (if l = false ∧ textE s.size least most = 0 then s else ⟨#[]⟩) = m := ⟨_, rfl⟩
 obtain ⟨q, hq⟩ : ∃ q, (if l then 2 else textE s.size least most) = q := ⟨_, rfl⟩
 rw [hm, hq] at ho
 rw [hm, hq]
 have HO := Lib.hid (ho _ hB1 hB2)
 have HG := Lib.hid hG
 clear ho hm hq hB1 hB2 hG
 go_enter Tryz.func90, Tryz.ntmps90
 go_wp2_with fail
 refine HO.out.mono ?_
 rintro e w3 ⟨rfl, hg3⟩
 have HG3 := Lib.hid (grown_self HG.out hg3 (by simp))
 clear hg3 HO
 go_wp2_with fail
 go_ret2
 exact ⟨rfl, HG3.out⟩
abbrev wZ : Array Value := #[.int .u64 0, .int .u64 0, .int .u64 0, .int .u64 0]
theorem only_set4 {a W : World} {b : Nat} (h : a.grownBy W none) (hb : a.heap.size ≤ b) (x y z u : Value) : a.grownBy ((((W.setCell ⟨b, 0, none⟩ x).setCell ⟨b, 1, none⟩ y).setCell ⟨b, 2, none⟩ z).setCell ⟨b, 3, none⟩ u) none :=
 only_set (only_set (only_set (only_set h (p := ⟨b, 0, none⟩) hb x) (p := ⟨b, 1, none⟩) hb y) (p := ⟨b, 2, none⟩) hb z) (p := ⟨b, 3, none⟩) hb u
theorem blk_set4 {W : World} {b : Nat} {t : TypeId} {p q r s : Value} (h : Blk W b t #[p, q, r, s]) (x y z u : Value) : Blk ((((W.setCell ⟨b, 0, none⟩ x).setCell ⟨b, 1, none⟩ y).setCell ⟨b, 2, none⟩ z).setCell ⟨b, 3, none⟩ u) b t #[x, y, z, u] :=
 (((h.set_ 0 x).set_ 1 y).set_ 2 z).set_ 3 u
theorem getList_any (l : Bool) (s : ByteArray) (A : Option Addr) (n c : Nat) (least most : Int) (w : World) :
  Calls Tryz.prog 122 #[.agg #[.bool l, .string s, .slice A n c], .int .i64 least, .int .i64 most] w fun e w' => e = .returned (.tuple #[if l = true ∧ textE n least most = 0 then .slice A n c else .slice none 0 0, .int .i64 (if l then textE n least most else 2)]) ∧ w.grownBy w' none := by
 have hB := Blk.new w 106 #[.bool l, .string s, .slice A n c]
 have HG := Lib.hid (only_alloc (World.grownBy.refl w none) (.cells #[.bool l, .string s, .slice A n c] 106))
 cases l with
 | false =>
  rw [show (if false = true ∧ textE n least most = 0 then Value.slice A n c else .slice none 0 0) = .slice none 0 0 from if_neg (by simp), show (if false = true then textE n least most else 2) = 2 from rfl]
  go_enter Tryz.func122, Tryz.ntmps122
  go_upto_region 1 with (fail)
  obtain ⟨b, hb⟩ : ∃ b, w.heap.size = b := ⟨_, rfl⟩
  rw [hb] at hB ⊢
  generalize w.alloc (.cells #[.bool false, .string s, .slice A n c] 106) = W1 at *
  have c0 := hB.cell 0
  simp only [List.getElem?_toArray, List.getElem?_cons_zero, List.getElem?_cons_succ] at c0
  go_wp2_with fail
  go_ret2
  exact ⟨rfl, HG.out⟩
 | true =>
  have hw := fun V => within_any (n : Int) least most V
  obtain ⟨E, hE⟩ : ∃ E, textE n least most = E := ⟨_, rfl⟩
  rw [show (if true = true then textE n least most else 2) = textE n least most from rfl, hE]
  obtain ⟨m, hm⟩ : ∃ m, (if true = true ∧ E = 0 then Value.slice A n c else .slice none 0 0) = m := ⟨_, rfl⟩
  rw [hm]
  unfold textE at hE
  rw [hE] at hw
  have HW := Lib.hid hw; have HM := Lib.hid hm
  clear hw hm hE
  go_enter Tryz.func122, Tryz.ntmps122
  go_upto_region 1 with (fail)
  obtain ⟨b, hb⟩ : ∃ b, w.heap.size = b := ⟨_, rfl⟩
  rw [hb] at hB ⊢
  generalize w.alloc (.cells #[.bool true, .string s, .slice A n c] 106) = W1 at *
  have c0 := hB.cell 0; have c2 := hB.cell 2
  simp only [List.getElem?_toArray, List.getElem?_cons_zero, List.getElem?_cons_succ] at c0 c2
  go_wp2_with fail
  refine (HW.out _).mono ?_
  rintro e w3 ⟨rfl, hw3⟩
  rw [hw3]
  clear hw3
  by_cases h0 : E = 0
  ·subst h0
   have hm : Value.slice A n c = m := HM.out
   clear HM
   go_wp2_with fail
   go_ret2
   exact ⟨by rw [← hm]; rfl, HG.out⟩
  ·have g1 : (E != 0) = true := by simpa using h0
   have hm : Hid (Value.slice none 0 0 = m) := Lib.hid (by have := HM.out; rwa [if_neg (fun h => h0 h.2)] at this)
   clear HM
   go_wp2_with fail
   go_ret2
   exact ⟨by rw [← hm.out]; rfl, HG.out⟩
theorem ofWord_any (l : Bool) (s : ByteArray) (sv : Value) (E : Int) (a0 a1 a2 a3 : Nat) (hz : E ≠ 0 ∨ l = true → a0 = 0 ∧ a1 = 0 ∧ a2 = 0 ∧ a3 = 0)
  (hU : l = false → ∀ W, Calls Tryz.prog 126 #[.string s] W fun e w' => e = .returned (.tuple #[.agg #[.int .u64 (a0 : Int), .int .u64 (a1 : Int), .int .u64 (a2 : Int), .int .u64 (a3 : Int)], .int .i64 E]) ∧ W.grownBy w' none) (w : World) :
  Calls Tryz.prog 125 #[.agg #[.bool l, .string s, sv], .func (Fn.func 126) #[] #[]] w fun e w' => e = .returned (.tuple #[.agg #[.int .u64 (a0 : Int), .int .u64 (a1 : Int), .int .u64 (a2 : Int), .int .u64 (a3 : Int)], .int .i64 (if l then 2 else E)]) ∧ w.grownBy w' none := by
 have hB := ((Blk.new w 106 #[.bool l, .string s, sv]).alloc (.cells wZ 38)).alloc (.cells wZ 38)
 have hR := (Blk.new (w.alloc (.cells #[.bool l, .string s, sv] 106)) 38 wZ).alloc (.cells wZ 38)
 have hN := Blk.new ((w.alloc (.cells #[.bool l, .string s, sv] 106)).alloc (.cells wZ 38)) 38 wZ
 rw [World.size_alloc] at hR
 rw [World.size_alloc, World.size_alloc] at hN
 have hG := only_alloc (only_alloc (only_alloc (World.grownBy.refl w none) (.cells #[.bool l, .string s, sv] 106)) (.cells wZ 38)) (.cells wZ 38)
 have HZ := Lib.hid hz; have HU := Lib.hid hU
 clear hz hU
 go_enter Tryz.func125, Tryz.ntmps125
 go_upto_region 2 with (fail)
 obtain ⟨b, hb⟩ : ∃ b, w.heap.size = b := ⟨_, rfl⟩
 have HWS := Lib.hid hb
 rw [hb] at hB hR hN ⊢
 clear hb
 generalize ((w.alloc (.cells #[.bool l, .string s, sv] 106)).alloc (.cells wZ 38)).alloc (.cells wZ 38) = W1 at *
 have hle : w.heap.size ≤ b + 1 := by have := HWS.out; omega
 have c0 := hB.cell 0; have c1 := hB.cell 1
 have n0 := hN.cell 0; have n1 := hN.cell 1; have n2 := hN.cell 2; have n3 := hN.cell 3
 have r0 := hR.cell 0; have r1 := hR.cell 1; have r2 := hR.cell 2; have r3 := hR.cell 3
 have f0 := hR.frozen 0; have f1 := hR.frozen 1; have f2 := hR.frozen 2; have f3 := hR.frozen 3
 simp only [List.getElem?_toArray, List.getElem?_cons_zero, List.getElem?_cons_succ] at c0 c1 n0 n1 n2 n3 r0 r1 r2 r3
 cases l with
 | true =>
  obtain ⟨rfl, rfl, rfl, rfl⟩ := HZ.out (.inr rfl)
  have HB5 := Lib.hid (blk_set4 hR (.int .u64 0) (.int .u64 0) (.int .u64 0) (.int .u64 0))
  have HG5 := Lib.hid (only_set4 hG hle (.int .u64 0) (.int .u64 0) (.int .u64 0) (.int .u64 0))
  clear HZ HU hG hB hR hN hle
  go_wp2_with fail
  refine bodyPost_ret (results_cv (fn := Tryz.f125) rfl _ _ _ _ rfl (load_word HB5.out)) rfl ?_
  exact ⟨rfl, HG5.out⟩
 | false =>
  have hU := Lib.hid (HU.out rfl)
  have HG := Lib.hid hG; have HB := Lib.hid hB; have HR := Lib.hid hR; have HN := Lib.hid hN
  clear HU hG hB hR hN
  go_wp2_with fail
  refine (hU.out _).mono ?_
  rintro e w3 ⟨rfl, hg3⟩
  have hR := (HR.out.grown hg3 (by simp)).alloc (.cells #[.int .u64 (a0 : Int), .int .u64 (a1 : Int), .int .u64 (a2 : Int), .int .u64 (a3 : Int)] 38)
  have hN := (HN.out.grown hg3 (by simp)).alloc (.cells #[.int .u64 (a0 : Int), .int .u64 (a1 : Int), .int .u64 (a2 : Int), .int .u64 (a3 : Int)] 38)
  have hV := Blk.new w3 38 #[.int .u64 (a0 : Int), .int .u64 (a1 : Int), .int .u64 (a2 : Int), .int .u64 (a3 : Int)]
  have hG := only_alloc (grown_self HG.out hg3 (by simp)) (.cells #[.int .u64 (a0 : Int), .int .u64 (a1 : Int), .int .u64 (a2 : Int), .int .u64 (a3 : Int)] 38)
  clear hg3 HG HB HR HN hU c0 c1 n0 n1 n2 n3 r0 r1 r2 r3 f0 f1 f2 f3
  go_upto_region 5 with (fail)
  obtain ⟨b3, hb3⟩ : ∃ b, w3.heap.size = b := ⟨_, rfl⟩
  rw [hb3] at hV ⊢
  clear hb3
  generalize w3.alloc (.cells #[.int .u64 (a0 : Int), .int .u64 (a1 : Int), .int .u64 (a2 : Int), .int .u64 (a3 : Int)] 38) = W4 at *
  have n0 := hN.cell 0; have n1 := hN.cell 1; have n2 := hN.cell 2; have n3 := hN.cell 3
  have v0 := hV.cell 0; have v1 := hV.cell 1; have v2 := hV.cell 2; have v3 := hV.cell 3
  have r0 := hR.cell 0; have r1 := hR.cell 1; have r2 := hR.cell 2; have r3 := hR.cell 3
  have f0 := hR.frozen 0; have f1 := hR.frozen 1; have f2 := hR.frozen 2; have f3 := hR.frozen 3
  simp only [List.getElem?_toArray, List.getElem?_cons_zero, List.getElem?_cons_succ] at n0 n1 n2 n3 v0 v1 v2 v3 r0 r1 r2 r3
  by_cases h0 : E = 0
  ·subst h0
   have HB5 := Lib.hid (blk_set4 hR (.int .u64 (a0 : Int)) (.int .u64 (a1 : Int)) (.int .u64 (a2 : Int)) (.int .u64 (a3 : Int)))
   have HG5 := Lib.hid (only_set4 hG hle (.int .u64 (a0 : Int)) (.int .u64 (a1 : Int)) (.int .u64 (a2 : Int)) (.int .u64 (a3 : Int)))
   clear HZ hG hR hN hV hle
   go_wp2_with fail
   refine bodyPost_ret (results_cv (fn := Tryz.f125) rfl _ _ _ _ rfl (load_word HB5.out)) rfl ?_
   exact ⟨rfl, HG5.out⟩
  ·obtain ⟨rfl, rfl, rfl, rfl⟩ := HZ.out (.inl h0)
   have g1 : (E != 0) = true := by simpa using h0
   have HB5 := Lib.hid (blk_set4 hR (.int .u64 0) (.int .u64 0) (.int .u64 0) (.int .u64 0))
   have HG5 := Lib.hid (only_set4 hG hle (.int .u64 0) (.int .u64 0) (.int .u64 0) (.int .u64 0))
   clear HZ hG hR hN hV hle
   go_wp2_with fail
   refine bodyPost_ret (results_cv (fn := Tryz.f125) rfl _ _ _ _ rfl (load_word HB5.out)) rfl ?_
   exact ⟨rfl, HG5.out⟩
end Go.Proofs.YtgclnikdkfpflaaGreatDoor
