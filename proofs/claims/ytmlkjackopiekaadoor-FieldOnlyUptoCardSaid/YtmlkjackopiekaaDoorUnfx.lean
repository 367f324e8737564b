/- The word of 32 bytes (word.Unfixed), of bytes (word.Parse); a small one (word.Small); a number of bytes (num.Unbe). -/
import Derived.Test.YtmlkjackopiekaaDoorFldP
import Derived.Test.YtmlkjackopiekaaDoorWrd
import Derived.Test.YtmlkjackopiekaaDoorRep
import Derived.StillTailTactics
namespace Go.Proofs.YtmlkjackopiekaaDoor
open Go.RowKit Go.Shelf
set_option linter.unusedVariables false
set_option linter.unusedSimpArgs false

theorem results_cv {P : Program} {fn : Func} {p q : Tmp} {t : TypeId} (h : fn.results = #[.cell p t, .tmp q]) (tmps : Array Value) (w : World) (a : Addr) (x : Value) (hp : tmps.getD p undef = .pointer (some a))
    (hx : (loadVar t a).run P w = .ok x w) : (results fn tmps).run P w = .ok (.tuple #[x, tmps.getD q undef]) w := by
  have hp' : tmps[p]?.getD undef = .pointer (some a) := by simpa using hp
  simp [results, h, hp', asAddr, hx]
theorem u64_or_of (a b : Nat) (ha : a < 18446744073709551616) (hb : b < 18446744073709551616) : bits .or .u64 (a : Int) (b : Int) = ((a ||| b : Nat) : Int) := by
  have hx : a ||| b < 2 ^ 64 := Nat.or_lt_two_pow (by omega) (by omega)
  show IntKind.u64.wrap ((BitVec.ofInt 64 (a : Int) ||| BitVec.ofInt 64 (b : Int)).toNat : Int) = _
  rw [BitVec.toNat_or, BitVec.ofInt_natCast, BitVec.ofInt_natCast, BitVec.toNat_ofNat, BitVec.toNat_ofNat, Nat.mod_eq_of_lt (by omega), Nat.mod_eq_of_lt (by omega)]
  simp [IntKind.wrap, IntKind.bits, IntKind.signed]
  omega
theorem u64_wrap_of (x : Nat) (h : x < 18446744073709551616) : IntKind.u64.wrap (x : Int) = (x : Int) := by
  simp [IntKind.wrap, IntKind.bits, IntKind.signed]; omega
/-- a word's cells -/
def wordC (N : Nat) : Array Value := #[.int .u64 (wp N 0 : Nat), .int .u64 (wp N 1 : Nat), .int .u64 (wp N 2 : Nat), .int .u64 (wp N 3 : Nat)]
theorem wordC_cell {w : World} {g : Nat} {t : TypeId} {N : Nat} (h : Blk w g t (wordC N)) (q : Nat) (hq : q < 4) : w.cell? ⟨g, q, none⟩ = some (.int .u64 ((wp N q : Nat) : Int)) := by
  rw [h.cell]
  have : q = 0 ∨ q = 1 ∨ q = 2 ∨ q = 3 := by omega
  rcases this with rfl | rfl | rfl | rfl <;> rfl
theorem wordC_step (l : List UInt8) (m : Nat) (h : m < l.length) (hm : m < 32) : (wordC (lowN l m)).setIfInBounds (m / 8) (.int .u64 (wp (lowN l (m + 1)) (m / 8) : Nat)) = wordC (lowN l (m + 1)) := by
  have e : ∀ q, q ≠ m / 8 → wp (lowN l (m + 1)) q = wp (lowN l m) q := fun q hq => by rw [lowN_step l m q h, if_neg hq]
  have : m / 8 = 0 ∨ m / 8 = 1 ∨ m / 8 = 2 ∨ m / 8 = 3 := by omega
  unfold wordC
  rcases this with hq | hq | hq | hq
  all_goals
    rw [hq]
    rw [hq] at e
  · rw [e 1 (by omega), e 2 (by omega), e 3 (by omega)]; rfl
  · rw [e 0 (by omega), e 2 (by omega), e 3 (by omega)]; rfl
  · rw [e 0 (by omega), e 1 (by omega), e 3 (by omega)]; rfl
  · rw [e 0 (by omega), e 1 (by omega), e 2 (by omega)]; rfl

set_option maxRecDepth 100000 in
set_option maxHeartbeats 2000000 in
theorem unfixed_any (S : ByteArray) (hS : S.size = 32) (w : World) :
    Calls Tryd.prog 57 #[.string S] w fun e w' => e = .returned (.tuple #[.agg (wordC (beV S.data.toList)), .int .i64 0]) ∧ w.grownBy w' none := by
  obtain ⟨l, hl⟩ : ∃ l, S.data.toList = l := ⟨_, rfl⟩
  have hlz : l.length = 32 := by rw [← hl, Array.length_toList]; exact hS
  have hall : lowN l 32 = beV l := by rw [← hlz]; exact lowN_all l
  rw [hl, ← hall]
  have HS := Lib.hid hl
  clear hl hall
  have e0 : ((S.size : Int) != 32) = false := by simp; omega
  have hZ4 : Hid ((#[.int .u64 0, .int .u64 0, .int .u64 0, .int .u64 0] : Array Value) = wordC 0) := Lib.hid (by unfold wordC; rw [wp_zero, wp_zero, wp_zero, wp_zero]; rfl)
  have hB := Blk.new w 24 #[.int .u64 0, .int .u64 0, .int .u64 0, .int .u64 0]
  have hO := Blk.new (w.alloc (.cells #[.int .u64 0, .int .u64 0, .int .u64 0, .int .u64 0] 24)) 24 #[.int .u64 0, .int .u64 0, .int .u64 0, .int .u64 0]
  rw [World.size_alloc] at hO
  have hB := hB.alloc (.cells #[.int .u64 0, .int .u64 0, .int .u64 0, .int .u64 0] 24)
  have hG := only_alloc (only_alloc (World.grownBy.refl w none) (.cells #[.int .u64 0, .int .u64 0, .int .u64 0, .int .u64 0] 24)) (.cells #[.int .u64 0, .int .u64 0, .int .u64 0, .int .u64 0] 24)
  go_enter Tryd.func57, Tryd.ntmps57
  go_upto_region 4 with (fail)
  obtain ⟨b, hb⟩ : ∃ b, w.heap.size = b := ⟨_, rfl⟩
  rw [hb] at hB hO ⊢
  generalize (w.alloc (.cells #[.int .u64 0, .int .u64 0, .int .u64 0, .int .u64 0] 24)).alloc (.cells #[.int .u64 0, .int .u64 0, .int .u64 0, .int .u64 0] 24) = W1 at *
  rw [hZ4.out, ← lowN_zero l] at hO
  clear hZ4
  go_wp2_with fail
  go_loopw [10] (fun i wr => ∃ m : Nat, i = .int .i64 (m : Int) ∧ m ≤ 32 ∧ Blk wr (b + 1) 24 (wordC (lowN l m)) ∧ Blk wr b 24 #[.int .u64 0, .int .u64 0, .int .u64 0, .int .u64 0] ∧ w.grownBy wr none) (fun i _ => 32 - (intOf i).toNat)
  case atStart => exact ⟨0, rfl, by omega, hO, hB, hG⟩
  case round =>
    clear hO hB hG
    obtain ⟨m, rfl, hm, hO, hB, hG⟩ := hrel
    by_cases hlt : m < 32
    · obtain ⟨q, hq⟩ : ∃ q, m / 8 = q := ⟨_, rfl⟩
      obtain ⟨r8, hr8⟩ : ∃ r, m % 8 = r := ⟨_, rfl⟩
      obtain ⟨r, hr⟩ : ∃ r, r8 * 8 = r := ⟨_, rfl⟩
      obtain ⟨p, hp⟩ : ∃ p, 31 - m = p := ⟨_, rfl⟩
      have hst := wordC_step l m (by omega) hlt
      have hwz := lowN_step l m (m / 8) (by omega)
      rw [if_pos rfl, hr8, hr, hlz, show 32 - 1 - m = p by omega, hq] at hwz
      rw [hq] at hst
      have f2 := wordC_cell hO q (by omega)
      have f3 := hO.frozen q
      have hid := fun W => idx_str S p (l.getD p 0) (by rw [HS.out, List.getD_eq_getElem?_getD, List.getElem?_eq_getElem (by omega)]; rfl) W
      have hzl := wp_lt (lowN l (m + 1)) q
      have hvl := wp_lt (lowN l m) q
      have hrm := wp_room (lowN l m) m (lowN_lt l m)
      rw [hq, hr8, hr] at hrm
      obtain ⟨z, hz⟩ : ∃ z, wp (lowN l (m + 1)) q = z := ⟨_, rfl⟩
      obtain ⟨v, hv⟩ : ∃ v, wp (lowN l m) q = v := ⟨_, rfl⟩
      rw [hv] at hwz f2 hvl hrm
      rw [hz] at hwz hzl hst
      have hch := (l.getD p 0).toNat_lt
      obtain ⟨ch, hch2⟩ : ∃ ch, (l.getD p 0).toNat = ch := ⟨_, rfl⟩
      rw [hch2] at hwz hid hch
      have hadd := wp_or v ch r hrm
      obtain ⟨x, hx⟩ : ∃ x, ch * 2 ^ r = x := ⟨_, rfl⟩
      rw [hx] at hwz hadd
      have p8 : bits .or .u64 (v : Int) (x : Int) = (z : Int) := by rw [u64_or_of v x hvl (by omega), hwz]
      have p5 : IntKind.u64.wrap ((ch : Int) * 2 ^ r) = (x : Int) := by
        have : (ch : Int) * 2 ^ r = (x : Int) := by rw [← hx]; simp
        rw [this, u64_wrap_of x (by omega)]
      have p9 : IntKind.u64.wrap (ch : Int) = (ch : Int) := u64_wrap_of ch (by omega)
      have p1 : (m : Int).tdiv 8 = (q : Int) := by rw [Int.tdiv_eq_ediv_of_nonneg (by omega)]; omega
      have p2 : IntKind.i64.wrap (q : Int) = (q : Int) := IntWalk.i64_in _ (by omega)
      have p3 : (m : Int).tmod 8 = (r8 : Int) := by rw [Int.tmod_eq_emod_of_nonneg (by omega)]; omega
      have p4 : IntKind.i64.wrap ((r8 : Int) * 8) = (r : Int) := by rw [IntWalk.i64_in _ (by omega)]; omega
      have p6 : IntKind.i64.wrap (31 - (m : Int)) = (p : Int) := by rw [IntWalk.i64_in _ (by omega)]; omega
      have p7 : 31 - (m : Int) = (p : Int) := by omega
      have q1 : (q : Int) < 4 := by omega
      have q1' : q < 4 := by omega
      have q2 : (m : Int) < 32 := by omega
      have q3 : r < 64 := by omega
      have q4 : (p : Int) < 32 := by omega
      have q5 : (p : Int) < (S.size : Int) := by omega
      have q6 : p < S.size := by omega
      have p10 : IntKind.i64.wrap (p : Int) = (p : Int) := IntWalk.i64_in _ (by omega)
      have hgx : ((S[p]'q6).toNat : Int) = (ch : Int) := by
        have e2 : S.data[p]? = some (l.getD p 0) := by
          have : S.data.toList[p]? = some (l.getD p 0) := by rw [HS.out, List.getD_eq_getElem?_getD, List.getElem?_eq_getElem (by omega)]; rfl
          simpa using this
        obtain ⟨_, e3⟩ := Array.getElem?_eq_some_iff.1 e2
        have : S[p]'q6 = l.getD p 0 := e3
        rw [this, hch2]
      have HST := Lib.hid hst
      clear hq hr8 hr hst hwz hzl hvl hrm hz hv hch2 hadd hx hp
      have hO2 := hO.set_ q (.int .u64 (z : Int))
      rw [HST.out] at hO2
      go_wp2_with fail
      go_still_tail 15, (by kernel_rfl)
      clear p1 p2 p3 p4 p5 p6 p7 p8 p9 p10 hgx hid
      repeat go_step
      go_roundw
      case rel => exact ⟨m + 1, by go_num, by omega, hO2, hB.far (p := ⟨b + 1, q, none⟩) (by show b ≠ b + 1; omega) _, only_drew (only_set hG (p := ⟨b + 1, q, none⟩) (by show w.heap.size ≤ b + 1; omega) _)⟩
      case measure => simp [intOf]; omega
    · obtain rfl : m = 32 := by omega
      have hO' := hO
      unfold wordC at hO'
      have c0 := hO'.cell 0; have c1 := hO'.cell 1; have c2 := hO'.cell 2; have c3 := hO'.cell 3
      have d0 := hB.frozen 0; have d1 := hB.frozen 1; have d2 := hB.frozen 2; have d3 := hB.frozen 3
      have x0 := hB.cell 0; have x1 := hB.cell 1; have x2 := hB.cell 2; have x3 := hB.cell 3
      simp only [List.getElem?_toArray, List.getElem?_cons_zero, List.getElem?_cons_succ] at c0 c1 c2 c3 x0 x1 x2 x3
      have hG2 := only_set (only_set (only_set (only_set hG (p := ⟨b, 0, none⟩) (by show w.heap.size ≤ b; omega) (.int .u64 (wp (lowN l 32) 0 : Nat))) (p := ⟨b, 1, none⟩) (by show w.heap.size ≤ b; omega) (.int .u64 (wp (lowN l 32) 1 : Nat))) (p := ⟨b, 2, none⟩) (by show w.heap.size ≤ b; omega) (.int .u64 (wp (lowN l 32) 2 : Nat))) (p := ⟨b, 3, none⟩) (by show w.heap.size ≤ b; omega) (.int .u64 (wp (lowN l 32) 3 : Nat))
      have hB2 := (((hB.set_ 0 (.int .u64 (wp (lowN l 32) 0 : Nat))).set_ 1 (.int .u64 (wp (lowN l 32) 1 : Nat))).set_ 2 (.int .u64 (wp (lowN l 32) 2 : Nat))).set_ 3 (.int .u64 (wp (lowN l 32) 3 : Nat))
      have HG2 := Lib.hid hG2; have HB2 := Lib.hid hB2
      clear hG2 hB2
      go_wp2_with fail
      refine bodyPost_ret (results_cv (fn := Tryd.f57) rfl _ _ _ _ rfl (load_word HB2.out)) rfl ?_
      exact ⟨rfl, HG2.out⟩
end Go.Proofs.YtmlkjackopiekaaDoor
