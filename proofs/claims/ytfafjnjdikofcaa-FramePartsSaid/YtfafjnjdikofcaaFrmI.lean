/- The frame at a place. -/
import Derived.Test.YtfafjnjdikofcaaFrmH
namespace Go.Proofs.Ytfafjnjdikofcaa
open Go.RowKit Go.Shelf

def mkB (l : List UInt8) : ByteArray := ⟨l.toArray⟩
/-- the frame at a place: it, the place behind it, what is wrong -/
def nextF (s : List UInt8) (p : Int) : Frm × Int × Int :=
  if p < 0 ∨ (s.length : Int) < p then (Frm.none_, 0, 1) else
  let l := s.drop p.toNat
  if l.length < 22 then (Frm.none_, 0, 3) else
  let z := valL ((l.drop 18).take 4)
  if 4096 < z then (Frm.none_, 0, 5) else
  if l.length ≤ 22 + z then (Frm.none_, 0, 3) else
  if 1 < (l.getD (22 + z) 0).toNat then (Frm.none_, 0, 2) else
  (⟨mkB (l.take 16), (valL ((l.drop 16).take 2) : Nat), mkB ((l.drop 22).take z), (l.getD (22 + z) 0).toNat == 1⟩, p + 23 + z, 0)

theorem results_ctt {P : Program} {fn : Func} {p q r : Tmp} {t : TypeId} (h : fn.results = #[.cell p t, .tmp q, .tmp r]) (tmps : Array Value) (w : World) (a : Addr) (x : Value) (hp : tmps.getD p undef = .pointer (some a))
    (hx : (loadVar t a).run P w = .ok x w) : (results fn tmps).run P w = .ok (.tuple #[x, tmps.getD q undef, tmps.getD r undef]) w := by
  have hp' : tmps[p]?.getD undef = .pointer (some a) := by simpa using hp
  simp [results, h, hp', asAddr, hx]
theorem load_frame {w : World} {g : Nat} {f : Frm} (hg : Blk w g 24 #[.string f.id, .int .i64 f.num, .string f.data, .bool f.last]) : (loadVar 24 ⟨g, 0, none⟩).run Try.prog w = .ok (.agg #[.string f.id, .int .i64 f.num, .string f.data, .bool f.last]) w := by
  exact run_loadVar_row w g 24 24 _ (0, 0) _ hg Try.underlying24 rfl (by kernel_rfl)

set_option maxRecDepth 100000 in
set_option maxHeartbeats 1000000 in
theorem next_any (s : ByteArray) (p : Int) (hs : s.size ≤ 9223372036854770000) (w : World) :
    Calls Try.prog 18 #[.string s, .int .i64 p] w fun e w' => (∃ (f : Frm) (q x : Int), nextF s.data.toList p = (f, q, x) ∧ e = .returned (.tuple #[.agg #[.string f.id, .int .i64 f.num, .string f.data, .bool f.last], .int .i64 q, .int .i64 x])) ∧ w.grownBy w' none := by
  have hlz : s.data.toList.length = s.size := ba_len s
  have hw0 := Blk.new w 24 #[.string .empty, .int .i64 0, .string .empty, .bool false]
  have hG0 : w.grownBy (w.alloc (.cells #[.string .empty, .int .i64 0, .string .empty, .bool false] 24)) none := only_alloc (World.grownBy.refl _ _) _
  by_cases hp : p < 0 ∨ (s.size : Int) < p
  · have hN : nextF s.data.toList p = (Frm.none_, 0, 1) := by unfold nextF; rw [if_pos (by rw [hlz]; exact hp)]
    have HN := Lib.hid hN
    clear hN hlz
    go_enter Try.func18, Try.ntmps18
    go_wp2_with fail
    all_goals
      refine bodyPost_ret (results_ctt (fn := Try.f18) rfl _ _ _ _ rfl (load_frame (f := Frm.none_) hw0)) rfl ?_
      exact ⟨⟨_, _, _, HN.out, rfl⟩, hG0⟩
  obtain ⟨a, rfl⟩ := Int.eq_ofNat_of_zero_le (show 0 ≤ p by omega)
  have ha : a ≤ s.size := by omega
  obtain ⟨l, hl⟩ : ∃ l, s.data.toList.drop a = l := ⟨_, rfl⟩
  have hm : l.length = s.size - a := by rw [← hl, List.length_drop, hlz]
  obtain ⟨lb, hlb⟩ : ∃ b, s.extract a s.size = b := ⟨_, rfl⟩
  have hlbl : lb.data.toList = l := by rw [← hlb, Lib.extract_data, hl]; exact List.take_of_length_le (by omega)
  have hlbz : lb.size = s.size - a := by rw [← ba_len, hlbl, hm]
  have hN0 : nextF s.data.toList a = if l.length < 22 then (Frm.none_, 0, 3) else
      if 4096 < valL ((l.drop 18).take 4) then (Frm.none_, 0, 5) else
      if l.length ≤ 22 + valL ((l.drop 18).take 4) then (Frm.none_, 0, 3) else
      if 1 < (l.getD (22 + valL ((l.drop 18).take 4)) 0).toNat then (Frm.none_, 0, 2) else
      (⟨mkB (l.take 16), (valL ((l.drop 16).take 2) : Nat), mkB ((l.drop 22).take (valL ((l.drop 18).take 4))), (l.getD (22 + valL ((l.drop 18).take 4)) 0).toNat == 1⟩, (a : Int) + 23 + valL ((l.drop 18).take 4), 0) := by
    unfold nextF
    rw [if_neg (by omega), show (a : Int).toNat = a by omega, hl]
  obtain ⟨m, hm2⟩ : ∃ m, s.size - a = m := ⟨_, rfl⟩
  rw [hm2] at hm hlbz
  have q1 : decide ((a : Int) < 0) = false := by simp
  have q2 : decide ((s.size : Int) < (a : Int)) = false := by simp; omega
  have q3 : decide (s.size < a) = false := by simp; omega
  have q4 : (a : Int) ≤ (s.size : Int) := by omega
  have HLB := Lib.hid hlbl; have HN0 := Lib.hid hN0; have HM := Lib.hid hm
  clear hl hlbl hN0 hm hlz hp
  by_cases h22 : m < 22
  · have hN : nextF s.data.toList a = (Frm.none_, 0, 3) := by rw [HN0.out, if_pos (by have := HM.out; omega)]
    have HN := Lib.hid hN
    clear hN HN0 hm2
    go_enter Try.func18, Try.ntmps18
    go_wp2_with fail
    all_goals
      refine bodyPost_ret (results_ctt (fn := Try.f18) rfl _ _ _ _ rfl (load_frame (f := Frm.none_) hw0)) rfl ?_
      exact ⟨⟨_, _, _, HN.out, rfl⟩, hG0⟩
  obtain ⟨z, hz⟩ : ∃ z, valL ((l.drop 18).take 4) = z := ⟨_, rfl⟩
  have hzl : z < 4294967296 := by
    rw [← hz]
    have := valL_lt ((l.drop 18).take 4)
    have h4 : ((l.drop 18).take 4).length = 4 := by rw [List.length_take, List.length_drop]; have := HM.out; omega
    rw [h4] at this
    omega
  obtain ⟨eb, heb⟩ : ∃ b, lb.extract 18 22 = b := ⟨_, rfl⟩
  have hebl : eb.data.toList = (l.drop 18).take 4 := by rw [← heb, Lib.extract_data, HLB.out]
  have hebz : eb.size = 4 := by rw [← ba_len, hebl, List.length_take, List.length_drop]; have := HM.out; omega
  have hv := fun W => value_any eb (by omega) W
  rw [hebl, hz] at hv
  have h22' : decide ((m : Int) < 22) = false := by simp; omega
  have HZ := Lib.hid hz
  clear hz hebl
  by_cases h1 : 4096 < z
  · have hN : nextF s.data.toList a = (Frm.none_, 0, 5) := by rw [HN0.out, if_neg (by have := HM.out; omega), HZ.out, if_pos h1]
    have HN := Lib.hid hN
    clear hN HN0 hm2
    go_enter Try.func18, Try.ntmps18
    go_wp2_with fail
    refine (hv _).mono ?_
    rintro e w2 ⟨rfl, rfl⟩
    go_wp2_with fail
    all_goals
      refine bodyPost_ret (results_ctt (fn := Try.f18) rfl _ _ _ _ rfl (load_frame (f := Frm.none_) hw0)) rfl ?_
      exact ⟨⟨_, _, _, HN.out, rfl⟩, hG0⟩
  have d1 : decide (4096 < (z : Int)) = false := by simp; omega
  by_cases h2 : m ≤ 22 + z
  · have hN : nextF s.data.toList a = (Frm.none_, 0, 3) := by rw [HN0.out, if_neg (by have := HM.out; omega), HZ.out, if_neg h1, if_pos (by have := HM.out; omega)]
    have HN := Lib.hid hN
    clear hN HN0 hm2
    go_enter Try.func18, Try.ntmps18
    go_wp2_with fail
    refine (hv _).mono ?_
    rintro e w2 ⟨rfl, rfl⟩
    go_wp2_with fail
    all_goals
      refine bodyPost_ret (results_ctt (fn := Try.f18) rfl _ _ _ _ rfl (load_frame (f := Frm.none_) hw0)) rfl ?_
      exact ⟨⟨_, _, _, HN.out, rfl⟩, hG0⟩
  have d2 : decide ((m : Int) ≤ 22 + (z : Int)) = false := by simp; omega
  obtain ⟨c, hc⟩ : ∃ c, l.getD (22 + z) 0 = c := ⟨_, rfl⟩
  have hid := fun W => idx_str lb (22 + z) c (by rw [HLB.out, ← hc, List.getD_eq_getElem?_getD, List.getElem?_eq_getElem (by have := HM.out; omega)]; rfl) W
  have e22 : ((22 + z : Nat) : Int) = 22 + (z : Int) := by omega
  rw [e22] at hid
  have HC := Lib.hid hc
  clear hc e22
  by_cases h3 : 1 < c.toNat
  · have hN : nextF s.data.toList a = (Frm.none_, 0, 2) := by rw [HN0.out, if_neg (by have := HM.out; omega), HZ.out, if_neg h1, if_neg (by have := HM.out; omega), HC.out, if_pos h3]
    have HN := Lib.hid hN
    clear hN HN0 hm2
    go_enter Try.func18, Try.ntmps18
    go_wp2_with fail
    refine (hv _).mono ?_
    rintro e w2 ⟨rfl, rfl⟩
    go_wp2_with fail
    all_goals
      refine bodyPost_ret (results_ctt (fn := Try.f18) rfl _ _ _ _ rfl (load_frame (f := Frm.none_) hw0)) rfl ?_
      exact ⟨⟨_, _, _, HN.out, rfl⟩, hG0⟩
  have d3 : decide (1 < (c.toNat : Int)) = false := by simp; omega
  have hN : nextF s.data.toList a = (⟨mkB (l.take 16), (valL ((l.drop 16).take 2) : Nat), mkB ((l.drop 22).take z), c.toNat == 1⟩, (a : Int) + 23 + z, 0) := by
    rw [HN0.out, if_neg (by have := HM.out; omega), HZ.out, if_neg h1, if_neg (by have := HM.out; omega), HC.out, if_neg h3]
  have HN := Lib.hid hN
  clear hN HN0
  go_enter Try.func18, Try.ntmps18
  go_wp2_with fail
  refine (hv _).mono ?_
  rintro e w2 ⟨rfl, rfl⟩
  go_wp2_with fail
  obtain ⟨nb, hnb⟩ : ∃ b, lb.extract 16 18 = b := ⟨_, rfl⟩
  have hnbl : nb.data.toList = (l.drop 16).take 2 := by rw [← hnb, Lib.extract_data, HLB.out]
  have hnbz : nb.size = 2 := by rw [← ba_len, hnbl, List.length_take, List.length_drop]; have := HM.out; omega
  have hv2 := fun W => value_any nb (by omega) W
  rw [hnbl] at hv2
  obtain ⟨N, hNN⟩ : ∃ n, valL ((l.drop 16).take 2) = n := ⟨_, rfl⟩
  rw [hNN] at hv2
  obtain ⟨ib, hib⟩ : ∃ b, lb.extract 0 16 = b := ⟨_, rfl⟩
  obtain ⟨db, hdb⟩ : ∃ b, lb.extract 22 (22 + z) = b := ⟨_, rfl⟩
  have hibm : mkB (l.take 16) = ib := ba_ext (by rw [← hib, Lib.extract_data, HLB.out]; simp [mkB])
  have hdbm : mkB ((l.drop 22).take z) = db := ba_ext (by rw [← hdb, Lib.extract_data, HLB.out]; simp [mkB])
  have hfin := HN.out
  rw [hNN, hibm, hdbm] at hfin
  obtain ⟨b, hb⟩ : ∃ b, (c.toNat == 1) = b := ⟨_, rfl⟩
  rw [hb] at hfin
  have hb1 : ((c.toNat : Int) == 1) = b := by
    rw [← hb]
    by_cases h1 : c.toNat = 1
    · rw [h1]; rfl
    · rw [beq_eq_false_iff_ne.2 h1]; exact beq_eq_false_iff_ne.2 (by omega)
  have HF := Lib.hid hfin
  clear hb
  have q5 : (16 : Int) ≤ (m : Int) := by omega
  have q6 : (18 : Int) ≤ (m : Int) := by omega
  have q7 : (22 : Int) + (z : Int) ≤ (m : Int) := by omega
  have q8 : (22 : Int) ≤ 22 + (z : Int) := by omega
  have q9 : (22 + (z : Int)).toNat = 22 + z := by omega
  have e1 : IntKind.i64.wrap ((a : Int) + (22 + (z : Int))) = (a : Int) + (22 + (z : Int)) := IntWalk.i64_in _ (by omega)
  have e2 : IntKind.i64.wrap ((a : Int) + (22 + (z : Int)) + 1) = (a : Int) + (22 + (z : Int)) + 1 := IntWalk.i64_in _ (by omega)
  have e3 : (a : Int) + (22 + (z : Int)) + 1 = (a : Int) + 23 + (z : Int) := by omega
  have E3 := Lib.hid e3
  clear hnbl hibm hdbm hfin HN hNN HC HM HLB HZ hv hebz heb hm2 e3
  go_region_held3 (fun _ => True) (exact trivial) (first | (go_at_call 23; refine (hv2 _).mono ?_; rintro e w3 ⟨rfl, rfl⟩))
  all_goals
    have hBf := (Blk.new w 24 #[.string ib, .int .i64 N, .string db, .bool b]).drew
    have hGf : w.grownBy (w.alloc (.cells #[.string ib, .int .i64 N, .string db, .bool b] 24)).drew none := only_drew (only_alloc (World.grownBy.refl _ _) _)
    clear hw0 hG0 hv2 hib hdb hnb hid
    go_wp2_with fail
    refine bodyPost_ret (results_ctt (fn := Try.f18) rfl _ _ _ _ rfl (load_frame (f := ⟨ib, N, db, b⟩) hBf)) rfl ?_
    exact ⟨⟨_, _, _, HF.out, by rw [← E3.out]; rfl⟩, hGf⟩
end Go.Proofs.Ytfafjnjdikofcaa
