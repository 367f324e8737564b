/- The iterator of frames. -/
import Derived.Test.YtfafjnjdikofcaaFrmJ
import Derived.Test.YtfafjnjdikofcaaBoxLoop
import Derived.Laws.EntriesVeiled
namespace Go.Proofs.Ytfafjnjdikofcaa
open Go.RowKit Go.Shelf
attribute [local go_sem] Oper.semAt_some

/-- what is told, from a place on -/
def tellsL (l : List UInt8) : Nat → Nat → List (Frm × Int)
  | 0, _ => []
  | n + 1, a => if a < l.length then
      if (nextT (l.drop a)).2.2 = 0 then ((nextT (l.drop a)).1, 0) :: tellsL l n (a + (nextT (l.drop a)).2.1) else [((nextT (l.drop a)).1, (nextT (l.drop a)).2.2)]
    else []

theorem fEach_any (s : ByteArray) (a : Int) (w : World) :
    Calls Try.prog 22 #[.string s, .int .i64 a] w fun e w' => e = .returned (.func (.func 26) #[] #[.pointer (some ⟨w.heap.size + 1, 0, none⟩), .pointer (some ⟨w.heap.size, 0, none⟩)]) ∧ w' = (w.alloc (.cells #[.string s] 9)).alloc (.cells #[.int .i64 a] 3) := by
  go_enter Try.func22, Try.ntmps22
  go_wp2
  go_ret
  exact ⟨rfl, rfl⟩

theorem next_is (s : ByteArray) (p : Int) (f : Frm) (q x : Int) (h : nextF s.data.toList p = (f, q, x)) (hs : s.size ≤ 9223372036854770000) (w : World) :
    Calls Try.prog 18 #[.string s, .int .i64 p] w fun e w' => e = .returned (.tuple #[.agg #[.string f.id, .int .i64 f.num, .string f.data, .bool f.last], .int .i64 q, .int .i64 x]) ∧ w.grownBy w' none := by
  refine (next_any s p hs w).mono ?_
  rintro e w' ⟨⟨f', q', x', h', rfl⟩, hg⟩
  rw [h] at h'
  injection h' with h1 h2
  injection h2 with h2 h3
  subst h1; subst h2; subst h3
  exact ⟨rfl, hg⟩
theorem only_weak {a w : World} (h : a.grownBy w none) (row : Option Nat) : a.grownBy w row := ⟨h.os, h.tape, h.output, h.size, fun i hi _ => h.block i hi (by simp)⟩

set_option maxRecDepth 100000 in
set_option maxHeartbeats 1000000 in
theorem fEach1_in (N : Nat) (hN : 1 ≤ N) (l Bs Ba : Nat) (hne : Bs ≠ Ba) (s : ByteArray) (hs : s.size ≤ 1000000000000) (a0 : Nat) (T : List (Frm × Int)) (hT : tellsL s.data.toList (s.size + 1) a0 = T) (J Jx : List (Fin T.length) → World → Prop)
    (hJ : BoxFree Ba J)
    (hY : ∀ pre x W, J pre W → pre.length < T.length → YieldAt Fence.wide (N - 1) Try.prog l #[.agg #[.string T[x].1.id, .int .i64 T[x].1.num, .string T[x].1.data, .bool T[x].1.last], .int .i64 T[x].2] W fun e W' =>
      (e = .returned (.bool true) ∧ J (pre ++ [x]) W' ∧ KeepS (fun k => k = Bs ∨ k = Ba) W W') ∨ (e = .returned (.bool false) ∧ Jx (pre ++ [x]) W'))
    (W : World) (hBs : W.heap[Bs]? = some (.cells #[.string s] 9 (0, 0))) (hBa : W.heap[Ba]? = some (.cells #[.int .i64 (a0 : Int)] 3 (0, 0))) (h0 : J [] W) :
    CallsIn Fence.wide N Try.prog 26 #[.func (.yield l) #[] #[], .pointer (some ⟨Ba, 0, none⟩), .pointer (some ⟨Bs, 0, none⟩)] W fun e W' => (∃ v, e = .returned v) ∧
      ((∃ ys, ys = List.finRange T.length ∧ J ys W') ∨ (∃ pre, pre <+: List.finRange T.length ∧ Jx pre W')) := by
  refine callsIn_of_wp Try.func26 rfl trivial ?_ rfl
  simp only [Try.ntmps26, List.size_toArray, List.length_cons, List.length_nil, Nat.reduceAdd, Nat.reduceSub, Array.replicate_succ, Array.replicate_zero, List.push_toArray, List.append_toArray, List.nil_append, List.cons_append]
  gi_wp2
  gi_loopw [] (fun wr => ∃ (k a fu : Nat), k ≤ T.length ∧ wr.heap[Bs]? = some (.cells #[.string s] 9 (0, 0)) ∧ wr.heap[Ba]? = some (.cells #[.int .i64 (a : Int)] 3 (0, 0)) ∧ Hid (tellsL s.data.toList fu a = T.drop k) ∧ s.size < fu + a ∧ J ((List.finRange T.length).take k) wr) (fun wr => s.size + 1 - (intOf ((wr.cell? ⟨Ba, 0, none⟩).getD undef)).toNat)
  case atStart => exact ⟨0, a0, s.size + 1, by omega, hBs, hBa, hT, by omega, h0⟩
  case round =>
    obtain ⟨k, a, fu, hk, bS, bA, hst, hfu, hJk⟩ := hrel
    have c1 : wr.cell? ⟨Bs, 0, none⟩ = some (.string s) := Boxed.cell bS
    have c2 : wr.cell? ⟨Ba, 0, none⟩ = some (.int .i64 (a : Int)) := Boxed.cell bA
    have hls : s.data.toList.length = s.size := ba_len s
    by_cases hlt : a < s.size
    · obtain ⟨fu, rfl⟩ : ∃ q, fu = q + 1 := ⟨fu - 1, by omega⟩
      obtain ⟨f, n, e, hR⟩ : ∃ f n e, nextT (s.data.toList.drop a) = (f, n, e) := ⟨_, _, _, rfl⟩
      have hnx := nextF_T s.data.toList a (by omega)
      rw [hR] at hnx
      have hst' := hst.out
      rw [tellsL, if_pos (by omega), hR] at hst'
      simp only at hst' hnx
      have hTk : T.drop k = (f, e) :: (if e = 0 then tellsL s.data.toList fu (a + n) else []) := by
        rw [← hst']; split
        · rename_i h; rw [h]
        · rfl
      have hkT : k < T.length := by
        rcases Nat.lt_or_ge k T.length with h | h
        · exact h
        · rw [List.drop_eq_nil_of_le h] at hTk; cases hTk
      have hgk : T[k] = (f, e) ∧ T.drop (k + 1) = (if e = 0 then tellsL s.data.toList fu (a + n) else []) := by
        rw [List.drop_eq_getElem_cons hkT] at hTk
        injection hTk with h1 h2
        exact ⟨h1, h2⟩
      have htk : (List.finRange T.length).take k ++ [⟨k, hkT⟩] = (List.finRange T.length).take (k + 1) := by
        rw [List.take_succ_eq_append_getElem (by simp; exact hkT)]
        simp
      have hnext := fun W => next_is s a f _ e hnx (by omega) W
      obtain ⟨q, hq⟩ : ∃ q : Int, (if e = 0 then (a : Int) + n else 0) = q := ⟨_, rfl⟩
      rw [hq] at hnext
      have hY1 := fun W h => hY _ ⟨k, hkT⟩ W (hJ.grown _ wr W hJk h) (by simp; omega)
      rw [htk] at hY1
      have hgk1 := hgk.1
      simp only [Fin.getElem_fin, hgk1] at hY1
      obtain ⟨id, num, data, last⟩ := f
      have HST := Lib.hid hgk.2; have HQ := Lib.hid hq
      have HR := Lib.hid hR
      have C2 := Lib.hid c2
      clear hst hst' hnx hTk hgk hgk1 htk hq hR hls
      gi_wp2
      refine ⟨trivial, (callsIn_wide.2 (hnext wr)).mono ?_⟩
      rintro e' w2 ⟨rfl, hg⟩
      have hgA : wr.grownBy (w2.alloc (.cells #[.string id, .int .i64 num, .string data, .bool last] 24)) none := only_alloc hg _
      have bS2 := Boxed.kept bS hgA (by simp)
      have bA2 := Boxed.kept bA hgA (by simp)
      obtain ⟨fn, tmps, assign, body, hy, hRr⟩ := hY1 _ hgA
      clear hnext hgA hg c1 c2 hY1
      gi_wp2
      refine hRr.mono ?_
      rintro e' W3 (⟨rfl, hJ3, hk3⟩ | ⟨rfl, hJx3⟩)
      · have bS3 : Boxed W3 Bs 9 (.string s) := (hk3.block Bs (.inl rfl)).trans bS2
        have bA3 : Boxed W3 Ba 3 (.int .i64 (a : Int)) := (hk3.block Ba (.inr rfl)).trans bA2
        have c3 := bA3.cell
        have f3 := bA3.frozen
        clear hk3 hRr hy bS2 bA2 bS bA
        by_cases he : e = 0
        · subst he
          have hq2 := HQ.out
          rw [if_pos rfl] at hq2
          subst hq2
          have hJ4 := hJ.set _ W3 (.int .i64 ((a : Int) + n)) hJ3
          have bA4 := bA3.set (.int .i64 ((a : Int) + n))
          have bS4 := bS3.other hne (.int .i64 ((a : Int) + n))
          have c4 := bA4.cell
          have hn1 : 1 ≤ n ∧ a + n ≤ s.size := by
            have := nextT_only _ _ _ HR.out
            have hl := bytesF_len _ this.1
            have hls : s.data.toList.length = s.size := ba_len s
            rw [List.length_drop] at this
            omega
          clear HR
          gi_wp2
          refine ⟨⟨k + 1, a + n, fu, by omega, bS4, by rw [Int.natCast_add]; exact bA4, ?_, by omega, hJ4⟩, ?_⟩
          · exact Lib.hid (by have := HST.out; simpa using this.symm)
          · rw [c4, C2.out]; simp [intOf]; omega
        · have hne1 : (e != 0) = true := by simpa using he
          have hd := HST.out
          rw [if_neg he] at hd
          have hkl : T.length ≤ k + 1 := List.drop_eq_nil_iff.1 hd
          have htk : (List.finRange T.length).take (k + 1) = List.finRange T.length := List.take_of_length_le (by simpa using hkl)
          rw [htk] at hJ3
          clear HST HR HQ hd htk
          gi_wp2
          refine bodyPost_ret (results_none rfl _ _ _) rfl ?_
          exact ⟨⟨_, rfl⟩, .inl ⟨_, rfl, hJ3⟩⟩
      · clear hy bS2 bA2 bS bA HR HQ HST
        gi_wp2
        refine bodyPost_ret (results_none rfl _ _ _) rfl ?_
        exact ⟨⟨_, rfl⟩, .inr ⟨_, List.take_prefix _ _, hJx3⟩⟩
    · have hd : T.drop k = [] := by
        rw [← hst.out]
        cases fu with
        | zero => rfl
        | succ fu => rw [tellsL, if_neg (by omega)]
      have hkl : T.length ≤ k := List.drop_eq_nil_iff.1 hd
      have htk : (List.finRange T.length).take k = List.finRange T.length := List.take_of_length_le (by simpa using hkl)
      rw [htk] at hJk
      have d1 : decide ((a : Int) < (s.size : Int)) = false := by simp; omega
      have d2 : decide (a < s.size) = false := by simp; omega
      clear hst hd htk
      gi_wp2
      go_end0
      exact ⟨⟨_, rfl⟩, .inl ⟨_, rfl, hJk⟩⟩
end Go.Proofs.Ytfafjnjdikofcaa
