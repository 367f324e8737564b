/- Wrappers: what plains tells.  Printed by wip/genWrpD.py -/
import Derived.Test.YtdflihfecfmpfaaDoorWrpB
import Derived.Test.YtdflihfecfmpfaaDoorUnrCh
import Derived.Test.YtdflihfecfmpfaaDoorBoxLoop
import Derived.Laws.EntriesVeiled
namespace Go.Proofs.YtdflihfecfmpfaaDoor
open Go.RowKit Go.Shelf
set_option linter.unusedVariables false
set_option linter.unusedSimpArgs false
attribute [local go_sem] Oper.semAt_some

theorem drop_cons {α : Type} {T : List α} {k : Nat} {q : α} {r : List α} (h : T.drop k = q :: r) : ∃ hk : k < T.length, T[k] = q ∧ T.drop (k + 1) = r := by
  have hk : k < T.length := by
    rcases Nat.lt_or_ge k T.length with h1 | h1
    · exact h1
    · rw [List.drop_eq_nil_of_le h1] at h; cases h
  rw [List.drop_eq_getElem_cons hk] at h
  injection h with h1 h2
  exact ⟨hk, h1, h2⟩
theorem fin_take {k m : Nat} (hk : k < m) : (List.finRange m).take k ++ [⟨k, hk⟩] = (List.finRange m).take (k + 1) := by
  rw [List.take_succ_eq_append_getElem (by simpa using hk)]
  simp
theorem fin_all {k m : Nat} (h : m ≤ k) : (List.finRange m).take k = List.finRange m := List.take_of_length_le (by simpa using h)
theorem plains_any (s : ByteArray) (w : World) :
    Calls Tryd.prog 28 #[.string s] w fun e w' => e = .returned (.func (.func 38) #[] #[.pointer (some ⟨w.heap.size, 0, none⟩)]) ∧ w' = w.alloc (.cells #[.string s] 9) := by
  go_enter Tryd.func28, Tryd.ntmps28
  go_wp2
  go_ret
  exact ⟨rfl, rfl⟩
theorem counts_any (s : ByteArray) (w : World) :
    Calls Tryd.prog 29 #[.string s] w fun e w' => e = .returned (.func (.func 40) #[] #[.pointer (some ⟨w.heap.size, 0, none⟩)]) ∧ w' = w.alloc (.cells #[.string s] 9) := by
  go_enter Tryd.func29, Tryd.ntmps29
  go_wp2
  go_ret
  exact ⟨rfl, rfl⟩

set_option maxRecDepth 100000 in
set_option maxHeartbeats 4000000 in
theorem plains1_in (N : Nat) (hN : 1 ≤ N) (l Bs : Nat) (s : ByteArray) (hs : s.size ≤ 1000000000000) (T : List (ByteArray × Int)) (hT : plainT (s.size + 1) s.data.toList 0 = T) (J Jx : List (Fin T.length) → World → Prop)
    (hJ : ∀ pre W W', J pre W → W.grownBy W' none → J pre W')
    (hY : ∀ pre x W, J pre W → pre.length < T.length → YieldAt Fence.wide (N - 1) Tryd.prog l #[.string T[x].1, .int .i64 T[x].2] W fun e W' =>
      (e = .returned (.bool true) ∧ J (pre ++ [x]) W' ∧ KeepS (fun k => k = Bs) W W') ∨ (e = .returned (.bool false) ∧ Jx (pre ++ [x]) W'))
    (W : World) (hBs : W.heap[Bs]? = some (.cells #[.string s] 9 (0, 0))) (h0 : J [] W) :
    CallsIn Fence.wide N Tryd.prog 38 #[.func (.yield l) #[] #[], .pointer (some ⟨Bs, 0, none⟩)] W fun e W' => (∃ v, e = .returned v) ∧
      ((∃ ys, ys = List.finRange T.length ∧ J ys W') ∨ (∃ pre, pre <+: List.finRange T.length ∧ Jx pre W')) := by
  refine callsIn_of_wp Tryd.func38 rfl trivial ?_ rfl
  simp only [Tryd.ntmps38, List.size_toArray, List.length_cons, List.length_nil, Nat.reduceAdd, Nat.reduceSub, Array.replicate_succ, Array.replicate_zero, List.push_toArray, List.append_toArray, List.nil_append, List.cons_append]
  gi_wp2
  gi_loopw [3, 4] (fun x y wr => ∃ (k a fu : Nat), x = .int .i64 (a : Int) ∧ y = .int .i64 (k : Int) ∧ k ≤ 64 ∧ k ≤ T.length ∧ wr.heap[Bs]? = some (.cells #[.string s] 9 (0, 0)) ∧ Hid (plainT fu (s.data.toList.drop a) k = T.drop k) ∧ s.size < fu + a ∧ a ≤ s.size ∧ J ((List.finRange T.length).take k) wr) (fun x _ _ => s.size + 1 - (intOf x).toNat)
  case atStart => exact ⟨0, 0, s.size + 1, rfl, rfl, by omega, by omega, hBs, by rw [List.drop_zero, List.drop_zero]; exact hT, by omega, by omega, h0⟩
  case round =>
    obtain ⟨k, a, fu, rfl, rfl, hk64, hk, bS, hst, hfu, hale, hJk⟩ := hrel
    have c1 : wr.cell? ⟨Bs, 0, none⟩ = some (.string s) := Boxed.cell bS
    have hls : s.data.toList.length = s.size := ba_len s
    by_cases hlt : a < s.size
    · obtain ⟨fu, rfl⟩ : ∃ q, fu = q + 1 := ⟨fu - 1, by omega⟩
      obtain ⟨z1, z2, z3, z4⟩ := look_drop s.data.toList a (by omega)
      have hne : s.data.toList.drop a ≠ [] := by rw [Ne, List.drop_eq_nil_iff]; omega
      have hst' := hst.out
      rw [plainT, if_neg hne] at hst'
      have hnext := fun W => head_any s (a : Int) (by omega) W
      have hPE : plainE (s.data.toList.drop a) k = if 64 ≤ k then 5 else if lookE s.data.toList (a : Int) ≠ 0 then lookE s.data.toList (a : Int) else if lookL s.data.toList (a : Int) = true then 2 else longE (lookN s.data.toList (a : Int)) := by
        unfold plainE; rw [z1, z3, z4]
      have hfit := fun h => look_ok (l := s.data.toList) (a := a) h
      rw [hls] at hfit
      obtain ⟨PE, hPP⟩ : ∃ E, plainE (s.data.toList.drop a) k = E := ⟨_, rfl⟩
      rw [hPP] at hPE
      rw [hPP, ← z3] at hst'
      have hnx : lookE s.data.toList (a : Int) = 0 → ((s.data.toList.drop a).drop (lookFrom (s.data.toList.drop a) 0)).take (lookN s.data.toList (a : Int)) = (s.data.toList.drop (lookFrom s.data.toList (a : Int))).take (lookN s.data.toList (a : Int)) ∧ (s.data.toList.drop a).drop (lookFrom (s.data.toList.drop a) 0 + lookN s.data.toList (a : Int)) = s.data.toList.drop (lookFrom s.data.toList (a : Int) + lookN s.data.toList (a : Int)) := fun h => by
        rw [z2 h, List.drop_drop, List.drop_drop, Nat.add_assoc]; exact ⟨rfl, rfl⟩
      obtain ⟨E0, hE0⟩ : ∃ E, lookE s.data.toList (a : Int) = E := ⟨_, rfl⟩
      obtain ⟨F, hF⟩ : ∃ E, lookFrom s.data.toList (a : Int) = E := ⟨_, rfl⟩
      obtain ⟨M, hM⟩ : ∃ E, lookN s.data.toList (a : Int) = E := ⟨_, rfl⟩
      obtain ⟨Lb, hLb⟩ : ∃ E, lookL s.data.toList (a : Int) = E := ⟨_, rfl⟩
      rw [hE0, hF, hM, hLb] at hnext
      rw [hM] at hst'
      rw [hE0, hM, hLb] at hPE
      have HPE := Lib.hid hPE
      rw [hE0, hF, hM] at hnx hfit
      have HFIT := Lib.hid fun h => (hfit h).2
      have HNX := Lib.hid hnx
      have HNEXT := Lib.hid hnext
      have HST := Lib.hid hst'
      have q0 : decide ((a : Int) < (s.size : Int)) = true := by simp; omega
      clear hst hst' hnx hfit hnext hPE hPP z1 z2 z3 z4 hE0 hF hM hLb hne
      by_cases h64 : 64 ≤ k
      · have d64 : decide ((64 : Int) ≤ (k : Int)) = true := by simp; omega
        have H64 := Lib.hid h64
        have hTk : T.drop k = [((⟨#[]⟩ : ByteArray), 5)] := by
          have hP : PE = 5 := by
            rw [HPE.out]
            rw [if_pos H64.out]
          have := HST.out
          rw [hP, if_pos (by decide)] at this
          exact this.symm
        obtain ⟨hkT, hgk, hgr⟩ := drop_cons hTk
        have hkl : T.length ≤ k + 1 := List.drop_eq_nil_iff.1 hgr
        have hY1 := fun W h => hY _ ⟨k, hkT⟩ W (hJ _ wr W hJk h) (by simp; omega)
        rw [fin_take hkT] at hY1
        simp only [Fin.getElem_fin, hgk] at hY1
        rw [fin_all hkl] at hY1
        clear hTk hgk hgr hkl hkT HST HNX HFIT
        clear h64
        gi_wp2
        refine ⟨trivial, (callsIn_wide.2 (HNEXT.out wr)).mono ?_⟩
        rintro e' w2 ⟨rfl, hg⟩
        clear HNEXT
        obtain ⟨fn, tmps, assign, body, hy, hRr⟩ := hY1 _ hg
        clear hY1 hg c1 bS
        gi_wp2
        refine hRr.mono ?_
        rintro e' W3 (⟨rfl, hJ3, hk3⟩ | ⟨rfl, hJx3⟩)
        · clear hy
          gi_wp2
          refine bodyPost_ret (results_none rfl _ _ _) rfl ?_
          exact ⟨⟨_, rfl⟩, .inl ⟨_, rfl, hJ3⟩⟩
        · clear hy
          gi_wp2
          refine bodyPost_ret (results_none rfl _ _ _) rfl ?_
          exact ⟨⟨_, rfl⟩, .inr ⟨_, List.prefix_refl _, hJx3⟩⟩
      have d64 : decide ((64 : Int) ≤ (k : Int)) = false := by simp; omega
      have H64 := Lib.hid h64
      by_cases hE0 : E0 = 0
      rotate_left
      · have d0 : (E0 == 0) = false := by simpa using hE0
        have d1 : (E0 != 0) = true := by simpa using hE0
        have HE0 := Lib.hid hE0
        clear hE0 h64
        have hTk : T.drop k = [((⟨#[]⟩ : ByteArray), E0)] := by
          have hP : PE = E0 := by
            rw [HPE.out]
            rw [if_neg H64.out, if_pos HE0.out]
          have := HST.out
          rw [hP, if_pos HE0.out] at this
          exact this.symm
        obtain ⟨hkT, hgk, hgr⟩ := drop_cons hTk
        have hkl : T.length ≤ k + 1 := List.drop_eq_nil_iff.1 hgr
        have hY1 := fun W h => hY _ ⟨k, hkT⟩ W (hJ _ wr W hJk h) (by simp; omega)
        rw [fin_take hkT] at hY1
        simp only [Fin.getElem_fin, hgk] at hY1
        rw [fin_all hkl] at hY1
        clear hTk hgk hgr hkl hkT HST HNX HFIT
        gi_wp2
        refine ⟨trivial, (callsIn_wide.2 (HNEXT.out wr)).mono ?_⟩
        rintro e' w2 ⟨rfl, hg⟩
        clear HNEXT
        obtain ⟨fn, tmps, assign, body, hy, hRr⟩ := hY1 _ hg
        clear hY1 hg c1 bS
        gi_wp2
        refine hRr.mono ?_
        rintro e' W3 (⟨rfl, hJ3, hk3⟩ | ⟨rfl, hJx3⟩)
        · clear hy
          gi_wp2
          refine bodyPost_ret (results_none rfl _ _ _) rfl ?_
          exact ⟨⟨_, rfl⟩, .inl ⟨_, rfl, hJ3⟩⟩
        · clear hy
          gi_wp2
          refine bodyPost_ret (results_none rfl _ _ _) rfl ?_
          exact ⟨⟨_, rfl⟩, .inr ⟨_, List.prefix_refl _, hJx3⟩⟩
      subst hE0
      cases Lb with
      | true =>
        clear h64
        have hTk : T.drop k = [((⟨#[]⟩ : ByteArray), 2)] := by
          have hP : PE = 2 := by
            rw [HPE.out]
            rw [if_neg H64.out, if_neg (by simp), if_pos rfl]
          have := HST.out
          rw [hP, if_pos (by decide)] at this
          exact this.symm
        obtain ⟨hkT, hgk, hgr⟩ := drop_cons hTk
        have hkl : T.length ≤ k + 1 := List.drop_eq_nil_iff.1 hgr
        have hY1 := fun W h => hY _ ⟨k, hkT⟩ W (hJ _ wr W hJk h) (by simp; omega)
        rw [fin_take hkT] at hY1
        simp only [Fin.getElem_fin, hgk] at hY1
        rw [fin_all hkl] at hY1
        clear hTk hgk hgr hkl hkT HST HNX HFIT
        gi_wp2
        refine ⟨trivial, (callsIn_wide.2 (HNEXT.out wr)).mono ?_⟩
        rintro e' w2 ⟨rfl, hg⟩
        clear HNEXT
        obtain ⟨fn, tmps, assign, body, hy, hRr⟩ := hY1 _ hg
        clear hY1 hg c1 bS
        gi_wp2
        refine hRr.mono ?_
        rintro e' W3 (⟨rfl, hJ3, hk3⟩ | ⟨rfl, hJx3⟩)
        · clear hy
          gi_wp2
          refine bodyPost_ret (results_none rfl _ _ _) rfl ?_
          exact ⟨⟨_, rfl⟩, .inl ⟨_, rfl, hJ3⟩⟩
        · clear hy
          gi_wp2
          refine bodyPost_ret (results_none rfl _ _ _) rfl ?_
          exact ⟨⟨_, rfl⟩, .inr ⟨_, List.prefix_refl _, hJx3⟩⟩
      | false =>
      have hfit := HFIT.out rfl
      have hlong := fun W => long_any M W
      have vM : IntKind.u64.wrap (M : Int) = (M : Int) := wrap_nat64 (by omega)
      by_cases hLE : longE M = 0
      rotate_left
      · have HLE := Lib.hid hLE
        obtain ⟨E, hE⟩ : ∃ E, longE M = E := ⟨_, rfl⟩
        rw [hE] at hlong HPE HLE hLE
        have d1 : (E != 0) = true := by simpa using hLE
        have HLONG := Lib.hid hlong
        clear hLE hE hlong hfit h64
        have hTk : T.drop k = [((⟨#[]⟩ : ByteArray), E)] := by
          have hP : PE = E := by
            rw [HPE.out]
            rw [if_neg H64.out, if_neg (by simp), if_neg (by simp)]
          have := HST.out
          rw [hP, if_pos HLE.out] at this
          exact this.symm
        obtain ⟨hkT, hgk, hgr⟩ := drop_cons hTk
        have hkl : T.length ≤ k + 1 := List.drop_eq_nil_iff.1 hgr
        have hY1 := fun W h => hY _ ⟨k, hkT⟩ W (hJ _ wr W hJk h) (by simp; omega)
        rw [fin_take hkT] at hY1
        simp only [Fin.getElem_fin, hgk] at hY1
        rw [fin_all hkl] at hY1
        clear hTk hgk hgr hkl hkT HST HNX HFIT
        gi_wp2
        refine ⟨trivial, (callsIn_wide.2 (HNEXT.out wr)).mono ?_⟩
        rintro e' w2 ⟨rfl, hg⟩
        clear HNEXT
        gi_wp2
        refine ⟨trivial, (callsIn_wide.2 (HLONG.out w2)).mono ?_⟩
        rintro e' w3 ⟨rfl, hg3⟩
        replace hg := grown_self hg hg3 (by simp)
        obtain ⟨fn, tmps, assign, body, hy, hRr⟩ := hY1 _ hg
        clear HLONG hg3
        clear hY1 hg c1 bS
        gi_wp2
        refine hRr.mono ?_
        rintro e' W3 (⟨rfl, hJ3, hk3⟩ | ⟨rfl, hJx3⟩)
        · clear hy
          gi_wp2
          refine bodyPost_ret (results_none rfl _ _ _) rfl ?_
          exact ⟨⟨_, rfl⟩, .inl ⟨_, rfl, hJ3⟩⟩
        · clear hy
          gi_wp2
          refine bodyPost_ret (results_none rfl _ _ _) rfl ?_
          exact ⟨⟨_, rfl⟩, .inr ⟨_, List.prefix_refl _, hJx3⟩⟩
      rw [hLE] at hlong
      have hnx := HNX.out rfl
      have hTk : T.drop k = ((⟨((s.data.toList.drop F).take M).toArray⟩ : ByteArray), 0) :: plainT fu (s.data.toList.drop (F + M)) (k + 1) := by
        have hP : PE = 0 := by
          rw [HPE.out, if_neg H64.out, if_neg (by simp), if_neg (by simp)]
          exact hLE
        have := HST.out
        rw [hP, if_neg (by simp), hnx.1, hnx.2] at this
        exact this.symm
      obtain ⟨hkT, hgk, hgr⟩ := drop_cons hTk
      rw [← ba_part] at hgk
      have hY1 := fun W h => hY _ ⟨k, hkT⟩ W (hJ _ wr W hJk h) (by simp; omega)
      rw [fin_take hkT] at hY1
      simp only [Fin.getElem_fin, hgk] at hY1
      have HGR := Lib.hid hgr
      have HLONG := Lib.hid hlong
      have HKT := Lib.hid (show k + 1 ≤ T.length from hkT)
      have hM2 := longE_0.1 hLE
      have v1 : IntKind.i64.wrap ((F : Int) + (M : Int)) = (F : Int) + (M : Int) := IntWalk.i64_in _ (by omega)
      have v2 : IntKind.i64.wrap ((k : Int) + 1) = (k : Int) + 1 := IntWalk.i64_in _ (by omega)
      clear hTk hgk hgr hkT HST HNX HFIT hlong hnx hLE h64
      gi_wp2
      refine ⟨trivial, (callsIn_wide.2 (HNEXT.out wr)).mono ?_⟩
      rintro e' w2 ⟨rfl, hg⟩
      clear HNEXT
      gi_wp2
      refine ⟨trivial, (callsIn_wide.2 (HLONG.out w2)).mono ?_⟩
      rintro e' w3 ⟨rfl, hg3⟩
      replace hg := grown_self hg hg3 (by simp)
      obtain ⟨fn, tmps, assign, body, hy, hRr⟩ := hY1 _ hg
      have bS3 := Boxed.kept bS hg (by simp)
      have c3 : w3.cell? ⟨Bs, 0, none⟩ = some (.string s) := Boxed.cell bS3
      clear HLONG hg3 hY1 hg c1 bS
      gi_wp2
      refine hRr.mono ?_
      rintro e' W3 (⟨rfl, hJ3, hk3⟩ | ⟨rfl, hJx3⟩)
      · have bS4 : Boxed W3 Bs 9 (.string s) := (hk3.block Bs rfl).trans bS3
        clear hy bS3 c3 hk3 hRr
        gi_wp2
        refine ⟨⟨k + 1, F + M, fu, by simp, by simp, by have := H64.out; omega, HKT.out, bS4, Lib.hid HGR.out.symm, by omega, by omega, hJ3⟩, by simp [intOf]; omega⟩
      · clear hy bS3 c3 hRr
        gi_wp2
        refine bodyPost_ret (results_none rfl _ _ _) rfl ?_
        exact ⟨⟨_, rfl⟩, .inr ⟨_, List.take_prefix _ _, hJx3⟩⟩
    · have hd : T.drop k = [] := by
        rw [← hst.out]
        cases fu with
        | zero => rfl
        | succ fu => rw [plainT, if_pos (List.drop_eq_nil_iff.2 (by omega))]
      have hkl : T.length ≤ k := List.drop_eq_nil_iff.1 hd
      rw [fin_all hkl] at hJk
      have q0 : decide ((a : Int) < (s.size : Int)) = false := by simp; omega
      clear hst hd
      gi_wp2
      go_end0
      exact ⟨⟨_, rfl⟩, .inl ⟨_, rfl, hJk⟩⟩
end Go.Proofs.YtdflihfecfmpfaaDoor
