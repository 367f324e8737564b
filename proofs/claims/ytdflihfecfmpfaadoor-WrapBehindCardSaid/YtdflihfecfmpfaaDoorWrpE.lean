/- Wrappers: what counts tells.  Printed by wip/genWrpE.py -/
import Derived.Test.YtdflihfecfmpfaaDoorWrpD
import Derived.Test.YtdflihfecfmpfaaDoorUnvar
namespace Go.Proofs.YtdflihfecfmpfaaDoor
open Go.RowKit Go.Shelf
set_option linter.unusedVariables false
set_option linter.unusedSimpArgs false
attribute [local go_sem] Oper.semAt_some

theorem unvar_in (N : Nat) (s : ByteArray) (a : Nat) (hs : s.size ≤ 1000000000000) (w : World) (n q : Nat) (f : Int) (h1 : (unvarS s.data.toList (a : Int)).1.toNat = n) (h2 : (unvarS s.data.toList (a : Int)).2.1 = q) (h3 : (unvarS s.data.toList (a : Int)).2.2 = f) :
    CallsIn Fence.wide N Tryd.prog 41 #[.string s, .int .i64 (a : Int)] w fun e w' => e = .returned (.tuple #[.int .u64 (n : Int), .int .i64 (q : Int), .int .i64 f]) ∧ w.grownBy w' none :=
  callsIn_wide.2 ((unvar_any s (a : Int) hs w).mono fun e w' ⟨he, hb⟩ => ⟨by rw [he, h1, h2, h3], grown_of_below hb⟩)

set_option maxRecDepth 100000 in
set_option maxHeartbeats 8000000 in
theorem counts1_in (N : Nat) (hN : 1 ≤ N) (l Bs : Nat) (s : ByteArray) (hs : s.size ≤ 1000000000000) (T : List (ByteArray × Int)) (hT : countT s.data.toList = T) (J Jx : List (Fin T.length) → World → Prop)
    (hJ : ∀ pre W W', J pre W → W.grownBy W' none → J pre W')
    (hY : ∀ pre x W, J pre W → pre.length < T.length → YieldAt Fence.wide (N - 1) Tryd.prog l #[.string T[x].1, .int .i64 T[x].2] W fun e W' =>
      (e = .returned (.bool true) ∧ J (pre ++ [x]) W' ∧ KeepS (fun k => k = Bs) W W') ∨ (e = .returned (.bool false) ∧ Jx (pre ++ [x]) W'))
    (W : World) (hBs : W.heap[Bs]? = some (.cells #[.string s] 9 (0, 0))) (h0 : J [] W) :
    CallsIn Fence.wide N Tryd.prog 40 #[.func (.yield l) #[] #[], .pointer (some ⟨Bs, 0, none⟩)] W fun e W' => (∃ v, e = .returned v) ∧
      ((∃ ys, ys = List.finRange T.length ∧ J ys W') ∨ (∃ pre, pre <+: List.finRange T.length ∧ Jx pre W')) := by
  have hls : s.data.toList.length = s.size := ba_len s
  refine callsIn_of_wp Tryd.func40 rfl trivial ?_ rfl
  simp only [Tryd.ntmps40, List.size_toArray, List.length_cons, List.length_nil, Nat.reduceAdd, Nat.reduceSub, Array.replicate_succ, Array.replicate_zero, List.push_toArray, List.append_toArray, List.nil_append, List.cons_append]
  obtain ⟨m, hm⟩ : ∃ m, (unvarS s.data.toList ((1 : Nat) : Int)).1.toNat = m := ⟨_, rfl⟩
  obtain ⟨a0, ha0⟩ : ∃ m, (unvarS s.data.toList ((1 : Nat) : Int)).2.1 = m := ⟨_, rfl⟩
  obtain ⟨e0, he0⟩ : ∃ m, (unvarS s.data.toList ((1 : Nat) : Int)).2.2 = m := ⟨_, rfl⟩
  have hu1 := fun V => unvar_in (N - 1) s 1 hs V m a0 e0 hm ha0 he0
  rw [show (((1 : Nat)) : Int) = 1 from rfl] at hu1
  have HU := Lib.hid hu1
  clear hu1
  have hme : manyE s.data.toList = if e0 = 0 ∧ m = 0 then 2 else if 64 < m then 5 else e0 := by
    unfold manyE
    have k1 : (unvarS s.data.toList 1).1.toNat = m := hm
    have k3 : (unvarS s.data.toList 1).2.2 = e0 := he0
    rw [k1, k3]
  have hct : countT s.data.toList = if manyE s.data.toList ≠ 0 then [(⟨#[]⟩, manyE s.data.toList)] else countGo s.data.toList m a0 := by
    unfold countT
    have k1 : (unvarS s.data.toList 1).1.toNat = m := hm
    have k2 : (unvarS s.data.toList 1).2.1 = a0 := ha0
    rw [k1, k2]
  have ha0l : e0 = 0 → a0 ≤ s.size := fun h => by
    have hu : unvarS s.data.toList ((1 : Nat) : Int) = ((unvarS s.data.toList ((1 : Nat) : Int)).1, a0, 0) := Prod.ext rfl (Prod.ext ha0 (he0.trans h))
    have := (unvarS_only _ _ _ _ hu).2.1
    omega
  have hm0 : e0 ≠ 0 → m = 0 := fun h => by
    have := (unvarS_bad s.data.toList ((1 : Nat) : Int) (by rw [he0]; exact h)).1
    rw [← hm, this]; rfl
  rw [hct] at hT
  obtain ⟨ME, hME⟩ : ∃ E, manyE s.data.toList = E := ⟨_, rfl⟩
  rw [hME] at hT hme
  have bS : Boxed W Bs 9 (.string s) := hBs
  have c1 : W.cell? ⟨Bs, 0, none⟩ = some (.string s) := Boxed.cell bS
  have HT := Lib.hid hT
  clear hm ha0 he0 hct hME hT hBs
  by_cases hM0 : ME = 0
  rotate_left
  · have hTk : T.drop 0 = [((⟨#[]⟩ : ByteArray), ME)] := by
      have := HT.out
      rw [if_pos hM0] at this
      exact this.symm
    obtain ⟨hkT, hgk, hgr⟩ := drop_cons hTk
    have hkl : T.length ≤ 0 + 1 := List.drop_eq_nil_iff.1 hgr
    have h0' : J ((List.finRange T.length).take 0) W := h0
    have hY1 := fun V h => hY _ ⟨0, hkT⟩ V (hJ _ W V h0' h) (by simpa using hkT)
    rw [fin_take hkT] at hY1
    simp only [Fin.getElem_fin, hgk] at hY1
    rw [fin_all hkl] at hY1
    have hway : (e0 = 0 ∧ m = 0 ∧ ME = 2) ∨ (64 < m ∧ m ≠ 0 ∧ e0 = 0 ∧ ME = 5) ∨ (e0 ≠ 0 ∧ m = 0 ∧ ME = e0) := by
      by_cases k1 : e0 = 0
      · by_cases k2 : m = 0
        · exact .inl ⟨k1, k2, by rw [hme, if_pos ⟨k1, k2⟩]⟩
        · by_cases k3 : 64 < m
          · exact .inr (.inl ⟨k3, k2, k1, by rw [hme, if_neg (fun h => k2 h.2), if_pos k3]⟩)
          · exact absurd (by rw [hme, if_neg (fun h => k2 h.2), if_neg k3, k1]) hM0
      · have k2 := hm0 k1
        exact .inr (.inr ⟨k1, k2, by rw [hme, if_neg (fun h => k1 h.1), if_neg (by omega)]⟩)
    have hm64 : m < 18446744073709551616 → True := fun _ => trivial
    clear hTk hgk hgr hkl hkT hme ha0l hm0 hM0 HT hJ hY h0 h0'
    rcases hway with ⟨rfl, rfl, rfl⟩ | ⟨k1, k2, rfl, rfl⟩ | ⟨k1, rfl, rfl⟩
    · skip
      gi_wp2
      refine ⟨trivial, (HU.out W).mono ?_⟩
      rintro e' w2 ⟨rfl, hg⟩
      clear HU
      have bS2 := Boxed.kept bS hg (by simp)
      have c2 : w2.cell? ⟨Bs, 0, none⟩ = some (.string s) := Boxed.cell bS2
      have hY2 := hY1 _ hg
      clear c1 bS hY1 hg bS2
      gi_wp2
      gi_loopw [4, 5, 6] (fun x y z wr => x = .int .i64 (a0 : Int) ∧ y = .int .i64 2 ∧ z = .int .u64 0 ∧ wr = w2) (fun _ _ _ _ => 0)
      case atStart => exact ⟨rfl, rfl, rfl, rfl⟩
      case round =>
        obtain ⟨rfl, rfl, rfl, rfl⟩ := hrel
        obtain ⟨fn, tmps, assign, body, hy, hRr⟩ := hY2
        gi_wp2
        refine hRr.mono ?_
        rintro e' W3 (⟨rfl, hJ3, hk3⟩ | ⟨rfl, hJx3⟩)
        · clear hy
          gi_wp2
          go_end0
          exact ⟨⟨_, rfl⟩, .inl ⟨_, rfl, hJ3⟩⟩
        · clear hy
          gi_wp2
          go_end0
          exact ⟨⟨_, rfl⟩, .inr ⟨_, List.prefix_refl _, hJx3⟩⟩
    · have g1 : ((m : Int) == 0) = false := by rw [beq_eq_false_iff_ne]; omega
      have g2 : decide ((64 : Int) < (m : Int)) = true := by simp; omega
      have g3 : decide ((0 : Int) < (m : Int)) = true := by simp; omega
      gi_wp2
      refine ⟨trivial, (HU.out W).mono ?_⟩
      rintro e' w2 ⟨rfl, hg⟩
      clear HU
      have bS2 := Boxed.kept bS hg (by simp)
      have c2 : w2.cell? ⟨Bs, 0, none⟩ = some (.string s) := Boxed.cell bS2
      have hY2 := hY1 _ hg
      clear c1 bS hY1 hg bS2
      gi_wp2
      gi_loopw [4, 5, 6] (fun x y z wr => x = .int .i64 (a0 : Int) ∧ y = .int .i64 5 ∧ z = .int .u64 0 ∧ wr = w2) (fun _ _ _ _ => 0)
      case atStart => exact ⟨rfl, rfl, rfl, rfl⟩
      case round =>
        obtain ⟨rfl, rfl, rfl, rfl⟩ := hrel
        obtain ⟨fn, tmps, assign, body, hy, hRr⟩ := hY2
        gi_wp2
        refine hRr.mono ?_
        rintro e' W3 (⟨rfl, hJ3, hk3⟩ | ⟨rfl, hJx3⟩)
        · clear hy
          gi_wp2
          go_end0
          exact ⟨⟨_, rfl⟩, .inl ⟨_, rfl, hJ3⟩⟩
        · clear hy
          gi_wp2
          go_end0
          exact ⟨⟨_, rfl⟩, .inr ⟨_, List.prefix_refl _, hJx3⟩⟩
    · have g1 : (ME == 0) = false := by simpa using k1
      have g4 : (ME != 0) = true := by simpa using k1
      gi_wp2
      refine ⟨trivial, (HU.out W).mono ?_⟩
      rintro e' w2 ⟨rfl, hg⟩
      clear HU
      have bS2 := Boxed.kept bS hg (by simp)
      have c2 : w2.cell? ⟨Bs, 0, none⟩ = some (.string s) := Boxed.cell bS2
      have hY2 := hY1 _ hg
      clear c1 bS hY1 hg bS2
      gi_wp2
      gi_loopw [4, 5, 6] (fun x y z wr => x = .int .i64 (a0 : Int) ∧ y = .int .i64 ME ∧ z = .int .u64 0 ∧ wr = w2) (fun _ _ _ _ => 0)
      case atStart => exact ⟨rfl, rfl, rfl, rfl⟩
      case round =>
        obtain ⟨rfl, rfl, rfl, rfl⟩ := hrel
        obtain ⟨fn, tmps, assign, body, hy, hRr⟩ := hY2
        gi_wp2
        refine hRr.mono ?_
        rintro e' W3 (⟨rfl, hJ3, hk3⟩ | ⟨rfl, hJx3⟩)
        · clear hy
          gi_wp2
          go_end0
          exact ⟨⟨_, rfl⟩, .inl ⟨_, rfl, hJ3⟩⟩
        · clear hy
          gi_wp2
          go_end0
          exact ⟨⟨_, rfl⟩, .inr ⟨_, List.prefix_refl _, hJx3⟩⟩
  subst hM0
  have hgo : countGo s.data.toList m a0 = T := by
    have := HT.out
    rw [if_neg (by simp)] at this
    exact this
  have he0 : e0 = 0 ∧ m ≠ 0 ∧ m ≤ 64 := by
    by_cases k1 : e0 = 0
    · refine ⟨k1, fun k2 => ?_, ?_⟩
      · rw [if_pos ⟨k1, k2⟩] at hme; cases hme
      · rcases Nat.lt_or_ge 64 m with k3 | k3
        · rw [if_neg (by omega), if_pos k3] at hme; cases hme
        · exact k3
    · rw [if_neg (fun h => k1 h.1), if_neg (by have := hm0 k1; omega)] at hme
      exact absurd hme.symm k1
  obtain ⟨rfl, hmn, hm64⟩ := he0
  have ha0 := ha0l rfl
  have HGO := Lib.hid hgo
  have g1 : ((m : Int) == 0) = false := by rw [beq_eq_false_iff_ne]; omega
  have g2 : decide ((64 : Int) < (m : Int)) = false := by simp; omega
  clear hgo hme ha0l hm0 HT
  gi_wp2
  refine ⟨trivial, (HU.out W).mono ?_⟩
  rintro e' w2 ⟨rfl, hg⟩
  clear HU
  have bS2 := Boxed.kept bS hg (by simp)
  have hJ0 : J [] w2 := hJ _ _ _ h0 hg
  have HSEG := Lib.hid (show ∀ wr : World, wr.heap[Bs]? = some (.cells #[.string s] 9 (0, 0)) → wr.cell? ⟨Bs, 0, none⟩ = some (.string s) from fun wr h => Boxed.cell h)
  clear c1 bS hg h0
  gi_wp2
  clear g1 g2
  gi_loopw [4, 5, 6] (fun x y z wr => ∃ (k a : Nat) (e : Int) (i : Nat), x = .int .i64 (a : Int) ∧ y = .int .i64 e ∧ z = .int .u64 (i : Int) ∧ i ≤ m ∧ k ≤ T.length ∧ wr.heap[Bs]? = some (.cells #[.string s] 9 (0, 0)) ∧ a ≤ s.size ∧
    Hid ((e = 0 ∧ i = k ∧ countGo s.data.toList (m - k) a = T.drop k) ∨ (e ≠ 0 ∧ T.drop k = [((⟨#[]⟩ : ByteArray), e)])) ∧ J ((List.finRange T.length).take k) wr) (fun _ _ z _ => m - (intOf z).toNat)
  case atStart => exact ⟨0, a0, 0, 0, rfl, rfl, rfl, by omega, by omega, bS2, ha0, Lib.hid (.inl ⟨rfl, rfl, by rw [List.drop_zero, Nat.sub_zero]; exact HGO.out⟩), hJ0⟩
  case round =>
    obtain ⟨k, a, e, i, rfl, rfl, rfl, him, hk, bS, hale, hst, hJk⟩ := hrel
    have c1 := HSEG.out wr bS
    rcases hst.out with ⟨rfl, rfl, hst'⟩ | ⟨he, hst'⟩
    rotate_left
    · skip
      obtain ⟨hkT, hgk, hgr⟩ := drop_cons hst'
      have hkl : T.length ≤ k + 1 := List.drop_eq_nil_iff.1 hgr
      have hY1 := hY _ ⟨k, hkT⟩ wr hJk (by simp; omega)
      rw [fin_take hkT] at hY1
      simp only [Fin.getElem_fin, hgk] at hY1
      rw [fin_all hkl] at hY1
      have g1 : (e == 0) = false := by simpa using he
      have g2 : (e != 0) = true := by simpa using he
      clear hst hst' hgk hgr hkl hkT he hJk
      by_cases hlt : i < m
      · have g3 : decide ((i : Int) < (m : Int)) = true := by simp; omega
        have g3' : decide (i < m) = true := by simp; omega
        clear hlt
        obtain ⟨fn, tmps, assign, body, hy, hRr⟩ := hY1
        gi_wp2
        refine hRr.mono ?_
        rintro e' W3 (⟨rfl, hJ3, hk3⟩ | ⟨rfl, hJx3⟩)
        · clear hy
          gi_wp2
          go_end0
          exact ⟨⟨_, rfl⟩, .inl ⟨_, rfl, hJ3⟩⟩
        · clear hy
          gi_wp2
          go_end0
          exact ⟨⟨_, rfl⟩, .inr ⟨_, List.prefix_refl _, hJx3⟩⟩
      · have g3 : decide ((i : Int) < (m : Int)) = false := by simp; omega
        have g3' : decide (i < m) = false := by simp; omega
        clear hlt
        obtain ⟨fn, tmps, assign, body, hy, hRr⟩ := hY1
        gi_wp2
        refine hRr.mono ?_
        rintro e' W3 (⟨rfl, hJ3, hk3⟩ | ⟨rfl, hJx3⟩)
        · clear hy
          gi_wp2
          go_end0
          exact ⟨⟨_, rfl⟩, .inl ⟨_, rfl, hJ3⟩⟩
        · clear hy
          gi_wp2
          go_end0
          exact ⟨⟨_, rfl⟩, .inr ⟨_, List.prefix_refl _, hJx3⟩⟩
    by_cases hlt : i < m
    rotate_left
    · have him : i = m := by omega
      subst him
      rw [Nat.sub_self, countGo, hls] at hst'
      have g3 : decide ((i : Int) < (i : Int)) = false := by simp
      by_cases ha : a < s.size
      · rw [if_pos ha] at hst'
        replace hst' := hst'.symm
        have g4 : decide ((a : Int) < (s.size : Int)) = true := by simp; omega
        have g4' : decide (a < s.size) = true := by simp; omega
        obtain ⟨hkT, hgk, hgr⟩ := drop_cons hst'
        have hkl : T.length ≤ i + 1 := List.drop_eq_nil_iff.1 hgr
        have hY1 := hY _ ⟨i, hkT⟩ wr hJk (by simp; omega)
        rw [fin_take hkT] at hY1
        simp only [Fin.getElem_fin, hgk] at hY1
        rw [fin_all hkl] at hY1
        clear hst hst' hgk hgr hkl hkT hJk hlt
        obtain ⟨fn, tmps, assign, body, hy, hRr⟩ := hY1
        gi_wp2
        refine hRr.mono ?_
        rintro e' W3 (⟨rfl, hJ3, hk3⟩ | ⟨rfl, hJx3⟩)
        · clear hy
          gi_wp2
          go_end0
          exact ⟨⟨_, rfl⟩, .inl ⟨_, rfl, hJ3⟩⟩
        · clear hy
          gi_wp2
          go_end0
          exact ⟨⟨_, rfl⟩, .inr ⟨_, List.prefix_refl _, hJx3⟩⟩
      · rw [if_neg ha] at hst'
        have hkl : T.length ≤ i := List.drop_eq_nil_iff.1 hst'.symm
        rw [fin_all hkl] at hJk
        have g4 : decide ((a : Int) < (s.size : Int)) = false := by simp; omega
        have g4' : decide (a < s.size) = false := by simp; omega
        clear hst hst' hlt ha
        gi_wp2
        go_end0
        exact ⟨⟨_, rfl⟩, .inl ⟨_, rfl, hJk⟩⟩
    obtain ⟨mm, hmm⟩ : ∃ q, m - i = q + 1 := ⟨m - i - 1, by omega⟩
    rw [hmm, countGo] at hst'
    obtain ⟨n, hn⟩ : ∃ n, (unvarS s.data.toList (a : Int)).1.toNat = n := ⟨_, rfl⟩
    obtain ⟨tq, htq⟩ : ∃ n, (unvarS s.data.toList (a : Int)).2.1 = n := ⟨_, rfl⟩
    obtain ⟨f, hf⟩ : ∃ n, (unvarS s.data.toList (a : Int)).2.2 = n := ⟨_, rfl⟩
    have HU := Lib.hid (fun V => unvar_in (N - 1) s a hs V n tq f hn htq hf)
    have hCE : countE s.data.toList a = if f ≠ 0 then f else if longE n ≠ 0 then longE n else if s.size < tq + n then 3 else 0 := by
      unfold countE; rw [hf, hn, htq, hls]
    have htl : f = 0 → tq ≤ s.size := fun h => by
      have hu : unvarS s.data.toList (a : Int) = ((unvarS s.data.toList (a : Int)).1, tq, 0) := Prod.ext rfl (Prod.ext htq (hf.trans h))
      have := (unvarS_only _ _ _ _ hu).2.1
      omega
    rw [hn, htq] at hst'
    obtain ⟨CE, hCC⟩ : ∃ E, countE s.data.toList a = E := ⟨_, rfl⟩
    rw [hCC] at hst' hCE
    have HST := Lib.hid hst'
    have HCE := Lib.hid hCE
    have HMM := Lib.hid hmm
    have g3 : decide ((i : Int) < (m : Int)) = true := by simp; omega
    have w1 : IntKind.u64.wrap ((i : Int) + 1) = ((i + 1 : Nat) : Int) := by rw [← Int.natCast_succ]; exact wrap_nat64 (by omega)
    have hU := HU.out wr
    have hlong := fun W => long_any n W
    clear hst hst' hCE hCC hn htq hf hmm HU
    by_cases hf : f = 0
    rotate_left
    · have HF := Lib.hid hf
      have g4 : (f == 0) = false := by simpa using hf
      clear hf htl hlong
      gi_wp2
      refine ⟨trivial, hU.mono ?_⟩
      rintro e' w3 ⟨rfl, hg⟩
      have bS3 := Boxed.kept bS hg (by simp)
      clear hU
      have c3 := HSEG.out _ bS3
      have hJ3 := hJ _ _ _ hJk hg
      clear c1 bS hg hJk
      gi_wp2
      refine ⟨⟨i, a, f, i + 1, rfl, by simp, by simp, by omega, hk, bS3, hale, Lib.hid (.inr ⟨HF.out, ?_⟩), hJ3⟩, by simp [intOf]; omega⟩
      have hP : CE = f := by
        rw [HCE.out]
        rw [if_pos HF.out]
      have := HST.out
      rw [hP, if_pos HF.out] at this
      exact this.symm
    subst hf
    have htl := htl rfl
    by_cases hL : longE n = 0
    rotate_left
    · have HL := Lib.hid hL
      obtain ⟨E, hE⟩ : ∃ E, longE n = E := ⟨_, rfl⟩
      rw [hE] at hlong HCE HL hL
      have g4 : (E == 0) = false := by simpa using hL
      clear hL hE htl
      gi_wp2
      refine ⟨trivial, hU.mono ?_⟩
      rintro e' w3 ⟨rfl, hg⟩
      have bS3 := Boxed.kept bS hg (by simp)
      clear hU
      gi_wp2
      refine ⟨trivial, (callsIn_wide.2 (hlong w3)).mono ?_⟩
      rintro e' w4 ⟨rfl, hg4⟩
      replace hg := grown_self hg hg4 (by simp)
      have bS3 := Boxed.kept bS hg (by simp)
      have c3 := HSEG.out _ bS3
      have hJ3 := hJ _ _ _ hJk hg
      clear c1 bS hg hJk
      gi_wp2
      refine ⟨⟨i, a, E, i + 1, rfl, by simp, by simp, by omega, hk, bS3, hale, Lib.hid (.inr ⟨HL.out, ?_⟩), hJ3⟩, by simp [intOf]; omega⟩
      have hP : CE = E := by
        rw [HCE.out]
        rw [if_neg (by simp), if_pos HL.out]
      have := HST.out
      rw [hP, if_pos HL.out] at this
      exact this.symm
    rw [hL] at hlong
    have hn2 := longE_0.1 hL
    have v1 : IntKind.i64.wrap (n : Int) = (n : Int) := IntWalk.i64_in _ (by omega)
    have v2 : IntKind.i64.wrap ((s.size : Int) - (tq : Int)) = (s.size : Int) - (tq : Int) := IntWalk.i64_in _ (by omega)
    by_cases hfit : s.size < tq + n
    · have HF := Lib.hid hfit
      have HLL := Lib.hid hL
      have g4 : decide ((s.size : Int) - (tq : Int) < (n : Int)) = true := by simp; omega
      have c2 := HSEG.out
      clear c2 hfit hL htl
      gi_wp2
      refine ⟨trivial, hU.mono ?_⟩
      rintro e' w3 ⟨rfl, hg⟩
      have bS3 := Boxed.kept bS hg (by simp)
      clear hU
      gi_wp2
      refine ⟨trivial, (callsIn_wide.2 (hlong w3)).mono ?_⟩
      rintro e' w4 ⟨rfl, hg4⟩
      replace hg := grown_self hg hg4 (by simp)
      have bS3 := Boxed.kept bS hg (by simp)
      have c3 := HSEG.out _ bS3
      have hJ3 := hJ _ _ _ hJk hg
      clear c1 bS hg hJk
      gi_wp2
      refine ⟨⟨i, a, 3, i + 1, rfl, by simp, by simp, by omega, hk, bS3, hale, Lib.hid (.inr ⟨(by decide), ?_⟩), hJ3⟩, by simp [intOf]; omega⟩
      have hP : CE = 3 := by
        rw [HCE.out]
        rw [if_neg (by simp), if_neg (by rw [HLL.out]; simp), if_pos HF.out]
      have := HST.out
      rw [hP, if_pos (by decide)] at this
      exact this.symm
    have hTk : T.drop i = ((⟨((s.data.toList.drop tq).take n).toArray⟩ : ByteArray), 0) :: countGo s.data.toList mm (tq + n) := by
      have hP : CE = 0 := by
        rw [HCE.out, if_neg (by simp), if_neg (by rw [hL]; simp), if_neg hfit]
      have := HST.out
      rw [hP, if_neg (by simp)] at this
      exact this.symm
    obtain ⟨hkT, hgk, hgr⟩ := drop_cons hTk
    rw [← ba_part] at hgk
    have hY1 := fun W h => hY _ ⟨i, hkT⟩ W (hJ _ wr W hJk h) (by simp; omega)
    rw [fin_take hkT] at hY1
    simp only [Fin.getElem_fin, hgk] at hY1
    have HGR := Lib.hid hgr
    have HKT := Lib.hid (show i + 1 ≤ T.length from hkT)
    have v3 : IntKind.i64.wrap ((tq : Int) + (n : Int)) = (tq : Int) + (n : Int) := IntWalk.i64_in _ (by omega)
    have g4 : decide ((s.size : Int) - (tq : Int) < (n : Int)) = false := by simp; omega
    clear hTk hgk hgr hkT HST HCE hL
    gi_wp2
    refine ⟨trivial, hU.mono ?_⟩
    rintro e' w3 ⟨rfl, hg⟩
    have bS3 := Boxed.kept bS hg (by simp)
    clear hU
    gi_wp2
    refine ⟨trivial, (callsIn_wide.2 (hlong w3)).mono ?_⟩
    rintro e' w4 ⟨rfl, hg4⟩
    replace hg := grown_self hg hg4 (by simp)
    have bS3 := Boxed.kept bS hg (by simp)
    have c3 := HSEG.out _ bS3
    obtain ⟨fn, tmps, assign, body, hy, hRr⟩ := hY1 _ hg
    clear hg4 hY1 hg c1 bS hJk
    gi_wp2
    refine hRr.mono ?_
    rintro e' W3 (⟨rfl, hJ3, hk3⟩ | ⟨rfl, hJx3⟩)
    · have bS4 : Boxed W3 Bs 9 (.string s) := (hk3.block Bs rfl).trans bS3
      clear hy bS3 c3 hk3 hRr
      gi_wp2
      refine ⟨⟨i + 1, tq + n, 0, i + 1, by simp, rfl, by simp, by omega, HKT.out, bS4, by omega, Lib.hid (.inl ⟨rfl, rfl, by rw [HGR.out, show m - (i + 1) = mm by have := HMM.out; omega]⟩), hJ3⟩, by simp [intOf]; omega⟩
    · clear hy bS3 c3 hRr
      gi_wp2
      refine bodyPost_ret (results_none rfl _ _ _) rfl ?_
      exact ⟨⟨_, rfl⟩, .inr ⟨_, List.take_prefix _ _, hJx3⟩⟩
end Go.Proofs.YtdflihfecfmpfaaDoor
