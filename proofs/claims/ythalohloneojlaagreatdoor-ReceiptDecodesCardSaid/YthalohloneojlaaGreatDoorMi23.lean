/- Merged: RdH, RdI, RdJ. -/
import Derived.Test.YthalohloneojlaaGreatDoorMi16
import Derived.Test.YthalohloneojlaaGreatDoorMi22
/- Receipts, the document's: bytes of a length (rescriptref10.Long, Keys). -/
namespace Go.Proofs.YthalohloneojlaaGreatDoor
open Go.RowKit Go.Shelf
set_option linter.unusedVariables false
set_option linter.unusedSimpArgs false

set_option maxRecDepth 100000 in
set_option maxHeartbeats 1000000 in
theorem longR_any (l : Bool) (s : ByteArray) (sv : Value) (n : Nat) (w : World) :
    Calls Tryz.prog 134 #[.agg #[.bool l, .string s, sv], .int .i64 (n : Int)] w fun e w' => e = .returned (.tuple #[.string (if l = false ∧ s.size = n then s else ⟨#[]⟩), .int .i64 (if l = false ∧ s.size = n then 0 else 2)]) ∧ w.grownBy w' none := by
  have hB := Blk.new w 45 #[.bool l, .string s, sv]
  have HG := Lib.hid (only_alloc (World.grownBy.refl w none) (.cells #[.bool l, .string s, sv] 45))
  obtain ⟨v, hv⟩ : ∃ v, (if l = false ∧ s.size = n then s else ⟨#[]⟩) = v := ⟨_, rfl⟩
  obtain ⟨E, hE⟩ : ∃ E, (if l = false ∧ s.size = n then (0 : Int) else 2) = E := ⟨_, rfl⟩
  rw [hv, hE]
  have HV := Lib.hid hv; have HE := Lib.hid hE
  clear hv hE
  go_enter Tryz.func134, Tryz.ntmps134
  go_upto_region 1 with (fail)
  obtain ⟨b, hb⟩ : ∃ b, w.heap.size = b := ⟨_, rfl⟩
  rw [hb] at hB ⊢
  clear hb
  generalize w.alloc (.cells #[.bool l, .string s, sv] 45) = W1 at *
  have c0 := hB.cell 0; have c1 := hB.cell 1
  simp only [List.getElem?_toArray, List.getElem?_cons_zero, List.getElem?_cons_succ] at c0 c1
  clear hB
  cases l with
  | true =>
    go_wp2_with fail
    go_ret2
    exact ⟨by rw [← HV.out, ← HE.out]; rfl, HG.out⟩
  | false =>
    by_cases h1 : s.size = n
    · have d1 : ((s.size : Int) != (n : Int)) = false := by simp [h1]
      have hT : (if false = false ∧ s.size = n then s else ⟨#[]⟩) = s ∧ (if false = false ∧ s.size = n then (0 : Int) else 2) = 0 := ⟨if_pos ⟨rfl, h1⟩, if_pos ⟨rfl, h1⟩⟩
      have HT := Lib.hid hT
      clear hT h1
      go_wp2_with fail
      go_ret2
      exact ⟨by rw [← HV.out, ← HE.out, HT.out.1, HT.out.2]; rfl, HG.out⟩
    · have d1 : ((s.size : Int) != (n : Int)) = true := by simp; omega
      have hT : (if false = false ∧ s.size = n then s else ⟨#[]⟩) = ⟨#[]⟩ ∧ (if false = false ∧ s.size = n then (0 : Int) else 2) = 2 := ⟨if_neg (fun h => h1 h.2), if_neg (fun h => h1 h.2)⟩
      have HT := Lib.hid hT
      clear hT h1
      go_wp2_with fail
      go_ret2
      exact ⟨by rw [← HV.out, ← HE.out, HT.out.1, HT.out.2]; rfl, HG.out⟩
theorem firstL_app (a b : List Int) : firstL (a ++ b) = if firstL a ≠ 0 then firstL a else firstL b := by
  induction a with
  | nil => rfl
  | cons e es ih =>
    show (if e ≠ 0 then e else firstL (es ++ b)) = if (if e ≠ 0 then e else firstL es) ≠ 0 then (if e ≠ 0 then e else firstL es) else firstL b
    by_cases h : e = 0 <;> simp [h, ih]
/-- the document's row of bytes of a length: what is wrong, what it is -/
def keysX (n : Nat) (zs : List Itm) : Int := firstL (zs.map (exE n))
def keysE (most : Int) (n : Nat) (y : Itm) : Int := if rowE 0 most y ≠ 0 then rowE 0 most y else keysX n (rowL 0 most y)
theorem keysX_snoc (n : Nat) (zs : List Itm) (y : Itm) (h : keysX n zs = 0) : keysX n (zs ++ [y]) = exE n y := by
  unfold keysX at *
  rw [List.map_append, firstL_app, h, if_neg (by simp)]
  show (if exE n y ≠ 0 then exE n y else 0) = _
  split
  · rfl
  · rename_i h; exact (Classical.not_not.1 h).symm
theorem keysX_err (n : Nat) (a b : List Itm) (h : keysX n a ≠ 0) : keysX n (a ++ b) = keysX n a := by
  unfold keysX at *
  rw [List.map_append, firstL_app, if_pos h]
set_option maxRecDepth 100000 in
set_option maxHeartbeats 2000000 in
theorem keysR_any (y : Itm) (A : Option Addr) (m c : Nat) (most : Int) (n : Nat) (w : World) (hS : SubV (fun g => g < w.heap.size) w y.items (.slice A m c)) (hn : m ≤ 100000) :
    Calls Tryz.prog 135 #[.agg #[.bool y.list, .string y.bytes, .slice A m c], .int .i64 most, .int .i64 (n : Int)] w fun e w' => ∃ (v : Value) (xs : List Itm), e = .returned (.tuple #[v, .int .i64 (keysE most n y)]) ∧ w'.ownsRow w.heap.size 9 1 v xs.length (xs.map fun y => Value.string y.bytes) ∧ (keysE most n y = 0 → xs = rowL 0 most y) ∧ w.grownBy w' none := by
  have hB := Blk.new w 45 #[.bool y.list, .string y.bytes, .slice A m c]
  have hG := only_alloc (World.grownBy.refl w none) (.cells #[.bool y.list, .string y.bytes, .slice A m c] 45)
  have hz : (w.alloc (.cells #[.bool y.list, .string y.bytes, .slice A m c] 45)).heap.size = w.heap.size + 1 := by simp
  have HNL := Lib.hid hS.row.1
  have hS := hS.grown hG
  have HI := Lib.hid string_info
  have hlist := fun V => getListR_any y.list y.bytes A m c 0 most V
  have hre : (if y.list then textE m 0 most else 2) = rowE 0 most y := by unfold rowE; rw [HNL.out]
  rw [hre] at hlist
  have hrl : ∃ A' N c', (if y.list = true ∧ textE m 0 most = 0 then Value.slice A m c else .slice none 0 0) = .slice A' N c' ∧ (∀ w3 : World, (w.alloc (.cells #[.bool y.list, .string y.bytes, .slice A m c] 45)).grownBy w3 none → SubV (fun g => g < w.heap.size) w3 (rowL 0 most y) (.slice A' N c')) ∧ N = (rowL 0 most y).length ∧ N ≤ 100000 := by
    unfold rowL
    rw [← HNL.out]
    by_cases hL : y.list = true ∧ textE m 0 most = 0
    · rw [if_pos hL, if_pos hL]
      exact ⟨A, m, c, rfl, fun w3 hg3 => hS.grown hg3, HNL.out, hn⟩
    · rw [if_neg hL, if_neg hL]
      exact ⟨none, 0, 0, rfl, fun w3 _ => .mk [] none 0 [] (fun h => by cases h) (fun i h => by cases h), rfl, by omega⟩
  obtain ⟨A', N, c', hv, hsub, hN, hNn⟩ := hrl
  rw [hv] at hlist
  have HLI := Lib.hid hlist
  have HSB := Lib.hid hsub
  obtain ⟨e1, he1⟩ : ∃ e, rowE 0 most y = e := ⟨_, rfl⟩
  obtain ⟨E, hE⟩ : ∃ E, keysE most n y = E := ⟨_, rfl⟩
  have HGE : Hid (E = if e1 ≠ 0 then e1 else keysX n (rowL 0 most y)) := Lib.hid (by rw [← hE, ← he1]; rfl)
  rw [he1] at HLI
  obtain ⟨zs, hzs⟩ : ∃ zs, rowL 0 most y = zs := ⟨_, rfl⟩
  rw [hzs] at HGE HSB hN
  have HN := Lib.hid hN
  rw [hE, hzs]
  clear hv hlist hre hS hsub hN hE hzs he1
  generalize y.list = yl at *
  generalize y.bytes = yb at *
  go_enter Tryz.func135, Tryz.ntmps135
  go_upto_region 1 with (fail)
  obtain ⟨b, hb⟩ : ∃ b, w.heap.size = b := ⟨_, rfl⟩
  have HW := Lib.hid hb
  rw [hb] at hB hz ⊢
  rw [hb] at HSB
  generalize w.alloc (.cells #[.bool yl, .string yb, .slice A m c] 45) = W1 at *
  have c0 := hB.cell 0; have c1 := hB.cell 1; have c2 := hB.cell 2
  simp only [List.getElem?_toArray, List.getElem?_cons_zero, List.getElem?_cons_succ] at c0 c1 c2
  go_wp2_with fail
  refine (HLI.out _).mono ?_
  rintro e w3 ⟨rfl, hg3⟩
  have hle3 : b + 1 ≤ w3.heap.size := by have := hg3.size; omega
  have HG3 := Lib.hid (grown_self hG hg3 (by simp))
  have H3 := Lib.hid (HSB.out w3 hg3)
  have HB3 := Lib.hid hle3
  obtain ⟨b3, hb3⟩ : ∃ b, w3.heap.size = b := ⟨_, rfl⟩
  have HE3 := Lib.hid hb3
  obtain ⟨i0, hi, hz0, hzs, hzb⟩ := info_parts string_info
  clear hb3 hb c0 c1 c2 hB hG hg3 hz hle3 HLI HSB
  by_cases h1 : e1 = 0
  rotate_left
  · have q1 : (e1 != 0) = true := by simpa using h1
    have hEv : E = e1 := by rw [HGE.out]; exact if_pos h1
    have HEE := Lib.hid hEv; have HH1 := Lib.hid h1
    clear h1 hEv
    go_wp2_with fail
    refine bodyPost_ret (results_tmp2 rfl _ _ _) rfl ?_
    exact ⟨_, [], by rw [HEE.out]; rfl, World.ownsRow_nil _ _ _ _, fun h => absurd (HEE.out ▸ h) HH1.out, HG3.out⟩
  subst h1
  go_wp2_with fail
  go_loopw [10, 11] (fun v i wr => ∃ k : Nat, i = .int .i64 k ∧ k ≤ N ∧ keysX n (zs.take k) = 0 ∧ wr.ownsRow b3 9 1 v k ((zs.take k).map fun y => Value.string y.bytes) ∧ w3.grownBy wr none) (fun _ i _ => N - (intOf i).toNat)
  case atStart => exact ⟨0, rfl, by omega, rfl, World.ownsRow_nil _ _ _ _, World.grownBy.refl _ _⟩
  case round =>
    obtain ⟨k, rfl, hk, hx, hO, hG⟩ := hrel
    have hsz : b3 ≤ wr.heap.size := by have := hG.size; have := HE3.out; omega
    by_cases hlt : k < N
    · obtain ⟨vs, hvs, hrow⟩ := (H3.out.grown hG).row.2
      have hkz : k < zs.length := by have := HN.out; omega
      obtain ⟨g, off, rfl, hgS, hc⟩ := hrow (by omega)
      obtain ⟨c0, c1, c2⟩ := hc k hkz
      have hzk : zs[k]? = some (zs.getD k Itm.none_) := by rw [List.getD_eq_getElem?_getD, List.getElem?_eq_getElem hkz]; rfl
      have htk : zs.take (k + 1) = zs.take k ++ [zs.getD k Itm.none_] := by rw [List.take_add_one, hzk]; rfl
      have q1 : (k : Int) < (N : Int) := by omega
      obtain ⟨iA, ic, hyv⟩ := (hvs k hkz).slice
      rw [hyv] at c2
      generalize (zs.getD k Itm.none_).items.length = iN at *
      generalize zs.getD k Itm.none_ = x at *
      obtain ⟨xl, xb, xi⟩ := x
      have HTK := Lib.hid htk
      have HX := Lib.hid hx
      clear hyv hc hrow hvs hzk htk hx hkz hgS
      obtain ⟨oA, oc, rfl⟩ := own_slice3 hO
      simp only [Itm.list, Itm.bytes] at c0 c1
      have HTE : Hid (exE n (.mk xl xb xi) = if xl = false ∧ xb.size = n then 0 else 2) := Lib.hid rfl
      go_wp2_with fail
      refine (longR_any xl xb (.slice iA iN ic) n _).mono ?_
      rintro e w6 ⟨rfl, hg6⟩
      have hO := hO.kept hg6 (by cases oA; exact .inl rfl; exact .inr (by simp [Value.ownBlock]))
      have hsz6 := hg6.size
      have hG := grown_self hG hg6 (by simp)
      clear c0 c1 c2
      by_cases h0 : xl = false ∧ xb.size = n
      · rw [if_pos h0, if_pos h0]
        have HTE2 := Lib.hid (HTE.out.trans (if_pos h0))
        clear h0 HTE
        go_wp2_with (at_builtin; refine wpList_append_own _ rfl _ _ 38 rfl b3 9 i0 _ 1 16 Tryz.underlying38 hi hz0 hzs hzb rfl (by decide) _ _ _ rfl (hO.alloc _) ⟨w6.heap.size, 0, none⟩ 1 1 [.string xb] rfl rfl (cell_one_new _ _ _) (by simp [Value.oneCell']) (by simp only [maxLen]; omega) (by omega) (by simp; omega) ?_; intro v' w7 hown7 hgrow _)
        refine ⟨⟨k + 1, by go_num, by omega, ?_, ?_, ?_⟩, by simp [intOf]; omega⟩
        · rw [HTK.out, keysX_snoc _ _ _ HX.out]; exact HTE2.out
        · rw [HTK.out, List.map_append]; exact hown7
        · exact grown_self (only_alloc hG _) hgrow (fun j hj => .inr (by have := own_ge hO hj; have := HE3.out; omega))
      · rw [if_neg h0, if_neg h0]
        have HTE2 := Lib.hid (HTE.out.trans (if_neg h0))
        clear h0 HTE
        go_wp2_with fail
        refine bodyPost_ret (results_tmp2 rfl _ _ _) rfl ?_
        have hee : keysX n zs = 2 := by
          have h1 : keysX n (zs.take (k + 1)) = 2 := by rw [HTK.out, keysX_snoc _ _ _ HX.out]; exact HTE2.out
          rw [← List.take_append_drop (k + 1) zs, keysX_err _ _ _ (by rw [h1]; decide), h1]
        have hEv : E = 2 := by rw [HGE.out, hee, if_neg (by simp)]
        exact ⟨_, [], by rw [hEv]; rfl, World.ownsRow_nil _ _ _ _, fun h => (by rw [hEv] at h; cases h), grown_self HG3.out hG (by simp)⟩
    · obtain rfl : k = N := by omega
      have hfin : decide ((k : Int) < (k : Int)) = false := by simp
      go_wp2_with fail
      refine bodyPost_ret (results_tmp2 rfl _ _ _) rfl ?_
      have ht : zs.take k = zs := List.take_of_length_le (by have := HN.out; omega)
      rw [ht] at hx hO
      have hEv : E = 0 := by rw [HGE.out, hx, if_neg (by simp)]
      have hzk : zs.length = k := HN.out.symm
      exact ⟨_, zs, by rw [hEv]; rfl, by rw [hzk]; exact own_lower hO (by have := HE3.out; have := HG3.out.size; omega), fun _ => rfl, grown_self HG3.out hG (by simp)⟩
end Go.Proofs.YthalohloneojlaaGreatDoor
/- Receipts, the document's: what is wrong with a log (plain), and log. -/
namespace Go.Proofs.YthalohloneojlaaGreatDoor
open Go.RowKit Go.Shelf
set_option linter.unusedVariables false
set_option linter.unusedSimpArgs false

theorem fst1_assoc (a b c : Int) : fst1 (fst1 a b) c = fst1 a (fst1 b c) := by
  unfold fst1
  by_cases h1 : a = 0 <;> by_cases h2 : b = 0 <;> simp [h1, h2]
theorem fst1_z (e : Int) : fst1 0 e = e := if_pos rfl
theorem firstL_cons (e : Int) (es : List Int) : firstL (e :: es) = fst1 e (firstL es) := by
  show (if e ≠ 0 then e else firstL es) = if e = 0 then firstL es else e
  by_cases h : e = 0 <;> simp [h]
theorem fst1_foldl {α : Type} (f : α → Int) (E : Int) (zs : List α) : zs.foldl (fun E y => fst1 E (f y)) E = fst1 E (firstL (zs.map f)) := by
  induction zs generalizing E with
  | nil => show E = fst1 E 0; exact (fst1_0 E).symm
  | cons z zs ih => rw [List.foldl_cons, ih, List.map_cons, firstL_cons, fst1_assoc]
theorem exsE_first (n : Nat) (E : Int) (zs : List Itm) : exsE n E zs = fst1 E (keysX n zs) := fst1_foldl (exE n) E zs
theorem keysE_first (most : Int) (n : Nat) (y : Itm) : keysE most n y = fst1 (rowE 0 most y) (keysX n (rowL 0 most y)) := by
  unfold keysE fst1
  by_cases h : rowE 0 most y = 0 <;> simp [h]
theorem logE_first (E : Int) (y : Itm) : logE E y = fst1 E (fst1 (rowE 3 3 y) (firstL [exE 20 ((rowL 3 3 y).headD Itm.none_), keysE 4 32 ((rowL 3 3 y).tail.headD Itm.none_), datE ((rowL 3 3 y).tail.tail.headD Itm.none_)])) := by
  unfold logE
  rw [exsE_first, keysE_first, firstL_cons, firstL_cons, firstL_cons]
  show _ = fst1 E (fst1 _ (fst1 _ (fst1 _ (fst1 _ 0))))
  rw [fst1_0]
  simp only [fst1_assoc]
theorem logE_0 (E : Int) (y : Itm) : logE E y = fst1 E (logE 0 y) := by
  rw [logE_first E, logE_first 0, fst1_z]
theorem logsE_0 (E : Int) (zs : List Itm) : logsE E zs = fst1 E (firstL (zs.map (logE 0))) := by
  rw [← fst1_foldl]
  unfold logsE
  congr 1
  funext E y
  exact logE_0 E y
theorem rowE_0 {lo hi : Int} {y : Itm} (h : rowE lo hi y = 0) : y.list = true ∧ rowL lo hi y = y.items ∧ lo ≤ (y.items.length : Int) ∧ (y.items.length : Int) ≤ hi := by
  unfold rowE at h
  cases hl : y.list with
  | false => rw [hl] at h; cases h
  | true =>
    rw [hl] at h
    have h : textE y.items.length lo hi = 0 := h
    refine ⟨rfl, ?_, ?_⟩
    · unfold rowL; rw [if_pos ⟨hl, h⟩]
    · unfold textE at h
      split at h
      · cases h
      split at h
      · cases h
      omega
theorem rowL_bad {lo hi : Int} {y : Itm} (h : rowE lo hi y ≠ 0) : rowL lo hi y = [] := by
  unfold rowL
  rw [if_neg]
  rintro ⟨h1, h2⟩
  unfold rowE at h
  rw [h1] at h
  exact h h2
/-- items that stand in a row -/
structure RowS (w : World) (m : Nat) (q off : Nat) (its : List Itm) (vs : List Value) (W : World) : Prop where
  row : ∀ i, i < m → W.cell? ⟨q, off + i * 3, none⟩ = some (.bool (its.getD i Itm.none_).list) ∧ W.cell? ⟨q, off + i * 3 + 1, none⟩ = some (.string (its.getD i Itm.none_).bytes) ∧ W.cell? ⟨q, off + i * 3 + 2, none⟩ = some (vs.getD i undef)
  sub : ∀ i, i < m → SubW W (its.getD i Itm.none_).items (vs.getD i undef)
  grow : w.grownBy W none
theorem RowS.step {w W W' : World} {m q off : Nat} {its : List Itm} {vs : List Value} (h : RowS w m q off its vs W) (hg : W.grownBy W' none) : RowS w m q off its vs W' := by
  refine ⟨fun i hi => ?_, fun i hi => SubW.grown (h.sub i hi) hg, grown_self h.grow hg (by simp)⟩
  obtain ⟨r0, r1, r2⟩ := h.row i hi
  exact ⟨hg.cell r0 (by simp), hg.cell r1 (by simp), hg.cell r2 (by simp)⟩
theorem blk_set3L {w : World} {b : Nat} {z0 z1 z2 : Value} (h : Blk w b 40 #[z0, z1, z2]) (x0 x1 x2 : Value) : Blk (((w.setCell ⟨b, 0, none⟩ x0).setCell ⟨b, 1, none⟩ x1).setCell ⟨b, 2, none⟩ x2) b 40 #[x0, x1, x2] := by
  simpa using ((h.set_ 0 x0).set_ 1 x1).set_ 2 x2
theorem only_set3L {a w : World} {b : Nat} (h : a.grownBy w none) (hb : a.heap.size ≤ b) (x0 x1 x2 : Value) : a.grownBy (((w.setCell ⟨b, 0, none⟩ x0).setCell ⟨b, 1, none⟩ x1).setCell ⟨b, 2, none⟩ x2) none :=
  only_set (only_set (only_set h (p := ⟨b, 0, none⟩) hb x0) (p := ⟨b, 1, none⟩) hb x1) (p := ⟨b, 2, none⟩) hb x2
/-- what the document's log answers -/
def LogEnd (y : Itm) (w : World) (e : Ending) (w' : World) : Prop :=
  ∃ a T k tc d, e = .returned (.tuple #[.agg #[.string a, .slice T k tc, .string d], .int .i64 (logE 0 y)]) ∧ (logE 0 y = 0 → a = (logL y).addr ∧ d = (logL y).data ∧ k = (logL y).topics.length ∧ TopR (fun g => w.heap.size ≤ g) w' (logL y).topics T k ∧ (T = none → k = 0 ∧ tc = 0)) ∧ w.grownBy w' none
set_option maxRecDepth 100000 in
set_option maxHeartbeats 2000000 in
theorem logD_bad (y : Itm) (A : Option Addr) (n c : Nat) (w : World) (hn : n = y.items.length) (h : rowE 3 3 y ≠ 0) : Calls Tryz.prog 107 #[.agg #[.bool y.list, .string y.bytes, .slice A n c]] w (LogEnd y w) := by
  have hE : logE 0 y = rowE 3 3 y := by rw [logE_first, fst1_z]; unfold fst1; exact if_neg h
  have hG := only_alloc (only_alloc (World.grownBy.refl w none) (.cells #[.bool y.list, .string y.bytes, .slice A n c] 45)) (.cells #[.string ⟨#[]⟩, .slice none 0 0, .string ⟨#[]⟩] 40)
  have hB := (Blk.new w 45 #[.bool y.list, .string y.bytes, .slice A n c]).alloc (.cells #[.string ⟨#[]⟩, .slice none 0 0, .string ⟨#[]⟩] 40)
  have hL := Blk.new (w.alloc (.cells #[.bool y.list, .string y.bytes, .slice A n c] 45)) 40 #[.string ⟨#[]⟩, .slice none 0 0, .string ⟨#[]⟩]
  rw [World.size_alloc] at hL
  have hlist := fun V => getListR_any y.list y.bytes A n c 3 3 V
  have hre : (if y.list then textE n 3 3 else 2) = rowE 3 3 y := by unfold rowE; rw [hn]
  rw [hre] at hlist
  obtain ⟨u, hu⟩ : ∃ u, (if y.list = true ∧ textE n 3 3 = 0 then Value.slice A n c else .slice none 0 0) = u := ⟨_, rfl⟩
  rw [hu] at hlist
  obtain ⟨F, hF⟩ : ∃ F, rowE 3 3 y = F := ⟨_, rfl⟩
  rw [hF] at hlist h hE
  have HLI := Lib.hid hlist; have HE := Lib.hid hE; have HN := Lib.hid h
  obtain ⟨b, hb⟩ : ∃ b, w.heap.size = b := ⟨_, rfl⟩
  have HW := Lib.hid hb
  rw [hb] at hB hL
  clear hre hu hF hE hlist h hn
  have HG := Lib.hid hG
  clear hG
  generalize y.list = yl at *
  generalize y.bytes = yb at *
  go_enter Tryz.func107, Tryz.ntmps107
  go_upto_region 1 with (fail)
  clear hb
  generalize (w.alloc (.cells #[.bool yl, .string yb, .slice A n c] 45)).alloc (.cells #[.string ⟨#[]⟩, .slice none 0 0, .string ⟨#[]⟩] 40) = w1 at *
  have c0 := hB.cell 0; have c1 := hB.cell 1; have c2 := hB.cell 2
  simp only [List.getElem?_toArray, List.getElem?_cons_zero, List.getElem?_cons_succ] at c0 c1 c2
  go_wp2_with fail
  refine (HLI.out _).mono ?_
  rintro e w4 ⟨rfl, hg4⟩
  have hB4 := hL.grown hg4 (by simp)
  have T2 := Lib.hid (blk_set3L hB4 (.string ⟨#[]⟩) (.slice none 0 0) (.string ⟨#[]⟩))
  have T4 := Lib.hid (only_set3L (grown_self HG.out hg4 (by simp)) (Nat.le_trans (Nat.le_of_eq HW.out) (Nat.le_succ b)) (.string ⟨#[]⟩) (.slice none 0 0) (.string ⟨#[]⟩))
  have e1 : (F != 0) = true := by simpa using HN.out
  have d0 := hB4.cell 0; have d1 := hB4.cell 1; have d2 := hB4.cell 2
  have f0 := hB4.frozen 0; have f1 := hB4.frozen 1; have f2 := hB4.frozen 2
  simp only [List.getElem?_toArray, List.getElem?_cons_zero, List.getElem?_cons_succ] at d0 d1 d2
  clear c0 c1 c2 hB hL HLI HG hg4 hB4
  go_wp2_with fail
  refine bodyPost_ret (results_ct (fn := Tryz.f107) rfl _ _ _ _ rfl (load_logF T2.out)) rfl ?_
  exact ⟨_, _, _, _, _, by rw [HE.out]; rfl, fun h => absurd (HE.out.symm.trans h) HN.out, T4.out⟩
set_option maxRecDepth 100000 in
set_option maxHeartbeats 4000000 in
theorem logD_three (y : Itm) (A : Option Addr) (n c : Nat) (w : World) (hS : SubW w y.items (.slice A n c)) (h : rowE 3 3 y = 0) (h4 : ((y.items.tail).headD Itm.none_).items.length ≤ 100000) : Calls Tryz.prog 107 #[.agg #[.bool y.list, .string y.bytes, .slice A n c]] w (LogEnd y w) := by
  obtain ⟨h1, h2, h3, h3'⟩ := rowE_0 h
  have hlen : y.items.length = 3 := by omega
  obtain ⟨hn, vs, hsb, hrw⟩ := hS.row
  have hlist0 : textE 3 3 3 = 0 := rfl
  have hE := logE_first 0 y
  have hLL : logL y = ⟨(y.items.headD Itm.none_).bytes, (rowL 0 4 (y.items.tail.headD Itm.none_)).map Itm.bytes, datV (y.items.tail.tail.headD Itm.none_)⟩ := by unfold logL; rw [h2]
  rw [h, fst1_z, fst1_z, h2] at hE
  rw [hlen] at hn
  subst hn
  rw [h1]
  obtain ⟨ys, hys⟩ : ∃ ys, y.items = ys := ⟨_, rfl⟩
  rw [hys] at hlen hsb hrw hE hLL h4
  have HLL := Lib.hid hLL
  clear h2 h3 h3' h hS h1 hys hLL
  match ys, hlen with
  | [y0, y1, y2], _ => ?_
  have HE := Lib.hid hE
  obtain ⟨q, off, rfl, hqg, hrw⟩ := hrw (by simp)
  have hG := only_alloc (only_alloc (World.grownBy.refl w none) (.cells #[.bool true, .string y.bytes, .slice (some ⟨q, off, none⟩) 3 c] 45)) (.cells #[.string ⟨#[]⟩, .slice none 0 0, .string ⟨#[]⟩] 40)
  have hB := (Blk.new w 45 #[.bool true, .string y.bytes, .slice (some ⟨q, off, none⟩) 3 c]).alloc (.cells #[.string ⟨#[]⟩, .slice none 0 0, .string ⟨#[]⟩] 40)
  have hL := Blk.new (w.alloc (.cells #[.bool true, .string y.bytes, .slice (some ⟨q, off, none⟩) 3 c] 45)) 40 #[.string ⟨#[]⟩, .slice none 0 0, .string ⟨#[]⟩]
  rw [World.size_alloc] at hL
  have hlist : ∀ V : World, Calls Tryz.prog 44 #[.agg #[.bool true, .string y.bytes, .slice (some ⟨q, off, none⟩) 3 c], .int .i64 3, .int .i64 3] V fun e w' => e = .returned (.tuple #[.slice (some ⟨q, off, none⟩) 3 c, .int .i64 0]) ∧ V.grownBy w' none := fun V => getListR_any true y.bytes (some ⟨q, off, none⟩) 3 c 3 3 V
  have HLI := Lib.hid hlist
  have hF0 : RowS w 3 q off [y0, y1, y2] vs w := ⟨hrw, fun i hi => hsb i hi, World.grownBy.refl w none⟩
  have HF1 := Lib.hid (hF0.step hG)
  have HL1 := Lib.hid hL
  obtain ⟨b, hb⟩ : ∃ b, w.heap.size = b := ⟨_, rfl⟩
  have HW := Lib.hid hb
  rw [hb] at hB HL1
  obtain ⟨S0, hS0⟩ : ∃ S, (if y0.list = false ∧ y0.bytes.size = 20 then y0.bytes else ⟨#[]⟩) = S := ⟨_, rfl⟩
  obtain ⟨S2, hS2⟩ : ∃ S, datV y2 = S := ⟨_, rfl⟩
  obtain ⟨E1, hE1⟩ : ∃ E, exE 20 y0 = E := ⟨_, rfl⟩
  obtain ⟨E2, hE2⟩ : ∃ E, keysE 4 32 y1 = E := ⟨_, rfl⟩
  obtain ⟨E3, hE3⟩ : ∃ E, datE y2 = E := ⟨_, rfl⟩
  obtain ⟨F, hF⟩ : ∃ F, firstL [E1, E2, E3] = F := ⟨_, rfl⟩
  have HE := Lib.hid (HE.out.trans (show firstL [exE 20 y0, keysE 4 32 y1, datE y2] = F by rw [hE1, hE2, hE3, hF]))
  have HT0 : Hid (∀ v V, Calls Tryz.prog 134 #[.agg #[.bool y0.list, .string y0.bytes, v], .int .i64 20] V fun e w' => e = .returned (.tuple #[.string S0, .int .i64 E1]) ∧ V.grownBy w' none) := Lib.hid fun v V => by
    have := longR_any y0.list y0.bytes v 20 V
    rw [hS0, show (if y0.list = false ∧ y0.bytes.size = 20 then (0 : Int) else 2) = E1 from hE1] at this; exact this
  have HT2 : Hid (∀ v V, Calls Tryz.prog 136 #[.agg #[.bool y2.list, .string y2.bytes, v], .int .i64 0, .int .i64 4096] V fun e w' => e = .returned (.tuple #[.string S2, .int .i64 E3]) ∧ V.grownBy w' none) := Lib.hid fun v V => by
    have := getTextR_any y2.list y2.bytes v 0 4096 V
    rw [show (if y2.list = false ∧ textE y2.bytes.size 0 4096 = 0 then y2.bytes else ⟨#[]⟩) = S2 from hS2, show (if y2.list then (2 : Int) else textE y2.bytes.size 0 4096) = E3 from hE3] at this; exact this
  have HS0 := Lib.hid hS0; have HS2 := Lib.hid hS2; have HE1 := Lib.hid hE1; have HGT := Lib.hid hE2; have HFF := Lib.hid hF; have HL4 := Lib.hid h4
  clear hG hL hlist hF0 hrw hsb hqg hS0 hS2 hE1 hE2 hE3 hF hE hlist0 h4
  generalize y.bytes = yb at *
  go_enter Tryz.func107, Tryz.ntmps107
  go_upto_region 1 with (fail)
  clear hb
  generalize (w.alloc (.cells #[.bool true, .string yb, .slice (some ⟨q, off, none⟩) 3 c] 45)).alloc (.cells #[.string ⟨#[]⟩, .slice none 0 0, .string ⟨#[]⟩] 40) = w1 at *
  have c0 := hB.cell 0; have c1 := hB.cell 1; have c2 := hB.cell 2
  simp only [List.getElem?_toArray, List.getElem?_cons_zero, List.getElem?_cons_succ] at c0 c1 c2
  clear hB
  go_wp2_with fail
  refine (HLI.out _).mono ?_
  rintro e w4 ⟨rfl, hg4⟩
  have HF4 := Lib.hid (HF1.out.step hg4); have HL4b := Lib.hid (HL1.out.grown hg4 (by simp))
  clear c0 c1 c2 HLI HF1 HL1 hg4
  obtain ⟨r0, r1, r2⟩ := HF4.out.row 0 (by decide)
  simp only [Nat.zero_mul, Nat.add_zero] at r0 r1 r2
  change w4.cell? ⟨q, off, none⟩ = some (.bool y0.list) at r0
  change w4.cell? ⟨q, off + 1, none⟩ = some (.string y0.bytes) at r1
  go_wp2_with fail
  refine (HT0.out _ _).mono ?_
  rintro e w5 ⟨rfl, hg5⟩
  have HF5 := Lib.hid (HF4.out.step hg5); have HL5 := Lib.hid (HL4b.out.grown hg5 (by simp))
  have HLT5 : Hid (b + 1 < w5.heap.size) := Lib.hid HL5.out.lt
  clear hg5 r0 r1 r2 HF4 HT0 HL4b
  obtain ⟨A4, c4, hv4⟩ := (HF5.out.sub 1 (by decide)).slice
  have hv4 : vs.getD 1 undef = .slice A4 y1.items.length c4 := hv4
  obtain ⟨r0, r1, r2⟩ := HF5.out.row 1 (by decide)
  have hsub4 := HF5.out.sub 1 (by decide)
  rw [hv4] at r2 hsub4
  have hgt := keysR_any y1 A4 y1.items.length c4 4 32 w5 hsub4 HL4.out
  rw [HGT.out] at hgt
  replace r0 : w5.cell? ⟨q, off + 3, none⟩ = some (.bool y1.list) := r0
  replace r1 : w5.cell? ⟨q, off + 3 + 1, none⟩ = some (.string y1.bytes) := r1
  replace r2 : w5.cell? ⟨q, off + 3 + 2, none⟩ = some (.slice A4 y1.items.length c4) := r2
  obtain ⟨n4, hn4⟩ : ∃ n, y1.items.length = n := ⟨_, rfl⟩
  obtain ⟨l4, hl4⟩ : ∃ n, y1.list = n := ⟨_, rfl⟩
  obtain ⟨b4, hb4⟩ : ∃ n, y1.bytes = n := ⟨_, rfl⟩
  rw [hl4] at r0 hgt
  rw [hb4] at r1 hgt
  rw [hn4] at r2 hgt
  replace hgt : Calls Tryz.prog 135 #[.agg #[.bool l4, .string b4, .slice A4 n4 c4], .int .i64 4, .int .i64 32] w5 _ := hgt
  have HGX := Lib.hid hgt
  clear hv4 hsub4 hgt hn4 hl4 hb4
  go_wp2_with fail
  refine (HGX.out).mono ?_
  rintro e w6 ⟨v, xs, rfl, hown, hxs, hg6⟩
  have hmm : (xs.map fun y => Value.string y.bytes) = (xs.map Itm.bytes).map Value.string := by rw [List.map_map]; rfl
  rw [hmm] at hown
  obtain ⟨Av, cv, rfl, htop, hnn⟩ := own_top hown
  have HZ5 := Lib.hid (show w.heap.size ≤ w5.heap.size from HF5.out.grow.size)
  have HX := Lib.hid hxs; have HTOP := Lib.hid htop; have HNN := Lib.hid hnn
  have HF6 := Lib.hid (HF5.out.step hg6); have HL6 := Lib.hid (HL5.out.grown hg6 (by simp))
  clear HGX HF5 HL5 r0 r1 r2 hown hmm hxs hg6 htop hnn
  obtain ⟨N, hNx⟩ : ∃ N, xs.length = N := ⟨_, rfl⟩
  have HNX := Lib.hid hNx
  rw [hNx] at HTOP HNN ⊢
  clear hNx
  obtain ⟨r0, r1, r2⟩ := HF6.out.row 2 (by decide)
  simp only [Nat.reduceMul] at r0 r1 r2
  change w6.cell? ⟨q, off + 6, none⟩ = some (.bool y2.list) at r0
  change w6.cell? ⟨q, off + 6 + 1, none⟩ = some (.string y2.bytes) at r1
  go_wp2_with fail
  refine (HT2.out _ _).mono ?_
  rintro e w9 ⟨rfl, hg7⟩
  have hF9 := HF6.out.step hg7
  have hT9 := HTOP.out.keep fun p _ u hu => hg7.cell hu (by simp)
  have hL9 := HL6.out.grown hg7 (by simp)
  have hF10 := hF9.step (only_alloc (World.grownBy.refl w9 none) (.cells #[.int .i64 E1, .int .i64 E2, .int .i64 E3] 28))
  have hT10 := hT9.keep fun p _ u hu => (only_alloc (World.grownBy.refl w9 none) (.cells #[.int .i64 E1, .int .i64 E2, .int .i64 E3] 28)).cell hu (by simp)
  have hL10 := hL9.alloc (.cells #[.int .i64 E1, .int .i64 E2, .int .i64 E3] 28)
  have hE10 := Blk.new w9 28 #[.int .i64 E1, .int .i64 E2, .int .i64 E3]
  have hRE : Reads (w9.alloc (.cells #[.int .i64 E1, .int .i64 E2, .int .i64 E3] 28)) (w9.heap.size + 1) 1 (some ⟨w9.heap.size, 0, none⟩) 3 ([E1, E2, E3].map (Value.int .i64)) :=
    ⟨rfl, fun _ => ⟨_, rfl, Nat.lt_succ_self _, fun j u hu => by
      have := hE10.cell j
      rw [Addr.add_mid, Nat.zero_add, this, ← hu]
      simp⟩⟩
  have HFI := Lib.hid (firstR_any _ _ 3 3 [E1, E2, E3] _ hRE (by decide))
  rw [HFF.out] at HFI
  have HF10 := Lib.hid hF10; have HT10 := Lib.hid hT10; have HL10 := Lib.hid hL10
  clear HF6 HL6 HTOP r0 r1 r2 hg7 hF9 hT9 hL9 hF10 hT10 hL10 hE10 hRE HT2
  go_wp2_with fail
  refine (HFI.out).mono ?_
  rintro e w10 ⟨rfl, rfl⟩
  generalize w9.alloc (.cells #[.int .i64 E1, .int .i64 E2, .int .i64 E3] 28) = w10 at *
  have d0 := HL10.out.cell 0; have d1 := HL10.out.cell 1; have d2 := HL10.out.cell 2
  have f0 := HL10.out.frozen 0; have f1 := HL10.out.frozen 1; have f2 := HL10.out.frozen 2
  simp only [List.getElem?_toArray, List.getElem?_cons_zero, List.getElem?_cons_succ] at d0 d1 d2
  have T2 := Lib.hid (blk_set3L HL10.out (.string S0) (.slice Av N cv) (.string S2))
  have T4 := Lib.hid (only_set3L HF10.out.grow (Nat.le_trans (Nat.le_of_eq HW.out) (Nat.le_succ b)) (.string S0) (.slice Av N cv) (.string S2))
  have T5 : Hid (TopR (fun g => w5.heap.size ≤ g) (((w10.setCell ⟨b + 1, 0, none⟩ (.string S0)).setCell ⟨b + 1, 1, none⟩ (.slice Av N cv)).setCell ⟨b + 1, 2, none⟩ (.string S2)) (xs.map Itm.bytes) Av N) := Lib.hid (HT10.out.keep fun p hp u hu => by
    have hne : b + 1 ≠ p.block := by
      have h1 : w5.heap.size ≤ p.block := hp
      have h2 := HLT5.out
      omega
    rw [World.cell?_setCell_far _ _ _ _ hne, World.cell?_setCell_far _ _ _ _ hne, World.cell?_setCell_far _ _ _ _ hne]
    exact hu)
  clear HFI HF10 HL10 HT10
  go_wp2_with fail
  refine bodyPost_ret (results_ct (fn := Tryz.f107) rfl _ _ _ _ rfl (load_logF T2.out)) rfl ?_
  refine ⟨_, _, _, _, _, by rw [HE.out]; rfl, fun h0 => ?_, T4.out⟩
  have hF0 := HE.out.symm.trans h0
  obtain ⟨f0, f1, f2⟩ : E1 = 0 ∧ E2 = 0 ∧ E3 = 0 := by
    have h := HFF.out
    rw [hF0] at h
    unfold firstL firstL firstL firstL at h
    by_cases h1 : E1 = 0 <;> by_cases h2 : E2 = 0 <;> by_cases h3 : E3 = 0 <;> simp_all
  have hx := HX.out f1
  have hb0 : y0.list = false ∧ y0.bytes.size = 20 := by
    have h1 := HE1.out
    rw [f0] at h1
    unfold exE at h1
    split at h1
    · assumption
    · cases h1
  have hs0 := HS0.out
  rw [if_pos hb0] at hs0
  have hll := HLL.out
  rw [hll]
  refine ⟨hs0.symm, HS2.out.symm, ?_, ?_, HNN.out⟩
  · show N = ((rowL 0 4 y1).map Itm.bytes).length
    rw [List.length_map, ← hx]; exact HNX.out.symm
  · show TopR _ _ ((rowL 0 4 y1).map Itm.bytes) Av N
    rw [← hx]
    exact T5.out.weak fun g hg => Nat.le_trans HZ5.out hg
/-- WHAT THE DOCUMENT's log ANSWERS -/
theorem logD_any (y : Itm) (A : Option Addr) (n c : Nat) (w : World) (hS : SubW w y.items (.slice A n c)) (h4 : ((y.items.tail).headD Itm.none_).items.length ≤ 100000) : Calls Tryz.prog 107 #[.agg #[.bool y.list, .string y.bytes, .slice A n c]] w (LogEnd y w) := by
  by_cases h : rowE 3 3 y = 0
  · exact logD_three y A n c w hS h h4
  · exact logD_bad y A n c w hS.row.1 h
end Go.Proofs.YthalohloneojlaaGreatDoor
/- Receipts, the document's: read (logs of an item). -/
namespace Go.Proofs.YthalohloneojlaaGreatDoor
open Go.RowKit Go.Shelf
set_option linter.unusedVariables false
set_option linter.unusedSimpArgs false

theorem wpList_append_at {P : Program} {ops : Array Oper} {rest : List Oper} {o : Oper} {a : Act} {w : World} {Q : Exit → Act → World → Prop} (hgd : o.guard = none) (s x : Operand) (t : TypeId) (ho : o.op = .call { callee := .builtin .append, args := #[s, x], argTypes := #[t, t] }) (v u v' : Value) (hs : a.eval s = v) (hx : a.eval x = u) (w' : World)
    (hr : (Builtin.append_ #[t, t] o.type #[v, u]).run P w = .ok v' w') (h : wpList P ops Q rest (a.put o.dst v') w') : wpList P ops Q (o :: rest) a w :=
  wpList_plain hgd fun _ hK => by
    unfold Oper.wp
    rw [exec_append s x t ho v u v' hs hx hr]
    exact hK _ _ h
/-- what the document's row of logs is: what is wrong -/
def readE (y : Itm) : Int := fst1 (rowE 0 16 y) (firstL ((rowL 0 16 y).map (logE 0)))
/-- a row of logs while it is made -/
structure RowLg (base : Nat) (v : Value) (k : Nat) (ls : List LogV) (vs : List (Option Addr × Nat)) (u : World) : Prop where
  own : u.ownsRow base 40 3 v k (logsV ls vs)
  lx : ls.length = k
  lv : vs.length = k
  top : ∀ i, i < k → TopR (fun g => base ≤ g ∧ v.ownBlock ≠ some g) u (ls.getD i LogV.none_).topics (vs.getD i (none, 0)).1 (ls.getD i LogV.none_).topics.length ∧ ((vs.getD i (none, 0)).1 = none → (ls.getD i LogV.none_).topics.length = 0 ∧ (vs.getD i (none, 0)).2 = 0)
  sz : base ≤ u.heap.size
section
variable {base k : Nat} {v : Value} {ls : List LogV} {vs : List (Option Addr × Nat)} {u u' : World}
theorem RowLg.kept (h : RowLg base v k ls vs u) (hg : u.grownBy u' none) : RowLg base v k ls vs u' := by
  obtain ⟨A, c, rfl⟩ := own_slice3 h.own
  exact ⟨h.own.kept hg (by cases A; exact .inl rfl; exact .inr (by simp [Value.ownBlock])), h.lx, h.lv, fun i hi => ⟨(h.top i hi).1.keep fun p _ c hc => hg.cell hc (by simp), (h.top i hi).2⟩, Nat.le_trans h.sz hg.size⟩
theorem RowLg.new_top (h : RowLg base v k ls vs u) {ts : List ByteArray} {T : Option Addr} {n : Nat} (hT : TopR (fun g => u.heap.size ≤ g) u' ts T n) : TopR (fun g => base ≤ g ∧ v.ownBlock ≠ some g) u' ts T n := by
  refine hT.weak fun g hg => ⟨by have := h.sz; omega, fun e => ?_⟩
  rcases h.own.2 with ⟨hv, _⟩ | ⟨g', cap, cur, hv, hb, hh, _⟩
  · rw [hv] at e; cases e
  · rw [hv] at e
    have e : g' = g := by simpa [Value.ownBlock] using e
    have := Blk.lt (show Blk u g' 40 cur from hh)
    omega
theorem RowLg.put {g' cap' tc : Nat} {T : Option Addr} {u2 : World} {x : LogV} (h : RowLg base v k ls vs u) (hT : TopR (fun g => base ≤ g ∧ v.ownBlock ≠ some g) u x.topics T x.topics.length) (hN : T = none → x.topics.length = 0 ∧ tc = 0)
    (hown : u2.ownsRow base 40 3 (.slice (some ⟨g', 0, none⟩) (k + 1) cap') (k + 1) (logsV ls vs ++ [.string x.addr, .slice T x.topics.length tc, .string x.data])) (hg : u.grownBy u2 v.ownBlock)
    (hob : (Value.slice (some ⟨g', 0, none⟩) (k + 1) cap').ownBlock = v.ownBlock ∨ (Value.slice (some ⟨g', 0, none⟩) (k + 1) cap').ownBlock = some u.heap.size) :
    RowLg base (.slice (some ⟨g', 0, none⟩) (k + 1) cap') (k + 1) (ls ++ [x]) (vs ++ [(T, tc)]) u2 := by
  have hs := hg.size; have := h.sz
  have key : ∀ ts T' n, TopR (fun g => base ≤ g ∧ v.ownBlock ≠ some g) u ts T' n → TopR (fun g => base ≤ g ∧ (Value.slice (some ⟨g', 0, none⟩) (k + 1) cap').ownBlock ≠ some g) u2 ts T' n := by
    intro ts T' n hs
    refine (hs.lt.keep fun p hp c hc => hg.cell hc (fun e => hp.1.2 e.symm)).weak fun g hS => ⟨hS.1.1, fun e => ?_⟩
    rcases hob with e2 | e2
    · exact hS.1.2 (e2.symm.trans e)
    · have := Option.some.inj (e2.symm.trans e)
      have := hS.2
      omega
  refine ⟨by rw [logsV_snoc ls vs (by rw [h.lx, h.lv])]; exact hown, by simp [h.lx], by simp [h.lv], fun i hi => ?_, by omega⟩
  by_cases hij : i < k
  · rw [List.getD_eq_getElem?_getD, List.getElem?_append_left (by rw [h.lx]; exact hij), ← List.getD_eq_getElem?_getD, List.getD_eq_getElem?_getD (l := vs ++ [(T, tc)]), List.getElem?_append_left (by rw [h.lv]; exact hij), ← List.getD_eq_getElem?_getD]
    exact ⟨key _ _ _ (h.top i hij).1, (h.top i hij).2⟩
  · obtain rfl : i = k := by omega
    rw [List.getD_eq_getElem?_getD, List.getElem?_append_right (by rw [h.lx]; omega), List.getD_eq_getElem?_getD (l := vs ++ [(T, tc)]), List.getElem?_append_right (by rw [h.lv]; omega), h.lx, h.lv, Nat.sub_self]
    exact ⟨key _ _ _ hT, hN⟩
theorem RowLg.logs {A : Option Addr} {c : Nat} (h : RowLg base (.slice A k c) k ls vs u) (ht : ∀ i, i < k → (ls.getD i LogV.none_).topics.length ≤ 9223372036854775807) : LogsS (fun g => base ≤ g) u ls A k := by
  refine ⟨h.lx, fun h0 => ?_⟩
  rcases h.own.2 with ⟨hv, h1⟩ | ⟨g, cap, cur, hv, hb, hg, hn, hc, hs, hx⟩
  · omega
  cases hv
  refine ⟨g, 0, rfl, hb, fun i hi => ?_⟩
  have hcell : ∀ q, q < 3 → u.cell? ⟨g, i * 3 + q, none⟩ = (logsV ls vs)[i * 3 + q]? := by
    intro q hq
    rw [cell_of_row u g (i * 3 + q) cur 40 (0, 0) hg, ← hx, List.getElem?_take_of_lt (by omega), Array.getElem?_toList]
  have hget := fun q hq => (hcell q hq).trans (logsV_get ls vs (by rw [h.lx, h.lv]) i (by rw [h.lx]; exact hi) q hq)
  have g0 := hget 0 (by omega); have g1 := hget 1 (by omega); have g2 := hget 2 (by omega)
  simp only [List.getElem?_cons_zero, List.getElem?_cons_succ] at g0 g1 g2
  obtain ⟨t1, t2⟩ := h.top i hi
  exact ⟨_, _, by rw [Nat.zero_add]; exact g0, by rw [Nat.zero_add]; exact g1, by rw [Nat.zero_add]; exact g2, t1.weak fun g hg => hg.1, ht i hi, t2⟩
theorem RowLg.nil (w : World) (hb : base ≤ w.heap.size) : RowLg base (.slice none 0 0) 0 [] [] w := ⟨World.ownsRow_nil _ _ _ _, rfl, rfl, fun i hi => by omega, hb⟩
end
theorem logsX_snoc (zs : List Itm) (y : Itm) (h : firstL (zs.map (logE 0)) = 0) : firstL ((zs ++ [y]).map (logE 0)) = logE 0 y := by
  rw [List.map_append, firstL_app, h, if_neg (by simp)]
  show (if logE 0 y ≠ 0 then logE 0 y else 0) = _
  split
  · rfl
  · rename_i h; exact (Classical.not_not.1 h).symm
theorem logs_topicsD (zs : List Itm) (i : Nat) : ((zs.map logL).getD i LogV.none_).topics.length ≤ 9223372036854775807 := by
  rw [List.getD_eq_getElem?_getD, List.getElem?_map]
  cases zs[i]? with
  | none => decide
  | some y => have := logL_topics y; simp; omega
set_option maxRecDepth 100000 in
set_option maxHeartbeats 4000000 in
theorem readD_any (y : Itm) (A : Option Addr) (m c : Nat) (w : World) (hS : SubV (fun g => g < w.heap.size) w y.items (.slice A m c)) (hn : m ≤ 100000) (h4 : ∀ x ∈ y.items, ((x.items.tail).headD Itm.none_).items.length ≤ 100000) :
    Calls Tryz.prog 73 #[.agg #[.bool y.list, .string y.bytes, .slice A m c]] w fun e w' => ∃ A' n c', e = .returned (.tuple #[.slice A' n c', .int .i64 (readE y)]) ∧ (readE y = 0 → LogsS (fun g => w.heap.size ≤ g) w' ((rowL 0 16 y).map logL) A' n) ∧ w.grownBy w' none := by
  have hB := Blk.new w 45 #[.bool y.list, .string y.bytes, .slice A m c]
  have hG := only_alloc (World.grownBy.refl w none) (.cells #[.bool y.list, .string y.bytes, .slice A m c] 45)
  have hz : (w.alloc (.cells #[.bool y.list, .string y.bytes, .slice A m c] 45)).heap.size = w.heap.size + 1 := by simp
  have HNL := Lib.hid hS.row.1
  have hS := hS.grown hG
  have hlist := fun V => getListR_any y.list y.bytes A m c 0 16 V
  have hre : (if y.list then textE m 0 16 else 2) = rowE 0 16 y := by unfold rowE; rw [HNL.out]
  rw [hre] at hlist
  have hrl : ∃ A' N c', (if y.list = true ∧ textE m 0 16 = 0 then Value.slice A m c else .slice none 0 0) = .slice A' N c' ∧ (∀ w3 : World, (w.alloc (.cells #[.bool y.list, .string y.bytes, .slice A m c] 45)).grownBy w3 none → SubV (fun g => g < w.heap.size) w3 (rowL 0 16 y) (.slice A' N c')) ∧ N = (rowL 0 16 y).length ∧ N ≤ 100000 ∧ (∀ x ∈ rowL 0 16 y, ((x.items.tail).headD Itm.none_).items.length ≤ 100000) := by
    unfold rowL
    rw [← HNL.out]
    by_cases hL : y.list = true ∧ textE m 0 16 = 0
    · rw [if_pos hL, if_pos hL]
      exact ⟨A, m, c, rfl, fun w3 hg3 => hS.grown hg3, HNL.out, hn, h4⟩
    · rw [if_neg hL, if_neg hL]
      exact ⟨none, 0, 0, rfl, fun w3 _ => .mk [] none 0 [] (fun h => by cases h) (fun i h => by cases h), rfl, by omega, fun x hx => by cases hx⟩
  obtain ⟨A', N, c', hv, hsub, hN, hNn, h5⟩ := hrl
  rw [hv] at hlist
  have HLI := Lib.hid hlist
  have HSB := Lib.hid hsub
  obtain ⟨e1, he1⟩ : ∃ e, rowE 0 16 y = e := ⟨_, rfl⟩
  obtain ⟨E, hE⟩ : ∃ E, readE y = E := ⟨_, rfl⟩
  have HGE : Hid (E = fst1 e1 (firstL ((rowL 0 16 y).map (logE 0)))) := Lib.hid (by rw [← hE, ← he1]; rfl)
  rw [he1] at HLI
  obtain ⟨zs, hzs⟩ : ∃ zs, rowL 0 16 y = zs := ⟨_, rfl⟩
  rw [hzs] at HGE HSB hN h5
  have HN := Lib.hid hN; have H5 := Lib.hid h5
  rw [hE, hzs]
  clear hv hlist hre hS hsub hN hE hzs he1 h4 h5
  generalize y.list = yl at *
  generalize y.bytes = yb at *
  go_enter Tryz.func73, Tryz.ntmps73
  go_upto_region 1 with (fail)
  obtain ⟨b, hb⟩ : ∃ b, w.heap.size = b := ⟨_, rfl⟩
  have HW := Lib.hid hb
  rw [hb] at hB hz ⊢
  rw [hb] at HSB
  generalize w.alloc (.cells #[.bool yl, .string yb, .slice A m c] 45) = W1 at *
  have c0 := hB.cell 0; have c1 := hB.cell 1; have c2 := hB.cell 2
  simp only [List.getElem?_toArray, List.getElem?_cons_zero, List.getElem?_cons_succ] at c0 c1 c2
  go_wp2_with fail
  refine (HLI.out _).mono ?_
  rintro e w3 ⟨rfl, hg3⟩
  have hle3 : b + 1 ≤ w3.heap.size := by have := hg3.size; omega
  have HG3 := Lib.hid (grown_self hG hg3 (by simp))
  have H3 := Lib.hid (HSB.out w3 hg3)
  have HB3 := Lib.hid hle3
  obtain ⟨b3, hb3⟩ : ∃ b, w3.heap.size = b := ⟨_, rfl⟩
  have HE3 := Lib.hid hb3
  clear hb3 hb c0 c1 c2 hB hG hg3 hz hle3 HLI HSB
  by_cases h1 : e1 = 0
  rotate_left
  · have q1 : (e1 != 0) = true := by simpa using h1
    have hEv : E = e1 := by rw [HGE.out]; exact if_neg h1
    have HEE := Lib.hid hEv; have HH1 := Lib.hid h1
    clear h1 hEv
    go_wp2_with fail
    refine bodyPost_ret (results_tmp2 rfl _ _ _) rfl ?_
    exact ⟨_, _, _, by rw [HEE.out]; rfl, fun h => absurd (HEE.out ▸ h) HH1.out, HG3.out⟩
  subst h1
  go_wp2_with fail
  go_loopw [6, 7] (fun v i wr => ∃ (k : Nat) (vs : List (Option Addr × Nat)), i = .int .i64 k ∧ k ≤ N ∧ Hid (firstL ((zs.take k).map (logE 0)) = 0) ∧ Hid (RowLg b3 v k ((zs.take k).map logL) vs wr) ∧ w3.grownBy wr none) (fun _ i _ => N - (intOf i).toNat)
  case atStart => exact ⟨0, [], rfl, by omega, Lib.hid rfl, Lib.hid (RowLg.nil _ (by rw [HE3.out]; exact Nat.le_refl _)), World.grownBy.refl _ _⟩
  case round =>
    obtain ⟨k, vs, rfl, hk, hx, hK, hG⟩ := hrel
    have HX := Lib.hid hx.out; have HK := Lib.hid hK.out; have HG := Lib.hid hG
    clear hx hK
    by_cases hlt : k < N
    · obtain ⟨ivs, hvs, hrow⟩ := (H3.out.grown hG).row.2
      have hkz : k < zs.length := by have := HN.out; omega
      obtain ⟨g, off, rfl, hgS, hc⟩ := hrow (by omega)
      obtain ⟨c0, c1, c2⟩ := hc k hkz
      have hzk : zs[k]? = some (zs.getD k Itm.none_) := by rw [List.getD_eq_getElem?_getD, List.getElem?_eq_getElem hkz]; rfl
      have htk : zs.take (k + 1) = zs.take k ++ [zs.getD k Itm.none_] := by rw [List.take_add_one, hzk]; rfl
      have hmem : zs.getD k Itm.none_ ∈ zs := by rw [List.getD_eq_getElem?_getD, List.getElem?_eq_getElem hkz]; exact List.getElem_mem _
      have h5 := H5.out _ hmem
      have q1 : (k : Int) < (N : Int) := by omega
      have hsubk := (hvs k hkz).here
      obtain ⟨iA, ic, hyv⟩ := (hvs k hkz).slice
      rw [hyv] at c2 hsubk
      obtain ⟨x, hxx⟩ : ∃ x, zs.getD k Itm.none_ = x := ⟨_, rfl⟩
      rw [hxx] at c0 c1 c2 hsubk htk h5
      have hlog := logD_any x iA x.items.length ic wr hsubk h5
      obtain ⟨E1, hE1⟩ : ∃ E, logE 0 x = E := ⟨_, rfl⟩
      have HLOG : Hid (Calls Tryz.prog 107 #[.agg #[.bool x.list, .string x.bytes, .slice iA x.items.length ic]] wr fun e w' => ∃ a T k tc d, e = .returned (.tuple #[.agg #[.string a, .slice T k tc, .string d], .int .i64 E1]) ∧ (E1 = 0 → a = (logL x).addr ∧ d = (logL x).data ∧ k = (logL x).topics.length ∧ TopR (fun g => wr.heap.size ≤ g) w' (logL x).topics T k ∧ (T = none → k = 0 ∧ tc = 0)) ∧ wr.grownBy w' none) := Lib.hid (by rw [← hE1]; exact hlog)
      have HTK := Lib.hid htk; have HE1 := Lib.hid hE1
      clear hyv hc hrow hvs hzk htk hkz hgS hmem h5 hsubk hxx hlog hE1
      obtain ⟨oA, oc, rfl⟩ := own_slice3 HK.out.own
      obtain ⟨xn, hxn⟩ : ∃ n, x.items.length = n := ⟨_, rfl⟩
      obtain ⟨xl, hxl⟩ : ∃ n, x.list = n := ⟨_, rfl⟩
      obtain ⟨xb, hxb⟩ : ∃ n, x.bytes = n := ⟨_, rfl⟩
      rw [hxn, hxl, hxb] at HLOG
      rw [hxl] at c0; rw [hxb] at c1; rw [hxn] at c2
      clear hxn hxl hxb hG
      go_wp2_with fail
      refine (HLOG.out).mono ?_
      rintro e w6 ⟨a, T, kk, tc, d, rfl, hval, hg6⟩
      have HV := Lib.hid hval
      have HG6 := Lib.hid hg6
      have hga := only_alloc (World.grownBy.refl w6 none) (.cells #[.string a, .slice T kk tc, .string d] 40)
      have hba := Blk.new w6 40 #[.string a, .slice T kk tc, .string d]
      have HGA := Lib.hid hga
      obtain ⟨lb, hlb⟩ : ∃ b, w6.heap.size = b := ⟨_, rfl⟩
      rw [hlb] at hba
      clear c0 c1 c2 hval hg6 HLOG hga
      go_upto_region 9 with (fail)
      clear hlb
      generalize w6.alloc (.cells #[.string a, .slice T kk tc, .string d] 40) = w7 at *
      have d0 := hba.cell 0; have d1 := hba.cell 1; have d2 := hba.cell 2
      simp only [List.getElem?_toArray, List.getElem?_cons_zero, List.getElem?_cons_succ] at d0 d1 d2
      clear hba
      by_cases h0 : E1 = 0
      · have h0' : (E1 != 0) = false := by simp [h0]
        obtain ⟨va, vd, vk, vt, vn⟩ := HV.out h0
        have hT1 := HK.out.new_top vt
        have K1 := (HK.out.kept HG6.out).kept HGA.out
        have hT2 := hT1.keep fun p _ c hc => HGA.out.cell hc (by simp)
        have K2 := K1.kept (only_alloc (World.grownBy.refl w7 none) (.cells #[.string a, .slice T kk tc, .string d] 40))
        have hT3 := hT2.keep fun p _ c hc => (only_alloc (World.grownBy.refl w7 none) (.cells #[.string a, .slice T kk tc, .string d] 40)).cell hc (by simp)
        obtain ⟨i0, hi, hz0, hzs, hzb⟩ := info_parts log_info
        obtain ⟨v', u2, hrun, hown', hgrow, hiff, hob⟩ := run_append_own_at (P := Tryz.prog) (w7.alloc (.cells #[.string a, .slice T kk tc, .string d] 40)) b3 23 23 40 i0 _ 3 56 Tryz.underlying23 hi hz0 hzs hzb rfl (by decide) (.slice oA k oc) k (logsV ((zs.take k).map logL) vs) K2.own ⟨w7.heap.size, 0, none⟩ 1 1 [.string a, .slice T kk tc, .string d] rfl (cell_three_new _ _ _ _ _) (by simp [Value.oneCell']) (by simp only [maxLen]; omega) (by omega) K2.sz
        obtain ⟨g', cap', rfl⟩ := ownsRow_succ hown'
        have K3 := K2.put (x := logL x) (T := T) (tc := tc) (by rw [← vk]; exact hT3) (by rw [← vk]; exact vn) (by rw [← va, ← vd, ← vk]; exact hown') hgrow hob
        have hgn := grown_self (grown_self HG.out HG6.out (by simp)) HGA.out (by simp)
        have hgf := grown_self (only_alloc hgn (.cells #[.string a, .slice T kk tc, .string d] 40)) hgrow (fun j hj => .inr (by have := ownBlock_ge K2.own hj; have := HE3.out; omega))
        have HGF := Lib.hid hgf
        have hx1 : firstL ((zs.take (k + 1)).map (logE 0)) = 0 := by rw [HTK.out, logsX_snoc _ _ HX.out, HE1.out, h0]
        have HX1 := Lib.hid hx1
        have hml : (zs.take k).map logL ++ [logL x] = (zs.take (k + 1)).map logL := by rw [HTK.out, List.map_append]; rfl
        rw [hml] at K3
        have HK3 := Lib.hid K3
        have HRUN := Lib.hid hrun
        clear hx1 hml K3 K2 K1 hT1 hT2 hT3 hown' hgrow hiff hob va vd vk vt vn HV HG6 HGA hgn hgf HK HX hrun
        clear h0
        go_wp2_with (at_builtin; refine wpList_append_at rfl _ _ 23 rfl _ _ _ rfl rfl _ HRUN.out ?_)
        refine ⟨⟨k + 1, _, by go_num, by omega, HX1, HK3, HGF.out⟩, by simp [intOf]; omega⟩
      · have h0' : (E1 != 0) = true := by simp [h0]
        have hgn := grown_self (grown_self HG.out HG6.out (by simp)) HGA.out (by simp)
        have HGN := Lib.hid (grown_self HG3.out hgn (by simp))
        have hee : firstL (zs.map (logE 0)) = E1 := by
          have h1 : firstL ((zs.take (k + 1)).map (logE 0)) = E1 := by rw [HTK.out, logsX_snoc _ _ HX.out]; exact HE1.out
          rw [← List.take_append_drop (k + 1) zs, List.map_append, firstL_app, h1, if_pos h0]
        have hEv : E = E1 := by rw [HGE.out, hee, fst1_z]
        have HEV := Lib.hid hEv; have H0 := Lib.hid h0
        clear hgn hee hEv h0 HV HG6 HGA HK HX d0 d1 d2
        go_wp2_with fail
        refine bodyPost_ret (results_tmp2 rfl _ _ _) rfl ?_
        exact ⟨_, _, _, by rw [HEV.out]; rfl, fun h => absurd (HEV.out ▸ h) H0.out, HGN.out⟩
    · obtain rfl : k = N := by omega
      have hfin : decide ((k : Int) < (k : Int)) = false := by simp
      have ht : zs.take k = zs := List.take_of_length_le (by have := HN.out; omega)
      rw [ht] at HX HK
      have hEv : E = 0 := by rw [HGE.out, HX.out, fst1_z]
      obtain ⟨oA, oc, rfl⟩ := own_slice3 HK.out.own
      have HL := Lib.hid ((HK.out.logs fun i _ => logs_topicsD zs i).weak fun g hg => (show w.heap.size ≤ g by have := HG3.out.size; have := HE3.out; have h2 : b3 ≤ g := hg; omega))
      have HEV := Lib.hid hEv; have HGF := Lib.hid (grown_self HG3.out HG.out (by simp))
      clear hEv ht HK HX hG
      go_wp2_with fail
      refine bodyPost_ret (results_tmp2 rfl _ _ _) rfl ?_
      exact ⟨_, _, _, by rw [HEV.out]; rfl, fun _ => HL.out, HGF.out⟩
end Go.Proofs.YthalohloneojlaaGreatDoor
