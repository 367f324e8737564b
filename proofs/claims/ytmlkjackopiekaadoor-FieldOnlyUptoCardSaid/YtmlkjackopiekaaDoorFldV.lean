/- A list's texts, read. -/
import Derived.Test.YtmlkjackopiekaaDoorFldD
import Derived.Test.YtmlkjackopiekaaDoorApp
import Derived.Test.YtmlkjackopiekaaDoorFldT
namespace Go.Proofs.YtmlkjackopiekaaDoor
open Go.RowKit Go.Shelf
set_option linter.unusedVariables false
set_option linter.unusedSimpArgs false

theorem SubV.grown {S : Nat → Prop} {W W' : World} {xs : List Itm} {v : Value} (h : SubV S W xs v) (hg : W.grownBy W' none) : SubV S W' xs v := h.keep fun p _ u hu => hg.cell hu (by simp)
/-- why an item is no text -/
def tE (y : Itm) (least most : Int) : Int := if y.list then 2 else textE y.bytes.size least most
/-- why a row has an item that is no text -/
def gtxE : List Itm → Int → Int → Int
  | [], _, _ => 0
  | y :: ys, least, most => if tE y least most ≠ 0 then tE y least most else gtxE ys least most
/-- the items of a list that may be -/
def gtYs (l : Bool) (n : Nat) (many : Int) (ys : List Itm) : List Itm := if l = true ∧ textE n 0 many = 0 then ys else []
def gtE (l : Bool) (n : Nat) (many least most : Int) (ys : List Itm) : Int :=
  if gtxE (gtYs l n many ys) least most ≠ 0 then gtxE (gtYs l n many ys) least most else if l then textE n 0 many else 2
def gtR (E : Int) (ys : List Itm) : List Itm := if E = 0 then ys else []
theorem gtxE_snoc (ys : List Itm) (y : Itm) (a b : Int) (h : gtxE ys a b = 0) : gtxE (ys ++ [y]) a b = tE y a b := by
  induction ys with
  | nil => show (if tE y a b ≠ 0 then tE y a b else 0) = _; split <;> simp_all
  | cons x xs ih =>
    have hx : tE x a b = 0 := by
      by_cases h1 : tE x a b = 0
      · exact h1
      · rw [gtxE, if_pos h1] at h; exact absurd h h1
    rw [gtxE, if_neg (by simp [hx])] at h
    rw [List.cons_append, gtxE, if_neg (by simp [hx]), ih h]
theorem gtxE_err (ys zs : List Itm) (a b : Int) (h : gtxE ys a b ≠ 0) : gtxE (ys ++ zs) a b = gtxE ys a b := by
  induction ys with
  | nil => exact absurd rfl h
  | cons x xs ih =>
    by_cases h1 : tE x a b = 0
    · rw [gtxE, if_neg (by simp [h1])] at h
      rw [List.cons_append, gtxE, gtxE, if_neg (by simp [h1]), if_neg (by simp [h1]), ih h]
    · rw [List.cons_append, gtxE, gtxE, if_pos h1, if_pos h1]
theorem string_info : (Tryd.prog.info? 9).map (fun i => (i.zero, i.size, i.bytes)) = some (some (.string .empty), 1, 16) := by kernel_rfl

theorem own_lower {w : World} {base base' size n : Nat} {e : TypeId} {v : Value} {xs : List Value} (h : w.ownsRow base e size v n xs) (hb : base' ≤ base) : w.ownsRow base' e size v n xs := by
  refine ⟨h.1, ?_⟩
  rcases h.2 with h1 | ⟨g, cap, cur, hv, hg, rest⟩
  · exact .inl h1
  · exact .inr ⟨g, cap, cur, hv, by omega, rest⟩
set_option maxRecDepth 100000 in
set_option maxHeartbeats 400000 in
theorem getTexts_any (l : Bool) (s : ByteArray) (A : Option Addr) (n c : Nat) (ys : List Itm) (many least most : Int) (w : World) (hS : SubV (fun g => g < w.heap.size) w ys (.slice A n c)) (hn : n ≤ 100000) :
    Calls Tryd.prog 24 #[.agg #[.bool l, .string s, .slice A n c], .int .i64 many, .int .i64 least, .int .i64 most] w fun e w' => ∃ (v : Value) (xs : List Itm), e = .returned (.tuple #[v, .int .i64 (gtE l n many least most ys)]) ∧ w'.ownsRow w.heap.size 9 1 v xs.length (xs.map fun y => Value.string y.bytes) ∧ xs = gtR (gtE l n many least most ys) ys ∧ w.grownBy w' none := by
  have hB := Blk.new w 30 #[.bool l, .string s, .slice A n c]
  have hG := only_alloc (World.grownBy.refl w none) (.cells #[.bool l, .string s, .slice A n c] 30)
  have hz : (w.alloc (.cells #[.bool l, .string s, .slice A n c] 30)).heap.size = w.heap.size + 1 := by simp
  have HNL := Lib.hid hS.row.1
  have hS := hS.grown hG
  have HI := Lib.hid string_info
  go_enter Tryd.func24, Tryd.ntmps24
  go_upto_region 1 with (fail)
  obtain ⟨b, hb⟩ : ∃ b, w.heap.size = b := ⟨_, rfl⟩
  have HW := Lib.hid hb
  rw [hb] at hB hz ⊢
  generalize w.alloc (.cells #[.bool l, .string s, .slice A n c] 30) = W1 at *
  have c0 := hB.cell 0; have c1 := hB.cell 1; have c2 := hB.cell 2
  simp only [List.getElem?_toArray, List.getElem?_cons_zero, List.getElem?_cons_succ] at c0 c1 c2
  go_wp2_with fail
  refine (getList_any l s A n c 0 many _).mono ?_
  rintro e w3 ⟨rfl, hg3⟩
  have hlv : ∃ A' N c', (if l = true ∧ textE n 0 many = 0 then Value.slice A n c else .slice none 0 0) = .slice A' N c' ∧ SubV (fun g => g < w.heap.size) w3 (gtYs l n many ys) (.slice A' N c') ∧ N = (gtYs l n many ys).length ∧ N ≤ 100000 := by
    unfold gtYs
    by_cases hL : l = true ∧ textE n 0 many = 0
    · rw [if_pos hL, if_pos hL]
      exact ⟨A, n, c, rfl, hS.grown hg3, HNL.out, hn⟩
    · rw [if_neg hL, if_neg hL]
      exact ⟨none, 0, 0, rfl, .mk [] none 0 [] (fun h => by cases h) (fun i h => by cases h), rfl, by omega⟩
  have HGE : Hid (gtE l n many least most ys = if gtxE (gtYs l n many ys) least most ≠ 0 then gtxE (gtYs l n many ys) least most else if l then textE n 0 many else 2) := Lib.hid rfl
  have hlink : gtE l n many least most ys = 0 → gtYs l n many ys = ys := by
    intro h0
    unfold gtE at h0
    unfold gtYs at h0 ⊢
    by_cases hL : l = true ∧ textE n 0 many = 0
    · rw [if_pos hL]
    · rw [if_neg hL] at h0
      rw [show gtxE [] least most = 0 from rfl, if_neg (by simp)] at h0
      cases l with
      | false => simp at h0
      | true => exact absurd ⟨rfl, by simpa using h0⟩ hL
  have hlink2 : (if l = true then textE n 0 many else 2) ≠ 0 → gtYs l n many ys = [] := by
    intro h0
    unfold gtYs
    rw [if_neg]
    rintro ⟨rfl, h1⟩
    rw [if_pos rfl] at h0
    exact h0 h1
  obtain ⟨A', N, c', hv, hS', hN, hNn⟩ := hlv
  rw [hv]
  generalize hE1 : (if l = true then textE n 0 many else 2) = e1 at *
  generalize gtYs l n many ys = zs at *
  obtain ⟨E, hE⟩ : ∃ E, gtE l n many least most ys = E := ⟨_, rfl⟩
  rw [hE] at HGE hlink
  have HE := Lib.hid hE
  have HL := Lib.hid hlink
  have HL2 := Lib.hid hlink2
  have HN := Lib.hid hN
  have hle3 : b + 1 ≤ w3.heap.size := by have := hg3.size; omega
  have HG3 := Lib.hid (grown_self hG hg3 (by simp))
  have H3 := Lib.hid hS'
  have HB3 := Lib.hid hle3
  obtain ⟨b3, hb3⟩ : ∃ b, w3.heap.size = b := ⟨_, rfl⟩
  have HE3 := Lib.hid hb3
  obtain ⟨i0, hi, hz0, hzs, hzb⟩ := info_parts string_info
  clear hb3 hE hb hlink hlink2 hv hE1 c0 c1 c2 hB hG hS hS' hg3 hN hz hle3
  go_wp2_with fail
  go_loopw [12, 25] (fun v i wr => ∃ k : Nat, i = .int .i64 k ∧ k ≤ N ∧ gtxE (zs.take k) least most = 0 ∧ wr.ownsRow b3 9 1 v k ((zs.take k).map fun y => Value.string y.bytes) ∧ w3.grownBy wr none) (fun _ i _ => N - (intOf i).toNat)
  case atStart => exact ⟨0, rfl, by omega, rfl, World.ownsRow_nil _ _ _ _, World.grownBy.refl _ _⟩
  case round =>
    obtain ⟨k, rfl, hk, hx, hO, hG⟩ := hrel
    have hsz : b3 ≤ wr.heap.size := by have := hG.size; have := HE3.out; omega
    by_cases hlt : k < N
    · obtain ⟨vs, hvs, hrow⟩ := (H3.out.grown hG).row.2
      have hkz : k < zs.length := by have := HN.out; omega
      obtain ⟨g, off, rfl, hgS, hc⟩ := hrow (by omega)
      obtain ⟨c0, c1, c2⟩ := hc k hkz
      have hzk : zs[k]? = some (zs.getD k Itm.none_) := by rw [List.getD_eq_getElem?_getD, List.getElem?_eq_getElem hkz]; rfl
      have htk : zs.take (k + 1) = zs.take k ++ [zs.getD k Itm.none_] := by rw [List.take_add_one, hzk]; rfl
      have q1 : (k : Int) < (N : Int) := by omega
      obtain ⟨iA, ic, hyv⟩ := (hvs k hkz).slice
      rw [hyv] at c2
      generalize (zs.getD k Itm.none_).items.length = iN at *
      generalize zs.getD k Itm.none_ = y at *
      obtain ⟨yl, yb, yi⟩ := y
      have HTK := Lib.hid htk
      have HX := Lib.hid hx
      clear hyv hc hrow hvs hzk htk hx hkz hgS
      obtain ⟨oA, oc, rfl⟩ := own_slice3 hO
      simp only [Itm.list, Itm.bytes] at c0 c1
      obtain ⟨b14, hb14⟩ : ∃ b, wr.heap.size = b := ⟨_, rfl⟩
      have hB14 := Blk.new wr 30 #[.bool yl, .string yb, .slice iA iN ic]
      have hO := hO.alloc (.cells #[.bool yl, .string yb, .slice iA iN ic] 30)
      have hG := only_alloc hG (.cells #[.bool yl, .string yb, .slice iA iN ic] 30)
      have hsz : b3 ≤ (wr.alloc (.cells #[.bool yl, .string yb, .slice iA iN ic] 30)).heap.size := by simp; omega
      rw [hb14] at hB14
      go_upto_region 6 with (fail)
      generalize wr.alloc (.cells #[.bool yl, .string yb, .slice iA iN ic] 30) = W5 at *
      clear c0 c1 c2
      have c0 := hB14.cell 0; have c1 := hB14.cell 1; have c2 := hB14.cell 2
      simp only [List.getElem?_toArray, List.getElem?_cons_zero, List.getElem?_cons_succ] at c0 c1 c2
      clear hb14 hB14
      go_wp2_with fail
      refine (getText_any yl yb (.slice iA iN ic) least most _).mono ?_
      rintro e w6 ⟨rfl, hg6⟩
      have hO := hO.kept hg6 (by cases oA; exact .inl rfl; exact .inr (by simp [Value.ownBlock]))
      have hsz6 := hg6.size
      have hG := grown_self hG hg6 (by simp)
      clear c0 c1 c2
      have HTE : Hid (tE (.mk yl yb yi) least most = if yl = true then 2 else textE yb.size least most) := Lib.hid rfl
      generalize hEE : (if yl = true then 2 else textE yb.size least most) = ee at *
      by_cases h0 : ee = 0
      · have hl0 : yl = false ∧ textE yb.size least most = 0 := by
          cases yl with
          | true => rw [if_pos rfl] at hEE; omega
          | false => rw [if_neg (by simp)] at hEE; exact ⟨rfl, hEE.trans h0⟩
        rw [if_pos hl0]
        have h0' : (ee != 0) = false := by simp [h0]
        clear hEE hl0
        subst h0
        go_wp2_with (at_builtin; refine wpList_append_own _ rfl _ _ 25 rfl b3 9 i0 _ 1 16 Tryd.underlying25 hi hz0 hzs hzb rfl (by decide) _ _ _ rfl (hO.alloc _) ⟨w6.heap.size, 0, none⟩ 1 1 [.string yb] rfl rfl (cell_one_new _ _ _) (by simp [Value.oneCell']) (by simp only [maxLen]; omega) (by omega) (by simp; omega) ?_; intro v' w7 hown7 hgrow _)
        refine ⟨⟨k + 1, by go_num, by omega, ?_, ?_, ?_⟩, by simp [intOf]; omega⟩
        · rw [HTK.out, gtxE_snoc _ _ _ _ HX.out]; exact HTE.out
        · rw [HTK.out, List.map_append]; exact hown7
        · exact grown_self (only_alloc hG _) hgrow (fun j hj => .inr (by have := own_ge hO hj; have := HE3.out; omega))
      · have hl0 : ¬ (yl = false ∧ textE yb.size least most = 0) := by
          rintro ⟨rfl, h1⟩
          rw [if_neg (by simp)] at hEE; exact h0 (hEE.symm.trans h1)
        rw [if_neg hl0]
        have h0' : (ee != 0) = true := by simp [h0]
        clear hEE hl0
        go_wp2_with fail
        refine bodyPost_ret (results_tmp2 rfl _ _ _) rfl ?_
        have hee : gtxE zs least most = ee := by
          have h1 : gtxE (zs.take (k + 1)) least most = ee := by rw [HTK.out, gtxE_snoc _ _ _ _ HX.out]; exact HTE.out
          rw [← List.take_append_drop (k + 1) zs, gtxE_err _ _ _ _ (by rw [h1]; exact h0), h1]
        have hEv : E = ee := by rw [HGE.out, hee, if_pos h0]
        have hEE := HE.out.trans hEv
        exact ⟨_, [], by rw [hEE]; rfl, World.ownsRow_nil _ _ _ _, by rw [hEE]; exact (if_neg h0).symm, grown_self HG3.out hG (by simp)⟩
    · obtain rfl : k = N := by omega
      have hfin : decide ((k : Int) < (k : Int)) = false := by simp
      go_wp2_with fail
      refine bodyPost_ret (results_tmp2 rfl _ _ _) rfl ?_
      have ht : zs.take k = zs := List.take_of_length_le (by have := HN.out; omega)
      rw [ht] at hx hO
      have hEv : E = e1 := by rw [HGE.out, hx, if_neg (by simp)]
      have hEE := HE.out.trans hEv
      have hzl : zs = if e1 = 0 then ys else [] := by
        by_cases h1 : e1 = 0
        · rw [if_pos h1, HL.out (hEv.trans h1)]
        · rw [if_neg h1, HL2.out h1]
      have hzk : zs.length = k := HN.out.symm
      exact ⟨_, zs, by rw [hEE]; rfl, by rw [hzk]; exact own_lower hO (by have := HE3.out; have := HG3.out.size; omega), by rw [hEE]; exact hzl, grown_self HG3.out hG (by simp)⟩
end Go.Proofs.YtmlkjackopiekaaDoor
