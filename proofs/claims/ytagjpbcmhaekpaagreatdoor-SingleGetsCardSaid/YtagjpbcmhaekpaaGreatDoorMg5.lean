/- Merged: RlpG1, RlpL, One, OpenI, Rep, Unfx, Prs. -/
import Derived.Test.YtagjpbcmhaekpaaGreatDoorMg4
import Derived.Shelf.Bits.Mul64
import Derived.Shelf.Strings.Prefix
import Derived.Lib.RepeatB
import Derived.Deep.LoopGhost
import Derived.Deep.DeepCutAuto
import Derived.StillTailTactics
/- Encode, as the program has it. -/
namespace Go.Proofs.YtagjpbcmhaekpaaGreatDoor
open Go.RowKit Go.Shelf
set_option linter.unusedVariables false
set_option linter.unusedSimpArgs false

/-- AN ITEM'S BYTES, if it is one -/
def encB (x : Itm) : List UInt8 := if checkI x = 0 then bytesF x else []
set_option maxRecDepth 100000 in
set_option maxHeartbeats 2000000 in
theorem encodeP_any (x : Itm) (W : World) (sx : Value) (hsx : SubW W x.items sx) (hwt : wtF x ≤ 1000000000) :
    Calls Tryz.prog 15 #[.agg #[.bool x.list, .string x.bytes, sx]] W fun e W' => e = .returned (.tuple #[.string ⟨(encB x).toArray⟩, .int .i64 (checkI x)]) ∧ W.grownBy W' none := by
  obtain ⟨A, c, rfl⟩ := hsx.slice
  have hG1 := only_alloc (World.grownBy.refl W none) (.cells #[.bool x.list, .string x.bytes, .slice A x.items.length c] 40)
  have hx0 := Blk.new W 40 #[.bool x.list, .string x.bytes, .slice A x.items.length c]
  have hS1 := hsx.grown hG1
  have HK := Lib.hid (checkP_any x _ _ hS1 hwt)
  have HG := Lib.hid hG1
  have HS := Lib.hid hS1
  have HX := Lib.hid hx0
  obtain ⟨E, hE⟩ : ∃ E, checkI x = E := ⟨_, rfl⟩
  rw [hE] at HK ⊢
  by_cases h0 : E = 0
  · have HB : Hid (encB x = bytesF x) := Lib.hid (if_pos (by rw [hE, h0]))
    rw [h0] at HK ⊢
    clear hG1 hx0 hS1 hsx hE h0
    go_enter Tryz.func15, Tryz.ntmps15
    go_wp2_with fail
    refine HK.out.mono ?_
    rintro e w2 ⟨rfl, hg2⟩
    have hx2 := HX.out.grown hg2 (by simp)
    have hS2 := HS.out.grown hg2
    have HG := Lib.hid (grown_self HG.out hg2 (by simp))
    have c0 := hx2.cell 0; have c1 := hx2.cell 1; have c2 := hx2.cell 2
    simp only [List.getElem?_toArray, List.getElem?_cons_zero, List.getElem?_cons_succ] at c0 c1 c2
    have HY := Lib.hid (bytes_any x _ _ hS2 hwt)
    clear hg2 hx2 hS2 HK
    go_wp2_with fail
    refine HY.out.mono ?_
    rintro e w3 ⟨rfl, hg3⟩
    have HG := Lib.hid (grown_self HG.out hg3 (by simp))
    clear hg3
    go_wp2_with fail
    go_ret2
    exact ⟨by rw [HB.out]; rfl, HG.out⟩
  · have HB : Hid (encB x = []) := Lib.hid (if_neg (by rw [hE]; exact h0))
    have e1 : (E != 0) = true := by simpa using h0
    clear hG1 hx0 hS1 hsx hE h0
    go_enter Tryz.func15, Tryz.ntmps15
    go_wp2_with fail
    refine HK.out.mono ?_
    rintro e w2 ⟨rfl, hg2⟩
    have HG := Lib.hid (grown_self HG.out hg2 (by simp))
    clear hg2 HK
    go_wp2_with fail
    go_ret2
    exact ⟨by rw [HB.out]; rfl, HG.out⟩
end Go.Proofs.YtagjpbcmhaekpaaGreatDoor
/- No two items have the same bytes, nor begin another one's: plain laws. -/
namespace Go.Proofs.YtagjpbcmhaekpaaGreatDoor
open Go.RowKit Go.Shelf
set_option linter.unusedVariables false
set_option linter.unusedSimpArgs false

/-- a head tells how much there is, and of what -/
theorem headL_inj {n m p q : Nat} {u v : List UInt8} (hn : n ≤ 1000000000) (hm : m ≤ 1000000000) (hp : p = 128 ∨ p = 192) (hq : q = 128 ∨ q = 192) (h : headL n p ++ u = headL m q ++ v) : n = m ∧ p = q ∧ u = v := by
  have l1 := beN_len8 n (by omega)
  have l2 := beN_len8 m (by omega)
  unfold headL at h
  by_cases h1 : n < 56
  · rw [if_pos h1] at h
    by_cases h2 : m < 56
    · rw [if_pos h2] at h
      injection h with h3 h4
      have := u8_inj (by omega) (by omega) h3
      exact ⟨by omega, by omega, h4⟩
    · rw [if_neg h2] at h
      injection h with h3 h4
      have := u8_inj (by omega) (by omega) h3
      have := beN_pos (n := m) (by omega) hm
      omega
  · rw [if_neg h1] at h
    have := beN_pos (n := n) (by omega) hn
    by_cases h2 : m < 56
    · rw [if_pos h2] at h
      injection h with h3 h4
      have := u8_inj (by omega) (by omega) h3
      omega
    · rw [if_neg h2] at h
      have := beN_pos (n := m) (by omega) hm
      injection h with h3 h4
      have := u8_inj (by omega) (by omega) h3
      obtain ⟨h5, h6⟩ := List.append_inj h4 (by omega)
      exact ⟨beN_inj hn hm h5, by omega, h6⟩
theorem headL_first (n p : Nat) (hn : n ≤ 1000000000) (hp : p = 128 ∨ p = 192) : ∃ z l, headL n p = z :: l ∧ p ≤ z.toNat ∧ z.toNat < p + 64 := by
  have l1 := beN_len8 n (by omega)
  unfold headL
  split
  · exact ⟨_, _, rfl, by rw [UInt8.toNat_ofNat']; omega, by rw [UInt8.toNat_ofNat']; omega⟩
  · exact ⟨_, _, rfl, by rw [UInt8.toNat_ofNat']; omega, by rw [UInt8.toNat_ofNat']; omega⟩
theorem bytesT_first (b : ByteArray) (h : b.size ≤ 1000000000) : ∃ z l, bytesT b = z :: l ∧ z.toNat < 192 := by
  unfold bytesT
  split
  · rename_i h1
    have hl : b.data.toList.length = 1 := by rw [Array.length_toList]; exact h1.1
    cases hb : b.data.toList with
    | nil => rw [hb] at hl; cases hl
    | cons z l => rw [hb] at h1; exact ⟨z, l, rfl, Nat.lt_of_lt_of_le h1.2 (by omega)⟩
  · obtain ⟨z, l, e, h1, h2⟩ := headL_first b.size 128 h (.inl rfl)
    exact ⟨z, l ++ b.data.toList, by rw [e]; rfl, h2⟩
theorem bytesT_inj {p q : ByteArray} {u v : List UInt8} (hp : p.size ≤ 1000000000) (hq : q.size ≤ 1000000000) (h : bytesT p ++ u = bytesT q ++ v) : p = q ∧ u = v := by
  have lp : p.data.toList.length = p.size := Array.length_toList
  have lq : q.data.toList.length = q.size := Array.length_toList
  unfold bytesT at h
  by_cases h1 : p.size = 1 ∧ (p.data.toList.getD 0 0).toNat < 128
  · rw [if_pos h1] at h
    by_cases h2 : q.size = 1 ∧ (q.data.toList.getD 0 0).toNat < 128
    · rw [if_pos h2] at h
      obtain ⟨h3, h4⟩ := List.append_inj h (by omega)
      exact ⟨ba_ext h3, h4⟩
    · rw [if_neg h2] at h
      obtain ⟨z, l, e, h3, _⟩ := headL_first q.size 128 hq (.inl rfl)
      rw [e] at h
      cases hb : p.data.toList with
      | nil => rw [hb] at lp; simp at lp; omega
      | cons y r =>
        rw [hb] at h h1
        injection h with h5 _
        subst h5
        have : y.toNat < 128 := h1.2
        omega
  · rw [if_neg h1] at h
    by_cases h2 : q.size = 1 ∧ (q.data.toList.getD 0 0).toNat < 128
    · rw [if_pos h2] at h
      obtain ⟨z, l, e, h3, _⟩ := headL_first p.size 128 hp (.inl rfl)
      rw [e] at h
      cases hb : q.data.toList with
      | nil => rw [hb] at lq; simp at lq; omega
      | cons y r =>
        rw [hb] at h h2
        injection h with h5 _
        subst h5
        have : z.toNat < 128 := h2.2
        omega
    · rw [if_neg h2, List.append_assoc, List.append_assoc] at h
      obtain ⟨h3, _, h4⟩ := headL_inj hp hq (.inl rfl) (.inl rfl) h
      obtain ⟨h5, h6⟩ := List.append_inj h4 (by omega)
      exact ⟨ba_ext h5, h6⟩

/-- what may be has no bytes besides its items, nor items besides its bytes -/
inductive Itm.Form : Itm → Prop
  | text (b : ByteArray) : Itm.Form (.mk false b [])
  | list (xs : List Itm) (h : ∀ x, x ∈ xs → Itm.Form x) : Itm.Form (.mk true ⟨#[]⟩ xs)
theorem size_zero {b : ByteArray} (h : b.size = 0) : b = ⟨#[]⟩ := ba_ext (by
  have : b.data.toList.length = 0 := by rw [Array.length_toList]; exact h
  exact List.eq_nil_of_length_eq_zero this)
mutual
theorem form_of : ∀ (x : Itm) (d : Nat), formF x d = 0 → x.Form
  | .mk l b xs, d, h => by
    rw [formF] at h
    split at h
    · cases h
    rename_i h1
    cases l with
    | false =>
      have : xs = [] := List.eq_nil_of_length_eq_zero (Classical.byContradiction fun h2 => h1 (.inr ⟨rfl, h2⟩))
      subst this
      exact .text b
    | true =>
      have hb := size_zero (b := b) (Classical.byContradiction fun h2 => h1 (.inl ⟨rfl, h2⟩))
      subst hb
      rw [if_neg (by simp)] at h
      split at h
      · cases h
      split at h
      · cases h
      exact .list xs (form_ofL xs (d + 1) h)
theorem form_ofL : ∀ (xs : List Itm) (d : Nat), formL xs d = 0 → ∀ x, x ∈ xs → x.Form
  | [], d, _, x, hx => by cases hx
  | y :: ys, d, h, x, hx => by
    rw [formL] at h
    split at h
    · rename_i h1; exact absurd h h1
    · rename_i h1
      rcases List.mem_cons.1 hx with e | hx
      · rw [e]; exact form_of y d (by simpa using h1)
      · exact form_ofL ys d h x hx
end
theorem wt_mem {xs : List Itm} {x : Itm} (h : x ∈ xs) : wtF x ≤ wtL xs := by
  induction xs with
  | nil => cases h
  | cons y ys ih =>
    rw [wtL]
    rcases List.mem_cons.1 h with rfl | h
    · omega
    · have := ih h; omega
theorem bytesF_first (x : Itm) (h : wtF x ≤ 1000000000) : ∃ z l, bytesF x = z :: l ∧ (x.list = true → 192 ≤ z.toNat) ∧ (x.list = false → z.toNat < 192) := by
  have hw := wtF_eq x
  have hl := bytesL_len x.items (by omega)
  rw [bytesF_eq]
  cases hx : x.list with
  | true =>
    obtain ⟨z, l, e, h1, _⟩ := headL_first (bytesL x.items).length 192 (by omega) (.inr rfl)
    exact ⟨z, l ++ bytesL x.items, by rw [if_pos rfl, e]; rfl, fun _ => h1, (fun h => by cases h)⟩
  | false =>
    obtain ⟨z, l, e, h1⟩ := bytesT_first x.bytes (by omega)
    exact ⟨z, l, by rw [if_neg (by simp)]; exact e, (fun h => by cases h), fun _ => h1⟩
theorem bytesL_inj {xs : List Itm} (hI : ∀ x, x ∈ xs → ∀ y u v, y.Form → wtF y ≤ 1000000000 → bytesF x ++ u = bytesF y ++ v → x = y ∧ u = v) (hw : ∀ x, x ∈ xs → wtF x ≤ 1000000000) :
    ∀ ys : List Itm, (∀ y, y ∈ ys → y.Form) → (∀ y, y ∈ ys → wtF y ≤ 1000000000) → bytesL xs = bytesL ys → xs = ys := by
  induction xs with
  | nil =>
    intro ys _ hy h
    cases ys with
    | nil => rfl
    | cons y ys =>
      obtain ⟨z, l, e, _⟩ := bytesF_first y (hy y (by simp))
      rw [bytesL, bytesL, e] at h
      cases h
  | cons x xs ih =>
    intro ys hF hy h
    cases ys with
    | nil =>
      obtain ⟨z, l, e, _⟩ := bytesF_first x (hw x (by simp))
      rw [bytesL, bytesL, e] at h
      cases h
    | cons y ys =>
      rw [bytesL, bytesL] at h
      obtain ⟨h1, h2⟩ := hI x (by simp) y _ _ (hF y (by simp)) (hy y (by simp)) h
      rw [h1, ih (fun x hx => hI x (by simp [hx])) (fun x hx => hw x (by simp [hx])) ys (fun y h => hF y (by simp [h])) (fun y h => hy y (by simp [h])) h2]
/-- NO ITEM'S BYTES BEGIN ANOTHER ONE'S -/
theorem bytesF_inj (x : Itm) (hx : x.Form) (hwx : wtF x ≤ 1000000000) : ∀ (y : Itm) (u v : List UInt8), y.Form → wtF y ≤ 1000000000 → bytesF x ++ u = bytesF y ++ v → x = y ∧ u = v := by
  induction hx with
  | text p =>
    intro y u v hy hwy h
    cases hy with
    | text q =>
      rw [wtF] at hwx hwy
      rw [bytesF_eq, bytesF_eq] at h
      obtain ⟨h1, h2⟩ := bytesT_inj (p := p) (q := q) (by omega) (by omega) h
      exact ⟨by rw [h1], h2⟩
    | list ys hys =>
      obtain ⟨z, l, e, _, h1⟩ := bytesF_first _ hwx
      obtain ⟨z', l', e', h2, _⟩ := bytesF_first _ hwy
      rw [e, e'] at h
      injection h with h3 _
      subst h3
      have := h1 rfl; have := h2 rfl; omega
  | list xs hxs ih =>
    intro y u v hy hwy h
    cases hy with
    | text q =>
      obtain ⟨z, l, e, h1, _⟩ := bytesF_first _ hwx
      obtain ⟨z', l', e', _, h2⟩ := bytesF_first _ hwy
      rw [e, e'] at h
      injection h with h3 _
      subst h3
      have := h1 rfl; have := h2 rfl; omega
    | list ys hys =>
      rw [wtF] at hwx hwy
      have hlx := bytesL_len xs (by omega)
      have hly := bytesL_len ys (by omega)
      rw [bytesF_eq, bytesF_eq] at h
      have h : (headL (bytesL xs).length 192 ++ bytesL xs) ++ u = (headL (bytesL ys).length 192 ++ bytesL ys) ++ v := h
      rw [List.append_assoc, List.append_assoc] at h
      obtain ⟨h1, _, h2⟩ := headL_inj (by omega) (by omega) (.inr rfl) (.inr rfl) h
      obtain ⟨h3, h4⟩ := List.append_inj h2 h1
      have hw1 : ∀ x, x ∈ xs → wtF x ≤ 1000000000 := fun x hx => by have := wt_mem hx; omega
      have hw2 : ∀ x, x ∈ ys → wtF x ≤ 1000000000 := fun x hx => by have := wt_mem hx; omega
      exact ⟨by rw [bytesL_inj (fun x hx y u v hy hwy => ih x hx (hw1 x hx) y u v hy hwy) hw1 ys hys hw2 h3], h4⟩
theorem check_form {x : Itm} (h : checkI x = 0) : x.Form ∧ (bytesF x).length ≤ 65536 ∧ formF x 0 = 0 := by
  unfold checkI at h
  split at h
  · rename_i h1; exact absurd h h1
  · rename_i h1
    have h1 : formF x 0 = 0 := by simpa using h1
    split at h
    · cases h
    · exact ⟨form_of x 0 h1, by omega, h1⟩
end Go.Proofs.YtagjpbcmhaekpaaGreatDoor
/- One item that a law has laid in a box. -/
namespace Go.Proofs.YtagjpbcmhaekpaaGreatDoor
open Go.RowKit Go.Shelf
set_option linter.unusedVariables false
set_option linter.unusedSimpArgs false

theorem leafW (W : World) (c : Nat) : SubW W [] (.slice none 0 c) := .mk [] none c [] (fun h => by cases h) (fun i h => by cases h)
/-- one item that a law has laid in a box -/
structure One (W0 W : World) (b : Nat) (x : Itm) (sx : Value) : Prop where
  hg : W0.grownBy W none
  bx : Blk W b 40 #[.bool x.list, .string x.bytes, sx]
  sx : SubW W x.items sx
theorem One.grown {W0 W W' : World} {b : Nat} {x : Itm} {sx : Value} (h : One W0 W b x sx) (hg : W.grownBy W' none) : One W0 W' b x sx :=
  ⟨grown_self h.hg hg (by simp), h.bx.grown hg (by simp), h.sx.grown hg⟩
theorem One.cells {W0 W : World} {b : Nat} {x : Itm} {sx : Value} (h : One W0 W b x sx) : W.cell? ⟨b, 0, none⟩ = some (.bool x.list) ∧ W.cell? ⟨b, 1, none⟩ = some (.string x.bytes) ∧ W.cell? ⟨b, 2, none⟩ = some sx :=
  ⟨h.bx.cell 0, h.bx.cell 1, h.bx.cell 2⟩
theorem One.below {W0 W : World} {b : Nat} {x : Itm} {sx : Value} (h : One W0 W b x sx) : Below W0.heap.size W0 W := below_of_grown h.hg
theorem two_boxes (W : World) (x y : Itm) (sx sy : Value) (hx : SubW W x.items sx) (hy : SubW W y.items sy) :
    One W ((W.alloc (.cells #[.bool x.list, .string x.bytes, sx] 40)).alloc (.cells #[.bool y.list, .string y.bytes, sy] 40)) W.heap.size x sx ∧
    One W ((W.alloc (.cells #[.bool x.list, .string x.bytes, sx] 40)).alloc (.cells #[.bool y.list, .string y.bytes, sy] 40)) (W.heap.size + 1) y sy := by
  have hG := only_alloc (only_alloc (World.grownBy.refl W none) (.cells #[.bool x.list, .string x.bytes, sx] 40)) (.cells #[.bool y.list, .string y.bytes, sy] 40)
  have hb := Blk.new (W.alloc (.cells #[.bool x.list, .string x.bytes, sx] 40)) 40 #[.bool y.list, .string y.bytes, sy]
  rw [World.size_alloc] at hb
  exact ⟨⟨hG, (Blk.new W _ _).alloc _, hx.grown hG⟩, ⟨hG, hb, hy.grown hG⟩⟩
theorem one_box (W : World) (x : Itm) (sx : Value) (hx : SubW W x.items sx) : One W (W.alloc (.cells #[.bool x.list, .string x.bytes, sx] 40)) W.heap.size x sx := by
  have hG := only_alloc (World.grownBy.refl W none) (.cells #[.bool x.list, .string x.bytes, sx] 40)
  exact ⟨hG, Blk.new W _ _, hx.grown hG⟩
end Go.Proofs.YtagjpbcmhaekpaaGreatDoor
/- An item that came in, as a tree in memory; how much it weighs. -/
namespace Go.Proofs.YtagjpbcmhaekpaaGreatDoor
open Go.ChangeShapes Go.WideShapes Go.RowKit Go.Deep Go.Joins
set_option linter.unusedVariables false
set_option linter.constructorNameAsVariable false

theorem list_ofI {α : Type} {R : Nat → α → Prop} : ∀ n : Nat, (∀ i, i < n → ∃ x, R i x) → ∃ xs : List α, xs.length = n ∧ ∀ i (h : i < xs.length), R i xs[i]
  | 0, _ => ⟨[], rfl, fun i h => absurd h (by simp)⟩
  | n + 1, h => by
    obtain ⟨xs, hl, hx⟩ := list_ofI n fun i hi => h i (by omega)
    obtain ⟨x, hxn⟩ := h n (by omega)
    refine ⟨xs ++ [x], by simp [hl], fun i hi => ?_⟩
    by_cases h1 : i < xs.length
    · rw [List.getElem_append_left h1]; exact hx i h1
    · obtain rfl : i = n := by simp at hi; omega
      rw [List.getElem_append_right (by omega)]
      simpa [hl] using hxn
theorem bulk_sum {H : Type} : ∀ (xs : List Itm) (ds : List (DataW H)), xs.length = ds.length → (∀ i (h : i < xs.length) (h' : i < ds.length), wtF xs[i] ≤ 10 * Rows.uptoBulk ds[i]) → wtL xs ≤ 10 * Rows.uptoBulkAll ds
  | [], _, _, _ => by rw [wtL]; omega
  | x :: xs, [], h, _ => by cases h
  | x :: xs, d :: ds, h, hk => by
    rw [wtL, Rows.uptoBulkAll]
    have h0 := hk 0 (by simp) (by simp)
    have := bulk_sum xs ds (by simpa using h) (fun i h1 h2 => by have := hk (i + 1) (by simpa using h1) (by simpa using h2); simpa using this)
    simp only [List.getElem_cons_zero] at h0
    omega
theorem bulk_mem {H : Type} {d : DataW H} {l : List (DataW H)} (h : d ∈ l) : Rows.uptoBulk d ≤ Rows.uptoBulkAll l := by
  induction l with
  | nil => cases h
  | cons x r ih =>
    rw [Rows.uptoBulkAll]
    rcases List.mem_cons.1 h with rfl | h
    · omega
    · have := ih h; omega

section
variable {H : Type} {enc : TypeId × Value → H} {w : World} {base : Nat} {held : Bool}
theorem items_one : ∃ t0 t1 t2 : Field, Tryz.prog.underlying 40 = some (.struct #[t0, t1, t2]) ∧ oneCellFields Tryz.prog #[t0, t1, t2] = true ∧ Tryz.prog.underlying t0.type = some .bool ∧ Tryz.prog.underlying t1.type = some .string ∧ t2.type = 38 :=
  ⟨_, _, _, Tryz.underlying40, by kernel_rfl, Tryz.underlying4, Tryz.underlying9, rfl⟩
theorem items_of (B : Nat) : ∀ (fuel : Nat) (v : Value) (x : DataW H × List MemPlace), Rows.uptoBulk x.1 ≤ B → DataW.trod enc Tryz.prog w base (fun _ => true) held fuel 38 [v] = some x →
    ∃ xs : List Itm, SubW w xs v ∧ wtL xs ≤ 10 * Rows.uptoBulk x.1 := by
  induction B using Nat.strongRecOn with
  | _ B ih =>
    intro fuel v x hB h
    obtain ⟨t0, t1, t2, hu, hone, u0, u1, u2⟩ := items_one
    rcases open_slice_fields Tryz.underlying38 hu hone (by kernel_rfl) h with ⟨hcs, _⟩ | ⟨a, len, cap, m, D, Pl, hcs, hb, hl, hm, hmm, hx, hi⟩
    · simp only [List.cons.injEq, and_true] at hcs
      exact ⟨[], hcs ▸ .mk [] none 0 [] (fun h => by cases h) (fun i h => by cases h), by rw [wtL]; omega⟩
    · simp only [List.cons.injEq, and_true] at hcs
      simp only [if_true] at hmm
      have hx1 : x.1 = .slice ((List.range len).map D) ((List.range (m - len)).map fun j => D (len + j)) := by rw [hx]
      have hbk : Rows.uptoBulk x.1 = Rows.uptoBulkAll ((List.range len).map D) + Rows.uptoBulkAll ((List.range (m - len)).map fun j => D (len + j)) + 1 := by rw [hx1, Rows.uptoBulk]
      have key : ∀ i, i < len → ∃ p : Itm × Value, (w.cell? (a.add (i * 3 + 0)) = some (.bool p.1.list) ∧ w.cell? (a.add (i * 3 + 1)) = some (.string p.1.bytes) ∧ w.cell? (a.add (i * 3 + 2)) = some p.2) ∧ SubW w p.1.items p.2 ∧ wtF p.1 ≤ 10 * Rows.uptoBulk (D i) := by
        intro i hil
        obtain ⟨ys, n, hD, _, hyl, hf⟩ := hi i (by omega)
        obtain ⟨v0, y0, c0, g0, e0⟩ := hf 0 t0 rfl
        obtain ⟨v1, y1, c1, g1, e1⟩ := hf 1 t1 rfl
        obtain ⟨v2, y2, c2, g2, e2⟩ := hf 2 t2 rfl
        obtain ⟨s0, hs0, _⟩ := DataW.trod_bool u0 e0
        obtain ⟨s1, hs1, hy1, _⟩ := DataW.trod_string u1 e1
        simp only [List.cons.injEq, and_true] at hs0 hs1
        subst hs0; subst hs1
        have hys : ys = [y0, y1, y2] := by
          apply List.ext_getElem?
          intro j
          match j with
          | 0 => exact g0
          | 1 => exact g1
          | 2 => exact g2
          | j + 3 => rw [List.getElem?_eq_none (by have : ys.length = 3 := hyl; omega)]; rfl
        have hDi : Rows.uptoBulk (D i) = Rows.uptoBulk y0.1 + (s1.data.toList.length + 1) + Rows.uptoBulk y2.1 + 1 := by
          rw [hD, hys, hy1]
          simp only [List.map_cons, List.map_nil, Rows.uptoBulk, Rows.uptoBulkAll]
          omega
        have hmem : D i ∈ (List.range len).map D := List.mem_map.2 ⟨i, List.mem_range.2 hil, rfl⟩
        have hle := bulk_mem hmem
        rw [u2] at e2
        obtain ⟨xs, hsx, hwx⟩ := ih (Rows.uptoBulk y2.1) (by omega) n v2 y2 (Nat.le_refl _) e2
        have hlz : s1.data.toList.length = s1.size := Array.length_toList
        exact ⟨(.mk s0 s1 xs, v2), ⟨c0, c1, c2⟩, hsx, by rw [wtF]; omega⟩
      obtain ⟨ps, hpl, hp⟩ := list_ofI len key
      refine ⟨ps.map (·.1), ?_, ?_⟩
      · rw [hcs]
        have hlen : (ps.map (·.1)).length = len := by simp [hpl]
        have hgx : ∀ i (hi : i < len), (ps.map (·.1)).getD i Itm.none_ = (ps[i]'(by omega)).1 := fun i hi => by
          rw [List.getD_eq_getElem?_getD, List.getElem?_map, List.getElem?_eq_getElem (by omega)]; rfl
        have hgv : ∀ i (hi : i < len), (ps.map (·.2)).getD i undef = (ps[i]'(by omega)).2 := fun i hi => by
          rw [List.getD_eq_getElem?_getD, List.getElem?_map, List.getElem?_eq_getElem (by omega)]; rfl
        have := SubV.mk (S := fun g => g < w.heap.size) (W := w) (ps.map (·.1)) (some a) cap (ps.map (·.2)) (fun h0 => ?_) (fun i hi' => ?_)
        · rw [hlen] at this; exact this
        · rw [hlen] at h0
          have c00 := (hp 0 (by omega)).1.1
          have ea : a = ⟨a.block, a.off, none⟩ := lit_of_cell (a := a) (by simpa [Addr.add] using c00)
          refine ⟨a.block, a.off, by rw [← ea], ?_, fun i hi' => ?_⟩
          · have := World.block_lt_of_cell? w _ c00
            rwa [block_of_add] at this
          · rw [hlen] at hi'
            rw [hgx i hi', hgv i hi']
            obtain ⟨d0, d1, d2⟩ := (hp i (by omega)).1
            rw [ea] at d0 d1 d2
            have hadd : ∀ j, (⟨a.block, a.off, none⟩ : Addr).add j = ⟨a.block, a.off + j, none⟩ := fun j => Addr.add_mid _ _ _
            rw [hadd] at d0 d1 d2
            exact ⟨d0, d1, d2⟩
        · rw [hlen] at hi'
          rw [hgx i hi', hgv i hi']
          exact (hp i (by omega)).2.1
      · have hsum := bulk_sum (ps.map (·.1)) ((List.range len).map D) (by simp [hpl]) (fun i h1 h2 => by
          rw [List.getElem_map, List.getElem_map, List.getElem_range]
          exact (hp i (by simpa using h1)).2.2)
        omega
set_option maxRecDepth 100000 in
theorem open_item {r : Reach} {b0 : Nat} {v : Value} {d : DataW H} {p : List MemPlace} (hv : Value.okWide Tryz.prog w r b0 40 v) (h : DataW.Trod enc Tryz.prog w base (fun _ => true) held 40 v d p) :
    ∃ (x : Itm) (sx : Value), v = .agg #[.bool x.list, .string x.bytes, sx] ∧ SubW w x.items sx ∧ wtF x ≤ 10 * Rows.uptoBulk d := by
  obtain ⟨t0, t1, t2, hu, hone, u0, u1, u2⟩ := items_one
  obtain ⟨v0, v1, v2, y0, y1, y2, n, rfl, hd, _, e0, e1, e2⟩ := open_agg3 hu hone (by kernel_rfl) hv h
  obtain ⟨s0, hs0, _⟩ := DataW.trod_bool u0 e0
  obtain ⟨s1, hs1, hy1, _⟩ := DataW.trod_string u1 e1
  simp only [List.cons.injEq, and_true] at hs0 hs1
  subst hs0; subst hs1
  rw [u2] at e2
  obtain ⟨xs, hsx, hwx⟩ := items_of _ n v2 y2 (Nat.le_refl _) e2
  refine ⟨.mk s0 s1 xs, v2, rfl, hsx, ?_⟩
  have hlz : s1.data.toList.length = s1.size := Array.length_toList
  rw [hd, hy1, wtF]
  simp only [Rows.uptoBulk, Rows.uptoBulkAll]
  omega
end
end Go.Proofs.YtagjpbcmhaekpaaGreatDoor
/- strings.HasPrefix, bits.Mul, and strings.Repeat of one byte 0. -/
namespace Go.Proofs.YtagjpbcmhaekpaaGreatDoor
open Go.RowKit Go.Shelf
set_option linter.unusedVariables false
set_option linter.unusedSimpArgs false

def prefixRen : Go.Shelf.Ren := ⟨fun | 99 => 87 | 206 => 100 | n => n, fun | 3 => 3 | 4 => 4 | 9 => 9 | n => n, fun | n => n⟩
theorem prefixLays : Go.Proofs.Lays.n99 Tryz.prog prefixRen := {
  mixed := by kernel_rfl
  f99 := Tryz.func87.trans (congrArg some (by kernel_rfl))
  f206 := Tryz.func100.trans (congrArg some (by kernel_rfl))
  t3 := Tryz.underlying3
  a3 := Tryz.isAgg3
  z3 := Tryz.sizeOf3
  v3 := Tryz.zeroValue3
  t4 := Tryz.underlying4
  a4 := Tryz.isAgg4
  z4 := Tryz.sizeOf4
  v4 := Tryz.zeroValue4
  t9 := Tryz.underlying9
  a9 := Tryz.isAgg9
  z9 := Tryz.sizeOf9
  v9 := Tryz.zeroValue9 }
theorem hasPrefix_any (s p : ByteArray) (w : World) :
    Calls Tryz.prog 87 #[.string s, .string p] w fun e w' => e = .returned (.bool (Lib.hasPrefix s.data.toList p.data.toList)) ∧ w' = w := Any.strings_HasPrefix prefixLays s p w
def mulRen : Go.Shelf.Ren := ⟨fun | 212 => 101 | 263 => 109 | 264 => 110 | n => n, fun | 46 => 136 | 51 => 149 | 53 => 22 | 146 => 150 | 148 => 152 | n => n, fun | n => n⟩
theorem mulLays : Go.Proofs.Lays.n212 Tryz.prog mulRen := {
  mixed := by kernel_rfl
  f212 := Tryz.func101.trans (congrArg some (by kernel_rfl))
  f263 := Tryz.func109.trans (congrArg some (by kernel_rfl))
  f264 := Tryz.func110.trans (congrArg some (by kernel_rfl))
  t46 := Tryz.underlying136
  a46 := Tryz.isAgg136
  z46 := Tryz.sizeOf136
  v46 := Tryz.zeroValue136
  t51 := Tryz.underlying149
  a51 := Tryz.isAgg149
  z51 := Tryz.sizeOf149
  v51 := Tryz.zeroValue149
  t53 := Tryz.underlying22
  a53 := Tryz.isAgg22
  z53 := Tryz.sizeOf22
  v53 := Tryz.zeroValue22
  t146 := Tryz.underlying150
  a146 := Tryz.isAgg150
  z146 := Tryz.sizeOf150
  v146 := Tryz.zeroValue150
  t148 := Tryz.underlying152
  a148 := Tryz.isAgg152
  z148 := Tryz.sizeOf152
  v148 := Tryz.zeroValue152 }
theorem mul_any (x y : Nat) (hxy : x * y < 18446744073709551616) (hx : x < 18446744073709551616) (hy : y < 18446744073709551616) (w : World) :
    Calls Tryz.prog 101 #[.int .u64 (x : Int), .int .u64 (y : Int)] w fun e w' => e = .returned (.tuple #[.int .u64 0, .int .u64 ((x * y : Nat) : Int)]) ∧ w' = w := by
  refine (Any.bits_Mul mulLays x y hx hy w).mono ?_
  rintro e w' ⟨he, hw⟩
  rw [Nat.div_eq_of_lt hxy, Nat.mod_eq_of_lt hxy] at he
  exact ⟨he, hw⟩
theorem min3_any {P : Program} {w : World} (ts : Array TypeId) (t : TypeId) (x y z : Int) :
    (Builtin.min_ ts t #[.int .i64 x, .int .i64 y, .int .i64 z]).run P w = .ok (.int .i64 (if z < (if y < x then y else x) then z else (if y < x then y else x))) w := by
  simp [Builtin.min_, Builtin.min2]

abbrev zs (c : Nat) : List UInt8 := List.replicate c 0
set_option maxRecDepth 100000 in
set_option maxHeartbeats 2000000 in
theorem repeatMany_any (S : ByteArray) (hS : S.data.toList = [0]) (c : Nat) (w : World) (hc2 : 2 ≤ c) (hc : c ≤ 32) :
    Calls Tryz.prog 89 #[.string S, .int .i64 (c : Int)] w fun e w' => e = .returned (.string ⟨(zs c).toArray⟩) ∧ Below w.heap.size w w' := by
  have hz : S.size = 1 := by have := congrArg List.length hS; rw [Array.length_toList] at this; exact this
  have g0 : 0 < S.size := by omega
  have g2 : ((S[0]'g0).toNat : Int) = 0 := by
    have e2 : S.data[0]? = some 0 := by
      have : S.data.toList[0]? = some 0 := by rw [hS]; rfl
      simpa using this
    obtain ⟨_, e3⟩ := Array.getElem?_eq_some_iff.1 e2
    have : S[0]'g0 = 0 := e3
    rw [this]; rfl
  have hMul := mul_any 1 c (by omega) (by omega) (by omega) w
  rw [Nat.one_mul] at hMul
  have HM : Hid (Calls Tryz.prog 101 #[.int .u64 1, .int .u64 (c : Int)] w fun e w' => e = .returned (.tuple #[.int .u64 0, .int .u64 (c : Int)]) ∧ w' = w) := Lib.hid hMul
  have hzi : (S.size : Int) = 1 := by omega
  have e0 : ((c : Int) == 0) = false := by rw [beq_eq_false_iff_ne]; omega
  have e1 : ((c : Int) == 1) = false := by rw [beq_eq_false_iff_ne]; omega
  have d0 : decide ((c : Int) < 0) = false := decide_eq_false (by omega)
  have d1 : decide ((9223372036854775807 : Int) < (c : Int)) = false := decide_eq_false (by omega)
  have d1' : decide (9223372036854775807 < c) = false := decide_eq_false (by omega)
  have d2 : decide ((8192 : Int) < (c : Int)) = false := decide_eq_false (by omega)
  have d2' : decide (8192 < c) = false := decide_eq_false (by omega)
  have v1 : IntKind.u64.wrap (c : Int) = (c : Int) := by rw [show (c : Int) = ((c : Nat) : Int) from rfl]; simp [IntKind.wrap, IntKind.bits, IntKind.signed]; omega
  have v1' : IntKind.u64.wrap (1 : Int) = 1 := by decide
  have v2 : IntKind.i64.wrap (c : Int) = (c : Int) := IntWalk.i64_in _ (by omega)
  have b0 : Below w.heap.size w (w.alloc (.cells #[.pointer none, .slice none 0 0] 94)) := (Below.refl _ w).alloc (Nat.le_refl _) _
  have HG := Lib.hid (grow_any w.heap.size c (w.alloc (.cells #[.pointer none, .slice none 0 0] 94)) (heap_alloc_new w _) (by omega))
  have HB0 := Lib.hid b0
  have HSS := Lib.hid hS
  clear hS hMul b0
  go_enter Tryz.func89, Tryz.ntmps89
  go_wp2_with fail
  refine HM.out.mono ?_
  rintro e w' ⟨rfl, hw⟩
  rw [hw]
  clear hw HM
  go_wp2_with fail
  refine HG.out.mono ?_
  rintro e W1 ⟨rfl, h1, b1⟩
  have b01 := Lib.hid (HB0.out.trans b1)
  have H1 := Lib.hid h1
  clear h1 b1 HG HB0
  go_wp2_with fail
  refine (writeStringF_any w.heap.size w.heap.size [] S W1 (Lib.IsBuilderF.of (Or.inr H1.out)) (by simp; omega) b01.out.size).mono ?_
  rintro e W2 ⟨rfl, h2, b2⟩
  have H2 : IsB w.heap.size w.heap.size (Lib.byteCells (zs 1)) W2 := by
    rw [List.nil_append, strCells_eq, HSS.out] at h2
    exact h2
  have b02 := b01.out.trans b2
  clear h2 b2 b01 H1
  go_wp2_with fail
  go_loopg [] (c - 1) (fun g wx => ∃ q : Nat, 1 ≤ q ∧ q + g = c ∧ IsB w.heap.size w.heap.size (Lib.byteCells (zs q)) wx ∧ Below w.heap.size w wx)
  case atStart => exact ⟨1, Nat.le_refl _, by omega, H2, b02⟩
  case round =>
    obtain ⟨q, hq1, hqg, hB, hbx⟩ := hrel
    have hlq : (Lib.byteCells (zs q)).length = q := by rw [Lib.byteCells_length, List.length_replicate]
    have cLen := lenF_any w.heap.size w.heap.size _ wr hB
    rw [hlq] at cLen
    have HL := Lib.hid cLen
    have cStr := stringF_any w.heap.size w.heap.size (zs q) wr hB hbx.size
    obtain ⟨R, hR⟩ : ∃ R : ByteArray, (⟨(zs q).toArray⟩ : ByteArray) = R := ⟨_, rfl⟩
    have hRd : R.data.toList = zs q := by rw [← hR]
    have hRz : R.size = q := by have := congrArg List.length hRd; rw [Array.length_toList, List.length_replicate] at this; exact this
    rw [hR] at cStr
    have HT := Lib.hid cStr
    have HRd := Lib.hid hRd; have HR := Lib.hid hR; have HBX := Lib.hid hbx; have HLQ := Lib.hid hlq
    clear cLen cStr hRd hB hbx hlq H2 b02 hR
    cases gk with
    | zero =>
      obtain rfl : q = c := by omega
      have hQn : decide ((q : Int) < (q : Int)) = false := by simp
      go_wp2_with fail
      refine HL.out.mono ?_
      rintro e w' ⟨rfl, hw⟩
      rw [hw]
      clear hw
      go_wp2_with fail
      refine HT.out.mono ?_
      rintro e W3 ⟨rfl, h3, b3⟩
      have HB3 := Lib.hid (HBX.out.trans b3)
      clear h3 b3
      go_wp2_with fail
      go_ret
      exact ⟨by rw [HR.out]; rfl, HB3.out⟩
    | succ g =>
      have hQn : (q : Int) < (c : Int) := by omega
      obtain ⟨k, hk⟩ : ∃ k, min (c - q) q = k := ⟨_, rfl⟩
      have hmin3 : ∀ (ts : Array TypeId) (t : TypeId) (W : World), (Builtin.min_ ts t #[.int .i64 ((c : Int) - (q : Int)), .int .i64 (q : Int), .int .i64 (c : Int)]).run Tryz.prog W = .ok (.int .i64 (k : Int)) W := fun ts t W => by
        rw [min3_any]
        congr 2
        omega
      have v3 : IntKind.i64.wrap ((c : Int) - (q : Int)) = (c : Int) - (q : Int) := IntWalk.i64_in _ (by omega)
      have f1 : (k : Int) ≤ (R.size : Int) := by omega
      have f2 : k ≤ R.size := by omega
      have HK : Hid (min (c - q) q = k) := Lib.hid hk
      clear hk
      go_wp2_with fail
      refine HL.out.mono ?_
      rintro e w' ⟨rfl, hw⟩
      rw [hw]
      clear hw
      go_wp2_with fail
      refine HL.out.mono ?_
      rintro e w' ⟨rfl, hw⟩
      rw [hw]
      clear hw
      go_wp2_with fail
      refine HL.out.mono ?_
      rintro e w' ⟨rfl, hw⟩
      rw [hw]
      clear hw
      go_wp2_with fail
      refine HT.out.mono ?_
      rintro e W3 ⟨rfl, h3, b3⟩
      have hb3 := HBX.out.trans b3
      have HX : Hid ((R.extract 0 k).data.toList = zs k) := Lib.hid (by
        rw [Lib.extract_data, HRd.out]
        simp only [List.drop_zero, Nat.sub_zero, List.take_replicate]
        rw [Nat.min_eq_left (by have := HK.out; omega)])
      have hxz : (R.extract 0 k).size = k := by have := congrArg List.length HX.out; rw [Array.length_toList, List.length_replicate] at this; exact this
      have HW := Lib.hid (writeStringF_any w.heap.size w.heap.size _ (R.extract 0 k) W3 h3 (by rw [HLQ.out]; omega) hb3.size)
      have HB3 := Lib.hid hb3
      clear h3 b3 hb3 hxz
      go_wp2_with fail
      refine HW.out.mono ?_
      rintro e W4 ⟨rfl, h4, b4⟩
      have hb4 := HB3.out.trans b4
      have h5 : IsB w.heap.size w.heap.size (Lib.byteCells (zs (q + k))) W4 := by
        rw [strCells_eq, ← byteCells_append, HX.out, List.replicate_append_replicate] at h4
        exact h4
      clear h4 b4
      go_wp2_with fail
      go_roundg (c - (q + k))
      case measure => have := HK.out; omega
      case rel => exact ⟨q + k, by omega, by have := HK.out; omega, h5, hb4⟩
set_option maxRecDepth 100000 in
theorem repeatNone_any (S : ByteArray) (w : World) :
    Calls Tryz.prog 89 #[.string S, .int .i64 0] w fun e w' => e = .returned (.string ⟨#[]⟩) ∧ w' = w := by
  go_enter Tryz.func89, Tryz.ntmps89
  go_wp2_with fail
  go_ret
  exact ⟨rfl, rfl⟩
set_option maxRecDepth 100000 in
theorem repeatOne_any (S : ByteArray) (w : World) :
    Calls Tryz.prog 89 #[.string S, .int .i64 1] w fun e w' => e = .returned (.string S) ∧ w' = w := by
  go_enter Tryz.func89, Tryz.ntmps89
  go_wp2_with fail
  go_ret
  exact ⟨rfl, rfl⟩
/-- so many bytes 0 -/
theorem repeat_any (S : ByteArray) (hS : S.data.toList = [0]) (c : Nat) (w : World) (hc : c ≤ 32) :
    Calls Tryz.prog 89 #[.string S, .int .i64 (c : Int)] w fun e w' => e = .returned (.string ⟨(zs c).toArray⟩) ∧ Below w.heap.size w w' := by
  match c, hc with
  | 0, _ => exact (repeatNone_any S w).mono fun e w' ⟨he, hw⟩ => ⟨he, hw ▸ Below.refl _ _⟩
  | 1, _ => exact (repeatOne_any S w).mono fun e w' ⟨he, hw⟩ => ⟨by rw [he]; congr 2; exact ba_ext hS, hw ▸ Below.refl _ _⟩
  | c + 2, hc => exact repeatMany_any S hS (c + 2) w (by omega) hc
end Go.Proofs.YtagjpbcmhaekpaaGreatDoor
/- The word of 32 bytes (word.Unfixed), of bytes (word.Parse); a small one (word.Small); a number of bytes (num.Unbe). -/
namespace Go.Proofs.YtagjpbcmhaekpaaGreatDoor
open Go.RowKit Go.Shelf
set_option linter.unusedVariables false
set_option linter.unusedSimpArgs false

theorem results_cv {P : Program} {fn : Func} {p q : Tmp} {t : TypeId} (h : fn.results = #[.cell p t, .tmp q]) (tmps : Array Value) (w : World) (a : Addr) (x : Value) (hp : tmps.getD p undef = .pointer (some a))
    (hx : (loadVar t a).run P w = .ok x w) : (results fn tmps).run P w = .ok (.tuple #[x, tmps.getD q undef]) w := by
  have hp' : tmps[p]?.getD undef = .pointer (some a) := by simpa using hp
  simp [results, h, hp', asAddr, hx]
theorem u64_or_of (a b : Nat) (ha : a < 18446744073709551616) (hb : b < 18446744073709551616) : bits .or .u64 (a : Int) (b : Int) = ((a ||| b : Nat) : Int) := by
  have hx : a ||| b < 2 ^ 64 := Nat.or_lt_two_pow (by omega) (by omega)
  show IntKind.u64.wrap ((BitVec.ofInt 64 (a : Int) ||| BitVec.ofInt 64 (b : Int)).toNat : Int) = _
  rw [BitVec.toNat_or, BitVec.ofInt_natCast, BitVec.ofInt_natCast, BitVec.toNat_ofNat, BitVec.toNat_ofNat, Nat.mod_eq_of_lt (by omega), Nat.mod_eq_of_lt (by omega)]
  simp [IntKind.wrap, IntKind.bits, IntKind.signed]
  omega
theorem u64_wrap_of (x : Nat) (h : x < 18446744073709551616) : IntKind.u64.wrap (x : Int) = (x : Int) := by
  simp [IntKind.wrap, IntKind.bits, IntKind.signed]; omega
/-- a word's cells -/
def wordC (N : Nat) : Array Value := #[.int .u64 (wp N 0 : Nat), .int .u64 (wp N 1 : Nat), .int .u64 (wp N 2 : Nat), .int .u64 (wp N 3 : Nat)]
theorem wordC_cell {w : World} {g : Nat} {t : TypeId} {N : Nat} (h : Blk w g t (wordC N)) (q : Nat) (hq : q < 4) : w.cell? ⟨g, q, none⟩ = some (.int .u64 ((wp N q : Nat) : Int)) := by
  rw [h.cell]
  have : q = 0 ∨ q = 1 ∨ q = 2 ∨ q = 3 := by omega
  rcases this with rfl | rfl | rfl | rfl <;> rfl
theorem wordC_step (l : List UInt8) (m : Nat) (h : m < l.length) (hm : m < 32) : (wordC (lowN l m)).setIfInBounds (m / 8) (.int .u64 (wp (lowN l (m + 1)) (m / 8) : Nat)) = wordC (lowN l (m + 1)) := by
  have e : ∀ q, q ≠ m / 8 → wp (lowN l (m + 1)) q = wp (lowN l m) q := fun q hq => by rw [lowN_step l m q h, if_neg hq]
  have : m / 8 = 0 ∨ m / 8 = 1 ∨ m / 8 = 2 ∨ m / 8 = 3 := by omega
  unfold wordC
  rcases this with hq | hq | hq | hq
  all_goals
    rw [hq]
    rw [hq] at e
  · rw [e 1 (by omega), e 2 (by omega), e 3 (by omega)]; rfl
  · rw [e 0 (by omega), e 2 (by omega), e 3 (by omega)]; rfl
  · rw [e 0 (by omega), e 1 (by omega), e 3 (by omega)]; rfl
  · rw [e 0 (by omega), e 1 (by omega), e 2 (by omega)]; rfl

set_option maxRecDepth 100000 in
set_option maxHeartbeats 2000000 in
theorem unfixed_any (S : ByteArray) (hS : S.size = 32) (w : World) :
    Calls Tryz.prog 88 #[.string S] w fun e w' => e = .returned (.tuple #[.agg (wordC (beV S.data.toList)), .int .i64 0]) ∧ w.grownBy w' none := by
  obtain ⟨l, hl⟩ : ∃ l, S.data.toList = l := ⟨_, rfl⟩
  have hlz : l.length = 32 := by rw [← hl, Array.length_toList]; exact hS
  have hall : lowN l 32 = beV l := by rw [← hlz]; exact lowN_all l
  rw [hl, ← hall]
  have HS := Lib.hid hl
  clear hl hall
  have e0 : ((S.size : Int) != 32) = false := by simp; omega
  have hZ4 : Hid ((#[.int .u64 0, .int .u64 0, .int .u64 0, .int .u64 0] : Array Value) = wordC 0) := Lib.hid (by unfold wordC; rw [wp_zero, wp_zero, wp_zero, wp_zero]; rfl)
  have hB := Blk.new w 103 #[.int .u64 0, .int .u64 0, .int .u64 0, .int .u64 0]
  have hO := Blk.new (w.alloc (.cells #[.int .u64 0, .int .u64 0, .int .u64 0, .int .u64 0] 103)) 103 #[.int .u64 0, .int .u64 0, .int .u64 0, .int .u64 0]
  rw [World.size_alloc] at hO
  have hB := hB.alloc (.cells #[.int .u64 0, .int .u64 0, .int .u64 0, .int .u64 0] 103)
  have hG := only_alloc (only_alloc (World.grownBy.refl w none) (.cells #[.int .u64 0, .int .u64 0, .int .u64 0, .int .u64 0] 103)) (.cells #[.int .u64 0, .int .u64 0, .int .u64 0, .int .u64 0] 103)
  go_enter Tryz.func88, Tryz.ntmps88
  go_upto_region 4 with (fail)
  obtain ⟨b, hb⟩ : ∃ b, w.heap.size = b := ⟨_, rfl⟩
  rw [hb] at hB hO ⊢
  generalize (w.alloc (.cells #[.int .u64 0, .int .u64 0, .int .u64 0, .int .u64 0] 103)).alloc (.cells #[.int .u64 0, .int .u64 0, .int .u64 0, .int .u64 0] 103) = W1 at *
  rw [hZ4.out, ← lowN_zero l] at hO
  clear hZ4
  go_wp2_with fail
  go_loopw [10] (fun i wr => ∃ m : Nat, i = .int .i64 (m : Int) ∧ m ≤ 32 ∧ Blk wr (b + 1) 103 (wordC (lowN l m)) ∧ Blk wr b 103 #[.int .u64 0, .int .u64 0, .int .u64 0, .int .u64 0] ∧ w.grownBy wr none) (fun i _ => 32 - (intOf i).toNat)
  case atStart => exact ⟨0, rfl, by omega, hO, hB, hG⟩
  case round =>
    clear hO hB hG
    obtain ⟨m, rfl, hm, hO, hB, hG⟩ := hrel
    by_cases hlt : m < 32
    · obtain ⟨q, hq⟩ : ∃ q, m / 8 = q := ⟨_, rfl⟩
      obtain ⟨r8, hr8⟩ : ∃ r, m % 8 = r := ⟨_, rfl⟩
      obtain ⟨r, hr⟩ : ∃ r, r8 * 8 = r := ⟨_, rfl⟩
      obtain ⟨p, hp⟩ : ∃ p, 31 - m = p := ⟨_, rfl⟩
      have hst := wordC_step l m (by omega) hlt
      have hwz := lowN_step l m (m / 8) (by omega)
      rw [if_pos rfl, hr8, hr, hlz, show 32 - 1 - m = p by omega, hq] at hwz
      rw [hq] at hst
      have f2 := wordC_cell hO q (by omega)
      have f3 := hO.frozen q
      have hid := fun W => idx_str S p (l.getD p 0) (by rw [HS.out, List.getD_eq_getElem?_getD, List.getElem?_eq_getElem (by omega)]; rfl) W
      have hzl := wp_lt (lowN l (m + 1)) q
      have hvl := wp_lt (lowN l m) q
      have hrm := wp_room (lowN l m) m (lowN_lt l m)
      rw [hq, hr8, hr] at hrm
      obtain ⟨z, hz⟩ : ∃ z, wp (lowN l (m + 1)) q = z := ⟨_, rfl⟩
      obtain ⟨v, hv⟩ : ∃ v, wp (lowN l m) q = v := ⟨_, rfl⟩
      rw [hv] at hwz f2 hvl hrm
      rw [hz] at hwz hzl hst
      have hch := (l.getD p 0).toNat_lt
      obtain ⟨ch, hch2⟩ : ∃ ch, (l.getD p 0).toNat = ch := ⟨_, rfl⟩
      rw [hch2] at hwz hid hch
      have hadd := wp_or v ch r hrm
      obtain ⟨x, hx⟩ : ∃ x, ch * 2 ^ r = x := ⟨_, rfl⟩
      rw [hx] at hwz hadd
      have p8 : bits .or .u64 (v : Int) (x : Int) = (z : Int) := by rw [u64_or_of v x hvl (by omega), hwz]
      have p5 : IntKind.u64.wrap ((ch : Int) * 2 ^ r) = (x : Int) := by
        have : (ch : Int) * 2 ^ r = (x : Int) := by rw [← hx]; simp
        rw [this, u64_wrap_of x (by omega)]
      have p9 : IntKind.u64.wrap (ch : Int) = (ch : Int) := u64_wrap_of ch (by omega)
      have p1 : (m : Int).tdiv 8 = (q : Int) := by rw [Int.tdiv_eq_ediv_of_nonneg (by omega)]; omega
      have p2 : IntKind.i64.wrap (q : Int) = (q : Int) := IntWalk.i64_in _ (by omega)
      have p3 : (m : Int).tmod 8 = (r8 : Int) := by rw [Int.tmod_eq_emod_of_nonneg (by omega)]; omega
      have p4 : IntKind.i64.wrap ((r8 : Int) * 8) = (r : Int) := by rw [IntWalk.i64_in _ (by omega)]; omega
      have p6 : IntKind.i64.wrap (31 - (m : Int)) = (p : Int) := by rw [IntWalk.i64_in _ (by omega)]; omega
      have p7 : 31 - (m : Int) = (p : Int) := by omega
      have q1 : (q : Int) < 4 := by omega
      have q1' : q < 4 := by omega
      have q2 : (m : Int) < 32 := by omega
      have q3 : r < 64 := by omega
      have q4 : (p : Int) < 32 := by omega
      have q5 : (p : Int) < (S.size : Int) := by omega
      have q6 : p < S.size := by omega
      have p10 : IntKind.i64.wrap (p : Int) = (p : Int) := IntWalk.i64_in _ (by omega)
      have hgx : ((S[p]'q6).toNat : Int) = (ch : Int) := by
        have e2 : S.data[p]? = some (l.getD p 0) := by
          have : S.data.toList[p]? = some (l.getD p 0) := by rw [HS.out, List.getD_eq_getElem?_getD, List.getElem?_eq_getElem (by omega)]; rfl
          simpa using this
        obtain ⟨_, e3⟩ := Array.getElem?_eq_some_iff.1 e2
        have : S[p]'q6 = l.getD p 0 := e3
        rw [this, hch2]
      have HST := Lib.hid hst
      clear hq hr8 hr hst hwz hzl hvl hrm hz hv hch2 hadd hx hp
      have hO2 := hO.set_ q (.int .u64 (z : Int))
      rw [HST.out] at hO2
      go_wp2_with fail
      go_still_tail 15, (by kernel_rfl)
      clear p1 p2 p3 p4 p5 p6 p7 p8 p9 p10 hgx hid
      repeat go_step
      go_roundw
      case rel => exact ⟨m + 1, by go_num, by omega, hO2, hB.far (p := ⟨b + 1, q, none⟩) (by show b ≠ b + 1; omega) _, only_drew (only_set hG (p := ⟨b + 1, q, none⟩) (by show w.heap.size ≤ b + 1; omega) _)⟩
      case measure => simp [intOf]; omega
    · obtain rfl : m = 32 := by omega
      have hO' := hO
      unfold wordC at hO'
      have c0 := hO'.cell 0; have c1 := hO'.cell 1; have c2 := hO'.cell 2; have c3 := hO'.cell 3
      have d0 := hB.frozen 0; have d1 := hB.frozen 1; have d2 := hB.frozen 2; have d3 := hB.frozen 3
      have x0 := hB.cell 0; have x1 := hB.cell 1; have x2 := hB.cell 2; have x3 := hB.cell 3
      simp only [List.getElem?_toArray, List.getElem?_cons_zero, List.getElem?_cons_succ] at c0 c1 c2 c3 x0 x1 x2 x3
      have hG2 := only_set (only_set (only_set (only_set hG (p := ⟨b, 0, none⟩) (by show w.heap.size ≤ b; omega) (.int .u64 (wp (lowN l 32) 0 : Nat))) (p := ⟨b, 1, none⟩) (by show w.heap.size ≤ b; omega) (.int .u64 (wp (lowN l 32) 1 : Nat))) (p := ⟨b, 2, none⟩) (by show w.heap.size ≤ b; omega) (.int .u64 (wp (lowN l 32) 2 : Nat))) (p := ⟨b, 3, none⟩) (by show w.heap.size ≤ b; omega) (.int .u64 (wp (lowN l 32) 3 : Nat))
      have hB2 := (((hB.set_ 0 (.int .u64 (wp (lowN l 32) 0 : Nat))).set_ 1 (.int .u64 (wp (lowN l 32) 1 : Nat))).set_ 2 (.int .u64 (wp (lowN l 32) 2 : Nat))).set_ 3 (.int .u64 (wp (lowN l 32) 3 : Nat))
      have HG2 := Lib.hid hG2; have HB2 := Lib.hid hB2
      clear hG2 hB2
      go_wp2_with fail
      refine bodyPost_ret (results_cv (fn := Tryz.f88) rfl _ _ _ _ rfl (load_word HB2.out)) rfl ?_
      exact ⟨rfl, HG2.out⟩
end Go.Proofs.YtagjpbcmhaekpaaGreatDoor
/- The word of bytes (word.Parse). -/
namespace Go.Proofs.YtagjpbcmhaekpaaGreatDoor
open Go.RowKit Go.Shelf
set_option linter.unusedVariables false
set_option linter.unusedSimpArgs false

/-- the word that is read -/
def parseC (l : List UInt8) : Array Value := #[.int .u64 (parseP l 0 : Nat), .int .u64 (parseP l 1 : Nat), .int .u64 (parseP l 2 : Nat), .int .u64 (parseP l 3 : Nat)]
theorem parseC_bad {l : List UInt8} {E : Int} (h : parseE l = E) (h0 : E ≠ 0) : parseC l = #[.int .u64 0, .int .u64 0, .int .u64 0, .int .u64 0] := by
  have : ∀ q, parseP l q = 0 := fun q => if_neg (by rw [h]; exact h0)
  unfold parseC
  rw [this, this, this, this]; rfl
theorem parseC_good {l : List UInt8} (h : parseE l = 0) : parseC l = wordC (beV l) := by
  have : ∀ q, parseP l q = wp (beV l) q := fun q => if_pos h
  unfold parseC wordC
  rw [this, this, this, this]
theorem prefix_zero (l : List UInt8) : Lib.hasPrefix l [0] = decide (l.head? = some 0) := by
  cases l with
  | nil => rfl
  | cons a l =>
    show ((0 : UInt8) == a && List.isPrefixOf [] l) = _
    by_cases h : a = 0
    · subst h; simp
    · rw [decide_eq_false (by intro e; injection e with e; exact h e)]
      have : ((0 : UInt8) == a) = false := by rw [beq_eq_false_iff_ne]; exact fun e => h e.symm
      rw [this]; rfl

set_option maxRecDepth 100000 in
set_option maxHeartbeats 2000000 in
theorem parse_any (S : ByteArray) (hs : S.size ≤ 9223372036854775807) (w : World) :
    Calls Tryz.prog 73 #[.string S] w fun e w' => e = .returned (.tuple #[.agg (parseC S.data.toList), .int .i64 (parseE S.data.toList)]) ∧ w.grownBy w' none := by
  obtain ⟨l, hl⟩ : ∃ l, S.data.toList = l := ⟨_, rfl⟩
  have hlz : l.length = S.size := by rw [← hl, Array.length_toList]; rfl
  have hpre := fun V => hasPrefix_any S ⟨#[0]⟩ V
  rw [hl] at hpre ⊢
  have hpz : Lib.hasPrefix l [0] = decide (l.head? = some 0) := prefix_zero l
  have HS := Lib.hid hl
  clear hl
  have hB := Blk.new w 103 #[.int .u64 0, .int .u64 0, .int .u64 0, .int .u64 0]
  have hG := only_alloc (World.grownBy.refl w none) (.cells #[.int .u64 0, .int .u64 0, .int .u64 0, .int .u64 0] 103)
  have set4 : ∀ {V : World} (h : w.grownBy V none) (a c d e : Value), w.grownBy ((((V.setCell ⟨w.heap.size, 0, none⟩ a).setCell ⟨w.heap.size, 1, none⟩ c).setCell ⟨w.heap.size, 2, none⟩ d).setCell ⟨w.heap.size, 3, none⟩ e) none := fun h a c d e =>
    only_set (only_set (only_set (only_set h (p := ⟨w.heap.size, 0, none⟩) (Nat.le_refl _) a) (p := ⟨w.heap.size, 1, none⟩) (Nat.le_refl _) c) (p := ⟨w.heap.size, 2, none⟩) (Nat.le_refl _) d) (p := ⟨w.heap.size, 3, none⟩) (Nat.le_refl _) e
  by_cases h1 : 32 < S.size
  · have hE : parseE l = 5 := if_pos (by omega)
    rw [hE, parseC_bad hE (by decide)]
    have d1 : (32 : Int) < (S.size : Int) := by omega
    have HG2 := Lib.hid hG
    have HB2 := Lib.hid hB
    have c0 := hB.cell 0; have c1 := hB.cell 1; have c2 := hB.cell 2; have c3 := hB.cell 3
    have d0 := hB.frozen 0; have d1' := hB.frozen 1; have d2 := hB.frozen 2; have d3 := hB.frozen 3
    simp only [List.getElem?_toArray, List.getElem?_cons_zero, List.getElem?_cons_succ] at c0 c1 c2 c3
    clear hE hpre hpz hB hG set4
    go_enter Tryz.func73, Tryz.ntmps73
    go_wp2_with fail
    refine bodyPost_ret (results_cv (fn := Tryz.f73) rfl _ _ _ _ rfl (load_word HB2.out)) rfl ?_
    exact ⟨rfl, HG2.out⟩
  have d1 : decide ((32 : Int) < (S.size : Int)) = false := decide_eq_false (by omega)
  by_cases h2 : l.head? = some 0
  · have hE : parseE l = 8 := by unfold parseE; rw [if_neg (by omega), if_pos h2]
    rw [hE, parseC_bad hE (by decide)]
    rw [decide_eq_true h2] at hpz
    have HP : Hid (∀ V, Calls Tryz.prog 87 #[.string S, .string ⟨#[0]⟩] V fun e w' => e = .returned (.bool true) ∧ w' = V) := Lib.hid fun V => by
      have := hpre V
      rw [show (ByteArray.mk #[0]).data.toList = [0] from rfl, hpz] at this
      exact this
    have HG2 := Lib.hid hG
    have HB2 := Lib.hid hB
    have c0 := hB.cell 0; have c1 := hB.cell 1; have c2 := hB.cell 2; have c3 := hB.cell 3
    have d0 := hB.frozen 0; have d1' := hB.frozen 1; have d2 := hB.frozen 2; have d3 := hB.frozen 3
    simp only [List.getElem?_toArray, List.getElem?_cons_zero, List.getElem?_cons_succ] at c0 c1 c2 c3
    clear hE hpre hpz hB hG set4 h2
    go_enter Tryz.func73, Tryz.ntmps73
    go_wp2_with fail
    refine (HP.out _).mono ?_
    rintro e w2 ⟨rfl, rfl⟩
    go_wp2_with fail
    refine bodyPost_ret (results_cv (fn := Tryz.f73) rfl _ _ _ _ rfl (load_word HB2.out)) rfl ?_
    exact ⟨rfl, HG2.out⟩
  · have hE : parseE l = 0 := by unfold parseE; rw [if_neg (by omega), if_neg h2]
    rw [hE, parseC_good hE]
    rw [decide_eq_false h2] at hpz
    have HP : Hid (∀ V, Calls Tryz.prog 87 #[.string S, .string ⟨#[0]⟩] V fun e w' => e = .returned (.bool false) ∧ w' = V) := Lib.hid fun V => by
      have := hpre V
      rw [show (ByteArray.mk #[0]).data.toList = [0] from rfl, hpz] at this
      exact this
    obtain ⟨k, hk⟩ : ∃ k, 32 - S.size = k := ⟨_, rfl⟩
    obtain ⟨Z, hZ⟩ : ∃ Z : ByteArray, (⟨(zs k).toArray⟩ : ByteArray) = Z := ⟨_, rfl⟩
    have hZl : Z.data.toList = zs k := by rw [← hZ]
    have hZz : Z.size = k := by have := congrArg List.length hZl; rw [Array.length_toList, List.length_replicate] at this; exact this
    have HR : Hid (∀ V, Calls Tryz.prog 89 #[.string ⟨#[0]⟩, .int .i64 (k : Int)] V fun e w' => e = .returned (.string Z) ∧ V.grownBy w' none) := Lib.hid fun V => by
      refine (repeat_any ⟨#[0]⟩ rfl k V (by omega)).mono ?_
      rintro e w' ⟨he, hb⟩
      rw [hZ] at he
      exact ⟨he, grown_of_below hb⟩
    have hsum : (Z ++ S).size = 32 := by
      have := congrArg List.length (ba_toList Z S)
      rw [Array.length_toList, List.length_append, Array.length_toList, Array.length_toList] at this
      have e : (Z ++ S).size = Z.size + S.size := this
      omega
    have hval : beV (Z ++ S).data.toList = beV l := by rw [ba_toList, hZl, HS.out, beV_pad]
    have HU : Hid (∀ V, Calls Tryz.prog 88 #[.string (Z ++ S)] V fun e w' => e = .returned (.tuple #[.agg (wordC (beV l)), .int .i64 0]) ∧ V.grownBy w' none) := Lib.hid fun V => by
      have := unfixed_any (Z ++ S) hsum V
      rw [hval] at this
      exact this
    have v1 : IntKind.i64.wrap (32 - (S.size : Int)) = (k : Int) := by rw [IntWalk.i64_in _ (by omega)]; omega
    have HB := Lib.hid hB; have HG := Lib.hid hG
    have SET := Lib.hid (fun (V : World) h a c d e => @set4 V h a c d e)
    clear hE hpre hpz hB hG set4 h2 hval hsum hZ hZl
    go_enter Tryz.func73, Tryz.ntmps73
    go_wp2_with fail
    refine (HP.out _).mono ?_
    rintro e w2 ⟨rfl, rfl⟩
    go_wp2_with fail
    refine (HR.out _).mono ?_
    rintro e w3 ⟨rfl, hg3⟩
    have HB3 := Lib.hid (HB.out.grown hg3 (by simp)); have HG3 := Lib.hid (grown_self HG.out hg3 (by simp))
    clear hg3 HB HG HR
    go_wp2_with fail
    refine (HU.out _).mono ?_
    rintro e w4 ⟨rfl, hg4⟩
    have hB := HB3.out.grown hg4 (by simp)
    have HG2 := Lib.hid (SET.out w4 (grown_self HG3.out hg4 (by simp)) (.int .u64 (wp (beV l) 0 : Nat)) (.int .u64 (wp (beV l) 1 : Nat)) (.int .u64 (wp (beV l) 2 : Nat)) (.int .u64 (wp (beV l) 3 : Nat)))
    have HB2 := Lib.hid ((((hB.set_ 0 (.int .u64 (wp (beV l) 0 : Nat))).set_ 1 (.int .u64 (wp (beV l) 1 : Nat))).set_ 2 (.int .u64 (wp (beV l) 2 : Nat))).set_ 3 (.int .u64 (wp (beV l) 3 : Nat)))
    have c0 := hB.cell 0; have c1 := hB.cell 1; have c2 := hB.cell 2; have c3 := hB.cell 3
    have d0 := hB.frozen 0; have d1' := hB.frozen 1; have d2 := hB.frozen 2; have d3 := hB.frozen 3
    simp only [List.getElem?_toArray, List.getElem?_cons_zero, List.getElem?_cons_succ] at c0 c1 c2 c3
    clear hg4 HB3 HG3 HU SET hB
    unfold wordC
    go_wp2_with fail
    refine bodyPost_ret (results_cv (fn := Tryz.f73) rfl _ _ _ _ rfl (load_word HB2.out)) rfl ?_
    exact ⟨rfl, HG2.out⟩
end Go.Proofs.YtagjpbcmhaekpaaGreatDoor
