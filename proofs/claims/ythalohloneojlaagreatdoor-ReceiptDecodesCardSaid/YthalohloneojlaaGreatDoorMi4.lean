/- Merged: Tree, RlpA, RlpB, One, FldA, FldB, FldC, FldD. -/
import Derived.Test.YthalohloneojlaaGreatDoorMi1
import Derived.Test.YthalohloneojlaaGreatDoorMi2
import Derived.Test.YthalohloneojlaaGreatDoorMi3
/- Items as trees; how a tree lies in memory. -/
namespace Go.Proofs.YthalohloneojlaaGreatDoor
open Go.RowKit Go.Shelf
set_option linter.unusedVariables false

inductive Itm where
  | mk (list : Bool) (bytes : ByteArray) (items : List Itm)
def Itm.list : Itm → Bool | .mk l _ _ => l
def Itm.bytes : Itm → ByteArray | .mk _ b _ => b
def Itm.items : Itm → List Itm | .mk _ _ xs => xs
def Itm.none_ : Itm := .mk false .empty []

/-- a row of items in memory, in blocks of a set -/
inductive SubV (S : Nat → Prop) (W : World) : List Itm → Value → Prop
  | mk (xs : List Itm) (A : Option Addr) (c : Nat) (vs : List Value)
      (hr : 0 < xs.length → ∃ b off, A = some ⟨b, off, none⟩ ∧ S b ∧ ∀ i, i < xs.length → W.cell? ⟨b, off + i * 3, none⟩ = some (.bool (xs.getD i Itm.none_).list) ∧ W.cell? ⟨b, off + i * 3 + 1, none⟩ = some (.string (xs.getD i Itm.none_).bytes) ∧ W.cell? ⟨b, off + i * 3 + 2, none⟩ = some (vs.getD i undef))
      (hx : ∀ i, i < xs.length → SubV S W (xs.getD i Itm.none_).items (vs.getD i undef))
      (hcap : xs.length ≤ c := by first | exact Nat.le_refl _ | exact Nat.zero_le _ | simp | omega) : SubV S W xs (.slice A xs.length c)
theorem SubV.keep {S : Nat → Prop} {W W' : World} {xs : List Itm} {v : Value} (h : SubV S W xs v) (hk : ∀ p : Addr, S p.block → ∀ u, W.cell? p = some u → W'.cell? p = some u) : SubV S W' xs v := by
  induction h with
  | mk xs A c vs hr hx hcap ih =>
    refine .mk xs A c vs (fun h0 => ?_) ih hcap
    obtain ⟨b, off, hA, hb, hc⟩ := hr h0
    exact ⟨b, off, hA, hb, fun i hi => ⟨hk ⟨b, _, none⟩ hb _ (hc i hi).1, hk ⟨b, _, none⟩ hb _ (hc i hi).2.1, hk ⟨b, _, none⟩ hb _ (hc i hi).2.2⟩⟩
theorem SubV.weak {S S' : Nat → Prop} {W : World} {xs : List Itm} {v : Value} (h : SubV S W xs v) (hs : ∀ b, S b → S' b) : SubV S' W xs v := by
  induction h with
  | mk xs A c vs hr hx hcap ih =>
    refine .mk xs A c vs (fun h0 => ?_) ih hcap
    obtain ⟨b, off, hA, hb, hc⟩ := hr h0
    exact ⟨b, off, hA, hs b hb, hc⟩
theorem SubV.slice {S : Nat → Prop} {W : World} {xs : List Itm} {v : Value} (h : SubV S W xs v) : ∃ A c, v = .slice A xs.length c := by cases h; exact ⟨_, _, rfl⟩
theorem SubV.cap {S : Nat → Prop} {W : World} {xs : List Itm} {A : Option Addr} {n c : Nat} (h : SubV S W xs (.slice A n c)) : n ≤ c := by cases h; assumption
theorem SubV.one {S : Nat → Prop} {W : World} {xs : List Itm} {v : Value} (h : SubV S W xs v) : v.oneCell' = true := by obtain ⟨A, c, rfl⟩ := h.slice; rfl
/-- blocks that lie in a world now: bounded -/
theorem SubV.lt {S : Nat → Prop} {W : World} {xs : List Itm} {v : Value} (h : SubV S W xs v) : SubV (fun b => S b ∧ b < W.heap.size) W xs v := by
  induction h with
  | mk xs A c vs hr hx hcap ih =>
    refine .mk xs A c vs (fun h0 => ?_) ih hcap
    obtain ⟨b, off, hA, hb, hc⟩ := hr h0
    refine ⟨b, off, hA, ⟨hb, ?_⟩, hc⟩
    have := (hc 0 h0).1
    rcases Nat.lt_or_ge b W.heap.size with h1 | h1
    · exact h1
    · unfold World.cell? at this
      rw [Array.getElem?_eq_none h1] at this
      cases this

/-- a row of items as cells -/
def itemsV (xs : List Itm) (vs : List Value) : List Value := (xs.zip vs).flatMap fun p => [.bool p.1.list, .string p.1.bytes, p.2]
theorem itemsV_snoc (xs : List Itm) (vs : List Value) (h : xs.length = vs.length) (x : Itm) (v : Value) : itemsV (xs ++ [x]) (vs ++ [v]) = itemsV xs vs ++ [.bool x.list, .string x.bytes, v] := by
  unfold itemsV
  rw [List.zip_append h, List.flatMap_append]
  rfl
theorem itemsV_len (xs : List Itm) (vs : List Value) (h : xs.length = vs.length) : (itemsV xs vs).length = xs.length * 3 := by
  induction xs generalizing vs with
  | nil => rfl
  | cons x xs ih =>
    cases vs with
    | nil => cases h
    | cons v vs =>
      have := ih vs (by simpa using h)
      unfold itemsV at this ⊢
      rw [List.zip_cons_cons, List.flatMap_cons, List.length_append, this]
      simp; omega
theorem itemsV_get (xs : List Itm) (vs : List Value) (h : xs.length = vs.length) (i : Nat) (hi : i < xs.length) (q : Nat) (hq : q < 3) : (itemsV xs vs)[i * 3 + q]? = [Value.bool (xs.getD i Itm.none_).list, .string (xs.getD i Itm.none_).bytes, vs.getD i undef][q]? := by
  induction xs generalizing vs i with
  | nil => cases hi
  | cons x xs ih =>
    cases vs with
    | nil => cases h
    | cons v vs =>
      have e : itemsV (x :: xs) (v :: vs) = [.bool x.list, .string x.bytes, v] ++ itemsV xs vs := rfl
      rw [e]
      cases i with
      | zero => rw [Nat.zero_mul, Nat.zero_add, List.getElem?_append_left (by simpa using hq)]; rfl
      | succ i =>
        rw [List.getElem?_append_right (by simp; omega), show (i + 1) * 3 + q - [Value.bool x.list, .string x.bytes, v].length = i * 3 + q by simp; omega, ih vs (by simpa using h) i (by simpa using hi)]
        rfl
/-- an owned row of items, in memory -/
theorem SubV.of_own {S : Nat → Prop} {W : World} {base c : Nat} {A : Option Addr} {xs : List Itm} {vs : List Value} (hl : xs.length = vs.length) (h : W.ownsRow base 45 3 (.slice A xs.length c) xs.length (itemsV xs vs))
    (hx : ∀ i, i < xs.length → SubV S W (xs.getD i Itm.none_).items (vs.getD i undef)) (hS : ∀ g, (Value.slice A xs.length c).ownBlock = some g → S g) : SubV S W xs (.slice A xs.length c) := by
  refine .mk xs A c vs (fun h0 => ?_) hx (by
    rcases h.2 with ⟨h1, _⟩ | ⟨g, cap, cur, hv, _, _, hn, _⟩
    · injection h1 with _ h2 h3; omega
    · injection hv with _ _ h3; omega)
  rcases h.2 with ⟨_, h1⟩ | ⟨g, cap, cur, hv, _, hg, _, _, _, ht⟩
  · omega
  · injection hv with hA
    subst hA
    refine ⟨g, 0, rfl, hS g rfl, fun i hi => ?_⟩
    have key : ∀ q, q < 3 → W.cell? ⟨g, 0 + i * 3 + q, none⟩ = (itemsV xs vs)[i * 3 + q]? := by
      intro q hq
      rw [Nat.zero_add, cell_of_row W g (i * 3 + q) cur 45 (0, 0) hg, ← ht, List.getElem?_take_of_lt (by omega)]
      simp
    refine ⟨?_, ?_, ?_⟩
    · have := key 0 (by omega); rw [itemsV_get xs vs hl i hi 0 (by omega)] at this; exact this
    · have := key 1 (by omega); rw [itemsV_get xs vs hl i hi 1 (by omega)] at this; exact this
    · have := key 2 (by omega); rw [itemsV_get xs vs hl i hi 2 (by omega)] at this; exact this
theorem Itm.ext_ {x y : Itm} (h1 : x.list = y.list) (h2 : x.bytes = y.bytes) (h3 : x.items = y.items) : x = y := by
  cases x; cases y
  simp only [Itm.list, Itm.bytes, Itm.items] at h1 h2 h3
  rw [h1, h2, h3]
theorem Itm.size_get {x : Itm} {i : Nat} (h : i < x.items.length) : SizeOf.sizeOf (x.items.getD i Itm.none_) < SizeOf.sizeOf x := by
  obtain ⟨l, b, xs⟩ := x
  have h : i < xs.length := h
  have : xs.getD i Itm.none_ ∈ xs := by
    rw [List.getD_eq_getElem?_getD, List.getElem?_eq_getElem h]
    exact List.getElem_mem h
  have := List.sizeOf_lt_of_mem this
  simp only [Itm.items, Itm.mk.sizeOf_spec]
  omega
theorem items_ext {xs ys : List Itm} (hl : xs.length = ys.length) (h : ∀ i, i < xs.length → xs.getD i Itm.none_ = ys.getD i Itm.none_) : xs = ys := by
  apply List.ext_getElem hl
  intro i hi hi'
  have := h i hi
  rw [List.getD_eq_getElem?_getD, List.getD_eq_getElem?_getD, List.getElem?_eq_getElem hi, List.getElem?_eq_getElem hi'] at this
  exact this

/-- what a tree's row of items lies as, in blocks of a world -/
abbrev SubW (W : World) (xs : List Itm) (v : Value) : Prop := SubV (fun g => g < W.heap.size) W xs v
theorem SubW.grown {W W' : World} {xs : List Itm} {v : Value} (h : SubW W xs v) (hg : W.grownBy W' none) : SubW W' xs v :=
  (h.keep fun p hp u hu => by rw [World.cell?_of_block (w := W) (hg.block p.block hp (by simp))]; exact hu).weak fun g h1 => by have := hg.size; omega
theorem SubV.here {S : Nat → Prop} {W : World} {xs : List Itm} {v : Value} (h : SubV S W xs v) : SubW W xs v := h.lt.weak fun _ h => h.2
/-- the items of a row -/
theorem SubV.row {S : Nat → Prop} {W : World} {xs : List Itm} {A : Option Addr} {n c : Nat} (h : SubV S W xs (.slice A n c)) : n = xs.length ∧ ∃ vs : List Value, (∀ i, i < xs.length → SubV S W (xs.getD i Itm.none_).items (vs.getD i undef)) ∧
    (0 < xs.length → ∃ b off, A = some ⟨b, off, none⟩ ∧ S b ∧ ∀ i, i < xs.length → W.cell? ⟨b, off + i * 3, none⟩ = some (.bool (xs.getD i Itm.none_).list) ∧ W.cell? ⟨b, off + i * 3 + 1, none⟩ = some (.string (xs.getD i Itm.none_).bytes) ∧ W.cell? ⟨b, off + i * 3 + 2, none⟩ = some (vs.getD i undef)) := by
  cases h with
  | mk xs A c vs hr hx => exact ⟨rfl, vs, hx, hr⟩

/-- no list is longer than may be, nor any bytes -/
inductive Itm.Ok : Itm → Prop
  | mk (l : Bool) (b : ByteArray) (xs : List Itm) (hb : b.size ≤ 9223372036854775807) (hn : xs.length ≤ 9223372036854775807) (h : ∀ i, i < xs.length → Itm.Ok (xs.getD i Itm.none_)) : Itm.Ok (.mk l b xs)
theorem Itm.Ok.bytes {x : Itm} (h : x.Ok) : x.bytes.size ≤ 9223372036854775807 := by cases h; assumption
theorem Itm.Ok.items {x : Itm} (h : x.Ok) : x.items.length ≤ 9223372036854775807 := by cases h; assumption
theorem Itm.Ok.get {x : Itm} (h : x.Ok) : ∀ i, i < x.items.length → (x.items.getD i Itm.none_).Ok := by cases h; assumption
end Go.Proofs.YthalohloneojlaaGreatDoor
/- Heads: what stands ahead of an item's own bytes. -/
namespace Go.Proofs.YthalohloneojlaaGreatDoor
open Go.RowKit Go.Shelf
set_option linter.unusedVariables false
set_option linter.unusedSimpArgs false

/-- a head -/
def headL (n base : Nat) : List UInt8 := if n < 56 then [UInt8.ofNat (base + n)] else UInt8.ofNat (base + 55 + (beN n).length) :: beN n

set_option maxRecDepth 100000 in
theorem joinP_any (B : Nat) (A : Option Addr) (n c : Nat) (xs : List ByteArray) (w : World) (hB : B ≤ w.heap.size) (h : Reads w B 1 A n (xs.map Value.string)) (hnm : n ≤ 1000000) (hnc : n ≤ c) (hlen : (catB xs).length ≤ 140737488355328) :
    Calls Tryz.prog 111 #[.slice A n c] w fun e w' => e = .returned (.string ⟨(catB xs).toArray⟩) ∧ Below w.heap.size w w' := by
  have hj := join_any B A n c xs w hB h hnm hnc hlen
  have HJ := Lib.hid hj
  clear hj h
  go_enter Tryz.func111, Tryz.ntmps111
  go_wp2_with fail
  refine HJ.out.mono ?_
  rintro e w2 ⟨rfl, hb⟩
  go_wp2_with fail
  go_ret
  exact ⟨rfl, hb⟩

/-- two texts joined: the row that holds them is the call's own -/
theorem join_two (s t : ByteArray) (w : World) (hlen : s.size + t.size ≤ 140737488355328) :
    Calls Tryz.prog 111 #[.slice (some ⟨w.heap.size, 0, none⟩) 2 2] (w.alloc (.cells #[.string s, .string t] 9)) fun e w' => e = .returned (.string (s ++ t)) ∧ w.grownBy w' none := by
  have hr : Reads (w.alloc (.cells #[.string s, .string t] 9)) (w.heap.size + 1) 1 (some ⟨w.heap.size, 0, none⟩) 2 ([s, t].map Value.string) := reads_blk (heap_alloc_new w _) (by omega) 2 rfl
  have hc : catB [s, t] = (s ++ t).data.toList := by simp [catB]
  refine (joinP_any (w.heap.size + 1) _ 2 2 [s, t] _ (by simp) hr (by omega) (by omega) (by rw [hc]; rw [ba_toList, List.length_append, ba_len, ba_len]; exact hlen)).mono ?_
  rintro e w' ⟨rfl, hb⟩
  refine ⟨by rw [hc], ?_⟩
  exact grown_self (only_alloc (World.grownBy.refl w none) (.cells #[.string s, .string t] 9)) (grown_of_below hb) (by simp)

theorem u8_small (n : Nat) (h : n < 256) : ((UInt8.ofNat n).toNat : Int) = (n : Int) := by
  rw [UInt8.toNat_ofNat']; omega
theorem one_u8 (n : Nat) (h : n < 256) : IntKind.u8.wrap (n : Int) = ((UInt8.ofNat n).toNat : Int) := by
  rw [u8_small n h]
  simp [IntKind.wrap, IntKind.bits, IntKind.signed]; omega
/-- a row of one byte as text -/
theorem conv_one (w : World) (z : UInt8) : (convert 52 9 (.slice (some ⟨w.heap.size, 0, none⟩) 1 1)).run Tryz.prog (w.alloc (.cells #[.int .u8 (z.toNat : Int)] 5)) = .ok (.string ⟨#[z]⟩) (w.alloc (.cells #[.int .u8 (z.toNat : Int)] 5)) :=
  conv_own (own_new1 w z)

set_option maxRecDepth 100000 in
set_option maxHeartbeats 1000000 in
theorem headP_any (n base : Nat) (hn : n ≤ 1000000000) (hb : base ≤ 192) (w : World) :
    Calls Tryz.prog 112 #[.int .i64 (n : Int), .int .i64 (base : Int)] w fun e w' => e = .returned (.string ⟨(headL n base).toArray⟩) ∧ w.grownBy w' none := by
  by_cases h : n < 56
  · have hh : headL n base = [UInt8.ofNat (base + n)] := if_pos h
    have v1 : IntKind.i64.wrap ((base : Int) + (n : Int)) = (base : Int) + (n : Int) := IntWalk.i64_in _ (by omega)
    have v2 : IntKind.u8.wrap ((base : Int) + (n : Int)) = ((UInt8.ofNat (base + n)).toNat : Int) := by rw [show (base : Int) + (n : Int) = ((base + n : Nat) : Int) by omega]; exact one_u8 _ (by omega)
    have d1 : (n : Int) < 56 := by omega
    have hcv := conv_one w (UInt8.ofNat (base + n))
    have HH := Lib.hid hh
    generalize UInt8.ofNat (base + n) = z at *
    clear hh
    go_enter Tryz.func112, Tryz.ntmps112
    go_wp2_with fail
    go_ret
    exact ⟨by rw [HH.out]; rfl, only_alloc (World.grownBy.refl w none) _⟩
  · have hh : headL n base = UInt8.ofNat (base + 55 + (beN n).length) :: beN n := if_neg h
    have d1 : decide ((n : Int) < 56) = false := decide_eq_false (by omega)
    have hl := beN_len8 n (by omega)
    have HB := Lib.hid (fun V => be_any n (by omega) V)
    have v0 : IntKind.u64.wrap (n : Int) = (n : Int) := by simp [IntKind.wrap, IntKind.bits, IntKind.signed]; omega
    have v1 : IntKind.i64.wrap ((base : Int) + 56) = (base : Int) + 56 := IntWalk.i64_in _ (by omega)
    have v2 : IntKind.i64.wrap ((base : Int) + 56 - 1) = (base : Int) + 55 := by rw [IntWalk.i64_in _ (by omega)]; omega
    obtain ⟨q, hq⟩ : ∃ q, beN n = q := ⟨_, rfl⟩
    rw [hq] at hh hl HB
    have v3 : IntKind.i64.wrap ((base : Int) + 55 + (q.length : Int)) = (base : Int) + 55 + (q.length : Int) := IntWalk.i64_in _ (by omega)
    have v4 : IntKind.u8.wrap ((base : Int) + 55 + (q.length : Int)) = ((UInt8.ofNat (base + 55 + q.length)).toNat : Int) := by rw [show (base : Int) + 55 + (q.length : Int) = ((base + 55 + q.length : Nat) : Int) by omega]; exact one_u8 _ (by omega)
    have HH := Lib.hid hh
    obtain ⟨z, hz⟩ : ∃ z, UInt8.ofNat (base + 55 + q.length) = z := ⟨_, rfl⟩
    rw [hz] at v4 HH
    have e1 : (base : Int) + 56 - 1 = (base : Int) + 55 := by omega
    clear hh hq hz
    go_enter Tryz.func112, Tryz.ntmps112
    go_wp2_with fail
    refine (HB.out _).mono ?_
    rintro e w2 ⟨rfl, hg⟩
    have hcv := conv_one w2 z
    have hz0 : q.toArray.size = q.length := by simp
    go_wp2_with fail
    have hj := join_two ⟨#[z]⟩ ⟨q.toArray⟩ (w2.alloc (.cells #[.int .u8 (z.toNat : Int)] 5)) (by show 1 + q.toArray.size ≤ _; omega)
    rw [World.size_alloc] at hj
    have hG := only_alloc hg (.cells #[.int .u8 (z.toNat : Int)] 5)
    refine hj.mono ?_
    rintro e w3 ⟨rfl, hg3⟩
    have hG := Lib.hid (grown_self hG hg3 (by simp))
    clear hg hg3 hj hcv
    go_wp2_with fail
    go_ret
    refine ⟨?_, hG.out⟩
    rw [HH.out]
    show Ending.returned (.string (⟨#[z]⟩ ++ ⟨q.toArray⟩)) = _
    congr 2

set_option maxRecDepth 100000 in
set_option maxHeartbeats 1000000 in
theorem headed_any (s : ByteArray) (base : Nat) (hs : s.size ≤ 1000000000) (hb : base ≤ 192) (w : World) :
    Calls Tryz.prog 83 #[.string s, .int .i64 (base : Int)] w fun e w' => e = .returned (.string ⟨(headL s.size base ++ s.data.toList).toArray⟩) ∧ w.grownBy w' none := by
  have HH := Lib.hid (fun V => headP_any s.size base hs hb V)
  have hl : (headL s.size base).length ≤ 9 := by
    unfold headL
    have := beN_len8 s.size (by omega)
    split <;> simp; omega
  obtain ⟨q, hq⟩ : ∃ q, headL s.size base = q := ⟨_, rfl⟩
  rw [hq] at HH hl
  have HQ := Lib.hid hq
  clear hq
  go_enter Tryz.func83, Tryz.ntmps83
  go_wp2_with fail
  refine (HH.out _).mono ?_
  rintro e w2 ⟨rfl, hg⟩
  go_wp2_with fail
  have hj := join_two ⟨q.toArray⟩ s w2 (by show q.toArray.size + s.size ≤ _; rw [List.size_toArray]; omega)
  refine hj.mono ?_
  rintro e w3 ⟨rfl, hg3⟩
  have hG := Lib.hid (grown_self hg hg3 (by simp))
  clear hg hg3 hj
  go_wp2_with fail
  go_ret
  refine ⟨?_, hG.out⟩
  rw [HQ.out]
  show Ending.returned (.string (⟨q.toArray⟩ ++ s)) = _
  congr 2

end Go.Proofs.YthalohloneojlaaGreatDoor
/- An item's bytes, depth, form: plain words. -/
namespace Go.Proofs.YthalohloneojlaaGreatDoor
open Go.RowKit Go.Shelf
set_option linter.unusedVariables false
set_option linter.unusedSimpArgs false

/-- bytes, as an item -/
def bytesT (b : ByteArray) : List UInt8 := if b.size = 1 ∧ (b.data.toList.getD 0 0).toNat < 128 then b.data.toList else headL b.size 128 ++ b.data.toList
mutual
/-- an item's bytes -/
def bytesF : Itm → List UInt8
  | .mk l b xs => if l then headL (bytesL xs).length 192 ++ bytesL xs else bytesT b
def bytesL : List Itm → List UInt8
  | [] => []
  | x :: xs => bytesF x ++ bytesL xs
end
mutual
/-- how deep -/
def deepF : Itm → Nat
  | .mk l b xs => if l then deepL xs + 1 else 0
def deepL : List Itm → Nat
  | [] => 0
  | x :: xs => max (deepF x) (deepL xs)
end
mutual
/-- what is wrong with it, in so many lists -/
def formF : Itm → Nat → Int
  | .mk l b xs, d => if (l = true ∧ b.size ≠ 0) ∨ (l = false ∧ xs.length ≠ 0) then 2 else if l = false then 0 else if 12 ≤ d then 7 else if 512 < xs.length then 5 else formL xs (d + 1)
def formL : List Itm → Nat → Int
  | [], _ => 0
  | x :: xs, d => if formF x d ≠ 0 then formF x d else formL xs d
end
mutual
/-- how much there is in it -/
def wtF : Itm → Nat
  | .mk l b xs => 10 + b.size + wtL xs
def wtL : List Itm → Nat
  | [] => 0
  | x :: xs => wtF x + wtL xs
end
theorem bytesF_eq (x : Itm) : bytesF x = if x.list then headL (bytesL x.items).length 192 ++ bytesL x.items else bytesT x.bytes := by cases x; rw [bytesF]; rfl
theorem deepF_eq (x : Itm) : deepF x = if x.list then deepL x.items + 1 else 0 := by cases x; rw [deepF]; rfl
theorem formF_eq (x : Itm) (d : Nat) : formF x d = if (x.list = true ∧ x.bytes.size ≠ 0) ∨ (x.list = false ∧ x.items.length ≠ 0) then 2 else if x.list = false then 0 else if 12 ≤ d then 7 else if 512 < x.items.length then 5 else formL x.items (d + 1) := by cases x; rw [formF]; rfl
theorem wtF_eq (x : Itm) : wtF x = 10 + x.bytes.size + wtL x.items := by cases x; rw [wtF]; rfl
theorem bytesL_snoc (xs : List Itm) (x : Itm) : bytesL (xs ++ [x]) = bytesL xs ++ bytesF x := by
  induction xs with
  | nil => simp [bytesL]
  | cons y xs ih => simp [bytesL, ih]
theorem bytesL_append (xs ys : List Itm) : bytesL (xs ++ ys) = bytesL xs ++ bytesL ys := by
  induction xs with
  | nil => simp [bytesL]
  | cons y xs ih => simp [bytesL, ih]
theorem deepL_snoc (xs : List Itm) (x : Itm) : deepL (xs ++ [x]) = max (deepL xs) (deepF x) := by
  induction xs with
  | nil => simp [deepL]
  | cons y xs ih => simp [deepL, ih]
theorem wtL_append (xs ys : List Itm) : wtL (xs ++ ys) = wtL xs + wtL ys := by
  induction xs with
  | nil => simp [wtL]
  | cons y xs ih => simp [wtL, ih]; omega
theorem take_item {xs : List Itm} {k : Nat} (h : k < xs.length) : xs.take (k + 1) = xs.take k ++ [xs.getD k Itm.none_] := by
  rw [List.take_succ_eq_append_getElem h, List.getD_eq_getElem?_getD, List.getElem?_eq_getElem h]; rfl
theorem item_cut {xs : List Itm} {k : Nat} (h : k < xs.length) : xs = xs.take k ++ xs.getD k Itm.none_ :: xs.drop (k + 1) := by
  have : xs.drop k = xs.getD k Itm.none_ :: xs.drop (k + 1) := by
    rw [List.drop_eq_getElem_cons h, List.getD_eq_getElem?_getD, List.getElem?_eq_getElem h]; rfl
  rw [← this, List.take_append_drop]
theorem wtL_get {xs : List Itm} {k : Nat} (h : k < xs.length) : wtF (xs.getD k Itm.none_) + wtL (xs.take k) ≤ wtL xs := by
  have e := congrArg wtL (item_cut h)
  rw [wtL_append, wtL] at e
  omega
theorem headL_len (n base : Nat) (h : n ≤ 1000000000) : (headL n base).length ≤ 9 ∧ 1 ≤ (headL n base).length := by
  unfold headL
  have := beN_len8 n (by omega)
  split <;> simp <;> omega
theorem bytesT_len (b : ByteArray) (h : b.size ≤ 1000000000) : (bytesT b).length ≤ 9 + b.size := by
  unfold bytesT
  have h2 : b.data.toList.length = b.size := Array.length_toList
  split
  · omega
  · rw [List.length_append]; have := (headL_len b.size 128 h).1; omega
mutual
theorem bytesF_len : ∀ x : Itm, wtF x ≤ 1000000000 → (bytesF x).length + 1 ≤ wtF x
  | .mk l b xs, h => by
    rw [wtF] at h ⊢
    rw [bytesF]
    have h1 := bytesL_len xs (by omega)
    split
    · rw [List.length_append]; have := (headL_len (bytesL xs).length 192 (by omega)).1; omega
    · have := bytesT_len b (by omega); omega
theorem bytesL_len : ∀ xs : List Itm, wtL xs ≤ 1000000000 → (bytesL xs).length ≤ wtL xs
  | [], _ => by simp [bytesL]
  | x :: xs, h => by
    rw [wtL] at h ⊢
    rw [bytesL, List.length_append]
    have := bytesF_len x (by omega)
    have := bytesL_len xs (by omega)
    omega
end
theorem wt_get {x : Itm} {k : Nat} (h : k < x.items.length) : wtF (x.items.getD k Itm.none_) ≤ wtF x := by
  have := wtL_get h; rw [wtF_eq x]; omega
theorem wtL_take (xs : List Itm) (k : Nat) : wtL (xs.take k) ≤ wtL xs := by
  have := congrArg wtL (List.take_append_drop k xs)
  rw [wtL_append] at this
  omega
theorem wtL_len (xs : List Itm) : 10 * xs.length ≤ wtL xs := by
  induction xs with
  | nil => simp [wtL]
  | cons x xs ih => rw [wtL, wtF_eq]; simp; omega
/-- what is so light may be walked -/
theorem ok_of_wt (x : Itm) (h : wtF x ≤ 1000000000) : x.Ok := by
  generalize hn : SizeOf.sizeOf x = n
  induction n using Nat.strongRecOn generalizing x with
  | _ n ih =>
    subst hn
    cases x with
    | mk l b xs =>
      have h' := h
      rw [wtF] at h'
      have := wtL_len xs
      exact .mk l b xs (by omega) (by omega) fun i hi => ih _ (Itm.size_get (x := .mk l b xs) hi) _ (Nat.le_trans (wt_get (x := .mk l b xs) hi) h) rfl

theorem BuilderAt.grown_' {T e : TypeId} {B b : Nat} {p : Value} {bs : List Value} {w w' : World} (h : Lib.BuilderAt T e B b p bs w) (hg : w.grownBy w' none) : Lib.BuilderAt T e B b p bs w' := by
  obtain ⟨h1, v, h2, h3, h4⟩ := h
  refine ⟨h1, v, (hg.block b (Array.getElem?_eq_some_iff.1 h2).1 (by simp)).trans h2, h3.kept hg ?_, h4⟩
  rcases h3.2 with ⟨rfl, _⟩ | ⟨g, cap, cur, rfl, _⟩
  · exact .inl rfl
  · exact .inr (by simp [Value.ownBlock])
theorem builder_grown {T e : TypeId} {B b : Nat} {bs : List Value} {w w' : World} (h : Lib.IsBuilder T e B b bs w) (hg : w.grownBy w' none) : Lib.IsBuilder T e B b bs w' := h.elim (fun h => .inl (BuilderAt.grown_' h hg)) (fun h => .inr (BuilderAt.grown_' h hg))
theorem builder_lt {T e : TypeId} {B b : Nat} {bs : List Value} {w : World} (h : Lib.IsBuilder T e B b bs w) : b < w.heap.size ∧ B ≤ b := h.elim (fun h => ⟨h.lt, h.1⟩) (fun h => ⟨h.lt, h.1⟩)
end Go.Proofs.YthalohloneojlaaGreatDoor
/- One item that a law has laid in a box. -/
namespace Go.Proofs.YthalohloneojlaaGreatDoor
open Go.RowKit Go.Shelf
set_option linter.unusedVariables false
set_option linter.unusedSimpArgs false

theorem leafW (W : World) (c : Nat) : SubW W [] (.slice none 0 c) := .mk [] none c [] (fun h => by cases h) (fun i h => by cases h)
/-- one item that a law has laid in a box -/
structure One (W0 W : World) (b : Nat) (x : Itm) (sx : Value) : Prop where
  hg : W0.grownBy W none
  bx : Blk W b 45 #[.bool x.list, .string x.bytes, sx]
  sx : SubW W x.items sx
theorem One.grown {W0 W W' : World} {b : Nat} {x : Itm} {sx : Value} (h : One W0 W b x sx) (hg : W.grownBy W' none) : One W0 W' b x sx :=
  ⟨grown_self h.hg hg (by simp), h.bx.grown hg (by simp), h.sx.grown hg⟩
theorem One.cells {W0 W : World} {b : Nat} {x : Itm} {sx : Value} (h : One W0 W b x sx) : W.cell? ⟨b, 0, none⟩ = some (.bool x.list) ∧ W.cell? ⟨b, 1, none⟩ = some (.string x.bytes) ∧ W.cell? ⟨b, 2, none⟩ = some sx :=
  ⟨h.bx.cell 0, h.bx.cell 1, h.bx.cell 2⟩
theorem One.below {W0 W : World} {b : Nat} {x : Itm} {sx : Value} (h : One W0 W b x sx) : Below W0.heap.size W0 W := below_of_grown h.hg
theorem two_boxes (W : World) (x y : Itm) (sx sy : Value) (hx : SubW W x.items sx) (hy : SubW W y.items sy) :
    One W ((W.alloc (.cells #[.bool x.list, .string x.bytes, sx] 45)).alloc (.cells #[.bool y.list, .string y.bytes, sy] 45)) W.heap.size x sx ∧
    One W ((W.alloc (.cells #[.bool x.list, .string x.bytes, sx] 45)).alloc (.cells #[.bool y.list, .string y.bytes, sy] 45)) (W.heap.size + 1) y sy := by
  have hG := only_alloc (only_alloc (World.grownBy.refl W none) (.cells #[.bool x.list, .string x.bytes, sx] 45)) (.cells #[.bool y.list, .string y.bytes, sy] 45)
  have hb := Blk.new (W.alloc (.cells #[.bool x.list, .string x.bytes, sx] 45)) 45 #[.bool y.list, .string y.bytes, sy]
  rw [World.size_alloc] at hb
  exact ⟨⟨hG, (Blk.new W _ _).alloc _, hx.grown hG⟩, ⟨hG, hb, hy.grown hG⟩⟩
theorem one_box (W : World) (x : Itm) (sx : Value) (hx : SubW W x.items sx) : One W (W.alloc (.cells #[.bool x.list, .string x.bytes, sx] 45)) W.heap.size x sx := by
  have hG := only_alloc (World.grownBy.refl W none) (.cells #[.bool x.list, .string x.bytes, sx] 45)
  exact ⟨hG, Blk.new W _ _, hx.grown hG⟩
end Go.Proofs.YthalohloneojlaaGreatDoor
/- A number, a word, bytes as an item; an item's number. -/
namespace Go.Proofs.YthalohloneojlaaGreatDoor
open Go.RowKit Go.Shelf
set_option linter.unusedVariables false
set_option linter.unusedSimpArgs false

theorem load_itemF {w : World} {g : Nat} {a b c : Value} (hg : Blk w g 45 #[a, b, c]) : (loadVar 45 ⟨g, 0, none⟩).run Tryz.prog w = .ok (.agg #[a, b, c]) w :=
  run_loadVar_row w g 45 45 _ (0, 0) _ hg Tryz.underlying45 rfl (by kernel_rfl)

set_option maxRecDepth 100000 in
theorem text_any (s : ByteArray) (w : World) :
    Calls Tryz.prog 46 #[.string s] w fun e w' => e = .returned (.agg #[.bool false, .string s, .slice none 0 0]) ∧ w.grownBy w' none := by
  have hB := Blk.new w 45 #[.bool false, .string s, .slice none 0 0]
  have hG := only_alloc (World.grownBy.refl w none) (.cells #[.bool false, .string s, .slice none 0 0] 45)
  go_enter Tryz.func46, Tryz.ntmps46
  go_wp2_with fail
  refine bodyPost_ret (results_cell1 (fn := Tryz.f46) rfl _ _ _ _ rfl (load_itemF hB)) rfl ?_
  exact ⟨rfl, hG⟩

set_option maxRecDepth 100000 in
theorem within_any (n a b : Int) (w : World) :
    Calls Tryz.prog 97 #[.int .i64 n, .int .i64 a, .int .i64 b] w fun e w' => e = .returned (.int .i64 (if n < a then 3 else if b < n then 5 else 0)) ∧ w' = w := by
  by_cases h1 : n < a
  · rw [if_pos h1]
    go_enter Tryz.func97, Tryz.ntmps97
    go_wp2_with fail
    go_ret
    exact ⟨rfl, rfl⟩
  · rw [if_neg h1]
    have d1 : decide (n < a) = false := decide_eq_false h1
    by_cases h2 : b < n
    · rw [if_pos h2]
      clear h1
      go_enter Tryz.func97, Tryz.ntmps97
      go_wp2_with fail
      go_ret
      exact ⟨rfl, rfl⟩
    · rw [if_neg h2]
      have d2 : decide (b < n) = false := decide_eq_false h2
      clear h1 h2
      go_enter Tryz.func97, Tryz.ntmps97
      go_wp2_with fail
      go_ret
      exact ⟨rfl, rfl⟩

/-- an item's number -/
def numE (l : Bool) (s : ByteArray) : Int := if l then 2 else unbeE s.data.toList
def numV (l : Bool) (s : ByteArray) : Nat := if numE l s = 0 then unbeN s.data.toList else 0

set_option maxRecDepth 100000 in
set_option maxHeartbeats 1000000 in
theorem ofNumber_any (l : Bool) (s : ByteArray) (sv : Value) (hs : s.size ≤ 9223372036854775807) (w : World) :
    Calls Tryz.prog 129 #[.agg #[.bool l, .string s, sv], .func (Fn.func 130) #[] #[]] w fun e w' => e = .returned (.tuple #[.int .u64 (numV l s : Nat), .int .i64 (numE l s)]) ∧ w.grownBy w' none := by
  have hB := Blk.new w 45 #[.bool l, .string s, sv]
  have hG := only_alloc (World.grownBy.refl w none) (.cells #[.bool l, .string s, sv] 45)
  have hU := fun V => unbe_any s hs V
  cases l with
  | true =>
    have HG := Lib.hid hG
    rw [show numV true s = 0 from if_neg (by show ¬ (2 : Int) = 0; decide), show numE true s = 2 from rfl]
    clear hU hG
    go_enter Tryz.func129, Tryz.ntmps129
    go_upto_region 1 with (fail)
    obtain ⟨b, hb⟩ : ∃ b, w.heap.size = b := ⟨_, rfl⟩
    rw [hb] at hB ⊢
    generalize w.alloc (.cells #[.bool true, .string s, sv] 45) = W1 at *
    have c0 := hB.cell 0
    simp only [List.getElem?_toArray, List.getElem?_cons_zero, List.getElem?_cons_succ] at c0
    go_wp2_with fail
    go_ret2
    exact ⟨rfl, HG.out⟩
  | false =>
    obtain ⟨E, hE⟩ : ∃ E, unbeE s.data.toList = E := ⟨_, rfl⟩
    obtain ⟨n, hn⟩ : ∃ n, unbeN s.data.toList = n := ⟨_, rfl⟩
    have e1 : numE false s = E := hE
    have e2 : numV false s = if E = 0 then n else 0 := by unfold numV; rw [e1, hn]
    obtain ⟨m, hm⟩ : ∃ m, (if E = 0 then n else 0) = m := ⟨_, rfl⟩
    rw [e1, e2, hm]
    rw [hE, hn] at hU
    have HU := Lib.hid hU; have HG := Lib.hid hG; have HM := Lib.hid hm
    clear hU hG e1 e2 hE hn hm
    go_enter Tryz.func129, Tryz.ntmps129
    go_upto_region 1 with (fail)
    obtain ⟨b, hb⟩ : ∃ b, w.heap.size = b := ⟨_, rfl⟩
    rw [hb] at hB ⊢
    generalize w.alloc (.cells #[.bool false, .string s, sv] 45) = W1 at *
    have c0 := hB.cell 0; have c1 := hB.cell 1
    simp only [List.getElem?_toArray, List.getElem?_cons_zero, List.getElem?_cons_succ] at c0 c1
    go_wp2_with fail
    refine (HU.out _).mono ?_
    rintro e w3 ⟨rfl, hg3⟩
    have HG3 := Lib.hid (grown_self HG.out hg3 (by simp))
    clear hg3 c0 c1 hB
    by_cases h0 : E = 0
    · subst h0
      obtain rfl : n = m := HM.out
      clear HM
      go_wp2_with fail
      go_ret2
      exact ⟨rfl, HG3.out⟩
    · have g1 : (E != 0) = true := by simpa using h0
      obtain rfl : 0 = m := by have := HM.out; rwa [if_neg h0] at this
      clear HM
      go_wp2_with fail
      go_ret2
      exact ⟨rfl, HG3.out⟩

set_option maxRecDepth 100000 in
set_option maxHeartbeats 1000000 in
theorem getNumber_any (l : Bool) (s : ByteArray) (sv : Value) (hs : s.size ≤ 9223372036854775807) (w : World) :
    Calls Tryz.prog 99 #[.agg #[.bool l, .string s, sv]] w fun e w' => e = .returned (.tuple #[.int .u64 (numV l s : Nat), .int .i64 (numE l s)]) ∧ w.grownBy w' none := by
  have hB := Blk.new w 45 #[.bool l, .string s, sv]
  have HG := Lib.hid (only_alloc (World.grownBy.refl w none) (.cells #[.bool l, .string s, sv] 45))
  have HO := Lib.hid (fun V => ofNumber_any l s sv hs V)
  generalize numV l s = n at *
  generalize numE l s = E at *
  go_enter Tryz.func99, Tryz.ntmps99
  go_wp2_with fail
  refine (HO.out _).mono ?_
  rintro e w3 ⟨rfl, hg3⟩
  have HG3 := Lib.hid (grown_self HG.out hg3 (by simp))
  clear hg3
  go_wp2_with fail
  go_ret2
  exact ⟨rfl, HG3.out⟩

set_option maxRecDepth 100000 in
set_option maxHeartbeats 1000000 in
theorem number_any (n : Nat) (hn : n < 18446744073709551616) (w : World) :
    Calls Tryz.prog 24 #[.int .u64 (n : Int)] w fun e w' => e = .returned (.agg #[.bool false, .string ⟨(beN n).toArray⟩, .slice none 0 0]) ∧ w.grownBy w' none := by
  have hB := Blk.new w 45 #[.bool false, .string ⟨#[]⟩, .slice none 0 0]
  have HG := Lib.hid (only_alloc (World.grownBy.refl w none) (.cells #[.bool false, .string ⟨#[]⟩, .slice none 0 0] 45))
  have hbe := fun V => be_any n hn V
  obtain ⟨t, ht⟩ : ∃ t : ByteArray, (⟨(beN n).toArray⟩ : ByteArray) = t := ⟨_, rfl⟩
  rw [ht] at hbe ⊢
  have HBe := Lib.hid hbe
  clear hbe ht
  go_enter Tryz.func24, Tryz.ntmps24
  go_upto_region 1 with (fail)
  obtain ⟨b, hb⟩ : ∃ b, w.heap.size = b := ⟨_, rfl⟩
  have HW := Lib.hid hb
  rw [hb] at hB ⊢
  clear hb
  generalize w.alloc (.cells #[.bool false, .string ⟨#[]⟩, .slice none 0 0] 45) = W1 at *
  go_wp2_with fail
  refine (HBe.out _).mono ?_
  rintro e w3 ⟨rfl, hg3⟩
  have hB := hB.grown hg3 (by simp)
  have HG3 := Lib.hid (grown_self HG.out hg3 (by simp))
  clear hg3
  go_wp2_with fail
  refine (text_any t _).mono ?_
  rintro e w4 ⟨rfl, hg4⟩
  have hB := hB.grown hg4 (by simp)
  have hG4 := grown_self HG3.out hg4 (by simp)
  have hle : w.heap.size ≤ b := by have := HW.out; omega
  have HG5 := Lib.hid (only_set (only_set (only_set hG4 (p := ⟨b, 0, none⟩) hle (.bool false)) (p := ⟨b, 1, none⟩) hle (.string t)) (p := ⟨b, 2, none⟩) hle (.slice none 0 0))
  have HB5 := Lib.hid (((hB.set_ 0 (.bool false)).set_ 1 (.string t)).set_ 2 (.slice none 0 0))
  have c0 := hB.cell 0; have c1 := hB.cell 1; have c2 := hB.cell 2
  have d0 := hB.frozen 0; have d1 := hB.frozen 1; have d2 := hB.frozen 2
  simp only [List.getElem?_toArray, List.getElem?_cons_zero, List.getElem?_cons_succ] at c0 c1 c2
  clear hg4 hG4 hB hle
  go_wp2_with fail
  refine bodyPost_ret (results_cell1 (fn := Tryz.f24) rfl _ _ _ _ rfl (load_itemF HB5.out)) rfl ?_
  exact ⟨rfl, HG5.out⟩
end Go.Proofs.YthalohloneojlaaGreatDoor
/- Yes or no, an address, bytes of an item; a list. -/
namespace Go.Proofs.YthalohloneojlaaGreatDoor
open Go.RowKit Go.Shelf
set_option linter.unusedVariables false
set_option linter.unusedSimpArgs false

def yesS (v : Bool) : ByteArray := if v then ⟨#[1]⟩ else ⟨#[]⟩
set_option maxRecDepth 100000 in
set_option maxHeartbeats 1000000 in
theorem bool_yes (w : World) :
    Calls Tryz.prog 23 #[.bool true] w fun e w' => e = .returned (.agg #[.bool false, .string ⟨#[1]⟩, .slice none 0 0]) ∧ w.grownBy w' none := by
  have hB := Blk.new w 45 #[.bool false, .string ⟨#[]⟩, .slice none 0 0]
  have HG := Lib.hid (only_alloc (World.grownBy.refl w none) (.cells #[.bool false, .string ⟨#[]⟩, .slice none 0 0] 45))
  go_enter Tryz.func23, Tryz.ntmps23
  go_upto_region 1 with (fail)
  obtain ⟨b, hb⟩ : ∃ b, w.heap.size = b := ⟨_, rfl⟩
  have HW := Lib.hid hb
  rw [hb] at hB ⊢
  clear hb
  generalize w.alloc (.cells #[.bool false, .string ⟨#[]⟩, .slice none 0 0] 45) = W1 at *
  go_wp2_with fail
  refine (text_any _ _).mono ?_
  rintro e w4 ⟨rfl, hg4⟩
  have hB := hB.grown hg4 (by simp)
  have hG4 := grown_self HG.out hg4 (by simp)
  have hle : w.heap.size ≤ b := by have := HW.out; omega
  have HG5 := Lib.hid (only_set (only_set (only_set hG4 (p := ⟨b, 0, none⟩) hle (.bool false)) (p := ⟨b, 1, none⟩) hle (.string ⟨#[1]⟩)) (p := ⟨b, 2, none⟩) hle (.slice none 0 0))
  have HB5 := Lib.hid (((hB.set_ 0 (.bool false)).set_ 1 (.string ⟨#[1]⟩)).set_ 2 (.slice none 0 0))
  have c0 := hB.cell 0; have c1 := hB.cell 1; have c2 := hB.cell 2
  have d0 := hB.frozen 0; have d1 := hB.frozen 1; have d2 := hB.frozen 2
  simp only [List.getElem?_toArray, List.getElem?_cons_zero, List.getElem?_cons_succ] at c0 c1 c2
  clear hg4 hG4 hB hle
  go_wp2_with fail
  refine bodyPost_ret (results_cell1 (fn := Tryz.f23) rfl _ _ _ _ rfl (load_itemF HB5.out)) rfl ?_
  exact ⟨rfl, HG5.out⟩
set_option maxRecDepth 100000 in
set_option maxHeartbeats 1000000 in
theorem bool_no (w : World) :
    Calls Tryz.prog 23 #[.bool false] w fun e w' => e = .returned (.agg #[.bool false, .string ⟨#[]⟩, .slice none 0 0]) ∧ w.grownBy w' none := by
  have hB := Blk.new w 45 #[.bool false, .string ⟨#[]⟩, .slice none 0 0]
  have HG := Lib.hid (only_alloc (World.grownBy.refl w none) (.cells #[.bool false, .string ⟨#[]⟩, .slice none 0 0] 45))
  go_enter Tryz.func23, Tryz.ntmps23
  go_upto_region 1 with (fail)
  obtain ⟨b, hb⟩ : ∃ b, w.heap.size = b := ⟨_, rfl⟩
  have HW := Lib.hid hb
  rw [hb] at hB ⊢
  clear hb
  generalize w.alloc (.cells #[.bool false, .string ⟨#[]⟩, .slice none 0 0] 45) = W1 at *
  go_wp2_with fail
  refine (text_any _ _).mono ?_
  rintro e w4 ⟨rfl, hg4⟩
  have hB := hB.grown hg4 (by simp)
  have hG4 := grown_self HG.out hg4 (by simp)
  have hle : w.heap.size ≤ b := by have := HW.out; omega
  have HG5 := Lib.hid (only_set (only_set (only_set hG4 (p := ⟨b, 0, none⟩) hle (.bool false)) (p := ⟨b, 1, none⟩) hle (.string ⟨#[]⟩)) (p := ⟨b, 2, none⟩) hle (.slice none 0 0))
  have HB5 := Lib.hid (((hB.set_ 0 (.bool false)).set_ 1 (.string ⟨#[]⟩)).set_ 2 (.slice none 0 0))
  have c0 := hB.cell 0; have c1 := hB.cell 1; have c2 := hB.cell 2
  have d0 := hB.frozen 0; have d1 := hB.frozen 1; have d2 := hB.frozen 2
  simp only [List.getElem?_toArray, List.getElem?_cons_zero, List.getElem?_cons_succ] at c0 c1 c2
  clear hg4 hG4 hB hle
  go_wp2_with fail
  refine bodyPost_ret (results_cell1 (fn := Tryz.f23) rfl _ _ _ _ rfl (load_itemF HB5.out)) rfl ?_
  exact ⟨rfl, HG5.out⟩
theorem boolF_any (v : Bool) (w : World) :
    Calls Tryz.prog 23 #[.bool v] w fun e w' => e = .returned (.agg #[.bool false, .string (yesS v), .slice none 0 0]) ∧ w.grownBy w' none := by
  cases v
  · exact bool_no w
  · exact bool_yes w

def yesE (s : ByteArray) : Int := if s = ⟨#[]⟩ ∨ s = ⟨#[1]⟩ then 0 else 2
def yesV (s : ByteArray) : Bool := s = ⟨#[1]⟩
theorem str_eqT {a b : ByteArray} (h : a = b) : (a.toList == b.toList) = true := by rw [h]; simp
theorem isE_of {a : ByteArray} (h : a ≠ ⟨#[]⟩) : a.toList.isEmpty = false ∧ (a.toList == []) = false ∧ (a.toList != []) = true := by
  have h0 : a.toList ≠ [] := fun e => h (ba_ext (by rw [← Lib.toList_data, e]))
  refine ⟨?_, by simpa using h0, by simpa using h0⟩
  cases hq : a.toList with
  | nil => exact absurd hq h0
  | cons x l => rfl
set_option maxRecDepth 100000 in
set_option maxHeartbeats 1000000 in
theorem getBool1_any (s : ByteArray) (w : World) :
    Calls Tryz.prog 128 #[.string s] w fun e w' => e = .returned (.tuple #[.bool (yesV s), .int .i64 (yesE s)]) ∧ w' = w := by
  by_cases h1 : s = ⟨#[]⟩
  · subst h1
    rw [show yesV ⟨#[]⟩ = false from decide_eq_false (by intro e; injection e with e; cases e), show yesE ⟨#[]⟩ = 0 from if_pos (.inl rfl)]
    go_enter Tryz.func128, Tryz.ntmps128
    go_wp2_with fail
    all_goals
      go_ret2
      exact ⟨rfl, rfl⟩
  obtain ⟨g1, g2, g3⟩ := isE_of h1
  by_cases h2 : s = ⟨#[1]⟩
  · subst h2
    rw [show yesV ⟨#[1]⟩ = true from decide_eq_true rfl, show yesE ⟨#[1]⟩ = 0 from if_pos (.inr rfl)]
    clear h1
    go_enter Tryz.func128, Tryz.ntmps128
    go_wp2_with fail
    all_goals
      go_ret2
      exact ⟨rfl, rfl⟩
  · have g4 := str_ne h2
    have g5 : (s.toList != (⟨#[1]⟩ : ByteArray).toList) = true := by rw [bne, g4]; rfl
    have g6 : (s.toList == [1]) = false := by rw [Lib.toList_data (⟨#[1]⟩ : ByteArray)] at g4; exact g4
    rw [show yesV s = false from decide_eq_false h2, show yesE s = 2 from if_neg (by rintro (e | e); exact h1 e; exact h2 e)]
    clear h1 h2
    go_enter Tryz.func128, Tryz.ntmps128
    go_wp2_with fail
    all_goals
      go_ret2
      exact ⟨rfl, rfl⟩
def addrE (s : ByteArray) : Int := if s = ⟨#[]⟩ ∨ s.size = 20 then 0 else 2
def addrV (s : ByteArray) : ByteArray := if addrE s = 0 then s else ⟨#[]⟩
set_option maxRecDepth 100000 in
theorem list_any (sv : Value) (hsv : ∃ A n c, sv = .slice A n c) (w : World) :
    Calls Tryz.prog 22 #[sv] w fun e w' => e = .returned (.agg #[.bool true, .string ⟨#[]⟩, sv]) ∧ w.grownBy w' none := by
  obtain ⟨A, n, c, rfl⟩ := hsv
  have hB := Blk.new w 45 #[.bool true, .string ⟨#[]⟩, .slice A n c]
  have hG := only_alloc (World.grownBy.refl w none) (.cells #[.bool true, .string ⟨#[]⟩, .slice A n c] 45)
  go_enter Tryz.func22, Tryz.ntmps22
  go_wp2_with fail
  refine bodyPost_ret (results_cell1 (fn := Tryz.f22) rfl _ _ _ _ rfl (load_itemF hB)) rfl ?_
  exact ⟨rfl, hG⟩
end Go.Proofs.YthalohloneojlaaGreatDoor
/- An item's yes or no, its address, its bytes. -/
namespace Go.Proofs.YthalohloneojlaaGreatDoor
open Go.RowKit Go.Shelf
set_option linter.unusedVariables false
set_option linter.unusedSimpArgs false

set_option maxRecDepth 100000 in
set_option maxHeartbeats 1000000 in
theorem ofBool_any (l : Bool) (s : ByteArray) (sv : Value) (E : Int) (v : Bool) (hU : ∀ W, Calls Tryz.prog 128 #[.string s] W fun e w' => e = .returned (.tuple #[.bool v, .int .i64 E]) ∧ w' = W) (w : World) :
    Calls Tryz.prog 127 #[.agg #[.bool l, .string s, sv], .func (Fn.func 128) #[] #[]] w fun e w' => e = .returned (.tuple #[.bool (if l = false ∧ E = 0 then v else false), .int .i64 (if l then 2 else E)]) ∧ w.grownBy w' none := by
  have hB := Blk.new w 45 #[.bool l, .string s, sv]
  have hG := only_alloc (World.grownBy.refl w none) (.cells #[.bool l, .string s, sv] 45)
  have HU := Lib.hid hU; have HG := Lib.hid hG
  clear hU hG
  obtain ⟨m, hm⟩ : ∃ m, (if l = false ∧ E = 0 then v else false) = m := ⟨_, rfl⟩
  rw [hm]
  have HM := Lib.hid hm
  clear hm
  cases l with
  | true =>
    obtain rfl : false = m := HM.out
    rw [show (if true = true then (2 : Int) else E) = 2 from rfl]
    clear HU HM
    go_enter Tryz.func127, Tryz.ntmps127
    go_upto_region 1 with (fail)
    obtain ⟨b, hb⟩ : ∃ b, w.heap.size = b := ⟨_, rfl⟩
    rw [hb] at hB ⊢
    generalize w.alloc (.cells #[.bool true, .string s, sv] 45) = W1 at *
    have c0 := hB.cell 0
    simp only [List.getElem?_toArray, List.getElem?_cons_zero, List.getElem?_cons_succ] at c0
    go_wp2_with fail
    go_ret2
    exact ⟨rfl, HG.out⟩
  | false =>
    rw [show (if false = true then (2 : Int) else E) = E from rfl]
    go_enter Tryz.func127, Tryz.ntmps127
    go_upto_region 1 with (fail)
    obtain ⟨b, hb⟩ : ∃ b, w.heap.size = b := ⟨_, rfl⟩
    rw [hb] at hB ⊢
    generalize w.alloc (.cells #[.bool false, .string s, sv] 45) = W1 at *
    have c0 := hB.cell 0; have c1 := hB.cell 1
    simp only [List.getElem?_toArray, List.getElem?_cons_zero, List.getElem?_cons_succ] at c0 c1
    go_wp2_with fail
    refine (HU.out _).mono ?_
    rintro e w3 ⟨rfl, hw3⟩
    rw [hw3]
    clear hw3 c0 c1 hB HU
    by_cases h0 : E = 0
    · subst h0
      obtain rfl : v = m := HM.out
      clear HM
      go_wp2_with fail
      go_ret2
      exact ⟨rfl, HG.out⟩
    · have g1 : (E != 0) = true := by simpa using h0
      obtain rfl : false = m := by have := HM.out; rwa [if_neg (fun h => h0 h.2)] at this
      clear HM
      go_wp2_with fail
      go_ret2
      exact ⟨rfl, HG.out⟩
set_option maxRecDepth 100000 in
set_option maxHeartbeats 1000000 in
theorem getBool_any (l : Bool) (s : ByteArray) (sv : Value) (w : World) :
    Calls Tryz.prog 98 #[.agg #[.bool l, .string s, sv]] w fun e w' => e = .returned (.tuple #[.bool (if l = false ∧ yesE s = 0 then yesV s else false), .int .i64 (if l then 2 else yesE s)]) ∧ w.grownBy w' none := by
  have hB := Blk.new w 45 #[.bool l, .string s, sv]
  have HG := Lib.hid (only_alloc (World.grownBy.refl w none) (.cells #[.bool l, .string s, sv] 45))
  have ho := fun V => ofBool_any l s sv (yesE s) (yesV s) (fun W => getBool1_any s W) V
  obtain ⟨m, hm⟩ : ∃ m, (if l = false ∧ yesE s = 0 then yesV s else false) = m := ⟨_, rfl⟩
  obtain ⟨q, hq⟩ : ∃ q, (if l then 2 else yesE s) = q := ⟨_, rfl⟩
  rw [hm, hq] at ho
  rw [hm, hq]
  have HO := Lib.hid ho
  clear ho hm hq
  go_enter Tryz.func98, Tryz.ntmps98
  go_wp2_with fail
  refine (HO.out _).mono ?_
  rintro e w3 ⟨rfl, hg3⟩
  have HG3 := Lib.hid (grown_self HG.out hg3 (by simp))
  clear hg3
  go_wp2_with fail
  go_ret2
  exact ⟨rfl, HG3.out⟩
set_option maxRecDepth 100000 in
set_option maxHeartbeats 1000000 in
theorem ofText_any (p q : Addr) (l : Bool) (s : ByteArray) (sv : Value) (w : World) (E : Int) (v : ByteArray) (hU : ∀ W, w.grownBy W none → Calls Tryz.prog 149 #[.string s, .pointer (some p), .pointer (some q)] W fun e w' => e = .returned (.tuple #[.string v, .int .i64 E]) ∧ w' = W) :
    Calls Tryz.prog 148 #[.agg #[.bool l, .string s, sv], .func (Fn.func 149) #[] #[.pointer (some p), .pointer (some q)]] w fun e w' => e = .returned (.tuple #[.string (if l = false ∧ E = 0 then v else ⟨#[]⟩), .int .i64 (if l then 2 else E)]) ∧ w.grownBy w' none := by
  have hB := Blk.new w 45 #[.bool l, .string s, sv]
  have hG := only_alloc (World.grownBy.refl w none) (.cells #[.bool l, .string s, sv] 45)
  have HU := Lib.hid hU; have HG := Lib.hid hG
  clear hU hG
  obtain ⟨m, hm⟩ : ∃ m, (if l = false ∧ E = 0 then v else ⟨#[]⟩) = m := ⟨_, rfl⟩
  rw [hm]
  have HM := Lib.hid hm
  clear hm
  cases l with
  | true =>
    obtain rfl : ⟨#[]⟩ = m := HM.out
    rw [show (if true = true then (2 : Int) else E) = 2 from rfl]
    clear HU HM
    go_enter Tryz.func148, Tryz.ntmps148
    go_upto_region 1 with (fail)
    obtain ⟨b, hb⟩ : ∃ b, w.heap.size = b := ⟨_, rfl⟩
    rw [hb] at hB ⊢
    generalize w.alloc (.cells #[.bool true, .string s, sv] 45) = W1 at *
    have c0 := hB.cell 0
    simp only [List.getElem?_toArray, List.getElem?_cons_zero, List.getElem?_cons_succ] at c0
    go_wp2_with fail
    go_ret2
    exact ⟨rfl, HG.out⟩
  | false =>
    rw [show (if false = true then (2 : Int) else E) = E from rfl]
    go_enter Tryz.func148, Tryz.ntmps148
    go_upto_region 1 with (fail)
    obtain ⟨b, hb⟩ : ∃ b, w.heap.size = b := ⟨_, rfl⟩
    rw [hb] at hB ⊢
    generalize w.alloc (.cells #[.bool false, .string s, sv] 45) = W1 at *
    have c0 := hB.cell 0; have c1 := hB.cell 1
    simp only [List.getElem?_toArray, List.getElem?_cons_zero, List.getElem?_cons_succ] at c0 c1
    go_wp2_with fail
    refine (HU.out _ HG.out).mono ?_
    rintro e w3 ⟨rfl, hw3⟩
    rw [hw3]
    clear hw3 c0 c1 hB HU
    by_cases h0 : E = 0
    · subst h0
      obtain rfl : v = m := HM.out
      clear HM
      go_wp2_with fail
      go_ret2
      exact ⟨rfl, HG.out⟩
    · have g1 : (E != 0) = true := by simpa using h0
      obtain rfl : ⟨#[]⟩ = m := by have := HM.out; rwa [if_neg (fun h => h0 h.2)] at this
      clear HM
      go_wp2_with fail
      go_ret2
      exact ⟨rfl, HG.out⟩
def textE (n : Nat) (least most : Int) : Int := if (n : Int) < least then 3 else if most < (n : Int) then 5 else 0
set_option maxRecDepth 100000 in
set_option maxHeartbeats 1000000 in
theorem getText1_any (s : ByteArray) (ga gb : Nat) (least most : Int) (W : World) (h1 : W.cell? ⟨ga, 0, none⟩ = some (.int .i64 least)) (h2 : W.cell? ⟨gb, 0, none⟩ = some (.int .i64 most)) :
    Calls Tryz.prog 149 #[.string s, .pointer (some ⟨ga, 0, none⟩), .pointer (some ⟨gb, 0, none⟩)] W fun e w' => e = .returned (.tuple #[.string s, .int .i64 (textE s.size least most)]) ∧ w' = W := by
  have hw := fun V => within_any (s.size : Int) least most V
  obtain ⟨E, hE⟩ : ∃ E, textE s.size least most = E := ⟨_, rfl⟩
  unfold textE at hE
  rw [hE] at hw
  rw [show textE s.size least most = E from hE]
  have HW := Lib.hid hw
  clear hw hE
  go_enter Tryz.func149, Tryz.ntmps149
  go_wp2_with fail
  refine (HW.out _).mono ?_
  rintro e w3 ⟨rfl, hw3⟩
  rw [hw3]
  clear hw3
  go_wp2_with fail
  go_ret2
  exact ⟨rfl, rfl⟩
set_option maxRecDepth 100000 in
set_option maxHeartbeats 1000000 in
theorem getText_any (l : Bool) (s : ByteArray) (sv : Value) (least most : Int) (w : World) :
    Calls Tryz.prog 131 #[.agg #[.bool l, .string s, sv], .int .i64 least, .int .i64 most] w fun e w' => e = .returned (.tuple #[.string (if l = false ∧ textE s.size least most = 0 then s else ⟨#[]⟩), .int .i64 (if l then 2 else textE s.size least most)]) ∧ w.grownBy w' none := by
  have hG := only_alloc (only_alloc (only_alloc (World.grownBy.refl w none) (.cells #[.bool l, .string s, sv] 45)) (.cells #[.int .i64 least] 3)) (.cells #[.int .i64 most] 3)
  have hB1 := Blk.new (w.alloc (.cells #[.bool l, .string s, sv] 45)) 3 #[.int .i64 least]
  have hB1 := hB1.alloc (.cells #[.int .i64 most] 3)
  have hB2 := Blk.new ((w.alloc (.cells #[.bool l, .string s, sv] 45)).alloc (.cells #[.int .i64 least] 3)) 3 #[.int .i64 most]
  rw [World.size_alloc] at hB1
  rw [World.size_alloc, World.size_alloc] at hB2
  have ho := fun V (hV1 : Blk V (w.heap.size + 1) 3 #[.int .i64 least]) (hV2 : Blk V (w.heap.size + 1 + 1) 3 #[.int .i64 most]) => ofText_any ⟨w.heap.size + 1, 0, none⟩ ⟨w.heap.size + 1 + 1, 0, none⟩ l s sv V (textE s.size least most) s (fun U hU => getText1_any s (w.heap.size + 1) (w.heap.size + 1 + 1) least most U ((hV1.grown hU (by simp)).cell 0) ((hV2.grown hU (by simp)).cell 0))
  obtain ⟨m, hm⟩ : ∃ m, (if l = false ∧ textE s.size least most = 0 then s else ⟨#[]⟩) = m := ⟨_, rfl⟩
  obtain ⟨q, hq⟩ : ∃ q, (if l then 2 else textE s.size least most) = q := ⟨_, rfl⟩
  rw [hm, hq] at ho
  rw [hm, hq]
  have HO := Lib.hid (ho _ hB1 hB2)
  have HG := Lib.hid hG
  clear ho hm hq hB1 hB2 hG
  go_enter Tryz.func131, Tryz.ntmps131
  go_wp2_with fail
  refine HO.out.mono ?_
  rintro e w3 ⟨rfl, hg3⟩
  have HG3 := Lib.hid (grown_self HG.out hg3 (by simp))
  clear hg3 HO
  go_wp2_with fail
  go_ret2
  exact ⟨rfl, HG3.out⟩
end Go.Proofs.YthalohloneojlaaGreatDoor
/- A word as an item, and read again; a list's items. -/
namespace Go.Proofs.YthalohloneojlaaGreatDoor
open Go.RowKit Go.Shelf
set_option linter.unusedVariables false
set_option linter.unusedSimpArgs false

abbrev wZ : Array Value := #[.int .u64 0, .int .u64 0, .int .u64 0, .int .u64 0]
theorem only_set4 {a W : World} {b : Nat} (h : a.grownBy W none) (hb : a.heap.size ≤ b) (x y z u : Value) : a.grownBy ((((W.setCell ⟨b, 0, none⟩ x).setCell ⟨b, 1, none⟩ y).setCell ⟨b, 2, none⟩ z).setCell ⟨b, 3, none⟩ u) none :=
  only_set (only_set (only_set (only_set h (p := ⟨b, 0, none⟩) hb x) (p := ⟨b, 1, none⟩) hb y) (p := ⟨b, 2, none⟩) hb z) (p := ⟨b, 3, none⟩) hb u
theorem blk_set4 {W : World} {b : Nat} {t : TypeId} {p q r s : Value} (h : Blk W b t #[p, q, r, s]) (x y z u : Value) : Blk ((((W.setCell ⟨b, 0, none⟩ x).setCell ⟨b, 1, none⟩ y).setCell ⟨b, 2, none⟩ z).setCell ⟨b, 3, none⟩ u) b t #[x, y, z, u] :=
  (((h.set_ 0 x).set_ 1 y).set_ 2 z).set_ 3 u

set_option maxRecDepth 100000 in
set_option maxHeartbeats 1000000 in
theorem getList_any (l : Bool) (s : ByteArray) (A : Option Addr) (n c : Nat) (least most : Int) (w : World) :
    Calls Tryz.prog 60 #[.agg #[.bool l, .string s, .slice A n c], .int .i64 least, .int .i64 most] w fun e w' => e = .returned (.tuple #[if l = true ∧ textE n least most = 0 then .slice A n c else .slice none 0 0, .int .i64 (if l then textE n least most else 2)]) ∧ w.grownBy w' none := by
  have hB := Blk.new w 45 #[.bool l, .string s, .slice A n c]
  have HG := Lib.hid (only_alloc (World.grownBy.refl w none) (.cells #[.bool l, .string s, .slice A n c] 45))
  cases l with
  | false =>
    rw [show (if false = true ∧ textE n least most = 0 then Value.slice A n c else .slice none 0 0) = .slice none 0 0 from if_neg (by simp), show (if false = true then textE n least most else 2) = 2 from rfl]
    go_enter Tryz.func60, Tryz.ntmps60
    go_upto_region 1 with (fail)
    obtain ⟨b, hb⟩ : ∃ b, w.heap.size = b := ⟨_, rfl⟩
    rw [hb] at hB ⊢
    generalize w.alloc (.cells #[.bool false, .string s, .slice A n c] 45) = W1 at *
    have c0 := hB.cell 0
    simp only [List.getElem?_toArray, List.getElem?_cons_zero, List.getElem?_cons_succ] at c0
    go_wp2_with fail
    go_ret2
    exact ⟨rfl, HG.out⟩
  | true =>
    have hw := fun V => within_any (n : Int) least most V
    obtain ⟨E, hE⟩ : ∃ E, textE n least most = E := ⟨_, rfl⟩
    rw [show (if true = true then textE n least most else 2) = textE n least most from rfl, hE]
    obtain ⟨m, hm⟩ : ∃ m, (if true = true ∧ E = 0 then Value.slice A n c else .slice none 0 0) = m := ⟨_, rfl⟩
    rw [hm]
    unfold textE at hE
    rw [hE] at hw
    have HW := Lib.hid hw; have HM := Lib.hid hm
    clear hw hm hE
    go_enter Tryz.func60, Tryz.ntmps60
    go_upto_region 1 with (fail)
    obtain ⟨b, hb⟩ : ∃ b, w.heap.size = b := ⟨_, rfl⟩
    rw [hb] at hB ⊢
    generalize w.alloc (.cells #[.bool true, .string s, .slice A n c] 45) = W1 at *
    have c0 := hB.cell 0; have c2 := hB.cell 2
    simp only [List.getElem?_toArray, List.getElem?_cons_zero, List.getElem?_cons_succ] at c0 c2
    go_wp2_with fail
    refine (HW.out _).mono ?_
    rintro e w3 ⟨rfl, hw3⟩
    rw [hw3]
    clear hw3
    by_cases h0 : E = 0
    · subst h0
      have hm : Value.slice A n c = m := HM.out
      clear HM
      go_wp2_with fail
      go_ret2
      exact ⟨by rw [← hm]; rfl, HG.out⟩
    · have g1 : (E != 0) = true := by simpa using h0
      have hm : Hid (Value.slice none 0 0 = m) := Lib.hid (by have := HM.out; rwa [if_neg (fun h => h0 h.2)] at this)
      clear HM
      go_wp2_with fail
      go_ret2
      exact ⟨by rw [← hm.out]; rfl, HG.out⟩

end Go.Proofs.YthalohloneojlaaGreatDoor
