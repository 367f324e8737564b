/- Frames put together. -/
import Derived.Test.YtdkijdedfpfbnaaChaD
namespace Go.Proofs.Ytdkijdedfpfbnaa
open Go.RowKit Go.Shelf

theorem IsBuilder.grown_ {B b : Nat} {bs : List Value} {w w' : World} (h : Lib.IsBuilder 53 5 B b bs w) (hg : w.grownBy w' none) : Lib.IsBuilder 53 5 B b bs w' := by
  have key : ∀ p, Lib.BuilderAt 53 5 B b p bs w → Lib.BuilderAt 53 5 B b p bs w' := by
    rintro p ⟨hB, v, hh, hr, ho⟩
    have hlt : b < w.heap.size := by
      rcases Nat.lt_or_ge b w.heap.size with hl | hl
      · exact hl
      · rw [Array.getElem?_eq_none hl] at hh; cases hh
    refine ⟨hB, v, (hg.block b hlt (by simp)).trans hh, hr.kept hg ?_, ho⟩
    rcases hr.2 with ⟨rfl, _⟩ | ⟨g, cap, cur, rfl, _⟩
    · exact .inl rfl
    · exact .inr (by simp [Value.ownBlock])
  rcases h with h | h
  · exact .inl (key _ h)
  · exact .inr (key _ h)

set_option maxRecDepth 100000 in
set_option maxHeartbeats 1000000 in
theorem join_any (B : Nat) (A : Option Addr) (n c : Nat) (xs : List Frm) (w : World) (hB : B ≤ w.heap.size) (h : Reads w B 4 A n (framesV xs)) (hn : n ≤ 1000000) :
    Calls Try.prog 17 #[.slice A n c] w fun e w' => e = .returned (.tuple #[.string ⟨(joinL xs).toArray⟩, .int .i64 (joinE xs)]) ∧ Below w.heap.size w w' := by
  have hl : xs.length = n := by have := h.1; rw [framesV_len] at this; omega
  have h1 := fun W hB hR => heard_any B A n c xs W hB hR (by omega)
  have h2 := fun W hR => whole_any B A n c xs W hR (by omega)
  obtain ⟨H, hH⟩ : ∃ b, heardF xs = b := ⟨_, rfl⟩
  obtain ⟨W0, hW0⟩ : ∃ b, wholeF xs = b := ⟨_, rfl⟩
  obtain ⟨E, hE⟩ : ∃ x, joinE xs = x := ⟨_, rfl⟩
  obtain ⟨L, hLL⟩ : ∃ l : ByteArray, (⟨(joinL xs).toArray⟩ : ByteArray) = l := ⟨_, rfl⟩
  have he : E = if H = false then 2 else if W0 = false then 3 else 0 := by rw [← hE, ← hH, ← hW0]; rfl
  have hz : E ≠ 0 → L = ⟨#[]⟩ := by intro h0; rw [← hLL]; unfold joinL; rw [if_neg (by rw [hE]; exact h0)]
  have hz0 : E = 0 → L = ⟨(xs.flatMap (fun f => f.data.data.toList)).toArray⟩ := by intro h0; rw [← hLL]; unfold joinL; rw [if_pos (by rw [hE]; exact h0)]
  have hdl : H = true → ∀ k, k < n → (xs.getD k Frm.none_).data.size ≤ 4096 := by rintro rfl k hk; exact (data_le hH k (by omega)).1
  rw [hH] at h1
  rw [hW0] at h2
  rw [hE, hLL]
  have HL := Lib.hid hl; have HZ := Lib.hid hz; have HZ0 := Lib.hid hz0; have HDL := Lib.hid hdl
  clear hl hH hW0 hE hLL hz hz0 hdl
  go_enter Try.func17, Try.ntmps17
  go_wp2_with fail
  refine (h1 w hB h).mono ?_
  rintro e w1 ⟨rfl, hg1⟩
  cases H
  · have he2 : E = 2 := by rw [he]; rfl
    obtain rfl := HZ.out (by rw [he2]; decide)
    subst he2
    clear he
    go_wp2_with fail
    go_ret2
    exact ⟨rfl, below_of_grown hg1⟩
  have hB1 : B ≤ w1.heap.size := Nat.le_trans hB hg1.size
  have hR1 := h.grown hg1 hB (by simp)
  go_wp2_with fail
  refine (h2 w1 hR1).mono ?_
  rintro e w' ⟨rfl, rfl⟩
  cases W0
  · have he2 : E = 3 := by rw [he]; rfl
    obtain rfl := HZ.out (by rw [he2]; decide)
    subst he2
    clear he
    go_wp2_with fail
    go_ret2
    exact ⟨rfl, below_of_grown hg1⟩
  have he2 : E = 0 := by rw [he]; rfl
  subst he2
  have hdd : ∀ k, k < n → (xs.getD k Frm.none_).data.size ≤ 4096 := by first | exact HDL.out rfl | exact HDL.out trivial
  have hL0 : L = ⟨(xs.flatMap (fun f => f.data.data.toList)).toArray⟩ := by first | exact HZ0.out rfl | exact HZ0.out trivial
  have HDD := Lib.hid hdd; have HL0 := Lib.hid hL0
  have hbel0 := below_of_grown hg1
  clear he HZ HZ0 h1 h2 hg1 hdd HDL h hL0
  have hbn := builder_new w1
  have hbel1 : Below w.heap.size w (w1.alloc (.cells #[.pointer none, .slice none 0 0] 53)) := hbel0.alloc hbel0.size _
  have hR2 := hR1.alloc hB1 (.cells #[.pointer none, .slice none 0 0] 53)
  go_wp2_with fail
  generalize hw2 : w1.alloc (.cells #[.pointer none, .slice none 0 0] 53) = w2 at *
  have hsz2 : w1.heap.size + 1 = w2.heap.size := by rw [← hw2]; simp
  have hsz1 := hbel0.size
  clear hw2 hbel0 hR1
  generalize w1.heap.size = g at *
  go_loopw [17] (fun i wr => ∃ k : Nat, i = .int .i64 (k : Int) ∧ k ≤ n ∧ Lib.IsBuilder 53 5 g g (Lib.byteCells ((xs.take k).flatMap (fun f => f.data.data.toList))) wr ∧ Hid (((xs.take k).flatMap (fun f => f.data.data.toList)).length ≤ 4096 * k) ∧ Below g w2 wr) (fun i _ => n - (intOf i).toNat)
  case atStart => exact ⟨0, rfl, by omega, hbn, by show 0 ≤ _; omega, Below.refl _ _⟩
  case round =>
    clear hbn
    obtain ⟨k, rfl, hk, hb, hbl, hbel⟩ := hrel
    have hsz := hbel.size
    by_cases hlt : k < n
    · obtain ⟨b, off, rfl, hbb, hc⟩ := (hR2.keep (w' := wr) (fun p hp => hbel.cell (by omega))).frames hlt
      obtain ⟨c0, c1, c2, c3⟩ := hc k hlt
      have hst := take_snoc xs k Frm.none_ (by have := HL.out; omega)
      have hd := HDD.out k hlt
      generalize xs.getD k Frm.none_ = f at *
      have hst2 : (xs.take (k + 1)).flatMap (fun f => f.data.data.toList) = (xs.take k).flatMap (fun f => f.data.data.toList) ++ f.data.data.toList := by rw [hst]; simp
      have hst3 : Lib.byteCells ((xs.take (k + 1)).flatMap (fun f => f.data.data.toList)) = Lib.byteCells ((xs.take k).flatMap (fun f => f.data.data.toList)) ++ Lib.strCells f.data := by rw [hst2, byteCells_append, strCells_eq]
      have hln : ((xs.take (k + 1)).flatMap (fun f => f.data.data.toList)).length ≤ 4096 * (k + 1) := by
        rw [hst2, List.length_append, ba_len]; have := hbl.out; omega
      have HS := Lib.hid hst3; have HLN := Lib.hid hln
      obtain ⟨id, num, data, last⟩ := f
      simp only at hd HS
      clear hc hst hst2 hst3 hln
      have hga : wr.grownBy (wr.alloc (.cells #[.string id, .int .i64 num, .string data, .bool last] 30)) none := only_alloc (World.grownBy.refl _ _) _
      have hb2 := IsBuilder.grown_ hb hga
      have hbel2 : Below g w2 (wr.alloc (.cells #[.string id, .int .i64 num, .string data, .bool last] 30)) := hbel.alloc (by omega) _
      have hle : (Lib.byteCells ((xs.take k).flatMap (fun f => f.data.data.toList))).length + data.size ≤ 140737488355328 := by rw [Lib.byteCells_length]; have := hbl.out; omega
      have hgs : g ≤ (wr.alloc (.cells #[.string id, .int .i64 num, .string data, .bool last] 30)).heap.size := by simp; omega
      have hws := writeString_any g g _ data _ hb2 hle hgs
      clear hb hga hb2 hle hgs hbl
      go_wp2_with fail
      refine hws.mono ?_
      rintro e w3 ⟨rfl, hb3, hbel3⟩
      rw [← HS.out] at hb3
      have hbel4 : Below g w2 w3 := hbel2.trans hbel3
      clear hbel2 hbel3 hbel hws
      go_wp2_with fail
      go_roundw
      case rel => exact ⟨k + 1, by simp, by omega, hb3, HLN.out, hbel4⟩
      case measure => simp [intOf]; omega
    · have ht : xs.take k = xs := List.take_of_length_le (by have := HL.out; omega)
      rw [ht] at hb
      have hfin : decide ((k : Int) < (n : Int)) = false := by simp; omega
      have hfin2 : decide (k < n) = false := by simp; omega
      have hbs := builderString_any g g _ wr hb (by omega)
      rw [← HL0.out] at hbs
      clear ht hb hbl
      go_wp2_with fail
      refine hbs.mono ?_
      rintro e w3 ⟨rfl, hbel2⟩
      go_wp2_with fail
      go_ret2
      refine ⟨rfl, (hbel1.trans (hbel.mono (by omega))).trans (hbel2.mono (by omega))⟩
end Go.Proofs.Ytdkijdedfpfbnaa
