/- Wrappers, the document's: Put. -/
import Derived.Test.YtdflihfecfmpfaaDoorWrpS
import Derived.Test.YtdflihfecfmpfaaDoorWrpG
import Derived.Test.YtdflihfecfmpfaaDoorWrpC
import Derived.Test.YtdflihfecfmpfaaDoorRlpE
namespace Go.Proofs.YtdflihfecfmpfaaDoor
open Go.RowKit Go.Shelf
set_option linter.unusedVariables false
set_option linter.unusedSimpArgs false

theorem bytesR_txt (x : ByteArray) (h : x.size ≤ 32768) (V : World) : Calls Tryd.prog 24 #[.agg #[.bool false, .string x, .slice none 0 0]] V fun e W' => e = .returned (.string ⟨(bytesT x).toArray⟩) ∧ V.grownBy W' none := by
  have := bytesR_item (.mk false x []) V (.slice none 0 0) (leafW V 0) (by rw [wtF_eq]; show 10 + x.size + wtL [] ≤ _; rw [wtL]; omega)
  rw [show bytesF (.mk false x []) = bytesT x by rw [bytesF_eq]; rfl] at this
  exact this

set_option maxRecDepth 100000 in
set_option maxHeartbeats 4000000 in
theorem wputR_0 (B : Nat) (A : Option Addr) (n c : Nat) (xs : List ByteArray) (w : World) (hB : B ≤ w.heap.size) (h : Reads w B 1 A n (xs.map Value.string)) (hn : n ≤ 9223372036854775807) (hs : ∀ x ∈ xs, x.size ≤ 9223372036854775807) (hE : checkW 0 xs = 0) :
    Calls Tryd.prog 12 #[.int .i64 0, .slice A n c] w fun e w' => e = .returned (.tuple #[.string ⟨(putL 0 xs).toArray⟩, .int .i64 0]) ∧ w.grownBy w' none := by
  have hl : xs.length = n := by have := h.1; simpa using this
  have HL := Lib.hid hl
  have HC := Lib.hid (wcheckR_any 0 B A n c xs w h hn hs)
  have HR := Lib.hid h; have HB := Lib.hid hB
  obtain ⟨-, k0, k64, kx, ks⟩ := checkW_0.1 hE
  have kx2 : ∀ x ∈ xs, 2 ≤ x.size ∧ x.size ≤ 32768 := fun x hx => longE_0.1 (kx x hx)
  have HX := Lib.hid kx2
  have H64 := Lib.hid (show n ≤ 64 by omega)
  rw [hE] at HC
  obtain ⟨L, hL⟩ : ∃ L, putL 0 xs = L := ⟨_, rfl⟩
  rw [hL]
  have HLL := Lib.hid hL
  have HF := Lib.hid (fun k => flat_take (v := 0) HL.out H64.out (fun x hx => (HX.out x hx).2) k)
  clear hE h hs k0 k64 kx ks kx2 hL hl hB hn
  go_enter Tryd.func12, Tryd.ntmps12
  go_wp2_with fail
  refine HC.out.mono ?_
  rintro e w1 ⟨rfl, hw1⟩
  rw [hw1]
  clear HC hw1
  go_wp2_with fail
  go_loopw [7, 8] (fun v i wr => ∃ k : Nat, i = .int .i64 k ∧ v = .string ⟨((xs.take k).flatMap (partW 0)).toArray⟩ ∧ k ≤ n ∧ w.grownBy wr none) (fun _ i _ => n - (intOf i).toNat)
  case atStart => exact ⟨0, rfl, rfl, by omega, World.grownBy.refl _ _⟩
  case round =>
    obtain ⟨k, rfl, rfl, hk, hg⟩ := hrel
    have HG := Lib.hid hg
    by_cases hlt : k < n
    · have q1 : decide ((k : Int) < (n : Int)) = true := by simp; omega
      obtain ⟨q, off, rfl, hq, hc⟩ := Reads.vals Value.string .empty (HR.out.grown hg HB.out (by simp)) hlt
      have c0 := hc k hlt
      have hmem := getD_mem (xs := xs) (k := k) (by have := HL.out; omega)
      obtain ⟨x, hx⟩ : ∃ x, xs.getD k .empty = x := ⟨_, rfl⟩
      rw [hx] at c0 hmem
      have hx2 := HX.out x hmem
      have hfk := HF.out k
      have hsn : (xs.take (k + 1)).flatMap (partW 0) = (xs.take k).flatMap (partW 0) ++ bytesT x := by rw [flat_snoc (by have := HL.out; omega), hx]; rfl
      obtain ⟨Tk, hTk⟩ : ∃ T, (xs.take k).flatMap (partW 0) = T := ⟨_, rfl⟩
      rw [hTk] at hfk hsn ⊢
      have hsum : Tk.length + (bytesT x).length ≤ 9223372036854775807 := by have := bytesT_len x (by omega); omega
      have HBR := Lib.hid (fun V => bytesR_txt x hx2.2 V)
      have HSN := Lib.hid hsn
      have hn64 := H64.out
      clear hc hx hmem hfk hsn hx2 hTk hg
      go_wp2_with fail
      refine (HBR.out _).mono ?_
      rintro e w3 ⟨rfl, hg3⟩
      have HG := Lib.hid (grown_self HG.out hg3 (by simp))
      clear hg3 HBR
      go_wp2_with fail
      exact ⟨⟨k + 1, by go_num, by rw [HSN.out, ba_cat], by omega, HG.out⟩, by simp [intOf]; omega⟩
    · have q1 : decide ((k : Int) < (n : Int)) = false := by simp; omega
      have HE : Hid ((xs.take k).flatMap (partW 0) = L) := Lib.hid (by rw [List.take_of_length_le (by have := HL.out; omega)]; exact HLL.out)
      rw [HE.out]
      clear hg
      go_wp2_with fail
      go_ret2
      exact ⟨rfl, HG.out⟩
end Go.Proofs.YtdflihfecfmpfaaDoor
