/- Are all there: both; frames put together: the document's. -/
import Derived.Test.YtdkijdedfpfbnaaChaC
namespace Go.Proofs.Ytdkijdedfpfbnaa
open Go.RowKit Go.Shelf

def readyF (xs : List Frm) : Bool := heardF xs && wholeF xs

set_option maxRecDepth 100000 in
set_option maxHeartbeats 1000000 in
theorem ready_any (B : Nat) (A : Option Addr) (n c : Nat) (xs : List Frm) (w : World) (hB : B ≤ w.heap.size) (h : Reads w B 4 A n (framesV xs)) (hn : n ≤ 281474976710656) :
    Calls Try.prog 19 #[.slice A n c] w fun e w' => e = .returned (.bool (readyF xs)) ∧ w.grownBy w' none := by
  have h1 := heard_any B A n c xs w hB h hn
  obtain ⟨H, hH⟩ : ∃ b, heardF xs = b := ⟨_, rfl⟩
  obtain ⟨W0, hW0⟩ : ∃ b, wholeF xs = b := ⟨_, rfl⟩
  have hr : readyF xs = (H && W0) := by unfold readyF; rw [hH, hW0]
  have h2 := fun W hR => whole_any B A n c xs W hR hn
  rw [hH] at h1
  rw [hW0] at h2
  rw [hr]
  clear hr hH hW0
  go_enter Try.func19, Try.ntmps19
  go_wp2_with fail
  refine h1.mono ?_
  rintro e w1 ⟨rfl, hg⟩
  cases H
  · go_wp2_with fail
    go_ret
    exact ⟨rfl, hg⟩
  · go_wp2_with fail
    refine (h2 w1 (h.grown hg hB (by simp))).mono ?_
    rintro e w' ⟨rfl, rfl⟩
    go_wp2_with fail
    go_ret
    exact ⟨by simp, hg⟩

set_option maxRecDepth 100000 in
set_option maxHeartbeats 1000000 in
theorem readyR_any (B : Nat) (A : Option Addr) (n c : Nat) (xs : List Frm) (w : World) (hB : B ≤ w.heap.size) (h : Reads w B 4 A n (framesV xs)) (hn : n ≤ 281474976710656) :
    Calls Try.prog 16 #[.slice A n c] w fun e w' => e = .returned (.bool (readyF xs)) ∧ w.grownBy w' none := by
  have hl : xs.length = n := by have := h.1; rw [framesV_len] at this; omega
  have h1 := heardR_any B A n c xs w hB h hn
  obtain ⟨H, hH⟩ : ∃ b, heardF xs = b := ⟨_, rfl⟩
  have hr : readyF xs = (H && (decide (0 < n) && ((xs.getD (n - 1) Frm.none_).last && decide ((xs.getD (n - 1) Frm.none_).num = (n : Int) - 1)))) := by unfold readyF wholeF; rw [hH, hl]
  rw [hH] at h1
  obtain ⟨f, hf⟩ : ∃ f, xs.getD (n - 1) Frm.none_ = f := ⟨_, rfl⟩
  rw [hf] at hr
  rw [hr]
  have HF := Lib.hid hf
  clear hr hH hf
  go_enter Try.func16, Try.ntmps16
  by_cases h0 : n = 0
  · subst h0
    clear h1
    go_wp2_with fail
    go_ret
    exact ⟨by simp, World.grownBy.refl _ _⟩
  have d0 : decide ((0 : Int) < (n : Int)) = true := by simp; omega
  have d0' : decide (0 < n) = true := by simp; omega
  have e9 : IntKind.i64.wrap ((n : Int) - 1) = (n : Int) - 1 := IntWalk.i64_in _ (by omega)
  have e8 : ((n : Int) - 1).toNat = n - 1 := by omega
  have e7 : (0 : Int) ≤ (n : Int) - 1 := by omega
  have e7' : (1 : Int) ≤ (n : Int) := by omega
  have e6 : (n : Int) - 1 < (n : Int) := by omega
  have H0 := Lib.hid h0
  have HL := Lib.hid hl
  clear h0 hl
  go_wp2_with fail
  refine h1.mono ?_
  rintro e w1 ⟨rfl, hg⟩
  cases H
  · go_wp2_with fail
    go_ret
    exact ⟨rfl, hg⟩
  · obtain ⟨b, off, rfl, hbb, hc⟩ := (h.grown hg hB (by simp)).frames (k := n - 1) (by have := H0.out; omega)
    obtain ⟨_, c1, _, c3⟩ := hc (n - 1) (by have := H0.out; omega)
    rw [HF.out] at c1 c3
    clear HF
    obtain ⟨id, num, data, last⟩ := f
    clear hc h1 h
    cases last
    · go_wp2_with fail
      go_ret
      exact ⟨by simp, hg⟩
    · go_wp2_with fail
      go_ret
      refine ⟨?_, hg⟩
      first | rfl | (rw [d0']; rfl)

/-- what frames are together; what is wrong -/
def joinE (xs : List Frm) : Int := if heardF xs = false then 2 else if wholeF xs = false then 3 else 0
def joinL (xs : List Frm) : List UInt8 := if joinE xs = 0 then xs.flatMap (fun f => f.data.data.toList) else []
theorem data_le {xs : List Frm} (h : heardF xs = true) (k : Nat) (hk : k < xs.length) : (xs.getD k Frm.none_).data.size ≤ 4096 ∧ 0 ≤ (xs.getD k Frm.none_).num ∧ (xs.getD k Frm.none_).num ≤ 65535 := by
  have := heard_at h hk
  unfold okAt at this
  simp only [Bool.and_eq_true, decide_eq_true_eq] at this
  have := check_ok this.1
  omega

set_option maxRecDepth 100000 in
set_option maxHeartbeats 1000000 in
theorem joinR_any (B : Nat) (A : Option Addr) (n c : Nat) (xs : List Frm) (w : World) (hB : B ≤ w.heap.size) (h : Reads w B 4 A n (framesV xs)) (hn : n ≤ 1000000) :
    Calls Try.prog 18 #[.slice A n c] w fun e w' => e = .returned (.tuple #[.string ⟨(joinL xs).toArray⟩, .int .i64 (joinE xs)]) ∧ w.grownBy w' none := by
  have hl : xs.length = n := by have := h.1; rw [framesV_len] at this; omega
  have h1 := fun W hB hR => heardR_any B A n c xs W hB hR (by omega)
  have h2 := fun W hB hR => readyR_any B A n c xs W hB hR (by omega)
  obtain ⟨H, hH⟩ : ∃ b, heardF xs = b := ⟨_, rfl⟩
  obtain ⟨W0, hW0⟩ : ∃ b, wholeF xs = b := ⟨_, rfl⟩
  obtain ⟨E, hE⟩ : ∃ x, joinE xs = x := ⟨_, rfl⟩
  obtain ⟨L, hLL⟩ : ∃ l : ByteArray, (⟨(joinL xs).toArray⟩ : ByteArray) = l := ⟨_, rfl⟩
  have hr : readyF xs = (H && W0) := by unfold readyF; rw [hH, hW0]
  have he : E = if H = false then 2 else if W0 = false then 3 else 0 := by rw [← hE, ← hH, ← hW0]; rfl
  have hz : E ≠ 0 → L = ⟨#[]⟩ := by intro h0; rw [← hLL]; unfold joinL; rw [if_neg (by rw [hE]; exact h0)]
  have hz0 : E = 0 → L.data.toList = xs.flatMap (fun f => f.data.data.toList) := by intro h0; rw [← hLL]; unfold joinL; rw [if_pos (by rw [hE]; exact h0)]
  have hdl : H = true → ∀ k, k < n → (xs.getD k Frm.none_).data.size ≤ 4096 := by rintro rfl k hk; exact (data_le hH k (by omega)).1
  rw [hH] at h1
  rw [hr] at h2
  rw [hE, hLL]
  have HL := Lib.hid hl; have HZ := Lib.hid hz; have HZ0 := Lib.hid hz0; have HDL := Lib.hid hdl
  clear hl hH hW0 hE hLL hr hz hz0 hdl
  go_enter Try.func18, Try.ntmps18
  go_wp2_with fail
  refine (h1 w hB h).mono ?_
  rintro e w1 ⟨rfl, hg1⟩
  cases H
  · have he2 : E = 2 := by rw [he]; rfl
    obtain rfl := HZ.out (by rw [he2]; decide)
    subst he2
    clear he
    go_wp2_with fail
    go_ret2
    exact ⟨rfl, hg1⟩
  have hB1 : B ≤ w1.heap.size := Nat.le_trans hB hg1.size
  have hR1 := h.grown hg1 hB (by simp)
  go_wp2_with fail
  refine (h2 w1 hB1 hR1).mono ?_
  rintro e w2 ⟨rfl, hg2⟩
  have hG := only_weak (grown_self hg1 hg2 (by simp)) none
  have hR2 := hR1.grown hg2 hB1 (by simp)
  cases W0
  · have he2 : E = 3 := by rw [he]; rfl
    obtain rfl := HZ.out (by rw [he2]; decide)
    subst he2
    clear he
    go_wp2_with fail
    go_ret2
    exact ⟨rfl, hG⟩
  have he2 : E = 0 := by rw [he]; rfl
  subst he2
  have hdd : ∀ k, k < n → (xs.getD k Frm.none_).data.size ≤ 4096 := by first | exact HDL.out rfl | exact HDL.out trivial
  have HDD := Lib.hid hdd
  clear he HZ h1 h2 hR1 hg1 hg2 hdd HDL h
  go_wp2_with fail
  go_loop [4, 5] (fun s i => ∃ (k : Nat) (sb : ByteArray), i = .int .i64 (k : Int) ∧ s = .string sb ∧ k ≤ n ∧ sb.size ≤ 4096 * k ∧ Hid (sb.data.toList = (xs.take k).flatMap (fun f => f.data.data.toList))) (fun _ i => n - (intOf i).toNat)
  case atStart => exact ⟨0, ⟨#[]⟩, rfl, rfl, by omega, by decide, rfl⟩
  case round =>
    obtain ⟨k, sb, rfl, rfl, hk, hsz, hs⟩ := hrel
    by_cases hlt : k < n
    · obtain ⟨b, off, rfl, hbb, hc⟩ := hR2.frames hlt
      obtain ⟨_, _, c2, _⟩ := hc k hlt
      have hst := take_snoc xs k Frm.none_ (by have := HL.out; omega)
      have hd := HDD.out k hlt
      generalize xs.getD k Frm.none_ = f at *
      have hs2 : (sb ++ f.data).data.toList = (xs.take (k + 1)).flatMap (fun f => f.data.data.toList) := by rw [ba_toList, hs.out, hst]; simp
      have hz2 : (sb ++ f.data).size ≤ 4096 * (k + 1) := by rw [← ba_len, ba_toList, List.length_append, ba_len, ba_len]; omega
      have HS := Lib.hid hs2
      obtain ⟨id, num, data, last⟩ := f
      simp only at hd c2 hz2 HS
      clear hc hst hs hs2
      go_wp2_with fail
      exact ⟨⟨k + 1, _, by simp, rfl, by omega, hz2, HS⟩, by simp [intOf]; omega⟩
    · have hsb : sb = L := ba_ext (by
        rw [hs.out, List.take_of_length_le (by have := HL.out; omega)]
        first | exact (HZ0.out rfl).symm | exact (HZ0.out trivial).symm)
      subst hsb
      have hk1 : decide ((k : Int) < (n : Int)) = false := by simp; omega
      have hk2 : decide (k < n) = false := by simp; omega
      clear hs hlt
      go_wp2_with fail
      go_ret2
      exact ⟨rfl, hG⟩
end Go.Proofs.Ytdkijdedfpfbnaa
