/- slices.Chunk of bytes: its parts, one behind the other. -/
import Derived.Test.YtdkijdedfpfbnaaBytes
import Derived.Test.YtdkijdedfpfbnaaRow
import Derived.Test.YtdkijdedfpfbnaaKeep
namespace Go.Proofs.Ytdkijdedfpfbnaa
open Go.RowKit Go.Shelf
attribute [local go_sem] Oper.semAt_some

/-- how many parts; one of them -/
def partsN (len n : Nat) : Nat := (len + n - 1) / n
def partEnc (g len n : Nat) (x : Nat) : Array Value := #[.slice (some ⟨g, x * n, none⟩) (min n (len - x * n)) (min n (len - x * n))]
theorem parts_lt {len n k : Nat} (hn : 1 ≤ n) : k < partsN len n ↔ k * n < len := by
  unfold partsN
  rw [Nat.lt_iff_add_one_le, Nat.le_div_iff_mul_le (by omega), Nat.add_mul, Nat.one_mul]
  omega

set_option maxRecDepth 100000 in
set_option maxHeartbeats 1000000 in
theorem chunk_any (A : Option Addr) (l c : Nat) (n : Int) (hn : 1 ≤ n) (w : World) :
    Calls Try.prog 21 #[.slice A l c, .int .i64 n] w fun e w' => e = .returned (.func (.func 33) #[] #[.pointer (some ⟨w.heap.size, 0, none⟩), .pointer (some ⟨w.heap.size + 1, 0, none⟩)]) ∧ w' = (w.alloc (.cells #[.slice A l c] 37)).alloc (.cells #[.int .i64 n] 3) := by
  go_enter Try.func21, Try.ntmps21
  go_wp2
  go_ret
  exact ⟨rfl, rfl⟩

set_option maxRecDepth 100000 in
set_option maxHeartbeats 2000000 in
theorem chunk1_in (N : Nat) (hN : 1 ≤ N) (l Bs Bn n₀ g len cap n : Nat) (hn : 1 ≤ n) (hn2 : n ≤ 1099511627776) (hlen : len ≤ 1099511627776) (hcap : len ≤ cap) (J Jx : List (Fin (partsN len n)) → World → Prop)
    (hY : ∀ pre x W, J pre W → pre.length < partsN len n → YieldAt Fence.wide (N - 1) Try.prog l (partEnc g len n x.val) W fun e W' =>
      (e = .returned (.bool true) ∧ J (pre ++ [x]) W' ∧ KeepS (fun k => k < n₀ ∨ k = Bs ∨ k = Bn) W W') ∨ (e = .returned (.bool false) ∧ Jx (pre ++ [x]) W'))
    (W : World) (hBs : W.cell? ⟨Bs, 0, none⟩ = some (.slice (some ⟨g, 0, none⟩) len cap)) (hBn : W.cell? ⟨Bn, 0, none⟩ = some (.int .i64 (n : Int))) (h0 : J [] W) (hJd : ∀ s W n, J s W → J s (W.drewN n)) :
    CallsIn Fence.wide N Try.prog 33 #[.func (.yield l) #[] #[], .pointer (some ⟨Bs, 0, none⟩), .pointer (some ⟨Bn, 0, none⟩)] W fun e W' => (∃ v, e = .returned v) ∧
      ((∃ ys, ys = List.finRange (partsN len n) ∧ J ys W') ∨ (∃ pre, pre <+: List.finRange (partsN len n) ∧ Jx pre W')) := by
  refine callsIn_of_wp Try.func33 rfl trivial ?_ rfl
  simp only [Try.ntmps33, List.size_toArray, List.length_cons, List.length_nil, Nat.reduceAdd, Nat.reduceSub, Array.replicate_succ, Array.replicate_zero, List.push_toArray, List.append_toArray, List.nil_append, List.cons_append]
  gi_wp2
  gi_loopw [4] (fun i wr => ∃ k m : Nat, i = .int .i64 (m : Int) ∧ Hid (m = k * n) ∧ k ≤ partsN len n ∧ J ((List.finRange (partsN len n)).take k) wr ∧ KeepS (fun k => k < n₀ ∨ k = Bs ∨ k = Bn) W wr) (fun i _ => len - (intOf i).toNat)
  case atStart => exact ⟨0, 0, rfl, by show 0 = 0 * n; omega, by omega, h0, KeepS.refl _ _⟩
  case round =>
    obtain ⟨k, m, rfl, hm, hk, hJ, hK⟩ := hrel
    have c1 : wr.cell? ⟨Bs, 0, none⟩ = some (.slice (some ⟨g, 0, none⟩) len cap) := (hK.cell (p := ⟨Bs, 0, none⟩) (.inr (.inl rfl))).trans hBs
    have c2 : wr.cell? ⟨Bn, 0, none⟩ = some (.int .i64 (n : Int)) := (hK.cell (p := ⟨Bn, 0, none⟩) (.inr (.inr rfl))).trans hBn
    by_cases hlt : m < len
    · have hkp : k < partsN len n := (parts_lt hn).2 (by rw [← hm.out]; exact hlt)
      have htk : (List.finRange (partsN len n)).take k ++ [⟨k, hkp⟩] = (List.finRange (partsN len n)).take (k + 1) := by
        rw [List.take_succ_eq_append_getElem (by simp; exact hkp)]
        simp
      obtain ⟨e, he⟩ : ∃ e, min n (len - m) = e := ⟨_, rfl⟩
      have d1 : decide ((m : Int) < (len : Int)) = true := by simp; exact hlt
      have d2 : min (n : Int) ((len - m : Nat) : Int) = (e : Int) := by omega
      have d3 : (m : Int) ≤ (len : Int) := by omega
      have HE := Lib.hid he
      have he1 : 0 < e := by omega
      have he2 : e ≤ len := by omega
      have he3 : m + e ≤ len := by omega
      clear he
      gi_wp2
      refine wpIn_wide.2 ?_
      go_quiet (fail)
      obtain ⟨fn, tmps, assign, body, hy, hR⟩ := hY _ ⟨k, hkp⟩ (wr.drewN nq) (hJd _ _ nq hJ) (by simp; omega)
      rw [htk] at hR
      simp only [partEnc] at hy
      rw [← hm.out, HE.out] at hy
      clear htk d2
      have d4 : (m : Int) + (e : Int) ≤ (cap : Int) := by omega
      have d6 : ((m : Int) + (e : Int)).toNat = m + e := by omega
      have d7 : m + e - m = e := by omega
      have d8 : ((m : Int) + (e : Int)) - (m : Int) = (e : Int) := by omega
      gi_wp2
      refine hR.mono ?_
      rintro e' W3 (⟨rfl, hJ3, hk3⟩ | ⟨rfl, hJx3⟩)
      · have hK3 : KeepS (fun k => k < n₀ ∨ k = Bs ∨ k = Bn) W W3 := (hK.drewN nq).trans hk3
        have c3 : W3.cell? ⟨Bn, 0, none⟩ = some (.int .i64 (n : Int)) := (hK3.cell (p := ⟨Bn, 0, none⟩) (.inr (.inr rfl))).trans hBn
        clear d1 d4 d6 d7 d8 c1 c2
        gi_wp2
        go_roundw
        case rel => exact ⟨k + 1, m + n, by simp, by have := hm.out; show m + n = (k + 1) * n; rw [Nat.add_mul, Nat.one_mul, this], hkp, hJ3, hK3⟩
        case measure => simp [intOf]; omega
      · gi_wp2
        refine bodyPost_ret (results_none rfl _ _ _) rfl ?_
        exact ⟨⟨_, rfl⟩, .inr ⟨_, List.take_prefix _ _, hJx3⟩⟩
    · have hkp : k = partsN len n := by
        have := (parts_lt (len := len) (k := k) hn).1
        have h2 := hm.out
        by_cases h : k < partsN len n
        · have := this h; omega
        · omega
      have htk : (List.finRange (partsN len n)).take k = List.finRange (partsN len n) := List.take_of_length_le (by simp; omega)
      rw [htk] at hJ
      have d1 : decide ((m : Int) < (len : Int)) = false := by simp; omega
      gi_wp2
      go_end0
      exact ⟨⟨_, rfl⟩, .inl ⟨_, rfl, hJ⟩⟩
end Go.Proofs.Ytdkijdedfpfbnaa
