/- What cut data is: plain laws of splitL0. -/
import Derived.Test.YtdkijdedfpfbnaaChaO
namespace Go.Proofs.Ytdkijdedfpfbnaa
open Go.RowKit Go.Shelf

theorem splitN_ge (len n : Nat) (hn : 1 ≤ n) : len ≤ splitN len n * n := by
  have h := parts_lt (len := len) (n := n) (k := splitN len n) hn
  have : ¬ splitN len n < partsN len n := by unfold splitN; omega
  omega
theorem splitL0_len (id : ByteArray) (d : List UInt8) (n : Nat) : (splitL0 id d n).length = splitN d.length n := by
  unfold splitL0
  rw [List.length_append, frames0_len, List.length_singleton]
  unfold splitN
  omega
theorem splitL0_at (id : ByteArray) (d : List UInt8) (n k : Nat) (hk : k < splitN d.length n) : (splitL0 id d n).getD k Frm.none_ = ⟨id, (k : Int), partB d n k, decide (k + 1 = splitN d.length n)⟩ := by
  unfold splitL0
  rw [List.getD_eq_getElem?_getD]
  obtain ⟨N, hN⟩ : ∃ N, splitN d.length n = N := ⟨_, rfl⟩
  rw [hN] at hk ⊢
  by_cases h : k < N - 1
  · rw [List.getElem?_append_left (by rw [frames0_len]; exact h), decide_eq_false (by omega)]
    unfold frames0
    rw [List.getElem?_map, List.getElem?_range h]
    rfl
  · obtain rfl : k = N - 1 := by omega
    rw [List.getElem?_append_right (by rw [frames0_len]; omega), frames0_len, Nat.sub_self, decide_eq_true (by omega)]
    rfl
theorem part_full (d : List UInt8) (n k : Nat) (hn : 1 ≤ n) (hk : k + 1 < splitN d.length n) : (partB d n k).size = n := by
  have h1 : k + 1 < partsN d.length n := by unfold splitN at hk; omega
  have h2 := (parts_lt hn).1 h1
  have h3 : (k + 1) * n = k * n + n := Nat.succ_mul _ _
  rw [← ba_len]
  show ((d.drop (k * n)).take n).length = n
  rw [List.length_take, List.length_drop]
  omega
theorem splitL0_check (id : ByteArray) (d : List UInt8) (n k : Nat) (hid : id.size = 16) (hn : n ≤ 4096) (hN : splitN d.length n ≤ 32) (hk : k < splitN d.length n) : checkF ((splitL0 id d n).getD k Frm.none_) = 0 := by
  rw [splitL0_at id d n k hk]
  unfold checkF
  have := partB_size d n k
  rw [if_neg (by simp only; omega), if_neg (by simp only; omega)]
theorem splitL0_heard (id : ByteArray) (d : List UInt8) (n : Nat) (hid : id.size = 16) (hn : n ≤ 4096) (hN : splitN d.length n ≤ 32) : heardF (splitL0 id d n) = true := by
  refine heard_yes fun k hk => ?_
  rw [splitL0_len] at hk
  unfold okAt
  rw [splitL0_check id d n k hid hn hN hk, splitL0_at id d n k hk, splitL0_at id d n 0 (by omega)]
  by_cases h0 : k = 0
  · subst h0; simp
  · rw [splitL0_at id d n (k - 1) (by omega)]
    have h1 : ¬ (k - 1 + 1 = splitN d.length n) := by omega
    have h2 : ((k - 1 : Nat) : Int) < (k : Int) := by omega
    simp only [decide_true, decide_eq_false h1, decide_eq_true h2, Bool.not_false, Bool.and_self, Bool.or_true]
theorem splitL0_whole (id : ByteArray) (d : List UInt8) (n : Nat) : wholeF (splitL0 id d n) = true := by
  have h1 : 1 ≤ splitN d.length n := by unfold splitN; omega
  unfold wholeF
  rw [splitL0_len, splitL0_at id d n _ (by omega)]
  simp only [decide_eq_true (show 0 < splitN d.length n by omega), decide_eq_true (show splitN d.length n - 1 + 1 = splitN d.length n by omega), decide_eq_true (show ((splitN d.length n - 1 : Nat) : Int) = (splitN d.length n : Int) - 1 by omega), Bool.and_self]
theorem splitL0_ready (id : ByteArray) (d : List UInt8) (n : Nat) (hid : id.size = 16) (hn : n ≤ 4096) (hN : splitN d.length n ≤ 32) : readyF (splitL0 id d n) = true := by
  unfold readyF; rw [splitL0_heard id d n hid hn hN, splitL0_whole]; rfl
theorem frames0_data (id : ByteArray) (d : List UInt8) (n m : Nat) : (frames0 id d n m).flatMap (fun f => f.data.data.toList) = d.take (m * n) := by
  induction m with
  | zero => simp [frames0]
  | succ m ih =>
    rw [frames0_succ, List.flatMap_append, ih, Nat.succ_mul, List.take_add]
    simp [partB]
theorem splitL0_data (id : ByteArray) (d : List UInt8) (n : Nat) (hn1 : 1 ≤ n) : (splitL0 id d n).flatMap (fun f => f.data.data.toList) = d := by
  have h1 : 1 ≤ splitN d.length n := by unfold splitN; omega
  have h2 := splitN_ge d.length n hn1
  unfold splitL0
  rw [List.flatMap_append, frames0_data]
  have h3 : (splitN d.length n - 1) * n + n = splitN d.length n * n := by
    rw [← Nat.succ_mul]; congr 1; omega
  have h4 : ([⟨id, ((splitN d.length n - 1 : Nat) : Int), partB d n (splitN d.length n - 1), true⟩] : List Frm).flatMap (fun f => f.data.data.toList) = (d.drop ((splitN d.length n - 1) * n)).take n := by simp [partB]
  rw [h4, ← List.take_add, h3, List.take_of_length_le h2]
theorem splitL0_join (id : ByteArray) (d : List UInt8) (n : Nat) (hn1 : 1 ≤ n) (hid : id.size = 16) (hn : n ≤ 4096) (hN : splitN d.length n ≤ 32) : joinE (splitL0 id d n) = 0 ∧ joinL (splitL0 id d n) = d := by
  have h : joinE (splitL0 id d n) = 0 := by
    unfold joinE
    rw [if_neg (by rw [splitL0_heard id d n hid hn hN]; simp), if_neg (by rw [splitL0_whole]; simp)]
  refine ⟨h, ?_⟩
  unfold joinL
  rw [if_pos h, splitL0_data id d n hn1]
/-- what Split gives when it is well -/
theorem splitE_ok {id d : ByteArray} {n : Int} (h : splitE id d n = 0) : ∃ m : Nat, n = (m : Int) ∧ 1 ≤ m ∧ m ≤ 4096 ∧ id.size = 16 ∧ splitL id d n = splitL0 id d.data.toList m ∧ splitN d.data.toList.length m ≤ 32 := by
  have hL : splitL id d n = splitL0 id d.data.toList n.toNat := by unfold splitL; rw [if_pos h]
  unfold splitE at h
  split at h
  · cases h
  rename_i h1
  split at h
  · cases h
  rename_i h2
  split at h
  · cases h
  rename_i h3
  refine ⟨n.toNat, by omega, by omega, by omega, by omega, hL, ?_⟩
  exact (splitN_le (by omega) (by rw [ba_len]; omega)).2
theorem splitL_bad {id d : ByteArray} {n : Int} (h : splitE id d n ≠ 0) : splitL id d n = [] := by unfold splitL; rw [if_neg h]
end Go.Proofs.Ytdkijdedfpfbnaa
