/- Merged: CgJ3, CgK0, CgK1, BitsX, BitsY, CgK2, CgK3, CpA. -/
import Derived.Test.YtgclnikdkfpflaaGreatDoorMt1
import Derived.Test.YtgclnikdkfpflaaGreatDoorMt12
import Derived.Test.YtgclnikdkfpflaaGreatDoorMt14
import Derived.Test.YtgclnikdkfpflaaGreatDoorMt16
import Derived.Test.YtgclnikdkfpflaaGreatDoorMt21
namespace Go.Proofs.YtgclnikdkfpflaaGreatDoor
open Go.RowKit Go.Shelf
open List renaming set_cons_zero → jz, set_cons_succ → js, setIfInBounds_toArray → jb
set_option linter.unusedVariables false
set_option linter.unusedSimpArgs false
set_option maxRecDepth 100000
set_option maxHeartbeats 16000000
theorem restR_ok {s : ByteArray} {a T : Nat} {E : Int} {zs : List Itm} (h : restR s a E = .ok (zs, T)) : E = 0 ∧ zs.length = 3 + kdV s a E := by
 unfold restR at h
 split at h
 ·cases h
 ·rename_i h0
  have hE : E = 0 := by
   by_cases hE : E = 0
   ·exact hE
   ·exact absurd (show kdE s a E ≠ 0 by unfold kdE; rw [if_pos hE]; exact hE) h0
  split at h
  ·cases h
  ·split at h
   ·cases h
   ·rename_i h1
    split at h
    ·cases h
    ·cases h
     refine ⟨hE, ?_⟩
     have h2 := textE_fit (rwE_0 (show rwE _ _ _ _ 0 = 0 from Classical.not_not.1 h1)).2.2
     omega
theorem restR_bad {s : ByteArray} {a : Nat} {E : Int} (hE : E ≠ 0) : restR s a E = .error E := by
 have h : kdE s a E = E := by unfold kdE; rw [if_pos hE]
 unfold restR
 rw [h, if_pos hE]
theorem AccQ.weak {o o' n : Nat} {u : World} {ls : List AccV} {A : Option Addr} (h : AccQ o u ls A n) (ho : o' ≤ o) : AccQ o' u ls A n := by
 refine ⟨h.1, fun h0 => ?_⟩
 obtain ⟨g, off, h1, h2, h3, h4⟩ := h.2 h0
 refine ⟨g, off, h1, Nat.le_trans ho h2, h3, fun i hi => ?_⟩
 obtain ⟨T, tc, a, b, c, d⟩ := h4 i hi
 exact ⟨T, tc, a, b, c.weak fun g hg => Nat.le_trans ho hg, d⟩
theorem getD_snoc_lt {α : Type} (ts : List α) (t d : α) {i : Nat} (h : i < ts.length) : (ts ++ [t]).getD i d = ts.getD i d := by
 rw [List.getD_eq_getElem?_getD, List.getD_eq_getElem?_getD, List.getElem?_append_left h]
theorem getD_snoc_at {α : Type} (ts : List α) (t d : α) {i : Nat} (h : ts.length = i) : (ts ++ [t]).getD i d = t := by
 subst h
 simp [List.getD_eq_getElem?_getD]
theorem gotT_acc (kd : Nat) (zs : List Itm) (y R S : Nat) (d : ByteArray) : (gotT kd zs y R S d).acc = (gotA kd zs).1 := rfl
theorem GetS.next {wG u u' : World} {s signs : ByteArray} {r sg l n k a sa yv R S : Nat} {d : ByteArray} {E SE : Int} {C : Array Value} {ks : List Nat} {ts : List TxV} {e : Ending} (h : GetS wG s signs r sg l n k a sa E SE C (txL (blankT yv R S d) (.slice none 0 0) (.slice none 0 0)) ks ts u) (hk : k < n)
  (he : RestEnd s a E r l (36 * k) C u e u') : e = .returned (.tuple #[]) ∧ ∃ a' E' C' ts', GetS wG s signs r sg l n (k + 1) a' sa E' SE C' blankL (ks ++ [kdV s a E]) ts' u' ∧ C'[36 * k]? = some (.int .i64 ((kdV s a E : Nat) : Int)) ∧
   ((E' ≠ 0 ∧ restR s a E = .error E' ∧ ts' = ts) ∨ (∃ zs, E' = 0 ∧ restR s a E = .ok (zs, a') ∧ ts' = ts ++ [gotT (kdV s a E) zs yv R S d])) := by
 obtain ⟨a', E', C', rfl, hrd, ha', hrow, hsz, hfar, hkd, hg, hE⟩ := he
 refine ⟨rfl, ?_⟩
 have hlk := h.lk
 have hrl := h.rl; have hll := h.ll; have hgs := h.gr.size
 have hcell : ∀ (p : Addr) v, wG.heap.size ≤ p.block → u.cell? p = some v → u'.cell? p = some v := fun p v hp hv => hg.cell hv (by omega) (by omega)
 have base : ∀ ts', (E' = 0 → ts'.length = k + 1) → (E' = 0 → ∀ i, i < k + 1 → ∃ sl, Win C' (36 * i) (txL (ts'.getD i TxV.zero) sl (.slice none 0 0)) ∧ SlQ wG.heap.size u' (ts'.getD i TxV.zero) sl ∧ (ts'.getD i TxV.zero).kind = (((ks ++ [kdV s a E]).getD i 0 : Nat) : Int)) →
   GetS wG s signs r sg l n (k + 1) a' sa E' SE C' blankL (ks ++ [kdV s a E]) ts' u' := fun ts' h1 h2 =>
  ⟨hrd, (hg.block sg h.sd.lt (fun e => h.rg e.symm) h.gw).trans h.sd, hrow, h.gr.rest hg, h.rl, h.gl, h.ll, h.rg, h.rw, h.gw, ha', h.hsa, hsz.trans h.size, hk, by simp [hlk], h1,
   fun i hi => by
    by_cases hik : i < k
    ·rw [hfar _ (.inl (by omega)), h.kind i hik, getD_snoc_lt _ _ _ (by omega)]
    ·obtain rfl : i = k := by omega
     rw [hkd, getD_snoc_at _ _ _ hlk],
   h2, rfl, fun hk1 f hf => (hfar _ (.inr (by omega))).trans (h.blank (k + 1) (by omega) hk1 f hf), fun i h3 h4 f hf => (hfar _ (.inr (by omega))).trans (h.blank i (by omega) h4 f hf)⟩
 rcases hE with ⟨hne, hR⟩ | ⟨zs, T, A, c, vs, rfl, hR, rfl, rfl, hacc⟩
 ·exact ⟨a', E', C', ts, base ts (fun e => absurd e hne) (fun e => absurd e hne), hkd, .inl ⟨hne, hR, rfl⟩⟩
 ·obtain ⟨hE0, hlen⟩ := restR_ok hR
  have hlt := h.lt hE0
  refine ⟨a', 0, _, ts ++ [gotT (kdV s a E) zs yv R S d], base _ (fun _ => by simp [hlt]) (fun _ i hi => ?_), hkd, .inr ⟨zs, rfl, hR, rfl⟩⟩
  by_cases hik : i < k
  ·rw [getD_snoc_lt _ _ _ (by omega), getD_snoc_lt _ _ _ (by omega)]
   obtain ⟨sl, w1, w2, w3⟩ := h.good hE0 i hik
   exact ⟨sl, fun f hf => (hfar _ (.inl (by omega))).trans (w1 f hf), w2.keep hg.size hcell, w3⟩
  ·obtain rfl : i = k := by omega
   rw [getD_snoc_at _ _ _ hlt, getD_snoc_at _ _ _ hlk]
   refine ⟨_, got_win (kdV s a E) zs yv R S d C (36 * i) (.slice A (gotA (kdV s a E) zs).1.length c) (kdV_le s a E) hlen (h.win hk), ?_, rfl⟩
   by_cases h0 : kdV s a E = 0
   ·rw [if_pos h0]
    have hz : (gotT (kdV s a E) zs yv R S d).acc = [] := by rw [gotT_acc]; unfold gotA; rw [if_pos h0]
    exact ⟨none, 0, by rw [hz]; rfl, by rw [hz]; exact ⟨rfl, fun h => absurd h (Nat.lt_irrefl _)⟩⟩
   ·rw [if_neg h0]
    exact ⟨A, c, rfl, (hacc h0).toQ.weak hgs⟩
theorem tkE_0 {s : ByteArray} {a n : Nat} {E : Int} (h : tkE s a n E = 0) : E = 0 ∧ a + n ≤ s.size := by
 unfold tkE at h
 split at h
 ·split at h
  ·cases h
  ·rename_i h1 h2; exact ⟨h1, by omega⟩
 ·rename_i h1; exact absurd h h1
theorem tkS_full {s : ByteArray} {a n : Nat} {E : Int} (h : tkE s a n E = 0) : (tkS s a n E).size = n := by
 have := (tkE_0 h).2
 unfold tkS
 rw [if_pos h, ByteArray.size_extract]
 omega
def InvG (s sgs : ByteArray) (nl yl : List Bool) (n k ak sa : Nat) (Ek SE E4 : Int) (ts : List TxV) (tk : ByteArray) (R0 : Except Int (List TxV × Nat)) : Prop :=
 (Ek = 0 ∧ SE = 0 ∧ sa = 64 * k ∧ E4 = 0 ∧ R0 = glueT ts (getGo s sgs nl yl (n - k) k ak tk)) ∨ (Ek ≠ 0 ∧ R0 = .error Ek)
theorem InvG.step {s sgs : ByteArray} {nl yl : List Bool} {n k ak sa a' sa2 yv R S2 : Nat} {Ek SE E4 E' SE2 : Int} {ts ts' : List TxV} {tk tk2 dv : ByteArray} {R0 : Except Int (List TxV × Nat)} (h : InvG s sgs nl yl n k ak sa Ek SE E4 ts tk R0) (hk : k < n) (hsz : E4 = 0 → sgs.size = 64 * n)
  (hR : wdN sgs sa SE = R) (hS2 : wdN sgs (tkA sgs sa 32 SE) (tkE sgs sa 32 SE) = S2) (hsa2 : tkA sgs (tkA sgs sa 32 SE) 32 (tkE sgs sa 32 SE) = sa2) (hSE2 : tkE sgs (tkA sgs sa 32 SE) 32 (tkE sgs sa 32 SE) = SE2) (hyv : (if yl.getD k false then 1 else 0) = yv)
  (htk2 : (if nl.getD k false = false ∧ 20 ≤ tk.size then tk.extract 20 tk.size else tk) = tk2) (hdv : (if nl.getD k false = false ∧ 20 ≤ tk.size then tk.extract 0 20 else ⟨#[]⟩) = dv)
  (hE : (E' ≠ 0 ∧ restR s ak Ek = .error E' ∧ ts' = ts) ∨ (∃ zs, E' = 0 ∧ restR s ak Ek = .ok (zs, a') ∧ ts' = ts ++ [gotT (kdV s ak Ek) zs yv R S2 dv])) :
  InvG s sgs nl yl n (k + 1) a' sa2 E' SE2 E4 ts' tk2 R0 := by
 rcases h with ⟨rfl, rfl, rfl, h4, hR0⟩ | ⟨h1, h2⟩
 ·obtain ⟨m, hm⟩ : ∃ m, n - k = m + 1 := ⟨n - k - 1, by omega⟩
  have hm2 : n - (k + 1) = m := by omega
  rw [hm] at hR0
  obtain ⟨x1, x2, x3, x4⟩ := tk_two (hsz h4) hk
  rw [x1, x2] at hS2 hsa2 hSE2
  rw [x4] at hsa2
  rw [x3] at hSE2
  rcases hE with ⟨e1, e2, e3⟩ | ⟨zs, e1, e2, e3⟩
  ·rw [getGo_bad e2] at hR0
   exact .inr ⟨e1, hR0⟩
  ·rw [getGo_good e2, glueT_snoc, hR, hS2, hyv, htk2, hdv] at hR0
   refine .inl ⟨e1, hSE2.symm, hsa2.symm, h4, ?_⟩
   rw [hm2, e3]
   exact hR0
 ·rw [restR_bad h1] at hE
  rcases hE with ⟨e1, e2, e3⟩ | ⟨zs, e1, e2, e3⟩
  ·cases e2
   exact .inr ⟨h1, h2⟩
  ·cases e2
theorem count_snoc (ks : List Nat) (x : Nat) : (ks ++ [x]).count 0 = ks.count 0 + if x = 0 then 1 else 0 := by
 rw [List.count_append]
 by_cases h : x = 0
 ·subst h; simp
 ·rw [if_neg h]; simp [List.count_cons, h]
theorem unrowGo_len (l : List UInt8) : ∀ k a, (unrowGo l k a).2.2 = 0 → (unrowGo l k a).1.length = k ∧ ∀ x ∈ (unrowGo l k a).1, 0 ≤ x ∧ x < 18446744073709551616
 | 0, a, _ => ⟨rfl, fun x h => by simp [unrowGo] at h⟩
 | k + 1, a, h => by
  rw [unrowGo] at h ⊢
  simp only at h ⊢
  split at h
  ·rename_i h1; exact absurd h h1
  ·rename_i h1
   rw [if_neg h1]
   split at h
   ·rename_i h2; exact absurd h h2
   ·rename_i h2
    rw [if_neg h2]
    obtain ⟨g1, g2⟩ := unrowGo_len l k _ (Classical.not_not.1 h2)
    refine ⟨by simp [g1], fun x hx => ?_⟩
    rcases List.mem_cons.1 hx with rfl | hx
    ·have := (unvarS l (a : Int)).1.isLt
     constructor <;> omega
    ·exact g2 x hx
theorem nuL_facts (s : ByteArray) (a n : Nat) (E : Int) (ha : a ≤ s.size) (hn : n ≤ 4096) : (nuL s a n E).length = n ∧ ∀ x ∈ nuL s a n E, 0 ≤ x ∧ x < 18446744073709551616 := by
 unfold nuL
 split
 ·rename_i h
  unfold nuE at h
  split at h
  ·have hl := ba_len s
   unfold unrowS at h ⊢
   rw [if_neg (by omega)] at h ⊢
   simp only [Int.toNat_natCast] at h ⊢
   exact unrowGo_len _ _ _ h
  ·rename_i h1; exact absurd h h1
 ·exact ⟨by simp, fun x hx => by rw [List.eq_of_mem_replicate hx]; constructor <;> omega⟩
def nuN (s : ByteArray) (a n : Nat) (E : Int) : List Nat := (nuL s a n E).map Int.toNat
theorem nuN_facts (s : ByteArray) (a n : Nat) (E : Int) (ha : a ≤ s.size) (hn : n ≤ 4096) : (nuN s a n E).length = n ∧ (∀ x ∈ nuN s a n E, x < 18446744073709551616) ∧ nuL s a n E = (nuN s a n E).map (fun (x : Nat) => (x : Int)) := by
 obtain ⟨h1, h2⟩ := nuL_facts s a n E ha hn
 refine ⟨by simp [nuN, h1], fun x hx => ?_, ?_⟩
 ·obtain ⟨y, hy, rfl⟩ := List.mem_map.1 hx
  have := h2 y hy; omega
 ·unfold nuN
  rw [List.map_map]
  conv => lhs; rw [← List.map_id (nuL s a n E)]
  exact List.map_congr_left fun x hx => by have := h2 x hx; simp; omega
def fillT (chain : Nat) (t : TxV) (no ga : Nat) (ch : Bool) : TxV := { t with nonce := no, gas := ga, chain := if ch then chain else 0 }
def fillGo (chain : Nat) : List TxV → List Nat → List Nat → List Bool → List TxV
 | [], _, _, _ => []
 | t :: ts, ns, gs, cs => if t.kind = 0 then fillT chain t (ns.headD 0) (gs.headD 0) (cs.headD false) :: fillGo chain ts ns.tail gs.tail cs.tail else fillT chain t (ns.headD 0) (gs.headD 0) true :: fillGo chain ts ns.tail gs.tail cs
theorem fillGo_len (chain : Nat) : ∀ (ts : List TxV) (ns gs : List Nat) (cs : List Bool), (fillGo chain ts ns gs cs).length = ts.length
 | [], _, _, _ => rfl
 | t :: ts, ns, gs, cs => by unfold fillGo; split <;> simp [fillGo_len chain ts]
def legN (ts : List TxV) : Nat := (ts.map TxV.kind).count 0
def lastR (s : ByteArray) (n chain : Nat) (ts : List TxV) (a : Nat) : Except Int (List TxV × Nat) :=
 if btE s (nuA s (nuA s a n 0) n (nuE s a n 0)) (legN ts) (nuE s (nuA s a n 0) n (nuE s a n 0)) ≠ 0 then .error (btE s (nuA s (nuA s a n 0) n (nuE s a n 0)) (legN ts) (nuE s (nuA s a n 0) n (nuE s a n 0)))
 else if checkCol (fillGo chain ts (nuN s a n 0) (nuN s (nuA s a n 0) n (nuE s a n 0)) (btL s (nuA s (nuA s a n 0) n (nuE s a n 0)) (legN ts) (nuE s (nuA s a n 0) n (nuE s a n 0)))) chain ≠ 0
  then .error (checkCol (fillGo chain ts (nuN s a n 0) (nuN s (nuA s a n 0) n (nuE s a n 0)) (btL s (nuA s (nuA s a n 0) n (nuE s a n 0)) (legN ts) (nuE s (nuA s a n 0) n (nuE s a n 0)))) chain)
 else .ok (fillGo chain ts (nuN s a n 0) (nuN s (nuA s a n 0) n (nuE s a n 0)) (btL s (nuA s (nuA s a n 0) n (nuE s a n 0)) (legN ts) (nuE s (nuA s a n 0) n (nuE s a n 0))), btA s (nuA s (nuA s a n 0) n (nuE s a n 0)) (legN ts) (nuE s (nuA s a n 0) n (nuE s a n 0)))
def endR (s : ByteArray) (n chain : Nat) : Except Int (List TxV × Nat) → Except Int (List TxV × Nat)
 | .error e => .error e
 | .ok (ts, a) => lastR s n chain ts a
def fixR (s : ByteArray) (n : Nat) (nl : List Bool) (A1 : Nat) (E1 : Int) : Except Int (List TxV × Nat) :=
 if tkE s (tkA s (btA s A1 n E1) (64 * n) (btE s A1 n E1)) (20 * (n - cntB nl)) (tkE s (btA s A1 n E1) (64 * n) (btE s A1 n E1)) ≠ 0 then .error (tkE s (tkA s (btA s A1 n E1) (64 * n) (btE s A1 n E1)) (20 * (n - cntB nl)) (tkE s (btA s A1 n E1) (64 * n) (btE s A1 n E1)))
 else getGo s (tkS s (btA s A1 n E1) (64 * n) (btE s A1 n E1)) nl (btL s A1 n E1) n 0 (tkA s (tkA s (btA s A1 n E1) (64 * n) (btE s A1 n E1)) (20 * (n - cntB nl)) (tkE s (btA s A1 n E1) (64 * n) (btE s A1 n E1))) (tkS s (tkA s (btA s A1 n E1) (64 * n) (btE s A1 n E1)) (20 * (n - cntB nl)) (tkE s (btA s A1 n E1) (64 * n) (btE s A1 n E1)))
def getR (s : ByteArray) (a n chain : Nat) : Except Int (List TxV × Nat) := endR s n chain (fixR s n (btL s a n 0) (btA s a n 0) (btE s a n 0))
structure RowOk (t : TxV) : Prop where
 ok : t.Ok
 aut : t.auths = []
 acc : t.acc.length ≤ 16
 kind : t.kind = 0 ∨ t.kind = 1 ∨ t.kind = 2
theorem pow256 : (256 : Nat) ^ 32 = 115792089237316195423570985008687907853269984665640564039457584007913129639936 := by decide
theorem beV_32 {l : List UInt8} (h : l.length ≤ 32) : beV l < 115792089237316195423570985008687907853269984665640564039457584007913129639936 := by
 have h1 := beV_lt l
 have h2 : (256 : Nat) ^ l.length ≤ 256 ^ 32 := Nat.pow_le_pow_right (by omega) h
 rw [pow256] at h2
 omega
theorem itW_lt (z : Itm) : itW z < 115792089237316195423570985008687907853269984665640564039457584007913129639936 := by
 unfold itW
 split
 ·rename_i h
  refine beV_32 ?_
  have h2 := h.2
  unfold parseE at h2
  split at h2
  ·cases h2
  ·omega
 ·decide
theorem wdN_lt (s : ByteArray) (a : Nat) (E : Int) : wdN s a E < 115792089237316195423570985008687907853269984665640564039457584007913129639936 := by
 unfold wdN
 split
 ·refine beV_32 ?_
  rw [ba_len]
  exact tkS_size s a 32 E
 ·decide
theorem accGo_len : ∀ (ys : List Itm) (E : Int), (accGo ys E).1.length ≤ ys.length
 | [], E => by simp [accGo]
 | y :: ys, E => by
  unfold accGo
  split
  ·simp
  ·simp only [List.length_cons]
   have := accGo_len ys (prE y)
   omega
theorem rwL_len (x : Itm) (E : Int) : (rwL 0 16 x E).length ≤ 16 := by
 unfold rwL
 split
 ·rename_i h
  have := textE_fit (rwE_0 h).2.2
  omega
 ·simp
theorem gotA_len (kd : Nat) (zs : List Itm) : (gotA kd zs).1.length ≤ 16 := by
 unfold gotA
 split
 ·simp
 ·exact Nat.le_trans (accGo_len _ _) (rwL_len _ _)
theorem gotT_ok (kd : Nat) (zs : List Itm) (y R S : Nat) (d : ByteArray) (hk : kd = 0 ∨ kd = 1 ∨ kd = 2) (hy : y ≤ 1) (hR : R < 115792089237316195423570985008687907853269984665640564039457584007913129639936) (hS : S < 115792089237316195423570985008687907853269984665640564039457584007913129639936) : RowOk (gotT kd zs y R S d) := by
 refine ⟨⟨by show (0 : Nat) < _; omega, by show (0 : Nat) < _; omega, ?_, itW_lt _, by show (0 : Nat) < _; omega, itW_lt _, by show y < _; omega, hR, hS, by show (0 : Nat) < _; omega, fun a h => by cases h⟩, rfl, gotA_len kd zs, ?_⟩
 ·show (if kd = 2 then itW (zs.getD 1 Itm.none_) else 0) < _
  split
  ·exact itW_lt _
  ·omega
 ·show ((kd : Int) = 0 ∨ (kd : Int) = 1 ∨ (kd : Int) = 2)
  omega
theorem getGo_rows {s sgs : ByteArray} {nl yl : List Bool} : ∀ {m i a b : Nat} {tos : ByteArray} {ts : List TxV}, getGo s sgs nl yl m i a tos = .ok (ts, b) → ts.length = m ∧ ∀ t ∈ ts, RowOk t
 | 0, i, a, b, tos, ts, h => by
  rw [getGo] at h; cases h; exact ⟨rfl, fun t h => by cases h⟩
 | m + 1, i, a, b, tos, ts, h => by
  rw [getGo] at h
  split at h
  ·cases h
  ·split at h
   ·cases h
   ·rename_i us c hg
    cases h
    obtain ⟨h1, h2⟩ := getGo_rows hg
    refine ⟨by simp [h1], fun t ht => ?_⟩
    rcases List.mem_cons.1 ht with rfl | ht
    ·exact gotT_ok _ _ _ _ _ _ (kdV_le _ _ _) (by split <;> omega) (wdN_lt _ _ _) (wdN_lt _ _ _)
    ·exact h2 t ht
theorem fillT_ok {chain : Nat} {t : TxV} {no ga : Nat} {ch : Bool} (h : RowOk t) (hc : chain < 18446744073709551616) (hn : no < 18446744073709551616) (hg : ga < 18446744073709551616) : RowOk (fillT chain t no ga ch) := by
 obtain ⟨⟨a1, a2, a3, a4, a5, a6, a7, a8, a9, a10, a11⟩, b, c, d⟩ := h
 refine ⟨⟨?_, hn, a3, a4, hg, a6, a7, a8, a9, a10, a11⟩, b, c, d⟩
 show (if ch then chain else 0) < _
 split
 ·exact hc
 ·omega
theorem nuE_0 {s : ByteArray} {a n : Nat} {E : Int} (h : nuE s a n E = 0) : E = 0 := by
 unfold nuE at h
 split at h
 ·assumption
 ·exact h
theorem btE_0 {s : ByteArray} {a n : Nat} {E : Int} (h : btE s a n E = 0) : E = 0 := by
 unfold btE at h
 split at h
 ·rename_i h1; exact (tkE_0 h1).1
 ·rename_i h1; exact absurd h h1
theorem unrowGo_le (l : List UInt8) : ∀ k a, a ≤ l.length → (unrowGo l k a).2.1 ≤ l.length
 | 0, a, h => h
 | k + 1, a, h => by
  rw [unrowGo]
  simp only
  split
  ·exact Nat.zero_le _
  ·rename_i h1
   split
   ·exact Nat.zero_le _
   ·have he : (unvarS l (a : Int)).2.2 = 0 := Classical.not_not.1 h1
    exact unrowGo_le l k _ (unvarS_le l a _ _ (Prod.ext rfl (Prod.ext rfl he)))
theorem nuA_le {s : ByteArray} {a n : Nat} {E : Int} (h : a ≤ s.size) : nuA s a n E ≤ s.size := by
 unfold nuA
 split
 ·have hl := ba_len s
  unfold unrowS
  split
  ·exact Nat.zero_le _
  ·rw [← hl]; exact unrowGo_le _ _ _ (by simp; omega)
 ·exact h
theorem Gr3.trans {w u v : World} {r g l : Nat} (h : Gr3 w u r g l) (h' : Gr3 u v r g l) : Gr3 w v r g l :=
 ⟨h'.os.trans h.os, h'.tape.trans h.tape, h'.output.trans h.output, Nat.le_trans h.size h'.size, fun k hk a b c => (h'.block k (Nat.lt_of_lt_of_le hk h.size) a b c).trans (h.block k hk a b c)⟩
def rowAt (us ts : List TxV) (k i : Nat) : TxV := if i < k then us.getD i TxV.zero else ts.getD i TxV.zero
structure FilS (wG : World) (o : Nat) (s : ByteArray) (r sg l n k : Nat) (a : Nat) (E : Int) (C : Array Value) (cur : Value → List Value) (ks : List Nat) (ts us : List TxV) (u : World) : Prop where
 rd : Blk u r 67 (rdC s a E)
 row : Blk u l 42 C
 gr : Gr3 wG u r sg l
 rw : r ≠ l
 ll : l < o
 size : C.size = 36 * n
 lk : ks.length = n
 kind : ∀ i, i < n → C[36 * i]? = some (.int .i64 ((ks.getD i 0 : Nat) : Int))
 lt : E = 0 → ts.length = n
 lu : E = 0 → us.length = k
 good : E = 0 → ∀ i, i < n → i ≠ k → ∃ sl, Win C (36 * i) (txL (rowAt us ts k i) sl (.slice none 0 0)) ∧ SlQ o u (rowAt us ts k i) sl ∧ (rowAt us ts k i).kind = ((ks.getD i 0 : Nat) : Int)
 cl : ∀ sl, (cur sl).length = 36
 at_ : E = 0 → k < n → ∃ sl, Win C (36 * k) (cur sl) ∧ SlQ o u (ts.getD k TxV.zero) sl ∧ (ts.getD k TxV.zero).kind = ((ks.getD k 0 : Nat) : Int)
def curT (t : TxV) : Value → List Value := fun sl => txL t sl (.slice none 0 0)
theorem FilS.of {wG u : World} {s signs : ByteArray} {r sg l n k a sa : Nat} {E SE : Int} {C : Array Value} {cur : List Value} {ks : List Nat} {ts : List TxV} (h : GetS wG s signs r sg l n k a sa E SE C cur ks ts u) (hk : k = n) : FilS u wG.heap.size s r sg l n 0 a E C (curT (ts.getD 0 TxV.zero)) ks ts [] u := by
 subst hk
 refine ⟨h.rd, h.row, Gr3.refl _ _ _ _, h.rw, h.ll, h.size, h.lk, h.kind, h.lt, fun _ => rfl, fun h0 i hi _ => ?_, fun _ => rfl, fun h0 hk => ?_⟩
 ·obtain ⟨sl, a, b, c⟩ := h.good h0 i hi
  exact ⟨sl, a, b, c⟩
 ·obtain ⟨sl, a, b, c⟩ := h.good h0 0 hk
  exact ⟨sl, a, b, c⟩
theorem FilS.kept {wG u u' : World} {o : Nat} {s : ByteArray} {r sg l n k a : Nat} {E : Int} {C : Array Value} {cur : Value → List Value} {ks : List Nat} {ts us : List TxV} (h : FilS wG o s r sg l n k a E C cur ks ts us u) (hg : u.grownBy u' none) : FilS wG o s r sg l n k a E C cur ks ts us u' :=
 { h with rd := h.rd.grown hg (by simp), row := h.row.grown hg (by simp), gr := h.gr.grown hg (fun k e => by cases e),
          good := fun h0 i hi hik => by obtain ⟨sl, a, b, c⟩ := h.good h0 i hi hik; exact ⟨sl, a, b.keep hg.size (fun p v _ hv => hg.cell hv (by simp)), c⟩,
          at_ := fun h0 hk => by obtain ⟨sl, a, b, c⟩ := h.at_ h0 hk; exact ⟨sl, a, b.keep hg.size (fun p v _ hv => hg.cell hv (by simp)), c⟩ }
theorem FilS.put {wG u : World} {o : Nat} {s : ByteArray} {r sg l n k a : Nat} {E : Int} {C : Array Value} {cur : Value → List Value} {ks : List Nat} {ts us : List TxV} (h : FilS wG o s r sg l n k a E C cur ks ts us u) (f : Nat) (vs : List Value) (hf0 : 0 < f) (hf : f + vs.length ≤ 36) (hk : k < n) :
  FilS wG o s r sg l n k a E (putA (36 * k + f) vs C) (fun sl => (cur sl).take f ++ (vs ++ (cur sl).drop (f + vs.length))) ks ts us (u.setRow l (putA (36 * k + f) vs C)) := by
 have hll := h.ll
 have hcell : ∀ (p : Addr) v, o ≤ p.block → u.cell? p = some v → (u.setRow l (putA (36 * k + f) vs C)).cell? p = some v := fun p v hp hv => setRow_cell (by omega) hv
 exact { h with
  rd := (setRow_other u l r _ h.rw).trans h.rd, row := blk_setRow h.row, gr := h.gr.setRow _, size := (putA_size _ _ _).trans h.size,
  kind := fun i hi => by
   by_cases hik : i ≤ k
   ·exact (putA_far _ _ _ _ (.inl (by omega))).trans (h.kind i hi)
   ·exact (putA_far _ _ _ _ (.inr (by omega))).trans (h.kind i hi)
  good := fun h0 i hi hik => by
   obtain ⟨sl, a, b, c⟩ := h.good h0 i hi hik
   refine ⟨sl, a.out fun j h1 h2 => ?_, b.keep (by simp) hcell, c⟩
   by_cases hlt : i < k
   ·exact putA_far _ _ _ _ (.inl (by omega))
   ·exact putA_far _ _ _ _ (.inr (by omega))
  cl := fun sl => by have := h.cl sl; simp; omega
  at_ := fun h0 hk2 => by
   obtain ⟨sl, a, b, c⟩ := h.at_ h0 hk2
   exact ⟨sl, a.put (h.cl sl) hf, b.keep (by simp) hcell, c⟩ }
theorem FilS.eqc {wG u : World} {o : Nat} {s : ByteArray} {r sg l n k a : Nat} {E : Int} {C : Array Value} {cur cur' : Value → List Value} {ks : List Nat} {ts us : List TxV} (h : FilS wG o s r sg l n k a E C cur ks ts us u) (e : ∀ sl, cur sl = cur' sl) : FilS wG o s r sg l n k a E C cur' ks ts us u := (funext e : cur = cur') ▸ h
theorem fill1 (t : TxV) (no : Nat) (sl : Value) : (txL t sl (.slice none 0 0)).take 2 ++ ([Value.int .u64 (no : Int)] ++ (txL t sl (.slice none 0 0)).drop (2 + [Value.int .u64 (no : Int)].length)) = curT { t with nonce := no } sl := rfl
theorem fill2 (t : TxV) (ga : Nat) (sl : Value) : (txL t sl (.slice none 0 0)).take 11 ++ ([Value.int .u64 (ga : Int)] ++ (txL t sl (.slice none 0 0)).drop (11 + [Value.int .u64 (ga : Int)].length)) = curT { t with gas := ga } sl := rfl
theorem fill3 (t : TxV) (ch : Nat) (sl : Value) : (txL t sl (.slice none 0 0)).take 1 ++ ([Value.int .u64 (ch : Int)] ++ (txL t sl (.slice none 0 0)).drop (1 + [Value.int .u64 (ch : Int)].length)) = curT { t with chain := ch } sl := rfl
theorem FilS.step {wG u : World} {o : Nat} {s : ByteArray} {r sg l n k a no ga chain : Nat} {ch : Bool} {E : Int} {C : Array Value} {ks : List Nat} {ts us : List TxV} (h : FilS wG o s r sg l n k a E C (curT (fillT chain (ts.getD k TxV.zero) no ga ch)) ks ts us u) (hk : k < n) :
  FilS wG o s r sg l n (k + 1) a E C (curT (ts.getD (k + 1) TxV.zero)) ks ts (us ++ [fillT chain (ts.getD k TxV.zero) no ga ch]) u :=
 { h with
  lu := fun h0 => by simp [h.lu h0]
  good := fun h0 i hi hik => by
   by_cases h1 : i < k
   ·obtain ⟨sl, a, b, c⟩ := h.good h0 i hi (by omega)
    have e : rowAt (us ++ [fillT chain (ts.getD k TxV.zero) no ga ch]) ts (k + 1) i = rowAt us ts k i := by
     unfold rowAt; rw [if_pos h1, if_pos (by omega), getD_snoc_lt _ _ _ (by rw [h.lu h0]; exact h1)]
    rw [e]; exact ⟨sl, a, b, c⟩
   ·by_cases h2 : i = k
    ·subst h2
     obtain ⟨sl, a, b, c⟩ := h.at_ h0 hk
     have e : rowAt (us ++ [fillT chain (ts.getD i TxV.zero) no ga ch]) ts (i + 1) i = fillT chain (ts.getD i TxV.zero) no ga ch := by
      unfold rowAt; rw [if_pos (by omega), getD_snoc_at _ _ _ (h.lu h0)]
     rw [e]; exact ⟨sl, a, b, c⟩
    ·obtain ⟨sl, a, b, c⟩ := h.good h0 i hi h2
     have e : rowAt (us ++ [fillT chain (ts.getD k TxV.zero) no ga ch]) ts (k + 1) i = rowAt us ts k i := by
      unfold rowAt; rw [if_neg (by omega), if_neg (by omega)]
     rw [e]; exact ⟨sl, a, b, c⟩
  cl := fun _ => rfl
  at_ := fun h0 hk1 => by
   obtain ⟨sl, a, b, c⟩ := h.good h0 (k + 1) hk1 (by omega)
   have e : rowAt us ts k (k + 1) = ts.getD (k + 1) TxV.zero := by unfold rowAt; rw [if_neg (by omega)]
   rw [e] at a b c; exact ⟨sl, a, b, c⟩ }
theorem FilS.rows {wG u : World} {o : Nat} {s : ByteArray} {r sg l n k a : Nat} {E : Int} {C : Array Value} {cur : Value → List Value} {ks : List Nat} {ts us : List TxV} (h : FilS wG o s r sg l n k a E C cur ks ts us u) (hk : k = n) (h0 : E = 0) (hr : ∀ t ∈ us, RowOk t) : TxsR u.heap.size u us (some ⟨l, 0, none⟩) n := by
 subst hk
 refine ⟨h.lu h0, fun _ => ⟨l, 0, rfl, h.row.lt, fun i hi => ?_⟩⟩
 obtain ⟨sl, a, b, c⟩ := h.good h0 i hi (by omega)
 have e : rowAt us ts k i = us.getD i TxV.zero := by unfold rowAt; rw [if_pos hi]
 rw [e] at a b
 have hm : us.getD i TxV.zero ∈ us := by rw [List.getD_eq_getElem?_getD, List.getElem?_eq_getElem (by rw [h.lu h0]; exact hi)]; exact List.getElem_mem _
 have hok := hr _ hm
 obtain ⟨A, c2, rfl, hq⟩ := b
 have hz : (us.getD i TxV.zero).auths.length = 0 := by rw [hok.aut]; rfl
 refine ⟨_, .slice none 0 0, fun j v hv => ?_, ⟨⟨A, c2, rfl, hq.toR⟩, ⟨none, 0, by rw [hz], by rw [hok.aut]; exact AutR.nil _ _ _⟩, by have := hok.acc; omega, by omega⟩⟩
 have hj : j < 36 := (List.getElem?_eq_some_iff.1 hv).1
 rw [← hv, ← a j hj, h.row.cell]
 congr 1
 omega
theorem headD_drop {α : Type} (xs : List α) (k : Nat) (d : α) : (xs.drop k).headD d = xs.getD k d := by
 rw [List.getD_eq_getElem?_getD, ← List.head?_drop, List.headD_eq_head?_getD]
theorem fillGo_step (chain : Nat) (ts : List TxV) (ns gs : List Nat) (cs : List Bool) {k : Nat} (hk : k < ts.length) : fillGo chain (ts.drop k) (ns.drop k) (gs.drop k) cs =
  if (ts.getD k TxV.zero).kind = 0 then fillT chain (ts.getD k TxV.zero) (ns.getD k 0) (gs.getD k 0) (cs.headD false) :: fillGo chain (ts.drop (k + 1)) (ns.drop (k + 1)) (gs.drop (k + 1)) cs.tail
  else fillT chain (ts.getD k TxV.zero) (ns.getD k 0) (gs.getD k 0) true :: fillGo chain (ts.drop (k + 1)) (ns.drop (k + 1)) (gs.drop (k + 1)) cs := by
 have e : ts.drop k = ts.getD k TxV.zero :: ts.drop (k + 1) := by
  rw [List.drop_eq_getElem_cons hk, List.getD_eq_getElem?_getD, List.getElem?_eq_getElem hk]; rfl
 rw [e, fillGo, headD_drop, headD_drop, List.tail_drop, List.tail_drop]
structure Car (w W : World) (b : Nat) (t : TypeId) (cs : Array Value) : Prop where
 below : Below w.heap.size w W
 blk : Blk W b t cs
theorem Car.step {w W W' : World} {b : Nat} {t : TypeId} {cs : Array Value} (h : Car w W b t cs) (hb : Below W.heap.size W W') : Car w W' b t cs := ⟨h.below.trans (hb.mono h.below.size), h.blk.below hb h.blk.lt⟩
structure CarR (W : World) (B : Nat) (A : Option Addr) (n : Nat) (xs : List Value) : Prop where
 le : B ≤ W.heap.size
 reads : Reads W B 1 A n xs
theorem CarR.step {W W' : World} {B : Nat} {A : Option Addr} {n : Nat} {xs : List Value} (h : CarR W B A n xs) (hb : Below W.heap.size W W') : CarR W' B A n xs := ⟨Nat.le_trans h.le hb.size, h.reads.below (hb.mono h.le)⟩
theorem packL_len (l : List Bool) : (packL l).length = (l.length + 7) / 8 := packW_len _ _
theorem bitAt_pack (l : List Bool) (i : Nat) (h : i < 8 * ((l.length + 7) / 8)) : bitAt (packL l) i = l.getD i false := by
 unfold bitAt
 rw [packL_len]
 unfold packL
 rw [packW_get _ _ _ (by omega), bit_byte8 _ _ (by omega)]
 congr 1
 omega
theorem unpack_pack (l : List Bool) (h : l.length ≤ 4096) : unpackE (packL l) (l.length : Int) = 0 ∧ unpackL (packL l) (l.length : Int) = l := by
 have hs : spareB (packL l) l.length = false := by
  unfold spareB
  rw [← Bool.not_eq_true, List.any_eq_true]
  rintro ⟨i, hi, hh⟩
  have hi' := List.mem_range.1 hi
  rw [packL_len] at hi'
  simp only [Bool.and_eq_true, decide_eq_true_eq] at hh
  rw [bitAt_pack _ _ hi', List.getD_eq_getElem?_getD, List.getElem?_eq_none hh.1] at hh
  exact absurd hh.2 (by simp)
 have he : unpackE (packL l) (l.length : Int) = 0 := by
  unfold unpackE
  rw [if_neg (by omega), if_neg (by rw [packL_len, Int.toNat_natCast]; simp), Int.toNat_natCast, hs]
  rfl
 refine ⟨he, ?_⟩
 unfold unpackL
 rw [if_pos he, Int.toNat_natCast]
 apply List.ext_getElem (by simp)
 intro i h1 h2
 simp only [List.getElem_map, List.getElem_range]
 rw [bitAt_pack _ _ (by omega), List.getD_eq_getElem?_getD, List.getElem?_eq_getElem h2]
 rfl
theorem unpackL_len (s : List UInt8) (n : Int) (h : unpackE s n = 0) : ((unpackL s n).length : Int) = n := by
 unfold unpackL
 rw [if_pos h]
 unfold unpackE at h
 split at h
 ·cases h
 ·simp; omega
theorem pack_unpack (s : List UInt8) (n : Int) (h : unpackE s n = 0) : packL (unpackL s n) = s := by
 have hn := unpackL_len s n h
 have hL : unpackL s n = (List.range n.toNat).map (bitAt s) := by unfold unpackL; rw [if_pos h]
 unfold unpackE at h
 split at h
 ·cases h
 ·split at h
  ·cases h
  ·rename_i hlen
   split at h
   ·cases h
   ·rename_i hsp
    have hlen : s.length = (n.toNat + 7) / 8 := Classical.not_not.1 hlen
    have hget : ∀ i, i < 8 * s.length → (unpackL s n).getD i false = bitAt s i := by
     intro i hi
     rw [hL, List.getD_eq_getElem?_getD, List.getElem?_map]
     by_cases hin : i < n.toNat
     ·rw [List.getElem?_range hin]; rfl
     ·rw [List.getElem?_eq_none (by simpa using hin)]
      by_cases hb : bitAt s i = true
      ·exfalso
       apply hsp
       unfold spareB
       rw [List.any_eq_true]
       exact ⟨i, List.mem_range.2 hi, by simp only [Bool.and_eq_true, decide_eq_true_eq]; exact ⟨by omega, hb⟩⟩
      ·rw [Bool.not_eq_true] at hb; rw [hb]; rfl
    have hm : ((unpackL s n).length + 7) / 8 = s.length := by omega
    unfold packL
    rw [hm]
    apply List.ext_getElem (packW_len _ _)
    intro j h1 h2
    have e1 : (packW s.length (unpackL s n))[j] = byte8 fun r => (unpackL s n).getD (8 * (s.length - 1 - j) + r) false := by simp [packW]
    rw [e1, ← byte8_bits (s[j])]
    refine byte8_congr fun r hr => ?_
    rw [hget _ (by omega)]
    unfold bitAt
    rw [show (8 * (s.length - 1 - j) + r) / 8 = s.length - 1 - j by omega, show (8 * (s.length - 1 - j) + r) % 8 = r by omega, show s.length - 1 - (s.length - 1 - j) = j by omega, List.getD_eq_getElem?_getD, List.getElem?_eq_getElem h2]
    rfl
theorem unrow_back (post : List UInt8) : ∀ (xs : List Int) (pre : List UInt8), (∀ x ∈ xs, 0 ≤ x ∧ x ≤ 18446744073709551615) → unrowGo (pre ++ rowL xs ++ post) xs.length pre.length = (xs, pre.length + (rowL xs).length, 0)
 | [], pre, _ => by simp [unrowGo, rowL]
 | x :: xs, pre, h => by
  have hx := h x (by simp)
  obtain ⟨z, rfl⟩ := Int.eq_ofNat_of_zero_le hx.1
  have hr : rowL ((z : Int) :: xs) = varL z ++ rowL xs := by simp [rowL]
  have e1 : pre ++ rowL ((z : Int) :: xs) ++ post = pre ++ varL z ++ (rowL xs ++ post) := by rw [hr]; simp
  have e2 : pre ++ rowL ((z : Int) :: xs) ++ post = (pre ++ varL z) ++ rowL xs ++ post := by rw [hr]; simp
  have hu : unvarS (pre ++ rowL ((z : Int) :: xs) ++ post) (pre.length : Int) = (BitVec.ofNat 64 z, pre.length + (varL z).length, 0) := by
   rw [e1]; exact unvarS_back pre (rowL xs ++ post) z (by omega)
  have ih := unrow_back post xs (pre ++ varL z) (fun y hy => h y (List.mem_cons_of_mem _ hy))
  rw [← e2, List.length_append] at ih
  rw [List.length_cons, unrowGo]
  simp only [hu, ih]
  rw [if_neg (by simp), if_neg (by simp)]
  have hz : ((BitVec.ofNat 64 z).toNat : Int) = (z : Int) := by
   rw [BitVec.toNat_ofNat, Nat.mod_eq_of_lt (by omega)]
  rw [hz, hr, List.length_append]
  simp [Nat.add_assoc]
theorem unrow_only (l : List UInt8) : ∀ (k a : Nat) (xs : List Int) (t : Nat), a ≤ l.length → unrowGo l k a = (xs, t, 0) → xs.length = k ∧ a ≤ t ∧ t ≤ l.length ∧ (l.drop a).take (t - a) = rowL xs ∧ ∀ x ∈ xs, 0 ≤ x ∧ x ≤ 18446744073709551615
 | 0, a, xs, t, ha, h => by
  simp only [unrowGo, Prod.mk.injEq] at h
  obtain ⟨rfl, rfl, _⟩ := h
  exact ⟨rfl, Nat.le_refl _, ha, by simp [rowL], by simp⟩
 | k + 1, a, xs, t, ha, h => by
  obtain ⟨r, tz, e, hr⟩ : ∃ r tz e, unvarS l (a : Int) = (r, tz, e) := ⟨_, _, _, rfl⟩
  obtain ⟨ys, t', e', hg⟩ : ∃ ys t' e', unrowGo l k tz = (ys, t', e') := ⟨_, _, _, rfl⟩
  rw [unrowGo] at h
  simp only [hr, hg] at h
  split at h
  ·rename_i h1
   simp only [Prod.mk.injEq] at h
   exact absurd h.2.2 h1
  ·rename_i h1
   have he : e = 0 := Classical.not_not.1 h1
   subst he
   split at h
   ·rename_i h2
    simp only [Prod.mk.injEq] at h
    exact absurd h.2.2 h2
   ·rename_i h2
    have he' : e' = 0 := Classical.not_not.1 h2
    subst he'
    simp only [Prod.mk.injEq] at h
    obtain ⟨rfl, rfl, _⟩ := h
    obtain ⟨u1, u2, u3⟩ := unvarS_only l a r tz hr
    obtain ⟨i1, i2, i3, i4, i5⟩ := unrow_only l k tz ys t' u2 hg
    refine ⟨by simp [i1], by omega, i3, ?_, ?_⟩
    ·have hrow : rowL ((r.toNat : Int) :: ys) = varL r.toNat ++ rowL ys := by simp [rowL]
     rw [hrow, ← u3, ← i4, show t' - a = (tz - a) + (t' - tz) by omega, List.take_add, List.drop_drop, show a + (tz - a) = tz by omega]
    ·intro x hx
     rcases List.mem_cons.1 hx with rfl | hx
     ·have := r.isLt; omega
     ·exact i5 x hx
theorem unrowS_back (pre post : List UInt8) (xs : List Int) (h : ∀ x ∈ xs, 0 ≤ x ∧ x ≤ 18446744073709551615) (hn : xs.length ≤ 4096) : unrowS (pre ++ rowL xs ++ post) (pre.length : Int) (xs.length : Int) = (xs, pre.length + (rowL xs).length, 0) := by
 unfold unrowS
 rw [if_neg (by simp; omega), Int.toNat_natCast, Int.toNat_natCast]
 exact unrow_back post xs pre h
theorem unrowS_only (l : List UInt8) (at_ n : Int) (xs : List Int) (t : Nat) (h : unrowS l at_ n = (xs, t, 0)) : ∃ a : Nat, at_ = (a : Int) ∧ (xs.length : Int) = n ∧ a ≤ t ∧ t ≤ l.length ∧ (l.drop a).take (t - a) = rowL xs ∧ xs.length ≤ 4096 ∧ ∀ x ∈ xs, 0 ≤ x ∧ x ≤ 18446744073709551615 := by
 unfold unrowS at h
 split at h
 ·simp at h
 ·rename_i hb
  obtain ⟨a, rfl⟩ := Int.eq_ofNat_of_zero_le (show 0 ≤ at_ by omega)
  obtain ⟨k, rfl⟩ := Int.eq_ofNat_of_zero_le (show 0 ≤ n by omega)
  rw [Int.toNat_natCast, Int.toNat_natCast] at h
  obtain ⟨i1, i2, i3, i4, i5⟩ := unrow_only l k a xs t (by omega) h
  exact ⟨a, rfl, by omega, i2, i3, i4, by omega, i5⟩
def RowQ (lo hi : Nat) (w : World) (v : Value) (xs : List Value) : Prop :=
 ∃ A c, v = .slice A xs.length c ∧ (0 < xs.length → ∃ g off, A = some ⟨g, off, none⟩ ∧ lo ≤ g ∧ g < hi ∧ ∀ i, i < xs.length → w.cell? ⟨g, off + i, none⟩ = xs[i]?)
theorem RowQ.of_own {o k : Nat} {e : TypeId} {w : World} {v : Value} {xs : List Value} (h : w.ownsRow o e 1 v k xs) : RowQ o w.heap.size w v xs := by
 have hl : xs.length = k := by have := h.1; omega
 rcases h.2 with ⟨hv, h1⟩ | ⟨g, cap, cur, hv, hb, hg, hn, hc, hs, ht⟩
 ·subst hv
  exact ⟨none, 0, by rw [hl, h1], fun h0 => by omega⟩
 ·subst hv
  refine ⟨some ⟨g, 0, none⟩, cap, by rw [hl], fun _ => ⟨g, 0, rfl, ownBlock_ge h rfl, (Array.getElem?_eq_some_iff.1 hg).1, fun i hi => ?_⟩⟩
  rw [Nat.zero_add, cell_of_row w g i cur e (0, 0) hg, ← Array.getElem?_toList, ← ht, List.getElem?_take_of_lt (by omega)]
theorem RowQ.keep {lo hi : Nat} {w w' : World} {v : Value} {xs : List Value} (h : RowQ lo hi w v xs) (hc : ∀ (p : Addr) u, lo ≤ p.block → p.block < hi → w.cell? p = some u → w'.cell? p = some u) : RowQ lo hi w' v xs := by
 obtain ⟨A, c, h1, h2⟩ := h
 refine ⟨A, c, h1, fun h0 => ?_⟩
 obtain ⟨g, off, a, b, d, e⟩ := h2 h0
 exact ⟨g, off, a, b, d, fun i hi => by have := e i hi; rw [List.getElem?_eq_getElem hi] at this ⊢; exact hc _ _ b d this⟩
theorem RowQ.reads {lo hi : Nat} {w : World} {v : Value} {xs : List Value} (h : RowQ lo hi w v xs) : ∃ A c, v = .slice A xs.length c ∧ Reads w hi 1 A xs.length xs := by
 obtain ⟨A, c, h1, h2⟩ := h
 refine ⟨A, c, h1, by simp, fun h0 => ?_⟩
 obtain ⟨g, off, a, b, d, hc⟩ := h2 h0
 refine ⟨_, a, d, fun j u hu => ?_⟩
 have hj : j < xs.length := (List.getElem?_eq_some_iff.1 hu).1
 have e : (⟨g, off, none⟩ : Addr).add j = ⟨g, off + j, none⟩ := by
  unfold Addr.add
  by_cases hj : j = 0
  ·subst hj; simp
  ·simp [hj]
 rw [e, hc j hj]
 exact hu
theorem exec_callb1 {P : Program} {a : Act} {o : Oper} {W : World} (f : FuncId) (y x : Operand) (ts : Array TypeId) (b : Value) (ho : o.op = .call { callee := .value y, args := #[x], argTypes := ts }) (hy : a.eval y = .func (.func f) #[b] #[]) (v : Value) (hx : a.eval x = v)
  (hf : (callFunc f #[b, v]).run P W = .ok (.enter f #[b, v]) W) : (execOp a.eval o).run P W = .ok (.enter f #[b, v]) W := by
 unfold execOp
 generalize a.eval = ev at *
 simp only [ho]
 simp [resolve, invoke, go_sem, hx, hy, hf]
theorem tkA_le {s : ByteArray} {a n : Nat} {E : Int} (h : a ≤ s.size) : tkA s a n E ≤ s.size := by
 unfold tkA
 split
 ·rename_i h0
  unfold tkE at h0
  split at h0
  ·split at h0
   ·exact absurd h0 (by decide)
   ·omega
  ·rename_i h1; exact absurd h0 h1
 ·exact h
theorem btL_len (s : ByteArray) (a n : Nat) (E : Int) : (btL s a n E).length = n := by
 unfold btL
 split
 ·rename_i h
  unfold btE at h
  split at h
  ·have := unpackL_len _ _ h; omega
  ·rename_i h2; exact absurd h h2
 ·simp
theorem GetS.eqc {wG u : World} {s signs : ByteArray} {r sg l n k a sa : Nat} {E SE : Int} {C : Array Value} {cur cur' : List Value} {ks : List Nat} {ts : List TxV} (h : GetS wG s signs r sg l n k a sa E SE C cur ks ts u) (e : cur = cur') : GetS wG s signs r sg l n k a sa E SE C cur' ks ts u := e ▸ h
theorem cur2 (R S : Nat) : List.take 25 (List.take 21 blankL ++ ((wordC R).toList ++ List.drop (21 + (wordC R).toList.length) blankL)) ++ ((wordC S).toList ++ List.drop (25 + (wordC S).toList.length) (List.take 21 blankL ++ ((wordC R).toList ++ List.drop (21 + (wordC R).toList.length) blankL))) = txL (blankT 0 R S ⟨#[]⟩) (.slice none 0 0) (.slice none 0 0) := rfl
theorem cur3 (R S : Nat) (d : ByteArray) : List.take 20 (txL (blankT 0 R S d) (.slice none 0 0) (.slice none 0 0)) ++ ([Value.int .u64 1] ++ List.drop (20 + [Value.int .u64 1].length) (txL (blankT 0 R S d) (.slice none 0 0) (.slice none 0 0))) = txL (blankT 1 R S d) (.slice none 0 0) (.slice none 0 0) := rfl
theorem cur4 (y R S : Nat) (d e : ByteArray) : List.take 12 (txL (blankT y R S d) (.slice none 0 0) (.slice none 0 0)) ++ ([Value.string e] ++ List.drop (12 + [Value.string e].length) (txL (blankT y R S d) (.slice none 0 0) (.slice none 0 0))) = txL (blankT y R S e) (.slice none 0 0) (.slice none 0 0) := rfl
theorem RowQ.at_ {lo hi n c i : Nat} {w : World} {A : Option Addr} {xs : List Value} (h : RowQ lo hi w (.slice A n c) xs) (hin : i < n) : ∃ g off, A = some ⟨g, off, none⟩ ∧ lo ≤ g ∧ g < hi ∧ w.cell? ⟨g, off + i, none⟩ = xs[i]? := by
 obtain ⟨B, d, h1, h2⟩ := h
 cases h1
 obtain ⟨g, off, a, b, e, f⟩ := h2 (by omega)
 exact ⟨g, off, a, b, e, f i hin⟩
def RowC (lo hi : Nat) (w : World) (v : Value) (xs : List Value) : Prop :=
 ∃ A c, v = .slice A xs.length c ∧ xs.length ≤ c ∧ (0 < xs.length → ∃ g off, A = some ⟨g, off, none⟩ ∧ lo ≤ g ∧ g < hi ∧ ∀ i, i < xs.length → w.cell? ⟨g, off + i, none⟩ = xs[i]?)
theorem RowC.of_own {o k : Nat} {e : TypeId} {w : World} {v : Value} {xs : List Value} (h : w.ownsRow o e 1 v k xs) : RowC o w.heap.size w v xs := by
 have hl : xs.length = k := by have := h.1; omega
 obtain ⟨A, c, h1, h2⟩ := RowQ.of_own h
 rcases h.2 with ⟨hv, h3⟩ | ⟨g, cap, cur, hv, hb, hg, hn, hc, hs, ht⟩
 ·refine ⟨A, c, h1, by omega, h2⟩
 ·rw [h1] at hv
  refine ⟨A, c, h1, ?_, h2⟩
  have : c = cap := by cases hv; rfl
  omega
theorem RowC.keep {lo hi : Nat} {w w' : World} {v : Value} {xs : List Value} (h : RowC lo hi w v xs) (hc : ∀ (p : Addr) u, lo ≤ p.block → p.block < hi → w.cell? p = some u → w'.cell? p = some u) : RowC lo hi w' v xs := by
 obtain ⟨A, c, h1, h2, h3⟩ := h
 refine ⟨A, c, h1, h2, fun h0 => ?_⟩
 obtain ⟨g, off, a, b, d, e⟩ := h3 h0
 exact ⟨g, off, a, b, d, fun i hi => by have := e i hi; rw [List.getElem?_eq_getElem hi] at this ⊢; exact hc _ _ b d this⟩
theorem RowC.at_ {lo hi n c : Nat} {w : World} {A : Option Addr} {xs : List Value} (h : RowC lo hi w (.slice A n c) xs) (h0 : 0 < n) : ∃ g off, A = some ⟨g, off, none⟩ ∧ lo ≤ g ∧ g < hi ∧ ∀ i, i < n → w.cell? ⟨g, off + i, none⟩ = xs[i]? := by
 obtain ⟨B, d, h1, _, h2⟩ := h
 cases h1
 obtain ⟨g, off, a, b, e, f⟩ := h2 h0
 exact ⟨g, off, a, b, e, f⟩
theorem RowC.cons {lo hi : Nat} {w : World} {v x : Value} {xs : List Value} (h : RowC lo hi w v (x :: xs)) : ∃ g off c, v = .slice (some ⟨g, off, none⟩) (xs.length + 1) c ∧ xs.length + 1 ≤ c ∧ lo ≤ g ∧ g < hi ∧ w.cell? ⟨g, off, none⟩ = some x ∧ RowC lo hi w (.slice (if c = 1 then some ⟨g, off, none⟩ else some ⟨g, off + 1, none⟩) xs.length (c - 1)) xs := by
 obtain ⟨A, c, h1, h2, h3⟩ := h
 obtain ⟨g, off, rfl, b, d, e⟩ := h3 (by simp)
 simp only [List.length_cons] at h1 h2 e
 refine ⟨g, off, c, h1, h2, b, d, by simpa using e 0 (by omega), _, _, rfl, by omega, fun h0 => ⟨g, off + 1, by rw [if_neg (by omega)], b, d, fun i hi => ?_⟩⟩
 have := e (i + 1) (by omega)
 rw [show off + 1 + i = off + (i + 1) by omega, this]
 rfl
def InvF (chain : Nat) (ts us : List TxV) (ns gs : List Nat) (csr : List Bool) (E : Int) (j : Nat) (F0 : List TxV) : Prop := E = 0 → us ++ fillGo chain (ts.drop j) (ns.drop j) (gs.drop j) csr = F0
theorem InvF.step0 {chain : Nat} {ts us : List TxV} {ns gs : List Nat} {csr : List Bool} {b : Bool} {E : Int} {j : Nat} {F0 : List TxV} {kv : Nat} (h : InvF chain ts us ns gs (b :: csr) E j F0) (hl : E = 0 → j < ts.length ∧ (ts.getD j TxV.zero).kind = (kv : Int)) (hk : kv = 0) :
  InvF chain ts (us ++ [fillT chain (ts.getD j TxV.zero) (ns.getD j 0) (gs.getD j 0) b]) ns gs csr E (j + 1) F0 := fun h0 => by
 obtain ⟨h1, h2⟩ := hl h0
 have := h h0
 rw [fillGo_step _ _ _ _ _ h1, if_pos (by rw [h2]; omega)] at this
 rw [← this]
 simp
theorem InvF.step1 {chain : Nat} {ts us : List TxV} {ns gs : List Nat} {csr : List Bool} {E : Int} {j : Nat} {F0 : List TxV} {kv : Nat} (h : InvF chain ts us ns gs csr E j F0) (hl : E = 0 → j < ts.length ∧ (ts.getD j TxV.zero).kind = (kv : Int)) (hk : kv ≠ 0) :
  InvF chain ts (us ++ [fillT chain (ts.getD j TxV.zero) (ns.getD j 0) (gs.getD j 0) true]) ns gs csr E (j + 1) F0 := fun h0 => by
 obtain ⟨h1, h2⟩ := hl h0
 have := h h0
 rw [fillGo_step _ _ _ _ _ h1, if_neg (by rw [h2]; omega)] at this
 rw [← this]
 simp
theorem count_drop (ks : List Nat) {j : Nat} (h : j < ks.length) : (ks.drop j).count 0 = (if ks.getD j 0 = 0 then 1 else 0) + (ks.drop (j + 1)).count 0 := by
 have e : ks.drop j = ks.getD j 0 :: ks.drop (j + 1) := by
  rw [List.drop_eq_getElem_cons h, List.getD_eq_getElem?_getD, List.getElem?_eq_getElem h]; rfl
 rw [e, List.count_cons]
 by_cases h0 : ks.getD j 0 = 0
 ·rw [if_pos h0, h0]; simp; omega
 ·rw [if_neg h0, if_neg (by simpa using h0)]; omega
theorem legN_count {ts : List TxV} {ks : List Nat} (hl : ts.length = ks.length) (hk : ∀ i, i < ks.length → (ts.getD i TxV.zero).kind = ((ks.getD i 0 : Nat) : Int)) : legN ts = ks.count 0 := by
 have e : ts.map TxV.kind = ks.map fun (x : Nat) => (x : Int) := by
  refine List.ext_getElem (by simp [hl]) fun i h1 h2 => ?_
  have h3 : i < ks.length := by simpa using h2
  have := hk i h3
  rw [List.getD_eq_getElem?_getD, List.getD_eq_getElem?_getD, List.getElem?_eq_getElem h3, List.getElem?_eq_getElem (by omega)] at this
  simpa using this
 unfold legN
 rw [e]
 have : ∀ l : List Nat, (l.map fun (x : Nat) => (x : Int)).count 0 = l.count 0 := by
  intro l
  induction l with
  | nil => rfl
  | cons x l ih =>
   rw [List.map_cons, List.count_cons, List.count_cons, ih]
   by_cases hx : x = 0
   ·subst hx; simp
   ·simp [hx]
 exact this ks
section
variable {P : Program} {ops : Array Oper} {rest : List Oper} {op : Oper} {a : Act} {w w' : World} {Q : Exit → Act → World → Prop}
theorem wpList_valueG (hgd : Region.wanted op (yielded ops a.tmps) = true) (v : Value) (h : (execOp a.eval op).run P w = .ok (.value v) w') (hk : wpList P ops Q rest (a.put op.dst v) w') : wpList P ops Q (op :: rest) a w :=
 wpList_step fun K hK => by rw [if_pos hgd]; unfold Oper.wp; rw [h]; exact hK _ _ hk
theorem wpList_enterG (hgd : Region.wanted op (yielded ops a.tmps) = true) (f : FuncId) (args : Array Value) (h : (execOp a.eval op).run P w = .ok (.enter f args) w)
  (hc : Calls P f args w fun e w' => ∃ v, e = .returned v ∧ wpList P ops Q rest (a.put op.dst v) w') : wpList P ops Q (op :: rest) a w :=
 wpList_step fun K hK => by
  rw [if_pos hgd]
  unfold Oper.wp
  rw [h]
  refine hc.mono fun e w' he => ?_
  obtain ⟨v, rfl, hk⟩ := he
  exact hK _ _ hk
theorem wpList_lack (hgd : Region.wanted op (yielded ops a.tmps) = false) (hk : wpList P ops Q rest (a.put op.dst undef) w) : wpList P ops Q (op :: rest) a w :=
 wpList_step fun K hK => by rw [if_neg (by rw [hgd]; decide)]; exact hK _ _ hk
end
theorem nuE_bad {s : ByteArray} {a n : Nat} {E : Int} (h : E ≠ 0) : nuE s a n E = E := by unfold nuE; rw [if_neg h]
theorem tkE_bad {s : ByteArray} {a n : Nat} {E : Int} (h : E ≠ 0) : tkE s a n E = E := by unfold tkE; rw [if_neg h]
theorem btE_bad {s : ByteArray} {a n : Nat} {E : Int} (h : E ≠ 0) : btE s a n E = E := by unfold btE; rw [tkE_bad h, if_neg h]
theorem getR_end {s sgs : ByteArray} {nl yl cs : List Bool} {n k ak sa lg A5 A6 A7 chain : Nat} {Ek SE E4 E5 E6 E7 : Int} {ts : List TxV} {ns gs : List Nat} {tk : ByteArray} {R0 : Except Int (List TxV × Nat)} (hi : InvG s sgs nl yl n k ak sa Ek SE E4 ts tk R0) (hk : k = n)
  (h5 : nuE s ak n Ek = E5) (ha5 : nuA s ak n Ek = A5) (hns : nuN s ak n Ek = ns) (h6 : nuE s A5 n E5 = E6) (ha6 : nuA s A5 n E5 = A6) (hgs : nuN s A5 n E5 = gs) (h7 : btE s A6 lg E6 = E7) (ha7 : btA s A6 lg E6 = A7) (hcs : btL s A6 lg E6 = cs) (hlg : Ek = 0 → lg = legN ts) :
  endR s n chain R0 = if E7 ≠ 0 then .error E7 else if checkCol (fillGo chain ts ns gs cs) chain ≠ 0 then .error (checkCol (fillGo chain ts ns gs cs) chain) else .ok (fillGo chain ts ns gs cs, A7) := by
 rcases hi with ⟨rfl, _, _, _, hR⟩ | ⟨h1, hR⟩
 ·rw [hk, Nat.sub_self, getGo, glueT, List.append_nil] at hR
  rw [hR, endR]
  unfold lastR
  rw [← hlg rfl, h5, ha5, hns, h6, ha6, hgs, h7, ha7, hcs]
 ·rw [nuE_bad h1] at h5
  subst h5
  rw [nuE_bad h1] at h6
  subst h6
  rw [btE_bad h1] at h7
  subst h7
  rw [if_pos h1, hR]
  rfl
theorem fixR_eq {s sgs tos : ByteArray} {nl yl : List Bool} {n a A1 A2 A3 A4 m : Nat} {E1 E2 E3 E4 : Int} {R0 : Except Int (List TxV × Nat)} (h1 : btL s a n 0 = nl) (h2 : btA s a n 0 = A1) (h3 : btE s a n 0 = E1) (h4 : btE s A1 n E1 = E2) (h5 : btA s A1 n E1 = A2) (h6 : btL s A1 n E1 = yl) (h7 : n - cntB nl = m)
  (h8 : tkS s A2 (64 * n) E2 = sgs) (h9 : tkE s A2 (64 * n) E2 = E3) (h10 : tkA s A2 (64 * n) E2 = A3) (h11 : tkE s A3 (20 * m) E3 = E4) (h12 : tkA s A3 (20 * m) E3 = A4) (h13 : tkS s A3 (20 * m) E3 = tos) (hR : (if E4 ≠ 0 then .error E4 else getGo s sgs nl yl n 0 A4 tos) = R0) :
  fixR s n (btL s a n 0) (btA s a n 0) (btE s a n 0) = R0 := by
 rw [h1, h2, h3]
 unfold fixR
 rw [h4, h5, h6, h7, h8, h9, h10, h11, h12, h13]
 exact hR
theorem headD_ok {p : Nat → Prop} {ns : List Nat} (h : ∀ x ∈ ns, p x) (h0 : p 0) : p (ns.headD 0) := by
 cases ns with
 | nil => exact h0
 | cons x r => exact h x (by simp)
theorem fillGo_ok {chain : Nat} (hc : chain < 18446744073709551616) : ∀ {ts : List TxV} {ns gs : List Nat} {cs : List Bool}, (∀ t ∈ ts, RowOk t) → (∀ x ∈ ns, x < 18446744073709551616) → (∀ x ∈ gs, x < 18446744073709551616) → ∀ u ∈ fillGo chain ts ns gs cs, RowOk u
 | [], _, _, _, _, _, _, u, hu => by simp [fillGo] at hu
 | t :: ts, ns, gs, cs, ht, hn, hg, u, hu => by
  have a1 := headD_ok hn (by omega)
  have a2 := headD_ok hg (by omega)
  have b1 : ∀ x ∈ ns.tail, x < 18446744073709551616 := fun x hx => hn x (List.mem_of_mem_tail hx)
  have b2 : ∀ x ∈ gs.tail, x < 18446744073709551616 := fun x hx => hg x (List.mem_of_mem_tail hx)
  unfold fillGo at hu
  split at hu
  ·rcases List.mem_cons.1 hu with rfl | hu
   ·exact fillT_ok (ht t (by simp)) hc a1 a2
   ·exact fillGo_ok hc (fun t h => ht t (by simp [h])) b1 b2 u hu
  ·rcases List.mem_cons.1 hu with rfl | hu
   ·exact fillT_ok (ht t (by simp)) hc a1 a2
   ·exact fillGo_ok hc (fun t h => ht t (by simp [h])) b1 b2 u hu
theorem InvG.rows {s sgs : ByteArray} {nl yl : List Bool} {n k ak sa A4 : Nat} {Ek SE E4 : Int} {ts : List TxV} {tk tos : ByteArray} {R0 : Except Int (List TxV × Nat)} (hi : InvG s sgs nl yl n k ak sa Ek SE E4 ts tk R0) (hk : k = n) (h0 : Ek = 0) (hR : (if E4 ≠ 0 then .error E4 else getGo s sgs nl yl n 0 A4 tos) = R0) : ∀ t ∈ ts, RowOk t := by
 rcases hi with ⟨_, _, _, h4, hR2⟩ | ⟨h1, _⟩
 ·rw [hk, Nat.sub_self, getGo, glueT, List.append_nil] at hR2
  rw [if_neg (by simpa using h4), hR2] at hR
  exact (getGo_rows hR).2
 ·exact absurd h0 h1
theorem Gr3.close {w w1 u : World} {r g l : Nat} (h0 : w.grownBy w1 none) (h : Gr3 w1 u r g l) (hr : w.heap.size ≤ r) (hg : w.heap.size ≤ g) (hl : w.heap.size ≤ l) : w.grownBy u none :=
 ⟨h.os.trans h0.os, h.tape.trans h0.tape, h.output.trans h0.output, Nat.le_trans h0.size h.size, fun k hk _ => (h.block k (Nat.lt_of_lt_of_le hk h0.size) (by omega) (by omega) (by omega)).trans (h0.block k hk (by simp))⟩
theorem FilS.read {wG u u' : World} {o : Nat} {s : ByteArray} {r sg l n k a : Nat} {E : Int} {C : Array Value} {cur : Value → List Value} {ks : List Nat} {ts us : List TxV} (h : FilS wG o s r sg l n k a E C cur ks ts us u) (hg : u.grownBy u' (some r)) (hr : Blk u' r 67 (rdC s a E)) (ho : r < o) : FilS wG o s r sg l n k a E C cur ks ts us u' :=
 { h with rd := hr, row := h.row.grown hg (fun e => h.rw (Option.some.inj e).symm), gr := h.gr.grown hg (fun k e => .inl (Option.some.inj e).symm),
          good := fun h0 i hi hik => by obtain ⟨sl, a, b, c⟩ := h.good h0 i hi hik; exact ⟨sl, a, b.keep hg.size (fun p v hp hv => hg.cell hv (fun e => by have := Option.some.inj e; omega)), c⟩,
          at_ := fun h0 hk => by obtain ⟨sl, a, b, c⟩ := h.at_ h0 hk; exact ⟨sl, a, b.keep hg.size (fun p v hp hv => hg.cell hv (fun e => by have := Option.some.inj e; omega)), c⟩ }
def GetEnd (s : ByteArray) (a n chain : Nat) (w : World) (e : Ending) (w' : World) : Prop :=
 w.grownBy w' none ∧ ((∃ E, E ≠ 0 ∧ getR s a n chain = .error E ∧ e = .returned (.tuple #[.slice none 0 0, .int .i64 0, .int .i64 E])) ∨
  (∃ L T g, getR s a n chain = .ok (L, T) ∧ e = .returned (.tuple #[.slice (some ⟨g, 0, none⟩) n n, .int .i64 (T : Int), .int .i64 0]) ∧ w.heap.size ≤ g ∧ TxsR w'.heap.size w' L (some ⟨g, 0, none⟩) n ∧ T ≤ s.size ∧ ∀ t ∈ L, RowOk t))
theorem GetEnd.drew {s : ByteArray} {a n chain : Nat} {w w' : World} {e : Ending} (h : GetEnd s a n chain w e w') : GetEnd s a n chain w e w'.drew := by
 obtain ⟨h1, h2⟩ := h
 refine ⟨only_drew h1, ?_⟩
 rcases h2 with h2 | ⟨L, T, g, a, b, c, d, f⟩
 ·exact .inl h2
 ·exact .inr ⟨L, T, g, a, b, c, d.grown (only_drew (World.grownBy.refl w' none)) (Nat.le_refl _), f⟩
structure TxC (t : TxV) : Prop where
 kind : t.kind = 0 ∨ t.kind = 1 ∨ t.kind = 2
 named : t = nameT t
 y : t.y ≤ 1
 dst : t.dst.size = 0 ∨ t.dst.size = 20
 acc : t.acc.length ≤ 16
 pair : ∀ a ∈ t.acc, a.addr.size = 20 ∧ a.keys.length ≤ 16 ∧ ∀ k ∈ a.keys, k.size = 32
 data : t.data.size ≤ 4096
theorem oneTB_0 {ck : Int} {lo hi ne k0 c0 : Bool} (h : oneTB ck lo hi ne k0 c0 = 0) : lo = false ∧ hi = false ∧ ck = 0 ∧ (ne = false ∨ k0 = false ∧ c0 = false) := by
 unfold oneTB at h
 split at h
 ·cases h
 ·rename_i h1
  split at h
  ·rename_i h2; exact absurd h h2
  ·rename_i h2
   split at h
   ·cases h
   ·rename_i h3
    refine ⟨by cases lo <;> simp_all, by cases hi <;> simp_all, Classical.not_not.1 h2, ?_⟩
    cases ne <;> cases k0 <;> cases c0 <;> simp_all
theorem checkTB_0 {kd sm sd bd ba bp bu : Bool} (h : checkTB kd sm sd bd ba bp bu = 0) : kd = true ∧ sm = true ∧ sd = true ∧ bd = false ∧ ba = false ∧ bp = false ∧ bu = false := by
 revert h; cases kd <;> cases sm <;> cases sd <;> cases bd <;> cases ba <;> cases bp <;> cases bu <;> simp [checkTB]
theorem oneT_ok {chain : Nat} {t : TxV} (h : oneT chain t = 0) : TxC t ∧ (t.chain = chain ∨ t.kind = 0 ∧ t.chain = 0) := by
 obtain ⟨h1, h2, h3, h4⟩ := oneTB_0 (show oneTB _ _ _ _ _ _ = 0 from h)
 obtain ⟨c1, c2, c3, c4, c5, c6, c7⟩ := checkTB_0 (show checkTB _ _ _ _ _ _ _ = 0 from h3)
 have k1 := of_decide_eq_false h1; have k2 := of_decide_eq_false h2
 have hk : t.kind = 0 ∨ t.kind = 1 ∨ t.kind = 2 := by omega
 have hs : soundB t.kind (decide (1 < t.y)) (t.acc.any oddPair) (t.auths.any oddAuth) (decide (t.chain ≤ 4611686018427387904)) (decide (t.dst.size = 0)) (decide (t.dst.size = 20)) (decide (0 < t.auths.length)) (decide (t.source.size = 32)) (decide (t.frm.size = 20)) = true := c3
 unfold soundB at hs
 split at hs
 ·cases hs
 ·rename_i hn
  have hn : decide (1 < t.y) = false ∧ t.acc.any oddPair = false := by
   revert hn; cases decide (1 < t.y) <;> cases t.acc.any oddPair <;> simp
  have hd : t.dst.size = 0 ∨ t.dst.size = 20 := by
   rcases hk with hk | hk | hk
   ·rw [if_pos hk] at hs; simp only [Bool.and_eq_true, Bool.or_eq_true, decide_eq_true_eq] at hs; exact hs.2
   ·rw [if_neg (by omega), if_neg (by omega), if_neg (by omega)] at hs; simpa only [Bool.or_eq_true, decide_eq_true_eq] using hs
   ·rw [if_neg (by omega), if_neg (by omega), if_neg (by omega)] at hs; simpa only [Bool.or_eq_true, decide_eq_true_eq] using hs
  have hy := of_decide_eq_false hn.1
  refine ⟨⟨hk, of_decide_eq_true c2, by omega, hd, by have := of_decide_eq_false c5; omega, fun a ha => ?_, by have := of_decide_eq_false c4; omega⟩, ?_⟩
  ·have h5 := List.any_eq_false.1 hn.2 a ha
   have h6 := List.any_eq_false.1 c6 a ha
   simp only [oddPair, Bool.or_eq_true, decide_eq_true_eq, not_or, Classical.not_not] at h5
   simp only [bigPair, decide_eq_true_eq] at h6
   refine ⟨h5.1, by omega, fun k hk => ?_⟩
   have h7 := h5.2
   have h8 : a.keys.any oddKey = false := by revert h7; cases a.keys.any oddKey <;> simp
   have h9 := List.any_eq_false.1 h8 k hk
   simpa [oddKey] using h9
  ·rcases h4 with h4 | ⟨h4, h5⟩
   ·left; have := of_decide_eq_false h4; exact Classical.not_not.1 this
   ·right; exact ⟨Classical.not_not.1 (of_decide_eq_false h4), Classical.not_not.1 (of_decide_eq_false h5)⟩
theorem TxC.lacks {t : TxV} (h : TxC t) : t.auths = [] ∧ t.source = ⟨#[]⟩ ∧ t.frm = ⟨#[]⟩ ∧ t.mint = 0 ∧ t.system = false ∧ (t.kind ≠ 2 → t.tip = 0) ∧ (t.kind = 0 → t.acc = []) := by
 have hk := h.kind
 have hn := h.named
 have e : nameT t = { TxV.zero with kind := t.kind, gas := t.gas, dst := t.dst, value := t.value, data := t.data, chain := t.chain, nonce := t.nonce, price := t.price, y := t.y, r := t.r, s := t.s, tip := if t.kind = 2 ∨ t.kind = 4 then t.tip else 0, acc := if hasAcc t.kind = true then t.acc else [], auths := if t.kind = 4 then t.auths else [] } := by
  unfold nameT; rw [if_neg (by omega)]
 rw [e] at hn
 refine ⟨?_, congrArg TxV.source hn, congrArg TxV.frm hn, congrArg TxV.mint hn, congrArg TxV.system hn, fun h2 => ?_, fun h0 => ?_⟩
 ·have := congrArg TxV.auths hn; simp only at this; rw [this, if_neg (by omega)]
 ·have := congrArg TxV.tip hn; simp only at this; rw [this, if_neg (by omega)]
 ·have := congrArg TxV.acc hn; simp only at this; rw [this, if_neg (by simp [hasAcc, h0])]
theorem formL_of {xs : List Itm} {d : Nat} (h : ∀ x ∈ xs, formF x d = 0) : formL xs d = 0 := by
 induction xs with
 | nil => rw [formL]
 | cons x xs ih => rw [formL, h x (by simp), if_neg (by simp)]; exact ih fun y hy => h y (by simp [hy])
theorem form_txt (b : ByteArray) (d : Nat) : formF (txt b) d = 0 := by rw [txt, formF]; simp
theorem form_list {xs : List Itm} {d : Nat} (hd : d < 12) (hn : xs.length ≤ 512) (h : ∀ x ∈ xs, formF x (d + 1) = 0) : formF (.mk true ⟨#[]⟩ xs) d = 0 := by
 rw [formF, if_neg (by rintro (⟨_, h⟩ | ⟨h, _⟩) <;> first | exact h rfl | cases h), if_neg (by simp), if_neg (by omega), if_neg (by omega)]
 exact formL_of h
theorem form_accI {l : List AccV} (hl : l.length ≤ 16) (hp : ∀ a ∈ l, a.keys.length ≤ 16) (d : Nat) (hd : d < 9) : formF (accI l) d = 0 := by
 refine form_list (by omega) (by simp; omega) fun x hx => ?_
 obtain ⟨a, ha, rfl⟩ := List.mem_map.1 hx
 refine form_list (by omega) (by simp) fun x hx => ?_
 rcases List.mem_cons.1 hx with rfl | hx
 ·exact form_txt _ _
 ·rcases List.mem_cons.1 hx with rfl | hx
  ·refine form_list (by omega) (by have := hp a ha; simp; omega) fun x hx => ?_
   obtain ⟨k, _, rfl⟩ := List.mem_map.1 hx
   exact form_txt _ _
  ·cases hx
theorem wt_txt (b : ByteArray) : wtF (txt b) = 10 + b.size := by rw [txt, wtF, wtL, Nat.add_zero]
theorem wtL_map {α : Type} (f : α → Itm) (m : Nat) : ∀ (l : List α), (∀ a ∈ l, wtF (f a) ≤ m) → wtL (l.map f) ≤ l.length * m
 | [], _ => by simp [wtL]
 | a :: l, h => by
  have h1 := h a (by simp)
  have h2 := wtL_map f m l fun b hb => h b (by simp [hb])
  rw [List.map_cons, wtL, List.length_cons, Nat.add_mul]
  omega
theorem wt_accI {l : List AccV} (hl : l.length ≤ 16) (hp : ∀ a ∈ l, a.addr.size = 20 ∧ a.keys.length ≤ 16 ∧ ∀ k ∈ a.keys, k.size = 32) : wtF (accI l) ≤ 11600 := by
 have h1 : ∀ a ∈ l, wtF (pairI a) ≤ 722 := fun a ha => by
  obtain ⟨p1, p2, p3⟩ := hp a ha
  have h2 := wtL_map txt 42 a.keys fun k hk => by rw [wt_txt, p3 k hk]; exact Nat.le_refl _
  have h3 : a.keys.length * 42 ≤ 16 * 42 := Nat.mul_le_mul_right _ p2
  rw [pairI, wtF, wtL, wtL, wtL, wt_txt, wtF, p1]
  simp only [show (⟨#[]⟩ : ByteArray).size = 0 from rfl]
  omega
 have h4 := wtL_map pairI 722 l h1
 have h5 : l.length * 722 ≤ 16 * 722 := Nat.mul_le_mul_right _ hl
 rw [accI, wtF]
 simp only [show (⟨#[]⟩ : ByteArray).size = 0 from rfl]
 omega
theorem nB_size (n : Nat) : (nB n).size ≤ 32 := by
 have h := beN_len n
 unfold nB
 obtain ⟨t, ht⟩ : ∃ t, beN n = t := ⟨_, rfl⟩
 rw [ht] at h ⊢
 rw [← ba_len]
 simpa using h
theorem TxC.rest {t : TxV} (h : TxC t) : wtF (restI t) ≤ 20000 ∧ formF (restI t) 0 = 0 := by
 have h1 := nB_size t.value; have h2 := nB_size t.tip; have h3 := nB_size t.price
 have h4 := wt_accI h.acc h.pair
 have h5 := h.data
 have h6 := fun d hd => form_accI h.acc (fun a ha => (h.pair a ha).2.1) d hd
 constructor
 ·unfold restI
  rw [wtF]
  simp only [show (⟨#[]⟩ : ByteArray).size = 0 from rfl]
  split
  ·simp only [wtL, wt_txt]; omega
  split
  ·simp only [wtL, wt_txt]; omega
  ·simp only [wtL, wt_txt]; omega
 ·unfold restI
  split
  ·exact form_list (by omega) (by simp) fun x hx => by simp at hx; rcases hx with rfl | rfl | rfl <;> exact form_txt _ _
  split
  ·exact form_list (by omega) (by simp) fun x hx => by simp at hx; rcases hx with rfl | rfl | rfl | rfl <;> first | exact form_txt _ _ | exact h6 1 (by omega)
  ·exact form_list (by omega) (by simp) fun x hx => by simp at hx; rcases hx with rfl | rfl | rfl | rfl | rfl <;> first | exact form_txt _ _ | exact h6 1 (by omega)
theorem TxC.check {t : TxV} (h : TxC t) : checkI (restI t) = 0 ∧ (bytesF (restI t)).length ≤ 20000 := by
 obtain ⟨h1, h2⟩ := h.rest
 have h3 := bytesF_len (restI t) (by omega)
 refine ⟨?_, by omega⟩
 unfold checkI
 rw [h2, if_neg (by simp), if_neg (by omega)]
theorem TxC.enc {t : TxV} (h : TxC t) : encB (restI t) = bytesF (restI t) := by unfold encB; rw [if_pos h.check.1]
theorem restBy_len {t : TxV} (h : TxC t) : (restBy t).length ≤ 20001 := by
 have := h.check.2
 unfold restBy
 rw [h.enc]
 split
 ·simp; omega
 split <;> (simp; omega)
end Go.Proofs.YtgclnikdkfpflaaGreatDoor
