/- Merged: CpB, CpC, CpD, CpE. -/
import Derived.Test.YtgclnikdkfpflaaGreatDoorMt1
import Derived.Test.YtgclnikdkfpflaaGreatDoorMt22
namespace Go.Proofs.YtgclnikdkfpflaaGreatDoor
open Go.RowKit Go.Shelf
open List renaming set_cons_zero → jz, set_cons_succ → js, setIfInBounds_toArray → jb
set_option linter.unusedVariables false
set_option linter.unusedSimpArgs false
set_option maxRecDepth 100000
set_option maxHeartbeats 16000000
def At (l : List UInt8) (a : Nat) (x : List UInt8) : Prop := ∃ y, l.drop a = x ++ y
theorem At.le {l x : List UInt8} {a : Nat} (h : At l a x) (ha : a ≤ l.length) : a + x.length ≤ l.length := by
 obtain ⟨y, hy⟩ := h
 have := congrArg List.length hy
 simp at this
 omega
theorem At.left {l x y : List UInt8} {a : Nat} (h : At l a (x ++ y)) : At l a x := by
 obtain ⟨z, hz⟩ := h
 exact ⟨y ++ z, by rw [hz, List.append_assoc]⟩
theorem At.right {l x y : List UInt8} {a : Nat} (h : At l a (x ++ y)) : At l (a + x.length) y := by
 obtain ⟨z, hz⟩ := h
 refine ⟨z, ?_⟩
 rw [← List.drop_drop, hz, List.append_assoc, List.drop_left]
theorem At.take {l x : List UInt8} {a : Nat} (h : At l a x) : (l.drop a).take x.length = x := by
 obtain ⟨y, hy⟩ := h
 rw [hy, List.take_left]
theorem At.get {l x : List UInt8} {a i : Nat} (h : At l a x) (hi : i < x.length) : l[a + i]? = x[i]? := by
 obtain ⟨y, hy⟩ := h
 have := congrArg (fun z => z[i]?) hy
 simp only [List.getElem?_drop] at this
 rw [this, List.getElem?_append_left hi]
theorem At.agree {l x : List UInt8} {a : Nat} (h : At l a x) : Agree x 0 l a x.length := fun j hj => by rw [h.get hj, Nat.zero_add]
theorem ba_takeC (s : ByteArray) (a n : Nat) : (s.extract a (a + n)).data.toList = (s.data.toList.drop a).take n := by
 rw [Lib.extract_data]
 simp [List.take_drop]
theorem itR_back {l : List UInt8} {a : Nat} {x : Itm} (h : checkI x = 0) (hat : At l a (bytesF x)) : itR l a = .ok (x, a + (bytesF x).length) := by
 have hd := decode_back h
 obtain ⟨d1, d2, d3⟩ := decode_head hd
 have hag : Agree (bytesF x) 0 l a (lookFrom (bytesF x) ((0 : Nat) : Int) + lookN (bytesF x) ((0 : Nat) : Int) - 0) := by
  have e : lookFrom (bytesF x) ((0 : Nat) : Int) + lookN (bytesF x) ((0 : Nat) : Int) - 0 = (bytesF x).length := d3
  rw [e]; exact hat.agree
 obtain ⟨s1, s2, s3, s4⟩ := look_shift (l := bytesF x) (a := 0) d1 hag
 have e : lookFrom l (a : Int) + lookN l (a : Int) = a + (bytesF x).length := by
  have d3' : lookFrom (bytesF x) ((0 : Nat) : Int) + lookN (bytesF x) ((0 : Nat) : Int) = (bytesF x).length := d3
  omega
 unfold itR
 rw [if_neg (by rw [s1]; simp), e, show a + (bytesF x).length - a = (bytesF x).length by omega, hat.take, hd]
theorem itR_only {l : List UInt8} {a T : Nat} {x : Itm} (h : itR l a = .ok (x, T)) : a < T ∧ T ≤ l.length ∧ checkI x = 0 ∧ bytesF x = (l.drop a).take (T - a) := by
 unfold itR at h
 split at h
 ·cases h
 ·rename_i h0
  have h0 := Classical.not_not.1 h0
  obtain ⟨k1, k2, k3, k4, _⟩ := look_ok h0
  split at h
  ·cases h
  ·rename_i y hy
   cases h
   obtain ⟨d1, d2, _⟩ := decode_only hy
   exact ⟨k4, k2, d1, d2⟩
theorem itW_nB {n : Nat} (h : n < 115792089237316195423570985008687907853269984665640564039457584007913129639936) : itW (txt (nB n)) = n ∧ wordE (txt (nB n)).list (txt (nB n)).bytes = 0 := by
 have h2 : n < 256 ^ 32 := by rw [pow256]; exact h
 have hp := (parse_beN n h2).1
 have hv := beV_beN n h2
 unfold nB
 obtain ⟨t, ht⟩ : ∃ t, beN n = t := ⟨_, rfl⟩
 rw [ht] at hp hv ⊢
 constructor
 ·unfold itW
  rw [if_pos ⟨rfl, hp⟩]; exact hv
 ·exact hp
theorem txt_dt {d : ByteArray} (h : d.size ≤ 4096) : dtE (txt d) = 0 ∧ dtV (txt d) = d := by
 have e : textE d.size 0 4096 = 0 := by unfold textE; rw [if_neg (by omega), if_neg (by omega)]
 constructor
 ·exact e
 ·unfold dtV; rw [if_pos ⟨rfl, e⟩]; rfl
theorem exsF_0 (n : Nat) : ∀ (ks : List ByteArray), (∀ k ∈ ks, k.size = n) → exsF n 0 (ks.map txt) = 0
 | [], _ => rfl
 | k :: ks, h => by
  have e : exE (txt k).list (txt k).bytes.size n 0 = 0 := by
   unfold exE
   have h1 : (txt k).bytes.size = n := h k (by simp)
   have h2 : (txt k).list = false := rfl
   rw [h1, h2]; simp [kE]
  have := exsF_0 n ks fun x hx => h x (by simp [hx])
  unfold exsF at this ⊢
  rw [List.map_cons, List.foldl_cons, e]
  exact this
theorem rwE_fit {n : Nat} {few many : Int} (h1 : few ≤ (n : Int)) (h2 : (n : Int) ≤ many) : rwE true n few many 0 = 0 := by
 unfold rwE textE
 rw [if_pos rfl, if_pos rfl, if_neg (by omega), if_neg (by omega)]
theorem rwL_0 {few many : Int} {y : Itm} {E : Int} (h : rwF few many y E = 0) : rwL few many y E = y.items := if_pos h
theorem prV_pair {a : AccV} (h : a.addr.size = 20 ∧ a.keys.length ≤ 16 ∧ ∀ k ∈ a.keys, k.size = 32) : rwF 2 2 (pairI a) 0 = 0 ∧ prV (pairI a) = a ∧ prE (pairI a) = 0 := by
 obtain ⟨h1, h2, h3⟩ := h
 have e1 : prE1 (pairI a) = 0 := by
  unfold prE1 exE prA pairI
  show kE 0 (if (false || decide (a.addr.size ≠ 20)) = true then 2 else 0) = 0
  rw [h1]; rfl
 have e2 : rwF 0 16 (prK (pairI a)) 0 = 0 := by
  refine rwE_fit (n := (a.keys.map txt).length) (by omega) (by simp; omega)
 have e3 : prZ (pairI a) = a.keys.map txt := by
  unfold prZ
  rw [e1, rwL_0 e2]; rfl
 refine ⟨rwE_fit (n := 2) (by omega) (by omega), ?_, ?_⟩
 ·unfold prV
  rw [e3, List.map_map]
  have : (Itm.bytes ∘ txt) = id := rfl
  rw [this, List.map_id]; rfl
 ·unfold prE
  rw [e3, e1, e2]
  exact exsF_0 32 a.keys h3
theorem accGo_back : ∀ (l : List AccV), (∀ a ∈ l, a.addr.size = 20 ∧ a.keys.length ≤ 16 ∧ ∀ k ∈ a.keys, k.size = 32) → accGo (l.map pairI) 0 = (l, 0)
 | [], _ => rfl
 | a :: l, h => by
  obtain ⟨e1, e2, e3⟩ := prV_pair (h a (by simp))
  rw [List.map_cons, accGo, if_neg (by rw [e1]; simp), e2, e3, accGo_back l fun b hb => h b (by simp [hb])]
theorem accX_back {l : List AccV} (hl : l.length ≤ 16) (h : ∀ a ∈ l, a.addr.size = 20 ∧ a.keys.length ≤ 16 ∧ ∀ k ∈ a.keys, k.size = 32) : accX (accI l) 0 = (l, 0) := by
 have e1 : rwF 0 16 (accI l) 0 = 0 := rwE_fit (n := (l.map pairI).length) (by omega) (by simp; omega)
 have e2 : rwL 0 16 (accI l) 0 = l.map pairI := by rw [rwL_0 e1]; rfl
 unfold accX
 rw [e1, e2, accGo_back l h]
theorem byt_at {s : ByteArray} {a i : Nat} {x : List UInt8} (h : At s.data.toList a x) (hi : i < x.length) : byt s (a + i) = (x.getD i 0).toNat := by
 unfold byt
 rw [List.getD_eq_getElem?_getD, h.get hi, ← List.getD_eq_getElem?_getD]
theorem kind_nat {t : TxV} (h : TxC t) : ∃ kd : Nat, t.kind = (kd : Int) ∧ (kd = 0 ∨ kd = 1 ∨ kd = 2) := by
 rcases h.kind with h | h | h
 ·exact ⟨0, h, .inl rfl⟩
 ·exact ⟨1, h, .inr (.inl rfl)⟩
 ·exact ⟨2, h, .inr (.inr rfl)⟩
theorem restR_back {s : ByteArray} {a : Nat} {t : TxV} (h : TxC t) (ok : t.Ok) (hat : At s.data.toList a (restBy t)) (ha : a ≤ s.size) : ∃ kd : Nat, t.kind = (kd : Int) ∧ kdV s a 0 = kd ∧ restR s a 0 = .ok ((restI t).items, a + (restBy t).length) ∧ ∀ y R S dst, gotT kd (restI t).items y R S dst = { t with chain := 0, nonce := 0, gas := 0, y := y, r := R, s := S, dst := dst } := by
 obtain ⟨kd, hk, hk3⟩ := kind_nat h
 obtain ⟨l1, l2, l3, l4, l5, l6, l7⟩ := h.lacks
 have hle := hat.le (by rw [ba_len]; exact ha)
 rw [ba_len] at hle
 have hck := h.check.1
 obtain ⟨z, zl, hz, hz1, _⟩ := bytesF_first (restI t) (by have := h.rest.1; omega)
 have hz1 := hz1 rfl
 have hrb : restBy t = (if kd = 0 then [] else [UInt8.ofNat kd]) ++ bytesF (restI t) := by
  unfold restBy
  rw [h.enc, hk]
  rcases hk3 with rfl | rfl | rfl <;> rfl
 have hlen : (restBy t).length = (if kd = 0 then 0 else 1) + (bytesF (restI t)).length := by
  rw [hrb]; split <;> simp; omega
 have hpos : 1 ≤ (bytesF (restI t)).length := bytesF_pos _
 have hE : kdE s a 0 = 0 ∧ kdV s a 0 = kd ∧ kdA s a = a + (if kd = 0 then 0 else 1) := by
  rcases hk3 with rfl | hk3
  ·have hb : byt s a = z.toNat := by
    have := byt_at (i := 0) hat (by omega)
    rw [hrb, hz] at this
    exact this
   unfold kdE kdV kdA
   rw [hb]
   simp only [ne_eq, not_true_eq_false, if_false, if_true]
   rw [if_neg (by omega), if_pos hz1, if_neg (by omega), if_pos hz1, if_pos hz1]
   exact ⟨rfl, rfl, rfl⟩
  ·have hne : ¬ kd = 0 := by omega
   rw [if_neg hne] at hrb hlen
   have hb : byt s a = kd := by
    have := byt_at (i := 0) hat (by omega)
    rw [hrb] at this
    rw [Nat.add_zero] at this
    rw [this]
    rcases hk3 with rfl | rfl <;> rfl
   have hb1 : byt s (a + 1) = z.toNat := by
    have := byt_at (i := 1) hat (by omega)
    rw [hrb, hz] at this
    exact this
   unfold kdE kdV kdA
   rw [hb, hb1]
   simp only [ne_eq, not_true_eq_false, if_false, if_neg hne]
   rw [if_neg (by omega), if_neg (by omega), if_neg (by omega), if_neg (by omega), if_neg (by omega), if_neg (by omega), if_neg (by omega), if_neg (by omega), if_neg (by omega)]
   exact ⟨rfl, rfl, rfl⟩
 obtain ⟨e1, e2, e3⟩ := hE
 have hat2 : At s.data.toList (kdA s a) (bytesF (restI t)) := by
  rw [e3]
  rw [hrb] at hat
  have := hat.right
  rcases hk3 with rfl | rfl | rfl <;> exact this
 have hit := itR_back hck hat2
 have hT : kdA s a + (bytesF (restI t)).length = a + (restBy t).length := by rw [e3, hlen]; omega
 rw [hT] at hit
 obtain ⟨v1, v2⟩ := itW_nB ok.value
 obtain ⟨p1, p2⟩ := itW_nB ok.price
 obtain ⟨t1, t2⟩ := itW_nB ok.tip
 obtain ⟨d1, d2⟩ := txt_dt h.data
 have hax := accX_back h.acc h.pair
 obtain ⟨V, hV⟩ : ∃ x, txt (nB t.value) = x := ⟨_, rfl⟩
 obtain ⟨Tt, hTt⟩ : ∃ x, txt (nB t.tip) = x := ⟨_, rfl⟩
 obtain ⟨Pp, hPp⟩ : ∃ x, txt (nB t.price) = x := ⟨_, rfl⟩
 obtain ⟨D, hD⟩ : ∃ x, txt t.data = x := ⟨_, rfl⟩
 obtain ⟨A, hA⟩ : ∃ x, accI t.acc = x := ⟨_, rfl⟩
 have hI : (restI t).list = true ∧ (restI t).items = if kd = 0 then [V, Pp, D] else if kd = 1 then [V, Pp, D, A] else [V, Tt, Pp, D, A] := by
  unfold restI
  rw [hk, hV, hTt, hPp, hD, hA]
  rcases hk3 with rfl | rfl | rfl <;> exact ⟨rfl, rfl⟩
 rw [hV] at v1 v2
 rw [hTt] at t1 t2
 rw [hPp] at p1 p2
 rw [hD] at d1 d2
 rw [hA] at hax
 obtain ⟨I, hIe⟩ : ∃ x, restI t = x := ⟨_, rfl⟩
 rw [hIe] at hit hI ⊢
 obtain ⟨hIl, hI⟩ := hI
 obtain ⟨zs, hzs⟩ : ∃ x, I.items = x := ⟨_, rfl⟩
 rw [hzs] at hI ⊢
 have hF : rwF (3 + (kd : Nat)) (3 + (kd : Nat)) I 0 = 0 := by
  have hl : zs.length = 3 + kd := by
   rw [hI]; rcases hk3 with rfl | rfl | rfl <;> rfl
  unfold rwF
  rw [hIl, hzs]
  exact rwE_fit (n := zs.length) (by omega) (by omega)
 have hG : gotA kd zs = (t.acc, 0) := by
  rw [hI]
  rcases hk3 with rfl | rfl | rfl
  ·have e : gotE1 0 [V, Pp, D] = 0 := by
    show kE (kE (kE 0 (wordE V.list V.bytes)) (wordE Pp.list Pp.bytes)) (dtE D) = 0
    rw [v2, p2, d1]; rfl
   show (([] : List AccV), gotE1 0 [V, Pp, D]) = (t.acc, 0)
   rw [e, l7 (by rw [hk]; rfl)]
  ·have e : gotE1 1 [V, Pp, D, A] = 0 := by
    show kE (kE (kE 0 (wordE V.list V.bytes)) (wordE Pp.list Pp.bytes)) (dtE D) = 0
    rw [v2, p2, d1]; rfl
   show accX A (gotE1 1 [V, Pp, D, A]) = (t.acc, 0)
   rw [e, hax]
  ·have e : gotE1 2 [V, Tt, Pp, D, A] = 0 := by
    show kE (kE (kE (kE 0 (wordE V.list V.bytes)) (wordE Tt.list Tt.bytes)) (wordE Pp.list Pp.bytes)) (dtE D) = 0
    rw [v2, t2, p2, d1]; rfl
   show accX A (gotE1 2 [V, Tt, Pp, D, A]) = (t.acc, 0)
   rw [e, hax]
 refine ⟨kd, hk, e2, ?_, fun y R S dst => ?_⟩
 ·unfold restR
  rw [if_neg (by rw [e1]; simp), hit]
  dsimp only
  rw [e2, if_neg (by rw [hF]; simp), hzs, hG]
  simp
 ·have hG1 : (gotA kd zs).1 = t.acc := by rw [hG]
  clear hV hTt hPp hD hA hIe hIl hzs hF hG hit hat hat2 hrb hlen hpos hz hck hax d1 v2 t2 p2
  obtain ⟨c1, c2, c3, c4, c5, c6, c7, c8, c9, c10, c11, c12, c13, c14, c15, c16, c17, c18⟩ := t
  simp only at hk l1 l2 l3 l4 l5 l6 l7 v1 p1 t1 d2 hG1
  subst hk; subst l1; subst l2; subst l3; subst l4; subst l5
  unfold gotT
  rw [hG1, hI]
  rcases hk3 with rfl | rfl | rfl
  ·have := l6 (by simp)
   subst this
   show (TxV.mk _ 0 0 0 (itW Pp) 0 dst (itW V) (dtV D) c10 [] y R S ⟨#[]⟩ ⟨#[]⟩ 0 false) = _
   rw [v1, p1, d2]
  ·have := l6 (by simp)
   subst this
   show (TxV.mk _ 0 0 0 (itW Pp) 0 dst (itW V) (dtV D) c10 [] y R S ⟨#[]⟩ ⟨#[]⟩ 0 false) = _
   rw [v1, p1, d2]
  ·show (TxV.mk _ 0 0 (itW Tt) (itW Pp) 0 dst (itW V) (dtV D) c10 [] y R S ⟨#[]⟩ ⟨#[]⟩ 0 false) = _
   rw [v1, p1, t1, d2]
theorem tk_at {s : ByteArray} {a k : Nat} {x : List UInt8} (h : At s.data.toList a x) (ha : a ≤ s.size) (hk : x.length = k) : tkE s a k 0 = 0 ∧ tkA s a k 0 = a + k ∧ (tkS s a k 0).data.toList = x := by
 have hle := h.le (by rw [ba_len]; exact ha)
 rw [ba_len] at hle
 have e : tkE s a k 0 = 0 := by unfold tkE; rw [if_pos rfl, if_neg (by omega)]
 refine ⟨e, ?_, ?_⟩
 ·unfold tkA; rw [if_pos e]
 ·unfold tkS; rw [if_pos e, ba_takeC, ← hk]; exact h.take
theorem bits_at {s : ByteArray} {a n : Nat} {bs : List Bool} (h : At s.data.toList a (packL bs)) (ha : a ≤ s.size) (hn : bs.length = n) (hm : n ≤ 4096) : btE s a n 0 = 0 ∧ btA s a n 0 = a + (packL bs).length ∧ btL s a n 0 = bs := by
 have hl := packL_len bs
 rw [hn] at hl
 obtain ⟨t1, t2, t3⟩ := tk_at h ha hl
 obtain ⟨u1, u2⟩ := unpack_pack bs (by omega)
 rw [hn] at u1 u2
 have e : btE s a n 0 = 0 := by unfold btE; rw [if_pos t1, t3]; exact u1
 refine ⟨e, ?_, ?_⟩
 ·unfold btA; rw [t2, hl]
 ·unfold btL; rw [if_pos e, t3]; exact u2
theorem numbers_at {s : ByteArray} {a n : Nat} {xs : List Nat} (h : At s.data.toList a (rowL (xs.map fun (x : Nat) => (x : Int)))) (ha : a ≤ s.size) (hn : xs.length = n) (hm : n ≤ 4096) (hx : ∀ x ∈ xs, x < 18446744073709551616) :
  nuE s a n 0 = 0 ∧ nuA s a n 0 = a + (rowL (xs.map fun (x : Nat) => (x : Int))).length ∧ nuN s a n 0 = xs := by
 obtain ⟨y, hy⟩ := h
 have hl : s.data.toList = s.data.toList.take a ++ rowL (xs.map fun (x : Nat) => (x : Int)) ++ y := by
  rw [List.append_assoc, ← hy, List.take_append_drop]
 have ht : (s.data.toList.take a).length = a := by
  have := ba_len s
  rw [List.length_take]; omega
 have hb := unrowS_back (s.data.toList.take a) y (xs.map fun (x : Nat) => (x : Int)) (fun z hz => by obtain ⟨x, hx1, rfl⟩ := List.mem_map.1 hz; have := hx x hx1; omega) (by simp; omega)
 rw [← hl, ht, List.length_map, hn] at hb
 have e : nuE s a n 0 = 0 := by unfold nuE; rw [if_pos rfl, hb]
 refine ⟨e, ?_, ?_⟩
 ·unfold nuA; rw [if_pos e, hb]
 ·unfold nuN nuL
  rw [if_pos e, hb, List.map_map]
  exact (List.map_congr_left fun x hx => by simp).trans (List.map_id xs)
theorem fixN_be {p : Nat} (h : p < 115792089237316195423570985008687907853269984665640564039457584007913129639936) : fixN p = beFix 32 p := by
 have h2 : p < 256 ^ 32 := by rw [pow256]; exact h
 unfold fixN
 rw [fixL_be _ _ _ _ (wp_lt p 0) (wp_lt p 1) (wp_lt p 2) (wp_lt p 3), wp_join p h2]
theorem fixN_len (p : Nat) : (fixN p).length = 32 := fixL_len _
theorem wd_at {s : ByteArray} {a p : Nat} (h : At s.data.toList a (fixN p)) (ha : a ≤ s.size) (hp : p < 115792089237316195423570985008687907853269984665640564039457584007913129639936) : wdN s a 0 = p := by
 obtain ⟨t1, _, t3⟩ := tk_at h ha (fixN_len p)
 unfold wdN
 rw [if_pos t1, t3, fixN_be hp]
 exact beV_fix 32 p (by rw [pow256]; exact hp)
theorem catB_cons (x : ByteArray) (xs : List ByteArray) : catB (x :: xs) = x.data.toList ++ catB xs := rfl
theorem catB_nil : catB [] = [] := rfl
theorem sigT_len (t : TxV) : (sigT t).data.toList.length = 64 := by
 show ((fixN t.r ++ fixN t.s).toArray.toList).length = 64
 simp [fixN_len]
theorem sigs_drop : ∀ (L : List TxV) (i : Nat), (catB (L.map sigT)).drop (64 * i) = catB ((L.drop i).map sigT)
 | L, 0 => by simp
 | [], i + 1 => by simp [catB]
 | t :: L, i + 1 => by
  rw [List.map_cons, catB_cons, show 64 * (i + 1) = (sigT t).data.toList.length + 64 * i by rw [sigT_len]; omega, ← List.drop_drop, List.drop_left, sigs_drop L i]
  rfl
def strip (t : TxV) : TxV := { t with chain := 0, nonce := 0, gas := 0 }
theorem getGo_back {s sgs : ByteArray} {L : List TxV} (hL : ∀ t ∈ L, TxC t ∧ t.Ok) (hs : sgs.data.toList = catB (L.map sigT)) : ∀ (m i a : Nat) (tos : ByteArray), i + m = L.length → a ≤ s.size → At s.data.toList a (catB ((L.drop i).map restT)) → tos.data.toList = catB ((L.drop i).map TxV.dst) →
  getGo s sgs (L.map fun t => decide (t.dst.size = 0)) (L.map fun t => decide (t.y = 1)) m i a tos = .ok ((L.drop i).map strip, a + (catB ((L.drop i).map restT)).length)
 | 0, i, a, tos, hi, ha, hat, ht => by
  rw [getGo, List.drop_eq_nil_of_le (by omega)]; rfl
 | m + 1, i, a, tos, hi, ha, hat, ht => by
  have hlt : i < L.length := by omega
  have ed : L.drop i = L[i] :: L.drop (i + 1) := List.drop_eq_getElem_cons hlt
  obtain ⟨t, htt⟩ : ∃ t, L[i] = t := ⟨_, rfl⟩
  rw [htt] at ed
  have hmem : t ∈ L := by rw [← htt]; exact List.getElem_mem _
  obtain ⟨hc, ok⟩ := hL t hmem
  rw [ed, List.map_cons, catB_cons] at hat ht
  have hrt : (restT t).data.toList = restBy t := by simp [restT]
  rw [hrt] at hat
  obtain ⟨kd, k1, k2, k3, k4⟩ := restR_back hc ok hat.left ha
  have hle := hat.left.le (by rw [ba_len]; exact ha)
  rw [ba_len] at hle
  have hsa : At sgs.data.toList (64 * i) (fixN t.r ++ fixN t.s) := by
   refine ⟨catB ((L.drop (i + 1)).map sigT), ?_⟩
   rw [hs, sigs_drop, ed, List.map_cons, catB_cons]
   congr 1
  have hsz : 64 * i + 64 ≤ sgs.size := by
   have h1 := hsa.le (by
    rw [hs]
    have : (catB (L.map sigT)).length = 64 * L.length := by
     clear hs hL hsa
     have : ∀ M : List TxV, (catB (M.map sigT)).length = 64 * M.length := fun M => by
      induction M with
      | nil => rfl
      | cons x M ih => rw [List.map_cons, catB_cons, List.length_append, sigT_len, ih, List.length_cons]; omega
     exact this L
    rw [this]; omega)
   simp only [List.length_append, fixN_len] at h1
   rw [ba_len] at h1
   omega
  have hR := wd_at hsa.left (by omega) ok.r
  have hS := wd_at (a := 64 * i + 32) (by have := hsa.right; rwa [fixN_len] at this) (by omega) ok.s
  have hn : (L.map fun t => decide (t.dst.size = 0)).getD i false = decide (t.dst.size = 0) := by
   rw [List.getD_eq_getElem?_getD, List.getElem?_map, List.getElem?_eq_getElem hlt, htt]; rfl
  have hy : (L.map fun t => decide (t.y = 1)).getD i false = decide (t.y = 1) := by
   rw [List.getD_eq_getElem?_getD, List.getElem?_map, List.getElem?_eq_getElem hlt, htt]; rfl
  have hdst : (if (L.map fun t => decide (t.dst.size = 0)).getD i false = false ∧ 20 ≤ tos.size then tos.extract 0 20 else ⟨#[]⟩) = t.dst ∧ (if (L.map fun t => decide (t.dst.size = 0)).getD i false = false ∧ 20 ≤ tos.size then tos.extract 20 tos.size else tos).data.toList = catB ((L.drop (i + 1)).map TxV.dst) := by
   rw [hn]
   have hdl := ba_len t.dst
   have htl := ba_len tos
   rcases hc.dst with h0 | h20
   ·have hz : t.dst = ⟨#[]⟩ := size_zero h0
    rw [if_neg (by simp [h0]), if_neg (by simp [h0])]
    refine ⟨hz.symm, ?_⟩
    rw [ht, hz]; rfl
   ·have h20' : 20 ≤ tos.size := by
     have := congrArg List.length ht
     simp only [List.length_append] at this
     omega
    rw [if_pos ⟨by simp [h20], h20'⟩, if_pos ⟨by simp [h20], h20'⟩]
    constructor
    ·refine ba_ext ?_
     have := ba_takeC tos 0 20
     rw [Nat.zero_add] at this
     rw [this, ht, List.drop_zero, ← h20, ← hdl, List.take_left]
    ·have := ba_takeC tos 20 (tos.size - 20)
     rw [show 20 + (tos.size - 20) = tos.size by omega] at this
     rw [this, ht, ← h20, ← hdl, List.drop_left]
     refine List.take_of_length_le ?_
     have := congrArg List.length ht
     simp only [List.length_append] at this
     omega
  have hnext := getGo_back hL hs m (i + 1) (a + (restBy t).length) (if (L.map fun t => decide (t.dst.size = 0)).getD i false = false ∧ 20 ≤ tos.size then tos.extract 20 tos.size else tos) (by omega) hle hat.right hdst.2
  rw [getGo_good k3, hnext, hdst.1, hR, hS, k2, k4, hy, ed, List.map_cons, List.map_cons, catB_cons, hrt]
  have hyv : (if decide (t.y = 1) = true then 1 else 0) = t.y := by
   have := hc.y
   by_cases h1 : t.y = 1
   ·simp [h1]
   ·have : t.y = 0 := by omega
    simp [this]
  rw [hyv]
  unfold glueT
  simp only [List.length_append, Nat.add_assoc]
  rfl
theorem fill_back {chain : Nat} (hc0 : chain ≠ 0) : ∀ (ls : List TxV), (∀ t ∈ ls, t.chain = chain ∨ t.kind = 0 ∧ t.chain = 0) → fillGo chain (ls.map strip) (ls.map TxV.nonce) (ls.map TxV.gas) ((ls.filter fun t => decide (t.kind = 0)).map fun t => decide (t.chain ≠ 0)) = ls
 | [], _ => rfl
 | t :: ls, h => by
  have h1 := h t (by simp)
  have ih := fill_back hc0 ls fun x hx => h x (by simp [hx])
  rw [List.map_cons, fillGo]
  by_cases hk : t.kind = 0
  ·rw [if_pos (show (strip t).kind = 0 from hk), List.filter_cons_of_pos (by simp [hk]), List.map_cons]
   simp only [List.map_cons, List.headD_cons, List.tail_cons]
   rw [ih]
   congr 1
   unfold fillT strip
   have : (if decide (t.chain ≠ 0) = true then chain else 0) = t.chain := by
    rcases h1 with h1 | ⟨_, h1⟩
    ·rw [h1, if_pos (by simp [hc0])]
    ·rw [h1]; simp
   rw [this]
  ·rw [if_neg (show ¬ (strip t).kind = 0 from hk), List.filter_cons_of_neg (by simp [hk])]
   simp only [List.map_cons, List.headD_cons, List.tail_cons]
   rw [ih]
   congr 1
   unfold fillT strip
   rcases h1 with h1 | ⟨h2, _⟩
   ·rw [if_pos rfl, ← h1]
   ·exact absurd h2 hk
theorem colL_all {α : Type} (f : TxV → α) (ls : List TxV) : colL f (fun _ => true) ls = ls.map f := by
 unfold colL; rw [List.filter_eq_self.2 (fun _ _ => rfl)]
theorem colsL_eq (ls : List TxV) : colsL ls = packL (ls.map fun t => decide (t.dst.size = 0)) ++ (packL (ls.map fun t => decide (t.y = 1)) ++ (catB (ls.map sigT) ++ (catB (ls.map TxV.dst) ++ (catB (ls.map restT) ++ (rowL ((ls.map TxV.nonce).map fun (x : Nat) => (x : Int)) ++ (rowL ((ls.map TxV.gas).map fun (x : Nat) => (x : Int)) ++ packL ((ls.filter fun t => decide (t.kind = 0)).map fun t => decide (t.chain ≠ 0)))))))) := by
 unfold colsL colsB
 simp only [catB_cons, catB_nil, colL_all, List.map_map, List.append_nil, List.toList_toArray]
 rfl
theorem legN_strip (ls : List TxV) : legN (ls.map strip) = (ls.filter fun t => decide (t.kind = 0)).length := by
 unfold legN
 induction ls with
 | nil => rfl
 | cons t ls ih =>
  rw [List.map_cons, List.map_cons, List.count_cons, ih]
  by_cases hk : t.kind = 0
  ·rw [List.filter_cons_of_pos (by simp [hk])]
   simp [strip, hk]
  ·rw [List.filter_cons_of_neg (by simp [hk])]
   simp [strip, hk]
theorem cntB_map {α : Type} (p : α → Bool) (ls : List α) : cntB (ls.map p) = (ls.filter p).length := by
 unfold cntB
 rw [List.count_eq_countP, List.countP_map, List.countP_eq_length_filter]
 congr 1
 exact List.filter_congr fun x _ => by simp
theorem dst_len : ∀ (ls : List TxV), (∀ t ∈ ls, TxC t) → (catB (ls.map TxV.dst)).length = 20 * (ls.length - cntB (ls.map fun t => decide (t.dst.size = 0))) := fun ls h => by
 rw [cntB_map]
 induction ls with
 | nil => rfl
 | cons t ls ih =>
  have hl := ba_len t.dst
  have ih := ih fun x hx => h x (by simp [hx])
  have hle := List.length_filter_le (fun t : TxV => decide (t.dst.size = 0)) ls
  rw [List.map_cons, catB_cons, List.length_append, ih, List.length_cons]
  rcases (h t (by simp)).dst with h0 | h20
  ·rw [List.filter_cons_of_pos (by simp [h0]), List.length_cons]; omega
  ·rw [List.filter_cons_of_neg (by simp [h20])]; omega
theorem firstE_0 {f : TxV → Int} : ∀ {ls : List TxV}, firstE f ls = 0 → ∀ t ∈ ls, f t = 0
 | [], _, t, h => by cases h
 | x :: r, h, t, ht => by
  rw [firstE] at h
  split at h
  ·rename_i h1; exact absurd h h1
  ·rename_i h1
   rcases List.mem_cons.1 ht with rfl | ht
   ·exact Classical.not_not.1 h1
   ·exact firstE_0 h t ht
theorem checkCol_0 {ls : List TxV} {chain : Nat} (h : checkCol ls chain = 0) : 0 < chain ∧ chain ≤ 4611686018427387904 ∧ ls.length ≤ 512 ∧ ∀ t ∈ ls, oneT chain t = 0 := by
 unfold checkCol at h
 split at h
 ·cases h
 ·rename_i h1
  split at h
  ·cases h
  ·rename_i h2
   simp only [Bool.or_eq_true, decide_eq_true_eq, not_or] at h1
   exact ⟨by omega, by omega, by omega, firstE_0 h⟩
theorem getR_put {s : ByteArray} {a chain : Nat} {ls : List TxV} (hck : checkCol ls chain = 0) (ok : ∀ t ∈ ls, t.Ok) (hat : At s.data.toList a (colsL ls)) (ha : a ≤ s.size) : getR s a ls.length chain = .ok (ls, a + (colsL ls).length) := by
 obtain ⟨hc0, hc1, hn, hone⟩ := checkCol_0 hck
 have hT : ∀ t ∈ ls, TxC t ∧ t.Ok := fun t ht => ⟨(oneT_ok (hone t ht)).1, ok t ht⟩
 have hle := hat.le (by rw [ba_len]; exact ha)
 rw [ba_len] at hle
 rw [colsL_eq] at hat hle ⊢
 simp only [List.length_append] at hle
 obtain ⟨n, hln⟩ : ∃ n, ls.length = n := ⟨_, rfl⟩
 rw [hln] at hn ⊢
 have h1 := hat.left; have r1 := hat.right
 obtain ⟨b1, b2, b3⟩ := bits_at (n := n) h1 ha (by simp [hln]) (by omega)
 have h2 := r1.left; have r2 := r1.right
 obtain ⟨c1, c2, c3⟩ := bits_at (n := n) h2 (by omega) (by simp [hln]) (by omega)
 have h3 := r2.left; have r3 := r2.right
 have hsl : (catB (ls.map sigT)).length = 64 * n := by
  have : ∀ M : List TxV, (catB (M.map sigT)).length = 64 * M.length := fun M => by
   induction M with
   | nil => rfl
   | cons x M ih => rw [List.map_cons, catB_cons, List.length_append, sigT_len, ih, List.length_cons]; omega
  rw [this, hln]
 obtain ⟨d1, d2, d3⟩ := tk_at h3 (by omega) hsl
 have h4 := r3.left; have r4 := r3.right
 have hdl := dst_len ls fun t ht => (hT t ht).1
 rw [hln] at hdl
 rw [hsl] at h4 r4 r3
 obtain ⟨e1, e2, e3⟩ := tk_at h4 (by omega) hdl
 have h5 := r4.left; have r5 := r4.right
 rw [hdl] at h5 r5
 have hgo := getGo_back (s := s) (sgs := tkS s (a + (packL (ls.map fun t => decide (t.dst.size = 0))).length + (packL (ls.map fun t => decide (t.y = 1))).length) (64 * n) 0) hT d3 n 0 _ (tkS s (a + (packL (ls.map fun t => decide (t.dst.size = 0))).length + (packL (ls.map fun t => decide (t.y = 1))).length + 64 * n) (20 * (n - cntB (ls.map fun t => decide (t.dst.size = 0)))) 0) (by rw [Nat.zero_add, hln]) (by omega) h5 e3
 rw [List.drop_zero] at hgo
 have hfix : fixR s n (btL s a n 0) (btA s a n 0) (btE s a n 0) = .ok (ls.map strip, a + (packL (ls.map fun t => decide (t.dst.size = 0))).length + (packL (ls.map fun t => decide (t.y = 1))).length + 64 * n + 20 * (n - cntB (ls.map fun t => decide (t.dst.size = 0))) + (catB (ls.map restT)).length) := by
  rw [b1, b2, b3]
  unfold fixR
  rw [c1, c2, c3, d1, d2, e1, e2, if_neg (by simp)]
  exact hgo
 have h6 := r5.left; have r6 := r5.right
 obtain ⟨f1, f2, f3⟩ := numbers_at (n := n) h6 (by omega) (by simp [hln]) (by omega) (fun x hx => by obtain ⟨t, ht, rfl⟩ := List.mem_map.1 hx; exact (ok t ht).nonce)
 have h7 := r6.left; have r7 := r6.right
 obtain ⟨g1, g2, g3⟩ := numbers_at (n := n) h7 (by omega) (by simp [hln]) (by omega) (fun x hx => by obtain ⟨t, ht, rfl⟩ := List.mem_map.1 hx; exact (ok t ht).gas)
 have hfl := List.length_filter_le (fun t : TxV => decide (t.kind = 0)) ls
 obtain ⟨i1, i2, i3⟩ := bits_at (n := legN (ls.map strip)) r7 (by omega) (by rw [legN_strip]; simp) (by rw [legN_strip]; omega)
 have hfb := fill_back (chain := chain) (by omega) ls fun t ht => (oneT_ok (hone t ht)).2
 unfold getR
 rw [hfix, endR]
 unfold lastR
 rw [f1, f2, f3, g1, g2, g3, i1, i2, i3, hfb, hck, if_neg (by simp), if_neg (by simp)]
 simp only [List.length_append, hsl, hdl, Nat.add_assoc]
theorem formL_memC {xs : List Itm} {d : Nat} (h : formL xs d = 0) : ∀ x ∈ xs, formF x d = 0 := by
 induction xs with
 | nil => intro x hx; cases hx
 | cons y ys ih =>
  rw [formL] at h
  split at h
  ·rename_i h1; exact absurd h h1
  ·rename_i h1
   intro x hx
   rcases List.mem_cons.1 hx with rfl | hx
   ·exact Classical.not_not.1 h1
   ·exact ih h x hx
theorem txt_ofC {y : Itm} {d : Nat} (hf : formF y d = 0) (hl : y.list = false) : y = txt y.bytes := by
 obtain ⟨l, b, xs⟩ := y
 simp only [Itm.list] at hl
 subst hl
 rw [formF_eq] at hf
 split at hf
 ·cases hf
 ·rename_i h
  have hx : xs = [] := by
   by_cases hx : xs.length = 0
   ·exact List.eq_nil_of_length_eq_zero hx
   ·exact absurd (.inr ⟨rfl, hx⟩) h
  subst hx
  rfl
theorem lst_ofC {y : Itm} {d : Nat} (hf : formF y d = 0) (hl : y.list = true) : y = .mk true ⟨#[]⟩ y.items ∧ ∀ z ∈ y.items, formF z (d + 1) = 0 := by
 obtain ⟨l, b, xs⟩ := y
 simp only [Itm.list] at hl
 subst hl
 rw [formF_eq] at hf
 split at hf
 ·cases hf
 ·rename_i h
  have hb : b = ⟨#[]⟩ := by
   by_cases hb : b.size = 0
   ·exact size_zero hb
   ·exact absurd (.inl ⟨rfl, hb⟩) h
  subst hb
  refine ⟨rfl, ?_⟩
  split at hf
  ·rename_i h2; cases h2
  ·split at hf
   ·cases hf
   ·split at hf
    ·cases hf
    ·exact formL_memC hf
theorem kE_0 {E e : Int} (h : kE E e = 0) : E = 0 ∧ e = 0 := by
 unfold kE at h
 split at h
 ·rename_i h1; exact ⟨h1, h⟩
 ·rename_i h1; exact absurd h h1
theorem parse_V {l : List UInt8} (h : parseE l = 0) : beN (beV l) = l := by
 unfold parseE at h
 split at h
 ·cases h
 ·rename_i h1
  split at h
  ·cases h
  ·rename_i h2
   cases l with
   | nil => exact by decide
   | cons x r => exact beN_beV _ (by omega) (fun e => h2 (by simpa using e))
theorem word_of {z : Itm} {d : Nat} (hf : formF z d = 0) (hw : wordE z.list z.bytes = 0) : z = txt (nB (itW z)) := by
 unfold wordE at hw
 split at hw
 ·cases hw
 ·rename_i hl
  have hl : z.list = false := by revert hl; cases z.list <;> simp
  have hz := txt_ofC hf hl
  have e : itW z = beV z.bytes.data.toList := by unfold itW; rw [if_pos ⟨hl, hw⟩]
  have hp := parse_V hw
  rw [e]
  unfold nB
  rw [hp]
  conv => lhs; rw [hz]
theorem data_of {z : Itm} {d : Nat} (hf : formF z d = 0) (hw : dtE z = 0) : z = txt (dtV z) := by
 unfold dtE at hw
 split at hw
 ·cases hw
 ·rename_i hl
  have hl : z.list = false := by revert hl; cases z.list <;> simp
  have e : dtV z = z.bytes := by unfold dtV; rw [if_pos ⟨hl, hw⟩]
  rw [e]
  exact txt_ofC hf hl
theorem rwF_0 {few many : Int} {y : Itm} {E : Int} (h : rwF few many y E = 0) : E = 0 ∧ y.list = true ∧ few ≤ (y.items.length : Int) ∧ (y.items.length : Int) ≤ many := by
 obtain ⟨h1, h2, h3⟩ := rwE_0 (show rwE _ _ _ _ _ = 0 from h)
 obtain ⟨h4, h5⟩ := textE_fit h3
 exact ⟨h1, h2, h4, h5⟩
theorem exsF_only {n : Nat} : ∀ {zs : List Itm} {E : Int}, exsF n E zs = 0 → E = 0 ∧ ∀ z ∈ zs, z.list = false ∧ z.bytes.size = n
 | [], E, h => ⟨h, fun z hz => by cases hz⟩
 | z :: zs, E, h => by
  unfold exsF at h
  rw [List.foldl_cons] at h
  obtain ⟨h1, h2⟩ := exsF_only (zs := zs) (E := exE z.list z.bytes.size n E) h
  unfold exE at h1
  obtain ⟨h3, h4⟩ := kE_0 h1
  have h5 : z.list = false ∧ z.bytes.size = n := by
   revert h4
   cases z.list
   ·by_cases hz : z.bytes.size = n
    ·exact fun _ => ⟨rfl, hz⟩
    ·simp [hz]
   ·simp
  refine ⟨h3, fun y hy => ?_⟩
  rcases List.mem_cons.1 hy with rfl | hy
  ·exact h5
  ·exact h2 y hy
theorem pair_of {y : Itm} {d : Nat} (hf : formF y d = 0) (h1 : rwF 2 2 y 0 = 0) (h2 : prE y = 0) : y = pairI (prV y) := by
 obtain ⟨_, hl, hn1, hn2⟩ := rwF_0 h1
 obtain ⟨hy, hi⟩ := lst_ofC hf hl
 obtain ⟨l, b, xs⟩ := y
 simp only [Itm.list, Itm.items] at hl hn1 hn2 hy hi
 match xs, hn1, hn2 with
 | [p, q], _, _ =>
  cases hy
  unfold prE at h2
  obtain ⟨h3, h4⟩ := exsF_only h2
  obtain ⟨h5, h6, _⟩ := rwF_0 h3
  have e1 : prZ (.mk true ⟨#[]⟩ [p, q]) = q.items := by unfold prZ; rw [h5]; exact rwL_0 (by rw [h5] at h3; exact h3)
  rw [e1] at h4
  have h7 : p.list = false := by
   have := h5
   unfold prE1 exE at this
   have := (kE_0 this).2
   revert this
   show (if (p.list || decide (p.bytes.size ≠ 20)) = true then (2 : Int) else 0) = 0 → _
   cases p.list <;> simp
  have hp := txt_ofC (hi p (by simp)) h7
  obtain ⟨hq, hqi⟩ := lst_ofC (hi q (by simp)) h6
  have hqs : q.items = (q.items.map Itm.bytes).map txt := by
   rw [List.map_map]
   conv => lhs; rw [← List.map_id q.items]
   exact List.map_congr_left fun z hz => txt_ofC (hqi z hz) (h4 z hz).1
  unfold pairI prV
  rw [e1]
  show Itm.mk true ⟨#[]⟩ [p, q] = Itm.mk true ⟨#[]⟩ [txt p.bytes, .mk true ⟨#[]⟩ ((q.items.map Itm.bytes).map txt)]
  rw [← hqs, ← hp, ← hq]
 | [], h, _ => simp at h
 | [_], h, _ => simp at h
 | _ :: _ :: _ :: _, _, h => simp at h; omega
theorem accGo_only : ∀ {ys : List Itm} {E : Int} {ls : List AccV}, accGo ys E = (ls, 0) → E = 0 ∧ ((∀ y ∈ ys, formF y 2 = 0) → ys = ls.map pairI)
 | [], E, ls, h => by
  rw [accGo] at h; cases h; exact ⟨rfl, fun _ => rfl⟩
 | y :: ys, E, ls, h => by
  rw [accGo] at h
  split at h
  ·rename_i h1; exact absurd (congrArg Prod.snd h) h1
  ·rename_i h1
   have h1 := Classical.not_not.1 h1
   obtain ⟨h2, _, _, _⟩ := rwF_0 h1
   subst h2
   obtain ⟨ms, hms⟩ : ∃ ms, (accGo ys (prE y)).1 = ms := ⟨_, rfl⟩
   have h3 : accGo ys (prE y) = (ms, 0) := by
    have := congrArg Prod.snd h
    exact Prod.ext hms this
   obtain ⟨h4, h5⟩ := accGo_only h3
   have h6 : prV y :: ms = ls := by rw [← hms]; exact congrArg Prod.fst h
   refine ⟨rfl, fun hf => ?_⟩
   rw [← h6, List.map_cons, ← h5 fun z hz => hf z (by simp [hz]), ← pair_of (hf y (by simp)) h1 h4]
theorem acc_of {z : Itm} {E : Int} (hf : formF z 1 = 0) (h : (accX z E).2 = 0) : E = 0 ∧ z = accI (accX z E).1 := by
 unfold accX at h ⊢
 obtain ⟨ms, hms⟩ : ∃ ms, (accGo (rwL 0 16 z E) (rwF 0 16 z E)).1 = ms := ⟨_, rfl⟩
 have h2 : accGo (rwL 0 16 z E) (rwF 0 16 z E) = (ms, 0) := Prod.ext hms h
 obtain ⟨h3, h4⟩ := accGo_only h2
 obtain ⟨h5, h6, _⟩ := rwF_0 h3
 obtain ⟨h7, h8⟩ := lst_ofC hf h6
 refine ⟨h5, ?_⟩
 rw [rwL_0 h3] at h4
 rw [hms]
 unfold accI
 rw [← h4 h8]
 exact h7
theorem restR_only {s : ByteArray} {a T : Nat} {zs : List Itm} (h : restR s a 0 = .ok (zs, T)) (y R S : Nat) (dst : ByteArray) : a ≤ T ∧ T ≤ s.size ∧ restBy (gotT (kdV s a 0) zs y R S dst) = (s.data.toList.drop a).take (T - a) := by
 have hk3 := kdV_le s a 0
 obtain ⟨kd, hkd⟩ : ∃ kd, kdV s a 0 = kd := ⟨_, rfl⟩
 unfold restR at h
 rw [hkd] at h hk3 ⊢
 split at h
 ·cases h
 ·rename_i hE
  have hE := Classical.not_not.1 hE
  split at h
  ·cases h
  ·rename_i x T2 hit
   split at h
   ·cases h
   ·rename_i hF
    have hF := Classical.not_not.1 hF
    split at h
    ·cases h
    ·rename_i hG
     have hG := Classical.not_not.1 hG
     cases h
     obtain ⟨i1, i2, i3, i4⟩ := itR_only hit
     rw [ba_len] at i2
     obtain ⟨_, f2, f3, f4⟩ := rwF_0 hF
     have hform : formF x 0 = 0 := by
      unfold checkI at i3
      split at i3
      ·rename_i h1; exact absurd i3 h1
      ·rename_i h1; exact Classical.not_not.1 h1
     obtain ⟨l1, l2⟩ := lst_ofC hform f2
     have hA : kdA s a = a + (if kd = 0 then 0 else 1) ∧ (s.data.toList.drop a).take (if kd = 0 then 0 else 1) = (if kd = 0 then [] else if kd = 1 then [1] else [2]) ∧ a < s.size := by
      unfold kdE at hE
      rw [if_neg (by simp)] at hE
      split at hE
      ·cases hE
      ·rename_i g1
       have hlt : a < s.size := by omega
       have hget : s.data.toList[a]? = some (s.data.toList.getD a 0) := at_getD 0 (by rw [ba_len]; exact hlt)
       have hkv := hkd
       unfold kdV at hkv
       rw [if_neg (by simp), if_neg g1] at hkv
       split at hE
       ·rename_i g2
        rw [if_pos g2] at hkv
        subst hkv
        exact ⟨by unfold kdA; rw [if_pos g2]; rfl, by simp, hlt⟩
       ·rename_i g2
        rw [if_neg g2] at hkv
        split at hE
        ·cases hE
        ·rename_i g3
         rw [if_neg g3] at hkv
         have hk1 : kd = 1 ∨ kd = 2 := by omega
         have hne : ¬ kd = 0 := by omega
         refine ⟨by unfold kdA; rw [if_neg g2, if_neg hne], ?_, hlt⟩
         rw [if_neg hne, if_neg hne]
         have : (s.data.toList.drop a).take 1 = [s.data.toList.getD a 0] := by
          have hl : a < s.data.toList.length := by rw [ba_len]; exact hlt
          rw [List.drop_eq_getElem_cons hl, List.take_succ_cons, List.take_zero, List.getD_eq_getElem?_getD, List.getElem?_eq_getElem hl]; rfl
         rw [this]
         have hb : (s.data.toList.getD a 0).toNat = kd := hkv
         rcases hk1 with rfl | rfl
         ·rw [if_pos rfl]; congr 1; exact UInt8.toNat_inj.1 hb
         ·rw [if_neg (by omega)]; congr 1; exact UInt8.toNat_inj.1 hb
     obtain ⟨a1, a2, a3⟩ := hA
     have hI : restI (gotT kd x.items y R S dst) = x := by
      rw [l1]
      obtain ⟨zs, hzs⟩ : ∃ zs, x.items = zs := ⟨_, rfl⟩
      rw [hzs] at f3 f4 l2 hG ⊢
      unfold restI
      rcases hk3 with rfl | rfl | rfl
      ·match zs, f3, f4 with
       | [z0, z1, z2], _, _ =>
        have e : gotE1 0 [z0, z1, z2] = 0 := hG
        obtain ⟨e1, e2⟩ := kE_0 e
        have e1 : kE (kE 0 (wordE z0.list z0.bytes)) (wordE z1.list z1.bytes) = 0 := e1
        obtain ⟨e3, e4⟩ := kE_0 e1
        obtain ⟨_, e5⟩ := kE_0 e3
        have w0 := word_of (l2 z0 (by simp)) e5; have w1 := word_of (l2 z1 (by simp)) e4; have w2 := data_of (l2 z2 (by simp)) e2
        show Itm.mk true ⟨#[]⟩ [txt (nB (itW z0)), txt (nB (itW z1)), txt (dtV z2)] = _
        rw [← w0, ← w1, ← w2]
       | [], h, _ => simp at h
       | [_], h, _ => simp at h
       | [_, _], h, _ => simp at h
       | _ :: _ :: _ :: _ :: _, _, h => simp at h; omega
      ·match zs, f3, f4 with
       | [z0, z1, z2, z3], _, _ =>
        obtain ⟨e, w3⟩ := acc_of (l2 z3 (by simp)) (show (accX z3 (gotE1 1 [z0, z1, z2, z3])).2 = 0 from hG)
        obtain ⟨e1, e2⟩ := kE_0 e
        have e1 : kE (kE 0 (wordE z0.list z0.bytes)) (wordE z1.list z1.bytes) = 0 := e1
        obtain ⟨e3, e4⟩ := kE_0 e1
        obtain ⟨_, e5⟩ := kE_0 e3
        have w0 := word_of (l2 z0 (by simp)) e5; have w1 := word_of (l2 z1 (by simp)) e4; have w2 := data_of (l2 z2 (by simp)) e2
        show Itm.mk true ⟨#[]⟩ [txt (nB (itW z0)), txt (nB (itW z1)), txt (dtV z2), accI (accX z3 (gotE1 1 [z0, z1, z2, z3])).1] = _
        rw [← w0, ← w1, ← w2, ← w3]
       | [], h, _ => simp at h
       | [_], h, _ => simp at h
       | [_, _], h, _ => simp at h
       | [_, _, _], h, _ => simp at h
       | _ :: _ :: _ :: _ :: _ :: _, _, h => simp at h; omega
      ·match zs, f3, f4 with
       | [z0, z1, z2, z3, z4], _, _ =>
        obtain ⟨e, w4⟩ := acc_of (l2 z4 (by simp)) (show (accX z4 (gotE1 2 [z0, z1, z2, z3, z4])).2 = 0 from hG)
        obtain ⟨e1, e2⟩ := kE_0 e
        have e1 : kE (kE (kE 0 (wordE z0.list z0.bytes)) (wordE z1.list z1.bytes)) (wordE z2.list z2.bytes) = 0 := e1
        obtain ⟨e3, e4⟩ := kE_0 e1
        obtain ⟨e5, e6⟩ := kE_0 e3
        obtain ⟨_, e7⟩ := kE_0 e5
        have w0 := word_of (l2 z0 (by simp)) e7; have w1 := word_of (l2 z1 (by simp)) e6; have w2 := word_of (l2 z2 (by simp)) e4; have w3 := data_of (l2 z3 (by simp)) e2
        show Itm.mk true ⟨#[]⟩ [txt (nB (itW z0)), txt (nB (itW z1)), txt (nB (itW z2)), txt (dtV z3), accI (accX z4 (gotE1 2 [z0, z1, z2, z3, z4])).1] = _
        rw [← w0, ← w1, ← w2, ← w3, ← w4]
       | [], h, _ => simp at h
       | [_], h, _ => simp at h
       | [_, _], h, _ => simp at h
       | [_, _, _], h, _ => simp at h
       | [_, _, _, _], h, _ => simp at h
       | _ :: _ :: _ :: _ :: _ :: _ :: _, _, h => simp at h; omega
     have hk : (gotT kd x.items y R S dst).kind = (kd : Int) := rfl
     refine ⟨by omega, i2, ?_⟩
     unfold restBy
     rw [hI, hk]
     unfold encB
     rw [if_pos i3, i4, a1]
     rcases hk3 with rfl | rfl | rfl
     ·simp
     ·have a2' : (s.data.toList.drop a).take 1 = [1] := a2
      show [1] ++ List.take (T - (a + 1)) (List.drop (a + 1) s.data.toList) = _
      have e1 : kdA s a = a + 1 := a1
      rw [← a2', ← List.drop_drop, ← List.take_add]
      congr 1; omega
     ·have a2' : (s.data.toList.drop a).take 1 = [2] := a2
      show [2] ++ List.take (T - (a + 1)) (List.drop (a + 1) s.data.toList) = _
      have e1 : kdA s a = a + 1 := a1
      rw [← a2', ← List.drop_drop, ← List.take_add]
      congr 1; omega
theorem tk_only {s : ByteArray} {a k : Nat} {E : Int} (h : tkE s a k E = 0) : E = 0 ∧ a + k ≤ s.size ∧ tkA s a k E = a + k ∧ (tkS s a k E).data.toList = (s.data.toList.drop a).take k ∧ (tkS s a k E).size = k := by
 obtain ⟨h1, h2⟩ := tkE_0 h
 refine ⟨h1, h2, ?_, ?_, tkS_full h⟩
 ·unfold tkA; rw [if_pos h]
 ·unfold tkS; rw [if_pos h, ba_takeC]
theorem bits_only {s : ByteArray} {a n : Nat} {E : Int} (h : btE s a n E = 0) : E = 0 ∧ btA s a n E = a + (packL (btL s a n E)).length ∧ btA s a n E ≤ s.size ∧ (s.data.toList.drop a).take (packL (btL s a n E)).length = packL (btL s a n E) ∧ (btL s a n E).length = n := by
 have h0 := h
 unfold btE at h0
 split at h0
 ·rename_i ht
  obtain ⟨t1, t2, t3, t4, t5⟩ := tk_only ht
  have e : btL s a n E = unpackL (tkS s a ((n + 7) / 8) E).data.toList n := by unfold btL; rw [if_pos h]
  have hp := pack_unpack _ _ h0
  rw [← e] at hp
  have hl := btL_len s a n E
  have hpl := packL_len (btL s a n E)
  rw [hl] at hpl
  have ea : btA s a n E = a + (n + 7) / 8 := t3
  refine ⟨t1, by rw [ea, hpl], by rw [ea]; exact t2, ?_, hl⟩
  rw [hpl, ← t4, hp]
 ·rename_i ht; exact absurd h0 ht
theorem numbers_only {s : ByteArray} {a n : Nat} {E : Int} (ha : a ≤ s.size) (hn : n ≤ 4096) (h : nuE s a n E = 0) : E = 0 ∧ nuA s a n E = a + (rowL ((nuN s a n E).map fun (x : Nat) => (x : Int))).length ∧ nuA s a n E ≤ s.size ∧ (s.data.toList.drop a).take (rowL ((nuN s a n E).map fun (x : Nat) => (x : Int))).length = rowL ((nuN s a n E).map fun (x : Nat) => (x : Int)) ∧ (nuN s a n E).length = n := by
 have h0 := nuE_0 h
 obtain ⟨f1, f2, f3⟩ := nuN_facts s a n E ha hn
 have hu : (unrowS s.data.toList a n).2.2 = 0 := by unfold nuE at h; rw [if_pos h0] at h; exact h
 have e1 : nuA s a n E = (unrowS s.data.toList a n).2.1 := by unfold nuA; rw [if_pos h]
 have e2 : nuL s a n E = (unrowS s.data.toList a n).1 := by unfold nuL; rw [if_pos h]
 obtain ⟨a', g1, g2, g3, g4, g5, _⟩ := unrowS_only s.data.toList a n (unrowS s.data.toList a n).1 (unrowS s.data.toList a n).2.1 (Prod.ext rfl (Prod.ext rfl hu))
 have ga : a' = a := by omega
 subst ga
 rw [← e2, f3] at g5
 rw [← e1] at g3 g4 g5
 rw [ba_len] at g4
 have hlen := congrArg List.length g5
 rw [List.length_take, List.length_drop, ba_len] at hlen
 refine ⟨h0, by omega, g4, ?_, f1⟩
 rw [← hlen, Nat.min_eq_left (by omega)]
 exact g5
theorem wd_only {s : ByteArray} {a : Nat} (h : tkE s a 32 0 = 0) : fixN (wdN s a 0) = (s.data.toList.drop a).take 32 := by
 obtain ⟨_, _, _, t4, t5⟩ := tk_only h
 rw [fixN_be (wdN_lt s a 0)]
 unfold wdN
 rw [if_pos h]
 have := fix_beV (tkS s a 32 0).data.toList
 rw [ba_len, t5] at this
 rw [this, t4]
theorem cnt_drop (nl : List Bool) {i : Nat} (h : i < nl.length) : cntB (nl.drop i) = (if nl.getD i false then 1 else 0) + cntB (nl.drop (i + 1)) := by
 have e : nl.drop i = nl.getD i false :: nl.drop (i + 1) := by
  rw [List.drop_eq_getElem_cons h, List.getD_eq_getElem?_getD, List.getElem?_eq_getElem h]; rfl
 rw [e]
 unfold cntB
 rw [List.count_cons]
 cases nl.getD i false <;> simp; omega
theorem cntB_drop_le (nl : List Bool) (i : Nat) : cntB (nl.drop i) ≤ nl.length - i := by
 have := cntB_le (nl.drop i)
 simpa using this
theorem getGo_only {s sgs : ByteArray} {nl yl : List Bool} {n : Nat} (hs : sgs.size = 64 * n) (hn : nl.length = n) (hy : yl.length = n) : ∀ (m i a b : Nat) (tos : ByteArray) (ts : List TxV), i + m = n → a ≤ s.size → tos.size = 20 * (m - cntB (nl.drop i)) → getGo s sgs nl yl m i a tos = .ok (ts, b) →
  a ≤ b ∧ b ≤ s.size ∧ catB (ts.map restT) = (s.data.toList.drop a).take (b - a) ∧ ts.length = m ∧ ts.map (fun t => decide (t.dst.size = 0)) = nl.drop i ∧ ts.map (fun t => decide (t.y = 1)) = yl.drop i ∧ catB (ts.map sigT) = sgs.data.toList.drop (64 * i) ∧ catB (ts.map TxV.dst) = tos.data.toList
 | 0, i, a, b, tos, ts, hi, ha, ht, h => by
  rw [getGo] at h; cases h
  refine ⟨Nat.le_refl _, ha, by simp [catB], rfl, (List.drop_eq_nil_of_le (by omega)).symm, (List.drop_eq_nil_of_le (by omega)).symm, ?_, ?_⟩
  ·rw [List.drop_eq_nil_of_le (by rw [ba_len]; omega)]; rfl
  ·have : tos.data.toList.length = 0 := by rw [ba_len]; omega
   rw [List.eq_nil_of_length_eq_zero this]; rfl
 | m + 1, i, a, b, tos, ts, hi, ha, ht, h => by
  have hlt : i < n := by omega
  rw [getGo] at h
  split at h
  ·cases h
  ·rename_i zs T hr
   split at h
   ·cases h
   ·rename_i us c hg
    cases h
    have hcd := cnt_drop nl (i := i) (by omega)
    have hcl := cntB_drop_le nl (i + 1)
    obtain ⟨nb, hnb⟩ : ∃ x, nl.getD i false = x := ⟨_, rfl⟩
    obtain ⟨tos2, ht2⟩ : ∃ x, (if nl.getD i false = false ∧ 20 ≤ tos.size then tos.extract 20 tos.size else tos) = x := ⟨_, rfl⟩
    obtain ⟨dv, hdv⟩ : ∃ x, (if nl.getD i false = false ∧ 20 ≤ tos.size then tos.extract 0 20 else ⟨#[]⟩) = x := ⟨_, rfl⟩
    rw [ht2] at hg
    rw [hdv]
    obtain ⟨r1, r2, r3⟩ := restR_only hr (if yl.getD i false = true then 1 else 0) (wdN sgs (64 * i) 0) (wdN sgs (64 * i + 32) 0) dv
    rw [hnb] at hcd ht2 hdv
    have hd : tos2.size = 20 * (m - cntB (nl.drop (i + 1))) ∧ (dv.size = 0) = (nb = true) ∧ dv.data.toList ++ tos2.data.toList = tos.data.toList := by
     cases nb with
     | true =>
      rw [if_neg (by simp)] at ht2 hdv
      subst ht2; subst hdv
      refine ⟨by rw [if_pos rfl] at hcd; omega, propext ⟨fun _ => rfl, fun _ => rfl⟩, rfl⟩
     | false =>
      have h20 : 20 ≤ tos.size := by rw [if_neg (by simp)] at hcd; omega
      rw [if_pos ⟨rfl, h20⟩] at ht2 hdv
      have e1 := ba_takeC tos 0 20
      rw [Nat.zero_add, List.drop_zero] at e1
      have e2 := ba_takeC tos 20 (tos.size - 20)
      rw [show 20 + (tos.size - 20) = tos.size by omega, List.take_of_length_le (by rw [List.length_drop, ba_len]; omega)] at e2
      rw [hdv] at e1
      rw [ht2] at e2
      have hz1 := congrArg List.length e1
      have hz2 := congrArg List.length e2
      rw [ba_len, List.length_take, ba_len] at hz1
      rw [ba_len, List.length_drop, ba_len] at hz2
      refine ⟨by rw [if_neg (by simp)] at hcd; omega, propext ⟨fun h => by omega, fun h => by cases h⟩, ?_⟩
      rw [e1, e2, List.take_append_drop]
    obtain ⟨d1, d2, d3⟩ := hd
    have hdd : decide (dv.size = 0) = nb := by
     have hiff : dv.size = 0 ↔ nb = true := Iff.of_eq d2
     clear d1 d2 d3 ht2 hdv hcd hnb r3 hg
     cases nb with
     | true => exact decide_eq_true (hiff.2 rfl)
     | false => exact decide_eq_false (fun h => by have := hiff.1 h; cases this)
    obtain ⟨g1, g2, g3, g4, g5, g6, g7, g8⟩ := getGo_only hs hn hy m (i + 1) T b tos2 us (by omega) r2 d1 hg
    obtain ⟨x1, x2, x3, x4⟩ := tk_two hs hlt
    have w1 := wd_only x1; have w2 := wd_only x3
    refine ⟨by omega, g2, ?_, by simp [g4], ?_, ?_, ?_, ?_⟩
    ·rw [List.map_cons, catB_cons, g3]
     have : (restT (gotT (kdV s a 0) zs (if yl.getD i false = true then 1 else 0) (wdN sgs (64 * i) 0) (wdN sgs (64 * i + 32) 0) dv)).data.toList = (s.data.toList.drop a).take (T - a) := by
      rw [← r3]; simp [restT]
     rw [this]
     have e : s.data.toList.drop T = (s.data.toList.drop a).drop (T - a) := by rw [List.drop_drop]; congr 1; omega
     rw [e, ← List.take_add]
     congr 1; omega
    ·have e : nl.drop i = nb :: nl.drop (i + 1) := by
      rw [List.drop_eq_getElem_cons (by omega), ← hnb, List.getD_eq_getElem?_getD, List.getElem?_eq_getElem (by omega)]; rfl
     rw [e, List.map_cons, g5]
     congr 1
    ·have e : yl.drop i = yl.getD i false :: yl.drop (i + 1) := by
      rw [List.drop_eq_getElem_cons (by omega), List.getD_eq_getElem?_getD, List.getElem?_eq_getElem (by omega)]; rfl
     rw [e, List.map_cons, g6]
     congr 1
     show decide ((if yl.getD i false = true then 1 else 0) = 1) = yl.getD i false
     cases yl.getD i false <;> rfl
    ·rw [List.map_cons, catB_cons, g7]
     have : (sigT (gotT (kdV s a 0) zs (if yl.getD i false = true then 1 else 0) (wdN sgs (64 * i) 0) (wdN sgs (64 * i + 32) 0) dv)).data.toList = fixN (wdN sgs (64 * i) 0) ++ fixN (wdN sgs (64 * i + 32) 0) := by simp [sigT, gotT]
     rw [this, w1, w2, ← List.drop_drop, ← List.take_add, show 64 * (i + 1) = 64 * i + (32 + 32) by omega, ← List.drop_drop, List.take_append_drop]
    ·rw [List.map_cons, catB_cons, g8]
     exact d3
theorem fill_map {α : Type} (f : TxV → α) (hf : ∀ chain t no ga ch, f (fillT chain t no ga ch) = f t) (chain : Nat) : ∀ (ts : List TxV) (ns gs : List Nat) (cs : List Bool), (fillGo chain ts ns gs cs).map f = ts.map f
 | [], _, _, _ => rfl
 | t :: ts, ns, gs, cs => by
  unfold fillGo
  split
  ·rw [List.map_cons, List.map_cons, hf, fill_map f hf chain ts]
  ·rw [List.map_cons, List.map_cons, hf, fill_map f hf chain ts]
theorem fill_nonce (chain : Nat) : ∀ (ts : List TxV) (ns gs : List Nat) (cs : List Bool), ns.length = ts.length → (fillGo chain ts ns gs cs).map TxV.nonce = ns
 | [], [], _, _, _ => rfl
 | t :: ts, x :: ns, gs, cs, h => by
  have h : ns.length = ts.length := by simpa using h
  unfold fillGo
  split <;> rw [List.map_cons, List.tail_cons, fill_nonce chain ts ns _ _ h] <;> rfl
theorem fill_gas (chain : Nat) : ∀ (ts : List TxV) (ns gs : List Nat) (cs : List Bool), gs.length = ts.length → (fillGo chain ts ns gs cs).map TxV.gas = gs
 | [], _, [], _, _ => rfl
 | t :: ts, ns, x :: gs, cs, h => by
  have h : gs.length = ts.length := by simpa using h
  unfold fillGo
  split <;> rw [List.map_cons, List.tail_cons, fill_gas chain ts _ gs _ h] <;> rfl
theorem fill_chain {chain : Nat} (hc : chain ≠ 0) : ∀ (ts : List TxV) (ns gs : List Nat) (cs : List Bool), cs.length = legN ts → ((fillGo chain ts ns gs cs).filter fun t => decide (t.kind = 0)).map (fun t => decide (t.chain ≠ 0)) = cs
 | [], _, _, cs, h => by
  have : cs = [] := List.eq_nil_of_length_eq_zero (by rw [h]; rfl)
  subst this; rfl
 | t :: ts, ns, gs, cs, h => by
  unfold legN at h
  rw [List.map_cons, List.count_cons] at h
  unfold fillGo
  by_cases hk : t.kind = 0
  ·rw [if_pos hk]
   rw [if_pos (by simp [hk])] at h
   match cs, h with
   | c :: cs, h =>
    have h : cs.length = legN ts := by unfold legN; simpa using h
    rw [List.filter_cons_of_pos (by simp [fillT, hk]), List.map_cons, List.tail_cons, fill_chain hc ts _ _ cs h]
    congr 1
    unfold fillT
    cases c <;> simp [hc]
  ·rw [if_neg hk]
   rw [if_neg (by simp [hk])] at h
   rw [List.filter_cons_of_neg (by simp [fillT, hk])]
   exact fill_chain hc ts _ _ cs h
theorem take_next4 {l x y : List UInt8} {a b c : Nat} (hab : a ≤ b) (hbc : b ≤ c) (h1 : (l.drop a).take (b - a) = x) (h2 : (l.drop b).take (c - b) = y) : (l.drop a).take (c - a) = x ++ y := by
 have e : l.drop b = (l.drop a).drop (b - a) := by rw [List.drop_drop]; congr 1; omega
 rw [e] at h2
 rw [← h1, ← h2, ← List.take_add]
 congr 1; omega
theorem getR_only {s : ByteArray} {a n chain T : Nat} {L : List TxV} (ha : a ≤ s.size) (hn : n ≤ 512) (h : getR s a n chain = .ok (L, T)) : checkCol L chain = 0 ∧ L.length = n ∧ a ≤ T ∧ T ≤ s.size ∧ (s.data.toList.drop a).take (T - a) = colsL L := by
 unfold getR at h
 obtain ⟨nl, hnl⟩ : ∃ x, btL s a n 0 = x := ⟨_, rfl⟩
 obtain ⟨A1, hA1⟩ : ∃ x, btA s a n 0 = x := ⟨_, rfl⟩
 obtain ⟨E1, hE1⟩ : ∃ x, btE s a n 0 = x := ⟨_, rfl⟩
 rw [hnl, hA1, hE1] at h
 obtain ⟨F, hF⟩ : ∃ x, fixR s n nl A1 E1 = x := ⟨_, rfl⟩
 rw [hF] at h
 rcases F with e | ⟨ts, b⟩
 ·cases h
 ·rw [endR] at h
  unfold fixR at hF
  obtain ⟨yl, hyl⟩ : ∃ x, btL s A1 n E1 = x := ⟨_, rfl⟩
  obtain ⟨A2, hA2⟩ : ∃ x, btA s A1 n E1 = x := ⟨_, rfl⟩
  obtain ⟨E2, hE2⟩ : ∃ x, btE s A1 n E1 = x := ⟨_, rfl⟩
  rw [hyl, hA2, hE2] at hF
  obtain ⟨sgs, hsg⟩ : ∃ x, tkS s A2 (64 * n) E2 = x := ⟨_, rfl⟩
  obtain ⟨A3, hA3⟩ : ∃ x, tkA s A2 (64 * n) E2 = x := ⟨_, rfl⟩
  obtain ⟨E3, hE3⟩ : ∃ x, tkE s A2 (64 * n) E2 = x := ⟨_, rfl⟩
  rw [hsg, hA3, hE3] at hF
  obtain ⟨tos, hto⟩ : ∃ x, tkS s A3 (20 * (n - cntB nl)) E3 = x := ⟨_, rfl⟩
  obtain ⟨A4, hA4⟩ : ∃ x, tkA s A3 (20 * (n - cntB nl)) E3 = x := ⟨_, rfl⟩
  obtain ⟨E4, hE4⟩ : ∃ x, tkE s A3 (20 * (n - cntB nl)) E3 = x := ⟨_, rfl⟩
  rw [hto, hA4, hE4] at hF
  split at hF
  ·cases hF
  ·rename_i h4
   have h4 := Classical.not_not.1 h4
   subst h4
   obtain ⟨t31, t32, t33, t34, t35⟩ := tk_only hE4
   subst t31
   obtain ⟨t21, t22, t23, t24, t25⟩ := tk_only hE3
   subst t21
   obtain ⟨b21, b22, b23, b24, b25⟩ := bits_only hE2
   subst b21
   obtain ⟨b11, b12, b13, b14, b15⟩ := bits_only hE1
   rw [hA4] at t33
   rw [hto] at t34 t35
   rw [hA3] at t23
   rw [hsg] at t24 t25
   rw [hA2] at b22 b23
   rw [hyl] at b22 b24 b25
   rw [hA1] at b12 b13
   rw [hnl] at b12 b14 b15
   obtain ⟨g1, g2, g3, g4, g5, g6, g7, g8⟩ := getGo_only t25 b15 b25 n 0 A4 b tos ts (by omega) (by omega) (by rw [t35, List.drop_zero]) hF
   rw [List.drop_zero] at g5 g6
   rw [Nat.mul_zero, List.drop_zero] at g7
   unfold lastR at h
   obtain ⟨ns, hns⟩ : ∃ x, nuN s b n 0 = x := ⟨_, rfl⟩
   obtain ⟨A5, hA5⟩ : ∃ x, nuA s b n 0 = x := ⟨_, rfl⟩
   obtain ⟨E5, hE5⟩ : ∃ x, nuE s b n 0 = x := ⟨_, rfl⟩
   rw [hns, hA5, hE5] at h
   obtain ⟨gs, hgs⟩ : ∃ x, nuN s A5 n E5 = x := ⟨_, rfl⟩
   obtain ⟨A6, hA6⟩ : ∃ x, nuA s A5 n E5 = x := ⟨_, rfl⟩
   obtain ⟨E6, hE6⟩ : ∃ x, nuE s A5 n E5 = x := ⟨_, rfl⟩
   rw [hgs, hA6, hE6] at h
   obtain ⟨cs, hcs⟩ : ∃ x, btL s A6 (legN ts) E6 = x := ⟨_, rfl⟩
   obtain ⟨A7, hA7⟩ : ∃ x, btA s A6 (legN ts) E6 = x := ⟨_, rfl⟩
   obtain ⟨E7, hE7⟩ : ∃ x, btE s A6 (legN ts) E6 = x := ⟨_, rfl⟩
   rw [hcs, hA7, hE7] at h
   split at h
   ·cases h
   ·rename_i h7
    have h7 := Classical.not_not.1 h7
    subst h7
    split at h
    ·cases h
    ·rename_i hck
     have hck := Classical.not_not.1 hck
     cases h
     obtain ⟨c1, c2, c3, c4, c5⟩ := bits_only hE7
     subst c1
     have hA5le : A5 ≤ s.size := by rw [← hA5]; exact nuA_le g2
     obtain ⟨n1, n2, n3, n4, n5⟩ := numbers_only hA5le (by omega) hE6
     subst n1
     obtain ⟨m1, m2, m3, m4, m5⟩ := numbers_only g2 (by omega) hE5
     rw [hA7] at c2 c3
     rw [hcs] at c2 c4 c5
     rw [hA6] at n2 n3
     rw [hgs] at n2 n4 n5
     rw [hA5] at m2 m3
     rw [hns] at m2 m4 m5
     have hc0 := (checkCol_0 hck).1
     obtain ⟨us, hus⟩ : ∃ x, fillGo chain ts ns gs cs = x := ⟨_, rfl⟩
     have u1 := fill_map (fun t => decide (t.dst.size = 0)) (fun _ _ _ _ _ => rfl) chain ts ns gs cs
     have u2 := fill_map (fun t => decide (t.y = 1)) (fun _ _ _ _ _ => rfl) chain ts ns gs cs
     have u3 := fill_map sigT (fun _ _ _ _ _ => rfl) chain ts ns gs cs
     have u4 := fill_map TxV.dst (fun _ _ _ _ _ => rfl) chain ts ns gs cs
     have u5 := fill_map restT (fun _ _ _ _ _ => rfl) chain ts ns gs cs
     have u6 := fill_nonce chain ts ns gs cs (by omega)
     have u7 := fill_gas chain ts ns gs cs (by omega)
     have u8 := fill_chain (chain := chain) (by omega) ts ns gs cs c5
     have u9 := fillGo_len chain ts ns gs cs
     rw [hus] at hck u1 u2 u3 u4 u5 u6 u7 u8 u9 ⊢
     refine ⟨hck, by omega, by omega, c3, ?_⟩
     rw [colsL_eq, u1, u2, u3, u4, u5, u6, u7, u8, g5, g6, g7, g8]
     refine take_next4 (b := A1) (by omega) (by omega) (by rw [b12, Nat.add_sub_cancel_left]; exact b14) ?_
     refine take_next4 (b := A2) (by omega) (by omega) (by rw [b22, Nat.add_sub_cancel_left]; exact b24) ?_
     refine take_next4 (b := A3) (by omega) (by omega) (by rw [t23, Nat.add_sub_cancel_left]; exact t24.symm) ?_
     refine take_next4 (b := A4) (by omega) (by omega) (by rw [t33, Nat.add_sub_cancel_left]; exact t34.symm) ?_
     refine take_next4 (b := b) (by omega) (by omega) g3.symm ?_
     refine take_next4 (b := A5) (by omega) (by omega) (by rw [m2, Nat.add_sub_cancel_left]; exact m4) ?_
     refine take_next4 (b := A6) (by omega) (by omega) (by rw [n2, Nat.add_sub_cancel_left]; exact n4) ?_
     rw [c2, Nat.add_sub_cancel_left]; exact c4
end Go.Proofs.YtgclnikdkfpflaaGreatDoor
