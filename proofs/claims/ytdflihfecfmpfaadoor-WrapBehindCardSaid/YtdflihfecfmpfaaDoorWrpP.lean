/- Wrappers, plain: whether any is one, its bytes, what bytes tell, and that what is put is got. -/
import Derived.Test.YtdflihfecfmpfaaDoorUnlA0
import Derived.Test.YtdflihfecfmpfaaDoorUnvarP
import Derived.Test.YtdflihfecfmpfaaDoorJoin
namespace Go.Proofs.YtdflihfecfmpfaaDoor
open Go.RowKit Go.Shelf
set_option linter.unusedVariables false
set_option linter.unusedSimpArgs false

theorem ba_part {s : ByteArray} {F N : Nat} : s.extract F (F + N) = ⟨((s.data.toList.drop F).take N).toArray⟩ := by
  apply ba_ext
  show (s.extract F (F + N)).data.toList = _
  rw [ByteArray.data_extract]
  simp [List.take_drop, Array.toList_extract, List.extract_eq_take_drop]
/-- what is wrong with a batch of so many bytes -/
def longE (n : Nat) : Int := if n < 2 then 2 else if 32768 < n then 5 else 0
def hasE (E : Int) (xs : List ByteArray) : Bool := xs.any fun x => decide (longE x.size = E)
/-- what is wrong with a wrapper -/
def checkW (v : Int) (xs : List ByteArray) : Int :=
  if v ≠ 0 ∧ v ≠ 2 then 9 else if xs.length = 0 ∨ hasE 2 xs = true then 2 else if 64 < xs.length ∨ hasE 5 xs = true ∨ 131072 < (catB xs).length then 5 else 0
def partW (v : Int) (x : ByteArray) : List UInt8 := if v = 2 then varL x.size ++ x.data.toList else bytesT x
def putL (v : Int) (xs : List ByteArray) : List UInt8 := (if v = 2 then 2 :: varL xs.length else []) ++ xs.flatMap (partW v)
/-- a wrapper's bytes -/
def putW (v : Int) (xs : List ByteArray) : List UInt8 := if checkW v xs = 0 then putL v xs else []
/-- the version of bytes -/
def verE (l : List UInt8) : Int := if l = [] then 3 else if l.getD 0 0 = 2 then 0 else if 130 ≤ (l.getD 0 0).toNat ∧ (l.getD 0 0).toNat ≤ 191 then 0 else 9
def verN (l : List UInt8) : Int := if l.getD 0 0 = 2 then 2 else 0
/-- what is wrong with what stands ahead, behind so many batches -/
def plainE (r : List UInt8) (many : Nat) : Int := if 64 ≤ many then 5 else if lookE r 0 ≠ 0 then lookE r 0 else if lookL r 0 = true then 2 else longE (lookN r 0)
/-- what is told of the plain version -/
def plainT : Nat → List UInt8 → Nat → List (ByteArray × Int)
  | 0, _, _ => []
  | f + 1, r, many => if r = [] then [] else if plainE r many ≠ 0 then [(⟨#[]⟩, plainE r many)] else
      (⟨((r.drop (lookFrom r 0)).take (lookN r 0)).toArray⟩, 0) :: plainT f (r.drop (lookFrom r 0 + lookN r 0)) (many + 1)
def countE (l : List UInt8) (a : Nat) : Int :=
  if (unvarS l a).2.2 ≠ 0 then (unvarS l a).2.2 else if longE (unvarS l a).1.toNat ≠ 0 then longE (unvarS l a).1.toNat else if l.length < (unvarS l a).2.1 + (unvarS l a).1.toNat then 3 else 0
/-- what is told of the version that is counted, from a place on, of so many batches -/
def countGo (l : List UInt8) : Nat → Nat → List (ByteArray × Int)
  | 0, a => if a < l.length then [(⟨#[]⟩, 4)] else []
  | k + 1, a => if countE l a ≠ 0 then [(⟨#[]⟩, countE l a)] else (⟨((l.drop (unvarS l a).2.1).take (unvarS l a).1.toNat).toArray⟩, 0) :: countGo l k ((unvarS l a).2.1 + (unvarS l a).1.toNat)
def manyE (l : List UInt8) : Int := if (unvarS l 1).2.2 = 0 ∧ (unvarS l 1).1.toNat = 0 then 2 else if 64 < (unvarS l 1).1.toNat then 5 else (unvarS l 1).2.2
def countT (l : List UInt8) : List (ByteArray × Int) := if manyE l ≠ 0 then [(⟨#[]⟩, manyE l)] else countGo l (unvarS l 1).1.toNat (unvarS l 1).2.1
def toldW (l : List UInt8) : List (ByteArray × Int) := if verN l = 2 then countT l else plainT (l.length + 1) l 0
/-- what is gathered of what is told -/
def gatherW : List (ByteArray × Int) → List ByteArray → List ByteArray × Int
  | [], acc => (acc, 0)
  | p :: r, acc => if p.2 ≠ 0 then ([], p.2) else gatherW r (acc ++ [p.1])
def getE (l : List UInt8) : Int := if verE l ≠ 0 then verE l else if (gatherW (toldW l) []).2 ≠ 0 then (gatherW (toldW l) []).2 else if 131072 < (catB (gatherW (toldW l) []).1).length then 5 else 0
def getV (l : List UInt8) : Int := if getE l = 0 then verN l else 0
def getL (l : List UInt8) : List ByteArray := if getE l = 0 then (gatherW (toldW l) []).1 else []

/-- a head in the middle is a head at the start of the rest -/
theorem headC_drop (l : List UInt8) (a k : Nat) : headC (l.drop a) k = headC l (a + k) := by
  unfold headC; rw [List.getD_eq_getElem?_getD, List.getElem?_drop, ← List.getD_eq_getElem?_getD]
theorem lenB_drop (l : List UInt8) (a m : Nat) : lenB (l.drop a) 0 m = lenB l a m := by
  unfold lenB; rw [List.drop_drop, Nat.zero_add]
theorem lengthE_drop (l : List UInt8) (a m : Nat) (ha : a ≤ l.length) : lengthE (l.drop a) 0 m = lengthE l a m := by
  unfold lengthE
  rw [lenB_drop, List.length_drop]
  have h1 : (l.drop a).getD (0 + 1) 0 = l.getD (a + 1) 0 := by
    rw [List.getD_eq_getElem?_getD, List.getElem?_drop, ← List.getD_eq_getElem?_getD, Nat.zero_add]
  rw [h1]
  have h2 : (l.length - a < 0 + 1 + m) = (l.length < a + 1 + m) := by apply propext; omega
  simp only [h2]
theorem raw_drop (l : List UInt8) (a : Nat) (ha : a ≤ l.length) : rawE (l.drop a) 0 = rawE l a ∧ rawFrom l a = a + rawFrom (l.drop a) 0 ∧ rawN (l.drop a) 0 = rawN l a := by
  have hc : headC (l.drop a) 0 = headC l a := headC_drop l a 0
  unfold rawE rawFrom rawN
  rw [hc, lengthE_drop l a _ ha, lenB_drop]
  refine ⟨rfl, ?_, rfl⟩
  split
  · rfl
  · split <;> omega
theorem look_drop (l : List UInt8) (a : Nat) (ha : a ≤ l.length) : lookE l (a : Int) = lookE (l.drop a) 0 ∧ (lookE l (a : Int) = 0 → lookFrom l (a : Int) = a + lookFrom (l.drop a) 0) ∧ lookN l (a : Int) = lookN (l.drop a) 0 ∧ lookL l (a : Int) = lookL (l.drop a) 0 := by
  obtain ⟨r1, r2, r3⟩ := raw_drop l a ha
  have hc : headC (l.drop a) 0 = headC l a := headC_drop l a 0
  have hc1 : headC (l.drop a) 1 = headC l (a + 1) := headC_drop l a 1
  have hl : (l.drop a).length = l.length - a := List.length_drop
  have hE : lookE l (a : Int) = lookE (l.drop a) 0 := by
    unfold lookE
    rw [if_neg (show ¬ ((a : Int) < 0 ∨ (l.length : Int) < (a : Int)) by omega), if_neg (show ¬ ((0 : Int) < 0 ∨ ((l.drop a).length : Int) < 0) by omega)]
    have e1 : ((a : Int) = (l.length : Int)) = ((0 : Int) = ((l.drop a).length : Int)) := by apply propext; rw [hl]; omega
    have e2 : (l.length < rawFrom l a + rawN l a) = ((l.drop a).length < rawFrom (l.drop a) 0 + rawN (l.drop a) 0) := by apply propext; rw [hl, r2, r3]; omega
    simp only [e1, Int.toNat_natCast, Int.toNat_zero, r1, e2, hc, hc1, Nat.zero_add]
  refine ⟨hE, fun h => ?_, ?_, ?_⟩
  · unfold lookFrom; rw [if_pos h, if_pos (by rw [← hE]; exact h), Int.toNat_natCast, Int.toNat_zero, r2]
  · unfold lookN; rw [hE, Int.toNat_natCast, Int.toNat_zero, r3]
  · unfold lookL; rw [hE, Int.toNat_natCast, Int.toNat_zero, hc]

theorem longE_0 {n : Nat} : longE n = 0 ↔ 2 ≤ n ∧ n ≤ 32768 := by
  unfold longE
  by_cases h1 : n < 2
  · rw [if_pos h1]; exact ⟨fun h => absurd h (by decide), fun h => absurd h1 (by omega)⟩
  · rw [if_neg h1]
    by_cases h2 : 32768 < n
    · rw [if_pos h2]; exact ⟨fun h => absurd h (by decide), fun h => absurd h2 (by omega)⟩
    · rw [if_neg h2]; exact ⟨fun _ => ⟨by omega, by omega⟩, fun _ => rfl⟩
theorem hasE_iff (E : Int) (xs : List ByteArray) : hasE E xs = true ↔ ∃ x ∈ xs, longE x.size = E := by simp [hasE]
theorem longE_25 (n : Nat) : longE n = 0 ∨ longE n = 2 ∨ longE n = 5 := by
  unfold longE
  split
  · exact .inr (.inl rfl)
  · split
    · exact .inr (.inr rfl)
    · exact .inl rfl
theorem checkW_0 {v : Int} {xs : List ByteArray} : checkW v xs = 0 ↔ (v = 0 ∨ v = 2) ∧ xs.length ≠ 0 ∧ xs.length ≤ 64 ∧ (∀ x ∈ xs, longE x.size = 0) ∧ (catB xs).length ≤ 131072 := by
  unfold checkW
  constructor
  · intro h
    split at h
    · cases h
    rename_i h1
    split at h
    · cases h
    rename_i h2
    split at h
    · cases h
    rename_i h3
    refine ⟨by omega, fun e => h2 (.inl e), by omega, fun x hx => ?_, ?_⟩
    · rcases longE_25 x.size with e | e | e
      · exact e
      · exact absurd (.inr ((hasE_iff _ _).2 ⟨x, hx, e⟩)) h2
      · exact absurd (.inr (.inl ((hasE_iff _ _).2 ⟨x, hx, e⟩))) h3
    · rcases Nat.lt_or_ge 131072 (catB xs).length with e | e
      · exact absurd (.inr (.inr e)) h3
      · exact e
  · rintro ⟨h1, h2, h3, h4, h5⟩
    rw [if_neg (by omega), if_neg, if_neg]
    · rintro (e | e | e)
      · omega
      · obtain ⟨x, hx, e⟩ := (hasE_iff _ _).1 e
        rw [h4 x hx] at e; cases e
      · omega
    · rintro (e | e)
      · exact h2 e
      · obtain ⟨x, hx, e⟩ := (hasE_iff _ _).1 e
        rw [h4 x hx] at e; cases e
theorem size_list' (x : ByteArray) : x.data.toList.length = x.size := Array.length_toList
theorem bytesT_big {x : ByteArray} (h : 2 ≤ x.size) : bytesT x = headL x.size 128 ++ x.data.toList := if_neg (by omega)
theorem ba_self (x : ByteArray) : (⟨x.data.toList.toArray⟩ : ByteArray) = x := by cases x; rfl

/-- what is told of what was put, of the plain version -/
theorem plainT_back : ∀ (xs : List ByteArray) (f many : Nat), (∀ x ∈ xs, longE x.size = 0) → xs.length < f → many ≤ 64 →
    plainT f (xs.flatMap bytesT) many = (xs.take (64 - many)).map (fun x => (x, 0)) ++ (if 64 < many + xs.length then [(⟨#[]⟩, 5)] else [])
  | [], f, many, _, hf, hm => by
    obtain ⟨f, rfl⟩ : ∃ q, f = q + 1 := ⟨f - 1, by omega⟩
    rw [List.flatMap_nil, plainT, if_pos rfl, if_neg (by simp; omega)]
    simp
  | x :: xs, f, many, h, hf, hm => by
    obtain ⟨f, rfl⟩ : ∃ q, f = q + 1 := ⟨f - 1, by omega⟩
    have hx := longE_0.1 (h x (by simp))
    have hsz := size_list' x
    rw [List.flatMap_cons, plainT]
    have hne : bytesT x ++ xs.flatMap bytesT ≠ [] := by
      have := bytesT_pos x
      intro e
      rw [← List.length_eq_zero_iff, List.length_append] at e; omega
    rw [if_neg hne]
    by_cases h64 : 64 ≤ many
    · have e : many = 64 := by omega
      rw [show plainE (bytesT x ++ xs.flatMap bytesT) many = 5 from if_pos h64, if_pos (by decide), if_pos (by simp; omega), e]
      rfl
    · rw [bytesT_big hx.1, List.append_assoc]
      obtain ⟨k1, k2, k3, k4⟩ := look_head x.size 128 (x.data.toList ++ xs.flatMap bytesT) (by omega) (.inl rfl) (by rw [List.length_append]; omega) (by omega)
      simp only [Int.ofNat_zero, Int.natCast_zero] at k1 k2 k3 k4
      have hE : plainE (headL x.size 128 ++ (x.data.toList ++ xs.flatMap bytesT)) many = 0 := by
        unfold plainE
        rw [if_neg h64, if_neg (by rw [k1]; simp), k4, if_neg (by decide), k3]
        exact h x (by simp)
      rw [if_neg (by rw [hE]; simp), k2, k3]
      have d1 : ((headL x.size 128 ++ (x.data.toList ++ xs.flatMap bytesT)).drop (headL x.size 128).length).take x.size = x.data.toList := by
        rw [List.drop_left' rfl, List.take_left' hsz]
      have d2 : (headL x.size 128 ++ (x.data.toList ++ xs.flatMap bytesT)).drop ((headL x.size 128).length + x.size) = xs.flatMap bytesT := by
        rw [← List.drop_drop, List.drop_left' rfl, List.drop_left' hsz]
      rw [d1, d2, plainT_back xs f (many + 1) (fun y hy => h y (by simp [hy])) (by simp at hf; omega) (by omega), ba_self]
      rw [show 64 - many = (64 - (many + 1)) + 1 by omega, List.take_succ_cons, List.map_cons, List.cons_append]
      congr 2
      rw [List.length_cons, show many + 1 + xs.length = many + (xs.length + 1) by omega]
/-- what is told, from a place on, of the version that is counted -/
theorem countGo_back : ∀ (xs : List ByteArray) (pre post : List UInt8), (∀ x ∈ xs, longE x.size = 0) →
    countGo (pre ++ xs.flatMap (partW 2) ++ post) xs.length pre.length = xs.map (fun x => (x, 0)) ++ (if post = [] then [] else [(⟨#[]⟩, 4)])
  | [], pre, post, _ => by
    rw [List.flatMap_nil, List.append_nil, List.length_nil, countGo, List.map_nil, List.nil_append]
    cases post with
    | nil => rw [if_neg (by simp), if_pos rfl]
    | cons a b => rw [if_pos (by simp), if_neg (by simp)]
  | x :: xs, pre, post, h => by
    have hx := longE_0.1 (h x (by simp))
    have hsz := size_list' x
    have hp : partW 2 x = varL x.size ++ x.data.toList := if_pos rfl
    have e1 : pre ++ (x :: xs).flatMap (partW 2) ++ post = pre ++ varL x.size ++ (x.data.toList ++ (xs.flatMap (partW 2) ++ post)) := by
      rw [List.flatMap_cons, hp]; simp [List.append_assoc]
    have hu : unvarS (pre ++ (x :: xs).flatMap (partW 2) ++ post) (pre.length : Int) = (BitVec.ofNat 64 x.size, pre.length + (varL x.size).length, 0) := by
      rw [e1]; exact unvarS_back pre _ x.size (by omega)
    have hn : (BitVec.ofNat 64 x.size).toNat = x.size := by rw [BitVec.toNat_ofNat, Nat.mod_eq_of_lt (by omega)]
    have hE : countE (pre ++ (x :: xs).flatMap (partW 2) ++ post) pre.length = 0 := by
      unfold countE
      rw [hu]
      dsimp only
      rw [hn, if_neg (by simp), if_neg (by rw [h x (by simp)]; simp), if_neg (by rw [e1]; simp only [List.length_append]; omega)]
    rw [List.length_cons, countGo, if_neg (by rw [hE]; simp), hu]
    dsimp only
    rw [hn]
    have d1 : ((pre ++ (x :: xs).flatMap (partW 2) ++ post).drop (pre.length + (varL x.size).length)).take x.size = x.data.toList := by
      rw [e1, List.drop_left' (by simp), List.take_left' hsz]
    rw [d1, ba_self, List.map_cons, List.cons_append]
    congr 1
    have e2 : pre ++ (x :: xs).flatMap (partW 2) ++ post = (pre ++ partW 2 x) ++ xs.flatMap (partW 2) ++ post := by
      rw [List.flatMap_cons]; simp [List.append_assoc]
    have e3 : pre.length + (varL x.size).length + x.size = (pre ++ partW 2 x).length := by rw [hp]; simp only [List.length_append]; omega
    rw [e2, e3]
    exact countGo_back xs _ post fun y hy => h y (by simp [hy])
theorem gatherW_ok : ∀ (xs : List ByteArray) (r : List (ByteArray × Int)) (acc : List ByteArray), gatherW (xs.map (fun x => (x, 0)) ++ r) acc = gatherW r (acc ++ xs)
  | [], r, acc => by simp
  | x :: xs, r, acc => by rw [List.map_cons, List.cons_append, gatherW, if_neg (by simp), gatherW_ok xs r]; simp
theorem gatherW_only : ∀ (T : List (ByteArray × Int)) (acc xs : List ByteArray), gatherW T acc = (xs, 0) → ∃ ys, xs = acc ++ ys ∧ T = ys.map (fun x => (x, 0))
  | [], acc, xs, h => ⟨[], by rw [gatherW] at h; injection h with h1 _; simp [h1], rfl⟩
  | p :: r, acc, xs, h => by
    rw [gatherW] at h
    split at h
    · rename_i h1; injection h with _ h2; exact absurd h2 h1
    · rename_i h1
      obtain ⟨ys, h2, h3⟩ := gatherW_only r _ xs h
      refine ⟨p.1 :: ys, by rw [h2]; simp, ?_⟩
      rw [List.map_cons, ← h3]
      congr 1
      exact Prod.ext rfl (by simpa using h1)
theorem gatherW_bad : ∀ (T : List (ByteArray × Int)) (acc : List ByteArray), (gatherW T acc).2 ≠ 0 → (gatherW T acc).1 = []
  | [], acc, h => absurd rfl h
  | p :: r, acc, h => by
    rw [gatherW] at h ⊢
    split
    · rfl
    · rename_i h1; rw [if_neg h1] at h; exact gatherW_bad r _ h
/-- the first byte of what is put -/
theorem ver_put {v : Int} {xs : List ByteArray} (more : List UInt8) (hv : v = 0 ∨ v = 2) (h0 : xs.length ≠ 0) (h : ∀ x ∈ xs, longE x.size = 0) : verE (putL v xs ++ more) = 0 ∧ verN (putL v xs ++ more) = v := by
  rcases hv with rfl | rfl
  · obtain ⟨x, xs, rfl⟩ : ∃ x r, xs = x :: r := by cases xs with | nil => exact absurd rfl h0 | cons x r => exact ⟨x, r, rfl⟩
    have hx := longE_0.1 (h x (by simp))
    have e : putL 0 (x :: xs) ++ more = headL x.size 128 ++ (x.data.toList ++ (xs.flatMap (partW 0) ++ more)) := by
      show ([] ++ (x :: xs).flatMap (partW 0)) ++ more = _
      rw [List.nil_append, List.flatMap_cons, show partW 0 x = bytesT x from rfl, bytesT_big hx.1]; simp [List.append_assoc]
    rw [e]
    have hc : ∃ c r, headL x.size 128 = c :: r ∧ 130 ≤ c.toNat ∧ c.toNat ≤ 191 := by
      unfold headL
      split
      · exact ⟨_, _, rfl, by rw [UInt8.toNat_ofNat']; omega, by rw [UInt8.toNat_ofNat']; omega⟩
      · have h3 := beN_len3 x.size (by omega)
        exact ⟨_, _, rfl, by rw [UInt8.toNat_ofNat']; omega, by rw [UInt8.toNat_ofNat']; omega⟩
    obtain ⟨c, r, hc, h1, h2⟩ := hc
    rw [hc]
    have h3 : ¬ c = 2 := fun e => by rw [e] at h1; exact absurd h1 (by decide)
    unfold verE verN
    simp only [List.cons_append, List.getD_cons_zero]
    rw [if_neg (by simp), if_neg h3, if_pos ⟨h1, h2⟩, if_neg h3]
    exact ⟨rfl, rfl⟩
  · unfold verE verN putL
    simp only [if_true, List.cons_append, List.getD_cons_zero]
    rw [if_neg (by simp)]
    exact ⟨rfl, trivial⟩
theorem told_back {v : Int} {xs : List ByteArray} (hv : v = 0 ∨ v = 2) (h0 : xs.length ≠ 0) (h64 : xs.length ≤ 64) (h : ∀ x ∈ xs, longE x.size = 0) : toldW (putL v xs) = xs.map (fun x => (x, 0)) := by
  have hver := (ver_put [] hv h0 h).2
  rw [List.append_nil] at hver
  unfold toldW
  rw [hver]
  rcases hv with rfl | rfl
  · rw [if_neg (by decide)]
    have e : putL 0 xs = xs.flatMap bytesT := rfl
    have hlen : xs.length ≤ (xs.flatMap bytesT).length := by
      clear h h64 hver h0
      induction xs with
      | nil => simp
      | cons x xs ih => have := bytesT_pos x; rw [List.flatMap_cons, List.length_append, List.length_cons]; have := ih rfl; omega
    rw [e, plainT_back xs _ 0 h (by omega) (by omega), if_neg (by omega), List.append_nil, List.take_of_length_le (by omega)]
  · rw [if_pos rfl]
    have hu := unvarS_back [2] (xs.flatMap (partW 2)) xs.length (by omega)
    have e : putL 2 xs = [2] ++ varL xs.length ++ xs.flatMap (partW 2) := rfl
    have hn : (BitVec.ofNat 64 xs.length).toNat = xs.length := by rw [BitVec.toNat_ofNat, Nat.mod_eq_of_lt (by omega)]
    have hu : unvarS (putL 2 xs) 1 = (BitVec.ofNat 64 xs.length, 1 + (varL xs.length).length, 0) := by rw [e]; exact hu
    have hM : manyE (putL 2 xs) = 0 := by
      unfold manyE
      rw [hu]
      dsimp only
      rw [hn, if_neg (by omega), if_neg (by omega)]
    unfold countT
    rw [if_neg (by rw [hM]; simp), hu]
    dsimp only
    rw [hn]
    have := countGo_back xs ([2] ++ varL xs.length) [] h
    rw [List.append_nil, if_pos rfl, List.append_nil] at this
    rw [e, show 1 + (varL xs.length).length = ([2] ++ varL xs.length).length by simp; omega]
    exact this
/-- WHAT IS PUT IS GOT -/
theorem get_back {v : Int} {xs : List ByteArray} (h : checkW v xs = 0) : getE (putL v xs) = 0 ∧ getV (putL v xs) = v ∧ getL (putL v xs) = xs ∧ verE (putL v xs) = 0 ∧ verN (putL v xs) = v := by
  obtain ⟨hv, h0, h64, hx, hs⟩ := checkW_0.1 h
  have ht := told_back hv h0 h64 hx
  have hver := ver_put [] hv h0 hx
  rw [List.append_nil] at hver
  have hg : gatherW (toldW (putL v xs)) [] = (xs, 0) := by
    have := gatherW_ok xs [] []
    rw [List.append_nil, List.nil_append] at this
    rw [ht, this]; rfl
  have hE : getE (putL v xs) = 0 := by
    unfold getE
    rw [if_neg (by rw [hver.1]; simp), hg, if_neg (by simp), if_neg (by show ¬ 131072 < (catB xs).length; omega)]
  exact ⟨hE, by unfold getV; rw [if_pos hE, hver.2], by unfold getL; rw [if_pos hE, hg], hver.1, hver.2⟩
end Go.Proofs.YtdflihfecfmpfaaDoor
