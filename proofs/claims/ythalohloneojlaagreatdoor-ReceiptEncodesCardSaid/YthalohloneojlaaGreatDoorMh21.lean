/- Merged: FldL, RcpO, RcpP, Open, OpenS. -/
import Derived.Test.YthalohloneojlaaGreatDoorMh1
import Derived.Test.YthalohloneojlaaGreatDoorMh10
import Derived.Test.YthalohloneojlaaGreatDoorMh14
import Derived.Test.YthalohloneojlaaGreatDoorMh18
import Derived.Test.YthalohloneojlaaGreatDoorMh20
import Derived.Deep.Strs
/- What is written is read again; what is read is written just so: plain laws of fields. -/
namespace Go.Proofs.YthalohloneojlaaGreatDoor
open Go.RowKit Go.Shelf
set_option linter.unusedVariables false
set_option linter.unusedSimpArgs false

theorem numE_false (s : ByteArray) : numE false s = unbeE s.data.toList := rfl
theorem wordE_false (s : ByteArray) : wordE false s = parseE s.data.toList := rfl
theorem wordP_false (s : ByteArray) (q : Nat) : wordP false s q = parseP s.data.toList q := rfl
theorem number_back (n : Nat) (hn : n < 18446744073709551616) (b : ByteArray) (hb : b.data.toList = beN n) : numE false b = 0 ∧ numV false b = n := by
  have hlen := beN_len8 n hn
  have h256 : n < 256 ^ 32 := Nat.lt_of_lt_of_le hn (by decide)
  obtain ⟨p1, p2⟩ := parse_beN n h256
  have p2 := p2 0
  have hw : wp n 0 = n := by
    unfold wp
    rw [Nat.mul_zero, Nat.pow_zero, Nat.div_one]
    exact Nat.mod_eq_of_lt hn
  rw [hw] at p2
  rw [← hb] at hlen p1 p2
  have h1 : numE false b = 0 := by
    rw [numE_false]; unfold unbeE; rw [if_neg (by omega), p1]
  refine ⟨h1, ?_⟩
  unfold numV
  rw [if_pos h1]
  unfold unbeN
  rw [if_neg (by omega), p2]
theorem word_back (a0 a1 a2 a3 : Nat) (h0 : a0 < 18446744073709551616) (h1 : a1 < 18446744073709551616) (h2 : a2 < 18446744073709551616) (h3 : a3 < 18446744073709551616) (b : ByteArray) (hb : b.data.toList = beN (wordN a0 a1 a2 a3)) :
    wordE false b = 0 ∧ wordP false b 0 = a0 ∧ wordP false b 1 = a1 ∧ wordP false b 2 = a2 ∧ wordP false b 3 = a3 := by
  obtain ⟨p1, p2⟩ := parse_beN _ (word_lt a0 a1 a2 a3 h0 h1 h2 h3)
  obtain ⟨w0, w1, w2, w3⟩ := wp_word a0 a1 a2 a3 h0 h1 h2 h3
  have q0 := p2 0; have q1 := p2 1; have q2 := p2 2; have q3 := p2 3
  rw [w0] at q0; rw [w1] at q1; rw [w2] at q2; rw [w3] at q3
  rw [← hb] at p1 q0 q1 q2 q3
  exact ⟨by rw [wordE_false]; exact p1, by rw [wordP_false]; exact q0, by rw [wordP_false]; exact q1, by rw [wordP_false]; exact q2, by rw [wordP_false]; exact q3⟩
theorem yes_back (v : Bool) : yesE (yesS v) = 0 ∧ yesV (yesS v) = v := by
  cases v
  · exact ⟨if_pos (.inl rfl), decide_eq_false (by intro e; injection e with e; cases e)⟩
  · exact ⟨if_pos (.inr rfl), decide_eq_true rfl⟩
theorem text_back6 (n : Nat) : textE n n n = 0 := by unfold textE; rw [if_neg (by omega), if_neg (by omega)]
theorem number_only {l : Bool} {s : ByteArray} (h : numE l s = 0) : l = false ∧ beN (numV l s) = s.data.toList := by
  cases l with
  | true => exact absurd h (by show ¬ (2 : Int) = 0; decide)
  | false =>
    refine ⟨rfl, ?_⟩
    have hV : numV false s = unbeN s.data.toList := if_pos h
    have h : unbeE s.data.toList = 0 := h
    unfold unbeE at h
    split at h
    · cases h
    rename_i h1
    have hN : unbeN s.data.toList = parseP s.data.toList 0 := if_neg h1
    have hC := parseC_short (l := s.data.toList) (by omega)
    unfold parseC at hC
    simp only [Array.mk.injEq, List.cons.injEq, Value.int.injEq, true_and, and_true] at hC
    have ho := parse_only h
    rw [show parseP s.data.toList 1 = 0 by omega, show parseP s.data.toList 2 = 0 by omega, show parseP s.data.toList 3 = 0 by omega] at ho
    rw [hV, hN]
    have e : wordN (parseP s.data.toList 0) 0 0 0 = parseP s.data.toList 0 := by unfold wordN; omega
    rw [e] at ho
    exact ho
theorem word_only {l : Bool} {s : ByteArray} (h : wordE l s = 0) : l = false ∧ beN (wordN (wordP l s 0) (wordP l s 1) (wordP l s 2) (wordP l s 3)) = s.data.toList := by
  cases l with
  | true => exact absurd h (by show ¬ (2 : Int) = 0; decide)
  | false =>
    rw [wordE_false] at h
    rw [wordP_false, wordP_false, wordP_false, wordP_false]
    exact ⟨rfl, parse_only h⟩
theorem yes_only {s : ByteArray} (h : yesE s = 0) : yesS (yesV s) = s := by
  unfold yesE at h
  split at h
  · rename_i h1
    rcases h1 with e | e
    · subst e; rw [show yesV ⟨#[]⟩ = false from decide_eq_false (by intro e; injection e with e; cases e)]; rfl
    · subst e; rw [show yesV ⟨#[1]⟩ = true from decide_eq_true rfl]; rfl
  · cases h
end Go.Proofs.YthalohloneojlaaGreatDoor
/- Receipts: the plain laws: what is put may be an item; what is put is got. -/
namespace Go.Proofs.YthalohloneojlaaGreatDoor
open Go.RowKit Go.Shelf
set_option linter.unusedVariables false
set_option linter.unusedSimpArgs false

theorem formT (x : ByteArray) (d : Nat) : formF (txt x) d = 0 := by rw [formF_eq, if_neg (by rintro (⟨e, _⟩ | ⟨_, e⟩); cases e; exact e rfl), if_pos (show (txt x).list = false from rfl)]
theorem formL_all {xs : List Itm} {d : Nat} (h : ∀ x ∈ xs, formF x d = 0) : formL xs d = 0 := by
  induction xs with
  | nil => rw [formL]
  | cons x xs ih => rw [formL, if_neg (by rw [h x (by simp)]; simp), ih fun y hy => h y (by simp [hy])]
theorem formK {xs : List Itm} {d : Nat} (hd : d < 12) (hl : xs.length ≤ 512) (h : ∀ x ∈ xs, formF x (d + 1) = 0) : formF (.mk true ⟨#[]⟩ xs) d = 0 := by
  rw [formF_eq, if_neg (by rintro (⟨_, e⟩ | ⟨e, _⟩); exact e rfl; cases e), if_neg (by intro e; cases e), if_neg (by omega), if_neg (by show ¬ 512 < xs.length; omega)]
  exact formL_all h
theorem form_log {l : LogV} (h : l.topics.length ≤ 4) (d : Nat) (hd : d < 11) : formF (logIt l) d = 0 := by
  refine formK (by omega) (by simp [logI]) fun x hx => ?_
  simp only [logI, List.mem_cons, List.not_mem_nil, or_false] at hx
  rcases hx with rfl | rfl | rfl
  · exact formT _ _
  · exact formK (by omega) (by simp; omega) fun y hy => by
      obtain ⟨t, _, rfl⟩ := List.mem_map.1 hy
      exact formT _ _
  · exact formT _ _
theorem check_1 {x : Rcp} (h : checkRc x = 0) : (x.full = true → x.kind = 126 ∧ x.version ≤ 1) ∧ (x.full = false → x.nonce = 0 ∧ x.version = 0) := by
  unfold checkRc chkE at h
  split at h
  · cases h
  split at h
  · cases h
  rename_i _ h2
  simp only [Bool.or_eq_true, Bool.and_eq_true, Bool.not_eq_true', decide_eq_true_eq, not_or, not_and, Bool.and_eq_false_iff, decide_eq_false_iff_not] at h2
  refine ⟨fun hf => ?_, fun hf => ?_⟩
  · have := h2.1.2 hf
    exact ⟨Classical.not_not.1 this.1, by omega⟩
  · have := h2.2 hf
    simp only [Classical.not_not] at this
    by_cases h1 : x.nonce = 0 <;> by_cases h3 : x.version = 0 <;> simp_all
theorem form_rc {x : Rcp} (h : checkRc x = 0) : formF (itemRc x) 0 = 0 := by
  obtain ⟨h1, h2⟩ := check_0 h
  unfold itemRc
  refine formK (by omega) ?_ fun y hy => ?_
  · simp; omega
  · rcases List.mem_append.1 hy with hy | hy
    · simp only [List.mem_cons, List.not_mem_nil, or_false] at hy
      rcases hy with rfl | rfl | rfl
      · exact formT _ _
      · exact formT _ _
      · refine formK (by omega) (by simp; omega) fun z hz => ?_
        obtain ⟨l, hl, rfl⟩ := List.mem_map.1 hz
        exact form_log (h2 l hl).1 _ (by omega)
    · have := List.mem_of_mem_take hy
      simp only [List.mem_cons, List.not_mem_nil, or_false] at this
      rcases this with rfl | rfl
      · exact formT _ _
      · exact formT _ _
theorem wtT (x : ByteArray) : wtF (txt x) = 10 + x.size := by rw [wtF_eq]; show 10 + x.size + wtL [] = _; rw [wtL, Nat.add_zero]
theorem wt_logsF : ∀ ls : List LogV, (∀ l ∈ ls, l.topics.length ≤ 4 ∧ l.data.size ≤ 300 ∧ l.addr.size = 20 ∧ ∀ t ∈ l.topics, t.size = 32) → wtL (ls.map logIt) ≤ 600 * ls.length
  | [], _ => by simp [wtL]
  | l :: ls, h => by
    have ih := wt_logsF ls fun x hx => h x (by simp [hx])
    obtain ⟨a, b, c, d⟩ := h l (by simp)
    have ht := wt_topics l.topics d
    rw [List.map_cons, wtL, List.length_cons, wtF_eq]
    show 10 + 0 + wtL [txt l.addr, .mk true ⟨#[]⟩ (l.topics.map txt), txt l.data] + _ ≤ _
    rw [wtL, wtL, wtL, wtL, wtT, wtT, wtF_eq]
    show 10 + 0 + (10 + l.addr.size + (10 + 0 + wtL (l.topics.map txt) + (10 + l.data.size + 0))) + _ ≤ _
    rw [ht]; omega
theorem wt_rcF {x : Rcp} (hok : x.Ok) (hf : FewP x) (h : checkRc x = 0) : wtF (itemRc x) ≤ 20000 := by
  obtain ⟨h1, h2⟩ := check_0 h
  have hl := wt_logsF x.logs fun l hl => by
    obtain ⟨a, b, c, d⟩ := h2 l hl
    have := hf l hl
    exact ⟨a, by omega, c, d⟩
  have n1 := numT_len x.gas hok.1; have n2 := numT_len x.nonce hok.2.1; have n3 := numT_len x.version hok.2.2
  have hy : (yesS x.status).size ≤ 1 := by cases x.status <;> decide
  have hT : wtL ([txt (numT x.nonce), txt (numT x.version)].take (formRc x).toNat) ≤ 40 := by
    unfold formRc
    split
    · show wtL [] ≤ 40; rw [wtL]; omega
    split
    · show wtL [txt (numT x.nonce)] ≤ 40; rw [wtL, wtL, wtT]; omega
    · show wtL [txt (numT x.nonce), txt (numT x.version)] ≤ 40; rw [wtL, wtL, wtL, wtT, wtT]; omega
  unfold itemRc
  rw [wtF_eq]
  show 10 + 0 + wtL (txt (yesS x.status) :: txt (numT x.gas) :: .mk true ⟨#[]⟩ (x.logs.map logIt) :: [txt (numT x.nonce), txt (numT x.version)].take (formRc x).toNat) ≤ _
  rw [wtL, wtL, wtL, wtT, wtT, wtF_eq]
  show 10 + 0 + (10 + _ + (10 + _ + (10 + 0 + wtL (x.logs.map logIt) + _))) ≤ _
  omega
theorem item_okR {x : Rcp} (hok : x.Ok) (hf : FewP x) (h : checkRc x = 0) : checkI (itemRc x) = 0 := by
  have hw := wt_rcF hok hf h
  have hb := bytesF_len (itemRc x) (by omega)
  unfold checkI
  rw [if_neg (by rw [form_rc h]; simp), if_neg (by omega)]
theorem put_err {x : Rcp} (hok : x.Ok) (hf : FewP x) : putRcE x = checkRc x := by
  unfold putRcE
  by_cases h : checkRc x = 0
  · rw [if_neg (by rw [h]; simp), item_okR hok hf h, h]
  · rw [if_pos h]
theorem encB_ok {x : Itm} (h : checkI x = 0) : encB x = bytesF x := if_pos h

/- what is put is got -/
theorem fst1_z (e : Int) : fst1 0 e = e := if_pos rfl
theorem ba_listR (l : List UInt8) : (⟨l.toArray⟩ : ByteArray).data.toList = l := rfl
theorem numT_list (n : Nat) : (numT n).data.toList = beN n := by unfold numT; exact ba_listR _
theorem num_get (n : Nat) (h : n < 18446744073709551616) : numE (txt (numT n)).list (txt (numT n)).bytes = 0 ∧ numV (txt (numT n)).list (txt (numT n)).bytes = n := number_back n h (numT n) (numT_list n)
theorem row_get {lo hi : Int} {xs : List Itm} (h : textE xs.length lo hi = 0) : rowE lo hi (.mk true ⟨#[]⟩ xs) = 0 ∧ rowL lo hi (.mk true ⟨#[]⟩ xs) = xs := ⟨h, if_pos ⟨rfl, h⟩⟩
theorem exs_get {n : Nat} (ts : List ByteArray) (h : ∀ t ∈ ts, t.size = n) : exsE n 0 (ts.map txt) = 0 := by
  induction ts with
  | nil => rfl
  | cons t ts ih =>
    show exsE n (fst1 0 (exE n (txt t))) (ts.map txt) = 0
    rw [show exE n (txt t) = 0 from if_pos ⟨rfl, h t (by simp)⟩]
    exact ih fun x hx => h x (by simp [hx])
theorem textE_in {n : Nat} {lo hi : Int} (h1 : lo ≤ (n : Int)) (h2 : (n : Int) ≤ hi) : textE n lo hi = 0 := by unfold textE; rw [if_neg (by omega), if_neg (by omega)]
theorem log_get {l : LogV} (h : l.topics.length ≤ 4 ∧ l.data.size ≤ 4096 ∧ l.addr.size = 20 ∧ ∀ t ∈ l.topics, t.size = 32) : logE 0 (logIt l) = 0 ∧ logL (logIt l) = l := by
  obtain ⟨a, b, c, d⟩ := h
  obtain ⟨r1, r2⟩ := row_get (lo := 3) (hi := 3) (xs := logI l) (textE_in (by simp [logI]) (by simp [logI]))
  have r1' : rowE 3 3 (logIt l) = 0 := r1
  have r2' : rowL 3 3 (logIt l) = logI l := r2
  obtain ⟨s1, s2⟩ := row_get (lo := 0) (hi := 4) (xs := l.topics.map txt) (textE_in (by omega) (by simp; omega))
  have hd : datE (txt l.data) = 0 := by
    show textE l.data.size 0 4096 = 0
    exact textE_in (by omega) (by omega)
  have hv : datV (txt l.data) = l.data := if_pos ⟨rfl, hd⟩
  have he : exE 20 (txt l.addr) = 0 := if_pos ⟨rfl, c⟩
  constructor
  · unfold logE
    rw [r1', r2']
    show fst1 (exsE 32 (fst1 (fst1 (fst1 0 0) (exE 20 (txt l.addr))) (rowE 0 4 (.mk true ⟨#[]⟩ (l.topics.map txt)))) (rowL 0 4 (.mk true ⟨#[]⟩ (l.topics.map txt)))) (datE (txt l.data)) = 0
    rw [s1, s2, he, hd, fst1_z, fst1_z, fst1_z, exs_get _ d]
    rfl
  · unfold logL
    rw [r2']
    show LogV.mk l.addr ((rowL 0 4 (.mk true ⟨#[]⟩ (l.topics.map txt))).map Itm.bytes) (datV (txt l.data)) = l
    rw [s2, hv, List.map_map]
    have : l.topics.map (Itm.bytes ∘ txt) = l.topics := by
      conv => rhs; rw [← List.map_id l.topics]
      rfl
    rw [this]
theorem logs_get : ∀ ls : List LogV, (∀ l ∈ ls, l.topics.length ≤ 4 ∧ l.data.size ≤ 4096 ∧ l.addr.size = 20 ∧ ∀ t ∈ l.topics, t.size = 32) → logsE 0 (ls.map logIt) = 0 ∧ (ls.map logIt).map logL = ls
  | [], _ => ⟨rfl, rfl⟩
  | l :: ls, h => by
    obtain ⟨i1, i2⟩ := logs_get ls fun x hx => h x (by simp [hx])
    obtain ⟨l1, l2⟩ := log_get (h l (by simp))
    refine ⟨?_, by rw [List.map_cons, List.map_cons, i2, l2]⟩
    show logsE (logE 0 (logIt l)) (ls.map logIt) = 0
    rw [l1, i1]
theorem of_get {x : Rcp} (hok : x.Ok) (h : checkRc x = 0) : ofE 0 (itemRc x).items = 0 ∧ ofX x.kind (itemRc x).items = x := by
  obtain ⟨h1, h2⟩ := check_0 h
  obtain ⟨h3, h4⟩ := check_1 h
  obtain ⟨y1, y2⟩ := yes_back x.status
  obtain ⟨g1, g2⟩ := num_get x.gas hok.1
  obtain ⟨n1, n2⟩ := num_get x.nonce hok.2.1
  obtain ⟨v1, v2⟩ := num_get x.version hok.2.2
  obtain ⟨r1, r2⟩ := row_get (lo := 0) (hi := 16) (xs := x.logs.map logIt) (textE_in (by omega) (by simp; omega))
  obtain ⟨l1, l2⟩ := logs_get x.logs h2
  have e1 : yesEI (txt (yesS x.status)) = 0 := y1
  have e2 : yesVI (txt (yesS x.status)) = x.status := (if_pos ⟨rfl, y1⟩).trans y2
  obtain ⟨kind, status, gas, logs, full, nonce, version⟩ := x
  simp only at *
  have key : ∀ tl : List Itm, ofE 0 (txt (yesS status) :: txt (numT gas) :: .mk true ⟨#[]⟩ (logs.map logIt) :: tl) = ofE2 (ofE1 0 tl) tl.tail ∧
      ofX kind (txt (yesS status) :: txt (numT gas) :: .mk true ⟨#[]⟩ (logs.map logIt) :: tl) = ⟨kind, status, gas, logs, !tl.isEmpty, ofN tl, ofN tl.tail⟩ := by
    intro tl
    constructor
    · unfold ofE
      simp only [List.headD_cons, List.tail_cons]
      rw [e1, g1, r1, r2, fst1_z, fst1_z, fst1_z, l1]
    · unfold ofX
      simp only [List.headD_cons, List.tail_cons]
      rw [e2, g2, r2, l2]
  have hit : (itemRc ⟨kind, status, gas, logs, full, nonce, version⟩).items = txt (yesS status) :: txt (numT gas) :: .mk true ⟨#[]⟩ (logs.map logIt) :: [txt (numT nonce), txt (numT version)].take (formRc ⟨kind, status, gas, logs, full, nonce, version⟩).toNat := by
    unfold itemRc
    simp only [Itm.items, List.cons_append, List.nil_append]
  rw [hit]
  clear hit
  cases full with
  | false =>
    obtain ⟨rfl, rfl⟩ := h4 rfl
    have ht : [txt (numT 0), txt (numT 0)].take (formRc ⟨kind, status, gas, logs, false, 0, 0⟩).toNat = [] := by
      rw [show formRc ⟨kind, status, gas, logs, false, 0, 0⟩ = 0 from if_pos rfl]
      exact List.take_zero
    rw [ht]
    exact key []
  | true =>
    obtain ⟨rfl, hv⟩ := h3 rfl
    by_cases hz : version = 0
    · subst hz
      have ht : [txt (numT nonce), txt (numT 0)].take (formRc ⟨126, status, gas, logs, true, nonce, 0⟩).toNat = [txt (numT nonce)] := by
        rw [show formRc ⟨126, status, gas, logs, true, nonce, 0⟩ = 1 by unfold formRc; rw [if_neg (by simp), if_pos rfl]]
        generalize txt (numT nonce) = a
        generalize txt (numT 0) = b
        rfl
      rw [ht]
      obtain ⟨k1, k2⟩ := key [txt (numT nonce)]
      generalize hy : txt (numT nonce) = y at *
      refine ⟨k1.trans ?_, k2.trans ?_⟩
      · show (fst1 0 (numE y.list y.bytes)) = 0
        rw [n1]; rfl
      · show Rcp.mk _ _ _ _ true (numV y.list y.bytes) 0 = _
        rw [n2]
    · obtain rfl : version = 1 := by omega
      have ht : [txt (numT nonce), txt (numT 1)].take (formRc ⟨126, status, gas, logs, true, nonce, 1⟩).toNat = [txt (numT nonce), txt (numT 1)] := by
        rw [show formRc ⟨126, status, gas, logs, true, nonce, 1⟩ = 2 by unfold formRc; rw [if_neg (by simp), if_neg (by simp)]]
        generalize txt (numT nonce) = a
        generalize txt (numT 1) = b
        rfl
      rw [ht]
      obtain ⟨k1, k2⟩ := key [txt (numT nonce), txt (numT 1)]
      generalize hy : txt (numT nonce) = y at *
      generalize hz : txt (numT 1) = z at *
      refine ⟨k1.trans ?_, k2.trans ?_⟩
      · show (if numV z.list z.bytes = 1 then fst1 (fst1 0 (numE y.list y.bytes)) (numE z.list z.bytes) else _) = 0
        rw [if_pos v2, n1, v1]; rfl
      · show Rcp.mk _ _ _ _ true (numV y.list y.bytes) (numV z.list z.bytes) = _
        rw [n2, v2]
theorem item_get {x : Rcp} (hok : x.Ok) (h : checkRc x = 0) : itemR x.kind (itemRc x) = (0, x) := by
  obtain ⟨h3, h4⟩ := check_1 h
  obtain ⟨o1, o2⟩ := of_get hok h
  have hlen : (3 : Int) ≤ ((itemRc x).items.length : Int) ∧ ((itemRc x).items.length : Int) ≤ mostR x.kind := by
    have : (itemRc x).items.length = 3 + (min (formRc x).toNat 2) := by simp [itemRc, Itm.items]; omega
    rw [this]
    unfold mostR formRc
    cases hf : x.full with
    | false => simp; split <;> omega
    | true => rw [if_pos (h3 hf).1]; simp; split <;> simp
  have hi : itemRc x = .mk true ⟨#[]⟩ (itemRc x).items := rfl
  obtain ⟨r1, r2⟩ := row_get (lo := 3) (hi := mostR x.kind) (xs := (itemRc x).items) (textE_in hlen.1 hlen.2)
  rw [← hi] at r1 r2
  unfold itemR
  rw [r1, r2, o1, o2, if_neg (by simp), if_neg (by simp)]
theorem get_put {x : Rcp} (hok : x.Ok) (h : checkRc x = 0) (hi : checkI (itemRc x) = 0) : getR (putRcL x) = (0, x) := by
  obtain ⟨_, hp⟩ := putRc_0 h
  rw [encB_ok hi] at hp
  rw [hp]
  have hb : bodyR x.kind (bytesF (itemRc x)) = (0, x) := by
    unfold bodyR
    rw [decode_back hi]
    exact item_get hok h
  have hwt : wtF (itemRc x) ≤ 1000000000 := by
    obtain ⟨h1, h2⟩ := check_0 h
    exact wt_rc h2 h1 hok h
  by_cases hk : x.kind = 0
  · rw [if_pos hk, List.nil_append]
    obtain ⟨z, l, e1, e2, _⟩ := bytesF_first (itemRc x) hwt
    have e2 := e2 rfl
    unfold getR
    rw [if_neg (by rw [e1]; simp), if_neg (by rw [e1]; simp only [List.getD_cons_zero]; omega)]
    rw [hk] at hb
    exact hb
  · rw [if_neg hk]
    have hkk := kind_0 h
    have hto : ((UInt8.ofNat x.kind.toNat).toNat : Int) = x.kind := by
      rcases hkk with e | e | e | e | e <;> rw [e] <;> rfl
    have hik : isKind x.kind = true := by
      unfold isKind; simpa using hkk
    unfold getR
    rw [if_neg (by simp)]
    simp only [List.cons_append, List.nil_append, List.getD_cons_zero, List.drop_succ_cons, List.drop_zero]
    rw [if_pos (by omega), hto, if_neg (by rw [hik]; simp; omega)]
    exact hb
end Go.Proofs.YthalohloneojlaaGreatDoor
/- Receipts: the law: what is encoded is decoded. -/
namespace Go.Proofs.YthalohloneojlaaGreatDoor
open Go.RowKit Go.Shelf
set_option linter.unusedVariables false
set_option linter.unusedSimpArgs false

theorem put_small {x : Rcp} (h : checkRc x = 0) (hi : checkI (itemRc x) = 0) : (⟨(putRcL x).toArray⟩ : ByteArray).size ≤ 65537 := by
  obtain ⟨_, hp⟩ := putRc_0 h
  rw [encB_ok hi] at hp
  have := (check_form hi).2.1
  show (putRcL x).toArray.size ≤ _
  rw [hp]
  split <;> simp <;> omega
theorem form_le (x : Rcp) : formRc x ≤ 2 := by unfold formRc; split <;> (try split) <;> omega
theorem form_kind {x : Rcp} (h : checkRc x = 0) : formRc x = 0 ∨ x.kind = 126 := by
  cases hf : x.full with
  | false => exact .inl (if_pos hf)
  | true => exact .inr ((check_1 h).1 hf).1
set_option maxRecDepth 100000 in
set_option maxHeartbeats 4000000 in
theorem rback_law (x : Rcp) (hok : x.Ok) (A : Option Addr) (n c : Nat) (w : World) (h : LogsR w.heap.size w x.logs A n) (hn : n ≤ 9223372036854775807) (hv : ErrLaid w) :
    Calls Tryz.prog 5 #[.agg (rcpC x (.slice A n c))] w fun e w' => e = .returned (.bool true) ∧ w.grownBy w' none := by
  have hG := only_alloc (World.grownBy.refl w none) (.cells (rcpC x (.slice A n c)) 25)
  have hb := Blk.new w 25 (rcpC x (.slice A n c))
  have HLR := Lib.hid (fun (V : World) (hV : w.grownBy V none) => h.grown hV (Nat.le_refl _))
  have HFW := Lib.hid (fun (V : World) (hV : w.grownBy V none) => fewRc_any x w.heap.size A n c V (HLR.out V hV) hV.size hn)
  have HEN := Lib.hid (fun (V : World) (hV : w.grownBy V none) => encodeRc_any x hok w.heap.size A n c V (HLR.out V hV) hV.size hn)
  have HCK := Lib.hid (fun (V : World) (hV : w.grownBy V none) => checkRc_any x w.heap.size A n c V (HLR.out V hV) hV.size hn)
  have HFO := Lib.hid (fun (V : World) (B : Option Addr) (m d : Nat) => formRc_any x (.slice B m d) ⟨_, _, _, rfl⟩ V)
  have HSA := Lib.hid (fun (V : World) (hV : w.grownBy V none) (B' : Nat) (A' : Option Addr) (m d : Nat) (hR : LogsR B' V x.logs A' m) (hB : B' ≤ V.heap.size) => sameRc_any x x w.heap.size B' A A' n m c d V (HLR.out V hV) hR hV.size hB hn (by rw [← hR.1, h.1]; exact hn))
  have HWK := Lib.hid (fun (V : World) (hV : w.grownBy V none) => worksRc_any V (hv.kept hV (by simp)))
  have HV := Lib.hid hv
  have HPE := Lib.hid (fun (hf : FewP x) => put_err hok hf)
  have HGP := Lib.hid (fun h hi => get_put (x := x) hok h hi)
  have HG := Lib.hid hG
  obtain ⟨g, hg⟩ : ∃ g, w.heap.size = g := ⟨_, rfl⟩
  rw [hg] at hb
  have HB := Lib.hid hb
  clear h hG hv hb
  unfold rcpC at *
  go_enter Tryz.func5, Tryz.ntmps5
  go_upto_region 1 with (fail)
  clear hg
  generalize w.alloc (.cells #[.int .i64 x.kind, .bool x.status, .int .u64 (x.gas : Int), .slice A n c, .bool x.full, .int .u64 (x.nonce : Int), .int .u64 (x.version : Int)] 25) = w1 at *
  go_wp2_with fail
  refine (HWK.out w1 HG.out).mono ?_
  rintro e w2 ⟨rfl, hg2⟩
  have HG2 := Lib.hid (grown_self HG.out hg2 (by simp)); have HB2 := Lib.hid (HB.out.grown hg2 (by simp))
  have c0 := HB2.out.cell 0; have c1 := HB2.out.cell 1; have c2 := HB2.out.cell 2; have c3 := HB2.out.cell 3; have c4 := HB2.out.cell 4; have c5 := HB2.out.cell 5; have c6 := HB2.out.cell 6
  simp only [List.getElem?_toArray, List.getElem?_cons_zero, List.getElem?_cons_succ] at c0 c1 c2 c3 c4 c5 c6
  clear hg2 HG HB HWK
  go_wp2_with fail
  refine (HFW.out w2 HG2.out).mono ?_
  rintro e w3 ⟨⟨b, rfl, hfew⟩, hg3⟩
  have HG3 := Lib.hid (grown_self HG2.out hg3 (by simp)); have HB3 := Lib.hid (HB2.out.grown hg3 (by simp))
  have c0 := HB3.out.cell 0; have c1 := HB3.out.cell 1; have c2 := HB3.out.cell 2; have c3 := HB3.out.cell 3; have c4 := HB3.out.cell 4; have c5 := HB3.out.cell 5; have c6 := HB3.out.cell 6
  simp only [List.getElem?_toArray, List.getElem?_cons_zero, List.getElem?_cons_succ] at c0 c1 c2 c3 c4 c5 c6
  have HF := Lib.hid hfew
  clear hg3 HG2 HB2 HFW hfew
  cases b with
  | false =>
    go_wp2_with fail
    go_ret
    exact ⟨rfl, HG3.out⟩
  | true =>
    have hf := HF.out rfl
    have hpe := HPE.out hf
    have HFF := Lib.hid hf
    clear HF hf HPE
    obtain ⟨E, hE⟩ : ∃ E, checkRc x = E := ⟨_, rfl⟩
    obtain ⟨S, hS⟩ : ∃ S, (⟨(putRcL x).toArray⟩ : ByteArray) = S := ⟨_, rfl⟩
    rw [hE] at hpe
    have hen := fun V hV => HEN.out V hV
    rw [hpe, hS] at hen
    have HEN2 := Lib.hid hen
    have HE := Lib.hid hE; have HS := Lib.hid hS
    clear hen HEN hpe hE hS
    go_wp2_with fail
    refine (HEN2.out w3 HG3.out).mono ?_
    rintro e w4 ⟨rfl, hg4⟩
    have HG4 := Lib.hid (grown_self HG3.out hg4 (by simp)); have HB4 := Lib.hid (HB3.out.grown hg4 (by simp))
    have c0 := HB4.out.cell 0; have c1 := HB4.out.cell 1; have c2 := HB4.out.cell 2; have c3 := HB4.out.cell 3; have c4 := HB4.out.cell 4; have c5 := HB4.out.cell 5; have c6 := HB4.out.cell 6
    simp only [List.getElem?_toArray, List.getElem?_cons_zero, List.getElem?_cons_succ] at c0 c1 c2 c3 c4 c5 c6
    clear hg4 HG3 HB3 HEN2
    by_cases h0 : E = 0
    rotate_left
    · have q1 : (E != 0) = true := by simpa using h0
      have hs : S = ⟨#[]⟩ := by
        rw [← HS.out]
        unfold putRcL
        rw [if_pos (by rw [HE.out]; exact h0)]
      subst hs
      have hck := fun V hV => HCK.out V hV
      rw [HE.out] at hck
      have HCK2 := Lib.hid hck
      clear hck HCK h0
      go_wp2_with fail
      refine (HCK2.out w4 HG4.out).mono ?_
      rintro e w5 ⟨rfl, hg5⟩
      have HG5 := Lib.hid (grown_self HG4.out hg5 (by simp))
      clear hg5 HCK2 c0 c1 c2 c3 c4 c5 c6
      go_wp2_with fail
      go_ret
      exact ⟨rfl, HG5.out⟩
    · subst h0
      have hi := item_okR hok HFF.out HE.out
      have hsm := put_small HE.out hi
      have hGS : getR S.data.toList = (0, x) := by rw [← HS.out]; exact HGP.out HE.out hi
      rw [HS.out] at hsm
      have hde := fun V (hV : w.grownBy V none) => decodeRc_any S (by omega) V (HV.out.kept hV (by simp))
      rw [hGS] at hde
      have HDE2 := Lib.hid hde
      have HFK := Lib.hid (form_kind HE.out)
      have HFL := Lib.hid (form_le x)
      clear hde hi hsm hGS HGP HS
      go_wp2_with fail
      refine (HDE2.out w4 HG4.out).mono ?_
      rintro e w5 ⟨A', m, d, rfl, hl5, hg5⟩
      simp only [rcpC] at *
      have hgy := only_alloc (World.grownBy.refl w5 none) (.cells #[.int .i64 x.kind, .bool x.status, .int .u64 (x.gas : Int), .slice A' m d, .bool x.full, .int .u64 (x.nonce : Int), .int .u64 (x.version : Int)] 25)
      have HG6 := Lib.hid (grown_self (grown_self HG4.out hg5 (by simp)) hgy (by simp))
      have HB6 := Lib.hid ((HB4.out.grown hg5 (by simp)).grown hgy (by simp))
      have HY6 := Blk.new w5 25 #[.int .i64 x.kind, .bool x.status, .int .u64 (x.gas : Int), .slice A' m d, .bool x.full, .int .u64 (x.nonce : Int), .int .u64 (x.version : Int)]
      have HL6 := Lib.hid (hl5.grown hgy (Nat.le_refl _))
      obtain ⟨yb, hyb⟩ : ∃ b, w5.heap.size = b := ⟨_, rfl⟩
      rw [hyb] at HY6 HL6
      have HSZ : Hid (yb ≤ (w5.alloc (.cells #[.int .i64 x.kind, .bool x.status, .int .u64 (x.gas : Int), .slice A' m d, .bool x.full, .int .u64 (x.nonce : Int), .int .u64 (x.version : Int)] 25)).heap.size) := Lib.hid (by simp; omega)
      have HY6 := Lib.hid HY6
      clear hgy hg5 hl5 HG4 HB4 c0 c1 c2 c3 c4 c5 c6 HDE2
      go_upto_region 11 with (fail)
      clear hyb
      generalize w5.alloc (.cells #[.int .i64 x.kind, .bool x.status, .int .u64 (x.gas : Int), .slice A' m d, .bool x.full, .int .u64 (x.nonce : Int), .int .u64 (x.version : Int)] 25) = w6 at *
      have hC0 : (fun V => Below w6.heap.size w6 V) w6.drew := ⟨rfl, rfl, rfl, Nat.le_refl _, fun _ _ => rfl⟩
      refine wp_region_class (fun V => Below w6.heap.size w6 V) (by kernel_rfl) (by kernel_rfl) hC0 ?_
      have hcc := class_const hC0
      have HX7 := Lib.hid (fun (V : World) (hV : Below w6.heap.size w6 V) => HB6.out.grown (grown_of_below hV) (by simp))
      have HY7 := Lib.hid (fun (V : World) (hV : Below w6.heap.size w6 V) => HY6.out.grown (grown_of_below hV) (by simp))
      have HL7 := Lib.hid (fun (V : World) (hV : Below w6.heap.size w6 V) => HL6.out.grown (grown_of_below hV) HSZ.out)
      have HG7 := Lib.hid (fun (V : World) (hV : Below w6.heap.size w6 V) => grown_self HG6.out (grown_of_below hV) (by simp))
      obtain ⟨F, hF⟩ : ∃ F, formRc x = F := ⟨_, rfl⟩
      have hfo := fun V B m d => HFO.out V B m d
      rw [hF] at hfo HFK HFL
      have HFO2 := Lib.hid hfo
      clear hfo HFO HB6 HY6 HL6 hF HE HFF HLR
      have q2 : F ≤ 2 := HFL.out
      have HSA2 := Lib.hid (fun (V : World) (hV : Below w6.heap.size w6 V) => (by have := HSA.out V (HG7.out V hV) yb A' m d (HL7.out V hV) (Nat.le_trans HSZ.out hV.size); rwa [eqB_t rfl] at this : Calls Tryz.prog 17 #[.agg #[.int .i64 x.kind, .bool x.status, .int .u64 (x.gas : Int), .slice A n c, .bool x.full, .int .u64 (x.nonce : Int), .int .u64 (x.version : Int)], .agg #[.int .i64 x.kind, .bool x.status, .int .u64 (x.gas : Int), .slice A' m d, .bool x.full, .int .u64 (x.nonce : Int), .int .u64 (x.version : Int)]] V fun e w' => e = .returned (.bool true) ∧ V.grownBy w' none))
      (try simp only [Act.put])
      (repeat go_big_quiet_step (fail))
      refine wpQuiet_value rfl (.agg #[.int .i64 x.kind, .bool x.status, .int .u64 (x.gas : Int), .slice A n c, .bool x.full, .int .u64 (x.nonce : Int), .int .u64 (x.version : Int)]) (fun V hV => exec_load_rowT rfl rfl 25 #[.int .i64 x.kind, .bool x.status, .int .u64 (x.gas : Int), .slice A n c, .bool x.full, .int .u64 (x.nonce : Int), .int .u64 (x.version : Int)] _ (HX7.out V hV) Tryz.underlying25 rfl (by kernel_rfl)) ?_
      simp only [Act.put, List.setIfInBounds_toArray, List.set_cons_zero, List.set_cons_succ]
      refine wpQuiet_value rfl (.agg #[.int .i64 x.kind, .bool x.status, .int .u64 (x.gas : Int), .slice A' m d, .bool x.full, .int .u64 (x.nonce : Int), .int .u64 (x.version : Int)]) (fun V hV => exec_load_rowT rfl rfl 25 #[.int .i64 x.kind, .bool x.status, .int .u64 (x.gas : Int), .slice A' m d, .bool x.full, .int .u64 (x.nonce : Int), .int .u64 (x.version : Int)] _ (HY7.out V hV) Tryz.underlying25 rfl (by kernel_rfl)) ?_
      simp only [Act.put, List.setIfInBounds_toArray, List.set_cons_zero, List.set_cons_succ]
      refine quiet_callW (.bool true) 17 #[.agg #[.int .i64 x.kind, .bool x.status, .int .u64 (x.gas : Int), .slice A n c, .bool x.full, .int .u64 (x.nonce : Int), .int .u64 (x.version : Int)], .agg #[.int .i64 x.kind, .bool x.status, .int .u64 (x.gas : Int), .slice A' m d, .bool x.full, .int .u64 (x.nonce : Int), .int .u64 (x.version : Int)]] rfl (fun V => exec_call2 _ (.tmp 46) (.tmp 47) _ rfl _ _ rfl rfl rfl) (fun V hV => HSA2.out V hV) ?_
      simp only [Act.put, List.setIfInBounds_toArray, List.set_cons_zero, List.set_cons_succ]
      (repeat go_big_quiet_step (fail))
      refine wpQuiet_value rfl (.agg #[.int .i64 x.kind, .bool x.status, .int .u64 (x.gas : Int), .slice A n c, .bool x.full, .int .u64 (x.nonce : Int), .int .u64 (x.version : Int)]) (fun V hV => exec_load_rowT rfl rfl 25 #[.int .i64 x.kind, .bool x.status, .int .u64 (x.gas : Int), .slice A n c, .bool x.full, .int .u64 (x.nonce : Int), .int .u64 (x.version : Int)] _ (HX7.out V hV) Tryz.underlying25 rfl (by kernel_rfl)) ?_
      simp only [Act.put, List.setIfInBounds_toArray, List.set_cons_zero, List.set_cons_succ]
      refine quiet_callW (.int .i64 F) 16 #[.agg #[.int .i64 x.kind, .bool x.status, .int .u64 (x.gas : Int), .slice A n c, .bool x.full, .int .u64 (x.nonce : Int), .int .u64 (x.version : Int)]] rfl (fun V => exec_call1 _ (.tmp 51) _ rfl _ rfl rfl) (fun V hV => HFO2.out V A n c) ?_
      simp only [Act.put, List.setIfInBounds_toArray, List.set_cons_zero, List.set_cons_succ]
      refine wpQuiet_value rfl (.agg #[.int .i64 x.kind, .bool x.status, .int .u64 (x.gas : Int), .slice A' m d, .bool x.full, .int .u64 (x.nonce : Int), .int .u64 (x.version : Int)]) (fun V hV => exec_load_rowT rfl rfl 25 #[.int .i64 x.kind, .bool x.status, .int .u64 (x.gas : Int), .slice A' m d, .bool x.full, .int .u64 (x.nonce : Int), .int .u64 (x.version : Int)] _ (HY7.out V hV) Tryz.underlying25 rfl (by kernel_rfl)) ?_
      simp only [Act.put, List.setIfInBounds_toArray, List.set_cons_zero, List.set_cons_succ]
      refine quiet_callW (.int .i64 F) 16 #[.agg #[.int .i64 x.kind, .bool x.status, .int .u64 (x.gas : Int), .slice A' m d, .bool x.full, .int .u64 (x.nonce : Int), .int .u64 (x.version : Int)]] rfl (fun V => exec_call1 _ (.tmp 53) _ rfl _ rfl rfl) (fun V hV => HFO2.out V A' m d) ?_
      simp only [Act.put, List.setIfInBounds_toArray, List.set_cons_zero, List.set_cons_succ]
      (repeat go_big_quiet_step (fail))
      refine wpQuiet_value rfl (.agg #[.int .i64 x.kind, .bool x.status, .int .u64 (x.gas : Int), .slice A n c, .bool x.full, .int .u64 (x.nonce : Int), .int .u64 (x.version : Int)]) (fun V hV => exec_load_rowT rfl rfl 25 #[.int .i64 x.kind, .bool x.status, .int .u64 (x.gas : Int), .slice A n c, .bool x.full, .int .u64 (x.nonce : Int), .int .u64 (x.version : Int)] _ (HX7.out V hV) Tryz.underlying25 rfl (by kernel_rfl)) ?_
      simp only [Act.put, List.setIfInBounds_toArray, List.set_cons_zero, List.set_cons_succ]
      refine quiet_callW (.int .i64 F) 16 #[.agg #[.int .i64 x.kind, .bool x.status, .int .u64 (x.gas : Int), .slice A n c, .bool x.full, .int .u64 (x.nonce : Int), .int .u64 (x.version : Int)]] rfl (fun V => exec_call1 _ (.tmp 58) _ rfl _ rfl rfl) (fun V hV => HFO2.out V A n c) ?_
      simp only [Act.put, List.setIfInBounds_toArray, List.set_cons_zero, List.set_cons_succ]
      (repeat go_big_quiet_step (fail))
      refine wpQuiet_value rfl (.agg #[.int .i64 x.kind, .bool x.status, .int .u64 (x.gas : Int), .slice A n c, .bool x.full, .int .u64 (x.nonce : Int), .int .u64 (x.version : Int)]) (fun V hV => exec_load_rowT rfl rfl 25 #[.int .i64 x.kind, .bool x.status, .int .u64 (x.gas : Int), .slice A n c, .bool x.full, .int .u64 (x.nonce : Int), .int .u64 (x.version : Int)] _ (HX7.out V hV) Tryz.underlying25 rfl (by kernel_rfl)) ?_
      simp only [Act.put, List.setIfInBounds_toArray, List.set_cons_zero, List.set_cons_succ]
      refine quiet_callW (.int .i64 F) 16 #[.agg #[.int .i64 x.kind, .bool x.status, .int .u64 (x.gas : Int), .slice A n c, .bool x.full, .int .u64 (x.nonce : Int), .int .u64 (x.version : Int)]] rfl (fun V => exec_call1 _ (.tmp 63) _ rfl _ rfl rfl) (fun V hV => HFO2.out V A n c) ?_
      simp only [Act.put, List.setIfInBounds_toArray, List.set_cons_zero, List.set_cons_succ]
      by_cases hF0 : F = 0
      · have qf : (F == 0) = true := by simp [hF0]
        clear HFK HFL hF0
        (repeat go_big_quiet_step (fail))
        refine wpQuiet_nil ?_
        intro w7 hw7
        have HGE := Lib.hid (HG7.out w7 hw7)
        clear hcc hC0 hw7
        go_wp2_with fail
        go_ret
        exact ⟨rfl, HGE.out⟩
      · have qf : (F == 0) = false := by simpa using hF0
        have hk : x.kind = 126 := by rcases HFK.out with h | h; exact absurd h hF0; exact h
        have qk : (x.kind == 126) = true := by simp [hk]
        clear HFK HFL hF0 hk
        (repeat go_big_quiet_step (fail))
        refine wpQuiet_loadM (.int .i64 x.kind) _ _ ⟨g, 0, none⟩ _ rfl rfl rfl Tryz.underlying3 rfl (fun V hV => (HX7.out V hV).cell 0) ?_
        simp only [Act.put, List.setIfInBounds_toArray, List.set_cons_zero, List.set_cons_succ]
        (repeat go_big_quiet_step (fail))
        refine wpQuiet_nil ?_
        intro w7 hw7
        have HGE := Lib.hid (HG7.out w7 hw7)
        clear hcc hC0 hw7
        go_wp2_with fail
        go_ret
        exact ⟨rfl, HGE.out⟩
end Go.Proofs.YthalohloneojlaaGreatDoor
/- How a law's arguments are opened and its row closed: lemmas as the guide's pages give them to be copied. Nothing of the program is proved here. -/
namespace Go.Proofs.YthalohloneojlaaGreatDoor
open Go.ChangeShapes Go.WideShapes Go.ChangeAt Go.RowKit Go.Deep Go.Joins
section
variable {H : Type} {enc : TypeId × Value → H} {P : Program} {w : World} {base : Nat} {spare : Nat → Bool} {held : Bool}
theorem open_slice_fields {t e : TypeId} {fs : Array Field} {fuel : Nat} {cs : List Value} {x : DataW H × List MemPlace} (ht : P.underlying t = some (.slice e)) (he : P.underlying e = some (.struct fs))
    (hone : oneCellFields P fs = true) (hC : P.cellsOf e = fs.size) (h : DataW.trod enc P w base spare held fuel t cs = some x) :
    (cs = [.slice none 0 0] ∧ x = (.nil, [])) ∨
    ∃ (a : Addr) (len cap m : Nat) (D : Nat → DataW H) (Pl : Nat → List MemPlace), cs = [.slice (some a) len cap] ∧ base ≤ a.block ∧ len ≤ cap ∧ cap ≤ maxLen ∧ m = (if spare a.block then cap else len) ∧
      x = (.slice ((List.range len).map D) ((List.range (m - len)).map fun j => D (len + j)), MemPlace.row a (m * fs.size) ++ (List.range m).flatMap Pl) ∧
      ∀ i, i < m → ∃ (ys : List (DataW H × List MemPlace)) (n : Nat), D i = .agg (ys.map (·.1)) ∧ Pl i = ys.flatMap (·.2) ∧ ys.length = fs.size ∧
        ∀ (j : Nat) (f : Field), fs[j]? = some f → ∃ (v : Value) (y : DataW H × List MemPlace), w.cell? (a.add (i * fs.size + j)) = some v ∧ ys[j]? = some y ∧ DataW.trod enc P w base spare held n f.type [v] = some y := by
  rcases open_slice ht h with h0 | ⟨a, len, cap, m, n, D, Pl, hcs, hb, hl, hm, hmm, hx, hi⟩
  · exact .inl h0
  · refine .inr ⟨a, len, cap, m, D, Pl, hcs, hb, hl, hm, hmm, by rw [hC] at hx; exact hx, fun i him => ?_⟩
    obtain ⟨cs', hc, ht'⟩ := hi i him
    rw [hC] at hc
    obtain ⟨ys, n', hn', hy, hlen, hyl, hf⟩ := DataW.trod_struct he ht'
    obtain ⟨_, hcl, hat⟩ := World.cells?_some hc
    simp only [Prod.mk.injEq] at hy
    refine ⟨ys, n', hy.1, hy.2, hyl, fun j f hj => ?_⟩
    obtain ⟨ho, hk⟩ := hone_of hone j f hj
    have hjl : j < fs.size := (Array.getElem?_eq_some_iff.1 hj).1
    have hcell := hat j hjl
    have hv : cs'[j]? = some (cs'[j]'(by omega)) := List.getElem?_eq_getElem (by omega)
    have h1 := hf j f hj
    rw [ho, hk] at h1
    have hone' : (cs'.drop j).take 1 = [cs'[j]'(by omega)] := by
      rw [List.drop_eq_getElem_cons (by omega)]
      rfl
    rw [hone'] at h1
    have hys : ys[j]? = some (ys[j]'(by omega)) := List.getElem?_eq_getElem (by omega)
    refine ⟨_, _, ?_, hys, h1.trans hys⟩
    rw [← Go.Deep.add_add, hcell, hv]
end

section
variable {H : Type} {enc : TypeId × Value → H} {P : Program} {w : World} {base : Nat} {spare : Nat → Bool} {held : Bool}
theorem open_agg5 {r : Reach} {b0 : Nat} {t : TypeId} {f0 f1 f2 f3 f4 : Field} {v : Value} {d : DataW H} {p : List MemPlace} (hs : P.underlying t = some (.struct #[f0, f1, f2, f3, f4])) (hone : oneCellFields P #[f0, f1, f2, f3, f4] = true) (hC : P.cellsOf t = 5)
    (hv : Value.okWide P w r b0 t v) (h : DataW.Trod enc P w base spare held t v d p) :
    ∃ (v0 v1 v2 v3 v4 : Value) (y0 y1 y2 y3 y4 : DataW H × List MemPlace) (n : Nat), v = .agg #[v0, v1, v2, v3, v4] ∧ d = .agg [y0.1, y1.1, y2.1, y3.1, y4.1] ∧ p = y0.2 ++ (y1.2 ++ (y2.2 ++ (y3.2 ++ y4.2))) ∧
      DataW.trod enc P w base spare held n f0.type [v0] = some y0 ∧ DataW.trod enc P w base spare held n f1.type [v1] = some y1 ∧ DataW.trod enc P w base spare held n f2.type [v2] = some y2 ∧ DataW.trod enc P w base spare held n f3.type [v3] = some y3 ∧ DataW.trod enc P w base spare held n f4.type [v4] = some y4 := by
  obtain ⟨cs, rfl, hsz⟩ := okWide_struct hs hv
  obtain ⟨l⟩ := cs
  match l, hsz.trans hC with
  | [c0, c1, c2, c3, c4], _ =>
    obtain ⟨fuel, hf⟩ := h
    obtain ⟨xs, n, _, hx, _, hlen, hg⟩ := DataW.trod_struct hs hf
    obtain ⟨o0, k0⟩ := hone_of hone 0 f0 rfl
    obtain ⟨o1, k1⟩ := hone_of hone 1 f1 rfl
    obtain ⟨o2, k2⟩ := hone_of hone 2 f2 rfl
    obtain ⟨o3, k3⟩ := hone_of hone 3 f3 rfl
    obtain ⟨o4, k4⟩ := hone_of hone 4 f4 rfl
    match xs, hlen with
    | [y0, y1, y2, y3, y4], _ =>
      simp only [Prod.mk.injEq] at hx
      exact ⟨c0, c1, c2, c3, c4, y0, y1, y2, y3, y4, n, rfl, by simpa using hx.1, by simpa using hx.2, by simpa [Value.cells, o0, k0] using hg 0 f0 rfl, by simpa [Value.cells, o1, k1] using hg 1 f1 rfl, by simpa [Value.cells, o2, k2] using hg 2 f2 rfl, by simpa [Value.cells, o3, k3] using hg 3 f3 rfl, by simpa [Value.cells, o4, k4] using hg 4 f4 rfl⟩

theorem open_agg6 {r : Reach} {b0 : Nat} {t : TypeId} {f0 f1 f2 f3 f4 f5 : Field} {v : Value} {d : DataW H} {p : List MemPlace} (hs : P.underlying t = some (.struct #[f0, f1, f2, f3, f4, f5])) (hone : oneCellFields P #[f0, f1, f2, f3, f4, f5] = true) (hC : P.cellsOf t = 6)
    (hv : Value.okWide P w r b0 t v) (h : DataW.Trod enc P w base spare held t v d p) :
    ∃ (v0 v1 v2 v3 v4 v5 : Value) (y0 y1 y2 y3 y4 y5 : DataW H × List MemPlace) (n : Nat), v = .agg #[v0, v1, v2, v3, v4, v5] ∧ d = .agg [y0.1, y1.1, y2.1, y3.1, y4.1, y5.1] ∧ p = y0.2 ++ (y1.2 ++ (y2.2 ++ (y3.2 ++ (y4.2 ++ y5.2)))) ∧
      DataW.trod enc P w base spare held n f0.type [v0] = some y0 ∧ DataW.trod enc P w base spare held n f1.type [v1] = some y1 ∧ DataW.trod enc P w base spare held n f2.type [v2] = some y2 ∧ DataW.trod enc P w base spare held n f3.type [v3] = some y3 ∧ DataW.trod enc P w base spare held n f4.type [v4] = some y4 ∧ DataW.trod enc P w base spare held n f5.type [v5] = some y5 := by
  obtain ⟨cs, rfl, hsz⟩ := okWide_struct hs hv
  obtain ⟨l⟩ := cs
  match l, hsz.trans hC with
  | [c0, c1, c2, c3, c4, c5], _ =>
    obtain ⟨fuel, hf⟩ := h
    obtain ⟨xs, n, _, hx, _, hlen, hg⟩ := DataW.trod_struct hs hf
    obtain ⟨o0, k0⟩ := hone_of hone 0 f0 rfl
    obtain ⟨o1, k1⟩ := hone_of hone 1 f1 rfl
    obtain ⟨o2, k2⟩ := hone_of hone 2 f2 rfl
    obtain ⟨o3, k3⟩ := hone_of hone 3 f3 rfl
    obtain ⟨o4, k4⟩ := hone_of hone 4 f4 rfl
    obtain ⟨o5, k5⟩ := hone_of hone 5 f5 rfl
    match xs, hlen with
    | [y0, y1, y2, y3, y4, y5], _ =>
      simp only [Prod.mk.injEq] at hx
      exact ⟨c0, c1, c2, c3, c4, c5, y0, y1, y2, y3, y4, y5, n, rfl, by simpa using hx.1, by simpa using hx.2, by simpa [Value.cells, o0, k0] using hg 0 f0 rfl, by simpa [Value.cells, o1, k1] using hg 1 f1 rfl, by simpa [Value.cells, o2, k2] using hg 2 f2 rfl, by simpa [Value.cells, o3, k3] using hg 3 f3 rfl, by simpa [Value.cells, o4, k4] using hg 4 f4 rfl, by simpa [Value.cells, o5, k5] using hg 5 f5 rfl⟩
end

section
variable {H : Type} {enc : TypeId × Value → H} {P : Program}
theorem post_of_below {f : Func} {s : ChangeSpec} {apart fresh handsOn again : Bool} {W W' : World} {args : Array Value} {v : Value} {ds gs : List (DataW H)} {before pa pv : List MemPlace}
    (hW : DataW.Whole enc P f.params.toList s.vars apart W args.toList ds gs before)
    (hres : ∀ (b : Nat) (sp : Nat → Bool) (hd : Bool), DataW.TrodAll enc P W' b sp hd f.resultTypes.toList (v.resultList f.resultTypes.size) (s.fn H (ds ++ gs)).results [])
    (hargs : ∀ sp : Nat → Bool, (∀ p ∈ before, sp p.block = true) → DataW.TrodAll enc P W' 0 sp true f.params.toList args.toList (s.fn H (ds ++ gs)).args pa)
    (hvars : ∀ sp : Nat → Bool, (∀ p ∈ before, sp p.block = true) → DataW.TrodVars enc P W' sp s.vars (s.fn H (ds ++ gs)).vars pv)
    (hps : before = pa ++ pv) (hb : Below W.heap.size W W')
    (hok : ∀ (j : Nat) (t : TypeId) (r : Value), f.resultTypes[j]? = some t → (v.resultList f.resultTypes.size)[j]? = some r → Value.okWide P W' .any 0 t r) :
    s.post enc P f apart fresh handsOn again W args v W' := by
  have hlt : ∀ p ∈ before, p.block < W.heap.size := fun p hp => hW.lt p hp
  have hold : ∀ p ∈ before, (fun b => decide (b < W.heap.size)) p.block = true := fun p hp => by simpa using hlt p hp
  refine ⟨ds, gs, before, [], pa, pv, hW, hres _ _ _, hargs _ hold, hvars _ hold, World.keptBut_mono (fun p hp => ⟨hp, ?_⟩) (hb.frame (· ∈ before)), fun _ => ?_⟩
  · rw [hps, List.mem_append] at hp
    exact Or.inr hp
  · obtain ⟨_, _, _, _, _, hz, hn⟩ := hW
    refine ⟨hok, _, _, ([] ++ pa) ++ pv, ⟨[] ++ pa, pv, trodAll_append (hargs _ (fun _ _ => rfl)) (hres _ _ _), hvars _ (fun _ _ => rfl), rfl, ?_, ?_⟩, ?_⟩
    · intro b off hp
      have hin : MemPlace.cell b off ∈ before := by rw [hps]; simpa using hp
      rw [hb.frozen (hlt _ hin)]
      exact hz b off hin
    · intro ha
      have := hn ha
      rw [hps] at this
      simpa using this
    · intro p hp _
      rw [hps]
      simpa using hp
end

section
variable {H : Type} {enc : TypeId × Value → H} {P : Program} {w : World} {base : Nat} {spare : Nat → Bool} {held : Bool}
/-- a struct of one one-cell field, by value -/
theorem open_agg1 {r : Reach} {b0 : Nat} {t : TypeId} {f0 : Field} {v : Value} {d : DataW H} {p : List MemPlace} (hs : P.underlying t = some (.struct #[f0])) (hone : oneCellFields P #[f0] = true) (hC : P.cellsOf t = 1)
    (hv : Value.okWide P w r b0 t v) (h : DataW.Trod enc P w base spare held t v d p) :
    ∃ (v0 : Value) (y0 : DataW H × List MemPlace) (n : Nat), v = .agg #[v0] ∧ d = .agg [y0.1] ∧ p = y0.2 ∧ DataW.trod enc P w base spare held n f0.type [v0] = some y0 := by
  obtain ⟨cs, rfl, hsz⟩ := okWide_struct hs hv
  obtain ⟨l⟩ := cs
  match l, hsz.trans hC with
  | [c0], _ =>
    obtain ⟨fuel, hf⟩ := h
    obtain ⟨xs, n, _, hx, _, hlen, hg⟩ := DataW.trod_struct hs hf
    obtain ⟨o0, k0⟩ := hone_of hone 0 f0 rfl
    match xs, hlen with
    | [y0], _ =>
      simp only [Prod.mk.injEq] at hx
      exact ⟨c0, y0, n, rfl, by simpa using hx.1, by simpa using hx.2, by simpa [Value.cells, o0, k0] using hg 0 f0 rfl⟩

theorem wf_u8 {a : Int} (h : (Lit.int .u8 a).wf = true) : 0 ≤ a ∧ a ≤ 255 := by simpa [Lit.wf, IntKind.min, IntKind.max, IntKind.signed, IntKind.bits] using h
theorem wf_u64 {a : Int} (h : (Lit.int .u64 a).wf = true) : 0 ≤ a ∧ a ≤ 18446744073709551615 := by simpa [Lit.wf, IntKind.min, IntKind.max, IntKind.signed, IntKind.bits] using h
theorem wf_i64 {a : Int} (h : (Lit.int .i64 a).wf = true) : -9223372036854775808 ≤ a ∧ a ≤ 9223372036854775807 := by simpa [Lit.wf, IntKind.min, IntKind.max, IntKind.signed, IntKind.bits] using h

/-- a slice of integers that came in, as 'Reads' -/
theorem reads_of_ints {t e : TypeId} {k : IntKind} {fuel : Nat} {v : Value} {x : DataW H × List MemPlace} (ht : P.underlying t = some (.slice e)) (he : P.underlying e = some (.int k)) (hce : P.cellsOf e = 1)
    (h : DataW.trod enc P w base spare held fuel t [v] = some x) :
    ∃ (A : Option Addr) (n c : Nat) (xs : List Int), v = .slice A n c ∧ Reads w w.heap.size 1 A n (xs.map (Value.int k)) ∧ (∀ y ∈ xs, (Lit.int k y).wf = true) ∧ n ≤ maxLen ∧ xs.length = n ∧ n ≤ c := by
  rcases open_ints ht he hce h with ⟨hcs, _⟩ | ⟨a, len, cap, zs, hcs, _, hl, hm, hz, _, hcell, hwz⟩
  · simp only [List.cons.injEq, and_true] at hcs
    exact ⟨none, 0, 0, [], hcs, Reads.none_, by simp, by simp [maxLen], rfl, by omega⟩
  · simp only [List.cons.injEq, and_true] at hcs
    have hzl : len ≤ zs.length := by rw [hz]; split <;> omega
    have hlen : (zs.take len).length = len := by rw [List.length_take]; omega
    refine ⟨some a, len, cap, zs.take len, hcs, ⟨by simpa using hlen, fun hn => ⟨a, rfl, ?_, fun j u hu => ?_⟩⟩, fun y hy => hwz y (List.mem_of_mem_take hy), by omega, hlen, hl⟩
    · have := World.block_lt_of_cell? w _ (hcell 0 (by rw [List.length_take] at hlen; omega))
      rwa [block_of_add] at this
    · have hj : j < len := by
        have := (List.getElem?_eq_some_iff.1 hu).1
        rw [List.length_map, hlen] at this
        exact this
      have hjz : j < zs.length := by rw [List.length_take] at hlen; omega
      rw [hcell j hjz]
      rw [List.getElem?_map, List.getElem?_take_of_lt hj, List.getElem?_eq_getElem hjz] at hu
      rw [List.getD_eq_getElem?_getD, List.getElem?_eq_getElem hjz]
      simpa using hu
end

section
variable {H : Type} {enc : TypeId × Value → H} {P : Program}
/-- the arguments read behind the call as they did before, where nothing that was there has turned -/
theorem trodAll_below (hl : laidOutB P = true) {W W' : World} (hb : Below W.heap.size W W') : ∀ {ts : List TypeId} {vs : List Value} {ds : List (DataW H)} {ps : List MemPlace},
    (ts.all fun t => P.readableRec t && decide (t < P.types.size)) = true → DataW.TrodAll enc P W 0 (fun _ => true) true ts vs ds ps → DataW.TrodAll enc P W' 0 (fun b => decide (b < W.heap.size)) true ts vs ds ps
  | [], [], [], _, _, h => h
  | [], [], _ :: _, _, _, h => h.elim
  | [], _ :: _, _, _, _, h => h.elim
  | _ :: _, [], _, _, _, h => h.elim
  | _ :: _, _ :: _, [], _, _, h => h.elim
  | t :: ts, v :: vs, d :: ds, ps, hT, h => by
    obtain ⟨p, q, h1, h2, e⟩ := h
    simp only [List.all_cons, Bool.and_eq_true, decide_eq_true_eq] at hT
    refine ⟨p, q, Below.trod hl hT.1.1 hT.1.2 h1 hb ?_, trodAll_below hl hb (by simpa using hT.2) h2, e⟩
    obtain ⟨m, hm⟩ := h1
    exact DataW.trod_lt m _ _ _ hm

theorem law_post {f : Func} {s : ChangeSpec} {W W' : World} {args : Array Value} {ds gs : List (DataW H)} {before : List MemPlace} {tb : TypeId} (hv : s.vars = []) (hl : laidOutB P = true)
    (hT : (f.params.toList.all fun t => P.readableRec t && decide (t < P.types.size)) = true) (hr : f.resultTypes = #[tb]) (hb : P.underlying tb = some .bool)
    (hs : s.fn H (ds ++ gs) = { results := [.lit (.bool true)], args := ds })
    (hW : DataW.Whole enc P f.params.toList s.vars false W args.toList ds gs before) (bel : Below W.heap.size W W') :
    s.post enc P f false true false false W args (.bool true) W' := by
  have hW' := hW
  obtain ⟨p, q, hA, hV, he, hz, hn⟩ := hW
  rw [hv] at hV
  have hV' := hV
  obtain rfl : gs = [] := by cases gs with | nil => rfl | cons _ _ => exact hV.elim
  obtain rfl : q = [] := hV
  refine ⟨ds, [], before, [], p, [], hW', ?_, ?_, ?_, bel.frame _, fun h => by cases h⟩
  · rw [hs, hr]
    exact trodAll_mk1 (shut_bool hb _)
  · rw [hs]
    exact trodAll_below hl bel hT hA
  · rw [hs, hv]
    rfl
end
end Go.Proofs.YthalohloneojlaaGreatDoor
/- A slice of strings that came in, as 'Reads'; a word that came in. -/
namespace Go.Proofs.YthalohloneojlaaGreatDoor
open Go.ChangeShapes Go.WideShapes Go.ChangeAt Go.RowKit Go.Deep Go.Joins
set_option linter.constructorNameAsVariable false
section
variable {H : Type} {enc : TypeId × Value → H} {P : Program} {w : World} {base : Nat} {held : Bool}
theorem reads_of_strs {t e : TypeId} {fuel : Nat} {v : Value} {x : DataW H × List MemPlace} (ht : P.underlying t = some (.slice e)) (he : P.underlying e = some .string) (hc : P.cellsOf e = 1)
    (h : DataW.trod enc P w base (fun _ => true) held fuel t [v] = some x) :
    ∃ (A : Option Addr) (n c : Nat) (xs : List ByteArray), v = .slice A n c ∧ Reads w w.heap.size 1 A n (xs.map Value.string) ∧ (∀ x ∈ xs, x.size ≤ 9223372036854775807) ∧ n ≤ 9223372036854775807 ∧ xs.length = n ∧ n ≤ c := by
  rcases open_strs ht he hc h with ⟨hcs, _⟩ | ⟨a, len, cap, m, B, hcs, _, hl, hm, hmm, _, hcell⟩
  · simp only [List.cons.injEq, and_true] at hcs
    exact ⟨none, 0, 0, [], hcs, Reads.none_, by simp, by omega, rfl, by omega⟩
  · simp only [List.cons.injEq, and_true] at hcs
    simp only [if_true] at hmm
    have hmL : maxLen = 9223372036854775807 := by decide
    refine ⟨some a, len, cap, (List.range len).map B, hcs, ⟨by simp, fun hn => ⟨a, rfl, ?_, fun j u hu => ?_⟩⟩, fun x hx => ?_, by omega, by simp, hl⟩
    · have := World.block_lt_of_cell? w _ (hcell 0 (by omega)).1
      rwa [block_of_add] at this
    · rw [List.getElem?_map, List.getElem?_map, Option.map_map] at hu
      have hj : j < len := by
        rcases Nat.lt_or_ge j len with hj | hj
        · exact hj
        · rw [List.getElem?_eq_none (by simpa using hj)] at hu; cases hu
      rw [List.getElem?_range hj] at hu
      have := (hcell j (by omega)).1
      simp at hu
      subst hu
      simpa using this
    · obtain ⟨i, hi, rfl⟩ := List.mem_map.1 hx
      have := (hcell i (by have := List.mem_range.1 hi; omega)).2
      omega
end
section
variable {H : Type} {enc : TypeId × Value → H} {w : World} {base : Nat} {held : Bool}
theorem open_word {r : Reach} {b0 : Nat} {v : Value} {d : DataW H} {ps : List MemPlace} {spare : Nat → Bool} (hval : Value.okWide Tryz.prog w r b0 87 v) (hd : DataW.Trod enc Tryz.prog w base spare held 87 v d ps) :
    ∃ a0 a1 a2 a3 : Nat, a0 < 18446744073709551616 ∧ a1 < 18446744073709551616 ∧ a2 < 18446744073709551616 ∧ a3 < 18446744073709551616 ∧ v = .agg #[.int .u64 (a0 : Int), .int .u64 (a1 : Int), .int .u64 (a2 : Int), .int .u64 (a3 : Int)] := by
  have ht := Tryz.underlying87
  have he := Tryz.underlying22
  have hce : Tryz.prog.cellsOf 22 = 1 := by kernel_rfl
  have hct : Tryz.prog.cellsOf 87 = 4 := by kernel_rfl
  simp only [Value.okWide, ht] at hval
  obtain ⟨cs, rfl, hsz, _⟩ := hval
  obtain ⟨fuel, hf⟩ := hd
  obtain ⟨xs, m, _, _, hl, hxl, hat⟩ := DataW.trod_array ht hf
  have hcl : cs.size = 4 := hsz.trans hct
  have key : ∀ i, i < 4 → ∃ x : Nat, x < 18446744073709551616 ∧ cs[i]? = some (.int .u64 (x : Int)) := by
    intro i hi
    have h1 := hat i hi
    have hone : ((Value.agg cs).cells.toList.drop (i * Tryz.prog.cellsOf 22)).take (Tryz.prog.cellsOf 22) = [cs[i]'(by omega)] := by
      rw [hce, Nat.mul_one]
      show (cs.toList.drop i).take 1 = _
      rw [List.drop_eq_getElem_cons (by simp; omega)]
      rfl
    have hx : xs[i]? = some (xs[i]'(by omega)) := List.getElem?_eq_getElem (by omega)
    rw [hone, hx] at h1
    obtain ⟨k, hk, _, hw⟩ := DataW.trod_int he h1
    have hwf := wf_u64 hw
    obtain ⟨z, rfl⟩ := Int.eq_ofNat_of_zero_le hwf.1
    refine ⟨z, by omega, ?_⟩
    rw [Array.getElem?_eq_getElem (by omega)]
    simp only [List.cons.injEq, and_true] at hk
    rw [hk]
  obtain ⟨a0, l0, e0⟩ := key 0 (by omega)
  obtain ⟨a1, l1, e1⟩ := key 1 (by omega)
  obtain ⟨a2, l2, e2⟩ := key 2 (by omega)
  obtain ⟨a3, l3, e3⟩ := key 3 (by omega)
  have hcs : cs = #[.int .u64 (a0 : Int), .int .u64 (a1 : Int), .int .u64 (a2 : Int), .int .u64 (a3 : Int)] := by
    clear key hat l0 l1 l2 l3
    refine Array.ext_getElem? fun i => ?_
    match i with
    | 0 => rw [e0]; rfl
    | 1 => rw [e1]; rfl
    | 2 => rw [e2]; rfl
    | 3 => rw [e3]; rfl
    | i + 4 => rw [Array.getElem?_eq_none (by omega)]; rfl
  exact ⟨a0, a1, a2, a3, l0, l1, l2, l3, by rw [hcs]⟩
end
end Go.Proofs.YthalohloneojlaaGreatDoor
