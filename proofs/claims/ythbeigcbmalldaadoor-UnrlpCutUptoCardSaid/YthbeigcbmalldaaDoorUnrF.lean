/- What bytes are read as. -/
import Derived.Test.YthbeigcbmalldaaDoorUnrE
import Derived.Test.YthbeigcbmalldaaDoorTree
namespace Go.Proofs.YthbeigcbmalldaaDoor
open Go.RowKit Go.Shelf

/-- the items that stand from a place up to an end -/
def itemsF (rd : Nat → Except Int (Itm × Nat)) (en : Nat) : Nat → Nat → Nat → Except Int (List Itm)
  | 0, _, _ => .error 5
  | f + 1, i, p => if p < en then (if 512 ≤ i then .error 5 else match rd p with
      | .error e => .error e
      | .ok (x, q) => match itemsF rd en f (i + 1) q with
        | .error e => .error e
        | .ok xs => .ok (x :: xs)) else .ok []
/-- the item at a place, where lists may stand in it that are read so -/
def itemG (sub : Option (List UInt8 → Nat → Except Int (Itm × Nat))) (l : List UInt8) (a : Nat) : Except Int (Itm × Nat) :=
  if a < l.length ∧ 192 ≤ headC l a ∧ sub.isNone = true then .error 7 else
  if lookE l (a : Int) ≠ 0 then .error (lookE l (a : Int)) else
  if lookL l (a : Int) = false then .ok (.mk false ⟨((l.drop (lookFrom l a)).take (lookN l a)).toArray⟩ [], lookFrom l a + lookN l a) else
  match sub with
  | none => .error 7
  | some rd => match itemsF (rd (l.take (lookFrom l a + lookN l a))) (lookFrom l a + lookN l a) 513 0 (lookFrom l a) with
    | .error e => .error e
    | .ok xs => .ok (.mk true .empty xs, lookFrom l a + lookN l a)
/-- the item at a place, so many lists deep at most -/
def itemF : Nat → List UInt8 → Nat → Except Int (Itm × Nat)
  | 0 => itemG none
  | k + 1 => itemG (some (itemF k))

end Go.Proofs.YthbeigcbmalldaaDoor
