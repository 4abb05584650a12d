/-
  What functions of the program compute, stated as contracts over plain data; the conditions of each stand in its own statement.
-/
import Derived.Test.YteenclepbpajdaaG4
set_option linter.unusedSimpArgs false
set_option maxRecDepth 100000
namespace Go.Proofs
open Go Go.Tr

def pks (l : List Pk) : List (List D) := l.map Pk.cs
@[simp] theorem pks_len (l : List Pk) : (pks l).length = l.length := by simp [pks]
theorem pks_get' {l : List Pk} {i : Nat} {x : Pk} (h : l[i]? = some x) (hi : i < (pks l).length) : (pks l)[i] = x.cs := by
  have : (pks l)[i]? = some x.cs := by simp [pks, h]
  rw [List.getElem?_eq_getElem hi] at this
  simpa using this
def pkEq (x y : Pk) : Bool := decide (x.mode = y.mode) && (decide (x.subd = y.subd) && (decide (x.set = y.set) && (decide (x.len = y.len) && (decide (x.ttl = y.ttl) && (decide (x.ent = y.ent) && (decide (x.ing = y.ing) && (decide (x.proto = y.proto) && (decide (x.bits = y.bits) && (x.pay.toList == y.pay.toList)))))))))
def pksEq : List Pk → List Pk → Bool
  | [], [] => true
  | x :: a, y :: b => pkEq x y && pksEq a b
  | _, _ => false
theorem pksEq_len : ∀ {a b : List Pk}, pksEq a b = true → a.length = b.length
  | [], [], _ => rfl
  | x :: a, y :: b, h => by simp [pksEq] at h; simp [pksEq_len h.2]
  | [], _ :: _, h => by simp [pksEq] at h
  | _ :: _, [], h => by simp [pksEq] at h

end Go.Proofs
