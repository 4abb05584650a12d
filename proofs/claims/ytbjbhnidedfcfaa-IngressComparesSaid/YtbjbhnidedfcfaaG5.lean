/-
  What functions of the program compute, stated as contracts over plain data; the conditions of each stand in its own statement.
-/
import Derived.Test.YtbjbhnidedfcfaaG4
set_option linter.unusedSimpArgs false
set_option maxRecDepth 100000
namespace Go.Proofs
open Go Go.Tr

def pks (l : List Pk) : List (List D) := l.map Pk.cs
@[simp] theorem pks_len (l : List Pk) : (pks l).length = l.length := by simp [pks]
theorem pks_get' {l : List Pk} {i : Nat} {x : Pk} (h : l[i]? = some x) (hi : i < (pks l).length) : (pks l)[i] = x.cs := by
  have : (pks l)[i]? = some x.cs := by simp [pks, h]
  rw [List.getElem?_eq_getElem hi] at this
  simpa using this
def pkEq (x y : Pk) : Bool := decide (x.mode = y.mode) && (decide (x.subd = y.subd) && (decide (x.set = y.set) && (decide (x.len = y.len) && (decide (x.ttl = y.ttl) && (decide (x.ent = y.ent) && (decide (x.ing = y.ing) && (decide (x.proto = y.proto) && (decide (x.bits = y.bits) && (x.pay.toList == y.pay.toList)))))))))
def pksEq : List Pk → List Pk → Bool
  | [], [] => true
  | x :: a, y :: b => pkEq x y && pksEq a b
  | _, _ => false
theorem pksEq_len : ∀ {a b : List Pk}, pksEq a b = true → a.length = b.length
  | [], [], _ => rfl
  | x :: a, y :: b, h => by simp [pksEq] at h; simp [pksEq_len h.2]
  | [], _ :: _, h => by simp [pksEq] at h
  | _ :: _, [], h => by simp [pksEq] at h

theorem same_c (a b : List Pk) (ha : a.length ≤ 100000) : Contract Try.prog 19 [.d (.sl (pks a)), .d (.sl (pks b))] [] (.d (.bool (pksEq a b))) [] [] := by
  refine contract_of Try.func19 rfl (fun E0 => ?_)
  refine awp.sound (g := .mk) (ow := []) (kp := (fun k => k == 0 || k == 1 || k == 4 || k == 5 || k == 10 || k == 14 || k == 25)) ?_
  rw [Try.ntmps19]
  by_cases hl : a.length = b.length
  · simp -dsimp [hl]
    refine ALoop.of [] (fun k => k == 0 || k == 1 || k == 4 || k == 5 || k == 10 || k == 14 || k == 25) (ι := { p : Nat // p ≤ a.length ∧ pksEq a b = pksEq (a.drop p) (b.drop p) }) (fun p => [(Pl.s 0, It.v (.d (.sl (pks a)))), (Pl.s 1, It.v (.d (.sl (pks b)))),
        (Pl.s 4, It.v (TV.d (D.bool false))), (Pl.s 5, It.v (TV.d (D.int IntKind.i64 p.1)))]) (fun p => a.length - p.1) ⟨0, by omega, by simp⟩ ?_ ?_
    · exact GS.to (by simp)
    · rintro ⟨p, p1, p2⟩
      by_cases hp : p < a.length
      · have hp' : p < b.length := by omega
        obtain ⟨x, hx⟩ : ∃ x, a[p]? = some x := ⟨a[p], List.getElem?_eq_getElem hp⟩
        obtain ⟨y, hy⟩ : ∃ y, b[p]? = some y := ⟨b[p], List.getElem?_eq_getElem hp'⟩
        have dx : a.drop p = x :: a.drop (p + 1) := by rw [List.getElem?_eq_some_iff] at hx; obtain ⟨_, rfl⟩ := hx; exact List.drop_eq_getElem_cons _
        have dy : b.drop p = y :: b.drop (p + 1) := by rw [List.getElem?_eq_some_iff] at hy; obtain ⟨_, rfl⟩ := hy; exact List.drop_eq_getElem_cons _
        have hx' := pks_get' hx
        have hy' := pks_get' hy
        simp -dsimp [hp, hp', hx', hy', Pk.cs, bv]
        refine ⟨⟨fun e => ?_, fun e => ?_⟩, ⟨by kernel_rfl⟩⟩
        · have hxy : pkEq x y = false := by
            rw [← Bool.not_eq_true]
            intro h
            simp [pkEq] at h
            simp [h] at e
          simp -dsimp [e]
          refine Fin.of ?_
          simp [p2, dx, dy, pksEq, hxy]
        · have hxy : pkEq x y = true := by simpa [pkEq] using e
          simp -dsimp [e, wrap_i64 (n := (p : Int) + 1) (by omega) (by omega)]
          exact ⟨⟨⟨p + 1, by omega, by simp [p2, dx, dy, pksEq, hxy]⟩, GS.to (by simp), by simp; omega⟩⟩
      · simp -dsimp [hp]
        refine Fin.of ?_
        have e1 : a.drop p = [] := List.drop_eq_nil_of_le (by omega)
        have e2 : b.drop p = [] := List.drop_eq_nil_of_le (by omega)
        simp [p2, e1, e2, pksEq]
  · have hl' : ¬ (a.length : Int) = b.length := by omega
    simp -dsimp [hl']
    refine Fin.of ?_
    simp
    cases h : pksEq a b
    · rfl
    · exact absurd (pksEq_len h) hl
end Go.Proofs
