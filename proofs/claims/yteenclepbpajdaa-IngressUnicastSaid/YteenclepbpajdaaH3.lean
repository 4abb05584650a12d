/-
  What functions of the program compute, stated as contracts over plain data; the conditions of each stand in its own statement.
-/
import Derived.Test.YteenclepbpajdaaH2
set_option linter.unusedSimpArgs false
set_option maxRecDepth 100000
set_option maxHeartbeats 2000000
namespace Go.Proofs
open Go Go.Tr

def edgeT (p : Pn) (id : Int) : TV := .tup (match p.es.find? (fun e => decide (e.id = id)) with | some e => [.agg (e.cs.map .d), .d (.bool true)] | none => [.agg [.d (.int .i64 0), .d (.int .i64 0)], .d (.bool false)])
theorem find_at {es : List Ed} {id : Int} {i : Nat} {x : Ed} (hx : es[i]? = some x) (hid : x.id = id) (h : ∀ a, a < i → gid es a ≠ id) : es.find? (fun e => decide (e.id = id)) = some x := by
  induction es generalizing i with
  | nil => simp at hx
  | cons e es ih =>
    cases i with
    | zero =>
      simp at hx; subst hx
      simp [hid]
    | succ i =>
      have h0 := h 0 (by omega)
      simp [gid] at h0
      rw [List.find?_cons_of_neg (by simpa using h0)]
      exact ih (by simpa using hx) fun a ha => by
        have := h (a + 1) (by omega)
        simpa [gid] using this
theorem find_no {es : List Ed} {id : Int} (h : ∀ a, a < es.length → gid es a ≠ id) : es.find? (fun e => decide (e.id = id)) = none := by
  rw [List.find?_eq_none]
  intro e he
  obtain ⟨i, hi⟩ := List.getElem?_of_mem he
  have := h i (List.getElem?_eq_some_iff.1 hi).1
  simpa [gid, List.getD, hi] using this

structure Sb where
  set : Int
  bits : BitVec 64
def Sb.cs (x : Sb) : List D := [.int .i64 x.set, bv x.bits]
def sbs (l : List Sb) : List (List D) := l.map Sb.cs
@[simp] theorem sbs_len (l : List Sb) : (sbs l).length = l.length := by simp [sbs]
theorem sbs_get {l : List Sb} {i : Nat} {x : Sb} (h : l[i]? = some x) : (sbs l)[i]? = some x.cs := by simp [sbs, h]
theorem sbs_get' {l : List Sb} {i : Nat} {x : Sb} (h : l[i]? = some x) (hi : i < (sbs l).length) : (sbs l)[i] = x.cs := by
  have := sbs_get h
  rw [List.getElem?_eq_getElem hi] at this
  simpa using this
/-- one more bit -/
def sbPut (l : List Sb) (s : Int) (b : BitVec 64) : List Sb :=
  match l.getLast? with
  | none => [⟨s, b⟩]
  | some x => if x.set = s then l.dropLast ++ [⟨x.set, x.bits ||| b⟩] else l ++ [⟨s, b⟩]
theorem sbPut_nil (s : Int) (b : BitVec 64) : sbPut [] s b = [⟨s, b⟩] := rfl
theorem sbPut_same (pre : List Sb) (y : Sb) (b : BitVec 64) : sbPut (pre ++ [y]) y.set b = pre ++ [⟨y.set, y.bits ||| b⟩] := by simp [sbPut]
theorem sbPut_new (pre : List Sb) (y : Sb) {s : Int} (h : y.set ≠ s) (b : BitVec 64) : sbPut (pre ++ [y]) s b = pre ++ [y] ++ [⟨s, b⟩] := by simp [sbPut, h]
theorem sbPut_len (l : List Sb) (s : Int) (b : BitVec 64) : (sbPut l s b).length ≤ l.length + 1 := by
  rcases List.eq_nil_or_concat l with rfl | ⟨pre, y, rfl⟩
  · simp [sbPut_nil]
  · rw [List.concat_eq_append]
    by_cases h : y.set = s
    · subst h; rw [sbPut_same]; simp
    · rw [sbPut_new _ _ h]; simp
def sbAll (len : Int) : List Int → List Sb → List Sb
  | [], l => l
  | id :: ids, l => sbAll len ids (sbPut l (plSet id len) (bitB (plBit id len)))
open Classical in
noncomputable def ascB (l : List Int) : Bool := decide (∀ i, 0 < i → i < l.length → l.getD (i - 1) 0 < l.getD i 0)
def knownB (p : Pn) (id : Int) : Bool := (p.es.find? (fun e => decide (e.id = id))).isSome
noncomputable def setsR (p : Pn) (ids : List Int) : List Sb × Int :=
  if planB p = true then
    if ascB ids = true then
      if ids.all (knownB p) = true then (sbAll p.len ids [], 0) else ([], 4)
    else ([], 25)
  else ([], 1)
def setsT (r : List Sb × Int) : TV := .tup [.d (.sl (sbs r.1)), .d (.int .i64 r.2)]
end Go.Proofs
