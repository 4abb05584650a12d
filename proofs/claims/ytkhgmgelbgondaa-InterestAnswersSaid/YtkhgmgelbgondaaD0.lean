/-
  What functions of the program compute, stated as contracts over plain data; the conditions of each stand in its own statement.
-/
import Derived.Test.YtkhgmgelbgondaaA0
set_option linter.unusedSimpArgs false
namespace Go.Proofs
open Go Go.Lib

/-! ### members and wants, in plain words -/
structure Mem where
  h : Int
  g : Int
  f : Flt
  u : Int
structure Wnt where
  g : Int
  f : Flt
structure Mbs where
  now : Int
  l : List Mem
def nF : Flt := ⟨1, []⟩
def Flt.non (f : Flt) : Bool := decide (f.m = 1) && decide (f.s.length = 0)
theorem Flt.non_iff {f : Flt} : f.non = true ↔ f = nF := by
  obtain ⟨m, s⟩ := f
  simp [Flt.non, nF]
def befM (x y : Mem) : Bool := decide (x.g < y.g) || (decide (x.g = y.g) && decide (x.h < y.h))
theorem befM_iff {x y : Mem} : befM x y = true ↔ x.g < y.g ∨ (x.g = y.g ∧ x.h < y.h) := by simp [befM]
theorem befM_no {x y : Mem} : befM x y = false ↔ ¬ (x.g < y.g ∨ (x.g = y.g ∧ x.h < y.h)) := by rw [← befM_iff]; simp
/-- a member put in its place -/
def putM (x : Mem) : List Mem → List Mem
  | [] => [x]
  | y :: r => if befM y x = true then y :: putM x r else if y.g = x.g ∧ y.h = x.h then x :: r else x :: y :: r
def samM (x y : Mem) : Bool := decide (x.g = y.g) && decide (x.h = y.h)
theorem putM_at {x : Mem} : ∀ {l : List Mem} {p : Nat}, p ≤ l.length → (∀ a, a < p → ∀ y, l[a]? = some y → befM y x = true) → (∀ y, l[p]? = some y → befM y x = false) →
    putM x l = if (l[p]?.elim false fun y => samM y x) = true then l.set p x else l.take p ++ [x] ++ l.drop p
  | [], p, hp, _, _ => by
    obtain rfl : p = 0 := by simpa using hp
    rfl
  | y :: r, 0, _, _, h2 => by
    have h := h2 y rfl
    simp only [putM, h]
    by_cases h' : y.g = x.g ∧ y.h = x.h <;> simp [samM, h']
  | y :: r, p + 1, hp, h1, h2 => by
    have h := h1 0 (by omega) y rfl
    have ih := putM_at (x := x) (l := r) (p := p) (by simpa using hp) (fun a ha z hz => h1 (a + 1) (by omega) z (by simpa using hz)) (fun z hz => h2 z (by simpa using hz))
    simp only [putM, h, if_true, ih]
    simp only [List.getElem?_cons_succ]
    split <;> simp
def hitM (x : Mem) : List Mem → Bool
  | [] => false
  | y :: r => if befM y x = true then hitM x r else samM y x
theorem hitM_at {x : Mem} : ∀ {l : List Mem} {p : Nat}, p ≤ l.length → (∀ a, a < p → ∀ y, l[a]? = some y → befM y x = true) → (∀ y, l[p]? = some y → befM y x = false) →
    hitM x l = l[p]?.elim false fun y => samM y x
  | [], p, hp, _, _ => by
    obtain rfl : p = 0 := by simpa using hp
    rfl
  | y :: r, 0, _, _, h2 => by
    have h := h2 y rfl
    simp [hitM, h]
  | y :: r, p + 1, hp, h1, h2 => by
    have h := h1 0 (by omega) y rfl
    have ih := hitM_at (x := x) (l := r) (p := p) (by simpa using hp) (fun a ha z hz => h1 (a + 1) (by omega) z (by simpa using hz)) (fun z hz => h2 z (by simpa using hz))
    simp [hitM, h, ih]
theorem put_hit {x : Mem} {l : List Mem} {p : Nat} (h1 : p ≤ l.length) (h2 : ∀ a, a < p → ∀ y, l[a]? = some y → befM y x = true) (h3 : ∀ y, l[p]? = some y → befM y x = false) :
    (hitM x l = true → putM x l = l.set p x ∧ ∃ y, l[p]? = some y ∧ samM y x = true) ∧ (hitM x l = false → putM x l = l.take p ++ [x] ++ l.drop p ∧ ∀ y, l[p]? = some y → samM y x = false) := by
  rw [putM_at h1 h2 h3, hitM_at h1 h2 h3]
  cases l[p]? with
  | none => simp
  | some y => cases h : samM y x <;> simp [h]
theorem putM_len (x : Mem) : ∀ l : List Mem, (putM x l).length ≤ l.length + 1
  | [] => by simp [putM]
  | y :: r => by
    have := putM_len x r
    simp only [putM]
    split
    · simp; omega
    · split <;> simp
/-- ascending by group and host -/
def AscM (l : List Mem) : Prop := l.Pairwise fun x y => befM x y = true
theorem befM_trans {x y z : Mem} (h1 : befM x y = true) (h2 : befM y z = true) : befM x z = true := by
  rw [befM_iff] at *; omega
theorem putM_mem {x y : Mem} : ∀ {l : List Mem}, y ∈ putM x l → y = x ∨ y ∈ l
  | [], h => by simpa [putM] using h
  | z :: r, h => by
    simp only [putM] at h
    split at h
    · rcases List.mem_cons.1 h with h | h
      · exact .inr (by simp [h])
      · rcases putM_mem h with h | h
        · exact .inl h
        · exact .inr (by simp [h])
    · split at h
      · rcases List.mem_cons.1 h with h | h
        · exact .inl h
        · exact .inr (by simp [h])
      · rcases List.mem_cons.1 h with h | h
        · exact .inl h
        · exact .inr h
theorem putM_asc {x : Mem} : ∀ {l : List Mem}, AscM l → AscM (putM x l)
  | [], _ => by simp [putM, AscM]
  | z :: r, h => by
    obtain ⟨h1, h2⟩ := List.pairwise_cons.1 h
    simp only [putM]
    split
    · rename_i hz
      refine List.pairwise_cons.2 ⟨fun y hy => ?_, putM_asc h2⟩
      rcases putM_mem hy with rfl | hy
      · exact hz
      · exact h1 y hy
    · rename_i hz
      have hz' : befM z x = false := by simpa using hz
      split
      · rename_i he
        refine List.pairwise_cons.2 ⟨fun y hy => ?_, h2⟩
        have := h1 y hy
        rw [befM_iff] at this ⊢
        omega
      · rename_i he
        rw [befM_no] at hz'
        refine List.pairwise_cons.2 ⟨fun y hy => ?_, h⟩
        rcases List.mem_cons.1 hy with rfl | hy
        · rw [befM_iff]; omega
        · have := h1 y hy
          rw [befM_iff] at this ⊢
          omega
end Go.Proofs
