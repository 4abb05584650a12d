/-
  What functions of the program compute, stated as contracts over plain data; the conditions of each stand in its own statement.
-/
import Derived.Lib.SlicesCompact
set_option linter.unusedSimpArgs false
namespace Go.Proofs
open Go Go.Lib

theorem asc_ext : ∀ {a b : List Int}, a.Pairwise (· < ·) → b.Pairwise (· < ·) → (∀ x, x ∈ a ↔ x ∈ b) → a = b
  | [], [], _, _, _ => rfl
  | [], y :: b, _, _, h => by have := (h y).2 (by simp); simp at this
  | x :: a, [], _, _, h => by have := (h x).1 (by simp); simp at this
  | x :: a, y :: b, ha, hb, h => by
    rw [List.pairwise_cons] at ha hb
    have hxy : x = y := by
      have h1 := (h x).1 (by simp)
      have h2 := (h y).2 (by simp)
      rcases List.mem_cons.1 h1 with e | h1
      · exact e
      · rcases List.mem_cons.1 h2 with e | h2
        · exact e.symm
        · have := hb.1 x h1; have := ha.1 y h2; omega
    subst hxy
    congr 1
    refine asc_ext ha.2 hb.2 fun z => ?_
    have hz := h z
    simp only [List.mem_cons] at hz
    constructor
    · intro hm
      rcases hz.1 (.inr hm) with e | h
      · subst e; have := ha.1 z hm; omega
      · exact h
    · intro hm
      rcases hz.2 (.inr hm) with e | h
      · subst e; have := hb.1 z hm; omega
      · exact h

theorem compact_inv (zs : List Int) (hs : zs.Pairwise (· ≤ ·)) : ∀ m, m ≤ zs.length → (compactUpTo zs.toArray m).Pairwise (· < ·) ∧ (∀ x, x ∈ compactUpTo zs.toArray m ↔ ∃ j, j < m ∧ zs[j]? = some x) 
  | 0, _ => by simp [compactUpTo]
  | m + 1, hm => by
    obtain ⟨h1, h2⟩ := compact_inv zs hs m (by omega)
    have hget : ∀ j, j < zs.length → zs.toArray[j]! = zs.getD j 0 := fun j hj => by simp [List.getD, hj]
    rw [compactUpTo_succ]
    have hmz : zs[m]? = some (zs.getD m 0) := by simp [List.getD, show m < zs.length by omega]
    have hle : ∀ j, j < m → zs.getD j 0 ≤ zs.getD m 0 := fun j hj => by
      have := List.pairwise_iff_getElem.1 hs j m (by omega) (by omega) hj
      simpa [List.getD, show m < zs.length by omega, show j < zs.length by omega] using this
    cases hk : keeps zs.toArray m with
    | false =>
      have h3 : 0 < m ∧ zs.toArray[m]! = zs.toArray[m - 1]! := by
        have hk' : ¬ (m = 0 ∨ zs.toArray[m]! ≠ zs.toArray[m - 1]!) := by simpa only [keeps, decide_eq_false_iff_not] using hk
        exact ⟨Nat.pos_of_ne_zero fun e => hk' (.inl e), Classical.byContradiction fun e => hk' (.inr e)⟩
      rw [if_neg (by simp), List.append_nil]
      refine ⟨h1, fun x => ?_⟩
      rw [h2]
      constructor
      · rintro ⟨j, hj, hx⟩; exact ⟨j, by omega, hx⟩
      · rintro ⟨j, hj, hx⟩
        by_cases e : j = m
        · subst e
          refine ⟨j - 1, by omega, ?_⟩
          have h4 := h3.2
          rw [hget j (by omega), hget (j - 1) (by omega)] at h4
          rw [hmz] at hx
          simp only [Option.some.injEq] at hx
          rw [← hx, h4]
          simp [List.getD, show j - 1 < zs.length by omega]
        · exact ⟨j, by omega, hx⟩
    | true =>
      rw [if_pos rfl, hget m (by omega)]
      refine ⟨?_, fun x => ?_⟩
      · rw [List.pairwise_append]
        refine ⟨h1, by simp, fun x hx y hy => ?_⟩
        simp at hy; subst hy
        obtain ⟨j, hj, hjx⟩ := (h2 x).1 hx
        have hxj : zs.getD j 0 = x := by simp [List.getD, hjx]
        have := hle j hj
        have hne : zs.getD (m - 1) 0 ≠ zs.getD m 0 := by
          simp only [keeps, Bool.or_eq_true, decide_eq_true_eq] at hk
          rcases hk with h | h
          · omega
          · rw [hget m (by omega), hget (m - 1) (by omega)] at h
            exact fun e => h e.symm
        have hj1 : zs.getD j 0 ≤ zs.getD (m - 1) 0 := by
          by_cases e : j = m - 1
          · subst e; omega
          · have := List.pairwise_iff_getElem.1 hs j (m - 1) (by omega) (by omega) (by omega)
            simpa [List.getD, show m - 1 < zs.length by omega, show j < zs.length by omega] using this
        have h5 := hle (m - 1) (by omega)
        rw [← hxj]
        show zs.getD j 0 < zs.getD m 0
        omega
      · rw [List.mem_append, h2]
        simp only [List.mem_singleton]
        constructor
        · rintro (⟨j, hj, hx⟩ | rfl)
          · exact ⟨j, by omega, hx⟩
          · exact ⟨m, by omega, hmz⟩
        · rintro ⟨j, hj, hx⟩
          by_cases e : j = m
          · subst e; rw [hmz] at hx; simp only [Option.some.injEq] at hx; exact .inr hx.symm
          · exact .inl ⟨j, by omega, hx⟩
theorem compact_sorted {zs : List Int} (hs : zs.Pairwise (· ≤ ·)) : (compact zs).Pairwise (· < ·) ∧ ∀ x, x ∈ compact zs ↔ x ∈ zs := by
  obtain ⟨h1, h2⟩ := compact_inv zs hs zs.length (Nat.le_refl _)
  refine ⟨h1, fun x => ?_⟩
  show x ∈ compactUpTo zs.toArray zs.length ↔ _
  rw [h2]
  constructor
  · rintro ⟨j, _, hx⟩; exact List.mem_of_getElem? hx
  · intro hm
    obtain ⟨j, hj⟩ := List.getElem?_of_mem hm
    exact ⟨j, (List.getElem?_eq_some_iff.1 hj).1, hj⟩
theorem sort_sorted (zs : List Int) : (zs.mergeSort fun x y => decide (x ≤ y)).Pairwise (· ≤ ·) := by
  have := List.pairwise_mergeSort (le := fun (x y : Int) => decide (x ≤ y)) (fun a b c h1 h2 => by simp at *; omega) (fun a b => by simp; omega) zs
  exact this.imp fun h => by simpa using h

def insPos (n : Int) : List Int → Nat
  | [] => 0
  | y :: r => if y < n then insPos n r + 1 else 0
def insI (l : List Int) (n : Int) : List Int := if l[insPos n l]? = some n then l else l.take (insPos n l) ++ [n] ++ l.drop (insPos n l)
theorem insPos_le (n : Int) : ∀ l : List Int, insPos n l ≤ l.length
  | [] => Nat.le_refl _
  | y :: r => by
    have := insPos_le n r
    simp only [insPos, List.length_cons]
    split <;> omega
theorem insPos_take (n : Int) : ∀ (l : List Int), ∀ x ∈ l.take (insPos n l), x < n
  | [] => by simp
  | y :: r => by
    simp only [insPos]
    split
    · rename_i h
      intro x hx
      simp at hx
      rcases hx with rfl | hx
      · exact h
      · exact insPos_take n r x hx
    · simp
theorem insPos_at (n : Int) : ∀ (l : List Int) (x : Int), l[insPos n l]? = some x → n ≤ x
  | [], x, h => by simp at h
  | y :: r, x, h => by
    simp only [insPos] at h
    split at h
    · exact insPos_at n r x (by simpa using h)
    · simp at h; omega
theorem insI_asc {l : List Int} (n : Int) (h : l.Pairwise (· < ·)) : (insI l n).Pairwise (· < ·) ∧ ∀ x, x ∈ insI l n ↔ x ∈ l ∨ x = n := by
  unfold insI
  split
  · rename_i he
    refine ⟨h, fun x => ⟨.inl, fun hx => hx.elim id fun e => by subst e; exact List.mem_of_getElem? he⟩⟩
  · rename_i he
    have hl : l.take (insPos n l) ++ l.drop (insPos n l) = l := List.take_append_drop _ _
    have hp : (l.take (insPos n l) ++ l.drop (insPos n l)).Pairwise (· < ·) := by rw [hl]; exact h
    rw [List.pairwise_append] at hp
    have hd : ∀ x ∈ l.drop (insPos n l), n < x := fun x hx => by
      cases hc : l.drop (insPos n l) with
      | nil => rw [hc] at hx; simp at hx
      | cons y r =>
        have hy : l[insPos n l]? = some y := by
          have : (l.drop (insPos n l))[0]? = some y := by rw [hc]; rfl
          simpa using this
        have h1 := insPos_at n l y hy
        have h2 : y ≠ n := fun e => he (by rw [hy, e])
        rw [hc] at hx
        rcases List.mem_cons.1 hx with rfl | hx
        · omega
        · have := hp.2.1
          rw [hc, List.pairwise_cons] at this
          have := this.1 x hx
          omega
    refine ⟨?_, fun x => ?_⟩
    · rw [List.append_assoc, List.pairwise_append]
      refine ⟨hp.1, by simpa using ⟨hd, hp.2.1⟩, fun a ha b hb => ?_⟩
      have h1 := insPos_take n l a ha
      simp at hb
      rcases hb with rfl | hb
      · exact h1
      · have := hd b hb; omega
    · have : x ∈ l ↔ x ∈ l.take (insPos n l) ∨ x ∈ l.drop (insPos n l) := by rw [← List.mem_append, hl]
      rw [this]
      simp only [List.mem_append, List.mem_singleton]
      constructor
      · rintro ((h | h) | h)
        · exact .inl (.inl h)
        · exact .inr h
        · exact .inl (.inr h)
      · rintro ((h | h) | h)
        · exact .inl (.inl h)
        · exact .inr h
        · exact .inl (.inr h)
/-- what is inserted, in some order -/
theorem insFold : ∀ (xs : List Int) (l : List Int), l.Pairwise (· < ·) → (xs.foldl insI l).Pairwise (· < ·) ∧ ∀ x, x ∈ xs.foldl insI l ↔ x ∈ l ∨ x ∈ xs
  | [], l, h => ⟨h, by simp⟩
  | y :: xs, l, h => by
    obtain ⟨h1, h2⟩ := insI_asc y h
    obtain ⟨h3, h4⟩ := insFold xs _ h1
    refine ⟨h3, fun x => ?_⟩
    rw [List.foldl_cons, h4, h2]
    simp only [List.mem_cons]
    constructor
    · rintro ((h | h) | h)
      · exact .inl h
      · exact .inr (.inl h)
      · exact .inr (.inr h)
    · rintro (h | h | h)
      · exact .inl (.inl h)
      · exact .inl (.inr h)
      · exact .inr h
end Go.Proofs
