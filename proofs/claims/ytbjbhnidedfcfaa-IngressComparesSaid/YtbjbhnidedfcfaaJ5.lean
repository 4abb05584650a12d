/-
  What functions of the program compute, stated as contracts over plain data; the conditions of each stand in its own statement.
-/
import Derived.Test.YtbjbhnidedfcfaaJ3
import Derived.Test.YtbjbhnidedfcfaaJ4
set_option linter.unusedSimpArgs false
set_option maxRecDepth 100000
set_option maxHeartbeats 1000000
namespace Go.Proofs
open Go Go.Tr

def missA (a b : List Int) : List Int := filtR (fun x => !(hasI b x)) a
def missC (b : List Int) : List Int := filtR (fun x => hasI (b.drop (idxV x b + 1).toNat) x) b
theorem missing_c (a b : List Int) (ha : a.length ≤ 100000) (hb : b.length ≤ 100000) : Contract Try.prog 9 [.d (ints a), .d (ints b)] [] (missT (missA a b) (missA b a) (missC b)) [] [] := by
  refine contract_of Try.func9 rfl (fun E0 => ?_)
  refine awp.sound (g := .mk) (ow := []) (kp := (fun k => k == 0 || k == 1 || k == 2 || k == 3 || k == 4 || k == 5 || k == 6)) ?_
  rw [Try.ntmps9]
  simp -dsimp
  refine ACall.of (filter_c a ha 31 [ints b] (fun x => !(hasI b x)) (m1_c b hb) (by simp)) [.o 3] 0 ?_
  simp -dsimp
  refine ACall.of (filter_c b hb 33 [ints a] (fun x => !(hasI a x)) (m2_c a ha) (by simp)) [.o 2] 0 ?_
  simp -dsimp
  refine ACall.of (filter_c b hb 34 [ints b] (fun x => hasI (b.drop (idxV x b + 1).toNat) x) (m3_c b hb) (by simp)) [.o 3] 0 ?_
  simp -dsimp
  refine Fin.of ?_
  simp [missT, missA, missC]

/-! ### the plain law -/
theorem ms_eq (b : List Int) : ∀ (xs o : List Int), xs.foldl (msF b) o = (xs.filter fun x => !(hasI b x)).foldl insI o
  | [], o => rfl
  | x :: xs, o => by
    simp only [List.foldl_cons, List.filter_cons]
    cases h : hasI b x with
    | true => simp [msF, h, ms_eq b xs]
    | false => simp [msF, h, ms_eq b xs]
theorem miss_same (a b : List Int) : missA a b = a.foldl (msF b) [] := by
  rw [ms_eq]
  obtain ⟨h1, h2⟩ := filtR_asc (fun x => !(hasI b x)) a
  obtain ⟨h3, h4⟩ := insFold (a.filter fun x => !(hasI b x)) [] (by simp)
  refine asc_ext h1 h3 fun x => ?_
  rw [missA, h2, h4]
  simp
theorem rp_mem (b : List Int) : ∀ n, n ≤ b.length → (rpF b n).Pairwise (· < ·) ∧ ∀ x, x ∈ rpF b n ↔ ∃ i j, j < i ∧ i < n ∧ b[i]? = some x ∧ b[j]? = some x
  | 0, _ => by simp [rpF]
  | n + 1, hn => by
    obtain ⟨h1, h2⟩ := rp_mem b n (by omega)
    have hg : b[n]? = some (b.getD n 0) := by simp [List.getD, show n < b.length by omega]
    have hh : hasI (b.take n) (b.getD n 0) = true ↔ ∃ j, j < n ∧ b[j]? = some (b.getD n 0) := by
      simp only [hasI, decide_eq_true_eq]
      constructor
      · intro hm
        obtain ⟨j, hj⟩ := List.getElem?_of_mem hm
        rw [List.getElem?_take] at hj
        split at hj
        · exact ⟨j, by assumption, hj⟩
        · simp at hj
      · rintro ⟨j, hj, hx⟩
        refine List.mem_of_getElem? (i := j) ?_
        rw [List.getElem?_take, if_pos hj]; exact hx
    rw [rpF]
    split
    · rename_i h
      obtain ⟨j0, hj0, hx0⟩ := hh.1 h
      obtain ⟨h3, h4⟩ := insI_asc (b.getD n 0) h1
      refine ⟨h3, fun x => ?_⟩
      rw [h4, h2]
      constructor
      · rintro (⟨i, j, g1, g2, g3⟩ | rfl)
        · exact ⟨i, j, g1, by omega, g3⟩
        · exact ⟨n, j0, hj0, by omega, hg, hx0⟩
      · rintro ⟨i, j, g1, g2, g3, g4⟩
        by_cases e : i = n
        · subst e; rw [hg] at g3; simp only [Option.some.injEq] at g3; exact .inr g3.symm
        · exact .inl ⟨i, j, g1, by omega, g3, g4⟩
    · rename_i h
      refine ⟨h1, fun x => ?_⟩
      rw [h2]
      constructor
      · rintro ⟨i, j, g1, g2, g3⟩
        exact ⟨i, j, g1, by omega, g3⟩
      · rintro ⟨i, j, g1, g2, g3, g4⟩
        by_cases e : i = n
        · subst e
          rw [hg] at g3; simp only [Option.some.injEq] at g3
          exact absurd (hh.2 ⟨j, g1, by rw [g4, g3]⟩) h
        · exact ⟨i, j, g1, by omega, g3, g4⟩
theorem missC_same (b : List Int) : missC b = rpF b b.length := by
  obtain ⟨h1, h2⟩ := filtR_asc (fun x => hasI (b.drop (idxV x b + 1).toNat) x) b
  obtain ⟨h3, h4⟩ := rp_mem b b.length (Nat.le_refl _)
  refine asc_ext h1 h3 fun x => ?_
  rw [missC, h2, h4]
  constructor
  · rintro ⟨hm, hh⟩
    have hI : ∃ i, idxV x b = (i : Nat) ∧ b[i]? = some x := by
      unfold idxV
      cases h : b.findIdx? (fun y => decide (y = x)) with
      | none => have := List.findIdx?_eq_none_iff.1 h x hm; simp at this
      | some i =>
        obtain ⟨hi, hx, _⟩ := List.findIdx?_eq_some_iff_getElem.1 h
        simp at hx
        exact ⟨i, rfl, by rw [List.getElem?_eq_getElem hi, hx]⟩
    obtain ⟨i, hi, hx⟩ := hI
    rw [hi] at hh
    simp only [hasI, decide_eq_true_eq] at hh
    obtain ⟨j, hj⟩ := List.getElem?_of_mem hh
    rw [List.getElem?_drop] at hj
    have hlt := (List.getElem?_eq_some_iff.1 hj).1
    exact ⟨_, i, by omega, hlt, hj, hx⟩
  · rintro ⟨i, j, g1, g2, g3, g4⟩
    refine ⟨List.mem_of_getElem? g3, ?_⟩
    have hI : ∃ k, idxV x b = (k : Nat) ∧ k ≤ j := by
      unfold idxV
      cases h : b.findIdx? (fun y => decide (y = x)) with
      | none => have := List.findIdx?_eq_none_iff.1 h x (List.mem_of_getElem? g3); simp at this
      | some k =>
        obtain ⟨hk, _, hmin⟩ := List.findIdx?_eq_some_iff_getElem.1 h
        refine ⟨k, rfl, Nat.le_of_not_lt fun hlt => ?_⟩
        have := hmin j hlt
        obtain ⟨hjl, hjx⟩ := List.getElem?_eq_some_iff.1 g4
        simp [hjx] at this
    obtain ⟨k, hk, hkj⟩ := hI
    simp only [hasI, decide_eq_true_eq, hk]
    refine List.mem_of_getElem? (i := i - (k + 1)) ?_
    rw [List.getElem?_drop, show ((k : Int) + 1).toNat + (i - (k + 1)) = i by omega]
    exact g3
theorem missT_same (a b : List Int) : missT (missA a b) (missA b a) (missC b) = missT (a.foldl (msF b) []) (b.foldl (msF a) []) (rpF b b.length) := by
  rw [miss_same, miss_same, missC_same]
end Go.Proofs
