/-
  What functions of the program compute, stated as contracts over plain data; the conditions of each stand in its own statement.
-/
import Derived.Test.YtkhgmgelbgondaaD17
set_option linter.unusedSimpArgs false
namespace Go.Proofs
open Go Go.Tr

def genL (v : Int → Option Flt) : Nat → List Wnt
  | 0 => []
  | n + 1 => genL v n ++ tl ((n : Int) + 1) (v ((n : Int) + 1))
theorem genL_mem (v : Int → Option Flt) : ∀ (n : Nat) (w : Wnt), w ∈ genL v n ↔ (1 ≤ w.g ∧ w.g ≤ n) ∧ v w.g = some w.f
  | 0, w => by simp [genL]; omega
  | n + 1, w => by
    rw [genL, List.mem_append, genL_mem v n, tl_mem]
    constructor
    · rintro (⟨h1, h2⟩ | ⟨h1, h2⟩)
      · exact ⟨by omega, h2⟩
      · exact ⟨by omega, by rw [h1]; exact h2⟩
    · rintro ⟨h1, h2⟩
      by_cases e : w.g = (n : Int) + 1
      · exact .inr ⟨e, by rw [← e]; exact h2⟩
      · exact .inl ⟨by omega, h2⟩
theorem genL_asc (v : Int → Option Flt) : ∀ n : Nat, AscW (genL v n)
  | 0 => .nil
  | n + 1 => by
    refine List.pairwise_append.2 ⟨genL_asc v n, ?_, fun x hx y hy => ?_⟩
    · cases v ((n : Int) + 1) <;> simp [tl]
    · have h1 := (genL_mem v n x).1 hx
      have h2 := tl_mem.1 hy
      omega
theorem genL_len (v : Int → Option Flt) : ∀ n : Nat, (genL v n).length ≤ n
  | 0 => by simp [genL]
  | n + 1 => by
    have := genL_len v n
    have h : (tl ((n : Int) + 1) (v ((n : Int) + 1))).length ≤ 1 := by cases v ((n : Int) + 1) <;> simp [tl]
    simp only [genL, List.length_append]; omega
def rvCo (oa ob : Option Flt) : Option Flt := if ob.getD nF = oa.getD nF then none else some (ob.getD nF)
def rvAo (oa oc : Option Flt) : Option Flt := if (if oc.isSome = true then oc.getD nF else oa.getD nF) = nF then none else some (if oc.isSome = true then oc.getD nF else oa.getD nF)
def rvC (a b : List Wnt) (g : Int) : Option Flt := rvCo (opt a g) (opt b g)
def rvA (a c : List Wnt) (g : Int) : Option Flt := rvAo (opt a g) (opt c g)
theorem vld_opt {a : List Wnt} (h : vldW a false = 0) {g : Int} {f : Flt} (ho : opt a g = some f) : (1 ≤ g ∧ g ≤ 99) ∧ f ≠ nF := by
  obtain ⟨a1, a2, a3, a4, a5⟩ := vldW_zero h
  have hm := opt_some ho
  have h1 := a2 _ hm
  have h2 := a4 rfl _ hm
  refine ⟨h1, fun e => ?_⟩
  simp only at h2
  rw [e, nF_non] at h2; simp at h2
theorem rvC_eq (P : Prop) (oa ob : Option Flt) (f : Flt) (hA : ∀ f, oa = some f → P ∧ f ≠ nF) (hB : ∀ f, ob = some f → P ∧ f ≠ nF) : (P ∧ rvCo oa ob = some f) ↔ valC oa ob = some f := by
  cases oa with
  | none =>
    cases ob with
    | none => simp [valC, rvCo]
    | some x =>
      obtain ⟨h1, h2⟩ := hB x rfl
      simp [valC, rvCo, h1, h2]
  | some y =>
    obtain ⟨h1, h2⟩ := hA y rfl
    cases ob with
    | none => simp [valC, rvCo, h1, Ne.symm h2]
    | some x =>
      by_cases e : x = y
      · simp [valC, rvCo, e]
      · have e' : ¬ y = x := fun z => e z.symm
        simp [valC, rvCo, e, e', h1]
theorem rvA_eq (P : Prop) (oa oc : Option Flt) (f : Flt) (hA : ∀ f, oa = some f → P ∧ f ≠ nF) (hC : ∀ f, oc = some f → P) : (P ∧ rvAo oa oc = some f) ↔ valA oa oc = some f := by
  cases oc with
  | none =>
    cases oa with
    | none => simp [valA, rvAo]
    | some x =>
      obtain ⟨h1, h2⟩ := hA x rfl
      simp [valA, rvAo, h1, h2]
  | some x =>
    have h1 := hC x rfl
    have e : valA oa (some x) = if x.non = true then none else some x := by cases oa <;> rfl
    rw [e]
    by_cases hn : x = nF
    · simp [rvAo, hn, nF_non]
    · have : x.non = false := by cases hh : x.non with | false => rfl | true => exact absurd (Flt.non_iff.1 hh) hn
      simp [rvAo, hn, this, h1]
theorem chg_ref {a b : List Wnt} (ha : vldW a false = 0) (hb : vldW b false = 0) : genL (rvC a b) 99 = mrgV valC a b := by
  obtain ⟨_, _, _, _, a5⟩ := vldW_zero ha
  obtain ⟨_, _, _, _, b5⟩ := vldW_zero hb
  obtain ⟨c1, c2⟩ := chg_all a5 b5
  refine ascW_ext (genL_asc _ _) c1 fun w => ?_
  rw [genL_mem, c2]
  exact rvC_eq _ _ _ _ (fun f h => vld_opt ha h) (fun f h => vld_opt hb h)
theorem app_ref {a c : List Wnt} (ha : vldW a false = 0) (hc : vldW c true = 0) : genL (rvA a c) 99 = mrgV valA a c := by
  obtain ⟨_, _, _, _, a5⟩ := vldW_zero ha
  obtain ⟨_, d2, _, _, b5⟩ := vldW_zero hc
  obtain ⟨c1, c2⟩ := app_all a5 b5
  refine ascW_ext (genL_asc _ _) c1 fun w => ?_
  rw [genL_mem, c2]
  exact rvA_eq _ _ _ _ (fun f h => vld_opt ha h) (fun f h => d2 ⟨w.g, f⟩ (opt_some h))
end Go.Proofs
