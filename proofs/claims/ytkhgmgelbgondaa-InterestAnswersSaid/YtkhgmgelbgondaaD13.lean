/-
  What functions of the program compute, stated as contracts over plain data; the conditions of each stand in its own statement.
-/
import Derived.Test.YtkhgmgelbgondaaD12
set_option linter.unusedSimpArgs false
set_option maxRecDepth 100000
set_option maxHeartbeats 8000000
namespace Go.Proofs
open Go Go.Tr

def chA (x : Wnt) : List Wnt := [⟨x.g, nF⟩]
def chB (y : Wnt) : List Wnt := [y]
def chC (x y : Wnt) : List Wnt := if x.f = y.f then [] else [y]
def limW (l : List Wnt) (e : Int) : List Wnt × Int := if e ≠ 0 then ([], e) else if 32 < l.length then ([], 3) else (l, 0)
def chgR (a b : List Wnt) : List Wnt × Int := limW (mrg chA chB chC a b) (if vldW a false ≠ 0 then vldW a false else vldW b false)
theorem vldW_len {l : List Wnt} {ch : Bool} (h : vldW l ch = 0) : l.length ≤ 32 := by
  unfold vldW at h
  split at h
  · simp at h
  · omega
theorem corV_zero {x y : Int} (h : corV x y = 0) : x = 0 ∧ y = 0 := by
  unfold corV at h
  by_cases h1 : x = 0
  · rw [if_neg (by simpa using h1)] at h; exact ⟨h1, h⟩
  · rw [if_pos h1] at h; exact absurd h h1
theorem ichanges_cL (a b : List Wnt) (ha : a.length ≤ 1000000) (hb : b.length ≤ 1000000) (hfa : ∀ x ∈ a, x.f.s.length ≤ 9223372036854775807) (hfb : ∀ x ∈ b, x.f.s.length ≤ 9223372036854775807) :
    Contract Try.prog 20 [.d (wntD a), .d (wntD b)] [] (.tup [.d (wntD (chgR a b).1), .d (.int .i64 (chgR a b).2)]) [] [] := by
  have hva := ivalidate_cL a ha hfa
  have hvb := ivalidate_cL b hb hfb
  have hor := cor_c (vldW a false) (vldW b false)
  simp only [ints, List.map] at hor
  refine contract_of Try.func20 rfl (fun E0 => ?_)
  refine awp.sound (g := .mk) (ow := []) (kp := (fun k => k == 0 || k == 1 || k == 4 || k == 5 || k == 6 || k == 7 || k == 15)) ?_
  rw [Try.ntmps20]
  simp -dsimp
  refine ACall.of hva [] 0 ?_
  simp -dsimp
  refine ACall.of hvb [] 0 ?_
  simp -dsimp
  refine ACall.of hor [] 0 ?_
  by_cases h : corV (vldW a false) (vldW b false) = 0
  · obtain ⟨h1, h2⟩ := corV_zero h
    have la := vldW_len h1
    replace hfa : ∀ x ∈ a, x.f.s.length ≤ 1000000 := fun x hx => by have := ok_len ((vldW_zero h1).2.2.1 x hx); omega
    replace hfb : ∀ x ∈ b, x.f.s.length ≤ 1000000 := fun x hx => by have := ok_len ((vldW_zero h2).2.2.1 x hx); omega
    have lb := vldW_len h2
    have hm := merged_c a b (by omega) 56 (by simp) chA chB chC (by simp [chA]) (by simp [chB]) (fun x y => by unfold chC; split <;> simp)
      (fun l hl x hx => changesA_c l hl x) (fun l hl x hx => changesB_c l hl x (hfb x hx))
      (fun l hl x hx y hy => by
        have := changesC_c l hl x y (hfa x hx) (hfb y hy)
        have e : (if x.f = y.f then l else l ++ [y]) = l ++ chC x y := by unfold chC; split <;> simp
        rw [e] at this; exact this)
    have hlim := limited_c (mrg chA chB chC a b)
    simp -dsimp [h]
    try refine ⟨?_, ⟨by kernel_rfl⟩⟩
    refine ACall.of2 hm [.o 7] [] 1000 ?_
    simp -dsimp
    and_intros
    all_goals try first | rfl | omega | exact ⟨by kernel_rfl⟩
    simp only [wntD] at hlim
    refine ACall.of hlim [] 0 ?_
    simp -dsimp
    and_intros
    all_goals try first | rfl | omega | exact ⟨by kernel_rfl⟩
    refine Fin.of ?_
    simp [chgR, limW, h1, h2, wntD]
    split <;> simp
  · simp -dsimp [h]
    and_intros
    all_goals try first | rfl | omega | exact ⟨by kernel_rfl⟩
    refine Fin.view 4 ?_
    simp -dsimp
    refine Fin.of ?_
    have h' : (if vldW a false = 0 then vldW b false else vldW a false) ≠ 0 := by
      intro e
      apply h
      unfold corV
      split at e <;> simp_all
    simp [chgR, limW, corV, wntD]
    simp [h']
theorem ichanges_c (a b : List Wnt) (ha : a.length ≤ 1000000) (hb : b.length ≤ 1000000) (hfa : ∀ x ∈ a, x.f.s.length ≤ 1000000) (hfb : ∀ x ∈ b, x.f.s.length ≤ 1000000) :
    Contract Try.prog 20 [.d (wntD a), .d (wntD b)] [] (.tup [.d (wntD (chgR a b).1), .d (.int .i64 (chgR a b).2)]) [] [] := ichanges_cL a b ha hb (fun x hx => Nat.le_trans (hfa x hx) (by decide)) (fun x hx => Nat.le_trans (hfb x hx) (by decide))
end Go.Proofs
