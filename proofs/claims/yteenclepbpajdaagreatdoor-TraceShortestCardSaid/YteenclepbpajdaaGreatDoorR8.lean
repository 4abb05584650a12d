/-
  What functions of the program compute, stated as contracts over plain data; the conditions of each stand in its own statement.
-/
import Derived.Test.YteenclepbpajdaaGreatDoorM32
set_option linter.unusedSimpArgs false
set_option maxRecDepth 100000
set_option maxHeartbeats 4000000
namespace Go.Proofs
open Go Go.Tr
open Classical in
noncomputable def costR (g : Topo) (f t : Int) : Option Int := if chkT g = 0 ∧ hasR g.rs f = true ∧ hasR g.rs t = true ∧ dst g t f ≠ far then some (dst g t f) else none
theorem cost06_c (g : Topo) (hg : g.Sm) (f t : Int) : Contract Tryz.prog 53 [topT g, .d (.int .i64 f), .d (.int .i64 t)] [] (priceT (costR g f t)) [] [] := by
 have h1 := has05x_c g hg f
 have h2 := has05x_c g hg t
 simp only [topT] at h1 h2
 refine contract_of Tryz.func53 rfl (fun E0 => ?_)
 refine awp.sound (g := .mk) (ow := []) (kp := (fun k => k==0||k==1||k==2||k==3||k==6||k==7||k==8||k==18||k==26)) ?_
 rw [Tryz.ntmps53]
 simp -dsimp [topT]
 try refine ⟨?_, ⟨by kernel_rfl⟩⟩
 refine ACall.of h1 [] 0 ?_
 rcases (Bool.eq_false_or_eq_true (decide (chkT g = 0) && hasR g.rs f)).symm with a1 | a1
 ·have e : costR g f t = none := by
   rw [costR, if_neg]; rintro ⟨h1, h2, _⟩; simp [h1, h2] at a1
  rw [e]
  simp -dsimp [a1]
  try refine ⟨?_, ⟨by kernel_rfl⟩⟩
  refine Fin.of ?_
  simp [priceT]
 have hc : chkT g = 0 := by simp at a1; exact a1.1
 have hf : hasR g.rs f = true := by simp at a1; exact a1.2
 rcases (Bool.eq_false_or_eq_true (decide (chkT g = 0) && hasR g.rs t)).symm with a2 | a2
 ·have e : costR g f t = none := by
   rw [costR, if_neg]; rintro ⟨h1, _, h2, _⟩; simp [h1, h2] at a2
  rw [e]
  simp -dsimp [a1]
  try refine ⟨?_, ⟨by kernel_rfl⟩⟩
  refine ACall.of h2 [] 0 ?_
  simp -dsimp [a2]
  try refine ⟨?_, ⟨by kernel_rfl⟩⟩
  refine Fin.of ?_
  simp [priceT]
 have ht : hasR g.rs t = true := by simp at a2; exact a2.2
 have hO := chkT_zero hc
 have h3 := to06_c g hO t
 have h4 := at06_c g hg (dist g t) (by rw [dist_len]; exact Nat.le_refl _) f
 have e3 : atR g (dist g t) f = dst g t f := rfl
 rw [e3] at h4
 simp only [topT, ints] at h3 h4
 simp -dsimp [a1]
 try refine ⟨?_, ⟨by kernel_rfl⟩⟩
 refine ACall.of h2 [] 0 ?_
 simp -dsimp [a2]
 try refine ⟨?_, ⟨by kernel_rfl⟩⟩
 refine ACall.of h3 [] 0 ?_
 simp -dsimp
 try refine ⟨?_, ⟨by kernel_rfl⟩⟩
 refine ACall.of h4 [] 0 ?_
 by_cases hd : dst g t f = 1073741824
 ·have e : costR g f t = none := by
   rw [costR, if_neg]; rintro ⟨_, _, _, h⟩; exact h hd
  rw [e]
  simp -dsimp [eq_true hd]
  try refine ⟨?_, ⟨by kernel_rfl⟩⟩
  refine Fin.of ?_
  simp [priceT]
 ·have e : costR g f t = some (dst g t f) := by rw [costR, if_pos ⟨hc, hf, ht, hd⟩]
  rw [e]
  simp -dsimp [eq_false hd]
  try refine ⟨?_, ⟨by kernel_rfl⟩⟩
  refine Fin.of ?_
  simp [priceT]
end Go.Proofs
