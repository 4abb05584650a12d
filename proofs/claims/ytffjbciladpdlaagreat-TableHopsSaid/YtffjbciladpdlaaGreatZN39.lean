/-
  What functions of the program compute, stated as contracts over plain data; the conditions of each stand in its own statement.
-/
import Derived.Test.YtffjbciladpdlaaGreatZN36
set_option linter.unusedSimpArgs false
set_option linter.unusedVariables false
set_option maxRecDepth 100000
set_option maxHeartbeats 16000000
namespace Go.Proofs
open Go Go.Tr
theorem hops_law (L : List Int) (hL : ∀ x ∈ L, I64 x) (x y : Int) : Contract Tryz.prog 4 [.d (ints L), .d (.int .i64 x), .d (.int .i64 y)] [] (.d (.bool true)) [] [] := by
 refine contract_of Tryz.func4 rfl (fun E0 => ?_)
 refine awp.sound (g := .mk) (ow := []) (kp := (fun k => k==0||k==1||k==2||k==6||k==7||k==8||k==9||k==10||k==16)) ?_
 rw [Tryz.ntmps4]
 simp -dsimp [ints]
 refine ACall.of (new_c L) [] 3000 ?_
 simp -dsimp [ints]
 have kT : TapeOK (L.take 600, 0) := tape_new L hL
 generalize (L.take 600, 0) = T0 at kT ⊢
 try refine ⟨rfl, ?_⟩
 refine ACall.of (mixed_c T0 kT 7 (by omega)) [.o 3010] 0 ?_
 have f0 := gMix_fit T0 (most := 7) (by omega)
 have k1 : TapeOK (gMix T0 7).2 := by simpa using kT
 generalize gMix T0 7 = G at f0 k1 ⊢
 obtain ⟨g0, T1⟩ := G
 simp only at f0 k1 ⊢
 simp -dsimp [topT]
 refine ACall.of (one_c T1 k1 6 ⟨by omega, by omega⟩ ⟨by omega, by omega⟩) [.o 3010] 0 ?_
 have k2 : TapeOK (gOne T1 6).2 := by simpa using k1
 generalize gOne T1 6 = o at k2 ⊢
 obtain ⟨ob, T2⟩ := o
 simp only at k2 ⊢
 rcases (Bool.eq_false_or_eq_true ob).symm with hob | hob
 ·subst hob
  simp -dsimp
  try and_intros
  all_goals try first | rfl | omega | exact ⟨by kernel_rfl⟩
  obtain ⟨g, hg, hf⟩ : ∃ g, g = g0 ∧ g.Fit := ⟨_, rfl, f0⟩
  obtain ⟨T, hT, kk⟩ : ∃ T, T = T2 ∧ TapeOK T := ⟨_, rfl, k2⟩
  rw [← hg, ← hT]
  clear hg hT
  have r1 := hf.r1
  have r2 := hf.r2
  have hs := hf.sm
  refine ACall.of (router_c T kk g.rs g.ls (by omega) 6 (by omega)) [.o 3010] 0 ?_
  have ka : TapeOK (gRouter T g.rs 6).2 := by rw [gRouter_ok]; exact kk
  generalize gRouter T g.rs 6 = A at ka ⊢
  obtain ⟨a, Ta⟩ := A
  simp only at ka ⊢
  simp -dsimp
  refine ACall.of (router_c Ta ka g.rs g.ls (by omega) 6 (by omega)) [.o 3010] 0 ?_
  generalize gRouter Ta g.rs 6 = B
  obtain ⟨b, Tb⟩ := B
  have t1 := tHops_c g hs a b
  have t2 := hops11_c g hs a b
  have t3 := ints04_c (hops g a b) (hops g a b) (by have := hops_le g a b; omega)
  have t4 := tHops_c g hs x y
  have t5 := hops11_c g hs x y
  have t6 := ints04_c (hops g x y) (hops g x y) (by have := hops_le g x y; omega)
  generalize hops g a b = h1 at t1 t2 t3
  generalize hops g x y = h2 at t4 t5 t6
  simp only [topT] at t1 t2 t4 t5
  rw [decide_eq_true rfl] at t3 t6
  simp -dsimp
  refine ⟨?_, ⟨by kernel_rfl⟩⟩
  refine ACall.of t1 [] 0 ?_
  simp -dsimp
  refine ACall.of t2 [] 0 ?_
  simp -dsimp
  refine ACall.of t3 [] 0 ?_
  simp -dsimp
  refine ACall.of t4 [] 0 ?_
  simp -dsimp
  refine ACall.of t5 [] 0 ?_
  simp -dsimp
  refine ACall.of t6 [] 0 ?_
  simp -dsimp
  refine ACall.of awake11_c [] 0 ?_
  simp -dsimp
  and_intros
  all_goals try first | rfl | omega | exact ⟨by kernel_rfl⟩
  refine Fin.of ?_
  simp
 ·subst hob
  simp -dsimp
  refine ACall.of (topoM_c T2 k2 6 (by omega) 2 (by omega)) [.o 3010] 0 ?_
  obtain ⟨f1, e1⟩ := gTopM_fit T2 (most := 6) (by omega) 2
  have k3 : TapeOK (gTopM T2 6 2).2 := e1 ▸ k2
  generalize gTopM T2 6 2 = G at f1 k3 ⊢
  obtain ⟨g, T⟩ := G
  simp only at f1 k3 ⊢
  simp -dsimp [topT]
  have hf := f1
  have kk := k3
  have r1 := hf.r1
  have r2 := hf.r2
  have hs := hf.sm
  refine ACall.of (router_c T kk g.rs g.ls (by omega) 6 (by omega)) [.o 3010] 0 ?_
  have ka : TapeOK (gRouter T g.rs 6).2 := by rw [gRouter_ok]; exact kk
  generalize gRouter T g.rs 6 = A at ka ⊢
  obtain ⟨a, Ta⟩ := A
  simp only at ka ⊢
  simp -dsimp
  refine ACall.of (router_c Ta ka g.rs g.ls (by omega) 6 (by omega)) [.o 3010] 0 ?_
  generalize gRouter Ta g.rs 6 = B
  obtain ⟨b, Tb⟩ := B
  have t1 := tHops_c g hs a b
  have t2 := hops11_c g hs a b
  have t3 := ints04_c (hops g a b) (hops g a b) (by have := hops_le g a b; omega)
  have t4 := tHops_c g hs x y
  have t5 := hops11_c g hs x y
  have t6 := ints04_c (hops g x y) (hops g x y) (by have := hops_le g x y; omega)
  generalize hops g a b = h1 at t1 t2 t3
  generalize hops g x y = h2 at t4 t5 t6
  simp only [topT] at t1 t2 t4 t5
  rw [decide_eq_true rfl] at t3 t6
  simp -dsimp
  refine ⟨?_, ⟨by kernel_rfl⟩⟩
  refine ACall.of t1 [] 0 ?_
  simp -dsimp
  refine ACall.of t2 [] 0 ?_
  simp -dsimp
  refine ACall.of t3 [] 0 ?_
  simp -dsimp
  refine ACall.of t4 [] 0 ?_
  simp -dsimp
  refine ACall.of t5 [] 0 ?_
  simp -dsimp
  refine ACall.of t6 [] 0 ?_
  simp -dsimp
  refine ACall.of awake11_c [] 0 ?_
  simp -dsimp
  and_intros
  all_goals try first | rfl | omega | exact ⟨by kernel_rfl⟩
  refine Fin.of ?_
  simp
end Go.Proofs
