/-
  What functions of the program compute, stated as contracts over plain data; the conditions of each stand in its own statement.
-/
import Derived.Test.YtffjbciladpdlaaGreatZN36
import Derived.Test.YtffjbciladpdlaaGreatZN34
import Derived.Test.YtffjbciladpdlaaGreatZN35
set_option linter.unusedSimpArgs false
set_option linter.unusedVariables false
set_option maxRecDepth 100000
set_option maxHeartbeats 16000000
namespace Go.Proofs
open Go Go.Tr
theorem all11_smL (g : Topo) (p : Pn) : SmL (all11 g p).1 :=
 ⟨by have := all11_len g p; omega, fun b hb => by
  have h := chk_parts (all11_ok g p b hb)
  exact ⟨by have := h.2.1; omega, fun x hx => by have := h.2.2.1 x hx; omega⟩⟩
theorem all11_chkA (g : Topo) (p : Pn) : (all11 g p).2 = 0 → chkA (all11 g p).1 = 0 := by
 unfold all11
 split
 ·rename_i h
  intro _
  exact tabs_all h.1 h.2
 ·intro h; simp at h
theorem all_law (L : List Int) (hL : ∀ x ∈ L, I64 x) : Contract Tryz.prog 7 [.d (ints L)] [] (.d (.bool true)) [] [] := by
 refine contract_of Tryz.func7 rfl (fun E0 => ?_)
 refine awp.sound (g := .mk) (ow := []) (kp := (fun k => k==0||k==2||k==3||k==4||k==5||k==6||k==7||k==8||k==9||k==15)) ?_
 rw [Tryz.ntmps7]
 simp -dsimp [ints]
 refine ACall.of (new_c L) [] 3000 ?_
 simp -dsimp [ints]
 have kT : TapeOK (L.take 600, 0) := tape_new L hL
 generalize (L.take 600, 0) = T0 at kT ⊢
 try refine ⟨rfl, ?_⟩
 refine ACall.of (mixed_c T0 kT 6 (by omega)) [.o 3010] 0 ?_
 have f0 := gMix_fit T0 (most := 6) (by omega)
 have k1 : TapeOK (gMix T0 6).2 := by simpa using kT
 generalize gMix T0 6 = G at f0 k1 ⊢
 obtain ⟨g0, T1⟩ := G
 simp only at f0 k1 ⊢
 simp -dsimp [topT]
 refine ACall.of (one_c T1 k1 6 ⟨by omega, by omega⟩ ⟨by omega, by omega⟩) [.o 3010] 0 ?_
 have k2 : TapeOK (gOne T1 6).2 := by simpa using k1
 generalize gOne T1 6 = o at k2 ⊢
 obtain ⟨ob, T2⟩ := o
 simp only at k2 ⊢
 rcases (Bool.eq_false_or_eq_true ob).symm with hob | hob
 ·subst hob
  simp -dsimp
  try and_intros
  all_goals try first | rfl | omega | exact ⟨by kernel_rfl⟩
  obtain ⟨g, hg, hf⟩ : ∃ g, g = g0 ∧ g.Fit := ⟨_, rfl, f0⟩
  obtain ⟨T, hT, kk⟩ : ∃ T, T = T2 ∧ TapeOK T := ⟨_, rfl, k2⟩
  rw [← hg, ← hT]
  clear hg hT
  have r1 := hf.r1
  have r2 := hf.r2
  have hs := hf.sm
  refine ACall.of (plan_c T kk g.rs g.ls (by omega) 6 (by omega)) [.o 3010] 0 ?_
  have kp : TapeOK (gPlan T g.rs 6).2 := by simpa using kk
  have pl := gPlan_len T g.rs 6
  generalize gPlan T g.rs 6 = P at kp pl ⊢
  obtain ⟨p, Tp1⟩ := P
  simp only at kp pl ⊢
  have hpl : p.es.length ≤ 1000 := by omega
  have d1 := tall_c g hs p hpl
  have d2 := all11_c g hs p hpl
  have hsl := all11_smL g p
  have d3 := sameAll11_c (all11 g p).1 (all11 g p).1 hsl
  rw [sameTs_t rfl] at d3
  have d4 := checkA_c (all11 g p).1 hsl
  have hok : (all11 g p).2 = 0 → chkA (all11 g p).1 = 0 := all11_chkA g p
  generalize all11 g p = Y at d1 d2 d3 d4 hok hsl
  obtain ⟨yl, ye⟩ := Y
  simp only at d1 d2 d3 d4 hok hsl
  have eT : yl.map Tb.cs = tbs yl := rfl
  simp only [topT, planT, allT, eT] at d1 d2
  simp -dsimp [planT]
  refine ACall.of d1 [] 0 ?_
  simp -dsimp
  refine ACall.of d2 [] 0 ?_
  simp -dsimp
  refine ACall.of d3 [] 0 ?_
  by_cases he : ye = 0
  ·rw [hok he] at d4
   simp -dsimp [he]
   refine ACall.of d4 [] 0 ?_
   simp -dsimp
   refine ACall.of awake11_c [] 0 ?_
   simp -dsimp
   and_intros
   all_goals try first | rfl | omega | exact ⟨by kernel_rfl⟩
   refine Fin.of ?_
   simp
  ·simp -dsimp [he]
   refine ACall.of awake11_c [] 0 ?_
   simp -dsimp
   and_intros
   all_goals try first | rfl | omega | exact ⟨by kernel_rfl⟩
   refine Fin.of ?_
   simp
 ·subst hob
  simp -dsimp
  refine ACall.of (topoM_c T2 k2 6 (by omega) 2 (by omega)) [.o 3010] 0 ?_
  obtain ⟨f1, e1⟩ := gTopM_fit T2 (most := 6) (by omega) 2
  have k3 : TapeOK (gTopM T2 6 2).2 := e1 ▸ k2
  generalize gTopM T2 6 2 = G at f1 k3 ⊢
  obtain ⟨g, T⟩ := G
  simp only at f1 k3 ⊢
  simp -dsimp [topT]
  have hf := f1
  have kk := k3
  have r1 := hf.r1
  have r2 := hf.r2
  have hs := hf.sm
  refine ACall.of (plan_c T kk g.rs g.ls (by omega) 6 (by omega)) [.o 3010] 0 ?_
  have kp : TapeOK (gPlan T g.rs 6).2 := by simpa using kk
  have pl := gPlan_len T g.rs 6
  generalize gPlan T g.rs 6 = P at kp pl ⊢
  obtain ⟨p, Tp1⟩ := P
  simp only at kp pl ⊢
  have hpl : p.es.length ≤ 1000 := by omega
  have d1 := tall_c g hs p hpl
  have d2 := all11_c g hs p hpl
  have hsl := all11_smL g p
  have d3 := sameAll11_c (all11 g p).1 (all11 g p).1 hsl
  rw [sameTs_t rfl] at d3
  have d4 := checkA_c (all11 g p).1 hsl
  have hok : (all11 g p).2 = 0 → chkA (all11 g p).1 = 0 := all11_chkA g p
  generalize all11 g p = Y at d1 d2 d3 d4 hok hsl
  obtain ⟨yl, ye⟩ := Y
  simp only at d1 d2 d3 d4 hok hsl
  have eT : yl.map Tb.cs = tbs yl := rfl
  simp only [topT, planT, allT, eT] at d1 d2
  simp -dsimp [planT]
  refine ACall.of d1 [] 0 ?_
  simp -dsimp
  refine ACall.of d2 [] 0 ?_
  simp -dsimp
  refine ACall.of d3 [] 0 ?_
  by_cases he : ye = 0
  ·rw [hok he] at d4
   simp -dsimp [he]
   refine ACall.of d4 [] 0 ?_
   simp -dsimp
   refine ACall.of awake11_c [] 0 ?_
   simp -dsimp
   and_intros
   all_goals try first | rfl | omega | exact ⟨by kernel_rfl⟩
   refine Fin.of ?_
   simp
  ·simp -dsimp [he]
   refine ACall.of awake11_c [] 0 ?_
   simp -dsimp
   and_intros
   all_goals try first | rfl | omega | exact ⟨by kernel_rfl⟩
   refine Fin.of ?_
   simp
end Go.Proofs
