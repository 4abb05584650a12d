/-
  What functions of the program compute, stated as contracts over plain data; the conditions of each stand in its own statement.
-/
import Derived.Test.YtffjbciladpdlaaGreatZN36
import Derived.Test.YtffjbciladpdlaaGreatZN34
import Derived.Test.YtffjbciladpdlaaGreatZN35
set_option linter.unusedSimpArgs false
set_option linter.unusedVariables false
set_option maxRecDepth 100000
set_option maxHeartbeats 16000000
namespace Go.Proofs
open Go Go.Tr
theorem bldR_sm (g : Topo) (p : Pn) (r : Int) : (bldR g p r).1.Sm := by
 have h0 : tb0.Sm := ⟨by simp [tb0], by simp [tb0]⟩
 unfold bldR
 split
 ·rename_i hc
  split
  ·rename_i hr
   split
   ·have h := chk_parts (buildT_ok hc.1 hc.2 hr)
    show (buildT g p r).Sm
    exact ⟨by have := h.2.1; omega, fun x hx => by have := h.2.2.1 x hx; omega⟩
   ·exact h0
  ·exact h0
 ·exact h0
theorem builds_law (L : List Int) (hL : ∀ x ∈ L, I64 x) (r : Int) : Contract Tryz.prog 3 [.d (ints L), .d (.int .i64 r)] [] (.d (.bool true)) [] [] := by
 refine contract_of Tryz.func3 rfl (fun E0 => ?_)
 refine awp.sound (g := .mk) (ow := []) (kp := (fun k => k==0||k==1||k==4||k==5||k==6||k==7||k==8||k==9||k==10||k==11||k==12||k==13||k==19||k==36||k==67)) ?_
 rw [Tryz.ntmps3]
 simp -dsimp [ints]
 refine ACall.of (new_c L) [] 3000 ?_
 simp -dsimp [ints]
 have kT : TapeOK (L.take 600, 0) := tape_new L hL
 generalize (L.take 600, 0) = T0 at kT ⊢
 try refine ⟨rfl, ?_⟩
 refine ACall.of (mixed_c T0 kT 7 (by omega)) [.o 3010] 0 ?_
 have f0 := gMix_fit T0 (most := 7) (by omega)
 have k1 : TapeOK (gMix T0 7).2 := by simpa using kT
 generalize gMix T0 7 = G at f0 k1 ⊢
 obtain ⟨g0, T1⟩ := G
 simp only at f0 k1 ⊢
 simp -dsimp [topT]
 refine ACall.of (one_c T1 k1 6 ⟨by omega, by omega⟩ ⟨by omega, by omega⟩) [.o 3010] 0 ?_
 have k2 : TapeOK (gOne T1 6).2 := by simpa using k1
 generalize gOne T1 6 = o at k2 ⊢
 obtain ⟨ob, T2⟩ := o
 simp only at k2 ⊢
 rcases (Bool.eq_false_or_eq_true ob).symm with hob | hob
 ·subst hob
  simp -dsimp
  try and_intros
  all_goals try first | rfl | omega | exact ⟨by kernel_rfl⟩
  obtain ⟨g, hg, hf⟩ : ∃ g, g = g0 ∧ g.Fit := ⟨_, rfl, f0⟩
  obtain ⟨T, hT, kk⟩ : ∃ T, T = T2 ∧ TapeOK T := ⟨_, rfl, k2⟩
  rw [← hg, ← hT]
  clear hg hT
  have r1 := hf.r1
  have r2 := hf.r2
  have hs := hf.sm
  refine ACall.of (plan_c T kk g.rs g.ls (by omega) 6 (by omega)) [.o 3010] 0 ?_
  have kp : TapeOK (gPlan T g.rs 6).2 := by simpa using kk
  have pl := gPlan_len T g.rs 6
  generalize gPlan T g.rs 6 = P at kp pl ⊢
  obtain ⟨p, Tp1⟩ := P
  simp only at kp pl ⊢
  have hpl : p.es.length ≤ 1000 := by omega
  simp -dsimp [planT]
  refine ACall.of (router_c Tp1 kp g.rs g.ls (by omega) 6 (by omega)) [.o 3010] 0 ?_
  have ka : TapeOK (gRouter Tp1 g.rs 6).2 := by rw [gRouter_ok]; exact kp
  generalize gRouter Tp1 g.rs 6 = A at ka ⊢
  obtain ⟨a, Ta⟩ := A
  simp only at ka ⊢
  simp -dsimp
  refine ACall.of (router0_c Ta ka g.rs g.ls (by omega)) [.o 3010] 0 ?_
  generalize (g.rs.getD (gNext Ta g.rs.length).1.toNat ⟨0, false⟩).id = b
  generalize (gNext Ta g.rs.length).2 = Tb1
  simp -dsimp
  try and_intros
  all_goals try first | rfl | omega | exact ⟨by kernel_rfl⟩
  obtain ⟨R, hR, hRl⟩ : ∃ R, R = [r, a, b] ∧ R.length = 3 := ⟨_, rfl, rfl⟩
  refine ALoop.of [] (fun k => k==0||k==1||k==4||k==5||k==6||k==7||k==8||k==9||k==10||k==11||k==12||k==13||k==19||k==36||k==67) (ι := { i : Nat // i ≤ 3 })
   (fun z => [(Pl.s 4, It.v (.d (.bool false))), (Pl.o 6, It.box [.d (.sl (rts g.rs)), .d (.sl (lks g.ls))]), (Pl.s 6, It.v (.ptr (.o 6) 0)), (Pl.o 7, It.box [.d (.int .i64 p.subd), .d (.int .i64 p.len), .d (.sl (eds p.es))]), (Pl.s 7, It.v (.ptr (.o 7) 0)),
    (Pl.s 8, It.v (.d (ints R))), (Pl.s 9, It.v (.d (.int .i64 z.1)))])
   (fun z => 3 - z.1) ⟨0, by omega⟩ ?_ ?_
  ·skip
   exact GS.to (by simp [hR, ints])
  ·rintro ⟨i, i1⟩
   by_cases hi : i < 3
   ·have hiz : (i : Int) < 3 := by omega
    have hz : R[i]? = some (R[i]'(by omega)) := List.getElem?_eq_getElem (by omega)
    generalize R[i]'(by omega) = q at hz
    have hz' : (R.map fun n => [D.int .i64 n])[i]? = some [.int .i64 q] := by simp [hz]
    have d1 := tbuildT_c g hs p hpl q
    have d2 := build11T_c g hs p hpl q
    have d3 := same11_c (bldR g p q).1 (bldR g p q).1 (bldR_sm g p q)
    rw [sameTB_t rfl] at d3
    generalize bldR g p q = Y at d1 d2 d3
    obtain ⟨yt, ye⟩ := Y
    simp only [topT, planT, bldT, tblT, rwsD_eq] at d1 d2 d3
    have w2 : IntKind.i64.wrap ((i : Int) + 1) = (i : Int) + 1 := wrap_i64 (by omega) (by omega)
    simp -dsimp [hiz, hRl, hz', hz, ints]
    and_intros
    all_goals try first | omega | exact ⟨by kernel_rfl⟩ | rfl
    refine ACall.of d1 [] 0 ?_
    simp -dsimp [hiz, hRl, hz', hz, ints]
    and_intros
    all_goals try first | omega | exact ⟨by kernel_rfl⟩ | rfl
    refine ACall.of d2 [] 0 ?_
    simp -dsimp [ints]
    try and_intros
    all_goals try first | omega | exact ⟨by kernel_rfl⟩ | rfl
    refine ACall.of d3 [] 0 ?_
    simp -dsimp [w2]
    and_intros
    all_goals try first | omega | exact ⟨by kernel_rfl⟩ | rfl
    exact ⟨⟨i + 1, by omega⟩, GS.to (by simp [ints]), by simp; omega⟩
   ·have hiz : ¬ (i : Int) < 3 := by omega
    simp -dsimp [hiz, hRl, ints]
    try and_intros
    all_goals try first | omega | exact ⟨by kernel_rfl⟩ | rfl
    refine ACall.of awake11_c [] 0 ?_
    simp -dsimp
    and_intros
    all_goals try first | rfl | omega | exact ⟨by kernel_rfl⟩
    refine Fin.of ?_
    simp
 ·subst hob
  simp -dsimp
  refine ACall.of (topoM_c T2 k2 6 (by omega) 2 (by omega)) [.o 3010] 0 ?_
  obtain ⟨f1, e1⟩ := gTopM_fit T2 (most := 6) (by omega) 2
  have k3 : TapeOK (gTopM T2 6 2).2 := e1 ▸ k2
  generalize gTopM T2 6 2 = G at f1 k3 ⊢
  obtain ⟨g, T⟩ := G
  simp only at f1 k3 ⊢
  simp -dsimp [topT]
  have hf := f1
  have kk := k3
  have r1 := hf.r1
  have r2 := hf.r2
  have hs := hf.sm
  refine ACall.of (plan_c T kk g.rs g.ls (by omega) 6 (by omega)) [.o 3010] 0 ?_
  have kp : TapeOK (gPlan T g.rs 6).2 := by simpa using kk
  have pl := gPlan_len T g.rs 6
  generalize gPlan T g.rs 6 = P at kp pl ⊢
  obtain ⟨p, Tp1⟩ := P
  simp only at kp pl ⊢
  have hpl : p.es.length ≤ 1000 := by omega
  simp -dsimp [planT]
  refine ACall.of (router_c Tp1 kp g.rs g.ls (by omega) 6 (by omega)) [.o 3010] 0 ?_
  have ka : TapeOK (gRouter Tp1 g.rs 6).2 := by rw [gRouter_ok]; exact kp
  generalize gRouter Tp1 g.rs 6 = A at ka ⊢
  obtain ⟨a, Ta⟩ := A
  simp only at ka ⊢
  simp -dsimp
  refine ACall.of (router0_c Ta ka g.rs g.ls (by omega)) [.o 3010] 0 ?_
  generalize (g.rs.getD (gNext Ta g.rs.length).1.toNat ⟨0, false⟩).id = b
  generalize (gNext Ta g.rs.length).2 = Tb1
  simp -dsimp
  try and_intros
  all_goals try first | rfl | omega | exact ⟨by kernel_rfl⟩
  obtain ⟨R, hR, hRl⟩ : ∃ R, R = [r, a, b] ∧ R.length = 3 := ⟨_, rfl, rfl⟩
  refine ALoop.of [] (fun k => k==0||k==1||k==4||k==5||k==6||k==7||k==8||k==9||k==10||k==11||k==12||k==13||k==19||k==36||k==67) (ι := { i : Nat // i ≤ 3 })
   (fun z => [(Pl.s 4, It.v (.d (.bool false))), (Pl.o 6, It.box [.d (.sl (rts g.rs)), .d (.sl (lks g.ls))]), (Pl.s 6, It.v (.ptr (.o 6) 0)), (Pl.o 7, It.box [.d (.int .i64 p.subd), .d (.int .i64 p.len), .d (.sl (eds p.es))]), (Pl.s 7, It.v (.ptr (.o 7) 0)),
    (Pl.s 8, It.v (.d (ints R))), (Pl.s 9, It.v (.d (.int .i64 z.1)))])
   (fun z => 3 - z.1) ⟨0, by omega⟩ ?_ ?_
  ·skip
   exact GS.to (by simp [hR, ints])
  ·rintro ⟨i, i1⟩
   by_cases hi : i < 3
   ·have hiz : (i : Int) < 3 := by omega
    have hz : R[i]? = some (R[i]'(by omega)) := List.getElem?_eq_getElem (by omega)
    generalize R[i]'(by omega) = q at hz
    have hz' : (R.map fun n => [D.int .i64 n])[i]? = some [.int .i64 q] := by simp [hz]
    have d1 := tbuildT_c g hs p hpl q
    have d2 := build11T_c g hs p hpl q
    have d3 := same11_c (bldR g p q).1 (bldR g p q).1 (bldR_sm g p q)
    rw [sameTB_t rfl] at d3
    generalize bldR g p q = Y at d1 d2 d3
    obtain ⟨yt, ye⟩ := Y
    simp only [topT, planT, bldT, tblT, rwsD_eq] at d1 d2 d3
    have w2 : IntKind.i64.wrap ((i : Int) + 1) = (i : Int) + 1 := wrap_i64 (by omega) (by omega)
    simp -dsimp [hiz, hRl, hz', hz, ints]
    and_intros
    all_goals try first | omega | exact ⟨by kernel_rfl⟩ | rfl
    refine ACall.of d1 [] 0 ?_
    simp -dsimp [hiz, hRl, hz', hz, ints]
    and_intros
    all_goals try first | omega | exact ⟨by kernel_rfl⟩ | rfl
    refine ACall.of d2 [] 0 ?_
    simp -dsimp [ints]
    try and_intros
    all_goals try first | omega | exact ⟨by kernel_rfl⟩ | rfl
    refine ACall.of d3 [] 0 ?_
    simp -dsimp [w2]
    and_intros
    all_goals try first | omega | exact ⟨by kernel_rfl⟩ | rfl
    exact ⟨⟨i + 1, by omega⟩, GS.to (by simp [ints]), by simp; omega⟩
   ·have hiz : ¬ (i : Int) < 3 := by omega
    simp -dsimp [hiz, hRl, ints]
    try and_intros
    all_goals try first | omega | exact ⟨by kernel_rfl⟩ | rfl
    refine ACall.of awake11_c [] 0 ?_
    simp -dsimp
    and_intros
    all_goals try first | rfl | omega | exact ⟨by kernel_rfl⟩
    refine Fin.of ?_
    simp
end Go.Proofs
