/-
  What functions of the program compute, stated as contracts over plain data; the conditions of each stand in its own statement.
-/
import Derived.Test.YteenclepbpajdaaGreatDoorM46
import Derived.Test.YteenclepbpajdaaGreatDoorM32
import Derived.Test.YteenclepbpajdaaGreatDoorM18
import Derived.Test.YteenclepbpajdaaGreatDoorM26
set_option linter.unusedSimpArgs false
set_option maxRecDepth 100000
set_option maxHeartbeats 8000000
namespace Go.Proofs
open Go Go.Tr
theorem gChL_tape : ∀ (es : List Ed) (T : Tp) (l : List Int), TapeOK (gChL es T l).2 = TapeOK T
 | [], _, _ => rfl
 | e :: es, T, l => by rw [gChL, gChL_tape es]; simp
theorem gCh0_tape (T : Tp) (p : Pn) : TapeOK (gCh T p 0).2 = TapeOK T := by
 unfold gCh
 simp [gChL_tape]
theorem isaves_law (L : List Int) (hL : ∀ x ∈ L, I64 x) : Contract Tryz.prog 3 [.d (ints L)] [] (.d (.bool true)) [] [] := by
 refine contract_of Tryz.func3 rfl (fun E0 => ?_)
 refine awp.sound (g := .mk) (ow := []) (kp := (fun k => k==0||k==2||k==3||k==4||k==5||k==6||k==7||k==8||k==9||k==10||k==11||k==12||k==13||k==53)) ?_
 rw [Tryz.ntmps3]
 simp -dsimp [ints]
 refine ACall.of (new_c L) [] 3000 ?_
 simp -dsimp [ints]
 have kT : TapeOK (L.take 600, 0) := tape_new L hL
 generalize (L.take 600, 0) = T0 at kT ⊢
 refine ACall.of (domain_c T0 kT 7 (by omega)) [.o 3010] 0 ?_
 obtain ⟨d1, d2, d3, d4, d5, d6⟩ := gDom_ok T0 (most := 7) (by omega)
 obtain ⟨hDV, hAC⟩ := gDom_valid T0 (most := 7) (by omega)
 have kD : TapeOK (gDom T0 7).2.2.2 := d3.symm ▸ kT
 clear d3
 generalize gDom T0 7 = D0 at d1 d2 d4 d5 d6 kD hDV hAC ⊢
 obtain ⟨g, p, X, T1⟩ := D0
 simp only at d1 d2 d4 d5 d6 kD hDV hAC
 have hsX : SmL X := ⟨by omega, fun b hb => chk_sm (d2 b hb)⟩
 have hc := hDV.top.ok
 have hO := chkT_zero hc
 simp -dsimp [topT, planT]
 try refine ⟨?_, ⟨by kernel_rfl⟩⟩
 refine ACall.of (router0_c T1 kD g.rs g.ls ⟨d5, by omega⟩) [.o 3010] 0 ?_
 have m1 := gNext_nonneg T1 g.rs.length
 have m2 := gNext_lt T1 (n := g.rs.length) (by omega)
 have kA : TapeOK (gNext T1 g.rs.length).2 := by simpa using kD
 generalize gNext T1 g.rs.length = A at m1 m2 kA ⊢
 obtain ⟨a, T2⟩ := A
 simp only at m1 m2 kA ⊢
 obtain ⟨j, rfl⟩ : ∃ j : Nat, a = j := ⟨a.toNat, by omega⟩
 have hj : j < g.rs.length := by omega
 have hx : g.rs.getD ((j : Int)).toNat ⟨0, false⟩ = g.rs[j] := by rw [List.getD_eq_getElem?_getD, show ((j : Int)).toNat = j by omega, List.getElem?_eq_getElem hj]; rfl
 rw [hx]
 have hxm : g.rs[j] ∈ g.rs := List.getElem_mem hj
 generalize g.rs[j] = x at hxm
 simp -dsimp [topT, planT]
 try refine ⟨?_, ⟨by kernel_rfl⟩⟩
 have hcho := choose_c T2 kA p (by omega) 0 (by omega)
 simp only [planT] at hcho
 refine ACall.of hcho [.o 3010] 0 ?_
 have kC : TapeOK (gCh T2 p 0).2 := by rw [gCh0_tape]; exact kA
 have hCl := gCh_len T2 p 0
 have hsub := gCh0_sub T2 p
 generalize gCh T2 p 0 = ids at kC hCl hsub ⊢
 obtain ⟨ids, T4⟩ := ids
 simp only at kC hCl hsub ⊢
 simp -dsimp [planT]
 try refine ⟨?_, ⟨by kernel_rfl⟩⟩
 refine ACall.of (template_c T4 kC) [.o 3010] 0 ?_
 have hTV := gTempl_valid T4
 have hTm := gTempl_mode T4
 have hTo := gTempl_pok T4
 generalize gTempl T4 = q at hTV hTm hTo ⊢
 obtain ⟨q, T5⟩ := q
 simp only at hTV hTm hTo ⊢
 have hp := hDV.plan
 have hcap := hAC.cap hO (rt_has hxm)
 have hX := hDV.tab
 obtain ⟨ts, hs1, hs2, hs3⟩ := saves_all hc hp hDV.subd hsub (sets_of hp hDV.len hsub) hTV hTm hTo (by omega) hcap
 rw [← hX] at hs1 hs3
 have hsnd := send_c X hsX p (by omega) x.id ids (by omega) q
 have huni := uni_c X hsX x.id ids (by omega) (plnP q)
 have hall := sendR_all X p x.id ids q
 have hlen := sendR_len X p x.id ids q
 rw [hs1] at hsnd hall hlen
 simp only at hall hlen
 have hcr := crossings_c ts (by omega) (fun t ht => (hall t ht).2.1)
 have hpln := plane03_c q
 simp only [pkT, Pk.cs, List.map, planT, sendT, bv] at hsnd hpln
 simp only [pkT, Pk.cs, List.map, bv]
 simp -dsimp [planT, topT, ints]
 try refine ⟨?_, ⟨by kernel_rfl⟩⟩
 refine ACall.of hsnd [] 0 ?_
 simp -dsimp [ints]
 try refine ⟨?_, ⟨by kernel_rfl⟩⟩
 refine ACall.of hpln [] 0 ?_
 simp -dsimp [ints]
 try refine ⟨?_, ⟨by kernel_rfl⟩⟩
 rcases hs3 with h9 | ⟨n, hn, hle⟩
 ·rw [h9] at huni
  simp only [uniT] at huni
  refine ACall.of huni [] 0 ?_
  simp -dsimp [ints]
  try refine ⟨?_, ⟨by kernel_rfl⟩⟩
  refine ACall.of awake_c [] 0 ?_
  simp -dsimp
  try refine ⟨?_, ⟨by kernel_rfl⟩⟩
  refine Fin.of ?_
  simp
 ·rw [hn] at huni
  simp only [uniT] at huni
  refine ACall.of huni [] 0 ?_
  simp -dsimp [ints]
  try refine ⟨?_, ⟨by kernel_rfl⟩⟩
  refine ACall.of hcr [] 0 ?_
  by_cases hi : ids = []
  ·simp -dsimp [hle, hi]
   try refine ⟨?_, ⟨by kernel_rfl⟩⟩
   refine ACall.of awake_c [] 0 ?_
   simp -dsimp
   try refine ⟨?_, ⟨by kernel_rfl⟩⟩
   refine Fin.of ?_
   simp
  ·simp -dsimp [hle, hi]
   try refine ⟨?_, ⟨by kernel_rfl⟩⟩
   refine ACall.of hcr [] 0 ?_
   simp -dsimp [hs2]
   try refine ⟨?_, ⟨by kernel_rfl⟩⟩
   refine ACall.of awake_c [] 0 ?_
   simp -dsimp
   try refine ⟨?_, ⟨by kernel_rfl⟩⟩
   refine Fin.of ?_
   simp
end Go.Proofs
