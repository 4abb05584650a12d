/-
  What functions of the program compute, stated as contracts over plain data; the conditions of each stand in its own statement.
-/
import Derived.Test.YtjgeggdefiejbaaGreatDoorM39
import Derived.Test.YtjgeggdefiejbaaGreatDoorM31
set_option linter.unusedSimpArgs false
set_option maxRecDepth 100000
set_option maxHeartbeats 8000000
namespace Go.Proofs
open Go Go.Tr
theorem ssame_law (L : List Int) (hL : ∀ x ∈ L, I64 x) : Contract Tryz.prog 11 [.d (ints L)] [] (.d (.bool true)) [] [] := by
 refine contract_of Tryz.func11 rfl (fun E0 => ?_)
 refine awp.sound (g := .mk) (ow := []) (kp := (fun k => k==0||k==2||k==3||k==4||k==5||k==6||k==7||k==8||k==9||k==29||k==34)) ?_
 rw [Tryz.ntmps11]
 simp -dsimp [ints]
 refine ACall.of (new_c L) [] 3000 ?_
 simp -dsimp [ints]
 have kT : TapeOK (L.take 600, 0) := tape_new L hL
 generalize (L.take 600, 0) = T0 at kT ⊢
 refine ACall.of (domainO_c T0 kT 5 (by omega)) [.o 3010] 2000 ?_
 obtain ⟨d1, d2, d3, d4, d5, d6⟩ := gDom_ok T0 (most := 5) (by omega)
 have hDV := (gDom_valid T0 (most := 5) (by omega)).1
 have kD : TapeOK (gDom T0 5).2.2.2 := d3.symm ▸ kT
 clear d3
 generalize gDom T0 5 = D0 at d1 d2 d4 d5 d6 kD hDV ⊢
 obtain ⟨g, p, X, T1⟩ := D0
 simp only at d1 d2 d4 d5 d6 kD hDV
 have hlen := hDV.len
 have hl0 : p.len ≠ 0 := fun e => by rw [e] at hlen; simp [validLen] at hlen
 have hlI : I64 p.len := by simp [validLen] at hlen; unfold I64; omega
 have hsX : SmL X := ⟨by omega, fun b hb => chk_sm (d2 b hb)⟩
 simp -dsimp [topT, planT]
 try refine ⟨?_, ⟨by kernel_rfl⟩⟩
 refine ACall.view [6] ?_
 simp -dsimp [topT, planT]
 refine ACall.of (for_c T1 kD p (by omega) hl0 hlI) [.o 3010] 0 ?_
 have kF : TapeOK (gFor T1 p).2 := by rw [gFor_ok]; exact kD
 generalize gFor T1 p = F at kF ⊢
 obtain ⟨q, T2⟩ := F
 simp only at kF ⊢
 simp only [pkT, Pk.cs, List.map]
 simp -dsimp [planT]
 refine ACall.of (next_c T2 kF 1024 ⟨by omega, by omega⟩) [.o 3010] 0 ?_
 have kN : TapeOK (gNext T2 1024).2 := by simpa using kF
 generalize gNext T2 1024 = N at kN ⊢
 obtain ⟨n, T3⟩ := N
 simp only at kN ⊢
 simp -dsimp
 refine ACall.of (text_c T3 kN 3 (by omega)) [.o 3010] 0 ?_
 have kX : TapeOK (gText T3 3).2 := by simpa using kN
 generalize gText T3 3 = x at kX ⊢
 obtain ⟨x, T4⟩ := x
 simp only at kX ⊢
 simp -dsimp
 refine ACall.of (one_c T4 kX 4 ⟨by omega, by omega⟩ ⟨by omega, by omega⟩) [.o 3010] 0 ?_
 have kO : TapeOK (gOne T4 4).2 := by simpa using kX
 generalize gOne T4 4 = o at kO ⊢
 obtain ⟨o, T5⟩ := o
 simp only at kO ⊢
 rcases (Bool.eq_false_or_eq_true o).symm with rfl | rfl
 ·as_aux_lemma =>
  simp -dsimp
  refine ACall.of (one_c T5 kO 4 ⟨by omega, by omega⟩ ⟨by omega, by omega⟩) [.o 3010] 0 ?_
  have kO2 : TapeOK (gOne T5 4).2 := by simpa using kO
  generalize gOne T5 4 = o2 at kO2 ⊢
  obtain ⟨o2, T7⟩ := o2
  simp only at kO2 ⊢
  rcases (Bool.eq_false_or_eq_true o2).symm with rfl | rfl
  ·as_aux_lemma =>
   simp -dsimp [topT, bv]
   refine ACall.of (router_c T7 kO2 g.rs g.ls ⟨d5, by omega⟩ 8 (by omega)) [.o 3010] 0 ?_
   generalize gRouter T7 g.rs 8 = A
   obtain ⟨A, T9⟩ := A
   have h1 := same_c X hsX A q (⟨q.mode, q.subd, q.set, q.len, q.ttl, n, q.ing, q.proto, q.bits, strOf x⟩ : Pk)
   have h2 := same15_c X hsX A q (⟨q.mode, q.subd, q.set, q.len, q.ttl, n, q.ing, q.proto, q.bits, strOf x⟩ : Pk)
   have h3 := same_c X hsX A q q
   have h4 := same15_c X hsX A q q
   generalize sameV X A q (⟨q.mode, q.subd, q.set, q.len, q.ttl, n, q.ing, q.proto, q.bits, strOf x⟩ : Pk) = u at h1 h2
   generalize sameV X A q q = v at h3 h4
   simp only [pkT, Pk.cs, List.map, bv] at h1 h2 h3 h4
   simp -dsimp [bv]
   and_intros
   all_goals try first | omega | exact ⟨by kernel_rfl⟩ | rfl
   refine ACall.of h1 [] 0 ?_
   simp -dsimp [bv]
   and_intros
   all_goals try first | omega | exact ⟨by kernel_rfl⟩ | rfl
   refine ACall.of h2 [] 0 ?_
   simp -dsimp [bv]
   and_intros
   all_goals try first | omega | exact ⟨by kernel_rfl⟩ | rfl
   refine ACall.of h3 [] 0 ?_
   simp -dsimp [bv]
   and_intros
   all_goals try first | omega | exact ⟨by kernel_rfl⟩ | rfl
   refine ACall.of h4 [] 0 ?_
   simp -dsimp [bv]
   and_intros
   all_goals try first | omega | exact ⟨by kernel_rfl⟩ | rfl
   refine ACall.of awake15_c [] 0 ?_
   simp -dsimp
   and_intros
   all_goals try first | omega | exact ⟨by kernel_rfl⟩ | rfl
   refine Fin.of ?_
   simp
  ·as_aux_lemma =>
   simp -dsimp [bv]
   refine ACall.of (bits_c T7 kO2 64 ⟨by omega, by omega⟩) [.o 3010] 0 ?_
   have kB : TapeOK (gBits T7 64).2 := by simpa using kO2
   generalize gBits T7 64 = B at kB ⊢
   obtain ⟨B, T8⟩ := B
   simp only at kB ⊢
   simp -dsimp [topT, bv]
   and_intros
   all_goals try first | omega | exact ⟨by kernel_rfl⟩ | rfl
   refine ACall.of (router_c T8 kB g.rs g.ls ⟨d5, by omega⟩ 8 (by omega)) [.o 3010] 0 ?_
   generalize gRouter T8 g.rs 8 = A
   obtain ⟨A, T9⟩ := A
   have h1 := same_c X hsX A q (⟨q.mode, q.subd, q.set, q.len, q.ttl, n, q.ing, q.proto, (q.bits &&& B), strOf x⟩ : Pk)
   have h2 := same15_c X hsX A q (⟨q.mode, q.subd, q.set, q.len, q.ttl, n, q.ing, q.proto, (q.bits &&& B), strOf x⟩ : Pk)
   have h3 := same_c X hsX A q q
   have h4 := same15_c X hsX A q q
   generalize sameV X A q (⟨q.mode, q.subd, q.set, q.len, q.ttl, n, q.ing, q.proto, (q.bits &&& B), strOf x⟩ : Pk) = u at h1 h2
   generalize sameV X A q q = v at h3 h4
   simp only [pkT, Pk.cs, List.map, bv] at h1 h2 h3 h4
   simp -dsimp [bv]
   and_intros
   all_goals try first | omega | exact ⟨by kernel_rfl⟩ | rfl
   refine ACall.of h1 [] 0 ?_
   simp -dsimp [bv]
   and_intros
   all_goals try first | omega | exact ⟨by kernel_rfl⟩ | rfl
   refine ACall.of h2 [] 0 ?_
   simp -dsimp [bv]
   and_intros
   all_goals try first | omega | exact ⟨by kernel_rfl⟩ | rfl
   refine ACall.of h3 [] 0 ?_
   simp -dsimp [bv]
   and_intros
   all_goals try first | omega | exact ⟨by kernel_rfl⟩ | rfl
   refine ACall.of h4 [] 0 ?_
   simp -dsimp [bv]
   and_intros
   all_goals try first | omega | exact ⟨by kernel_rfl⟩ | rfl
   refine ACall.of awake15_c [] 0 ?_
   simp -dsimp
   and_intros
   all_goals try first | omega | exact ⟨by kernel_rfl⟩ | rfl
   refine Fin.of ?_
   simp
 ·as_aux_lemma =>
  simp -dsimp
  refine ACall.of (next_c T5 kO 64 ⟨by omega, by omega⟩) [.o 3010] 0 ?_
  have kM : TapeOK (gNext T5 64).2 := by simpa using kO
  generalize gNext T5 64 = M at kM ⊢
  obtain ⟨m, T6⟩ := M
  simp only at kM ⊢
  simp -dsimp
  refine ACall.of (one_c T6 kM 4 ⟨by omega, by omega⟩ ⟨by omega, by omega⟩) [.o 3010] 0 ?_
  have kO2 : TapeOK (gOne T6 4).2 := by simpa using kM
  generalize gOne T6 4 = o2 at kO2 ⊢
  obtain ⟨o2, T7⟩ := o2
  simp only at kO2 ⊢
  rcases (Bool.eq_false_or_eq_true o2).symm with rfl | rfl
  ·as_aux_lemma =>
   simp -dsimp [topT, bv]
   refine ACall.of (router_c T7 kO2 g.rs g.ls ⟨d5, by omega⟩ 8 (by omega)) [.o 3010] 0 ?_
   generalize gRouter T7 g.rs 8 = A
   obtain ⟨A, T9⟩ := A
   have h1 := same_c X hsX A q (⟨q.mode, q.subd, q.set, q.len, m, n, q.ing, q.proto, q.bits, strOf x⟩ : Pk)
   have h2 := same15_c X hsX A q (⟨q.mode, q.subd, q.set, q.len, m, n, q.ing, q.proto, q.bits, strOf x⟩ : Pk)
   have h3 := same_c X hsX A q q
   have h4 := same15_c X hsX A q q
   generalize sameV X A q (⟨q.mode, q.subd, q.set, q.len, m, n, q.ing, q.proto, q.bits, strOf x⟩ : Pk) = u at h1 h2
   generalize sameV X A q q = v at h3 h4
   simp only [pkT, Pk.cs, List.map, bv] at h1 h2 h3 h4
   simp -dsimp [bv]
   and_intros
   all_goals try first | omega | exact ⟨by kernel_rfl⟩ | rfl
   refine ACall.of h1 [] 0 ?_
   simp -dsimp [bv]
   and_intros
   all_goals try first | omega | exact ⟨by kernel_rfl⟩ | rfl
   refine ACall.of h2 [] 0 ?_
   simp -dsimp [bv]
   and_intros
   all_goals try first | omega | exact ⟨by kernel_rfl⟩ | rfl
   refine ACall.of h3 [] 0 ?_
   simp -dsimp [bv]
   and_intros
   all_goals try first | omega | exact ⟨by kernel_rfl⟩ | rfl
   refine ACall.of h4 [] 0 ?_
   simp -dsimp [bv]
   and_intros
   all_goals try first | omega | exact ⟨by kernel_rfl⟩ | rfl
   refine ACall.of awake15_c [] 0 ?_
   simp -dsimp
   and_intros
   all_goals try first | omega | exact ⟨by kernel_rfl⟩ | rfl
   refine Fin.of ?_
   simp
  ·as_aux_lemma =>
   simp -dsimp [bv]
   refine ACall.of (bits_c T7 kO2 64 ⟨by omega, by omega⟩) [.o 3010] 0 ?_
   have kB : TapeOK (gBits T7 64).2 := by simpa using kO2
   generalize gBits T7 64 = B at kB ⊢
   obtain ⟨B, T8⟩ := B
   simp only at kB ⊢
   simp -dsimp [topT, bv]
   and_intros
   all_goals try first | omega | exact ⟨by kernel_rfl⟩ | rfl
   refine ACall.of (router_c T8 kB g.rs g.ls ⟨d5, by omega⟩ 8 (by omega)) [.o 3010] 0 ?_
   generalize gRouter T8 g.rs 8 = A
   obtain ⟨A, T9⟩ := A
   have h1 := same_c X hsX A q (⟨q.mode, q.subd, q.set, q.len, m, n, q.ing, q.proto, (q.bits &&& B), strOf x⟩ : Pk)
   have h2 := same15_c X hsX A q (⟨q.mode, q.subd, q.set, q.len, m, n, q.ing, q.proto, (q.bits &&& B), strOf x⟩ : Pk)
   have h3 := same_c X hsX A q q
   have h4 := same15_c X hsX A q q
   generalize sameV X A q (⟨q.mode, q.subd, q.set, q.len, m, n, q.ing, q.proto, (q.bits &&& B), strOf x⟩ : Pk) = u at h1 h2
   generalize sameV X A q q = v at h3 h4
   simp only [pkT, Pk.cs, List.map, bv] at h1 h2 h3 h4
   simp -dsimp [bv]
   and_intros
   all_goals try first | omega | exact ⟨by kernel_rfl⟩ | rfl
   refine ACall.of h1 [] 0 ?_
   simp -dsimp [bv]
   and_intros
   all_goals try first | omega | exact ⟨by kernel_rfl⟩ | rfl
   refine ACall.of h2 [] 0 ?_
   simp -dsimp [bv]
   and_intros
   all_goals try first | omega | exact ⟨by kernel_rfl⟩ | rfl
   refine ACall.of h3 [] 0 ?_
   simp -dsimp [bv]
   and_intros
   all_goals try first | omega | exact ⟨by kernel_rfl⟩ | rfl
   refine ACall.of h4 [] 0 ?_
   simp -dsimp [bv]
   and_intros
   all_goals try first | omega | exact ⟨by kernel_rfl⟩ | rfl
   refine ACall.of awake15_c [] 0 ?_
   simp -dsimp
   and_intros
   all_goals try first | omega | exact ⟨by kernel_rfl⟩ | rfl
   refine Fin.of ?_
   simp
end Go.Proofs
