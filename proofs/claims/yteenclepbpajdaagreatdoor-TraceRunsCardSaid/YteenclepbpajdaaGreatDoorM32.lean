/-
  What functions of the program compute, stated as contracts over plain data; the conditions of each stand in its own statement.
-/
import Derived.Test.YteenclepbpajdaaGreatDoorM31
import Derived.Test.YteenclepbpajdaaGreatDoorRows
import Derived.Test.YteenclepbpajdaaGreatDoorM10
import Derived.OpenShut
import Derived.MakeChecks
import Derived.FnData
import Derived.LaidMore
import Derived.Test.YteenclepbpajdaaGreatDoorM11
set_option linter.unusedSimpArgs false
set_option maxRecDepth 100000
set_option maxHeartbeats 4000000
namespace Go.Proofs
open Go Go.Tr
theorem truns_law (L : List Int) (hL : ∀ x ∈ L, I64 x) (r : Int) : Contract Tryz.prog 4 [.d (ints L), .d (.int .i64 r)] [] (.d (.bool true)) [] [] := by
  refine contract_of Tryz.func4 rfl (fun E0 => ?_)
  refine awp.sound (g := .mk) (ow := []) (kp := (fun k => k == 0 || k == 1 || k == 4 || k == 5 || k == 6 || k == 7 || k == 8 || k == 9 || k == 10 || k == 11 || k == 12 || k == 13 || k == 14 || k == 15 || k == 33 || k == 41 || k == 48 || k == 57 || k == 88)) ?_
  rw [Tryz.ntmps4]
  simp -dsimp [ints]
  refine ACall.of (new_c L) [] 3000 ?_
  simp -dsimp [ints]
  have kT : TapeOK (L.take 600, 0) := tape_new L hL
  generalize (L.take 600, 0) = T0 at kT ⊢
  refine ACall.of (domainO_c T0 kT 6 (by omega)) [.o 3010] 2000 ?_
  obtain ⟨d1, d2, d3, d4, d5, d6⟩ := gDom_ok T0 (most := 6) (by omega)
  have hDV := (gDom_valid T0 (most := 6) (by omega)).1
  have kD : TapeOK (gDom T0 6).2.2.2 := d3.symm ▸ kT
  clear d3
  generalize gDom T0 6 = D0 at d1 d2 d4 d5 d6 kD hDV ⊢
  obtain ⟨g, p, X, T1⟩ := D0
  simp only at d1 d2 d4 d5 d6 kD hDV
  have hlen := hDV.len
  have hl0 : p.len ≠ 0 := fun e => by rw [e] at hlen; simp [validLen] at hlen
  have hlI : I64 p.len := by simp [validLen] at hlen; unfold I64; omega
  simp -dsimp [topT, planT]
  refine ACall.of (for_c T1 kD p (by omega) hl0 hlI) [.o 3010] 0 ?_
  have kF : TapeOK (gFor T1 p).2 := by rw [gFor_ok]; exact kD
  generalize gFor T1 p = F at kF ⊢
  obtain ⟨q, T2⟩ := F
  simp only at kF ⊢
  simp only [pkT, Pk.cs, List.map]
  simp -dsimp [planT]
  refine ACall.of (pick_c T2 kF [0, 1, 3, 9] (by simp) (by simp)) [.o 3010] 0 ?_
  have kP : TapeOK (gPick T2 [0, 1, 3, 9]).2 := by simpa using kF
  generalize gPick T2 [0, 1, 3, 9] = V at kP ⊢
  obtain ⟨v, T3⟩ := V
  simp only at kP ⊢
  simp -dsimp [ints]
  refine ACall.of (next_c T3 kP 2 ⟨by omega, by omega⟩) [.o 3010] 0 ?_
  have kN : TapeOK (gNext T3 2).2 := by simpa using kP
  generalize gNext T3 2 = W at kN ⊢
  obtain ⟨w, T4⟩ := W
  simp only at kN ⊢
  have hsX : SmL X := ⟨by omega, fun b hb => chk_sm (d2 b hb)⟩
  have hrw : ∀ b ∈ X, b.rows.length ≤ 256 ∧ ∀ x ∈ b.rows, x.nx.length ≤ 24 := fun b hb => ⟨(chk_parts (d2 b hb)).2.1, (chk_parts (d2 b hb)).2.2.1⟩
  by_cases w0 : w = 0
  · simp -dsimp [eq_true w0]
    refine ACall.of (wrongO_c T4 kN X hsX g.rs.length ⟨by omega, by omega⟩) [.o 3010] 4000 ?_
    have kW : TapeOK (wrT g.rs.length X T4).2 := by rw [wrT_tape]; exact kN
    have hsY : SmL (wrT g.rs.length X T4).1 := ⟨by rw [wrT_len]; omega, wrT_sm _ _ _ hrw⟩
    have hYn : (wrT g.rs.length X T4).1.length ≤ 24 := by rw [wrT_len]; omega
    generalize wrT g.rs.length X T4 = Y at kW hsY hYn ⊢
    obtain ⟨Y, T5⟩ := Y
    simp only at kW hsY hYn ⊢
    simp -dsimp [topT]
    as_aux_lemma =>
    refine ACall.of (one_c T5 kW 8 ⟨by omega, by omega⟩ ⟨by omega, by omega⟩) [.o 3010] 0 ?_
    have kO6 : TapeOK (gOne T5 8).2 := by simpa using kW
    generalize gOne T5 8 = o at kO6 ⊢
    obtain ⟨o, T6⟩ := o
    simp only at kO6 ⊢
    rcases (Bool.eq_false_or_eq_true o).symm with rfl | rfl
    · as_aux_lemma =>
      simp -dsimp
      refine ACall.of (one_c T6 kO6 8 ⟨by omega, by omega⟩ ⟨by omega, by omega⟩) [.o 3010] 0 ?_
      have kO7 : TapeOK (gOne T6 8).2 := by simpa using kO6
      generalize gOne T6 8 = o at kO7 ⊢
      obtain ⟨o, T7⟩ := o
      simp only at kO7 ⊢
      rcases (Bool.eq_false_or_eq_true o).symm with rfl | rfl
      · as_aux_lemma =>
        simp -dsimp [topT]
        refine ACall.of (router_c T7 kO7 g.rs g.ls ⟨d5, by omega⟩ 6 (by omega)) [.o 3010] 0 ?_
        generalize gRouter T7 g.rs 6 = A
        obtain ⟨A, T8⟩ := A
        simp -dsimp [topT]
        try refine ⟨?_, ⟨by kernel_rfl⟩⟩
        obtain ⟨Q, hQ⟩ : ∃ Q : Pk, Q = ⟨q.mode, q.subd, q.set, q.len, v, q.ent, q.ing, q.proto, q.bits, q.pay⟩ := ⟨_, rfl⟩
        obtain ⟨R, hR⟩ : ∃ R : List Int, R = [A, r] := ⟨_, rfl⟩
        have hRl : R.length = 2 := by rw [hR]; rfl
        obtain ⟨Z, hZ⟩ : ∃ Z : List Tb, Z = Y := ⟨_, rfl⟩
        have hsZ : SmL Z := by rw [hZ]; exact hsY
        refine ALoop.of [1000028] (fun k => k == 0 || k == 1 || k == 4 || k == 5 || k == 6 || k == 7 || k == 8 || k == 9 || k == 10 || k == 11 || k == 12 || k == 13 || k == 14 || k == 15 || k == 33 || k == 41 || k == 48 || k == 57 || k == 88) (ι := { i : Nat // i ≤ 2 })
          (fun z => [(Pl.s 4, It.v (TV.d (D.bool false))), (Pl.s 8, It.v (TV.d (D.sl (tbs Z)))), (Pl.o 9, It.box (Q.cs.map .d)), (Pl.s 9, It.v (TV.ptr (Pl.o 9) 0)), (Pl.s 10, It.v (TV.d (D.sl (R.map fun n => [D.int IntKind.i64 n])))), (Pl.s 11, It.v (TV.d (D.int IntKind.i64 z.1)))])
          (fun z => 2 - z.1) ⟨0, by omega⟩ ?_ ?_
        · exact GS.viewS 8 (by simp [hQ, hR, hZ, Pk.cs, tbs, Tb.cs, rwsD_eq])
        clear hQ hR hZ
        rintro ⟨i, i1⟩
        by_cases hi : i < 2
        · have hiz : (i : Int) < 2 := by omega
          have hg : R[i]? = some R[i] := List.getElem?_eq_getElem (by omega)
          generalize R[i] = x at hg
          have h1 := run_c Z hsZ Q x
          have h2 := run14_c Z hsZ Q x
          obtain ⟨s1, s2, s3⟩ := run_small Z Q x
          generalize runR Z Q x = U at h1 h2 s1 s2 s3
          obtain ⟨U, e⟩ := U
          simp only at s1 s2 s3
          have h3 := same14_c U s1 s2 s3
          simp only [pkT, Pk.cs, List.map, trcT] at h1 h2 h3
          simp -dsimp [hiz, hg, hRl, Pk.cs]
          and_intros
          all_goals try first | omega | exact ⟨by kernel_rfl⟩
          refine ACall.of h1 [] 0 ?_
          simp -dsimp [hiz, hg, hRl, Pk.cs]
          and_intros
          all_goals try first | omega | exact ⟨by kernel_rfl⟩
          refine ACall.of h2 [] 0 ?_
          simp -dsimp
          and_intros
          all_goals try first | omega | exact ⟨by kernel_rfl⟩
          refine ACall.of h3 [] 0 ?_
          simp -dsimp [wrap_i64 (n := (i : Int) + 1) (by omega) (by omega)]
          and_intros
          all_goals try first | omega | exact ⟨by kernel_rfl⟩
          exact ⟨⟨i + 1, by omega⟩, GS.to (by simp [Pk.cs]), by simp; omega⟩
        · have hiz : ¬ (i : Int) < 2 := by omega
          simp -dsimp [hiz]
          try refine ⟨?_, ⟨by kernel_rfl⟩⟩
          refine ACall.of awake14_c [] 0 ?_
          simp -dsimp
          try refine ⟨?_, ⟨by kernel_rfl⟩⟩
          refine Fin.of ?_
          simp
      · as_aux_lemma =>
        simp -dsimp
        refine ACall.of (packet_c T7 kO7 3 ⟨by omega, by omega⟩) [.o 3010] 0 ?_
        have kQ7 : TapeOK (gPacket T7 3).2 := by rw [gPacket_ok]; exact kO7
        generalize gPacket T7 3 = q3 at kQ7 ⊢
        obtain ⟨q3, T8⟩ := q3
        simp only at kQ7 ⊢
        simp only [pkT, Pk.cs, List.map]
        simp -dsimp [topT]
        refine ACall.of (router_c T8 kQ7 g.rs g.ls ⟨d5, by omega⟩ 6 (by omega)) [.o 3010] 0 ?_
        generalize gRouter T8 g.rs 6 = A
        obtain ⟨A, T9⟩ := A
        simp -dsimp [topT]
        try refine ⟨?_, ⟨by kernel_rfl⟩⟩
        obtain ⟨Q, hQ⟩ : ∃ Q : Pk, Q = q3 := ⟨_, rfl⟩
        obtain ⟨R, hR⟩ : ∃ R : List Int, R = [A, r] := ⟨_, rfl⟩
        have hRl : R.length = 2 := by rw [hR]; rfl
        obtain ⟨Z, hZ⟩ : ∃ Z : List Tb, Z = Y := ⟨_, rfl⟩
        have hsZ : SmL Z := by rw [hZ]; exact hsY
        refine ALoop.of [1000028] (fun k => k == 0 || k == 1 || k == 4 || k == 5 || k == 6 || k == 7 || k == 8 || k == 9 || k == 10 || k == 11 || k == 12 || k == 13 || k == 14 || k == 15 || k == 33 || k == 41 || k == 48 || k == 57 || k == 88) (ι := { i : Nat // i ≤ 2 })
          (fun z => [(Pl.s 4, It.v (TV.d (D.bool false))), (Pl.s 8, It.v (TV.d (D.sl (tbs Z)))), (Pl.o 9, It.box (Q.cs.map .d)), (Pl.s 9, It.v (TV.ptr (Pl.o 9) 0)), (Pl.s 10, It.v (TV.d (D.sl (R.map fun n => [D.int IntKind.i64 n])))), (Pl.s 11, It.v (TV.d (D.int IntKind.i64 z.1)))])
          (fun z => 2 - z.1) ⟨0, by omega⟩ ?_ ?_
        · exact GS.viewS 8 (by simp [hQ, hR, hZ, Pk.cs, tbs, Tb.cs, rwsD_eq])
        clear hQ hR hZ
        rintro ⟨i, i1⟩
        by_cases hi : i < 2
        · have hiz : (i : Int) < 2 := by omega
          have hg : R[i]? = some R[i] := List.getElem?_eq_getElem (by omega)
          generalize R[i] = x at hg
          have h1 := run_c Z hsZ Q x
          have h2 := run14_c Z hsZ Q x
          obtain ⟨s1, s2, s3⟩ := run_small Z Q x
          generalize runR Z Q x = U at h1 h2 s1 s2 s3
          obtain ⟨U, e⟩ := U
          simp only at s1 s2 s3
          have h3 := same14_c U s1 s2 s3
          simp only [pkT, Pk.cs, List.map, trcT] at h1 h2 h3
          simp -dsimp [hiz, hg, hRl, Pk.cs]
          and_intros
          all_goals try first | omega | exact ⟨by kernel_rfl⟩
          refine ACall.of h1 [] 0 ?_
          simp -dsimp [hiz, hg, hRl, Pk.cs]
          and_intros
          all_goals try first | omega | exact ⟨by kernel_rfl⟩
          refine ACall.of h2 [] 0 ?_
          simp -dsimp
          and_intros
          all_goals try first | omega | exact ⟨by kernel_rfl⟩
          refine ACall.of h3 [] 0 ?_
          simp -dsimp [wrap_i64 (n := (i : Int) + 1) (by omega) (by omega)]
          and_intros
          all_goals try first | omega | exact ⟨by kernel_rfl⟩
          exact ⟨⟨i + 1, by omega⟩, GS.to (by simp [Pk.cs]), by simp; omega⟩
        · have hiz : ¬ (i : Int) < 2 := by omega
          simp -dsimp [hiz]
          try refine ⟨?_, ⟨by kernel_rfl⟩⟩
          refine ACall.of awake14_c [] 0 ?_
          simp -dsimp
          try refine ⟨?_, ⟨by kernel_rfl⟩⟩
          refine Fin.of ?_
          simp
    · as_aux_lemma =>
      simp -dsimp
      refine ACall.of (table_c T6 kO6 2 (by omega)) [.o 3010] 0 ?_
      have kB : TapeOK (gTab T6 2).2 := by rw [gTab_tape]; exact kO6
      have hsB := gTab_sm T6 2
      generalize gTab T6 2 = B at kB hsB ⊢
      obtain ⟨B, T7⟩ := B
      simp only at kB hsB ⊢
      have hZB : SmL (Y ++ [B]) := ⟨by simp; omega, fun b hb => by
        rcases List.mem_append.1 hb with hb | hb
        · exact hsY.t b hb
        · simp at hb; subst hb; exact hsB⟩
      simp -dsimp [tblT, rwsD_eq]
      and_intros
      all_goals try first | omega | exact ⟨by kernel_rfl⟩
      refine ACall.of (one_c T7 kB 8 ⟨by omega, by omega⟩ ⟨by omega, by omega⟩) [.o 3010] 0 ?_
      have kO8 : TapeOK (gOne T7 8).2 := by simpa using kB
      generalize gOne T7 8 = o at kO8 ⊢
      obtain ⟨o, T8⟩ := o
      simp only at kO8 ⊢
      rcases (Bool.eq_false_or_eq_true o).symm with rfl | rfl
      · as_aux_lemma =>
        simp -dsimp [topT]
        refine ACall.of (router_c T8 kO8 g.rs g.ls ⟨d5, by omega⟩ 6 (by omega)) [.o 3010] 0 ?_
        generalize gRouter T8 g.rs 6 = A
        obtain ⟨A, T9⟩ := A
        simp -dsimp [topT]
        try refine ⟨?_, ⟨by kernel_rfl⟩⟩
        obtain ⟨Q, hQ⟩ : ∃ Q : Pk, Q = ⟨q.mode, q.subd, q.set, q.len, v, q.ent, q.ing, q.proto, q.bits, q.pay⟩ := ⟨_, rfl⟩
        obtain ⟨R, hR⟩ : ∃ R : List Int, R = [A, r] := ⟨_, rfl⟩
        have hRl : R.length = 2 := by rw [hR]; rfl
        obtain ⟨Z, hZ⟩ : ∃ Z : List Tb, Z = (Y ++ [B]) := ⟨_, rfl⟩
        have hsZ : SmL Z := by rw [hZ]; exact hZB
        refine ALoop.of [1000028] (fun k => k == 0 || k == 1 || k == 4 || k == 5 || k == 6 || k == 7 || k == 8 || k == 9 || k == 10 || k == 11 || k == 12 || k == 13 || k == 14 || k == 15 || k == 33 || k == 41 || k == 48 || k == 57 || k == 88) (ι := { i : Nat // i ≤ 2 })
          (fun z => [(Pl.s 4, It.v (TV.d (D.bool false))), (Pl.s 8, It.v (TV.d (D.sl (tbs Z)))), (Pl.o 9, It.box (Q.cs.map .d)), (Pl.s 9, It.v (TV.ptr (Pl.o 9) 0)), (Pl.s 10, It.v (TV.d (D.sl (R.map fun n => [D.int IntKind.i64 n])))), (Pl.s 11, It.v (TV.d (D.int IntKind.i64 z.1)))])
          (fun z => 2 - z.1) ⟨0, by omega⟩ ?_ ?_
        · exact GS.viewS 8 (by simp [hQ, hR, hZ, Pk.cs, tbs, Tb.cs, rwsD_eq])
        clear hQ hR hZ
        rintro ⟨i, i1⟩
        by_cases hi : i < 2
        · have hiz : (i : Int) < 2 := by omega
          have hg : R[i]? = some R[i] := List.getElem?_eq_getElem (by omega)
          generalize R[i] = x at hg
          have h1 := run_c Z hsZ Q x
          have h2 := run14_c Z hsZ Q x
          obtain ⟨s1, s2, s3⟩ := run_small Z Q x
          generalize runR Z Q x = U at h1 h2 s1 s2 s3
          obtain ⟨U, e⟩ := U
          simp only at s1 s2 s3
          have h3 := same14_c U s1 s2 s3
          simp only [pkT, Pk.cs, List.map, trcT] at h1 h2 h3
          simp -dsimp [hiz, hg, hRl, Pk.cs]
          and_intros
          all_goals try first | omega | exact ⟨by kernel_rfl⟩
          refine ACall.of h1 [] 0 ?_
          simp -dsimp [hiz, hg, hRl, Pk.cs]
          and_intros
          all_goals try first | omega | exact ⟨by kernel_rfl⟩
          refine ACall.of h2 [] 0 ?_
          simp -dsimp
          and_intros
          all_goals try first | omega | exact ⟨by kernel_rfl⟩
          refine ACall.of h3 [] 0 ?_
          simp -dsimp [wrap_i64 (n := (i : Int) + 1) (by omega) (by omega)]
          and_intros
          all_goals try first | omega | exact ⟨by kernel_rfl⟩
          exact ⟨⟨i + 1, by omega⟩, GS.to (by simp [Pk.cs]), by simp; omega⟩
        · have hiz : ¬ (i : Int) < 2 := by omega
          simp -dsimp [hiz]
          try refine ⟨?_, ⟨by kernel_rfl⟩⟩
          refine ACall.of awake14_c [] 0 ?_
          simp -dsimp
          try refine ⟨?_, ⟨by kernel_rfl⟩⟩
          refine Fin.of ?_
          simp
      · as_aux_lemma =>
        simp -dsimp
        refine ACall.of (packet_c T8 kO8 3 ⟨by omega, by omega⟩) [.o 3010] 0 ?_
        have kQ8 : TapeOK (gPacket T8 3).2 := by rw [gPacket_ok]; exact kO8
        generalize gPacket T8 3 = q3 at kQ8 ⊢
        obtain ⟨q3, T9⟩ := q3
        simp only at kQ8 ⊢
        simp only [pkT, Pk.cs, List.map]
        simp -dsimp [topT]
        refine ACall.of (router_c T9 kQ8 g.rs g.ls ⟨d5, by omega⟩ 6 (by omega)) [.o 3010] 0 ?_
        generalize gRouter T9 g.rs 6 = A
        obtain ⟨A, T10⟩ := A
        simp -dsimp [topT]
        try refine ⟨?_, ⟨by kernel_rfl⟩⟩
        obtain ⟨Q, hQ⟩ : ∃ Q : Pk, Q = q3 := ⟨_, rfl⟩
        obtain ⟨R, hR⟩ : ∃ R : List Int, R = [A, r] := ⟨_, rfl⟩
        have hRl : R.length = 2 := by rw [hR]; rfl
        obtain ⟨Z, hZ⟩ : ∃ Z : List Tb, Z = (Y ++ [B]) := ⟨_, rfl⟩
        have hsZ : SmL Z := by rw [hZ]; exact hZB
        refine ALoop.of [1000028] (fun k => k == 0 || k == 1 || k == 4 || k == 5 || k == 6 || k == 7 || k == 8 || k == 9 || k == 10 || k == 11 || k == 12 || k == 13 || k == 14 || k == 15 || k == 33 || k == 41 || k == 48 || k == 57 || k == 88) (ι := { i : Nat // i ≤ 2 })
          (fun z => [(Pl.s 4, It.v (TV.d (D.bool false))), (Pl.s 8, It.v (TV.d (D.sl (tbs Z)))), (Pl.o 9, It.box (Q.cs.map .d)), (Pl.s 9, It.v (TV.ptr (Pl.o 9) 0)), (Pl.s 10, It.v (TV.d (D.sl (R.map fun n => [D.int IntKind.i64 n])))), (Pl.s 11, It.v (TV.d (D.int IntKind.i64 z.1)))])
          (fun z => 2 - z.1) ⟨0, by omega⟩ ?_ ?_
        · exact GS.viewS 8 (by simp [hQ, hR, hZ, Pk.cs, tbs, Tb.cs, rwsD_eq])
        clear hQ hR hZ
        rintro ⟨i, i1⟩
        by_cases hi : i < 2
        · have hiz : (i : Int) < 2 := by omega
          have hg : R[i]? = some R[i] := List.getElem?_eq_getElem (by omega)
          generalize R[i] = x at hg
          have h1 := run_c Z hsZ Q x
          have h2 := run14_c Z hsZ Q x
          obtain ⟨s1, s2, s3⟩ := run_small Z Q x
          generalize runR Z Q x = U at h1 h2 s1 s2 s3
          obtain ⟨U, e⟩ := U
          simp only at s1 s2 s3
          have h3 := same14_c U s1 s2 s3
          simp only [pkT, Pk.cs, List.map, trcT] at h1 h2 h3
          simp -dsimp [hiz, hg, hRl, Pk.cs]
          and_intros
          all_goals try first | omega | exact ⟨by kernel_rfl⟩
          refine ACall.of h1 [] 0 ?_
          simp -dsimp [hiz, hg, hRl, Pk.cs]
          and_intros
          all_goals try first | omega | exact ⟨by kernel_rfl⟩
          refine ACall.of h2 [] 0 ?_
          simp -dsimp
          and_intros
          all_goals try first | omega | exact ⟨by kernel_rfl⟩
          refine ACall.of h3 [] 0 ?_
          simp -dsimp [wrap_i64 (n := (i : Int) + 1) (by omega) (by omega)]
          and_intros
          all_goals try first | omega | exact ⟨by kernel_rfl⟩
          exact ⟨⟨i + 1, by omega⟩, GS.to (by simp [Pk.cs]), by simp; omega⟩
        · have hiz : ¬ (i : Int) < 2 := by omega
          simp -dsimp [hiz]
          try refine ⟨?_, ⟨by kernel_rfl⟩⟩
          refine ACall.of awake14_c [] 0 ?_
          simp -dsimp
          try refine ⟨?_, ⟨by kernel_rfl⟩⟩
          refine Fin.of ?_
          simp
  · simp -dsimp [eq_false w0]
    as_aux_lemma =>
    refine ACall.of (one_c T4 kN 8 ⟨by omega, by omega⟩ ⟨by omega, by omega⟩) [.o 3010] 0 ?_
    have kO6 : TapeOK (gOne T4 8).2 := by simpa using kN
    generalize gOne T4 8 = o at kO6 ⊢
    obtain ⟨o, T6⟩ := o
    simp only at kO6 ⊢
    rcases (Bool.eq_false_or_eq_true o).symm with rfl | rfl
    · as_aux_lemma =>
      simp -dsimp
      refine ACall.of (one_c T6 kO6 8 ⟨by omega, by omega⟩ ⟨by omega, by omega⟩) [.o 3010] 0 ?_
      have kO7 : TapeOK (gOne T6 8).2 := by simpa using kO6
      generalize gOne T6 8 = o at kO7 ⊢
      obtain ⟨o, T7⟩ := o
      simp only at kO7 ⊢
      rcases (Bool.eq_false_or_eq_true o).symm with rfl | rfl
      · as_aux_lemma =>
        simp -dsimp [topT]
        refine ACall.of (router_c T7 kO7 g.rs g.ls ⟨d5, by omega⟩ 6 (by omega)) [.o 3010] 0 ?_
        generalize gRouter T7 g.rs 6 = A
        obtain ⟨A, T8⟩ := A
        simp -dsimp [topT]
        try refine ⟨?_, ⟨by kernel_rfl⟩⟩
        obtain ⟨Q, hQ⟩ : ∃ Q : Pk, Q = ⟨q.mode, q.subd, q.set, q.len, v, q.ent, q.ing, q.proto, q.bits, q.pay⟩ := ⟨_, rfl⟩
        obtain ⟨R, hR⟩ : ∃ R : List Int, R = [A, r] := ⟨_, rfl⟩
        have hRl : R.length = 2 := by rw [hR]; rfl
        obtain ⟨Z, hZ⟩ : ∃ Z : List Tb, Z = X := ⟨_, rfl⟩
        have hsZ : SmL Z := by rw [hZ]; exact hsX
        refine ALoop.of [1000028] (fun k => k == 0 || k == 1 || k == 4 || k == 5 || k == 6 || k == 7 || k == 8 || k == 9 || k == 10 || k == 11 || k == 12 || k == 13 || k == 14 || k == 15 || k == 33 || k == 41 || k == 48 || k == 57 || k == 88) (ι := { i : Nat // i ≤ 2 })
          (fun z => [(Pl.s 4, It.v (TV.d (D.bool false))), (Pl.s 8, It.v (TV.d (D.sl (tbs Z)))), (Pl.o 9, It.box (Q.cs.map .d)), (Pl.s 9, It.v (TV.ptr (Pl.o 9) 0)), (Pl.s 10, It.v (TV.d (D.sl (R.map fun n => [D.int IntKind.i64 n])))), (Pl.s 11, It.v (TV.d (D.int IntKind.i64 z.1)))])
          (fun z => 2 - z.1) ⟨0, by omega⟩ ?_ ?_
        · exact GS.viewS 8 (by simp [hQ, hR, hZ, Pk.cs, tbs, Tb.cs, rwsD_eq])
        clear hQ hR hZ
        rintro ⟨i, i1⟩
        by_cases hi : i < 2
        · have hiz : (i : Int) < 2 := by omega
          have hg : R[i]? = some R[i] := List.getElem?_eq_getElem (by omega)
          generalize R[i] = x at hg
          have h1 := run_c Z hsZ Q x
          have h2 := run14_c Z hsZ Q x
          obtain ⟨s1, s2, s3⟩ := run_small Z Q x
          generalize runR Z Q x = U at h1 h2 s1 s2 s3
          obtain ⟨U, e⟩ := U
          simp only at s1 s2 s3
          have h3 := same14_c U s1 s2 s3
          simp only [pkT, Pk.cs, List.map, trcT] at h1 h2 h3
          simp -dsimp [hiz, hg, hRl, Pk.cs]
          and_intros
          all_goals try first | omega | exact ⟨by kernel_rfl⟩
          refine ACall.of h1 [] 0 ?_
          simp -dsimp [hiz, hg, hRl, Pk.cs]
          and_intros
          all_goals try first | omega | exact ⟨by kernel_rfl⟩
          refine ACall.of h2 [] 0 ?_
          simp -dsimp
          and_intros
          all_goals try first | omega | exact ⟨by kernel_rfl⟩
          refine ACall.of h3 [] 0 ?_
          simp -dsimp [wrap_i64 (n := (i : Int) + 1) (by omega) (by omega)]
          and_intros
          all_goals try first | omega | exact ⟨by kernel_rfl⟩
          exact ⟨⟨i + 1, by omega⟩, GS.to (by simp [Pk.cs]), by simp; omega⟩
        · have hiz : ¬ (i : Int) < 2 := by omega
          simp -dsimp [hiz]
          try refine ⟨?_, ⟨by kernel_rfl⟩⟩
          refine ACall.of awake14_c [] 0 ?_
          simp -dsimp
          try refine ⟨?_, ⟨by kernel_rfl⟩⟩
          refine Fin.of ?_
          simp
      · as_aux_lemma =>
        simp -dsimp
        refine ACall.of (packet_c T7 kO7 3 ⟨by omega, by omega⟩) [.o 3010] 0 ?_
        have kQ7 : TapeOK (gPacket T7 3).2 := by rw [gPacket_ok]; exact kO7
        generalize gPacket T7 3 = q3 at kQ7 ⊢
        obtain ⟨q3, T8⟩ := q3
        simp only at kQ7 ⊢
        simp only [pkT, Pk.cs, List.map]
        simp -dsimp [topT]
        refine ACall.of (router_c T8 kQ7 g.rs g.ls ⟨d5, by omega⟩ 6 (by omega)) [.o 3010] 0 ?_
        generalize gRouter T8 g.rs 6 = A
        obtain ⟨A, T9⟩ := A
        simp -dsimp [topT]
        try refine ⟨?_, ⟨by kernel_rfl⟩⟩
        obtain ⟨Q, hQ⟩ : ∃ Q : Pk, Q = q3 := ⟨_, rfl⟩
        obtain ⟨R, hR⟩ : ∃ R : List Int, R = [A, r] := ⟨_, rfl⟩
        have hRl : R.length = 2 := by rw [hR]; rfl
        obtain ⟨Z, hZ⟩ : ∃ Z : List Tb, Z = X := ⟨_, rfl⟩
        have hsZ : SmL Z := by rw [hZ]; exact hsX
        refine ALoop.of [1000028] (fun k => k == 0 || k == 1 || k == 4 || k == 5 || k == 6 || k == 7 || k == 8 || k == 9 || k == 10 || k == 11 || k == 12 || k == 13 || k == 14 || k == 15 || k == 33 || k == 41 || k == 48 || k == 57 || k == 88) (ι := { i : Nat // i ≤ 2 })
          (fun z => [(Pl.s 4, It.v (TV.d (D.bool false))), (Pl.s 8, It.v (TV.d (D.sl (tbs Z)))), (Pl.o 9, It.box (Q.cs.map .d)), (Pl.s 9, It.v (TV.ptr (Pl.o 9) 0)), (Pl.s 10, It.v (TV.d (D.sl (R.map fun n => [D.int IntKind.i64 n])))), (Pl.s 11, It.v (TV.d (D.int IntKind.i64 z.1)))])
          (fun z => 2 - z.1) ⟨0, by omega⟩ ?_ ?_
        · exact GS.viewS 8 (by simp [hQ, hR, hZ, Pk.cs, tbs, Tb.cs, rwsD_eq])
        clear hQ hR hZ
        rintro ⟨i, i1⟩
        by_cases hi : i < 2
        · have hiz : (i : Int) < 2 := by omega
          have hg : R[i]? = some R[i] := List.getElem?_eq_getElem (by omega)
          generalize R[i] = x at hg
          have h1 := run_c Z hsZ Q x
          have h2 := run14_c Z hsZ Q x
          obtain ⟨s1, s2, s3⟩ := run_small Z Q x
          generalize runR Z Q x = U at h1 h2 s1 s2 s3
          obtain ⟨U, e⟩ := U
          simp only at s1 s2 s3
          have h3 := same14_c U s1 s2 s3
          simp only [pkT, Pk.cs, List.map, trcT] at h1 h2 h3
          simp -dsimp [hiz, hg, hRl, Pk.cs]
          and_intros
          all_goals try first | omega | exact ⟨by kernel_rfl⟩
          refine ACall.of h1 [] 0 ?_
          simp -dsimp [hiz, hg, hRl, Pk.cs]
          and_intros
          all_goals try first | omega | exact ⟨by kernel_rfl⟩
          refine ACall.of h2 [] 0 ?_
          simp -dsimp
          and_intros
          all_goals try first | omega | exact ⟨by kernel_rfl⟩
          refine ACall.of h3 [] 0 ?_
          simp -dsimp [wrap_i64 (n := (i : Int) + 1) (by omega) (by omega)]
          and_intros
          all_goals try first | omega | exact ⟨by kernel_rfl⟩
          exact ⟨⟨i + 1, by omega⟩, GS.to (by simp [Pk.cs]), by simp; omega⟩
        · have hiz : ¬ (i : Int) < 2 := by omega
          simp -dsimp [hiz]
          try refine ⟨?_, ⟨by kernel_rfl⟩⟩
          refine ACall.of awake14_c [] 0 ?_
          simp -dsimp
          try refine ⟨?_, ⟨by kernel_rfl⟩⟩
          refine Fin.of ?_
          simp
    · as_aux_lemma =>
      simp -dsimp
      refine ACall.of (table_c T6 kO6 2 (by omega)) [.o 3010] 0 ?_
      have kB : TapeOK (gTab T6 2).2 := by rw [gTab_tape]; exact kO6
      have hsB := gTab_sm T6 2
      generalize gTab T6 2 = B at kB hsB ⊢
      obtain ⟨B, T7⟩ := B
      simp only at kB hsB ⊢
      have hZB : SmL (X ++ [B]) := ⟨by simp; omega, fun b hb => by
        rcases List.mem_append.1 hb with hb | hb
        · exact hsX.t b hb
        · simp at hb; subst hb; exact hsB⟩
      simp -dsimp [tblT, rwsD_eq]
      and_intros
      all_goals try first | omega | exact ⟨by kernel_rfl⟩
      refine ACall.of (one_c T7 kB 8 ⟨by omega, by omega⟩ ⟨by omega, by omega⟩) [.o 3010] 0 ?_
      have kO8 : TapeOK (gOne T7 8).2 := by simpa using kB
      generalize gOne T7 8 = o at kO8 ⊢
      obtain ⟨o, T8⟩ := o
      simp only at kO8 ⊢
      rcases (Bool.eq_false_or_eq_true o).symm with rfl | rfl
      · as_aux_lemma =>
        simp -dsimp [topT]
        refine ACall.of (router_c T8 kO8 g.rs g.ls ⟨d5, by omega⟩ 6 (by omega)) [.o 3010] 0 ?_
        generalize gRouter T8 g.rs 6 = A
        obtain ⟨A, T9⟩ := A
        simp -dsimp [topT]
        try refine ⟨?_, ⟨by kernel_rfl⟩⟩
        obtain ⟨Q, hQ⟩ : ∃ Q : Pk, Q = ⟨q.mode, q.subd, q.set, q.len, v, q.ent, q.ing, q.proto, q.bits, q.pay⟩ := ⟨_, rfl⟩
        obtain ⟨R, hR⟩ : ∃ R : List Int, R = [A, r] := ⟨_, rfl⟩
        have hRl : R.length = 2 := by rw [hR]; rfl
        obtain ⟨Z, hZ⟩ : ∃ Z : List Tb, Z = (X ++ [B]) := ⟨_, rfl⟩
        have hsZ : SmL Z := by rw [hZ]; exact hZB
        refine ALoop.of [1000028] (fun k => k == 0 || k == 1 || k == 4 || k == 5 || k == 6 || k == 7 || k == 8 || k == 9 || k == 10 || k == 11 || k == 12 || k == 13 || k == 14 || k == 15 || k == 33 || k == 41 || k == 48 || k == 57 || k == 88) (ι := { i : Nat // i ≤ 2 })
          (fun z => [(Pl.s 4, It.v (TV.d (D.bool false))), (Pl.s 8, It.v (TV.d (D.sl (tbs Z)))), (Pl.o 9, It.box (Q.cs.map .d)), (Pl.s 9, It.v (TV.ptr (Pl.o 9) 0)), (Pl.s 10, It.v (TV.d (D.sl (R.map fun n => [D.int IntKind.i64 n])))), (Pl.s 11, It.v (TV.d (D.int IntKind.i64 z.1)))])
          (fun z => 2 - z.1) ⟨0, by omega⟩ ?_ ?_
        · exact GS.viewS 8 (by simp [hQ, hR, hZ, Pk.cs, tbs, Tb.cs, rwsD_eq])
        clear hQ hR hZ
        rintro ⟨i, i1⟩
        by_cases hi : i < 2
        · have hiz : (i : Int) < 2 := by omega
          have hg : R[i]? = some R[i] := List.getElem?_eq_getElem (by omega)
          generalize R[i] = x at hg
          have h1 := run_c Z hsZ Q x
          have h2 := run14_c Z hsZ Q x
          obtain ⟨s1, s2, s3⟩ := run_small Z Q x
          generalize runR Z Q x = U at h1 h2 s1 s2 s3
          obtain ⟨U, e⟩ := U
          simp only at s1 s2 s3
          have h3 := same14_c U s1 s2 s3
          simp only [pkT, Pk.cs, List.map, trcT] at h1 h2 h3
          simp -dsimp [hiz, hg, hRl, Pk.cs]
          and_intros
          all_goals try first | omega | exact ⟨by kernel_rfl⟩
          refine ACall.of h1 [] 0 ?_
          simp -dsimp [hiz, hg, hRl, Pk.cs]
          and_intros
          all_goals try first | omega | exact ⟨by kernel_rfl⟩
          refine ACall.of h2 [] 0 ?_
          simp -dsimp
          and_intros
          all_goals try first | omega | exact ⟨by kernel_rfl⟩
          refine ACall.of h3 [] 0 ?_
          simp -dsimp [wrap_i64 (n := (i : Int) + 1) (by omega) (by omega)]
          and_intros
          all_goals try first | omega | exact ⟨by kernel_rfl⟩
          exact ⟨⟨i + 1, by omega⟩, GS.to (by simp [Pk.cs]), by simp; omega⟩
        · have hiz : ¬ (i : Int) < 2 := by omega
          simp -dsimp [hiz]
          try refine ⟨?_, ⟨by kernel_rfl⟩⟩
          refine ACall.of awake14_c [] 0 ?_
          simp -dsimp
          try refine ⟨?_, ⟨by kernel_rfl⟩⟩
          refine Fin.of ?_
          simp
      · as_aux_lemma =>
        simp -dsimp
        refine ACall.of (packet_c T8 kO8 3 ⟨by omega, by omega⟩) [.o 3010] 0 ?_
        have kQ8 : TapeOK (gPacket T8 3).2 := by rw [gPacket_ok]; exact kO8
        generalize gPacket T8 3 = q3 at kQ8 ⊢
        obtain ⟨q3, T9⟩ := q3
        simp only at kQ8 ⊢
        simp only [pkT, Pk.cs, List.map]
        simp -dsimp [topT]
        refine ACall.of (router_c T9 kQ8 g.rs g.ls ⟨d5, by omega⟩ 6 (by omega)) [.o 3010] 0 ?_
        generalize gRouter T9 g.rs 6 = A
        obtain ⟨A, T10⟩ := A
        simp -dsimp [topT]
        try refine ⟨?_, ⟨by kernel_rfl⟩⟩
        obtain ⟨Q, hQ⟩ : ∃ Q : Pk, Q = q3 := ⟨_, rfl⟩
        obtain ⟨R, hR⟩ : ∃ R : List Int, R = [A, r] := ⟨_, rfl⟩
        have hRl : R.length = 2 := by rw [hR]; rfl
        obtain ⟨Z, hZ⟩ : ∃ Z : List Tb, Z = (X ++ [B]) := ⟨_, rfl⟩
        have hsZ : SmL Z := by rw [hZ]; exact hZB
        refine ALoop.of [1000028] (fun k => k == 0 || k == 1 || k == 4 || k == 5 || k == 6 || k == 7 || k == 8 || k == 9 || k == 10 || k == 11 || k == 12 || k == 13 || k == 14 || k == 15 || k == 33 || k == 41 || k == 48 || k == 57 || k == 88) (ι := { i : Nat // i ≤ 2 })
          (fun z => [(Pl.s 4, It.v (TV.d (D.bool false))), (Pl.s 8, It.v (TV.d (D.sl (tbs Z)))), (Pl.o 9, It.box (Q.cs.map .d)), (Pl.s 9, It.v (TV.ptr (Pl.o 9) 0)), (Pl.s 10, It.v (TV.d (D.sl (R.map fun n => [D.int IntKind.i64 n])))), (Pl.s 11, It.v (TV.d (D.int IntKind.i64 z.1)))])
          (fun z => 2 - z.1) ⟨0, by omega⟩ ?_ ?_
        · exact GS.viewS 8 (by simp [hQ, hR, hZ, Pk.cs, tbs, Tb.cs, rwsD_eq])
        clear hQ hR hZ
        rintro ⟨i, i1⟩
        by_cases hi : i < 2
        · have hiz : (i : Int) < 2 := by omega
          have hg : R[i]? = some R[i] := List.getElem?_eq_getElem (by omega)
          generalize R[i] = x at hg
          have h1 := run_c Z hsZ Q x
          have h2 := run14_c Z hsZ Q x
          obtain ⟨s1, s2, s3⟩ := run_small Z Q x
          generalize runR Z Q x = U at h1 h2 s1 s2 s3
          obtain ⟨U, e⟩ := U
          simp only at s1 s2 s3
          have h3 := same14_c U s1 s2 s3
          simp only [pkT, Pk.cs, List.map, trcT] at h1 h2 h3
          simp -dsimp [hiz, hg, hRl, Pk.cs]
          and_intros
          all_goals try first | omega | exact ⟨by kernel_rfl⟩
          refine ACall.of h1 [] 0 ?_
          simp -dsimp [hiz, hg, hRl, Pk.cs]
          and_intros
          all_goals try first | omega | exact ⟨by kernel_rfl⟩
          refine ACall.of h2 [] 0 ?_
          simp -dsimp
          and_intros
          all_goals try first | omega | exact ⟨by kernel_rfl⟩
          refine ACall.of h3 [] 0 ?_
          simp -dsimp [wrap_i64 (n := (i : Int) + 1) (by omega) (by omega)]
          and_intros
          all_goals try first | omega | exact ⟨by kernel_rfl⟩
          exact ⟨⟨i + 1, by omega⟩, GS.to (by simp [Pk.cs]), by simp; omega⟩
        · have hiz : ¬ (i : Int) < 2 := by omega
          simp -dsimp [hiz]
          try refine ⟨?_, ⟨by kernel_rfl⟩⟩
          refine ACall.of awake14_c [] 0 ?_
          simp -dsimp
          try refine ⟨?_, ⟨by kernel_rfl⟩⟩
          refine Fin.of ?_
          simp
end Go.Proofs

set_option linter.unusedSimpArgs false
namespace Go.Proofs.YteenclepbpajdaaGreatDoor
open Go Go.Tr
set_option maxRecDepth 100000
def laidT : List (String × DataW Unit) := [("math/bits.deBruijn64tab", Rows.laid_math_bits_deBruijn64tab)]
theorem gDeb : Tryz.prog.globalNamed "math/bits.deBruijn64tab" = some 0 := by kernel_rfl
theorem tDeb : (Tryz.prog.globals[0]?).map (·.type) = some 210 := by kernel_rfl
theorem uDeb : Tryz.prog.underlying 210 = some (.array 64 5) := by kernel_rfl
theorem uByte : Tryz.prog.underlying 5 = some (.int .u8) := by kernel_rfl
theorem cByte : Tryz.prog.cellsOf 5 = 1 := by kernel_rfl
theorem debData {H : Type} : (Rows.laid_math_bits_deBruijn64tab : DataW H) = .agg (deb.map fun n => .lit (.int .u8 n)) := rfl
/-- what the row's condition says of the table's cells -/
theorem glob_of_laid {W : World} (h : laidMetH Tryz.prog laidT W) : GlobW W := by
  rw [MakeChecks.laidMetH_plain _ _ _ (by kernel_rfl)] at h
  obtain ⟨ps, ⟨g0, t0, cs0, f0, p0, q0, hg0, ht0, hv0, hd0, _⟩, _, _⟩ := h
  obtain rfl := Option.some.inj (gDeb.symm.trans hg0)
  obtain rfl := Option.some.inj (tDeb.symm.trans ht0)
  obtain ⟨xs, m1, rfl, hx1, hlen, hn, hel⟩ := DataW.trod_array uDeb hd0
  simp only [Prod.mk.injEq, debData, DataW.agg.injEq] at hx1
  have hcell : ∀ i : Nat, i < 64 → cs0[i]? = some (.int .u8 (deb.getD i 0)) := fun i hi => by
    have h1 := hel i hi
    rw [cByte, Nat.mul_one] at h1
    have h2 : xs[i]? = some xs[i] := List.getElem?_eq_getElem (by omega)
    rw [h2] at h1
    obtain ⟨n, e1, e2, _⟩ := DataW.trod_int uByte h1
    have h3 : (xs.map (·.1))[i]? = (deb.map fun n => (DataW.lit (Lit.int .u8 n) : DataW Unit))[i]? := by rw [← hx1.1]
    rw [List.getElem?_map, h2, Option.map_some, e2, List.getElem?_map] at h3
    have h4 : deb[i]? = some n := by
      cases hd : deb[i]? with
      | none => rw [hd] at h3; simp at h3
      | some k => rw [hd] at h3; simp at h3; rw [h3]
    have h5 : cs0.toList[i]? = some (.int .u8 n) := by
      have := congrArg (fun l => l[0]?) e1
      simp only [List.getElem?_take, List.getElem?_drop] at this
      simpa using this
    rw [List.getD_eq_getElem?_getD, h4, Option.getD_some]
    simpa using h5
  have hbl : 0 < W.heap.size := by
    have := World.var?_cell hg0 hv0 0
    rw [hcell 0 (by omega)] at this
    exact World.block_lt_of_cell? W ⟨0, 0, none⟩ this
  intro y hy
  simp only [globs, List.mem_singleton] at hy
  subst hy
  refine RepCells.of_get fun i x hx => ?_
  simp only [List.getElem?_map, Option.map_eq_some_iff] at hx
  obtain ⟨n, h1, rfl⟩ := hx
  have hi : i < 64 := (List.getElem?_eq_some_iff.1 h1).1
  refine ⟨hbl, .int .u8 n, ?_, by simp only [Rep]⟩
  have := World.var?_cell hg0 hv0 i
  rw [hcell i hi, List.getD_eq_getElem?_getD, h1, Option.getD_some] at this
  rw [Nat.zero_add]
  exact this
end Go.Proofs.YteenclepbpajdaaGreatDoor

namespace Go.Proofs
open Go Go.Tr
theorem has_int {ds : List D} (h : (Ty.int .i64).has ds) : ∃ n, ds = [.int .i64 n] := by
  simp only [Ty.has] at h
  obtain ⟨n, rfl, _⟩ := h
  exact ⟨n, rfl⟩
end Go.Proofs
