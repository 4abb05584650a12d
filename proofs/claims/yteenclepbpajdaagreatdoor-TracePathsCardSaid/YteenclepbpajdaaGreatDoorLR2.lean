/-
  What functions of the program compute, stated as contracts over plain data; the conditions of each stand in its own statement.
-/
import Derived.Test.YteenclepbpajdaaGreatDoorM33
set_option linter.unusedSimpArgs false
set_option maxRecDepth 100000
set_option maxHeartbeats 4000000
namespace Go.Proofs
open Go Go.Tr
theorem tpaths_law (L : List Int) (hL : ∀ x ∈ L, I64 x) (r id plane : Int) : Contract Tryz.prog 9 [.d (ints L), .d (.int .i64 r), .d (.int .i64 id), .d (.int .i64 plane)] [] (.d (.bool true)) [] [] := by
 refine contract_of Tryz.func9 rfl (fun E0 => ?_)
 refine awp.sound (g := .mk) (ow := []) (kp := (fun k => k==0||k==1||k==2||k==3||k==8||k==9||k==10||k==12||k==13||k==14||k==15||k==16||k==17||k==18||k==19||k==30||k==38||k==58||k==94)) ?_
 rw [Tryz.ntmps9]
 simp -dsimp [ints]
 refine ACall.of (new_c L) [] 3000 ?_
 simp -dsimp [ints]
 have kT : TapeOK (L.take 600, 0) := tape_new L hL
 generalize (L.take 600, 0) = T0 at kT ⊢
 refine ACall.of (domainO_c T0 kT 6 (by omega)) [.o 3010] 2000 ?_
 obtain ⟨d1, d2, d3, d4, d5, d6⟩ := gDom_ok T0 (most := 6) (by omega)
 have kD : TapeOK (gDom T0 6).2.2.2 := d3.symm ▸ kT
 clear d3
 generalize gDom T0 6 = D0 at d1 d2 d4 d5 d6 kD ⊢
 obtain ⟨g, p, X, T1⟩ := D0
 simp only at d1 d2 d4 d5 d6 kD
 simp -dsimp [topT, planT]
 refine ACall.of (next_c T1 kD 2 ⟨by omega, by omega⟩) [.o 3010] 0 ?_
 have kN : TapeOK (gNext T1 2).2 := by simpa using kD
 generalize gNext T1 2 = W at kN ⊢
 obtain ⟨w, T4⟩ := W
 simp only at kN ⊢
 have hsX : SmL X := ⟨by omega, fun b hb => chk_sm (d2 b hb)⟩
 have hrw : ∀ b ∈ X, b.rows.length ≤ 256 ∧ ∀ x ∈ b.rows, x.nx.length ≤ 24 := fun b hb => ⟨(chk_parts (d2 b hb)).2.1, (chk_parts (d2 b hb)).2.2.1⟩
 by_cases w0 : w = 0
 ·simp -dsimp [eq_true w0]
  refine ACall.of (wrongO_c T4 kN X hsX g.rs.length ⟨by omega, by omega⟩) [.o 3010] 4000 ?_
  have kW : TapeOK (wrT g.rs.length X T4).2 := by rw [wrT_tape]; exact kN
  have hsY : SmL (wrT g.rs.length X T4).1 := ⟨by rw [wrT_len]; omega, wrT_sm _ _ _ hrw⟩
  have hYn : (wrT g.rs.length X T4).1.length ≤ 24 := by rw [wrT_len]; omega
  generalize wrT g.rs.length X T4 = Y at kW hsY hYn ⊢
  obtain ⟨Y, T5⟩ := Y
  simp only at kW hsY hYn ⊢
  simp -dsimp [topT]
  as_aux_lemma =>
  refine ACall.of (one_c T5 kW 10 ⟨by omega, by omega⟩ ⟨by omega, by omega⟩) [.o 3010] 0 ?_
  have kO6 : TapeOK (gOne T5 10).2 := by simpa using kW
  generalize gOne T5 10 = o at kO6 ⊢
  obtain ⟨o, T6⟩ := o
  simp only at kO6 ⊢
  rcases (Bool.eq_false_or_eq_true o).symm with rfl | rfl
  ·as_aux_lemma =>
   simp -dsimp [topT]
   refine ACall.of (router_c T6 kO6 g.rs g.ls ⟨d5, by omega⟩ 6 (by omega)) [.o 3010] 0 ?_
   have kA : TapeOK (gRouter T6 g.rs 6).2 := by rw [gRouter_ok]; exact kO6
   generalize gRouter T6 g.rs 6 = A at kA ⊢
   obtain ⟨A, T7⟩ := A
   simp only at kA ⊢
   simp -dsimp [topT]
   refine ACall.of (rangeS_c T7 kA 0 9 (by omega)) [.o 3010] 0 ?_
   have kB : TapeOK (gRange T7 0 9).2 := by simpa using kA
   generalize gRange T7 0 9 = B at kB ⊢
   obtain ⟨B, T8⟩ := B
   simp only at kB ⊢
   simp -dsimp
   refine ACall.of (rangeS_c T8 kB (-1) 8 (by omega)) [.o 3010] 0 ?_
   generalize gRange T8 (-1) 8 = C
   obtain ⟨C, T9⟩ := C
   simp -dsimp
   try refine ⟨?_, ⟨by kernel_rfl⟩⟩
   obtain ⟨Z, hZ⟩ : ∃ Z : List Tb, Z = Y := ⟨_, rfl⟩
   have hsZ : SmL Z := by rw [hZ]; exact hsY
   refine ALoop.of [] (fun k => k==0||k==1||k==2||k==3||k==8||k==9||k==10||k==12||k==13||k==14||k==15||k==16||k==17||k==18||k==19||k==30||k==38||k==58||k==94) (ι := { i : Nat // i ≤ 2 })
    (fun z => [(Pl.s 8, It.v (TV.d (D.bool false))), (Pl.s 12, It.v (TV.d (D.sl (tbs Z)))), (Pl.o 13, It.box [TV.d (D.int IntKind.i64 A), TV.d (D.int IntKind.i64 B), TV.d (D.int IntKind.i64 C), TV.d (D.int IntKind.i64 r), TV.d (D.int IntKind.i64 id), TV.d (D.int IntKind.i64 plane)]), (Pl.s 13, It.v (TV.ptr (Pl.o 13) 0)), (Pl.s 14, It.v (TV.d (D.int IntKind.i64 z.1)))])
    (fun z => 2 - z.1) ⟨0, by omega⟩ ?_ ?_
   ·exact GS.viewS 12 (by simp [hZ, tbs, Tb.cs, rwsD_eq])
   clear hZ
   rintro ⟨i, i1⟩
   obtain rfl | rfl | rfl : i = 0 ∨ i = 1 ∨ i = 2 := by omega
   ·have h1 := path_c Z hsZ A B C
    have h2 := path14_c Z hsZ A B C
    have hl := pathV_len Z A B C
    have hZn := hsZ.n
    generalize pathV Z A B C = U at h1 h2 hl
    obtain ⟨U, e⟩ := U
    simp only at hl
    have h3 := ints04_c U U (by omega)
    simp only [pathT, ints] at h1 h2 h3
    simp -dsimp
    and_intros
    all_goals try first | omega | exact ⟨by kernel_rfl⟩
    refine ACall.of h1 [] 0 ?_
    simp -dsimp
    and_intros
    all_goals try first | omega | exact ⟨by kernel_rfl⟩
    refine ACall.of h2 [] 0 ?_
    simp -dsimp
    and_intros
    all_goals try first | omega | exact ⟨by kernel_rfl⟩
    refine ACall.of h3 [] 0 ?_
    simp -dsimp [wrap_i64 (n := 1) (by omega) (by omega), wrap_i64 (n := 2) (by omega) (by omega)]
    and_intros
    all_goals try first | omega | exact ⟨by kernel_rfl⟩
    exact ⟨⟨0+1, by omega⟩, GS.to (by simp), by simp <;> omega⟩
   ·have h1 := path_c Z hsZ r id plane
    have h2 := path14_c Z hsZ r id plane
    have hl := pathV_len Z r id plane
    have hZn := hsZ.n
    generalize pathV Z r id plane = U at h1 h2 hl
    obtain ⟨U, e⟩ := U
    simp only at hl
    have h3 := ints04_c U U (by omega)
    simp only [pathT, ints] at h1 h2 h3
    simp -dsimp
    and_intros
    all_goals try first | omega | exact ⟨by kernel_rfl⟩
    refine ACall.of h1 [] 0 ?_
    simp -dsimp
    and_intros
    all_goals try first | omega | exact ⟨by kernel_rfl⟩
    refine ACall.of h2 [] 0 ?_
    simp -dsimp
    and_intros
    all_goals try first | omega | exact ⟨by kernel_rfl⟩
    refine ACall.of h3 [] 0 ?_
    simp -dsimp [wrap_i64 (n := 1) (by omega) (by omega), wrap_i64 (n := 2) (by omega) (by omega)]
    and_intros
    all_goals try first | omega | exact ⟨by kernel_rfl⟩
    exact ⟨⟨1+1, by omega⟩, GS.to (by simp), by simp <;> omega⟩
   ·simp -dsimp
    try refine ⟨?_, ⟨by kernel_rfl⟩⟩
    refine ACall.of awake14_c [] 0 ?_
    simp -dsimp
    try refine ⟨?_, ⟨by kernel_rfl⟩⟩
    refine Fin.of ?_
    simp
  ·as_aux_lemma =>
   simp -dsimp
   refine ACall.of (table_c T6 kO6 2 (by omega)) [.o 3010] 0 ?_
   have kT2 : TapeOK (gTab T6 2).2 := by rw [gTab_tape]; exact kO6
   have hsB := gTab_sm T6 2
   generalize gTab T6 2 = B at kT2 hsB ⊢
   obtain ⟨W, T7⟩ := B
   simp only at kT2 hsB ⊢
   have hZB : SmL (Y ++ [W]) := ⟨by simp; omega, fun b hb => by
    rcases List.mem_append.1 hb with hb | hb
    ·exact hsY.t b hb
    ·simp at hb; subst hb; exact hsB⟩
   simp -dsimp [tblT, rwsD_eq, topT]
   and_intros
   all_goals try first | omega | exact ⟨by kernel_rfl⟩
   refine ACall.of (router_c T7 kT2 g.rs g.ls ⟨d5, by omega⟩ 6 (by omega)) [.o 3010] 0 ?_
   have kA : TapeOK (gRouter T7 g.rs 6).2 := by rw [gRouter_ok]; exact kT2
   generalize gRouter T7 g.rs 6 = A at kA ⊢
   obtain ⟨A, T8⟩ := A
   simp only at kA ⊢
   simp -dsimp [topT]
   refine ACall.of (rangeS_c T8 kA 0 9 (by omega)) [.o 3010] 0 ?_
   have kB : TapeOK (gRange T8 0 9).2 := by simpa using kA
   generalize gRange T8 0 9 = B at kB ⊢
   obtain ⟨B, T9⟩ := B
   simp only at kB ⊢
   simp -dsimp
   refine ACall.of (rangeS_c T9 kB (-1) 8 (by omega)) [.o 3010] 0 ?_
   generalize gRange T9 (-1) 8 = C
   obtain ⟨C, T10⟩ := C
   simp -dsimp
   try refine ⟨?_, ⟨by kernel_rfl⟩⟩
   obtain ⟨Z, hZ⟩ : ∃ Z : List Tb, Z = (Y ++ [W]) := ⟨_, rfl⟩
   have hsZ : SmL Z := by rw [hZ]; exact hZB
   refine ALoop.of [] (fun k => k==0||k==1||k==2||k==3||k==8||k==9||k==10||k==12||k==13||k==14||k==15||k==16||k==17||k==18||k==19||k==30||k==38||k==58||k==94) (ι := { i : Nat // i ≤ 2 })
    (fun z => [(Pl.s 8, It.v (TV.d (D.bool false))), (Pl.s 12, It.v (TV.d (D.sl (tbs Z)))), (Pl.o 13, It.box [TV.d (D.int IntKind.i64 A), TV.d (D.int IntKind.i64 B), TV.d (D.int IntKind.i64 C), TV.d (D.int IntKind.i64 r), TV.d (D.int IntKind.i64 id), TV.d (D.int IntKind.i64 plane)]), (Pl.s 13, It.v (TV.ptr (Pl.o 13) 0)), (Pl.s 14, It.v (TV.d (D.int IntKind.i64 z.1)))])
    (fun z => 2 - z.1) ⟨0, by omega⟩ ?_ ?_
   ·exact GS.viewS 12 (by simp [hZ, tbs, Tb.cs, rwsD_eq])
   clear hZ
   rintro ⟨i, i1⟩
   obtain rfl | rfl | rfl : i = 0 ∨ i = 1 ∨ i = 2 := by omega
   ·have h1 := path_c Z hsZ A B C
    have h2 := path14_c Z hsZ A B C
    have hl := pathV_len Z A B C
    have hZn := hsZ.n
    generalize pathV Z A B C = U at h1 h2 hl
    obtain ⟨U, e⟩ := U
    simp only at hl
    have h3 := ints04_c U U (by omega)
    simp only [pathT, ints] at h1 h2 h3
    simp -dsimp
    and_intros
    all_goals try first | omega | exact ⟨by kernel_rfl⟩
    refine ACall.of h1 [] 0 ?_
    simp -dsimp
    and_intros
    all_goals try first | omega | exact ⟨by kernel_rfl⟩
    refine ACall.of h2 [] 0 ?_
    simp -dsimp
    and_intros
    all_goals try first | omega | exact ⟨by kernel_rfl⟩
    refine ACall.of h3 [] 0 ?_
    simp -dsimp [wrap_i64 (n := 1) (by omega) (by omega), wrap_i64 (n := 2) (by omega) (by omega)]
    and_intros
    all_goals try first | omega | exact ⟨by kernel_rfl⟩
    exact ⟨⟨0+1, by omega⟩, GS.to (by simp), by simp <;> omega⟩
   ·have h1 := path_c Z hsZ r id plane
    have h2 := path14_c Z hsZ r id plane
    have hl := pathV_len Z r id plane
    have hZn := hsZ.n
    generalize pathV Z r id plane = U at h1 h2 hl
    obtain ⟨U, e⟩ := U
    simp only at hl
    have h3 := ints04_c U U (by omega)
    simp only [pathT, ints] at h1 h2 h3
    simp -dsimp
    and_intros
    all_goals try first | omega | exact ⟨by kernel_rfl⟩
    refine ACall.of h1 [] 0 ?_
    simp -dsimp
    and_intros
    all_goals try first | omega | exact ⟨by kernel_rfl⟩
    refine ACall.of h2 [] 0 ?_
    simp -dsimp
    and_intros
    all_goals try first | omega | exact ⟨by kernel_rfl⟩
    refine ACall.of h3 [] 0 ?_
    simp -dsimp [wrap_i64 (n := 1) (by omega) (by omega), wrap_i64 (n := 2) (by omega) (by omega)]
    and_intros
    all_goals try first | omega | exact ⟨by kernel_rfl⟩
    exact ⟨⟨1+1, by omega⟩, GS.to (by simp), by simp <;> omega⟩
   ·simp -dsimp
    try refine ⟨?_, ⟨by kernel_rfl⟩⟩
    refine ACall.of awake14_c [] 0 ?_
    simp -dsimp
    try refine ⟨?_, ⟨by kernel_rfl⟩⟩
    refine Fin.of ?_
    simp
 ·simp -dsimp [eq_false w0]
  as_aux_lemma =>
  refine ACall.of (one_c T4 kN 10 ⟨by omega, by omega⟩ ⟨by omega, by omega⟩) [.o 3010] 0 ?_
  have kO6 : TapeOK (gOne T4 10).2 := by simpa using kN
  generalize gOne T4 10 = o at kO6 ⊢
  obtain ⟨o, T6⟩ := o
  simp only at kO6 ⊢
  rcases (Bool.eq_false_or_eq_true o).symm with rfl | rfl
  ·as_aux_lemma =>
   simp -dsimp [topT]
   refine ACall.of (router_c T6 kO6 g.rs g.ls ⟨d5, by omega⟩ 6 (by omega)) [.o 3010] 0 ?_
   have kA : TapeOK (gRouter T6 g.rs 6).2 := by rw [gRouter_ok]; exact kO6
   generalize gRouter T6 g.rs 6 = A at kA ⊢
   obtain ⟨A, T7⟩ := A
   simp only at kA ⊢
   simp -dsimp [topT]
   refine ACall.of (rangeS_c T7 kA 0 9 (by omega)) [.o 3010] 0 ?_
   have kB : TapeOK (gRange T7 0 9).2 := by simpa using kA
   generalize gRange T7 0 9 = B at kB ⊢
   obtain ⟨B, T8⟩ := B
   simp only at kB ⊢
   simp -dsimp
   refine ACall.of (rangeS_c T8 kB (-1) 8 (by omega)) [.o 3010] 0 ?_
   generalize gRange T8 (-1) 8 = C
   obtain ⟨C, T9⟩ := C
   simp -dsimp
   try refine ⟨?_, ⟨by kernel_rfl⟩⟩
   obtain ⟨Z, hZ⟩ : ∃ Z : List Tb, Z = X := ⟨_, rfl⟩
   have hsZ : SmL Z := by rw [hZ]; exact hsX
   refine ALoop.of [] (fun k => k==0||k==1||k==2||k==3||k==8||k==9||k==10||k==12||k==13||k==14||k==15||k==16||k==17||k==18||k==19||k==30||k==38||k==58||k==94) (ι := { i : Nat // i ≤ 2 })
    (fun z => [(Pl.s 8, It.v (TV.d (D.bool false))), (Pl.s 12, It.v (TV.d (D.sl (tbs Z)))), (Pl.o 13, It.box [TV.d (D.int IntKind.i64 A), TV.d (D.int IntKind.i64 B), TV.d (D.int IntKind.i64 C), TV.d (D.int IntKind.i64 r), TV.d (D.int IntKind.i64 id), TV.d (D.int IntKind.i64 plane)]), (Pl.s 13, It.v (TV.ptr (Pl.o 13) 0)), (Pl.s 14, It.v (TV.d (D.int IntKind.i64 z.1)))])
    (fun z => 2 - z.1) ⟨0, by omega⟩ ?_ ?_
   ·exact GS.viewS 12 (by simp [hZ, tbs, Tb.cs, rwsD_eq])
   clear hZ
   rintro ⟨i, i1⟩
   obtain rfl | rfl | rfl : i = 0 ∨ i = 1 ∨ i = 2 := by omega
   ·have h1 := path_c Z hsZ A B C
    have h2 := path14_c Z hsZ A B C
    have hl := pathV_len Z A B C
    have hZn := hsZ.n
    generalize pathV Z A B C = U at h1 h2 hl
    obtain ⟨U, e⟩ := U
    simp only at hl
    have h3 := ints04_c U U (by omega)
    simp only [pathT, ints] at h1 h2 h3
    simp -dsimp
    and_intros
    all_goals try first | omega | exact ⟨by kernel_rfl⟩
    refine ACall.of h1 [] 0 ?_
    simp -dsimp
    and_intros
    all_goals try first | omega | exact ⟨by kernel_rfl⟩
    refine ACall.of h2 [] 0 ?_
    simp -dsimp
    and_intros
    all_goals try first | omega | exact ⟨by kernel_rfl⟩
    refine ACall.of h3 [] 0 ?_
    simp -dsimp [wrap_i64 (n := 1) (by omega) (by omega), wrap_i64 (n := 2) (by omega) (by omega)]
    and_intros
    all_goals try first | omega | exact ⟨by kernel_rfl⟩
    exact ⟨⟨0+1, by omega⟩, GS.to (by simp), by simp <;> omega⟩
   ·have h1 := path_c Z hsZ r id plane
    have h2 := path14_c Z hsZ r id plane
    have hl := pathV_len Z r id plane
    have hZn := hsZ.n
    generalize pathV Z r id plane = U at h1 h2 hl
    obtain ⟨U, e⟩ := U
    simp only at hl
    have h3 := ints04_c U U (by omega)
    simp only [pathT, ints] at h1 h2 h3
    simp -dsimp
    and_intros
    all_goals try first | omega | exact ⟨by kernel_rfl⟩
    refine ACall.of h1 [] 0 ?_
    simp -dsimp
    and_intros
    all_goals try first | omega | exact ⟨by kernel_rfl⟩
    refine ACall.of h2 [] 0 ?_
    simp -dsimp
    and_intros
    all_goals try first | omega | exact ⟨by kernel_rfl⟩
    refine ACall.of h3 [] 0 ?_
    simp -dsimp [wrap_i64 (n := 1) (by omega) (by omega), wrap_i64 (n := 2) (by omega) (by omega)]
    and_intros
    all_goals try first | omega | exact ⟨by kernel_rfl⟩
    exact ⟨⟨1+1, by omega⟩, GS.to (by simp), by simp <;> omega⟩
   ·simp -dsimp
    try refine ⟨?_, ⟨by kernel_rfl⟩⟩
    refine ACall.of awake14_c [] 0 ?_
    simp -dsimp
    try refine ⟨?_, ⟨by kernel_rfl⟩⟩
    refine Fin.of ?_
    simp
  ·as_aux_lemma =>
   simp -dsimp
   refine ACall.of (table_c T6 kO6 2 (by omega)) [.o 3010] 0 ?_
   have kT2 : TapeOK (gTab T6 2).2 := by rw [gTab_tape]; exact kO6
   have hsB := gTab_sm T6 2
   generalize gTab T6 2 = B at kT2 hsB ⊢
   obtain ⟨W, T7⟩ := B
   simp only at kT2 hsB ⊢
   have hZB : SmL (X ++ [W]) := ⟨by simp; omega, fun b hb => by
    rcases List.mem_append.1 hb with hb | hb
    ·exact hsX.t b hb
    ·simp at hb; subst hb; exact hsB⟩
   simp -dsimp [tblT, rwsD_eq, topT]
   and_intros
   all_goals try first | omega | exact ⟨by kernel_rfl⟩
   refine ACall.of (router_c T7 kT2 g.rs g.ls ⟨d5, by omega⟩ 6 (by omega)) [.o 3010] 0 ?_
   have kA : TapeOK (gRouter T7 g.rs 6).2 := by rw [gRouter_ok]; exact kT2
   generalize gRouter T7 g.rs 6 = A at kA ⊢
   obtain ⟨A, T8⟩ := A
   simp only at kA ⊢
   simp -dsimp [topT]
   refine ACall.of (rangeS_c T8 kA 0 9 (by omega)) [.o 3010] 0 ?_
   have kB : TapeOK (gRange T8 0 9).2 := by simpa using kA
   generalize gRange T8 0 9 = B at kB ⊢
   obtain ⟨B, T9⟩ := B
   simp only at kB ⊢
   simp -dsimp
   refine ACall.of (rangeS_c T9 kB (-1) 8 (by omega)) [.o 3010] 0 ?_
   generalize gRange T9 (-1) 8 = C
   obtain ⟨C, T10⟩ := C
   simp -dsimp
   try refine ⟨?_, ⟨by kernel_rfl⟩⟩
   obtain ⟨Z, hZ⟩ : ∃ Z : List Tb, Z = (X ++ [W]) := ⟨_, rfl⟩
   have hsZ : SmL Z := by rw [hZ]; exact hZB
   refine ALoop.of [] (fun k => k==0||k==1||k==2||k==3||k==8||k==9||k==10||k==12||k==13||k==14||k==15||k==16||k==17||k==18||k==19||k==30||k==38||k==58||k==94) (ι := { i : Nat // i ≤ 2 })
    (fun z => [(Pl.s 8, It.v (TV.d (D.bool false))), (Pl.s 12, It.v (TV.d (D.sl (tbs Z)))), (Pl.o 13, It.box [TV.d (D.int IntKind.i64 A), TV.d (D.int IntKind.i64 B), TV.d (D.int IntKind.i64 C), TV.d (D.int IntKind.i64 r), TV.d (D.int IntKind.i64 id), TV.d (D.int IntKind.i64 plane)]), (Pl.s 13, It.v (TV.ptr (Pl.o 13) 0)), (Pl.s 14, It.v (TV.d (D.int IntKind.i64 z.1)))])
    (fun z => 2 - z.1) ⟨0, by omega⟩ ?_ ?_
   ·exact GS.viewS 12 (by simp [hZ, tbs, Tb.cs, rwsD_eq])
   clear hZ
   rintro ⟨i, i1⟩
   obtain rfl | rfl | rfl : i = 0 ∨ i = 1 ∨ i = 2 := by omega
   ·have h1 := path_c Z hsZ A B C
    have h2 := path14_c Z hsZ A B C
    have hl := pathV_len Z A B C
    have hZn := hsZ.n
    generalize pathV Z A B C = U at h1 h2 hl
    obtain ⟨U, e⟩ := U
    simp only at hl
    have h3 := ints04_c U U (by omega)
    simp only [pathT, ints] at h1 h2 h3
    simp -dsimp
    and_intros
    all_goals try first | omega | exact ⟨by kernel_rfl⟩
    refine ACall.of h1 [] 0 ?_
    simp -dsimp
    and_intros
    all_goals try first | omega | exact ⟨by kernel_rfl⟩
    refine ACall.of h2 [] 0 ?_
    simp -dsimp
    and_intros
    all_goals try first | omega | exact ⟨by kernel_rfl⟩
    refine ACall.of h3 [] 0 ?_
    simp -dsimp [wrap_i64 (n := 1) (by omega) (by omega), wrap_i64 (n := 2) (by omega) (by omega)]
    and_intros
    all_goals try first | omega | exact ⟨by kernel_rfl⟩
    exact ⟨⟨0+1, by omega⟩, GS.to (by simp), by simp <;> omega⟩
   ·have h1 := path_c Z hsZ r id plane
    have h2 := path14_c Z hsZ r id plane
    have hl := pathV_len Z r id plane
    have hZn := hsZ.n
    generalize pathV Z r id plane = U at h1 h2 hl
    obtain ⟨U, e⟩ := U
    simp only at hl
    have h3 := ints04_c U U (by omega)
    simp only [pathT, ints] at h1 h2 h3
    simp -dsimp
    and_intros
    all_goals try first | omega | exact ⟨by kernel_rfl⟩
    refine ACall.of h1 [] 0 ?_
    simp -dsimp
    and_intros
    all_goals try first | omega | exact ⟨by kernel_rfl⟩
    refine ACall.of h2 [] 0 ?_
    simp -dsimp
    and_intros
    all_goals try first | omega | exact ⟨by kernel_rfl⟩
    refine ACall.of h3 [] 0 ?_
    simp -dsimp [wrap_i64 (n := 1) (by omega) (by omega), wrap_i64 (n := 2) (by omega) (by omega)]
    and_intros
    all_goals try first | omega | exact ⟨by kernel_rfl⟩
    exact ⟨⟨1+1, by omega⟩, GS.to (by simp), by simp <;> omega⟩
   ·simp -dsimp
    try refine ⟨?_, ⟨by kernel_rfl⟩⟩
    refine ACall.of awake14_c [] 0 ?_
    simp -dsimp
    try refine ⟨?_, ⟨by kernel_rfl⟩⟩
    refine Fin.of ?_
    simp
end Go.Proofs
