/-
  What functions of the program compute, stated as contracts over plain data; the conditions of each stand in its own statement.
-/
import Derived.Test.YtjgeggdefiejbaaGreatDoorSP5
set_option linter.unusedSimpArgs false
set_option maxRecDepth 100000
set_option maxHeartbeats 8000000
namespace Go.Proofs
open Go Go.Tr
theorem spaths_law (L : List Int) (hL : ∀ x ∈ L, I64 x) (r id : Int) : Contract Tryz.prog 7 [.d (ints L), .d (.int .i64 r), .d (.int .i64 id)] [] (.d (.bool true)) [] [] := by
 refine contract_of Tryz.func7 rfl (fun E0 => ?_)
 refine awp.sound (g := .mk) (ow := []) (kp := (fun k => k==0||k==1||k==2||k==6||k==7||k==8||k==10||k==11||k==12||k==13||k==14||k==15||k==16||k==17||k==18||k==19||k==20||k==21||k==31||k==49||k==87||k==91||k==103||k==137)) ?_
 rw [Tryz.ntmps7]
 simp -dsimp [ints]
 refine ACall.of (new_c L) [] 3000 ?_
 simp -dsimp [ints]
 have kT : TapeOK (L.take 600, 0) := tape_new L hL
 generalize (L.take 600, 0) = T0 at kT ⊢
 refine ACall.of (domainO_c T0 kT 6 (by omega)) [.o 3010] 2000 ?_
 obtain ⟨d1, d2, d3, d4, d5, d6⟩ := gDom_ok T0 (most := 6) (by omega)
 have kD : TapeOK (gDom T0 6).2.2.2 := d3.symm ▸ kT
 clear d3
 generalize gDom T0 6 = D0 at d1 d2 d4 d5 d6 kD ⊢
 obtain ⟨g, p, X, T1⟩ := D0
 simp only at d1 d2 d4 d5 d6 kD
 simp -dsimp [topT, planT]
 refine ACall.of (one_c T1 kD 3 ⟨by omega, by omega⟩ ⟨by omega, by omega⟩) [.o 3010] 0 ?_
 have kN : TapeOK (gOne T1 3).2 := by simpa using kD
 generalize gOne T1 3 = W at kN ⊢
 obtain ⟨w, T4⟩ := W
 simp only at kN ⊢
 have hsX : SmL X := ⟨by omega, fun b hb => chk_sm (d2 b hb)⟩
 have hrw : ∀ b ∈ X, b.rows.length ≤ 256 ∧ ∀ x ∈ b.rows, x.nx.length ≤ 24 := fun b hb => ⟨(chk_parts (d2 b hb)).2.1, (chk_parts (d2 b hb)).2.2.1⟩
 rcases (Bool.eq_false_or_eq_true w) with rfl | rfl
 ·as_aux_lemma =>
  simp -dsimp [topT]
  refine ACall.of (wrongO_c T4 kN X hsX g.rs.length ⟨by omega, by omega⟩) [.o 3010] 4000 ?_
  have kW : TapeOK (wrT g.rs.length X T4).2 := by rw [wrT_tape]; exact kN
  have hsY : SmL (wrT g.rs.length X T4).1 := ⟨by rw [wrT_len]; omega, wrT_sm _ _ _ hrw⟩
  generalize wrT g.rs.length X T4 = Y at kW hsY ⊢
  obtain ⟨Y, T5⟩ := Y
  simp only at kW hsY ⊢
  simp -dsimp [topT]
  refine ACall.of (router_c T5 kW g.rs g.ls ⟨d5, by omega⟩ 6 (by omega)) [.o 3010] 0 ?_
  have kA : TapeOK (gRouter T5 g.rs 6).2 := by rw [gRouter_ok]; exact kW
  generalize gRouter T5 g.rs 6 = A at kA ⊢
  obtain ⟨A, T6⟩ := A
  simp only at kA ⊢
  simp -dsimp [topT]
  refine ACall.of (rangeS_c T6 kA 0 9 (by omega)) [.o 3010] 0 ?_
  generalize gRange T6 0 9 = B
  obtain ⟨B, T7⟩ := B
  simp -dsimp
  try refine ⟨?_, ⟨by kernel_rfl⟩⟩
  obtain ⟨Z, hZ⟩ : ∃ Z : List Tb, Z = Y := ⟨_, rfl⟩
  have hsZ : SmL Z := by rw [hZ]; exact hsY
  refine ALoop.of [] (fun k => k==0||k==1||k==2||k==6||k==7||k==8||k==10||k==11||k==12||k==13||k==14||k==15||k==16||k==17||k==18||k==19||k==20||k==21||k==31||k==49||k==87||k==91||k==103||k==137) (ι := { i : Nat // i ≤ 2 })
   (fun z => [(Pl.s 6, It.v (TV.d (D.bool false))), (Pl.s 10, It.v (TV.d (D.sl (tbs Z)))), (Pl.o 11, It.box [TV.d (D.int IntKind.i64 A), TV.d (D.int IntKind.i64 B), TV.d (D.int IntKind.i64 r), TV.d (D.int IntKind.i64 id)]), (Pl.s 11, It.v (TV.ptr (Pl.o 11) 0)), (Pl.s 12, It.v (TV.d (D.int IntKind.i64 z.1)))])
   (fun z => 2 - z.1) ⟨0, by omega⟩ ?_ ?_
  ·exact GS.viewS 10 (by simp [hZ, tbs, Tb.cs, rwsD_eq])
  clear hZ
  rintro ⟨i, i1⟩
  obtain rfl | rfl | rfl : i = 0 ∨ i = 1 ∨ i = 2 := by omega
  ·as_aux_lemma =>
   have h1 := paths_c Z hsZ A B
   have h2 := paths15_c Z hsZ A B
   have h3 := dist_c Z hsZ A B
   have h4 := dist15_c Z hsZ A B
   have hm := pgo_mem Z A B 8 0 [] (by simp)
   change ∀ x ∈ (spathR Z A B).1, _ at hm
   have hZn := hsZ.n
   have hU := spathR_len Z A B
   generalize spathR Z A B = U at h1 h2 h3 h4 hm hU
   obtain ⟨U, e⟩ := U
   simp only at hm h3 h4 hU
   generalize dcnt U U.length = dn at h3 h4
   simp only [ps] at h1 h2
   simp -dsimp
   and_intros
   all_goals try first | omega | exact ⟨by kernel_rfl⟩ | rfl
   refine ACall.of h1 [] 0 ?_
   simp -dsimp
   and_intros
   all_goals try first | omega | exact ⟨by kernel_rfl⟩ | rfl
   refine ACall.of h2 [] 0 ?_
   simp -dsimp
   and_intros
   all_goals try first | omega | exact ⟨by kernel_rfl⟩ | rfl
   refine ALoop.of [] (fun k => k==0||k==1||k==2||k==6||k==7||k==8||k==10||k==11||k==12||k==13||k==14||k==15||k==16||k==17||k==18||k==19||k==20||k==21||k==31||k==49||k==87||k==91||k==103||k==137) (ι := { k : Nat // k ≤ U.length })
    (fun z => [(Pl.s 6, It.v (TV.d (D.bool false))), (Pl.s 10, It.v (TV.d (D.sl (tbs Z)))), (Pl.o 11, It.box [TV.d (D.int IntKind.i64 A), TV.d (D.int IntKind.i64 B), TV.d (D.int IntKind.i64 r), TV.d (D.int IntKind.i64 id)]), (Pl.s 11, It.v (TV.ptr (Pl.o 11) 0)), (Pl.s 12, It.v (TV.d (D.int IntKind.i64 0))), (Pl.s 13, It.v (TV.d (ps U))), (Pl.s 15, It.v (TV.d (ps U))), (Pl.s 17, It.v (TV.d (D.int IntKind.i64 z.1)))])
    (fun z => U.length - z.1) ⟨0, by omega⟩ ?_ ?_
   ·exact GS.to (by simp [ps])
   rintro ⟨k, k1⟩
   by_cases hk : k < U.length
   ·have hkz : (k : Int) < U.length := by omega
    have hg : U[k]? = some U[k] := List.getElem?_eq_getElem hk
    have hgl := hm U[k] (List.getElem_mem hk)
    generalize U[k] = x at hg hgl
    have h5 := ints04_c x x (by omega)
    simp only [ints] at h5
    simp -dsimp [hkz, hg, ps, ints]
    and_intros
    all_goals try first | omega | exact ⟨by kernel_rfl⟩ | rfl
    refine ACall.of h5 [] 0 ?_
    simp -dsimp [wrap_i64 (n := (k : Int) + 1) (by omega) (by omega)]
    and_intros
    all_goals try first | omega | exact ⟨by kernel_rfl⟩ | rfl
    exact ⟨⟨k + 1, by omega⟩, GS.to (by simp [ps, ints]), by simp; omega⟩
   ·have hkz : ¬ (k : Int) < U.length := by omega
    obtain rfl : k = U.length := by omega
    simp -dsimp [hkz, ps]
    and_intros
    all_goals try first | omega | exact ⟨by kernel_rfl⟩ | rfl
    refine ACall.of h3 [] 0 ?_
    simp -dsimp
    and_intros
    all_goals try first | omega | exact ⟨by kernel_rfl⟩ | rfl
    refine ACall.of h4 [] 0 ?_
    simp -dsimp [wrap_i64 (n := 1) (by omega) (by omega), wrap_i64 (n := 2) (by omega) (by omega)]
    and_intros
    all_goals try first | omega | exact ⟨by kernel_rfl⟩ | rfl
    exact ⟨⟨0+1, by omega⟩, GS.to (by simp), by simp <;> omega⟩
  ·as_aux_lemma =>
   have h1 := paths_c Z hsZ r id
   have h2 := paths15_c Z hsZ r id
   have h3 := dist_c Z hsZ r id
   have h4 := dist15_c Z hsZ r id
   have hm := pgo_mem Z r id 8 0 [] (by simp)
   change ∀ x ∈ (spathR Z r id).1, _ at hm
   have hZn := hsZ.n
   have hU := spathR_len Z r id
   generalize spathR Z r id = U at h1 h2 h3 h4 hm hU
   obtain ⟨U, e⟩ := U
   simp only at hm h3 h4 hU
   generalize dcnt U U.length = dn at h3 h4
   simp only [ps] at h1 h2
   simp -dsimp
   and_intros
   all_goals try first | omega | exact ⟨by kernel_rfl⟩ | rfl
   refine ACall.of h1 [] 0 ?_
   simp -dsimp
   and_intros
   all_goals try first | omega | exact ⟨by kernel_rfl⟩ | rfl
   refine ACall.of h2 [] 0 ?_
   simp -dsimp
   and_intros
   all_goals try first | omega | exact ⟨by kernel_rfl⟩ | rfl
   refine ALoop.of [] (fun k => k==0||k==1||k==2||k==6||k==7||k==8||k==10||k==11||k==12||k==13||k==14||k==15||k==16||k==17||k==18||k==19||k==20||k==21||k==31||k==49||k==87||k==91||k==103||k==137) (ι := { k : Nat // k ≤ U.length })
    (fun z => [(Pl.s 6, It.v (TV.d (D.bool false))), (Pl.s 10, It.v (TV.d (D.sl (tbs Z)))), (Pl.o 11, It.box [TV.d (D.int IntKind.i64 A), TV.d (D.int IntKind.i64 B), TV.d (D.int IntKind.i64 r), TV.d (D.int IntKind.i64 id)]), (Pl.s 11, It.v (TV.ptr (Pl.o 11) 0)), (Pl.s 12, It.v (TV.d (D.int IntKind.i64 1))), (Pl.s 13, It.v (TV.d (ps U))), (Pl.s 15, It.v (TV.d (ps U))), (Pl.s 17, It.v (TV.d (D.int IntKind.i64 z.1)))])
    (fun z => U.length - z.1) ⟨0, by omega⟩ ?_ ?_
   ·exact GS.to (by simp [ps])
   rintro ⟨k, k1⟩
   by_cases hk : k < U.length
   ·have hkz : (k : Int) < U.length := by omega
    have hg : U[k]? = some U[k] := List.getElem?_eq_getElem hk
    have hgl := hm U[k] (List.getElem_mem hk)
    generalize U[k] = x at hg hgl
    have h5 := ints04_c x x (by omega)
    simp only [ints] at h5
    simp -dsimp [hkz, hg, ps, ints]
    and_intros
    all_goals try first | omega | exact ⟨by kernel_rfl⟩ | rfl
    refine ACall.of h5 [] 0 ?_
    simp -dsimp [wrap_i64 (n := (k : Int) + 1) (by omega) (by omega)]
    and_intros
    all_goals try first | omega | exact ⟨by kernel_rfl⟩ | rfl
    exact ⟨⟨k + 1, by omega⟩, GS.to (by simp [ps, ints]), by simp; omega⟩
   ·have hkz : ¬ (k : Int) < U.length := by omega
    obtain rfl : k = U.length := by omega
    simp -dsimp [hkz, ps]
    and_intros
    all_goals try first | omega | exact ⟨by kernel_rfl⟩ | rfl
    refine ACall.of h3 [] 0 ?_
    simp -dsimp
    and_intros
    all_goals try first | omega | exact ⟨by kernel_rfl⟩ | rfl
    refine ACall.of h4 [] 0 ?_
    simp -dsimp [wrap_i64 (n := 1) (by omega) (by omega), wrap_i64 (n := 2) (by omega) (by omega)]
    and_intros
    all_goals try first | omega | exact ⟨by kernel_rfl⟩ | rfl
    exact ⟨⟨1+1, by omega⟩, GS.to (by simp), by simp <;> omega⟩
  ·simp -dsimp
   try refine ⟨?_, ⟨by kernel_rfl⟩⟩
   refine ACall.of awake15_c [] 0 ?_
   simp -dsimp
   try refine ⟨?_, ⟨by kernel_rfl⟩⟩
   refine Fin.of ?_
   simp
 ·as_aux_lemma =>
  simp -dsimp [topT]
  refine ACall.of (router_c T4 kN g.rs g.ls ⟨d5, by omega⟩ 6 (by omega)) [.o 3010] 0 ?_
  have kA : TapeOK (gRouter T4 g.rs 6).2 := by rw [gRouter_ok]; exact kN
  generalize gRouter T4 g.rs 6 = A at kA ⊢
  obtain ⟨A, T6⟩ := A
  simp only at kA ⊢
  simp -dsimp [topT]
  refine ACall.of (rangeS_c T6 kA 0 9 (by omega)) [.o 3010] 0 ?_
  generalize gRange T6 0 9 = B
  obtain ⟨B, T7⟩ := B
  simp -dsimp
  try refine ⟨?_, ⟨by kernel_rfl⟩⟩
  obtain ⟨Z, hZ⟩ : ∃ Z : List Tb, Z = X := ⟨_, rfl⟩
  have hsZ : SmL Z := by rw [hZ]; exact hsX
  refine ALoop.of [] (fun k => k==0||k==1||k==2||k==6||k==7||k==8||k==10||k==11||k==12||k==13||k==14||k==15||k==16||k==17||k==18||k==19||k==20||k==21||k==31||k==49||k==87||k==91||k==103||k==137) (ι := { i : Nat // i ≤ 2 })
   (fun z => [(Pl.s 6, It.v (TV.d (D.bool false))), (Pl.s 10, It.v (TV.d (D.sl (tbs Z)))), (Pl.o 11, It.box [TV.d (D.int IntKind.i64 A), TV.d (D.int IntKind.i64 B), TV.d (D.int IntKind.i64 r), TV.d (D.int IntKind.i64 id)]), (Pl.s 11, It.v (TV.ptr (Pl.o 11) 0)), (Pl.s 12, It.v (TV.d (D.int IntKind.i64 z.1)))])
   (fun z => 2 - z.1) ⟨0, by omega⟩ ?_ ?_
  ·exact GS.viewS 10 (by simp [hZ, tbs, Tb.cs, rwsD_eq])
  clear hZ
  rintro ⟨i, i1⟩
  obtain rfl | rfl | rfl : i = 0 ∨ i = 1 ∨ i = 2 := by omega
  ·as_aux_lemma =>
   have h1 := paths_c Z hsZ A B
   have h2 := paths15_c Z hsZ A B
   have h3 := dist_c Z hsZ A B
   have h4 := dist15_c Z hsZ A B
   have hm := pgo_mem Z A B 8 0 [] (by simp)
   change ∀ x ∈ (spathR Z A B).1, _ at hm
   have hZn := hsZ.n
   have hU := spathR_len Z A B
   generalize spathR Z A B = U at h1 h2 h3 h4 hm hU
   obtain ⟨U, e⟩ := U
   simp only at hm h3 h4 hU
   generalize dcnt U U.length = dn at h3 h4
   simp only [ps] at h1 h2
   simp -dsimp
   and_intros
   all_goals try first | omega | exact ⟨by kernel_rfl⟩ | rfl
   refine ACall.of h1 [] 0 ?_
   simp -dsimp
   and_intros
   all_goals try first | omega | exact ⟨by kernel_rfl⟩ | rfl
   refine ACall.of h2 [] 0 ?_
   simp -dsimp
   and_intros
   all_goals try first | omega | exact ⟨by kernel_rfl⟩ | rfl
   refine ALoop.of [] (fun k => k==0||k==1||k==2||k==6||k==7||k==8||k==10||k==11||k==12||k==13||k==14||k==15||k==16||k==17||k==18||k==19||k==20||k==21||k==31||k==49||k==87||k==91||k==103||k==137) (ι := { k : Nat // k ≤ U.length })
    (fun z => [(Pl.s 6, It.v (TV.d (D.bool false))), (Pl.s 10, It.v (TV.d (D.sl (tbs Z)))), (Pl.o 11, It.box [TV.d (D.int IntKind.i64 A), TV.d (D.int IntKind.i64 B), TV.d (D.int IntKind.i64 r), TV.d (D.int IntKind.i64 id)]), (Pl.s 11, It.v (TV.ptr (Pl.o 11) 0)), (Pl.s 12, It.v (TV.d (D.int IntKind.i64 0))), (Pl.s 13, It.v (TV.d (ps U))), (Pl.s 15, It.v (TV.d (ps U))), (Pl.s 17, It.v (TV.d (D.int IntKind.i64 z.1)))])
    (fun z => U.length - z.1) ⟨0, by omega⟩ ?_ ?_
   ·exact GS.to (by simp [ps])
   rintro ⟨k, k1⟩
   by_cases hk : k < U.length
   ·have hkz : (k : Int) < U.length := by omega
    have hg : U[k]? = some U[k] := List.getElem?_eq_getElem hk
    have hgl := hm U[k] (List.getElem_mem hk)
    generalize U[k] = x at hg hgl
    have h5 := ints04_c x x (by omega)
    simp only [ints] at h5
    simp -dsimp [hkz, hg, ps, ints]
    and_intros
    all_goals try first | omega | exact ⟨by kernel_rfl⟩ | rfl
    refine ACall.of h5 [] 0 ?_
    simp -dsimp [wrap_i64 (n := (k : Int) + 1) (by omega) (by omega)]
    and_intros
    all_goals try first | omega | exact ⟨by kernel_rfl⟩ | rfl
    exact ⟨⟨k + 1, by omega⟩, GS.to (by simp [ps, ints]), by simp; omega⟩
   ·have hkz : ¬ (k : Int) < U.length := by omega
    obtain rfl : k = U.length := by omega
    simp -dsimp [hkz, ps]
    and_intros
    all_goals try first | omega | exact ⟨by kernel_rfl⟩ | rfl
    refine ACall.of h3 [] 0 ?_
    simp -dsimp
    and_intros
    all_goals try first | omega | exact ⟨by kernel_rfl⟩ | rfl
    refine ACall.of h4 [] 0 ?_
    simp -dsimp [wrap_i64 (n := 1) (by omega) (by omega), wrap_i64 (n := 2) (by omega) (by omega)]
    and_intros
    all_goals try first | omega | exact ⟨by kernel_rfl⟩ | rfl
    exact ⟨⟨0+1, by omega⟩, GS.to (by simp), by simp <;> omega⟩
  ·as_aux_lemma =>
   have h1 := paths_c Z hsZ r id
   have h2 := paths15_c Z hsZ r id
   have h3 := dist_c Z hsZ r id
   have h4 := dist15_c Z hsZ r id
   have hm := pgo_mem Z r id 8 0 [] (by simp)
   change ∀ x ∈ (spathR Z r id).1, _ at hm
   have hZn := hsZ.n
   have hU := spathR_len Z r id
   generalize spathR Z r id = U at h1 h2 h3 h4 hm hU
   obtain ⟨U, e⟩ := U
   simp only at hm h3 h4 hU
   generalize dcnt U U.length = dn at h3 h4
   simp only [ps] at h1 h2
   simp -dsimp
   and_intros
   all_goals try first | omega | exact ⟨by kernel_rfl⟩ | rfl
   refine ACall.of h1 [] 0 ?_
   simp -dsimp
   and_intros
   all_goals try first | omega | exact ⟨by kernel_rfl⟩ | rfl
   refine ACall.of h2 [] 0 ?_
   simp -dsimp
   and_intros
   all_goals try first | omega | exact ⟨by kernel_rfl⟩ | rfl
   refine ALoop.of [] (fun k => k==0||k==1||k==2||k==6||k==7||k==8||k==10||k==11||k==12||k==13||k==14||k==15||k==16||k==17||k==18||k==19||k==20||k==21||k==31||k==49||k==87||k==91||k==103||k==137) (ι := { k : Nat // k ≤ U.length })
    (fun z => [(Pl.s 6, It.v (TV.d (D.bool false))), (Pl.s 10, It.v (TV.d (D.sl (tbs Z)))), (Pl.o 11, It.box [TV.d (D.int IntKind.i64 A), TV.d (D.int IntKind.i64 B), TV.d (D.int IntKind.i64 r), TV.d (D.int IntKind.i64 id)]), (Pl.s 11, It.v (TV.ptr (Pl.o 11) 0)), (Pl.s 12, It.v (TV.d (D.int IntKind.i64 1))), (Pl.s 13, It.v (TV.d (ps U))), (Pl.s 15, It.v (TV.d (ps U))), (Pl.s 17, It.v (TV.d (D.int IntKind.i64 z.1)))])
    (fun z => U.length - z.1) ⟨0, by omega⟩ ?_ ?_
   ·exact GS.to (by simp [ps])
   rintro ⟨k, k1⟩
   by_cases hk : k < U.length
   ·have hkz : (k : Int) < U.length := by omega
    have hg : U[k]? = some U[k] := List.getElem?_eq_getElem hk
    have hgl := hm U[k] (List.getElem_mem hk)
    generalize U[k] = x at hg hgl
    have h5 := ints04_c x x (by omega)
    simp only [ints] at h5
    simp -dsimp [hkz, hg, ps, ints]
    and_intros
    all_goals try first | omega | exact ⟨by kernel_rfl⟩ | rfl
    refine ACall.of h5 [] 0 ?_
    simp -dsimp [wrap_i64 (n := (k : Int) + 1) (by omega) (by omega)]
    and_intros
    all_goals try first | omega | exact ⟨by kernel_rfl⟩ | rfl
    exact ⟨⟨k + 1, by omega⟩, GS.to (by simp [ps, ints]), by simp; omega⟩
   ·have hkz : ¬ (k : Int) < U.length := by omega
    obtain rfl : k = U.length := by omega
    simp -dsimp [hkz, ps]
    and_intros
    all_goals try first | omega | exact ⟨by kernel_rfl⟩ | rfl
    refine ACall.of h3 [] 0 ?_
    simp -dsimp
    and_intros
    all_goals try first | omega | exact ⟨by kernel_rfl⟩ | rfl
    refine ACall.of h4 [] 0 ?_
    simp -dsimp [wrap_i64 (n := 1) (by omega) (by omega), wrap_i64 (n := 2) (by omega) (by omega)]
    and_intros
    all_goals try first | omega | exact ⟨by kernel_rfl⟩ | rfl
    exact ⟨⟨1+1, by omega⟩, GS.to (by simp), by simp <;> omega⟩
  ·simp -dsimp
   try refine ⟨?_, ⟨by kernel_rfl⟩⟩
   refine ACall.of awake15_c [] 0 ?_
   simp -dsimp
   try refine ⟨?_, ⟨by kernel_rfl⟩⟩
   refine Fin.of ?_
   simp
end Go.Proofs
