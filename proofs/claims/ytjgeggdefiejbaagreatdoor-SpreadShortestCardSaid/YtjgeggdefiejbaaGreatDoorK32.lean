/-
  What functions of the program compute, stated as contracts over plain data; the conditions of each stand in its own statement.
-/
import Derived.Test.YtjgeggdefiejbaaGreatDoorK31
import Derived.Test.YtjgeggdefiejbaaGreatDoorRows
import Derived.Test.YtjgeggdefiejbaaGreatDoorK12
import Derived.OpenShut
import Derived.MakeChecks
import Derived.FnData
import Derived.LaidMore
import Derived.Test.YtjgeggdefiejbaaGreatDoorK29
import Derived.Test.YtjgeggdefiejbaaGreatDoorK13
set_option linter.unusedSimpArgs false
set_option maxRecDepth 100000
set_option maxHeartbeats 8000000
namespace Go.Proofs
open Go Go.Tr
theorem bRow_id (g : Topo) (r : Int) (e : Ed) : (bRow g r e).id = e.id := rfl
theorem sshortest_law (L : List Int) (hL : ∀ x ∈ L, I64 x) : Contract Tryz.prog 8 [.d (ints L)] [] (.d (.bool true)) [] [] := by
 refine contract_of Tryz.func8 rfl (fun E0 => ?_)
 refine awp.sound (g := .mk) (ow := []) (kp := (fun k => k==0||k==2||k==3||k==4||k==5||k==6||k==7||k==8||k==9||k==10||k==11||k==12||k==13||k==14||k==15||k==16||k==17||k==18||k==19||k==20||k==21||k==22||k==23||k==24||k==46||k==81||k==92||k==102||k==119||k==138||k==144||k==181)) ?_
 rw [Tryz.ntmps8]
 simp -dsimp [ints]
 refine ACall.of (new_c L) [] 3000 ?_
 simp -dsimp [ints]
 have kT : TapeOK (L.take 600, 0) := tape_new L hL
 generalize (L.take 600, 0) = T0 at kT ⊢
 refine ACall.of (domainO_c T0 kT 7 (by omega)) [.o 3010] 2000 ?_
 obtain ⟨d1, d2, d3, d4, d5, d6⟩ := gDom_ok T0 (most := 7) (by omega)
 obtain ⟨hDV, hCap⟩ := gDom_valid T0 (most := 7) (by omega)
 have kD : TapeOK (gDom T0 7).2.2.2 := d3.symm ▸ kT
 clear d3
 generalize gDom T0 7 = D0 at d1 d2 d4 d5 d6 kD hDV hCap ⊢
 obtain ⟨g, p, X, T1⟩ := D0
 simp only at d1 d2 d4 d5 d6 kD hDV hCap
 have hsX : SmL X := ⟨by omega, fun b hb => chk_sm (d2 b hb)⟩
 simp -dsimp [topT, planT]
 try refine ⟨?_, ⟨by kernel_rfl⟩⟩
 refine ACall.view [6] ?_
 simp -dsimp [topT, planT]
 refine ACall.of (router0_c T1 kD g.rs g.ls ⟨d5, by omega⟩) [.o 3010] 0 ?_
 have hnx : 0 ≤ (gNext T1 g.rs.length).1 ∧ (gNext T1 g.rs.length).1 < g.rs.length := ⟨gNext_nonneg _ _, gNext_lt _ (by omega)⟩
 generalize gNext T1 g.rs.length = A at hnx
 obtain ⟨A, T3⟩ := A
 simp only at hnx ⊢
 obtain ⟨x0, hx0⟩ : ∃ x0, x0 = g.rs.getD A.toNat ⟨0, false⟩ := ⟨_, rfl⟩
 have hxm : x0 ∈ g.rs := by
  rw [hx0, List.getD_eq_getElem?_getD, List.getElem?_eq_getElem (by omega : A.toNat < g.rs.length)]
  exact List.getElem_mem _
 rw [← hx0]
 have hO := chkT_zero hDV.top.ok
 have hr : hasR g.rs x0.id = true := hasR_mem.2 (List.mem_map.2 ⟨x0, hxm, rfl⟩)
 clear hx0
 generalize x0.id = r at hr
 have hX := hDV.tab
 have hfd := tabs_find hO p r
 rw [if_pos (hCap.cap hO hr), ← hX] at hfd
 have hf := find11_c X hsX r
 rw [hfd] at hf
 simp only [foundT, Option.getD_some, Option.isSome_some, tblT] at hf
 simp -dsimp [topT, planT]
 try refine ⟨?_, ⟨by kernel_rfl⟩⟩
 refine ACall.of hf [] 0 ?_
 simp -dsimp [topT, planT]
 try refine ⟨?_, ⟨by kernel_rfl⟩⟩
 have hgS : g.Sm := hO.sm
 have hPl := hDV.plan
 have hsm : (buildT g p r).Sm := chk_sm (d2 _ (findT_mem hfd).1)
 refine ALoop.of [] (fun k => k==0||k==2||k==3||k==4||k==5||k==6||k==7||k==8||k==9||k==10||k==11||k==12||k==13||k==14||k==15||k==16||k==17||k==18||k==19||k==20||k==21||k==22||k==23||k==24||k==46||k==81||k==92||k==102||k==119||k==138||k==144||k==181) (ι := { i : Nat // i ≤ p.es.length }) (fun z => [(Pl.o 4, It.box [TV.d (D.sl (rts g.rs)), TV.d (D.sl (lks g.ls))]), (Pl.s 4, It.v (TV.ptr (Pl.o 4) 0)), (Pl.o 5, It.box [TV.d (D.int IntKind.i64 p.subd), TV.d (D.int IntKind.i64 p.len), TV.d (D.sl (eds p.es))]), (Pl.s 5, It.v (TV.ptr (Pl.o 5) 0)), (Pl.s 6, It.v (TV.d (D.sl (tbs X)))), (Pl.s 7, It.v (TV.d (D.int IntKind.i64 r))), (Pl.o 8, It.box [TV.d (D.int IntKind.i64 (buildT g p r).r), TV.d (D.int IntKind.i64 (buildT g p r).sd), TV.d (D.int IntKind.i64 (buildT g p r).len), TV.d (rwsD (buildT g p r).rows)]), (Pl.s 8, It.v (TV.ptr (Pl.o 8) 0)), (Pl.s 9, It.v (TV.d (D.bool true))), (Pl.s 10, It.v (TV.d (D.int IntKind.i64 z.1)))]) (fun z => p.es.length - z.1) ⟨0, by omega⟩ ?_ ?_
 ·exact GS.to (by simp)
 rintro ⟨i, i1⟩
 by_cases hi : i < p.es.length
 ·have hiz : (i : Int) < p.es.length := by omega
  have hge : p.es[i]? = some p.es[i] := List.getElem?_eq_getElem hi
  have he : p.es[i] ∈ p.es := List.getElem_mem hi
  generalize p.es[i] = e at hge he
  have hE := short_edge hDV.top.ok hCap hPl he hr
  rw [← hX] at hE
  have hP := paths_c X hsX r e.id
  have hmem := pgo_mem X r e.id 8 0 [] (by simp)
  change ∀ x ∈ (spathR X r e.id).1, _ at hmem
  have hC := cost06_c g hgS r e.r
  have hR := row11_c (buildT g p r) hsm.rows hsm.nx e.id
  rw [build_row hPl he] at hR
  have hbl := hsm.nx (bRow g r e) (List.mem_map_of_mem he)
  simp only [rowT, Option.getD_some, Option.isSome_some, rwT, bRow_id] at hR
  generalize (bRow g r e).nx = nx at hR hE hbl
  rcases hE with ⟨d, hd, hdm, h0, h8, hw, hnx⟩ | ⟨hd, hne, hG⟩
  ·rw [hd] at hC
   generalize spathR X r e.id = G at hP hmem h0 h8 hw hnx
   obtain ⟨G, er⟩ := G
   simp only at h0 h8 hw hnx hP
   subst h0
   simp -dsimp [hiz, hge, topT, planT, eds, Ed.cs]
   have hml : ∀ x ∈ G, x.length ≤ 1000000 := fun x hx => by have := hmem x hx; omega
   simp only [ps] at hP
   simp only [topT, priceT, Option.getD_some, Option.isSome_some] at hC
   simp only [tblT] at hR
   and_intros
   all_goals try first | omega | exact ⟨by kernel_rfl⟩ | rfl
   refine ACall.of hP [] 0 ?_
   simp -dsimp
   and_intros
   all_goals try first | omega | exact ⟨by kernel_rfl⟩ | rfl
   refine ACall.of hC [] 0 ?_
   simp -dsimp
   and_intros
   all_goals try first | omega | exact ⟨by kernel_rfl⟩ | rfl
   refine ACall.of hR [] 0 ?_
   simp -dsimp
   and_intros
   all_goals try first | omega | exact ⟨by kernel_rfl⟩ | rfl
   refine ALoop.of [] (fun k => k==0||k==2||k==3||k==4||k==5||k==6||k==7||k==8||k==9||k==10||k==11||k==12||k==13||k==14||k==15||k==16||k==17||k==18||k==19||k==20||k==21||k==22||k==23||k==24||k==46||k==81||k==92||k==102||k==119||k==138||k==144||k==181) (ι := { k : Nat // k ≤ 8 })
    (fun z => [(Pl.o 4, It.box [TV.d (D.sl (rts g.rs)), TV.d (D.sl (lks g.ls))]), (Pl.s 4, It.v (TV.ptr (Pl.o 4) 0)), (Pl.o 5, It.box [TV.d (D.int IntKind.i64 p.subd), TV.d (D.int IntKind.i64 p.len), TV.d (D.sl (eds p.es))]), (Pl.s 5, It.v (TV.ptr (Pl.o 5) 0)), (Pl.s 6, It.v (TV.d (D.sl (tbs X)))), (Pl.s 7, It.v (TV.d (D.int IntKind.i64 r))), (Pl.o 8, It.box [TV.d (D.int IntKind.i64 (buildT g p r).r), TV.d (D.int IntKind.i64 (buildT g p r).sd), TV.d (D.int IntKind.i64 (buildT g p r).len), TV.d (rwsD (buildT g p r).rows)]), (Pl.s 8, It.v (TV.ptr (Pl.o 8) 0)), (Pl.s 9, It.v (TV.d (D.bool true))), (Pl.s 10, It.v (TV.d (D.int IntKind.i64 i))), (Pl.o 11, It.box [TV.d (D.int IntKind.i64 e.r), TV.d (D.int IntKind.i64 e.id)]), (Pl.s 11, It.v (TV.ptr (Pl.o 11) 0)), (Pl.s 12, It.v (TV.d (ps G))), (Pl.s 14, It.v (TV.d (D.int IntKind.i64 d))), (Pl.s 15, It.v (TV.d (D.bool true))), (Pl.o 16, It.box [TV.d (D.int IntKind.i64 e.id), TV.d (ints nx)]), (Pl.s 16, It.v (TV.ptr (Pl.o 16) 0)), (Pl.s 17, It.v (TV.d (D.bool true))), (Pl.s 18, It.v (TV.d (ints (bgn (G.take z.1))))), (Pl.s 19, It.v (TV.d (D.int IntKind.i64 z.1)))])
    (fun z => 8 - z.1) ⟨0, by omega⟩ ?_ ?_
   ·exact GS.viewS 18 (by simp [bgn, ints, ps, eds])
   rintro ⟨k, k1⟩
   by_cases hk : k < 8
   ·have hkz : (k : Int) < G.length := by omega
    obtain ⟨ws, w1, w2, w3⟩ := hw k hk
    have hwl := hml ws (List.mem_of_getElem? w1)
    have hbt := bgn_take w1
    have hbl2 := bgn_len (G.take k)
    rw [List.length_take] at hbl2
    have hk8 : k < G.length := by omega
    simp -dsimp [hkz, hk8, ps]
    and_intros
    all_goals try first | omega | exact ⟨by kernel_rfl⟩ | rfl
    refine ALoop.of [] (fun k => k==0||k==2||k==3||k==4||k==5||k==6||k==7||k==8||k==9||k==10||k==11||k==12||k==13||k==14||k==15||k==16||k==17||k==18||k==19||k==20||k==21||k==22||k==23||k==24||k==46||k==81||k==92||k==102||k==119||k==138||k==144||k==181) (ι := { j : Nat // j ≤ ws.length })
     (fun z => [(Pl.o 4, It.box [TV.d (D.sl (rts g.rs)), TV.d (D.sl (lks g.ls))]), (Pl.s 4, It.v (TV.ptr (Pl.o 4) 0)), (Pl.o 5, It.box [TV.d (D.int IntKind.i64 p.subd), TV.d (D.int IntKind.i64 p.len), TV.d (D.sl (eds p.es))]), (Pl.s 5, It.v (TV.ptr (Pl.o 5) 0)), (Pl.s 6, It.v (TV.d (D.sl (tbs X)))), (Pl.s 7, It.v (TV.d (D.int IntKind.i64 r))), (Pl.o 8, It.box [TV.d (D.int IntKind.i64 (buildT g p r).r), TV.d (D.int IntKind.i64 (buildT g p r).sd), TV.d (D.int IntKind.i64 (buildT g p r).len), TV.d (rwsD (buildT g p r).rows)]), (Pl.s 8, It.v (TV.ptr (Pl.o 8) 0)), (Pl.s 9, It.v (TV.d (D.bool true))), (Pl.s 10, It.v (TV.d (D.int IntKind.i64 i))), (Pl.o 11, It.box [TV.d (D.int IntKind.i64 e.r), TV.d (D.int IntKind.i64 e.id)]), (Pl.s 11, It.v (TV.ptr (Pl.o 11) 0)), (Pl.s 12, It.v (TV.d (ps G))), (Pl.s 14, It.v (TV.d (D.int IntKind.i64 d))), (Pl.s 15, It.v (TV.d (D.bool true))), (Pl.o 16, It.box [TV.d (D.int IntKind.i64 e.id), TV.d (ints nx)]), (Pl.s 16, It.v (TV.ptr (Pl.o 16) 0)), (Pl.s 17, It.v (TV.d (D.bool true))), (Pl.s 18, It.v (TV.d (ints (bgn (G.take k))))), (Pl.s 19, It.v (TV.d (D.int IntKind.i64 k))), (Pl.s 20, It.v (TV.d (D.int IntKind.i64 (lastR r (ws.take z.1))))), (Pl.s 21, It.v (TV.d (D.int IntKind.i64 ((costW g r (ws.take z.1)).getD 0)))), (Pl.s 22, It.v (TV.d (D.int IntKind.i64 z.1)))])
     (fun z => ws.length - z.1) ⟨0, by omega⟩ ?_ ?_
    ·exact GS.to (by simp [lastR, costW, ps, ints])
    rintro ⟨j, j1⟩
    by_cases hj : j < ws.length
    ·have hjz : (j : Int) < ws.length := by omega
     have hgj : ws[j]? = some ws[j] := List.getElem?_eq_getElem hj
     obtain ⟨w, hw0⟩ : ∃ w, ws[j] = w := ⟨_, rfl⟩
     rw [hw0] at hgj
     obtain ⟨c, q, x1, x2, x3, x4, x5, x6, x7⟩ := costW_at hO w3 hgj
     have hPr := price05_c g hgS (lastR r (ws.take j)) w
     rw [x2] at hPr
     simp only [topT, priceT, Option.getD_some, Option.isSome_some] at hPr
     simp -dsimp [hjz, hj, w1, hgj, hw0, ps, ints, x1]
     and_intros
     all_goals try first | omega | exact ⟨by kernel_rfl⟩ | rfl
     refine ACall.of hPr [] 0 ?_
     simp -dsimp [hjz, hj, w1, hgj, hw0, ps, ints, x1, wrap_i64 (n := c + q) (by omega) (by omega), wrap_i64 (n := (j : Int) + 1) (by omega) (by omega)]
     and_intros
     all_goals try first | omega | exact ⟨by kernel_rfl⟩ | rfl
     exact ⟨⟨j + 1, by omega⟩, GS.to (by simp [x3, x4, ps, ints]), by simp; omega⟩
    ·have hjz : ¬ (j : Int) < ws.length := by omega
     obtain rfl : j = ws.length := by omega
     simp only [List.take_length, w2, w3, Option.getD_some]
     cases hws : ws with
     | nil =>
       subst hws
       simp -dsimp [hjz, w1, ps, ints, wrap_i64 (n := (k : Int) + 1) (by omega) (by omega)]
       and_intros
       all_goals try first | omega | exact ⟨by kernel_rfl⟩ | rfl
       exact ⟨⟨k + 1, by omega⟩, GS.to (by simp [hbt, stp, ps, ints]), by simp; omega⟩
     | cons y us =>
       subst hws
       have hI := insert04_c (bgn (G.take k)) (by omega) y
       simp only [ints] at hI
       simp -dsimp [hjz, w1, ps, ints]
       and_intros
       all_goals try first | omega | exact ⟨by kernel_rfl⟩ | rfl
       refine ACall.of hI [] 0 ?_
       simp -dsimp [w1, ps, ints, wrap_i64 (n := (k : Int) + 1) (by omega) (by omega)]
       and_intros
       all_goals try first | omega | exact ⟨by kernel_rfl⟩ | rfl
       exact ⟨⟨k + 1, by omega⟩, GS.to (by simp [hbt, stp, ps, ints]), by simp; omega⟩
   ·have hkz : ¬ (k : Int) < G.length := by omega
    obtain rfl : k = 8 := by omega
    have hk8 : ¬ 8 < G.length := by omega
    simp only [show G.take 8 = G by rw [← h8, List.take_length]]
    have hIn := ints04_c (bgn G) nx (by have := bgn_len G; omega)
    simp only [ints] at hIn
    by_cases her : e.r = r
    ·simp -dsimp [hkz, hk8, her, h8, ps, ints, wrap_i64 (n := (i : Int) + 1) (by omega) (by omega)]
     and_intros
     all_goals try first | omega | exact ⟨by kernel_rfl⟩ | rfl
     exact ⟨⟨i + 1, by omega⟩, GS.to (by simp [ps, ints, eds]), by simp; omega⟩
    ·by_cases hn8 : nx.length ≤ 8
     ·rw [hnx her hn8] at hIn ⊢
      have hn8z : (nx.length : Int) ≤ 8 := by omega
      simp -dsimp [hkz, hk8, her, h8, ps, ints, hn8, hn8z]
      and_intros
      all_goals try first | omega | exact ⟨by kernel_rfl⟩ | rfl
      refine ACall.of hIn [] 0 ?_
      simp -dsimp [hkz, hk8, her, h8, ps, ints, hn8, hn8z, wrap_i64 (n := (i : Int) + 1) (by omega) (by omega)]
      and_intros
      all_goals try first | omega | exact ⟨by kernel_rfl⟩ | rfl
      exact ⟨⟨i + 1, by omega⟩, GS.to (by simp [ps, ints, eds]), by simp; omega⟩
     ·have hn8z : ¬ (nx.length : Int) ≤ 8 := by omega
      simp -dsimp [hkz, hk8, her, h8, ps, ints, hn8, hn8z, wrap_i64 (n := (i : Int) + 1) (by omega) (by omega)]
      and_intros
      all_goals try first | omega | exact ⟨by kernel_rfl⟩ | rfl
      exact ⟨⟨i + 1, by omega⟩, GS.to (by simp [ps, ints, eds]), by simp; omega⟩
  ·rw [hd] at hC
   rw [hG] at hP
   simp only [ps, List.map_nil] at hP
   simp only [topT, priceT, Option.getD_none, Option.isSome_none] at hC
   simp only [tblT] at hR
   simp -dsimp [hiz, hge, topT, planT, eds, Ed.cs]
   and_intros
   all_goals try first | omega | exact ⟨by kernel_rfl⟩ | rfl
   refine ACall.of hP [] 0 ?_
   simp -dsimp
   and_intros
   all_goals try first | omega | exact ⟨by kernel_rfl⟩ | rfl
   refine ACall.of hC [] 0 ?_
   simp -dsimp
   and_intros
   all_goals try first | omega | exact ⟨by kernel_rfl⟩ | rfl
   refine ACall.of hR [] 0 ?_
   simp -dsimp
   and_intros
   all_goals try first | omega | exact ⟨by kernel_rfl⟩ | rfl
   refine ALoop.of [] (fun k => k==0||k==2||k==3||k==4||k==5||k==6||k==7||k==8||k==9||k==10||k==11||k==12||k==13||k==14||k==15||k==16||k==17||k==18||k==19||k==20||k==21||k==22||k==23||k==24||k==46||k==81||k==92||k==102||k==119||k==138||k==144||k==181) (ι := Unit)
    (fun z => [(Pl.o 4, It.box [TV.d (D.sl (rts g.rs)), TV.d (D.sl (lks g.ls))]), (Pl.s 4, It.v (TV.ptr (Pl.o 4) 0)), (Pl.o 5, It.box [TV.d (D.int IntKind.i64 p.subd), TV.d (D.int IntKind.i64 p.len), TV.d (D.sl (eds p.es))]), (Pl.s 5, It.v (TV.ptr (Pl.o 5) 0)), (Pl.s 6, It.v (TV.d (D.sl (tbs X)))), (Pl.s 7, It.v (TV.d (D.int IntKind.i64 r))), (Pl.o 8, It.box [TV.d (D.int IntKind.i64 (buildT g p r).r), TV.d (D.int IntKind.i64 (buildT g p r).sd), TV.d (D.int IntKind.i64 (buildT g p r).len), TV.d (rwsD (buildT g p r).rows)]), (Pl.s 8, It.v (TV.ptr (Pl.o 8) 0)), (Pl.s 9, It.v (TV.d (D.bool true))), (Pl.s 10, It.v (TV.d (D.int IntKind.i64 i))), (Pl.o 11, It.box [TV.d (D.int IntKind.i64 e.r), TV.d (D.int IntKind.i64 e.id)]), (Pl.s 11, It.v (TV.ptr (Pl.o 11) 0)), (Pl.s 12, It.v (TV.d (D.sl []))), (Pl.s 15, It.v (TV.d (D.bool false))), (Pl.o 16, It.box [TV.d (D.int IntKind.i64 e.id), TV.d (ints nx)]), (Pl.s 16, It.v (TV.ptr (Pl.o 16) 0)), (Pl.s 17, It.v (TV.d (D.bool true))), (Pl.s 18, It.v (TV.d (ints []))), (Pl.s 19, It.v (TV.d (D.int IntKind.i64 0)))])
    (fun z => 0) () ?_ ?_
   ·exact GS.viewS 18 (by simp [ints, ps, eds])
   rintro ⟨⟩
   simp -dsimp [wrap_i64 (n := (i : Int) + 1) (by omega) (by omega)]
   and_intros
   all_goals try first | omega | exact ⟨by kernel_rfl⟩ | rfl
   exact ⟨⟨i + 1, by omega⟩, GS.to (by simp [ps, ints, eds]), by simp; omega⟩
 ·have hiz : ¬ (i : Int) < p.es.length := by omega
  obtain rfl : i = p.es.length := by omega
  simp -dsimp [hiz, eds]
  and_intros
  all_goals try first | omega | exact ⟨by kernel_rfl⟩ | rfl
  refine ACall.of awake15_c [] 0 ?_
  simp -dsimp
  and_intros
  all_goals try first | omega | exact ⟨by kernel_rfl⟩ | rfl
  refine Fin.of ?_
  simp
end Go.Proofs

set_option linter.unusedSimpArgs false
namespace Go.Proofs.YtjgeggdefiejbaaGreatDoor
open Go Go.Tr
set_option maxRecDepth 100000
def laidT : List (String × DataW Unit) := [("math/bits.deBruijn64tab", Rows.laid_math_bits_deBruijn64tab)]
theorem gDeb : Tryz.prog.globalNamed "math/bits.deBruijn64tab" = some 0 := by kernel_rfl
theorem tDeb : (Tryz.prog.globals[0]?).map (·.type) = some 191 := by kernel_rfl
theorem uDeb : Tryz.prog.underlying 191 = some (.array 64 5) := by kernel_rfl
theorem uByte : Tryz.prog.underlying 5 = some (.int .u8) := by kernel_rfl
theorem cByte : Tryz.prog.cellsOf 5 = 1 := by kernel_rfl
theorem debData {H : Type} : (Rows.laid_math_bits_deBruijn64tab : DataW H) = .agg (deb.map fun n => .lit (.int .u8 n)) := rfl
theorem glob_of_laid {W : World} (h : laidMetH Tryz.prog laidT W) : GlobW W := by
 rw [MakeChecks.laidMetH_plain _ _ _ (by kernel_rfl)] at h
 obtain ⟨ps, ⟨g0, t0, cs0, f0, p0, q0, hg0, ht0, hv0, hd0, _⟩, _, _⟩ := h
 obtain rfl := Option.some.inj (gDeb.symm.trans hg0)
 obtain rfl := Option.some.inj (tDeb.symm.trans ht0)
 obtain ⟨xs, m1, rfl, hx1, hlen, hn, hel⟩ := DataW.trod_array uDeb hd0
 simp only [Prod.mk.injEq, debData, DataW.agg.injEq] at hx1
 have hcell : ∀ i : Nat, i < 64 → cs0[i]? = some (.int .u8 (deb.getD i 0)) := fun i hi => by
  have h1 := hel i hi
  rw [cByte, Nat.mul_one] at h1
  have h2 : xs[i]? = some xs[i] := List.getElem?_eq_getElem (by omega)
  rw [h2] at h1
  obtain ⟨n, e1, e2, _⟩ := DataW.trod_int uByte h1
  have h3 : (xs.map (·.1))[i]? = (deb.map fun n => (DataW.lit (Lit.int .u8 n) : DataW Unit))[i]? := by rw [← hx1.1]
  rw [List.getElem?_map, h2, Option.map_some, e2, List.getElem?_map] at h3
  have h4 : deb[i]? = some n := by
   cases hd : deb[i]? with
   | none => rw [hd] at h3; simp at h3
   | some k => rw [hd] at h3; simp at h3; rw [h3]
  have h5 : cs0.toList[i]? = some (.int .u8 n) := by
   have := congrArg (fun l => l[0]?) e1
   simp only [List.getElem?_take, List.getElem?_drop] at this
   simpa using this
  rw [List.getD_eq_getElem?_getD, h4, Option.getD_some]
  simpa using h5
 have hbl : 0 < W.heap.size := by
  have := World.var?_cell hg0 hv0 0
  rw [hcell 0 (by omega)] at this
  exact World.block_lt_of_cell? W ⟨0, 0, none⟩ this
 intro y hy
 simp only [globs, List.mem_singleton] at hy
 subst hy
 refine RepCells.of_get fun i x hx => ?_
 simp only [List.getElem?_map, Option.map_eq_some_iff] at hx
 obtain ⟨n, h1, rfl⟩ := hx
 have hi : i < 64 := (List.getElem?_eq_some_iff.1 h1).1
 refine ⟨hbl, .int .u8 n, ?_, by simp only [Rep]⟩
 have := World.var?_cell hg0 hv0 i
 rw [hcell i hi, List.getD_eq_getElem?_getD, h1, Option.getD_some] at this
 rw [Nat.zero_add]
 exact this
end Go.Proofs.YtjgeggdefiejbaaGreatDoor

namespace Go.Proofs
open Go Go.Tr
end Go.Proofs
