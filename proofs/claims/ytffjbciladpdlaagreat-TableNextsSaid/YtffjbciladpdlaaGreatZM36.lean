/-
  What functions of the program compute, stated as contracts over plain data; the conditions of each stand in its own statement.
-/
import Derived.Test.YtffjbciladpdlaaGreatZM35
set_option linter.unusedSimpArgs false
set_option linter.unusedVariables false
set_option maxRecDepth 100000
set_option maxHeartbeats 16000000
namespace Go.Proofs
open Go Go.Tr
theorem nexts_law (L : List Int) (hL : ∀ x ∈ L, I64 x) : Contract Tryz.prog 5 [.d (ints L)] [] (.d (.bool true)) [] [] := by
 refine contract_of Tryz.func5 rfl (fun E0 => ?_)
 refine awp.sound (g := .mk) (ow := []) (kp := (fun k => k==0||k==2||k==3||k==4||k==5||k==6||k==7||k==8||k==9||k==10||k==11||k==39||k==44||k==61||k==66||k==83)) ?_
 rw [Tryz.ntmps5]
 simp -dsimp [ints]
 refine ACall.of (new_c L) [] 3000 ?_
 simp -dsimp [ints]
 have kT : TapeOK (L.take 600, 0) := tape_new L hL
 generalize (L.take 600, 0) = T0 at kT ⊢
 try refine ⟨rfl, ?_⟩
 refine ACall.of (topo_c T0 kT 7 (by omega)) [.o 3010] 0 ?_
 have hV := gTop_valid T0 (most := 7) (by omega)
 have hAC : AllCap (gTop T0 7).1 := fun x hx => (gRts_mem.1 (show x ∈ gRts (gRange T0 1 7).1.toNat from hx)).1
 have k1 : TapeOK (gTop T0 7).2 := by simpa using kT
 generalize gTop T0 7 = G at hV hAC k1 ⊢
 obtain ⟨g, T1⟩ := G
 simp only at hV hAC k1 ⊢
 have hn := hV.n
 have h0 := hV.ok
 have hsm := (chkT_zero h0).sm
 have hP := plan_valid hV (by omega) T1
 have hPb := planB_of hP
 have hPl := planB_len hPb
 simp -dsimp [topT]
 refine ACall.of (plan_c T1 k1 g.rs g.ls (by omega) 0 (by omega)) [.o 3010] 0 ?_
 have k2 : TapeOK (gPlan T1 g.rs 0).2 := (gPlan_zero T1 g.rs).1 ▸ k1
 generalize gPlan T1 g.rs 0 = P at hP hPb hPl k2 ⊢
 obtain ⟨p, T2⟩ := P
 simp only at hP hPb hPl k2 ⊢
 simp -dsimp [planT]
 refine ACall.of (router0_c T2 k2 g.rs g.ls (by omega)) [.o 3010] 0 ?_
 have hr : hasR g.rs (g.rs.getD (gNext T2 g.rs.length).1.toNat ⟨0, false⟩).id = true := by
  have b1 := gNext_nonneg T2 g.rs.length
  have b2 := gNext_lt T2 (n := g.rs.length) (by omega)
  have h3 : (gNext T2 g.rs.length).1.toNat < g.rs.length := by omega
  rw [List.getD_eq_getElem?_getD, List.getElem?_eq_getElem h3]
  exact hasR_mem.2 (List.mem_map.2 ⟨_, List.getElem_mem h3, rfl⟩)
 generalize (g.rs.getD (gNext T2 g.rs.length).1.toNat ⟨0, false⟩).id = r at hr ⊢
 generalize (gNext T2 g.rs.length).2 = T3
 have hb := tbuildT_c g hsm p (by omega) r
 have hbR : bldR g p r = (buildT g p r, 0) := by
  unfold bldR
  rw [if_pos ⟨h0, hPb⟩, if_pos hr, if_pos (allcap_has hAC hr)]
 rw [hbR] at hb
 simp only [topT, planT, bldT, tblT, rwsD_eq] at hb
 simp -dsimp
 refine ACall.of hb [] 0 ?_
 have hrl : (buildT g p r).rows.length = p.es.length := by simp [buildT]
 simp -dsimp [hrl]
 try refine ⟨?_, ⟨by kernel_rfl⟩⟩
 have hrow : ∀ e ∈ p.es, (bRow g r e).nx.length ≤ 24 := fun e he => (chk_parts (buildT_ok h0 hPb hr)).2.2.1 _ (List.mem_map.2 ⟨e, he, rfl⟩)
 have hR : ∀ i, (h : i < p.es.length) → (rws (buildT g p r).rows)[i]? = some (bRow g r p.es[i]).cs := fun i h => by simp [rws, buildT, h]
 refine ALoop.of [] (fun k => k==0||k==2||k==3||k==4||k==5||k==6||k==7||k==8||k==9||k==10||k==11||k==39||k==44||k==61||k==66||k==83) (ι := { i : Nat // i ≤ p.es.length })
  (fun z => [(Pl.s 2, It.v (.d (.bool false))), (Pl.o 4, It.box [.d (.sl (rts g.rs)), .d (.sl (lks g.ls))]), (Pl.s 4, It.v (.ptr (.o 4) 0)), (Pl.o 5, It.box [.d (.int .i64 p.subd), .d (.int .i64 p.len), .d (.sl (eds p.es))]), (Pl.s 5, It.v (.ptr (.o 5) 0)), (Pl.s 6, It.v (.d (.int .i64 r))),
   (Pl.o 7, It.box [.d (.int .i64 (buildT g p r).r), .d (.int .i64 (buildT g p r).sd), .d (.int .i64 (buildT g p r).len), .d (.sl (rws (buildT g p r).rows))]), (Pl.s 7, It.v (.ptr (.o 7) 0)), (Pl.s 9, It.v (.d (.int .i64 z.1)))])
  (fun z => p.es.length - z.1) ⟨0, by omega⟩ ?_ ?_
 ·exact GS.to (by simp)
 ·rintro ⟨i, i1⟩
  by_cases hi : i < p.es.length
  ·have hiz : (i : Int) < p.es.length := by omega
   have hx : p.es[i]? = some p.es[i] := List.getElem?_eq_getElem hi
   have hRi := hR i hi
   have hrw := hrow p.es[i] (List.getElem_mem hi)
   generalize p.es[i] = e at hx hRi hrw
   have hx' := eds_get hx
   have hiz' : (i : Int) < (buildT g p r).rows.length := by omega
   have w1 : IntKind.i64.wrap ((i : Int) + 1) = (i : Int) + 1 := wrap_i64 (by omega) (by omega)
   by_cases he : e.r = r
   ·have hnx : (bRow g r e).nx = [r] := by simp [bRow, he]
    have k6 := ints04_c [r] [r] (by simp)
    simp only [ints, List.map] at k6
    simp -dsimp [hiz, hiz', hx', hRi, Ed.cs, Rw.cs, he, hnx, ints, w1]
    and_intros
    all_goals try first | omega | exact ⟨by kernel_rfl⟩ | rfl
    refine ACall.of k6 [] 0 ?_
    simp -dsimp [w1]
    and_intros
    all_goals try first | omega | exact ⟨by kernel_rfl⟩ | rfl
    exact ⟨⟨i + 1, by omega⟩, GS.to (by simp), by simp; omega⟩
   ·obtain ⟨m1, m2⟩ := nexts_ok h0 hAC hr he
    have k6 := tNext_c g hsm r e.r
    have k7 := ints04_c (bRow g r e).nx (bRow g r e).nx (by omega)
    have k8 := connected05_c g hsm r e.r
    rw [← m1] at k6
    rw [← m2] at k8
    simp only [topT] at k6 k8
    simp -dsimp [hiz, hiz', hx', hRi, Ed.cs, Rw.cs, he, w1]
    refine ACall.of k6 [] 0 ?_
    simp -dsimp
    refine ACall.of k7 [] 0 ?_
    simp -dsimp [ints]
    refine ACall.of k8 [] 0 ?_
    by_cases hl : 0 < (bRow g r e).nx.length
    ·simp -dsimp [hl, w1]
     and_intros
     all_goals try first | omega | exact ⟨by kernel_rfl⟩ | rfl
     exact ⟨⟨i + 1, by omega⟩, GS.to (by simp), by simp; omega⟩
    ·simp -dsimp [hl, w1]
     and_intros
     all_goals try first | omega | exact ⟨by kernel_rfl⟩ | rfl
     exact ⟨⟨i + 1, by omega⟩, GS.to (by simp), by simp; omega⟩
  ·have hiz : ¬ (i : Int) < p.es.length := by omega
   simp -dsimp [hiz]
   refine ACall.of awake11_c [] 0 ?_
   simp -dsimp
   and_intros
   all_goals try first | rfl | omega | exact ⟨by kernel_rfl⟩
   refine Fin.of ?_
   simp
end Go.Proofs
