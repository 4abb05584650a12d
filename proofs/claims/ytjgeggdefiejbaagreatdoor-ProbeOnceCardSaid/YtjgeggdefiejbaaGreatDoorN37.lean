/-
  What functions of the program compute, stated as contracts over plain data; the conditions of each stand in its own statement.
-/
import Derived.Test.YtjgeggdefiejbaaGreatDoorN35
set_option linter.unusedSimpArgs false
set_option linter.unusedVariables false
set_option maxRecDepth 100000
set_option maxHeartbeats 8000000
namespace Go.Proofs
open Go Go.Tr
theorem rtR_path {l : List Tb} (hA : chkA l = 0) (hn : l.length ≤ 60) {r id en : Int} (hr : r ≠ 0) (he : 0 ≤ en) (h : (pathV l r id (en % 8)).2 = 0) : rtR l r id en = (pathV l r id (en % 8)).1 := by
 have hl := pathV_len l r id (en % 8)
 obtain ⟨ws, hD, hw⟩ := dl_of_path h hr
 rw [hw] at hl
 have hl2 : ws.length ≤ l.length + 1 := hl
 rw [hw]
 exact rtR_dl hD (by omega)
theorem proute_law (L : List Int) (hL : ∀ x ∈ L, I64 x) : Contract Tryz.prog 3 [.d (ints L)] [] (.d (.bool true)) [] [] := by
 refine contract_of Tryz.func3 rfl (fun E0 => ?_)
 refine awp.sound (g := .mk) (ow := []) (kp := (fun k => k==0||k==2||k==3||k==5||k==6||k==8||k==10||k==11||k==12||k==13||k==14||k==15||k==24||k==25||k==26||k==27||k==31||k==32||k==33||k==34||k==71)) ?_
 rw [Tryz.ntmps3]
 simp -dsimp [ints]
 refine ACall.of (newF_c L) [] 3000 ?_
 simp -dsimp [ints]
 have kT : TapeF (L.take 2000, 0) := tape_newF L hL
 generalize (L.take 2000, 0) = T0 at kT ⊢
 have hc := tables_c T0 kT
 have hV := gTabs_v T0
 have kG : TapeF (gTabs T0).2.2.2 := by simpa using kT
 generalize gTabs T0 = G at hc hV kG
 obtain ⟨g, p, l, T1⟩ := G
 simp only [topT, planT] at hc hV kG
 refine ACall.of hc [.o 3009] 0 ?_
 have hsm := hV.sm
 have hln := hsm.n
 have hTV := hV.tab.tabV hV.ok
 have hpe := hV.es
 simp -dsimp
 and_intros
 all_goals try first | omega | exact ⟨by kernel_rfl⟩ | rfl
 refine ALoop.of [] (fun k => k==0||k==2||k==3||k==5||k==6||k==8||k==10||k==11||k==12||k==13||k==14||k==15||k==24||k==25||k==26||k==27||k==31||k==32||k==33||k==34||k==71) (ι := { z : Nat × Tp // z.1 ≤ l.length ∧ TapeF z.2 })
  (fun z => [(Pl.o 5, It.box [TV.d (D.int IntKind.i64 p.subd), TV.d (D.int IntKind.i64 p.len), TV.d (D.sl (eds p.es))]), (Pl.s 5, It.v (TV.ptr (Pl.o 5) 0)), (Pl.s 6, It.v (TV.d (D.sl (tbs l)))), (Pl.s 24, It.v (TV.d (D.sl (tbs l)))), (Pl.s 25, It.v (TV.d (D.int IntKind.i64 l.length))), (Pl.s 3, It.v (TV.ptr (Pl.o 3009) 0)), (Pl.o 3009, tapeI z.1.2), (Pl.s 26, It.v (TV.d (D.int IntKind.i64 z.1.1)))]) (fun z => l.length - z.1.1) ⟨(0, T1), by omega, kG⟩ ?_ ?_
 ·exact GS.to (by simp [tbs])
 rintro ⟨⟨i, T2⟩, i1, kI⟩
 simp only at i1 kI
 by_cases hi : i < l.length
 ·have hiz : (i : Int) < l.length := by omega
  have hge : l[i]? = some l[i] := List.getElem?_eq_getElem hi
  have hbm : l[i] ∈ l := List.getElem_mem hi
  obtain ⟨b, hb0⟩ : ∃ b, l[i] = b := ⟨_, rfl⟩
  rw [hb0] at hge hbm
  have hbs := hsm.t b hbm
  simp -dsimp [hiz, hi, hge, hb0, tbs, Tb.cs]
  and_intros
  all_goals try first | omega | exact ⟨by kernel_rfl⟩ | rfl
  refine ALoop.of [] (fun k => k==0||k==2||k==3||k==5||k==6||k==8||k==10||k==11||k==12||k==13||k==14||k==15||k==24||k==25||k==26||k==27||k==31||k==32||k==33||k==34||k==71) (ι := { z : Nat × Tp // z.1 ≤ p.es.length ∧ TapeF z.2 })
   (fun z => [(Pl.o 5, It.box [TV.d (D.int IntKind.i64 p.subd), TV.d (D.int IntKind.i64 p.len), TV.d (D.sl (eds p.es))]), (Pl.s 5, It.v (TV.ptr (Pl.o 5) 0)), (Pl.s 6, It.v (TV.d (D.sl (tbs l)))), (Pl.s 24, It.v (TV.d (D.sl (tbs l)))), (Pl.s 25, It.v (TV.d (D.int IntKind.i64 l.length))), (Pl.s 3, It.v (TV.ptr (Pl.o 3009) 0)), (Pl.o 3009, tapeI z.1.2), (Pl.s 26, It.v (TV.d (D.int IntKind.i64 i))), (Pl.o 8, It.box [TV.d (D.int IntKind.i64 b.r), TV.d (D.int IntKind.i64 b.sd), TV.d (D.int IntKind.i64 b.len), TV.d (rwsD b.rows)]), (Pl.s 8, It.v (TV.ptr (Pl.o 8) 0)), (Pl.s 31, It.v (TV.d (D.sl (eds p.es)))), (Pl.s 32, It.v (TV.d (D.int IntKind.i64 p.es.length))), (Pl.s 33, It.v (TV.d (D.int IntKind.i64 z.1.1)))]) (fun z => p.es.length - z.1.1) ⟨(0, T2), by omega, kI⟩ ?_ ?_
  ·exact GS.to (by simp [tbs, eds, Tb.cs, rwsD])
  rintro ⟨⟨k, T3⟩, k1, kK⟩
  simp only at k1 kK
  by_cases hk : k < p.es.length
  ·have hkz : (k : Int) < p.es.length := by omega
   have hke : p.es[k]? = some p.es[k] := List.getElem?_eq_getElem hk
   have hem : p.es[k] ∈ p.es := List.getElem_mem hk
   obtain ⟨e, he0⟩ : ∃ e, p.es[k] = e := ⟨_, rfl⟩
   rw [he0] at hke hem
   have hN := nextF_c T3 kK 1024 ⟨by omega, by omega⟩
   have kN : TapeF (gNext T3 1024).2 := by simpa using kK
   have n1 := gNext_nonneg T3 1024
   have n2 := gNext_lt T3 (n := 1024) (by omega)
   generalize gNext T3 1024 = N at hN kN n1 n2
   obtain ⟨en, T4⟩ := N
   simp only at hN kN n1 n2
   have htm : en.tmod 8 = en % 8 := Int.tmod_eq_emod_of_nonneg n1
   have h1 := path14_c l hsm b.r e.id (en % 8)
   have h2 := proute_c l hsm b.r e.id en
   have hrp : (pathV l b.r e.id (en % 8)).2 = 0 → rtR l b.r e.id en = (pathV l b.r e.id (en % 8)).1 := rtR_path hTV.all (by have := hTV.n; omega) (hV.rpos hbm) n1
   have hP : rtP l b.r e.id en = (rtR l b.r e.id en, 0) := by unfold rtP; rw [if_neg (by simp [hV.one hbm hem (en := en) (ttl := 0) ⟨by omega, by omega⟩ ⟨by omega, by omega⟩])]
   rw [hP] at h2
   have hrl : (rtR l b.r e.id en).length ≤ 63 := by
    unfold rtR
    split
    ·simp
    ·have := rtL_len l b.r e.id (en % 8) 63 1 b.r []
     simpa using this
   have h3 := intsF_c (rtR l b.r e.id en) (pathV l b.r e.id (en % 8)).1 (by omega)
   generalize pathV l b.r e.id (en % 8) = V at h1 h3 hrp
   generalize rtR l b.r e.id en = R at h2 h3 hrp
   obtain ⟨V, er⟩ := V
   simp only [pathT, ints] at h1 h2 h3 hrp
   simp -dsimp [hkz, hk, hke, he0, eds, Ed.cs]
   and_intros
   all_goals try first | omega | exact ⟨by kernel_rfl⟩ | rfl
   refine ACall.of hN [.o 3009] 0 ?_
   simp -dsimp [htm]
   and_intros
   all_goals try first | omega | exact ⟨by kernel_rfl⟩ | rfl
   refine ACall.of h1 [] 0 ?_
   simp -dsimp [tbs]
   and_intros
   all_goals try first | omega | exact ⟨by kernel_rfl⟩ | rfl
   refine ACall.of h2 [] 0 ?_
   by_cases her : er = 0
   ·obtain rfl := hrp her
    simp only [decide_true] at h3
    simp -dsimp [her]
    and_intros
    all_goals try first | omega | exact ⟨by kernel_rfl⟩ | rfl
    refine ACall.of h3 [] 0 ?_
    simp -dsimp [her, wrap_i64 (n := (k : Int) + 1) (by omega) (by omega)]
    and_intros
    all_goals try first | omega | exact ⟨by kernel_rfl⟩ | rfl
    exact ⟨⟨(k + 1, T4), by omega, kN⟩, GS.to (by simp [tbs, eds, Tb.cs, rwsD]), by simp; omega⟩
   ·simp -dsimp [her, wrap_i64 (n := (k : Int) + 1) (by omega) (by omega)]
    and_intros
    all_goals try first | omega | exact ⟨by kernel_rfl⟩ | rfl
    exact ⟨⟨(k + 1, T4), by omega, kN⟩, GS.to (by simp [tbs, eds, Tb.cs, rwsD]), by simp; omega⟩
  have hkz : ¬ (k : Int) < p.es.length := by omega
  obtain rfl : k = p.es.length := by omega
  simp -dsimp [hkz, wrap_i64 (n := (i : Int) + 1) (by omega) (by omega)]
  and_intros
  all_goals try first | omega | exact ⟨by kernel_rfl⟩ | rfl
  exact ⟨⟨(i + 1, T3), by omega, kK⟩, GS.to (by simp [tbs, eds]), by simp; omega⟩
 have hiz : ¬ (i : Int) < l.length := by omega
 obtain rfl : i = l.length := by omega
 simp -dsimp [hiz]
 and_intros
 all_goals try first | omega | exact ⟨by kernel_rfl⟩ | rfl
 refine ACall.of awake35_c [] 0 ?_
 simp -dsimp
 and_intros
 all_goals try first | omega | exact ⟨by kernel_rfl⟩ | rfl
 refine Fin.of ?_
 simp
end Go.Proofs
