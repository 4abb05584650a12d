/-
  What functions of the program compute, stated as contracts over plain data; the conditions of each stand in its own statement.
-/
import Derived.Test.YteenclepbpajdaaGreatDoorM31
import Derived.Test.YteenclepbpajdaaGreatDoorM14
import Derived.Test.YteenclepbpajdaaGreatDoorM27
set_option linter.unusedSimpArgs false
set_option maxRecDepth 100000
set_option maxHeartbeats 4000000
namespace Go.Proofs
open Go Go.Tr
theorem all11O_c (g : Topo) (hg : g.Sm) (hc : chkT g = 0) (p : Pn) (a1 : planB p = true) (hp : p.es.length ≤ 1000) : Contract Tryz.prog 40 [topT g, planT p] [] (.tup [.oref 6 (tabs g p g.rs).length, .d (.int .i64 0)]) [] [(6, .row 58 4 (dd (tbs (tabs g p g.rs))) false)] := by
 have hr := hg.r
 refine contract_of Tryz.func40 rfl (fun E0 => ?_)
 refine awp.sound (g := .mk) (ow := []) (kp := (fun k => k==0||k==1||k==2||k==3||k==4||k==5||k==6||k==7||k==15||k==20||k==28)) ?_
 rw [Tryz.ntmps40]
 simp -dsimp [topT, planT]
 refine ACall.of (check05_c g hg.r hg.l) [] 0 ?_
 simp -dsimp [eq_true hc, topT]
 refine ACall.of (validPlan10_c p hp) [] 0 ?_
 have hn : g.rs.length ≤ 24 := (chkT_zero hc).nr
 simp -dsimp [eq_true hc, a1, planT]
 and_intros
 all_goals try first | rfl | omega | exact ⟨by kernel_rfl⟩
 refine ALoop.of [] (fun k => k==0||k==1||k==2||k==3||k==4||k==5||k==6||k==7||k==15||k==20||k==28) (ι := { i : Nat // i ≤ g.rs.length ∧ True }) (fun z => [(Pl.s 0, It.v (TV.agg [TV.d (D.sl (rts g.rs)), TV.d (D.sl (lks g.ls))])), (Pl.s 1, It.v (TV.agg [TV.d (D.int IntKind.i64 p.subd), TV.d (D.int IntKind.i64 p.len), TV.d (D.sl (eds p.es))])), (Pl.o 2, It.box [TV.d (D.sl (rts g.rs)), TV.d (D.sl (lks g.ls))]), (Pl.s 2, It.v (TV.ptr (Pl.o 2) 0)), (Pl.o 3, It.box [TV.d (D.int IntKind.i64 p.subd), TV.d (D.int IntKind.i64 p.len), TV.d (D.sl (eds p.es))]), (Pl.s 3, It.v (TV.ptr (Pl.o 3) 0)), (Pl.s 4, It.v (TV.c (Value.slice none 0 0))), (Pl.s 5, It.v (TV.d (D.int IntKind.i64 0))), (Pl.s 6, It.v (TV.oref 6 (tabD g p (g.rs.take z.1)).length)), (Pl.o 6, It.row 58 4 (dd (tabD g p (g.rs.take z.1))) false), (Pl.s 7, It.v (TV.d (D.int IntKind.i64 z.1)))]) (fun z => g.rs.length - z.1) ⟨0, by omega, trivial⟩ ?_ ?_
 ·exact GS.own' (k := 6) 58 4 (by simp) (by simp) (by simp [tabD, tabs])
 rintro ⟨i, i1, i2⟩
 by_cases hi : i < g.rs.length
 ·have hiz : (i : Int) < g.rs.length := by omega
  have hx : g.rs[i]? = some g.rs[i] := List.getElem?_eq_getElem hi
  have ht : g.rs.take (i + 1) = g.rs.take i ++ [g.rs[i]] := by rw [List.take_add_one, List.getElem?_eq_getElem hi]; rfl
  generalize g.rs[i] = x at hx ht
  have hx' := rts_get hx
  have hta := tabD_app g p (g.rs.take i) x
  have htl := tabD_len g p (g.rs.take i)
  rw [← ht] at hta
  simp at htl
  rcases (Bool.eq_false_or_eq_true x.cap).symm with c1 | c1
  ·rw [if_neg (by simp [c1])] at hta
   simp -dsimp [hiz, hx', Rt.cs, c1, wrap_i64 (n := (i : Int) + 1) (by omega) (by omega)]
   and_intros
   all_goals try first | rfl | omega | exact ⟨by kernel_rfl⟩
   exact ⟨⟨i + 1, by omega, trivial⟩, GS.to (by simp [hta]), by simp; omega⟩
  ·rw [if_pos c1] at hta
   simp -dsimp [hiz, hx', Rt.cs, c1]
   refine ACall.of (build11_c g hg p (by omega) x.id) [] 0 ?_
   simp -dsimp [hiz, hx', Rt.cs, c1, topT, planT, tblT, rwsD, wrap_i64 (n := (i : Int) + 1) (by omega) (by omega)]
   and_intros
   all_goals try first | rfl | omega | exact ⟨by kernel_rfl⟩
   exact ⟨⟨i + 1, by omega, trivial⟩, GS.to (by simp [hta, Tb.cs, rwsD]), by simp; omega⟩
 ·have hiz : ¬ (i : Int) < g.rs.length := by omega
  obtain rfl : i = g.rs.length := by omega
  simp -dsimp [hiz]
  refine Fin.of ?_
  simp [tabD, tbs]
theorem wrongO_c (T : Tp) (hT : TapeOK T) (l : List Tb) (hl : SmL l) (n : Int) (hn : 1 ≤ n ∧ n ≤ 1000) : Contract Tryz.prog 26 [.ptr (.x 0) 0, .d (.sl (tbs l)), .d (.int .i64 n)] [tapeI T] (.oref 7 (wrT n l T).1.length) [tapeI (wrT n l T).2] [(7, .row 58 4 (dd (tbs (wrT n l T).1)) false)] := by
 have hll := hl.n
 refine contract_of Tryz.func26 rfl (fun E0 => ?_)
 refine awp.sound (g := .mk) (ow := []) (kp := (fun k => k==0||k==1||k==2||k==6||k==7||k==8||k==9||k==10||k==11||k==12||k==16||k==28||k==33||k==35||k==44||k==70||k==79||k==86)) ?_
 rw [Tryz.ntmps26]
 simp -dsimp
 refine ALoop.of [] (fun k => k==0||k==1||k==2||k==6||k==7||k==8||k==9||k==10||k==11||k==12||k==16||k==28||k==33||k==35||k==44||k==70||k==79||k==86) (ι := { z : Nat × Tp × List Tb // z.1 ≤ l.length ∧ TapeOK z.2.1 ∧ z.2.2.length = z.1 ∧ wrT n l T = (z.2.2 ++ (wrT n (l.drop z.1) z.2.1).1, (wrT n (l.drop z.1) z.2.1).2) })
  (fun z => [(Pl.s 0, It.v (TV.ptr (Pl.x 0) 0)), (Pl.s 1, It.v (TV.d (D.sl (tbs l)))), (Pl.s 2, It.v (TV.d (D.int IntKind.i64 n))), (Pl.x 0, tapeI z.1.2.1), (Pl.s 6, It.v (TV.c (Value.slice none 0 0))),
   (Pl.s 7, It.v (TV.oref 7 z.1.2.2.length)), (Pl.o 7, It.row 58 4 (dd (tbs z.1.2.2)) false), (Pl.s 8, It.v (TV.d (D.int IntKind.i64 z.1.1)))]) (fun z => l.length - z.1.1) ⟨(0, T, []), by simp, hT, rfl, by simp⟩ ?_ ?_
 ·exact GS.own' (k := 7) 58 4 (by simp) (by simp) (by simp [tbs])
 rintro ⟨⟨i, T1, out⟩, i1, i2, i3, i4⟩
 simp only at i1 i2 i3 i4
 by_cases hi : i < l.length
 ·have hiz : (i : Int) < l.length := by omega
  have hx : l[i]? = some l[i] := List.getElem?_eq_getElem hi
  have hm := hl.t l[i] (List.getElem_mem hi)
  have hd : l.drop i = l[i] :: l.drop (i + 1) := List.drop_eq_getElem_cons hi
  generalize l[i] = b at hx hm hd
  have hx' := tbs_get hx
  simp -dsimp [hiz, hx']
  and_intros
  all_goals try first | rfl | omega | exact ⟨by kernel_rfl⟩
  refine ACall.of (copied_c b hm.rows hm.nx) [] 2000 ?_
  simp -dsimp [hiz, hx', tblT, rwsD_eq]
  have hrl := hm.rows
  refine ALoop.of [] (fun k => k==0||k==1||k==2||k==6||k==7||k==8||k==9||k==10||k==11||k==12||k==16||k==28||k==33||k==35||k==44||k==70||k==79||k==86) (ι := { z : Nat × Tp × List Rw // z.1 ≤ b.rows.length ∧ TapeOK z.2.1 ∧ z.2.2.length = b.rows.length ∧ wrRs b.r n b.rows T1 = (z.2.2.take z.1 ++ (wrRs b.r n (z.2.2.drop z.1) z.2.1).1, (wrRs b.r n (z.2.2.drop z.1) z.2.1).2) })
   (fun z => [(Pl.s 0, It.v (TV.ptr (Pl.x 0) 0)), (Pl.s 1, It.v (TV.d (D.sl (tbs l)))), (Pl.s 2, It.v (TV.d (D.int IntKind.i64 n))), (Pl.x 0, tapeI z.1.2.1), (Pl.s 6, It.v (TV.c (Value.slice none 0 0))),
    (Pl.s 7, It.v (TV.oref 7 out.length)), (Pl.o 7, It.row 58 4 (dd (tbs out)) false), (Pl.s 8, It.v (TV.d (D.int IntKind.i64 i))),
    (Pl.o 2003, It.row 116 2 (dd (rws z.1.2.2)) false), (Pl.o 9, It.box [TV.d (D.int IntKind.i64 b.r), TV.d (D.int IntKind.i64 b.sd), TV.d (D.int IntKind.i64 b.len), TV.oref 2003 b.rows.length]), (Pl.s 9, It.v (TV.ptr (Pl.o 9) 0)), (Pl.s 10, It.v (TV.d (D.int IntKind.i64 z.1.1)))]) (fun z => b.rows.length - z.1.1) ⟨(0, T1, b.rows), by simp, i2, rfl, by simp⟩ ?_ ?_
  ·exact GS.to (by simp)
  rintro ⟨⟨k, T2, L⟩, k1, k2, k3, k4⟩
  simp only at k1 k2 k3 k4
  have hrL : (rws L).length = b.rows.length := by simp [k3]
  by_cases hk : k < b.rows.length
  ·have hkz : (k : Int) < b.rows.length := by omega
   have hkL : k < L.length := by omega
   have hg : L[k]? = some L[k] := List.getElem?_eq_getElem hkL
   have hdL : L.drop k = L[k] :: L.drop (k + 1) := List.drop_eq_getElem_cons hkL
   generalize L[k] = x at hg hdL
   have hgr : (dd (rws L))[k]? = some [TV.d (.int .i64 x.id), TV.d (ints x.nx)] := by simp [dd, rws, hg, Rw.cs]
   have hgl : ((dd (rws L)).getD k []) = [TV.d (.int .i64 x.id), TV.d (ints x.nx)] := by rw [List.getD_eq_getElem?_getD, hgr]; rfl
   have hset : ∀ y : List Int, (dd (rws L)).set k [TV.d (.int .i64 x.id), TV.d (ints y)] = dd (rws (L.set k ⟨x.id, y⟩)) := fun y => by simp [dd, rws, List.map_set, Rw.cs]
   have hnext : ∀ (y : List Int) (T3 : Tp), wrR b.r n T2 x = (⟨x.id, y⟩, T3) → wrRs b.r n b.rows T1 = ((L.set k ⟨x.id, y⟩).take (k + 1) ++ (wrRs b.r n ((L.set k ⟨x.id, y⟩).drop (k + 1)) T3).1, (wrRs b.r n ((L.set k ⟨x.id, y⟩).drop (k + 1)) T3).2) := fun y T3 h => by
    have e1 : (L.set k ⟨x.id, y⟩).take (k + 1) = L.take k ++ [⟨x.id, y⟩] := by
     rw [List.take_add_one, List.getElem?_set_self hkL, List.take_set_of_le (Nat.le_refl _)]; rfl
    have e2 : (L.set k ⟨x.id, y⟩).drop (k + 1) = L.drop (k + 1) := List.drop_set_of_lt (by omega)
    rw [k4, hdL, wrRs, h, e1, e2]
    simp
   have hself : L.set k ⟨x.id, x.nx⟩ = L := by
    refine List.ext_getElem? fun m => ?_
    rw [List.getElem?_set]
    split
    ·rename_i e; subst e; exact hg.symm
    ·rfl
   unfold wrR at hnext
   simp -dsimp [hkz, hrL, k3]
   and_intros
   all_goals try first | rfl | omega | exact ⟨by kernel_rfl⟩
   refine ACall.of (one_c T2 k2 3 ⟨by omega, by omega⟩ ⟨by omega, by omega⟩) [.x 0] 0 ?_
   have kO : TapeOK (gOne T2 3).2 := by simpa using k2
   generalize gOne T2 3 = o at kO hnext ⊢
   simp only at hnext
   rcases (Bool.eq_false_or_eq_true o.1).symm with ho | ho
   ·have e := hnext x.nx o.2 (by rw [if_pos ho])
    rw [hself] at e
    simp -dsimp [hkz, ho, hrL, k3, wrap_i64 (n := (k : Int) + 1) (by omega) (by omega)]
    and_intros
    all_goals try first | rfl | omega | exact ⟨by kernel_rfl⟩
    exact ⟨⟨(k + 1, o.2, L), by dsimp only; omega, kO, k3, e⟩, GS.to (by simp), by simp; omega⟩
   have hof : ¬ o.1 = false := by simp [ho]
   simp -dsimp [hkz, ho, hrL, k3]
   refine ACall.of (next_c o.2 kO 4 ⟨by omega, by omega⟩) [.x 0] 0 ?_
   have n1 := gNext_nonneg o.2 4
   have n2 := gNext_lt o.2 (n := 4) (by omega)
   have kS : TapeOK (gNext o.2 4).2 := by simpa using kO
   generalize gNext o.2 4 = s at n1 n2 kS hnext ⊢
   by_cases s0 : s.1 = 0
   ·have e := hnext [] s.2 (by rw [if_neg hof, if_pos s0])
    have hnl : toDss ((dd (rws L)).set k [TV.d (.int .i64 x.id), TV.c (Value.slice none 0 0)]) = some (rws (L.set k ⟨x.id, []⟩)) := by
     rw [toDss_set (toDss_dd _) (x := [.int .i64 x.id, .sl []]) rfl]
     simp [rws, List.map_set, Rw.cs, ints]
    simp -dsimp [hkz, ho, eq_true s0, hgr, hgl, hrL, k3, wrap_i64 (n := (k : Int) + 1) (by omega) (by omega)]
    and_intros
    all_goals try first | rfl | omega | exact ⟨by kernel_rfl⟩
    exact ⟨⟨(k + 1, s.2, L.set k ⟨x.id, []⟩), by dsimp only; omega, kS, by simpa using k3, e⟩, GS.plain' 2003 (e := 116) (k := 2) (es := (dd (rws L)).set k [TV.d (.int .i64 x.id), TV.c (Value.slice none 0 0)]) (sh := false) (by simp) hnl (by simp), by simp; omega⟩
   by_cases s1 : s.1 = 1
   ·have e := hnext [b.r] s.2 (by rw [if_neg hof, if_neg s0, if_pos s1])
    have hs := hset [b.r]
    simp only [ints, List.map_nil, List.map_cons] at hs
    simp -dsimp [hkz, ho, eq_false s0, eq_true s1, hgr, hgl, hrL, k3, hs, wrap_i64 (n := (k : Int) + 1) (by omega) (by omega)]
    and_intros
    all_goals try first | rfl | omega | exact ⟨by kernel_rfl⟩
    exact ⟨⟨(k + 1, s.2, L.set k ⟨x.id, [b.r]⟩), by dsimp only; omega, kS, by simpa using k3, e⟩, GS.to (by simp), by simp; omega⟩
   simp -dsimp [hkz, ho, eq_false s0, eq_false s1, hrL, k3, wrap_i64 (n := n + 1) (by omega) (by omega)]
   refine ACall.of (next_c s.2 kS (n + 1) ⟨by omega, by omega⟩) [.x 0] 0 ?_
   have a1 := gNext_nonneg s.2 (n + 1)
   have a2 := gNext_lt s.2 (n := n + 1) (by omega)
   have kA : TapeOK (gNext s.2 (n + 1)).2 := by simpa using kS
   generalize gNext s.2 (n + 1) = a at a1 a2 kA hnext ⊢
   have b1 := gNext_nonneg a.2 n
   have b2 := gNext_lt a.2 (n := n) (by omega)
   have kM : TapeOK (gNext a.2 n).2 := by simpa using kA
   have hnc := next_c a.2 kA n ⟨by omega, by omega⟩
   generalize gNext a.2 n = m at b1 b2 kM hnc hnext
   have hset2 : ∀ y z : List Int, (dd (rws (L.set k ⟨x.id, y⟩))).set k [TV.d (.int .i64 x.id), TV.d (ints z)] = dd (rws (L.set k ⟨x.id, z⟩)) := fun y z => by simp [dd, rws, List.map_set, Rw.cs]
   have hgr2 : ∀ y : List Int, (dd (rws (L.set k ⟨x.id, y⟩)))[k]? = some [TV.d (.int .i64 x.id), TV.d (ints y)] := fun y => by simp [dd, rws, List.getElem?_set, hkL, Rw.cs]
   have hgl2 : ∀ y : List Int, ((dd (rws (L.set k ⟨x.id, y⟩))).getD k []) = [TV.d (.int .i64 x.id), TV.d (ints y)] := fun y => by rw [List.getD_eq_getElem?_getD, hgr2]; rfl
   have hrL2 : ∀ y : List Int, (rws (L.set k ⟨x.id, y⟩)).length = b.rows.length := fun y => by simp [k3]
   by_cases v1 : 1 + a.1 = b.r
   ·have e := hnext x.nx m.2 (by rw [if_neg hof, if_neg s0, if_neg s1, if_neg (by omega), if_neg (by omega)])
    rw [hself] at e
    by_cases v2 : a.1 < m.1
    ·simp -dsimp [hkz, ho, eq_false s0, eq_false s1, eq_true v1, hrL, k3, wrap_i64 (n := n + 1) (by omega) (by omega), wrap_i64 (n := 1 + a.1) (by omega) (by omega), wrap_i64 (n := 1 + m.1) (by omega) (by omega), wrap_i64 (n := (k : Int) + 1) (by omega) (by omega)]
     refine ACall.of hnc [.x 0] 0 ?_
     simp -dsimp [hkz, ho, eq_false s0, eq_false s1, eq_true v1, v2, hrL, k3, wrap_i64 (n := n + 1) (by omega) (by omega), wrap_i64 (n := 1 + a.1) (by omega) (by omega), wrap_i64 (n := 1 + m.1) (by omega) (by omega), wrap_i64 (n := (k : Int) + 1) (by omega) (by omega)]
     and_intros
     all_goals try first | rfl | omega | exact ⟨by kernel_rfl⟩
     exact ⟨⟨(k + 1, m.2, L), by dsimp only; omega, kM, k3, e⟩, GS.to (by simp), by simp; omega⟩
    ·simp -dsimp [hkz, ho, eq_false s0, eq_false s1, eq_true v1, hrL, k3, wrap_i64 (n := n + 1) (by omega) (by omega), wrap_i64 (n := 1 + a.1) (by omega) (by omega), wrap_i64 (n := 1 + m.1) (by omega) (by omega), wrap_i64 (n := (k : Int) + 1) (by omega) (by omega)]
     refine ACall.of hnc [.x 0] 0 ?_
     simp -dsimp [hkz, ho, eq_false s0, eq_false s1, eq_true v1, v2, hrL, k3, wrap_i64 (n := n + 1) (by omega) (by omega), wrap_i64 (n := 1 + a.1) (by omega) (by omega), wrap_i64 (n := 1 + m.1) (by omega) (by omega), wrap_i64 (n := (k : Int) + 1) (by omega) (by omega)]
     and_intros
     all_goals try first | rfl | omega | exact ⟨by kernel_rfl⟩
     exact ⟨⟨(k + 1, m.2, L), by dsimp only; omega, kM, k3, e⟩, GS.to (by simp), by simp; omega⟩
   have hs1 := hset [1 + a.1]
   have hs2 := hset2 [1 + a.1] [1 + a.1, 1 + m.1]
   have hq1 := hgr2 [1 + a.1]
   have hq2 := hgl2 [1 + a.1]
   have hq3 := hrL2 [1 + a.1]
   simp only [ints, List.map_nil, List.map_cons] at hs1 hs2 hq1 hq2
   by_cases v2 : a.1 < m.1
   ·by_cases v3 : 1 + m.1 = b.r
    ·have e := hnext [1 + a.1] m.2 (by rw [if_neg hof, if_neg s0, if_neg s1, if_neg (by omega), if_pos (by omega)])
     simp -dsimp [hkz, ho, eq_false s0, eq_false s1, eq_false v1, hgr, hgl, hs1, hrL, k3, wrap_i64 (n := n + 1) (by omega) (by omega), wrap_i64 (n := 1 + a.1) (by omega) (by omega), wrap_i64 (n := 1 + m.1) (by omega) (by omega), wrap_i64 (n := (k : Int) + 1) (by omega) (by omega)]
     and_intros
     all_goals try first | rfl | omega | exact ⟨by kernel_rfl⟩
     refine ACall.of hnc [.x 0] 0 ?_
     simp -dsimp [hkz, ho, eq_false s0, eq_false s1, eq_false v1, v2, eq_true v3, hgr, hgl, hs1, hrL, k3, wrap_i64 (n := n + 1) (by omega) (by omega), wrap_i64 (n := 1 + a.1) (by omega) (by omega), wrap_i64 (n := 1 + m.1) (by omega) (by omega), wrap_i64 (n := (k : Int) + 1) (by omega) (by omega)]
     and_intros
     all_goals try first | rfl | omega | exact ⟨by kernel_rfl⟩
     exact ⟨⟨(k + 1, m.2, L.set k ⟨x.id, [1 + a.1]⟩), by dsimp only; omega, kM, by simpa using k3, e⟩, GS.to (by simp), by simp; omega⟩
    ·have e := hnext [1 + a.1, 1 + m.1] m.2 (by rw [if_neg hof, if_neg s0, if_neg s1, if_pos (by omega)])
     simp -dsimp [hkz, ho, eq_false s0, eq_false s1, eq_false v1, hgr, hgl, hs1, hrL, k3, wrap_i64 (n := n + 1) (by omega) (by omega), wrap_i64 (n := 1 + a.1) (by omega) (by omega), wrap_i64 (n := 1 + m.1) (by omega) (by omega), wrap_i64 (n := (k : Int) + 1) (by omega) (by omega)]
     and_intros
     all_goals try first | rfl | omega | exact ⟨by kernel_rfl⟩
     refine ACall.of hnc [.x 0] 0 ?_
     simp -dsimp [hkz, ho, eq_false s0, eq_false s1, eq_false v1, v2, eq_false v3, hgr, hgl, hs1, hs2, hq1, hq2, hq3, hrL, k3, wrap_i64 (n := n + 1) (by omega) (by omega), wrap_i64 (n := 1 + a.1) (by omega) (by omega), wrap_i64 (n := 1 + m.1) (by omega) (by omega), wrap_i64 (n := (k : Int) + 1) (by omega) (by omega)]
     and_intros
     all_goals try first | rfl | omega | exact ⟨by kernel_rfl⟩
     exact ⟨⟨(k + 1, m.2, L.set k ⟨x.id, [1 + a.1, 1 + m.1]⟩), by dsimp only; omega, kM, by simpa using k3, e⟩, GS.to (by simp), by simp; omega⟩
   ·have e := hnext [1 + a.1] m.2 (by rw [if_neg hof, if_neg s0, if_neg s1, if_neg (by omega), if_pos (by omega)])
    simp -dsimp [hkz, ho, eq_false s0, eq_false s1, eq_false v1, hgr, hgl, hs1, hrL, k3, wrap_i64 (n := n + 1) (by omega) (by omega), wrap_i64 (n := 1 + a.1) (by omega) (by omega), wrap_i64 (n := 1 + m.1) (by omega) (by omega), wrap_i64 (n := (k : Int) + 1) (by omega) (by omega)]
    and_intros
    all_goals try first | rfl | omega | exact ⟨by kernel_rfl⟩
    refine ACall.of hnc [.x 0] 0 ?_
    simp -dsimp [hkz, ho, eq_false s0, eq_false s1, eq_false v1, v2, hgr, hgl, hs1, hrL, k3, wrap_i64 (n := n + 1) (by omega) (by omega), wrap_i64 (n := 1 + a.1) (by omega) (by omega), wrap_i64 (n := 1 + m.1) (by omega) (by omega), wrap_i64 (n := (k : Int) + 1) (by omega) (by omega)]
    and_intros
    all_goals try first | rfl | omega | exact ⟨by kernel_rfl⟩
    exact ⟨⟨(k + 1, m.2, L.set k ⟨x.id, [1 + a.1]⟩), by dsimp only; omega, kM, by simpa using k3, e⟩, GS.to (by simp), by simp; omega⟩
  ·have hkz : ¬ (k : Int) < b.rows.length := by omega
   obtain rfl : k = b.rows.length := by omega
   simp -dsimp [hkz, hrL, wrap_i64 (n := (i : Int) + 1) (by omega) (by omega)]
   and_intros
   all_goals try first | rfl | omega | exact ⟨by kernel_rfl⟩
   have e0 : L.drop b.rows.length = [] := List.drop_eq_nil_of_le (by omega)
   have e1 : L.take b.rows.length = L := List.take_of_length_le (by omega)
   simp only [e0, e1, wrRs, List.append_nil] at k4
   refine ⟨⟨(i + 1, T2, out ++ [⟨b.r, b.sd, b.len, L⟩]), by dsimp only; omega, k2, by simp [i3], ?_⟩, GS.to (by simp [tbs, Tb.cs, rwsD_eq, i3]), by simp; omega⟩
   rw [i4, hd, wrT, k4]
   simp
 ·have hiz : ¬ (i : Int) < l.length := by omega
  obtain rfl : i = l.length := by omega
  simp -dsimp [hiz]
  refine Fin.of ?_
  simp only [List.drop_length, wrT, List.append_nil] at i4
  simp [i4]
theorem domainO_c (T : Tp) (hT : TapeOK T) (most : Int) (hm : 1 ≤ most ∧ most ≤ 8) : Contract Tryz.prog 14 [.ptr (.x 0) 0, .d (.int .i64 most)] [tapeI T] (.tup [topT (gDom T most).1, planT (gDom T most).2.1, .oref 6 (gDom T most).2.2.1.length]) [tapeI (gDom T most).2.2.2] [(6, .row 58 4 (dd (tbs (gDom T most).2.2.1)) false)] := by
 refine contract_of Tryz.func14 rfl (fun E0 => ?_)
 refine awp.sound (g := .mk) (ow := []) (kp := (fun k => k==0||k==1||k==4||k==5||k==6||k==7||k==8||k==9)) ?_
 rw [Tryz.ntmps14]
 simp -dsimp
 refine ACall.of (topo_c T hT most ⟨hm.1, by omega⟩) [.x 0] 0 ?_
 have kG : TapeOK (gTop T most).2 := by simpa using hT
 have hsm := gTop_small T (most := most) ⟨hm.1, by omega⟩
 have hD := (gDom_valid T hm).1
 have hok := hD.top.ok
 have hpl := hD.plan
 have htab := hD.tab
 rw [htab]
 clear hD htab
 unfold gDom at hok hpl ⊢
 simp only at hok hpl ⊢
 generalize gTop T most = G at kG hsm hok hpl ⊢
 simp -dsimp [topT]
 refine ACall.of (plan_c G.2 kG G.1.rs G.1.ls (by omega) 0 (by omega)) [.x 0] 0 ?_
 obtain ⟨kP, lP⟩ := gPlan_zero G.2 G.1.rs
 have kG : TapeOK (gPlan G.2 G.1.rs 0).2 := kP.symm ▸ kG
 clear kP
 generalize gPlan G.2 G.1.rs 0 = p at kG lP hpl ⊢
 simp -dsimp [topT, planT]
 refine ACall.of (all11O_c G.1 ⟨by omega, by omega⟩ hok p.1 hpl (by omega)) [] 0 ?_
 generalize tabs G.1 p.1 G.1.rs = l
 simp -dsimp [topT, planT]
 and_intros
 all_goals try first | rfl | omega | exact ⟨by kernel_rfl⟩
 refine Fin.of ?_
 simp [topT, planT]
end Go.Proofs

set_option linter.unusedSimpArgs false
set_option maxRecDepth 100000
set_option maxHeartbeats 4000000
namespace Go.Proofs
open Go Go.Tr
def forL (len set : Int) : List Ed → Tp → BitVec 64 → BitVec 64 × Tp
 | [], T, B => (B, T)
 | e :: es, T, B => if plSet e.id len = set then (if 0 < (gNext T 4).1 then forL len set es (gNext T 4).2 (B ||| bitB (plBit e.id len)) else forL len set es (gNext T 4).2 B) else forL len set es T B
def forS (T : Tp) (p : Pn) : Int × Tp := if p.es = [] then (0, T) else (plSet (p.es.getD (gNext T p.es.length).1.toNat ⟨0, 0⟩).id p.len, (gNext T p.es.length).2)
def Pk.for (q : Pk) (subd len set : Int) (B : BitVec 64) : Pk := ⟨1, subd, set, len, q.ttl, q.ent, q.ing, q.proto, B, q.pay⟩
def gFor (T : Tp) (p : Pn) : Pk × Tp :=
 let q := gPacket T 0
 let s := forS q.2 p
 let b := forL p.len s.1 p.es s.2 0#64
 let o := gOne b.2 6
 if o.1 = true then (q.1.for p.subd p.len s.1 (b.1 ||| (gBits o.2 p.len).1), (gBits o.2 p.len).2) else (q.1.for p.subd p.len s.1 b.1, o.2)
theorem forL_ok (len set : Int) : ∀ (es : List Ed) (T : Tp) (B : BitVec 64), TapeOK (forL len set es T B).2 = TapeOK T
 | [], _, _ => rfl
 | e :: es, T, B => by
   rw [forL]
   split
   ·split
    ·rw [forL_ok]; simp
    ·rw [forL_ok]; simp
   ·exact forL_ok len set es T B
theorem forS_ok (T : Tp) (p : Pn) : TapeOK (forS T p).2 = TapeOK T := by
 unfold forS
 split
 ·rfl
 ·simp
theorem gFor_ok (T : Tp) (p : Pn) : TapeOK (gFor T p).2 = TapeOK T := by
 unfold gFor
 simp only
 split <;> simp [forL_ok, forS_ok]
theorem for_c (T : Tp) (hT : TapeOK T) (p : Pn) (hp : p.es.length ≤ 1000) (l0 : p.len ≠ 0) (hl : I64 p.len) : Contract Tryz.prog 23 [.ptr (.x 0) 0, planT p] [tapeI T] (pkT (gFor T p).1) [tapeI (gFor T p).2] [] := by
 refine contract_of Tryz.func23 rfl (fun E0 => ?_)
 refine awp.sound (g := .mk) (ow := []) (kp := (fun k => k==0||k==1||k==3||k==4||k==5||k==6||k==7||k==8||k==23||k==28||k==51||k==75||k==83)) ?_
 rw [Tryz.ntmps23]
 simp -dsimp [planT]
 try refine ⟨?_, ⟨by kernel_rfl⟩⟩
 refine ACall.of (packet_c T hT 0 ⟨by omega, by omega⟩) [.x 0] 0 ?_
 have kQ : TapeOK (gPacket T 0).2 := by simpa using hT
 unfold gFor
 simp only
 generalize gPacket T 0 = q at kQ ⊢
 obtain ⟨q, T1⟩ := q
 simp only at kQ ⊢
 simp only [pkT, Pk.cs, List.map]
 by_cases e0 : p.es = []
 ·have eS : forS T1 p = (0, T1) := by rw [forS, if_pos e0]
  rw [eS]
  simp -dsimp [l0, e0]
  try refine ⟨?_, ⟨by kernel_rfl⟩⟩
  refine ALoop.of [] (fun k => k==0||k==1||k==3||k==4||k==5||k==6||k==7||k==8||k==23||k==28||k==51||k==75||k==83) (ι := { z : Nat × Tp × BitVec 64 // z.1 ≤ p.es.length ∧ TapeOK z.2.1 ∧ forL p.len 0 p.es T1 0#64 = forL p.len 0 (p.es.drop z.1) z.2.1 z.2.2 })
   (fun z => [(Pl.s 0, It.v (TV.ptr (Pl.x 0) 0)), (Pl.x 0, tapeI z.1.2.1), (Pl.o 3, It.box [TV.d (D.int IntKind.i64 p.subd), TV.d (D.int IntKind.i64 p.len), TV.d (D.sl (eds p.es))]), (Pl.s 3, It.v (TV.ptr (Pl.o 3) 0)),
    (Pl.o 4, It.box [TV.d (D.int IntKind.i64 0), TV.d (D.int IntKind.i64 0), TV.d (D.int IntKind.i64 0), TV.d (D.int IntKind.i64 0), TV.d (D.int IntKind.i64 0), TV.d (D.int IntKind.i64 0), TV.d (D.int IntKind.i64 0), TV.d (D.int IntKind.i64 0), TV.d (D.int IntKind.u64 0), TV.d (D.str ⟨#[]⟩)]),
    (Pl.s 4, It.v (TV.ptr (Pl.o 4) 0)),
    (Pl.o 5, It.box [TV.d (D.int IntKind.i64 1), TV.d (D.int IntKind.i64 p.subd), TV.d (D.int IntKind.i64 0), TV.d (D.int IntKind.i64 p.len), TV.d (D.int IntKind.i64 q.ttl), TV.d (D.int IntKind.i64 q.ent), TV.d (D.int IntKind.i64 q.ing), TV.d (D.int IntKind.i64 q.proto), TV.d (D.int IntKind.u64 (tn z.1.2.2)), TV.d (D.str q.pay)]),
    (Pl.s 5, It.v (TV.ptr (Pl.o 5) 0)), (Pl.s 6, It.v (TV.d (D.int IntKind.i64 z.1.1)))])
   (fun z => p.es.length - z.1.1) ⟨(0, T1, 0#64), by simp, kQ, rfl⟩ ?_ ?_
  ·exact GS.to (by simp [e0])
  generalize forL p.len 0 p.es T1 0#64 = X
  rintro ⟨⟨i, T3, B⟩, i1, i2, i3⟩
  simp only at i1 i2 i3
  by_cases hi : i < p.es.length
  ·have hiz : (i : Int) < p.es.length := by omega
   have hg : p.es[i]? = some p.es[i] := List.getElem?_eq_getElem hi
   have hd : p.es.drop i = p.es[i] :: p.es.drop (i + 1) := List.drop_eq_getElem_cons hi
   generalize p.es[i] = y at hg hd
   have hg' := eds_get hg
   rw [hd, forL] at i3
   have pb := plB y.id p.len
   have hbc := bit_c (plBit y.id p.len)
   simp -dsimp [hiz, hg', Ed.cs]
   try refine ⟨?_, ⟨by kernel_rfl⟩⟩
   and_intros
   all_goals try first | rfl | omega | exact ⟨by kernel_rfl⟩
   refine ACall.of (place10_c y.id p.len) [] 0 ?_
   simp only [placeT]
   generalize plSet y.id p.len = sy at i3 pb
   generalize plBit y.id p.len = by_ at i3 pb hbc
   by_cases c0 : sy = 0
   ·rw [if_pos c0] at i3
    simp -dsimp [hiz, hg', Ed.cs, placeT, eq_true c0]
    try refine ⟨?_, ⟨by kernel_rfl⟩⟩
    refine ACall.of (next_c T3 i2 4 ⟨by omega, by omega⟩) [.x 0] 0 ?_
    have n1 := gNext_nonneg T3 4
    have kS : TapeOK (gNext T3 4).2 := by simpa using i2
    generalize gNext T3 4 = m4 at n1 kS i3 ⊢
    obtain ⟨m4, T4⟩ := m4
    simp only at n1 kS i3 ⊢
    by_cases c1 : 0 < m4
    ·rw [if_pos c1] at i3
     simp -dsimp [c1]
     try refine ⟨?_, ⟨by kernel_rfl⟩⟩
     refine ACall.of hbc [] 0 ?_
     simp -dsimp [bv, wrap_i64 (n := (i : Int) + 1) (by omega) (by omega)]
     try refine ⟨?_, ⟨by kernel_rfl⟩⟩
     and_intros
     all_goals try first | rfl | omega | exact ⟨by kernel_rfl⟩
     exact ⟨⟨(i + 1, T4, B ||| bitB by_), by dsimp only; omega, kS, i3⟩, GS.to (by simp), by simp; omega⟩
    ·rw [if_neg c1] at i3
     simp -dsimp [c1, wrap_i64 (n := (i : Int) + 1) (by omega) (by omega)]
     try refine ⟨?_, ⟨by kernel_rfl⟩⟩
     and_intros
     all_goals try first | rfl | omega | exact ⟨by kernel_rfl⟩
     exact ⟨⟨(i + 1, T4, B), by dsimp only; omega, kS, i3⟩, GS.to (by simp), by simp; omega⟩
   ·rw [if_neg c0] at i3
    simp -dsimp [hiz, hg', Ed.cs, placeT, eq_false c0, wrap_i64 (n := (i : Int) + 1) (by omega) (by omega)]
    try refine ⟨?_, ⟨by kernel_rfl⟩⟩
    and_intros
    all_goals try first | rfl | omega | exact ⟨by kernel_rfl⟩
    exact ⟨⟨(i + 1, T3, B), by dsimp only; omega, i2, i3⟩, GS.to (by simp), by simp; omega⟩
  ·have hiz : ¬ (i : Int) < p.es.length := by omega
   have e1 : p.es.drop i = [] := List.drop_eq_nil_of_le (by omega)
   rw [e1, forL] at i3
   subst i3
   simp -dsimp [hiz]
   try refine ⟨?_, ⟨by kernel_rfl⟩⟩
   refine ACall.of (one_c T3 i2 6 ⟨by omega, by omega⟩ ⟨by omega, by omega⟩) [.x 0] 0 ?_
   have kO : TapeOK (gOne T3 6).2 := by simpa using i2
   generalize gOne T3 6 = o at kO ⊢
   obtain ⟨o, T5⟩ := o
   simp only at kO ⊢
   rcases (Bool.eq_false_or_eq_true o).symm with ho | ho
   ·subst ho
    simp -dsimp
    try refine ⟨?_, ⟨by kernel_rfl⟩⟩
    refine Fin.box (.o 4) rfl ?_
    simp -dsimp
    try refine ⟨?_, ⟨by kernel_rfl⟩⟩
    refine Fin.of ?_
    simp [Pk.for, bv]
   ·subst ho
    simp -dsimp
    try refine ⟨?_, ⟨by kernel_rfl⟩⟩
    refine ACall.of (bits_c T5 kO p.len hl) [.x 0] 0 ?_
    generalize gBits T5 p.len = gb
    simp -dsimp [bv]
    try refine ⟨?_, ⟨by kernel_rfl⟩⟩
    refine Fin.box (.o 4) rfl ?_
    simp -dsimp
    try refine ⟨?_, ⟨by kernel_rfl⟩⟩
    refine Fin.of ?_
    simp [Pk.for, bv]
 ·have eS : forS T1 p = (plSet (p.es.getD (gNext T1 p.es.length).1.toNat ⟨0, 0⟩).id p.len, (gNext T1 p.es.length).2) := by rw [forS, if_neg e0]
  have hlen : 0 < p.es.length := List.length_pos_iff.2 e0
  rw [eS]
  simp -dsimp [l0, e0, hlen]
  try refine ⟨?_, ⟨by kernel_rfl⟩⟩
  and_intros
  all_goals try first | rfl | omega | exact ⟨by kernel_rfl⟩
  refine ACall.of (next_c T1 kQ p.es.length ⟨by omega, by omega⟩) [.x 0] 0 ?_
  have m1 := gNext_nonneg T1 p.es.length
  have m2 := gNext_lt T1 (n := p.es.length) (by omega)
  have kN : TapeOK (gNext T1 p.es.length).2 := by simpa using kQ
  clear eS
  generalize gNext T1 p.es.length = m at m1 m2 kN ⊢
  obtain ⟨m, T2⟩ := m
  simp only at m1 m2 kN ⊢
  obtain ⟨j, rfl⟩ : ∃ j : Nat, m = j := ⟨m.toNat, by omega⟩
  have hj : j < p.es.length := by omega
  have hx : p.es[j]? = some p.es[j] := List.getElem?_eq_getElem hj
  have hgd : p.es.getD ((j : Int)).toNat ⟨0, 0⟩ = p.es[j] := by rw [List.getD_eq_getElem?_getD, show ((j : Int)).toNat = j by omega, hx]; rfl
  rw [hgd]
  generalize p.es[j] = x at hx
  have hx' := eds_get hx
  simp -dsimp [l0, e0, hlen, hx', Ed.cs]
  try refine ⟨?_, ⟨by kernel_rfl⟩⟩
  and_intros
  all_goals try first | rfl | omega | exact ⟨by kernel_rfl⟩
  refine ACall.of (place10_c x.id p.len) [] 0 ?_
  simp only [placeT]
  generalize plSet x.id p.len = S
  simp -dsimp [l0, e0, placeT]
  try refine ⟨?_, ⟨by kernel_rfl⟩⟩
  refine ALoop.of [] (fun k => k==0||k==1||k==3||k==4||k==5||k==6||k==7||k==8||k==23||k==28||k==51||k==75||k==83) (ι := { z : Nat × Tp × BitVec 64 // z.1 ≤ p.es.length ∧ TapeOK z.2.1 ∧ forL p.len S p.es T2 0#64 = forL p.len S (p.es.drop z.1) z.2.1 z.2.2 })
   (fun z => [(Pl.s 0, It.v (TV.ptr (Pl.x 0) 0)), (Pl.x 0, tapeI z.1.2.1), (Pl.o 3, It.box [TV.d (D.int IntKind.i64 p.subd), TV.d (D.int IntKind.i64 p.len), TV.d (D.sl (eds p.es))]), (Pl.s 3, It.v (TV.ptr (Pl.o 3) 0)),
    (Pl.o 4, It.box [TV.d (D.int IntKind.i64 0), TV.d (D.int IntKind.i64 0), TV.d (D.int IntKind.i64 0), TV.d (D.int IntKind.i64 0), TV.d (D.int IntKind.i64 0), TV.d (D.int IntKind.i64 0), TV.d (D.int IntKind.i64 0), TV.d (D.int IntKind.i64 0), TV.d (D.int IntKind.u64 0), TV.d (D.str ⟨#[]⟩)]),
    (Pl.s 4, It.v (TV.ptr (Pl.o 4) 0)),
    (Pl.o 5, It.box [TV.d (D.int IntKind.i64 1), TV.d (D.int IntKind.i64 p.subd), TV.d (D.int IntKind.i64 S), TV.d (D.int IntKind.i64 p.len), TV.d (D.int IntKind.i64 q.ttl), TV.d (D.int IntKind.i64 q.ent), TV.d (D.int IntKind.i64 q.ing), TV.d (D.int IntKind.i64 q.proto), TV.d (D.int IntKind.u64 (tn z.1.2.2)), TV.d (D.str q.pay)]),
    (Pl.s 5, It.v (TV.ptr (Pl.o 5) 0)), (Pl.s 6, It.v (TV.d (D.int IntKind.i64 z.1.1)))])
   (fun z => p.es.length - z.1.1) ⟨(0, T2, 0#64), by simp, kN, rfl⟩ ?_ ?_
  ·exact GS.to (by simp [e0])
  generalize forL p.len S p.es T2 0#64 = X
  rintro ⟨⟨i, T3, B⟩, i1, i2, i3⟩
  simp only at i1 i2 i3
  by_cases hi : i < p.es.length
  ·have hiz : (i : Int) < p.es.length := by omega
   have hg : p.es[i]? = some p.es[i] := List.getElem?_eq_getElem hi
   have hd : p.es.drop i = p.es[i] :: p.es.drop (i + 1) := List.drop_eq_getElem_cons hi
   generalize p.es[i] = y at hg hd
   have hg' := eds_get hg
   rw [hd, forL] at i3
   have pb := plB y.id p.len
   have hbc := bit_c (plBit y.id p.len)
   simp -dsimp [hiz, hg', Ed.cs]
   try refine ⟨?_, ⟨by kernel_rfl⟩⟩
   and_intros
   all_goals try first | rfl | omega | exact ⟨by kernel_rfl⟩
   refine ACall.of (place10_c y.id p.len) [] 0 ?_
   simp only [placeT]
   generalize plSet y.id p.len = sy at i3 pb
   generalize plBit y.id p.len = by_ at i3 pb hbc
   by_cases c0 : sy = S
   ·rw [if_pos c0] at i3
    simp -dsimp [hiz, hg', Ed.cs, placeT, eq_true c0]
    try refine ⟨?_, ⟨by kernel_rfl⟩⟩
    refine ACall.of (next_c T3 i2 4 ⟨by omega, by omega⟩) [.x 0] 0 ?_
    have n1 := gNext_nonneg T3 4
    have kS : TapeOK (gNext T3 4).2 := by simpa using i2
    generalize gNext T3 4 = m4 at n1 kS i3 ⊢
    obtain ⟨m4, T4⟩ := m4
    simp only at n1 kS i3 ⊢
    by_cases c1 : 0 < m4
    ·rw [if_pos c1] at i3
     simp -dsimp [c1]
     try refine ⟨?_, ⟨by kernel_rfl⟩⟩
     refine ACall.of hbc [] 0 ?_
     simp -dsimp [bv, wrap_i64 (n := (i : Int) + 1) (by omega) (by omega)]
     try refine ⟨?_, ⟨by kernel_rfl⟩⟩
     and_intros
     all_goals try first | rfl | omega | exact ⟨by kernel_rfl⟩
     exact ⟨⟨(i + 1, T4, B ||| bitB by_), by dsimp only; omega, kS, i3⟩, GS.to (by simp), by simp; omega⟩
    ·rw [if_neg c1] at i3
     simp -dsimp [c1, wrap_i64 (n := (i : Int) + 1) (by omega) (by omega)]
     try refine ⟨?_, ⟨by kernel_rfl⟩⟩
     and_intros
     all_goals try first | rfl | omega | exact ⟨by kernel_rfl⟩
     exact ⟨⟨(i + 1, T4, B), by dsimp only; omega, kS, i3⟩, GS.to (by simp), by simp; omega⟩
   ·rw [if_neg c0] at i3
    simp -dsimp [hiz, hg', Ed.cs, placeT, eq_false c0, wrap_i64 (n := (i : Int) + 1) (by omega) (by omega)]
    try refine ⟨?_, ⟨by kernel_rfl⟩⟩
    and_intros
    all_goals try first | rfl | omega | exact ⟨by kernel_rfl⟩
    exact ⟨⟨(i + 1, T3, B), by dsimp only; omega, i2, i3⟩, GS.to (by simp), by simp; omega⟩
  ·have hiz : ¬ (i : Int) < p.es.length := by omega
   have e1 : p.es.drop i = [] := List.drop_eq_nil_of_le (by omega)
   rw [e1, forL] at i3
   subst i3
   simp -dsimp [hiz]
   try refine ⟨?_, ⟨by kernel_rfl⟩⟩
   refine ACall.of (one_c T3 i2 6 ⟨by omega, by omega⟩ ⟨by omega, by omega⟩) [.x 0] 0 ?_
   have kO : TapeOK (gOne T3 6).2 := by simpa using i2
   generalize gOne T3 6 = o at kO ⊢
   obtain ⟨o, T5⟩ := o
   simp only at kO ⊢
   rcases (Bool.eq_false_or_eq_true o).symm with ho | ho
   ·subst ho
    simp -dsimp
    try refine ⟨?_, ⟨by kernel_rfl⟩⟩
    refine Fin.box (.o 4) rfl ?_
    simp -dsimp
    try refine ⟨?_, ⟨by kernel_rfl⟩⟩
    refine Fin.of ?_
    simp [Pk.for, bv]
   ·subst ho
    simp -dsimp
    try refine ⟨?_, ⟨by kernel_rfl⟩⟩
    refine ACall.of (bits_c T5 kO p.len hl) [.x 0] 0 ?_
    generalize gBits T5 p.len = gb
    simp -dsimp [bv]
    try refine ⟨?_, ⟨by kernel_rfl⟩⟩
    refine Fin.box (.o 4) rfl ?_
    simp -dsimp
    try refine ⟨?_, ⟨by kernel_rfl⟩⟩
    refine Fin.of ?_
    simp [Pk.for, bv]
end Go.Proofs

set_option linter.unusedSimpArgs false
set_option maxRecDepth 100000
set_option maxHeartbeats 4000000
namespace Go.Proofs
open Go Go.Tr
def fitsR (l : List Tb) (p : Pk) (r : Int) : Int := (runR l p r).2
end Go.Proofs

set_option linter.unusedSimpArgs false
namespace Go.Tr
open Go
theorem ACall.view {P : Program} {A : Actv} {ops : Array Oper} {i : Nat} {t : S} {k : List Pl → List (Pl × It) → Prop} {g : Tg k} (ss : List Nat)
  (h : (viewL t (ss.map .tmp)).C ∧ ACall P A ops i (over t (viewL t (ss.map .tmp)).W) (fun rp W => k ((viewL t (ss.map .tmp)).rp ++ rp) (W ++ (viewL t (ss.map .tmp)).W)) .mk) : ACall P A ops i t k g := by
 obtain ⟨h0, ⟨rp, W, h1, h2⟩⟩ := h
 exact ⟨⟨_, _, h1.viewed _ h0, h2⟩⟩
end Go.Tr

set_option linter.unusedSimpArgs false
set_option maxRecDepth 100000
set_option maxHeartbeats 8000000
namespace Go.Proofs
open Go Go.Tr
theorem fits_fit {l : List Tb} {p : Pk} {r : Int} (h : fitsR l p r = 0) : FitL l p ∧ (findT l r).isSome ∧ runR l p r = (runG l (wt p) [(r, p)] tr0, 0) := by
 unfold fitsR runR at h
 unfold runR
 split at h
 ·simp at h
 rename_i h0
 rw [if_neg h0]
 have h1 : chkA l = 0 := Classical.byContradiction fun a => h0 (.inl a)
 have h2 : p.ok = true := by
  cases hp : p.ok with
  | true => rfl
  | false => exact absurd (.inr hp) h0
 cases hf : findT l r with
 | none => rw [hf] at h; simp at h
 | some b =>
   rw [hf] at h
   simp only at h ⊢
   split at h
   ·simp at h
   rename_i h3
   rw [if_neg h3]
   split at h
   ·simp at h
   rename_i h4
   rw [if_neg h4]
   have e1 : p.subd = b.sd := Classical.byContradiction fun a => h4 (.inl a)
   have e2 : p.len = b.len := Classical.byContradiction fun a => h4 (.inr a)
   have hall := firstE_zero (l := _) (by simp) h1
   simp only [List.mem_cons, List.not_mem_nil, or_false, forall_eq_or_imp, forall_eq] at hall
   have hd : ∀ c ∈ l, c.sd = (l.headD tb0).sd ∧ c.len = (l.headD tb0).len := fun c hc => by
    have := List.any_eq_false.1 hall.2.2.2 c hc
    simpa using this
   have hb := hd b (findT_mem hf).1
   refine ⟨⟨h2, fun c hc => ⟨chkA_all h1 c hc, ?_, ?_, h2, h3⟩⟩, rfl, rfl⟩
   ·rw [(hd c hc).1, ← hb.1, e1]
   ·rw [(hd c hc).2, ← hb.2, e2]
theorem fits_not {l : List Tb} {p : Pk} {r : Int} (h : fitsR l p r ≠ 0) : runR l p r = (tr0, fitsR l p r) := by
 unfold fitsR runR at h ⊢
 split
 ·rfl
 rename_i h0
 rw [if_neg h0] at h
 cases hf : findT l r with
 | none => rfl
 | some b =>
   rw [hf] at h
   simp only at h ⊢
   split
   ·rfl
   rename_i h3
   rw [if_neg h3] at h
   split
   ·rfl
   rename_i h4
   rw [if_neg h4] at h
   simp at h
end Go.Proofs
