/-
  What functions of the program compute, stated as contracts over plain data; the conditions of each stand in its own statement.
-/
import Derived.Test.YteenclepbpajdaaE7
set_option linter.unusedSimpArgs false
set_option maxRecDepth 100000
set_option maxHeartbeats 2000000
namespace Go.Proofs
open Go Go.Tr
def bRow (g : Topo) (r : Int) (e : Ed) : Rw := ⟨e.id, if e.r = r then [r] else if chkT g = 0 ∧ capR g.rs e.r = true then hops g r e.r else []⟩
def buildT (g : Topo) (p : Pn) (r : Int) : Tb := ⟨r, p.subd, p.len, p.es.map (bRow g r)⟩
def bRws (g : Topo) (r : Int) (es : List Ed) : List (List D) := (es.map (bRow g r)).map Rw.cs
@[simp] theorem bRws_len (g : Topo) (r : Int) (es : List Ed) : (bRws g r es).length = es.length := by simp [bRws]
theorem bRws_app (g : Topo) (r : Int) (es : List Ed) (x : Ed) : bRws g r (es ++ [x]) = bRws g r es ++ [(bRow g r x).cs] := by simp [bRws]
theorem build11_c (g : Topo) (hg : g.Sm) (p : Pn) (hp : p.es.length ≤ 1000000) (r : Int) : Contract Try.prog 29 [topT g, planT p, .d (.int .i64 r)] [] (tblT (buildT g p r)) [] [] := by
  have hr := hg.r
  refine contract_of Try.func29 rfl (fun E0 => ?_)
  refine awp.sound (g := .mk) (ow := []) (kp := (fun k => k == 0 || k == 1 || k == 2 || k == 3 || k == 4 || k == 6 || k == 7 || k == 8 || k == 9 || k == 20 || k == 37 || k == 48)) ?_
  rw [Try.ntmps29]
  simp -dsimp [topT, planT]
  refine ALoop.of [] (fun k => k == 0 || k == 1 || k == 2 || k == 3 || k == 4 || k == 6 || k == 7 || k == 8 || k == 9 || k == 20 || k == 37 || k == 48) (ι := { i : Nat // i ≤ p.es.length }) (fun z => [(Pl.s 0, It.v (TV.agg [TV.d (D.sl (rts g.rs)), TV.d (D.sl (lks g.ls))])), (Pl.s 1, It.v (TV.agg [TV.d (D.int IntKind.i64 p.subd), TV.d (D.int IntKind.i64 p.len), TV.d (D.sl (eds p.es))])), (Pl.s 2, It.v (TV.d (D.int IntKind.i64 r))), (Pl.o 3, It.box [TV.d (D.sl (rts g.rs)), TV.d (D.sl (lks g.ls))]), (Pl.s 3, It.v (TV.ptr (Pl.o 3) 0)), (Pl.o 4, It.box [TV.d (D.int IntKind.i64 p.subd), TV.d (D.int IntKind.i64 p.len), TV.d (D.sl (eds p.es))]), (Pl.s 4, It.v (TV.ptr (Pl.o 4) 0)), (Pl.o 6, It.box [TV.d (D.int IntKind.i64 0), TV.d (D.int IntKind.i64 0), TV.d (D.int IntKind.i64 0), TV.c (Value.slice none 0 0)]), (Pl.s 6, It.v (TV.ptr (Pl.o 6) 0)), (Pl.s 7, It.v (TV.ptr (Pl.o 7) 0)), (Pl.o 7, It.box [TV.d (D.int IntKind.i64 r), TV.d (D.int IntKind.i64 p.subd), TV.d (D.int IntKind.i64 p.len), TV.oref 1000 z.1]), (Pl.o 1000, It.row 57 2 (dd (bRws g r (p.es.take z.1))) false), (Pl.s 8, It.v (TV.d (D.int IntKind.i64 z.1)))]) (fun z => p.es.length - z.1) ⟨0, by omega⟩ ?_ ?_
  · exact GS.ownB' (.o 7) 3 1000 (cs := [TV.d (D.int IntKind.i64 r), TV.d (D.int IntKind.i64 p.subd), TV.d (D.int IntKind.i64 p.len), TV.c (Value.slice none 0 0)]) 57 2 (by simp) (by simp) (by simp) (by simp) (by simp [bRws])
  rintro ⟨i, i1⟩
  by_cases hi : i < p.es.length
  · have hiz : (i : Int) < p.es.length := by omega
    have hx : p.es[i]? = some p.es[i] := List.getElem?_eq_getElem hi
    have ht : p.es.take (i + 1) = p.es.take i ++ [p.es[i]] := by rw [List.take_add_one, List.getElem?_eq_getElem hi]; rfl
    generalize p.es[i] = x at hx ht
    have hx' := eds_get hx
    by_cases a1 : x.r = r
    · simp -dsimp [hiz, hx', Ed.cs, eq_true a1, wrap_i64 (n := (i : Int) + 1) (by omega) (by omega)]
      and_intros
      all_goals try first | rfl | omega | exact ⟨by kernel_rfl⟩
      have hb : bRow g r x = ⟨x.id, [r]⟩ := by simp [bRow, a1]
      exact ⟨⟨i + 1, by omega⟩, GS.to (by simp [ht, bRws_app, hb, Rw.cs, ints]), by simp; omega⟩
    simp -dsimp [hiz, hx', Ed.cs, eq_false a1, topT]
    refine ACall.of (capable05_c g hg x.r) [] 0 ?_
    rcases (Bool.eq_false_or_eq_true (decide (chkT g = 0) && capR g.rs x.r)).symm with a2 | a2
    · simp -dsimp [hiz, hx', Ed.cs, eq_false a1, topT, a2, wrap_i64 (n := (i : Int) + 1) (by omega) (by omega)]
      and_intros
      all_goals try first | rfl | omega | exact ⟨by kernel_rfl⟩
      have hb : bRow g r x = ⟨x.id, []⟩ := by simp [bRow, a1]; intro h1 h2; simp [h1, h2] at a2
      exact ⟨⟨i + 1, by omega⟩, GS.to (by simp [ht, bRws_app, hb, Rw.cs, ints]), by simp; omega⟩
    · simp -dsimp [hiz, hx', Ed.cs, eq_false a1, topT, a2]
      and_intros
      all_goals try first | rfl | omega | exact ⟨by kernel_rfl⟩
      refine ACall.of (hops11_c g hg r x.r) [] 0 ?_
      simp -dsimp [hiz, hx', Ed.cs, eq_false a1, topT, a2, wrap_i64 (n := (i : Int) + 1) (by omega) (by omega)]
      and_intros
      all_goals try first | rfl | omega | exact ⟨by kernel_rfl⟩
      have hb : bRow g r x = ⟨x.id, hops g r x.r⟩ := by simp at a2; simp [bRow, a1, a2]
      exact ⟨⟨i + 1, by omega⟩, GS.to (by simp [ht, bRws_app, hb, Rw.cs, ints]), by simp; omega⟩
  · have hiz : ¬ (i : Int) < p.es.length := by omega
    obtain rfl : i = p.es.length := by omega
    simp -dsimp [hiz]
    refine Fin.box (.o 6) rfl ?_
    simp -dsimp
    refine Fin.of ?_
    simp [tblT, buildT, rwsD, bRws]
def Tb.cs (b : Tb) : List D := [.int .i64 b.r, .int .i64 b.sd, .int .i64 b.len, rwsD b.rows]
/-- the tables of the capable routers -/
def tabs (g : Topo) (p : Pn) (rs : List Rt) : List Tb := (rs.filter (·.cap)).map fun x => buildT g p x.id
def tabD (g : Topo) (p : Pn) (rs : List Rt) : List (List D) := (tabs g p rs).map Tb.cs
theorem tabD_len (g : Topo) (p : Pn) (rs : List Rt) : (tabD g p rs).length ≤ rs.length := by
  simp only [tabD, tabs, List.length_map]
  exact List.length_filter_le _ _
theorem tabD_app (g : Topo) (p : Pn) (rs : List Rt) (x : Rt) : tabD g p (rs ++ [x]) = if x.cap then tabD g p rs ++ [(buildT g p x.id).cs] else tabD g p rs := by
  simp only [tabD, tabs, List.filter_append, List.map_append]
  cases h : x.cap <;> simp [h]
def allT (l : List Tb) (e : Int) : TV := .tup [.d (.sl (l.map Tb.cs)), .d (.int .i64 e)]
open Classical in
noncomputable def all11 (g : Topo) (p : Pn) : List Tb × Int := if chkT g = 0 ∧ planB p = true then (tabs g p g.rs, 0) else ([], 1)
theorem all11_c (g : Topo) (hg : g.Sm) (p : Pn) (hp : p.es.length ≤ 1000) : Contract Try.prog 16 [topT g, planT p] [] (allT (all11 g p).1 (all11 g p).2) [] [] := by
  have hr := hg.r
  refine contract_of Try.func16 rfl (fun E0 => ?_)
  refine awp.sound (g := .mk) (ow := []) (kp := (fun k => k == 0 || k == 1 || k == 2 || k == 3 || k == 4 || k == 5 || k == 6 || k == 7 || k == 15 || k == 20 || k == 28)) ?_
  rw [Try.ntmps16]
  simp -dsimp [topT, planT]
  refine ACall.of (check05_c g hg.r hg.l) [] 0 ?_
  by_cases hc : chkT g = 0
  · simp -dsimp [eq_true hc, topT]
    refine ACall.of (validPlan10_c p hp) [] 0 ?_
    rcases (Bool.eq_false_or_eq_true (planB p)).symm with a1 | a1
    · simp -dsimp [eq_true hc, a1, planT]
      and_intros
      all_goals try first | rfl | omega | exact ⟨by kernel_rfl⟩
      refine Fin.view 4 ?_
      simp -dsimp
      refine Fin.of ?_
      simp [all11, a1, allT]
    · have he : all11 g p = (tabs g p g.rs, 0) := by rw [all11, if_pos ⟨hc, a1⟩]
      have hn : g.rs.length ≤ 24 := (chkT_zero hc).nr
      rw [he]
      clear he
      simp -dsimp [eq_true hc, a1, planT]
      and_intros
      all_goals try first | rfl | omega | exact ⟨by kernel_rfl⟩
      as_aux_lemma =>
      refine ALoop.of [] (fun k => k == 0 || k == 1 || k == 2 || k == 3 || k == 4 || k == 5 || k == 6 || k == 7 || k == 15 || k == 20 || k == 28) (ι := { i : Nat // i ≤ g.rs.length ∧ True }) (fun z => [(Pl.s 0, It.v (TV.agg [TV.d (D.sl (rts g.rs)), TV.d (D.sl (lks g.ls))])), (Pl.s 1, It.v (TV.agg [TV.d (D.int IntKind.i64 p.subd), TV.d (D.int IntKind.i64 p.len), TV.d (D.sl (eds p.es))])), (Pl.o 2, It.box [TV.d (D.sl (rts g.rs)), TV.d (D.sl (lks g.ls))]), (Pl.s 2, It.v (TV.ptr (Pl.o 2) 0)), (Pl.o 3, It.box [TV.d (D.int IntKind.i64 p.subd), TV.d (D.int IntKind.i64 p.len), TV.d (D.sl (eds p.es))]), (Pl.s 3, It.v (TV.ptr (Pl.o 3) 0)), (Pl.s 4, It.v (TV.c (Value.slice none 0 0))), (Pl.s 5, It.v (TV.d (D.int IntKind.i64 0))), (Pl.s 6, It.v (TV.oref 6 (tabD g p (g.rs.take z.1)).length)), (Pl.o 6, It.row 54 4 (dd (tabD g p (g.rs.take z.1))) false), (Pl.s 7, It.v (TV.d (D.int IntKind.i64 z.1)))]) (fun z => g.rs.length - z.1) ⟨0, by omega, trivial⟩ ?_ ?_
      · exact GS.own' (k := 6) 54 4 (by simp) (by simp) (by simp [tabD, tabs])
      rintro ⟨i, i1, i2⟩
      by_cases hi : i < g.rs.length
      · have hiz : (i : Int) < g.rs.length := by omega
        have hx : g.rs[i]? = some g.rs[i] := List.getElem?_eq_getElem hi
        have ht : g.rs.take (i + 1) = g.rs.take i ++ [g.rs[i]] := by rw [List.take_add_one, List.getElem?_eq_getElem hi]; rfl
        generalize g.rs[i] = x at hx ht
        have hx' := rts_get hx
        have hta := tabD_app g p (g.rs.take i) x
        have htl := tabD_len g p (g.rs.take i)
        rw [← ht] at hta
        simp at htl
        rcases (Bool.eq_false_or_eq_true x.cap).symm with c1 | c1
        · rw [if_neg (by simp [c1])] at hta
          simp -dsimp [hiz, hx', Rt.cs, c1, wrap_i64 (n := (i : Int) + 1) (by omega) (by omega)]
          and_intros
          all_goals try first | rfl | omega | exact ⟨by kernel_rfl⟩
          exact ⟨⟨i + 1, by omega, trivial⟩, GS.to (by simp [hta]), by simp; omega⟩
        · rw [if_pos c1] at hta
          simp -dsimp [hiz, hx', Rt.cs, c1]
          refine ACall.of (build11_c g hg p (by omega) x.id) [] 0 ?_
          simp -dsimp [hiz, hx', Rt.cs, c1, topT, planT, tblT, rwsD, wrap_i64 (n := (i : Int) + 1) (by omega) (by omega)]
          and_intros
          all_goals try first | rfl | omega | exact ⟨by kernel_rfl⟩
          exact ⟨⟨i + 1, by omega, trivial⟩, GS.to (by simp [hta, Tb.cs, rwsD]), by simp; omega⟩
      · have hiz : ¬ (i : Int) < g.rs.length := by omega
        obtain rfl : i = g.rs.length := by omega
        simp -dsimp [hiz]
        refine Fin.view 4 ?_
        simp -dsimp
        refine Fin.of ?_
        simp [allT, tabD]
  · simp -dsimp [eq_false hc, topT]
    and_intros
    all_goals try first | rfl | omega | exact ⟨by kernel_rfl⟩
    refine Fin.view 4 ?_
    simp -dsimp
    refine Fin.of ?_
    simp [all11, hc, allT]
end Go.Proofs
