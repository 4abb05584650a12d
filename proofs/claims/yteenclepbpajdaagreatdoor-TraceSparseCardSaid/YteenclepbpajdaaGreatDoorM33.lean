/-
  What functions of the program compute, stated as contracts over plain data; the conditions of each stand in its own statement.
-/
import Derived.Test.YteenclepbpajdaaGreatDoorM32
import Derived.Test.YteenclepbpajdaaGreatDoorM30
set_option linter.unusedSimpArgs false
set_option maxRecDepth 100000
set_option maxHeartbeats 4000000
namespace Go.Proofs
open Go Go.Tr
theorem rowsOnly_rep (po : Nat → Prop) (n : Nat) (x : D) : rowsOnly po (List.replicate n [TV.d x]) = True := by
 rw [eq_iff_iff, iff_true]
 intro e he
 obtain ⟨_, rfl⟩ := List.mem_replicate.1 he
 simp
theorem rep_row (n : Nat) : List.replicate n [TV.d (D.int .i64 0)] = dd (nrow .i64 (List.replicate n 0)) := by simp [dd, nrow]
def pthH (g : Topo) (t : Int) (N : List Int) (i : Nat) : List Int := (g.rs.take i).map (pthS g t N) ++ List.replicate (g.rs.length - i) 0
theorem pthH_len (g : Topo) (t : Int) (N : List Int) {i : Nat} (h : i ≤ g.rs.length) : (pthH g t N i).length = g.rs.length := by simp [pthH]; omega
theorem pthH_get (g : Topo) (t : Int) (N : List Int) {i : Nat} (h : i < g.rs.length) : (pthH g t N i)[i]? = some 0 := by
 have hl : ((g.rs.take i).map (pthS g t N)).length = i := by simp; omega
 rw [pthH, List.getElem?_append_right (by omega), hl, Nat.sub_self, List.getElem?_replicate, if_pos (by omega)]
theorem pthH_set (g : Topo) (t : Int) (N : List Int) {i : Nat} {x : Rt} (h : g.rs[i]? = some x) : (pthH g t N i).set i (pthS g t N x) = pthH g t N (i + 1) := by
 obtain ⟨hi, _⟩ := List.getElem?_eq_some_iff.1 h
 have hl : ((g.rs.take i).map (pthS g t N)).length = i := by simp; omega
 rw [pthH, List.set_append_right _ _ (by omega), hl, Nat.sub_self]
 rw [show g.rs.length - i = (g.rs.length - (i + 1)) + 1 by omega, List.replicate_succ, List.set_cons_zero, pthH, List.take_add_one, h]
 simp
theorem pthH_zero (g : Topo) (t : Int) (N : List Int) : pthH g t N 0 = List.replicate g.rs.length 0 := by simp [pthH]
theorem pthH_all (g : Topo) (t : Int) (N : List Int) : pthH g t N g.rs.length = pthR g t N := by simp [pthH, pthR]
theorem pthN_len (g : Topo) (t : Int) (k : Nat) : (pthN g t k).length = g.rs.length := by
 cases k <;> simp [pthN, pthR]
theorem pthN_bd (g : Topo) (t : Int) (k : Nat) : Bd (pthN g t k) := by
 cases k with
 | zero => intro v hv; simp [pthN] at hv; obtain ⟨_, rfl⟩ := hv; unfold far; omega
 | succ k =>
   intro v hv
   simp only [pthN, pthR, List.mem_map] at hv
   obtain ⟨x, _, rfl⟩ := hv
   unfold pthS far
   split
   ·omega
   ·have := fold_min (steps g (dist g t) x.id) (atR g (pthN g t k)) 0 (by omega) (by omega) (pthN_nonneg g t k)
    omega
theorem paths06_c (g : Topo) (hg : g.Sm) (f t : Int) : Contract Tryz.prog 93 [topT g, .d (.int .i64 f), .d (.int .i64 t)] [] (.d (.int .i64 (pathsR g f t))) [] [] := by
 have h1 := has05x_c g hg f
 have h2 := has05x_c g hg t
 simp only [topT] at h1 h2
 refine contract_of Tryz.func93 rfl (fun E0 => ?_)
 refine awp.sound (g := .mk) (ow := [30, 39]) (kp := (fun k => k==0||k==1||k==2||k==3||k==6||k==7||k==8||k==9||k==10||k==11||k==12||k==13||k==23||k==34||k==43||k==53||k==69)) ?_
 rw [Tryz.ntmps93]
 simp -dsimp [topT]
 try refine ⟨?_, ⟨by kernel_rfl⟩⟩
 refine ACall.of h1 [] 0 ?_
 rcases (Bool.eq_false_or_eq_true (decide (chkT g = 0) && hasR g.rs f)).symm with a1 | a1
 ·have e : pathsR g f t = 0 := by
   rw [pathsR, if_neg]; rintro ⟨h1, h2, _⟩; simp [h1, h2] at a1
  rw [e]
  simp -dsimp [a1]
  try refine ⟨?_, ⟨by kernel_rfl⟩⟩
  refine Fin.of ?_
  simp
 have hc : chkT g = 0 := by simp at a1; exact a1.1
 have hf : hasR g.rs f = true := by simp at a1; exact a1.2
 rcases (Bool.eq_false_or_eq_true (decide (chkT g = 0) && hasR g.rs t)).symm with a2 | a2
 ·have e : pathsR g f t = 0 := by
   rw [pathsR, if_neg]; rintro ⟨h1, _, h2⟩; simp [h1, h2] at a2
  rw [e]
  simp -dsimp [a1]
  try refine ⟨?_, ⟨by kernel_rfl⟩⟩
  refine ACall.of h2 [] 0 ?_
  simp -dsimp [a2]
  try refine ⟨?_, ⟨by kernel_rfl⟩⟩
  refine Fin.of ?_
  simp
 have ht : hasR g.rs t = true := by simp at a2; exact a2.2
 have hO := chkT_zero hc
 have h3 := to06_c g hO t
 simp only [topT, ints] at h3
 have e : pathsR g f t = atR g (pthN g t g.rs.length) f := by rw [pathsR, if_pos ⟨hc, hf, ht⟩]
 rw [e]
 simp -dsimp [a1]
 try refine ⟨?_, ⟨by kernel_rfl⟩⟩
 refine ACall.of h2 [] 0 ?_
 simp -dsimp [a2]
 try refine ⟨?_, ⟨by kernel_rfl⟩⟩
 refine ACall.of h3 [] 0 ?_
 simp -dsimp
 have hr24 := hO.nr
 have hdl := dist_len g t
 have hdb := dist_bd hO t
 have hgr := hO.sm
 and_intros
 all_goals try first | omega | exact rfl | exact ⟨by kernel_rfl⟩
 refine ALoop.of [30, 39] (fun k => k==0||k==1||k==2||k==3||k==6||k==7||k==8||k==9||k==10||k==11||k==12||k==13||k==23||k==34||k==43||k==53||k==69) (ι := { z : Nat × Bool // z.1 ≤ g.rs.length })
  (fun z => [(Pl.s 2, It.v (TV.d (D.int IntKind.i64 t))), (Pl.s 1, It.v (TV.d (D.int IntKind.i64 f))), (Pl.o 3, It.box [TV.d (D.sl (rts g.rs)), TV.d (D.sl (lks g.ls))]), (Pl.s 3, It.v (TV.ptr (Pl.o 3) 0)), (Pl.s 6, It.v (TV.d (D.int IntKind.i64 0))),
   (Pl.s 7, It.v (TV.d (D.sl (List.map (fun n => [D.int IntKind.i64 n]) (dist g t))))), (Pl.s 8, It.v (TV.oref 30 g.rs.length)), (Pl.o 30, It.row 3 1 (dd (nrow .i64 (pthN g t z.1.1))) z.1.2), (Pl.s 9, It.v (TV.d (D.int IntKind.i64 z.1.1)))])
  (fun z => g.rs.length - z.1.1) ⟨(0, false), by simp⟩ ?_ ?_
 ·exact GS.to (by simp [pthN, nrow, dd, List.map_const', rowsOnly_rep])
 rintro ⟨⟨r, sh⟩, r1⟩
 simp only at r1
 have hNl := pthN_len g t r
 have hNb := pthN_bd g t r
 have hNn := pthN_nonneg g t r
 have hNx : pthN g t (r + 1) = g.rs.map (pthS g t (pthN g t r)) := rfl
 have hnl : (nrow .i64 (pthN g t r)).length = g.rs.length := by simp [nrow, hNl]
 by_cases hr : r < g.rs.length
 ·have hrz : (r : Int) < g.rs.length := by omega
  simp -dsimp [hrz]
  and_intros
  all_goals try first | omega | exact rfl | exact ⟨by kernel_rfl⟩
  rw [rep_row, ← pthH_zero g t (pthN g t r)]
  generalize pthN g t r = N at *
  refine ALoop.of [30, 39] (fun k => k==0||k==1||k==2||k==3||k==6||k==7||k==8||k==9||k==10||k==11||k==12||k==13||k==23||k==34||k==43||k==53||k==69) (ι := { z : Nat × Bool // z.1 ≤ g.rs.length })
   (fun z => [(Pl.s 2, It.v (TV.d (D.int IntKind.i64 t))), (Pl.s 1, It.v (TV.d (D.int IntKind.i64 f))), (Pl.o 3, It.box [TV.d (D.sl (rts g.rs)), TV.d (D.sl (lks g.ls))]), (Pl.s 3, It.v (TV.ptr (Pl.o 3) 0)), (Pl.s 6, It.v (TV.d (D.int IntKind.i64 0))), (Pl.s 7, It.v (TV.d (D.sl (List.map (fun n => [D.int IntKind.i64 n]) (dist g t))))), (Pl.s 8, It.v (TV.oref 30 g.rs.length)), (Pl.o 30, It.row 3 1 (dd (nrow .i64 N)) z.1.2), (Pl.s 9, It.v (TV.d (D.int IntKind.i64 r))), (Pl.o 39, It.row 3 1 (dd (nrow .i64 (pthH g t N z.1.1))) false), (Pl.s 10, It.v (TV.oref 39 g.rs.length)), (Pl.s 11, It.v (TV.d (D.int IntKind.i64 z.1.1)))])
   (fun z => g.rs.length - z.1.1) ⟨(0, sh), by simp⟩ ?_ ?_
  ·exact GS.to (by simp)
  rintro ⟨⟨i, sh⟩, k1⟩
  simp only at k1
  have hHl := pthH_len g t N k1
  by_cases hi : i < g.rs.length
  ·have hiz : (i : Int) < g.rs.length := by omega
   have hg0 := pthH_get g t N hi
   have hx : g.rs[i]? = some g.rs[i] := List.getElem?_eq_getElem hi
   generalize g.rs[i] = x at hx
   have hx' := rts_get hx
   have hset := pthH_set g t N hx
   have hHn : (nrow .i64 (pthH g t N i)).length = g.rs.length := by simp [nrow, hHl]
   by_cases hxt : x.id = t
   ·have hS : pthS g t N x = 1 := by rw [pthS, if_pos hxt]
    rw [hS] at hset
    have hr0 := row_get hg0
    simp -dsimp [hiz, hx', Rt.cs, eq_true hxt, hnl, hHn, hHl, hr0, row_set, hset, wrap_i64 (n := (i : Int) + 1) (by omega) (by omega)]
    and_intros
    all_goals try first | omega | exact rfl | exact ⟨by kernel_rfl⟩
    exact ⟨⟨(i + 1, sh), by dsimp only; omega⟩, GS.to (by simp), by simp; omega⟩
   ·have hS : pthS g t N x = (steps g (dist g t) x.id).foldl (fun a y => min 1000000 (a + atR g N y)) 0 := by rw [pthS, if_neg hxt]
    have hst := steps06_c g hO (dist g t) (by omega) hdb x.id
    have hsl := steps_len g (dist g t) x.id
    simp only [topT, ints] at hst
    simp -dsimp [hiz, hx', Rt.cs, eq_false hxt, hnl, hHn, hHl]
    and_intros
    all_goals try first | omega | exact rfl | exact ⟨by kernel_rfl⟩
    refine ACall.of hst [] 0 ?_
    simp -dsimp
    and_intros
    all_goals try first | omega | exact rfl | exact ⟨by kernel_rfl⟩
    have hsh : ∀ y ∈ steps g (dist g t) x.id, hasR g.rs y = true := fun y hy => steps_has hy
    rw [hS] at hset
    generalize steps g (dist g t) x.id = n at hsl hsh hset
    refine ALoop.of [30, 39] (fun k => k==0||k==1||k==2||k==3||k==6||k==7||k==8||k==9||k==10||k==11||k==12||k==13||k==23||k==34||k==43||k==53||k==69) (ι := { z : Nat × Bool // z.1 ≤ n.length })
     (fun z => [(Pl.s 2, It.v (TV.d (D.int IntKind.i64 t))), (Pl.s 1, It.v (TV.d (D.int IntKind.i64 f))), (Pl.o 3, It.box [TV.d (D.sl (rts g.rs)), TV.d (D.sl (lks g.ls))]), (Pl.s 3, It.v (TV.ptr (Pl.o 3) 0)), (Pl.s 6, It.v (TV.d (D.int IntKind.i64 0))), (Pl.s 7, It.v (TV.d (D.sl (List.map (fun n => [D.int IntKind.i64 n]) (dist g t))))), (Pl.s 8, It.v (TV.oref 30 g.rs.length)), (Pl.o 30, It.row 3 1 (dd (nrow .i64 N)) z.1.2), (Pl.s 9, It.v (TV.d (D.int IntKind.i64 r))), (Pl.o 39, It.row 3 1 (dd (nrow .i64 ((pthH g t N i).set i ((n.take z.1.1).foldl (fun a y => min 1000000 (a + atR g N y)) 0)))) false), (Pl.s 10, It.v (TV.oref 39 g.rs.length)), (Pl.s 11, It.v (TV.d (D.int IntKind.i64 i))),
      (Pl.s 12, It.v (TV.d (D.sl (List.map (fun n => [D.int IntKind.i64 n]) n)))), (Pl.s 13, It.v (TV.d (D.int IntKind.i64 z.1.1)))])
     (fun z => n.length - z.1.1) ⟨(0, sh), by simp⟩ ?_ ?_
    ·have hself : (pthH g t N i).set i 0 = pthH g t N i := by
      refine List.ext_getElem? fun m => ?_
      rw [List.getElem?_set]
      split
      ·rename_i e; subst e; rw [if_pos (by omega)]; exact hg0.symm
      ·rfl
     exact GS.to (by simp [hself])
    rintro ⟨⟨k, sh⟩, j1⟩
    simp only at j1
    by_cases hk : k < n.length
    ·have hkz : (k : Int) < n.length := by omega
     have hgk : n[k]? = some n[k] := List.getElem?_eq_getElem hk
     have htk : (n.take (k + 1)).foldl (fun a y => min 1000000 (a + atR g N y)) 0 = min 1000000 ((n.take k).foldl (fun a y => min 1000000 (a + atR g N y)) 0 + atR g N n[k]) := by
      rw [List.take_add_one, hgk, List.foldl_append]; rfl
     generalize n[k] = y at hgk htk
     have hfb := fold_min (n.take k) (atR g N) 0 (by omega) (by omega) hNn
     generalize (n.take k).foldl (fun a y => min 1000000 (a + atR g N y)) 0 = a at htk hfb ⊢
     have hab := atR_bd (g := g) hNb y
     have hat := at06_c g hg N (by omega) y
     generalize atR g N y = w at htk hab hat
     simp only [topT, ints] at hat
     have hra : ((pthH g t N i).set i a)[i]? = some a := by rw [List.getElem?_set_self (by omega)]
     have hr0 := row_get hra
     have hss : ((pthH g t N i).set i a).set i (min 1000000 (a + w)) = (pthH g t N i).set i (min 1000000 (a + w)) := List.set_set ..
     have hal : ((pthH g t N i).set i a).length = g.rs.length := by simp [hHl]
     have han : (nrow .i64 ((pthH g t N i).set i a)).length = g.rs.length := by simp [nrow, hHl]
     simp -dsimp [hkz, hgk, hal, han, hr0, hnl]
     and_intros
     all_goals try first | omega | exact rfl | exact ⟨by kernel_rfl⟩
     refine ACall.of hat [] 0 ?_
     simp -dsimp [hkz, hgk, hal, han, hr0, row_set, hss, minI_eq, wrap_i64 (n := a + w) (by omega) (by omega), wrap_i64 (n := (k : Int) + 1) (by omega) (by omega)]
     and_intros
     all_goals try first | omega | exact rfl | exact ⟨by kernel_rfl⟩
     exact ⟨⟨(k + 1, true), by dsimp only; omega⟩, GS.to (by simp [htk]), by simp; omega⟩
    ·have hkz : ¬ (k : Int) < n.length := by omega
     have e0 : n.take k = n := List.take_of_length_le (by omega)
     rw [e0, hset]
     simp -dsimp [hkz, wrap_i64 (n := (i : Int) + 1) (by omega) (by omega)]
     and_intros
     all_goals try first | omega | exact rfl | exact ⟨by kernel_rfl⟩
     exact ⟨⟨(i + 1, sh), by dsimp only; omega⟩, GS.to (by simp), by simp; omega⟩
  ·have hiz : ¬ (i : Int) < g.rs.length := by omega
   have ei : i = g.rs.length := by omega
   subst ei
   simp -dsimp [hiz, hnl, wrap_i64 (n := (r : Int) + 1) (by omega) (by omega)]
   and_intros
   all_goals try first | omega | exact rfl | exact ⟨by kernel_rfl⟩
   rw [pthH_all]
   refine ⟨⟨(r + 1, false), by dsimp only; omega⟩, ?_, by simp; omega⟩
   refine GS.trans (u := Tr.look [(Pl.s 2, It.v (TV.d (D.int IntKind.i64 t))), (Pl.s 1, It.v (TV.d (D.int IntKind.i64 f))), (Pl.o 3, It.box [TV.d (D.sl (rts g.rs)), TV.d (D.sl (lks g.ls))]), (Pl.s 3, It.v (TV.ptr (Pl.o 3) 0)), (Pl.s 6, It.v (TV.d (D.int IntKind.i64 0))), (Pl.s 7, It.v (TV.d (D.sl (List.map (fun n => [D.int IntKind.i64 n]) (dist g t))))), (Pl.s 8, It.v (TV.oref 39 g.rs.length)), (Pl.o 39, It.row 3 1 (dd (nrow .i64 (pthR g t N))) false), (Pl.s 9, It.v (TV.d (D.int IntKind.i64 ((r : Int) + 1))))]) (GS.to (by simp)) ?_
   simp only [hNx]
   rw [show g.rs.map (pthS g t N) = pthR g t N from rfl]
   generalize pthR g t N = M
   exact GS.ren' 39 30 (by decide) (by simp) (by simp)
 ·have hrz : ¬ (r : Int) < g.rs.length := by omega
  have e0 : r = g.rs.length := by omega
  have h4 := at06_c g hg (pthN g t g.rs.length) (by rw [pthN_len]; exact Nat.le_refl _) f
  subst e0
  simp only [topT, ints] at h4
  simp -dsimp [hrz]
  and_intros
  all_goals try first | omega | exact rfl | exact ⟨by kernel_rfl⟩
  refine ACall.of h4 [] 0 ?_
  simp -dsimp
  try refine ⟨rfl, ?_⟩
  try refine ⟨?_, ⟨by kernel_rfl⟩⟩
  refine Fin.of ?_
  simp
end Go.Proofs

set_option linter.unusedSimpArgs false
set_option maxRecDepth 100000
set_option maxHeartbeats 4000000
namespace Go.Proofs
open Go Go.Tr
theorem unique06_c (g : Topo) (hg : g.Sm) : Contract Tryz.prog 46 [topT g] [] (.d (.bool (uniqueR g))) [] [] := by
 have h0 := check05_c g hg.r hg.l
 simp only [topT] at h0
 refine contract_of Tryz.func46 rfl (fun E0 => ?_)
 refine awp.sound (g := .mk) (ow := []) (kp := (fun k => k==0||k==1||k==2||k==3||k==4||k==7||k==12||k==19||k==36)) ?_
 rw [Tryz.ntmps46]
 simp -dsimp [topT]
 try refine ⟨?_, ⟨by kernel_rfl⟩⟩
 refine ACall.of h0 [] 0 ?_
 by_cases hc : chkT g = 0
 rotate_left
 ·have e : uniqueR g = false := by simp [uniqueR, hc]
  rw [e]
  simp -dsimp [hc]
  try refine ⟨?_, ⟨by kernel_rfl⟩⟩
  refine Fin.of ?_
  simp
 simp -dsimp [hc]
 try refine ⟨?_, ⟨by kernel_rfl⟩⟩
 have hr24 := (chkT_zero hc).nr
 refine ALoop.of [] (fun k => k==0||k==1||k==2||k==3||k==4||k==7||k==12||k==19||k==36) (ι := { i : Nat // i ≤ g.rs.length ∧ ∀ x ∈ g.rs.take i, ∀ y ∈ g.rs, pathsR g x.id y.id ≤ 1 })
  (fun z => [(Pl.o 1, It.box [TV.d (D.sl (rts g.rs)), TV.d (D.sl (lks g.ls))]), (Pl.s 1, It.v (TV.ptr (Pl.o 1) 0)), (Pl.s 2, It.v (TV.d (D.bool false))), (Pl.s 3, It.v (TV.d (D.int IntKind.i64 z.1)))]) (fun z => g.rs.length - z.1) ⟨0, by simp⟩ ?_ ?_
 ·exact GS.to (by simp)
 rintro ⟨i, i1, i2⟩
 by_cases hi : i < g.rs.length
 ·have hiz : (i : Int) < g.rs.length := by omega
  have hx : g.rs[i]? = some g.rs[i] := List.getElem?_eq_getElem hi
  have hxm := List.getElem_mem hi
  have htk : g.rs.take (i + 1) = g.rs.take i ++ [g.rs[i]] := by rw [List.take_add_one, hx]; rfl
  generalize g.rs[i] = x at hx htk hxm
  have hx' := rts_get hx
  simp -dsimp [hiz]
  try refine ⟨?_, ⟨by kernel_rfl⟩⟩
  refine ALoop.of [] (fun k => k==0||k==1||k==2||k==3||k==4||k==7||k==12||k==19||k==36) (ι := { k : Nat // k ≤ g.rs.length ∧ ∀ y ∈ g.rs.take k, pathsR g x.id y.id ≤ 1 })
   (fun z => [(Pl.o 1, It.box [TV.d (D.sl (rts g.rs)), TV.d (D.sl (lks g.ls))]), (Pl.s 1, It.v (TV.ptr (Pl.o 1) 0)), (Pl.s 2, It.v (TV.d (D.bool false))), (Pl.s 3, It.v (TV.d (D.int IntKind.i64 i))), (Pl.s 4, It.v (TV.d (D.int IntKind.i64 z.1)))]) (fun z => g.rs.length - z.1) ⟨0, by simp⟩ ?_ ?_
  ·exact GS.to (by simp)
  rintro ⟨k, k1, k2⟩
  by_cases hk : k < g.rs.length
  ·have hkz : (k : Int) < g.rs.length := by omega
   have hy : g.rs[k]? = some g.rs[k] := List.getElem?_eq_getElem hk
   have hym := List.getElem_mem hk
   have htk2 : g.rs.take (k + 1) = g.rs.take k ++ [g.rs[k]] := by rw [List.take_add_one, hy]; rfl
   generalize g.rs[k] = y at hy htk2 hym
   have hy' := rts_get hy
   have hp := paths06_c g hg x.id y.id
   simp only [topT] at hp
   have huniq : ¬ pathsR g x.id y.id ≤ 1 → uniqueR g = false := fun hn => by
    cases hU : uniqueR g with
    | false => rfl
    | true =>
      simp only [uniqueR, decide_eq_true_eq] at hU
      exact absurd (hU.2 x hxm y hym) hn
   obtain ⟨w, hwd⟩ : ∃ w, pathsR g x.id y.id = w := ⟨_, rfl⟩
   rw [hwd] at hp huniq
   simp -dsimp [hiz, hkz, hx', hy', Rt.cs]
   and_intros
   all_goals try first | omega | exact rfl | exact ⟨by kernel_rfl⟩
   refine ACall.of hp [] 0 ?_
   by_cases hw : 1 < w
   ·rw [huniq (by omega)]
    simp -dsimp [hw]
    try refine ⟨?_, ⟨by kernel_rfl⟩⟩
    refine Fin.of ?_
    simp
   ·simp -dsimp [hw, wrap_i64 (n := (k : Int) + 1) (by omega) (by omega)]
    try refine ⟨?_, ⟨by kernel_rfl⟩⟩
    exact ⟨⟨k + 1, by omega, fun z hz => by
     rw [htk2] at hz
     rcases List.mem_append.1 hz with hz | hz
     ·exact k2 z hz
     ·simp at hz; subst hz; rw [hwd]; omega⟩, GS.to (by simp), by simp; omega⟩
  ·have hkz : ¬ (k : Int) < g.rs.length := by omega
   have e0 : g.rs.take k = g.rs := List.take_of_length_le (by omega)
   rw [e0] at k2
   simp -dsimp [hkz, wrap_i64 (n := (i : Int) + 1) (by omega) (by omega)]
   try refine ⟨?_, ⟨by kernel_rfl⟩⟩
   exact ⟨⟨i + 1, by omega, fun z hz y hy => by
    rw [htk] at hz
    rcases List.mem_append.1 hz with hz | hz
    ·exact i2 z hz y hy
    ·simp at hz; subst hz; exact k2 y hy⟩, GS.to (by simp), by simp; omega⟩
 ·have hiz : ¬ (i : Int) < g.rs.length := by omega
  have e0 : g.rs.take i = g.rs := List.take_of_length_le (by omega)
  rw [e0] at i2
  have e : uniqueR g = true := by simp only [uniqueR, decide_eq_true_eq]; exact ⟨hc, i2⟩
  rw [e]
  simp -dsimp [hiz]
  try refine ⟨?_, ⟨by kernel_rfl⟩⟩
  refine Fin.of ?_
  simp
end Go.Proofs

set_option linter.unusedSimpArgs false
set_option maxRecDepth 100000
set_option maxHeartbeats 8000000
namespace Go.Proofs
open Go Go.Tr
theorem tsparse_law (L : List Int) (hL : ∀ x ∈ L, I64 x) : Contract Tryz.prog 7 [.d (ints L)] [] (.d (.bool true)) [] [] := by
 refine contract_of Tryz.func7 rfl (fun E0 => ?_)
 refine awp.sound (g := .mk) (ow := []) (kp := (fun k => k==0||k==2||k==3||k==4||k==5||k==6||k==7||k==8||k==9||k==10||k==11||k==22||k==41||k==46||k==76)) ?_
 rw [Tryz.ntmps7]
 simp -dsimp [ints]
 refine ACall.of (new_c L) [] 3000 ?_
 simp -dsimp [ints]
 have kT : TapeOK (L.take 600, 0) := tape_new L hL
 generalize (L.take 600, 0) = T0 at kT ⊢
 refine ACall.of (domain_c T0 kT 7 (by omega)) [.o 3010] 0 ?_
 obtain ⟨d1, d2, d3, d4, d5, d6⟩ := gDom_ok T0 (most := 7) (by omega)
 obtain ⟨hDV, hAC⟩ := gDom_valid T0 (most := 7) (by omega)
 have kD : TapeOK (gDom T0 7).2.2.2 := d3.symm ▸ kT
 clear d3
 generalize gDom T0 7 = D0 at d1 d2 d4 d5 d6 kD hDV hAC ⊢
 obtain ⟨g, p, X, T1⟩ := D0
 simp only at d1 d2 d4 d5 d6 kD hDV hAC
 have hlen := hDV.len
 have hl0 : p.len ≠ 0 := fun e => by rw [e] at hlen; simp [validLen] at hlen
 have hlI : I64 p.len := by simp [validLen] at hlen; unfold I64; omega
 have hc := hDV.top.ok
 have hO := chkT_zero hc
 have hun := unique06_c g hO.sm
 simp only [topT] at hun
 simp -dsimp [topT, planT]
 try refine ⟨?_, ⟨by kernel_rfl⟩⟩
 refine ACall.of hun [] 0 ?_
 by_cases hU : uniqueR g = true
 ·rw [hU]
  simp -dsimp [topT, planT]
  try refine ⟨?_, ⟨by kernel_rfl⟩⟩
  refine ACall.of (for_c T1 kD p (by omega) hl0 hlI) [.o 3010] 0 ?_
  have kF : TapeOK (gFor T1 p).2 := by rw [gFor_ok]; exact kD
  have hFV := gFor_valid T1 hDV.subd hDV.len
  generalize gFor T1 p = F at kF hFV ⊢
  obtain ⟨q, T3⟩ := F
  simp only at kF hFV ⊢
  simp only [pkT, Pk.cs, List.map, bv]
  simp -dsimp [planT]
  and_intros
  all_goals try first | exact ⟨by kernel_rfl⟩
  refine ACall.of (router0_c T3 kF g.rs g.ls ⟨d5, by omega⟩) [.o 3010] 0 ?_
  have m1 := gNext_nonneg T3 g.rs.length
  have m2 := gNext_lt T3 (n := g.rs.length) (by omega)
  generalize gNext T3 g.rs.length = A at m1 m2 ⊢
  obtain ⟨a, T5⟩ := A
  simp only at m1 m2 ⊢
  obtain ⟨j, rfl⟩ : ∃ j : Nat, a = j := ⟨a.toNat, by omega⟩
  have hj : j < g.rs.length := by omega
  have hx : g.rs.getD ((j : Int)).toNat ⟨0, false⟩ = g.rs[j] := by rw [List.getD_eq_getElem?_getD, show ((j : Int)).toNat = j by omega, List.getElem?_eq_getElem hj]; rfl
  rw [hx]
  have hxm : g.rs[j] ∈ g.rs := List.getElem_mem hj
  generalize g.rs[j] = x at hxm
  have hp := hDV.plan
  have hcap := hAC.cap hO (rt_has hxm)
  have hQV := hFV.live (n := 63) (by omega)
  have hX := hDV.tab
  have hTab := tabs_v hc hp
  have hA0 := tabs_all hc hp
  rw [← hX] at hTab hA0
  have hr : x.id ∈ (X.map (·.r)) := by rw [hX]; exact (tabs_rs hO p x.id).2 hcap
  obtain ⟨hrun, hsome⟩ := hTab.run hQV hr
  have hF := hTab.fit hQV
  have hrc := run_c X hTab.sm (q.live 63) x.id
  obtain ⟨s1, s2, s3⟩ := run_small X (q.live 63) x.id
  rw [hrun] at hrc s1 s2 s3
  simp only at hrc s1 s2 s3
  have hsp := fun {i j : Nat} (hij : i < j) {y z : Int × Int × BitVec 64} => sparse hU hAC hp (by rw [← hX]; exact hF) (q := q.live 63) (by show (g.rs.length : Int) ≤ 63; omega) (r := x.id) (by rw [← hX]; exact hsome) hij (x := y) (y := z)
  rw [← hX] at hsp
  generalize runG X (wt (q.live 63)) [(x.id, q.live 63)] tr0 = U at *
  simp only [pkT, Pk.cs, Pk.live, List.map, trcT, bv] at hrc
  simp -dsimp [topT]
  try refine ⟨?_, ⟨by kernel_rfl⟩⟩
  refine ACall.of hrc [] 0 ?_
  simp -dsimp
  try refine ⟨?_, ⟨by kernel_rfl⟩⟩
  refine ALoop.of [] (fun k => k==0||k==2||k==3||k==4||k==5||k==6||k==7||k==8||k==9||k==10||k==11||k==22||k==41||k==46||k==76) (ι := { i : Nat // i ≤ U.cr.length })
   (fun z => [(Pl.s 2, It.v (TV.d (D.bool false))), (Pl.o 8, It.box [TV.d (D.sl (List.map dlC U.dl)), TV.d (D.sl (List.map crC U.cr)), TV.d (D.sl (List.map lsC U.ls))]), (Pl.s 8, It.v (TV.ptr (Pl.o 8) 0)), (Pl.s 9, It.v (TV.d (D.int IntKind.i64 0))), (Pl.s 10, It.v (TV.d (D.int IntKind.i64 z.1)))])
   (fun z => U.cr.length - z.1) ⟨0, by omega⟩ ?_ ?_
  ·exact GS.to (by simp)
  rintro ⟨i, i1⟩
  by_cases hi : i < U.cr.length
  ·have hiz : (i : Int) < U.cr.length := by omega
   have hg : U.cr[i]? = some U.cr[i] := List.getElem?_eq_getElem hi
   generalize U.cr[i] = y at hg
   simp -dsimp [hiz]
   try refine ⟨?_, ⟨by kernel_rfl⟩⟩
   refine ALoop.of [] (fun k => k==0||k==2||k==3||k==4||k==5||k==6||k==7||k==8||k==9||k==10||k==11||k==22||k==41||k==46||k==76) (ι := { k : Nat // k ≤ i })
    (fun z => [(Pl.s 2, It.v (TV.d (D.bool false))), (Pl.o 8, It.box [TV.d (D.sl (List.map dlC U.dl)), TV.d (D.sl (List.map crC U.cr)), TV.d (D.sl (List.map lsC U.ls))]), (Pl.s 8, It.v (TV.ptr (Pl.o 8) 0)), (Pl.s 9, It.v (TV.d (D.int IntKind.i64 0))), (Pl.s 10, It.v (TV.d (D.int IntKind.i64 i))), (Pl.s 11, It.v (TV.d (D.int IntKind.i64 z.1)))])
    (fun z => i - z.1) ⟨0, by omega⟩ ?_ ?_
   ·exact GS.to (by simp)
   rintro ⟨k, k1⟩
   by_cases hk : k < i
   ·have hkz : (k : Int) < i := by omega
    have hg2 : U.cr[k]? = some U.cr[k] := List.getElem?_eq_getElem (by omega)
    generalize U.cr[k] = z at hg2
    have hnn := hsp hk hg2 hg
    by_cases t1 : y.1 = z.1
    ·have t2 : ¬ y.2.1 = z.2.1 := fun e => hnn ⟨t1.symm, e.symm⟩
     simp -dsimp [hkz, hg, hg2, crC, eq_true t1, eq_false t2, wrap_i64 (n := (k : Int) + 1) (by omega) (by omega)]
     and_intros
     all_goals try first | omega | exact ⟨by kernel_rfl⟩
     exact ⟨⟨k + 1, by omega⟩, GS.to (by simp), by simp; omega⟩
    ·simp -dsimp [hkz, hg, hg2, crC, eq_false t1, wrap_i64 (n := (k : Int) + 1) (by omega) (by omega)]
     and_intros
     all_goals try first | omega | exact ⟨by kernel_rfl⟩
     exact ⟨⟨k + 1, by omega⟩, GS.to (by simp), by simp; omega⟩
   ·have hkz : ¬ (k : Int) < i := by omega
    simp -dsimp [hkz, wrap_i64 (n := (i : Int) + 1) (by omega) (by omega)]
    try refine ⟨?_, ⟨by kernel_rfl⟩⟩
    exact ⟨⟨i + 1, by omega⟩, GS.to (by simp), by simp; omega⟩
  ·have hiz : ¬ (i : Int) < U.cr.length := by omega
   simp -dsimp [hiz]
   try refine ⟨?_, ⟨by kernel_rfl⟩⟩
   refine ACall.of awake14_c [] 0 ?_
   simp -dsimp
   try refine ⟨?_, ⟨by kernel_rfl⟩⟩
   refine Fin.of ?_
   simp
 ·rw [Bool.eq_false_iff.2 hU]
  simp -dsimp
  try refine ⟨?_, ⟨by kernel_rfl⟩⟩
  refine ACall.of awake14_c [] 0 ?_
  simp -dsimp
  try refine ⟨?_, ⟨by kernel_rfl⟩⟩
  refine Fin.of ?_
  simp
end Go.Proofs
