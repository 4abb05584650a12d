/-
  What functions of the program compute, stated as contracts over plain data; the conditions of each stand in its own statement.
-/
import Derived.Test.YteenclepbpajdaaGreatDoorM31
import Derived.Test.YteenclepbpajdaaGreatDoorM18
import Derived.Test.YteenclepbpajdaaGreatDoorM32
set_option linter.unusedSimpArgs false
set_option maxRecDepth 100000
set_option maxHeartbeats 8000000
namespace Go.Proofs
open Go Go.Tr
def trC (t : Trc) : List D := [.sl (t.dl.map dlC), .sl (t.cr.map crC), .sl (t.ls.map lsC)]
def sendL (l : List Tb) (r : Int) : List Pk → List Trc → List Trc × Int
 | [], out => (out, 0)
 | p :: ps, out => if (runR l p r).2 = 0 then sendL l r ps (out ++ [(runR l p r).1]) else ([], (runR l p r).2)
noncomputable def sendR (l : List Tb) (p : Pn) (r : Int) (ids : List Int) (q : Pk) : List Trc × Int :=
 if (packR p ids q).2 = 0 then sendL l r (packR p ids q).1 [] else ([], (packR p ids q).2)
def sendT (x : List Trc × Int) : TV := .tup [.d (.sl (x.1.map trC)), .d (.int .i64 x.2)]
theorem pkAll_len (q : Pk) (p : Pn) : ∀ (l : List Sb) (out : List Pk), (pkAll q p l out).1.length ≤ l.length + out.length
 | [], out => by simp [pkAll]
 | s :: l, out => by
   have h := pkAll_len q p l (out ++ [q.with p s])
   rw [List.length_append, List.length_cons, List.length_nil] at h
   by_cases ho : (q.with p s).ok = true
   ·rw [pkAll, if_pos ho, List.length_cons]; omega
   ·rw [pkAll, if_neg ho]; simp
theorem packR_len (p : Pn) (ids : List Int) (q : Pk) : (packR p ids q).1.length ≤ ids.length := by
 have h1 := setsR_len p ids
 unfold packR
 split
 ·have h2 := pkAll_len q p (setsR p ids).1 []
  simp at h2; omega
 ·simp
theorem send17_c (l : List Tb) (hl : SmL l) (p : Pn) (hp : p.es.length ≤ 1000) (r : Int) (ids : List Int) (hi : ids.length ≤ 100000) (q : Pk) : Contract Tryz.prog 57 [.d (.sl (tbs l)), planT p, .d (.int .i64 r), .d (ints ids), pkT q] [] (sendT (sendR l p r ids q)) [] [] := by
 have hpk := packets17_c p hp ids hi q
 have hln := packR_len p ids q
 simp only [pkT, Pk.cs, List.map, planT, packT] at hpk
 refine contract_of Tryz.func57 rfl (fun E0 => ?_)
 refine awp.sound (g := .mk) (ow := []) (kp := (fun k => k==0||k==1||k==2||k==3||k==4||k==6||k==9||k==10||k==11||k==12||k==13||k==14||k==15||k==16||k==17||k==26||k==31||k==45)) ?_
 rw [Tryz.ntmps57]
 simp -dsimp [planT, pkT, Pk.cs]
 try refine ⟨?_, ⟨by kernel_rfl⟩⟩
 refine ACall.of hpk [] 0 ?_
 unfold sendR
 generalize packR p ids q = W at hln
 obtain ⟨W, e⟩ := W
 simp only at hln ⊢
 by_cases h0 : e = 0
 ·simp -dsimp [h0]
  try refine ⟨?_, ⟨by kernel_rfl⟩⟩
  refine ALoop.of [] (fun k => k==0||k==1||k==2||k==3||k==4||k==6||k==9||k==10||k==11||k==12||k==13||k==14||k==15||k==16||k==17||k==26||k==31||k==45) (ι := { z : Nat × List Trc // z.1 ≤ W.length ∧ z.2.length ≤ z.1 ∧ sendL l r W [] = sendL l r (W.drop z.1) z.2 })
   (fun z => [(Pl.s 0, It.v (TV.d (D.sl (tbs l)))), (Pl.s 2, It.v (TV.d (D.int IntKind.i64 r))), (Pl.s 10, It.v (TV.c (Value.slice none 0 0))), (Pl.s 11, It.v (TV.d (D.int IntKind.i64 0))), (Pl.s 12, It.v (TV.d (D.sl (pks W)))), (Pl.s 15, It.v (TV.d (D.int IntKind.i64 z.1.1))), (Pl.s 14, It.v (TV.oref 14 z.1.2.length)), (Pl.o 14, .row 65 3 (dd (z.1.2.map trC)) false)])
   (fun z => W.length - z.1.1) ⟨(0, []), by simp, by simp, rfl⟩ ?_ ?_
  ·exact GS.own' (k := 14) 65 3 (by simp) (by simp) (by simp [ints])
  rintro ⟨⟨i, out⟩, q1, q2, q3⟩
  simp only at q1 q2 q3
  by_cases hq : i < W.length
  ·obtain ⟨x, hx⟩ : ∃ x, W[i]? = some x := ⟨W[i], List.getElem?_eq_getElem hq⟩
   have hd : W.drop i = x :: W.drop (i + 1) := by rw [List.getElem?_eq_some_iff] at hx; obtain ⟨_, rfl⟩ := hx; exact List.drop_eq_getElem_cons _
   have hrn := run14_c l hl x r
   have q4 : sendL l r W [] = if (runR l x r).2 = 0 then sendL l r (W.drop (i + 1)) (out ++ [(runR l x r).1]) else ([], (runR l x r).2) := by rw [q3, hd, sendL]
   generalize runR l x r = V at hrn q4
   obtain ⟨V, f⟩ := V
   simp only at hrn q4
   have hiz : (i : Int) < W.length := by omega
   simp only [pkT, Pk.cs, List.map, trcT] at hrn
   simp -dsimp [hq, hiz, pks_get' hx, Pk.cs]
   try refine ⟨?_, ⟨by kernel_rfl⟩⟩
   refine ACall.of hrn [] 0 ?_
   by_cases hf : f = 0
   ·simp -dsimp [hf, wrap_i64 (n := (i : Int) + 1) (by omega) (by omega)]
    and_intros
    all_goals try first | omega | exact ⟨by kernel_rfl⟩
    exact ⟨⟨(i + 1, out ++ [V]), by dsimp only; omega, by simp; omega, by rw [q4, if_pos hf]⟩, GS.to (by simp [trC]), by simp; omega⟩
   ·simp -dsimp [hf]
    try refine ⟨?_, ⟨by kernel_rfl⟩⟩
    rw [if_neg hf] at q4
    refine Fin.view 10 ?_
    simp -dsimp
    refine Fin.of ?_
    simp [sendT, h0, q4]
  ·have hiz : ¬ (i : Int) < W.length := by omega
   have hX : sendL l r W [] = (out, 0) := by rw [q3, List.drop_eq_nil_of_le (by omega)]; rfl
   simp -dsimp [hq, hiz]
   try refine ⟨?_, ⟨by kernel_rfl⟩⟩
   refine Fin.view 10 ?_
   simp -dsimp
   refine Fin.of ?_
   simp [sendT, h0, hX]
 ·simp -dsimp [h0]
  refine Fin.view 10 ?_
  simp -dsimp
  refine Fin.of ?_
  simp [sendT, h0]
theorem send_c (l : List Tb) (hl : SmL l) (p : Pn) (hp : p.es.length ≤ 1000) (r : Int) (ids : List Int) (hi : ids.length ≤ 100000) (q : Pk) : Contract Tryz.prog 18 [.d (.sl (tbs l)), planT p, .d (.int .i64 r), .d (ints ids), pkT q] [] (sendT (sendR l p r ids q)) [] [] := by
 have hpk := packets_c p hp ids hi q
 have hln := packR_len p ids q
 simp only [pkT, Pk.cs, List.map, planT, packT] at hpk
 refine contract_of Tryz.func18 rfl (fun E0 => ?_)
 refine awp.sound (g := .mk) (ow := []) (kp := (fun k => k==0||k==1||k==2||k==3||k==4||k==6||k==9||k==10||k==11||k==12||k==13||k==14||k==16||k==17||k==18||k==27||k==29||k==30||k==31||k==32||k==43)) ?_
 rw [Tryz.ntmps18]
 simp -dsimp [planT, pkT, Pk.cs]
 try refine ⟨?_, ⟨by kernel_rfl⟩⟩
 refine ACall.of hpk [] 0 ?_
 unfold sendR
 generalize packR p ids q = W at hln
 obtain ⟨W, e⟩ := W
 simp only at hln ⊢
 by_cases h0 : e = 0
 ·simp -dsimp [h0]
  try refine ⟨?_, ⟨by kernel_rfl⟩⟩
  refine ALoop.of [] (fun k => k==0||k==1||k==2||k==3||k==4||k==6||k==9||k==10||k==11||k==12||k==13||k==14||k==16||k==17||k==18||k==27||k==29||k==30||k==31||k==32||k==43) (ι := { z : Nat × List Trc // z.1 ≤ W.length ∧ z.2.length ≤ z.1 ∧ sendL l r W [] = sendL l r (W.drop z.1) z.2 })
   (fun z => [(Pl.s 0, It.v (TV.d (D.sl (tbs l)))), (Pl.s 2, It.v (TV.d (D.int IntKind.i64 r))), (Pl.s 10, It.v (TV.c (Value.slice none 0 0))), (Pl.s 11, It.v (TV.d (D.int IntKind.i64 0))), (Pl.s 12, It.v (TV.d (D.sl (pks W)))), (Pl.s 29, It.v (TV.d (D.sl (pks W)))), (Pl.s 30, It.v (TV.d (D.int IntKind.i64 W.length))), (Pl.s 31, It.v (TV.d (D.int IntKind.i64 z.1.1))), (Pl.s 14, It.v (TV.oref 14 z.1.2.length)), (Pl.o 14, .row 65 3 (dd (z.1.2.map trC)) false)])
   (fun z => W.length - z.1.1) ⟨(0, []), by simp, by simp, rfl⟩ ?_ ?_
  ·exact GS.own' (k := 14) 65 3 (by simp) (by simp) (by simp [ints])
  rintro ⟨⟨i, out⟩, q1, q2, q3⟩
  simp only at q1 q2 q3
  by_cases hq : i < W.length
  ·obtain ⟨x, hx⟩ : ∃ x, W[i]? = some x := ⟨W[i], List.getElem?_eq_getElem hq⟩
   have hd : W.drop i = x :: W.drop (i + 1) := by rw [List.getElem?_eq_some_iff] at hx; obtain ⟨_, rfl⟩ := hx; exact List.drop_eq_getElem_cons _
   have hrn := run_c l hl x r
   have q4 : sendL l r W [] = if (runR l x r).2 = 0 then sendL l r (W.drop (i + 1)) (out ++ [(runR l x r).1]) else ([], (runR l x r).2) := by rw [q3, hd, sendL]
   generalize runR l x r = V at hrn q4
   obtain ⟨V, f⟩ := V
   simp only at hrn q4
   have hiz : (i : Int) < W.length := by omega
   simp only [pkT, Pk.cs, List.map, trcT] at hrn
   simp -dsimp [hq, hiz, pks_get' hx, Pk.cs]
   try refine ⟨?_, ⟨by kernel_rfl⟩⟩
   refine ACall.of hrn [] 0 ?_
   by_cases hf : f = 0
   ·simp -dsimp [hf, wrap_i64 (n := (i : Int) + 1) (by omega) (by omega)]
    and_intros
    all_goals try first | omega | exact ⟨by kernel_rfl⟩
    exact ⟨⟨(i + 1, out ++ [V]), by dsimp only; omega, by simp; omega, by rw [q4, if_pos hf]⟩, GS.to (by simp [trC]), by simp; omega⟩
   ·simp -dsimp [hf]
    try refine ⟨?_, ⟨by kernel_rfl⟩⟩
    rw [if_neg hf] at q4
    refine Fin.view 10 ?_
    simp -dsimp
    refine Fin.of ?_
    simp [sendT, h0, q4]
  ·have hiz : ¬ (i : Int) < W.length := by omega
   have hX : sendL l r W [] = (out, 0) := by rw [q3, List.drop_eq_nil_of_le (by omega)]; rfl
   simp -dsimp [hq, hiz]
   try refine ⟨?_, ⟨by kernel_rfl⟩⟩
   refine Fin.view 10 ?_
   simp -dsimp
   refine Fin.of ?_
   simp [sendT, h0, hX]
 ·simp -dsimp [h0]
  refine Fin.view 10 ?_
  simp -dsimp
  refine Fin.of ?_
  simp [sendT, h0]
end Go.Proofs

set_option linter.unusedSimpArgs false
set_option maxRecDepth 100000
set_option maxHeartbeats 4000000
namespace Go.Proofs
open Go Go.Tr
theorem indexP0_c (l : List Pk) (hl : l.length ≤ 1000000) (f : FuncId) (q : Pk → Bool) (hf : ∀ x, x ∈ l → Contract Tryz.prog f [pkT x] [] (.d (.bool (q x))) [] []) (hok : fnOK Tryz.prog f = true) :
  Contract Tryz.prog 151 [.d (.sl (pks l)), .clo f []] [] (.d (.int .i64 (idxR q l))) [] [] := by
 refine contract_of Tryz.func151 rfl (fun E0 => ?_)
 refine awp.sound (g := .mk) (ow := []) (kp := (fun k => k==0||k==1||k==4||k==5||k==7||k==8||k==9||k==16)) ?_
 rw [Tryz.ntmps151]
 simp -dsimp
 refine ALoop.of [] (fun k => k==0||k==1||k==4||k==5||k==7||k==8||k==9||k==16) (ι := { i : Nat // i ≤ l.length ∧ ∀ a, a < i → ∀ x, l[a]? = some x → q x = false })
  (fun z => [(Pl.s 0, It.v (TV.d (D.sl (pks l)))), (Pl.s 1, It.v (TV.clo f [])), (Pl.s 4, It.v (TV.d (D.int IntKind.i64 0))), (Pl.s 7, It.v (TV.d (D.int IntKind.i64 l.length))), (Pl.s 8, It.v (TV.d (D.int IntKind.i64 z.1)))]) (fun z => l.length - z.1) ⟨0, by omega, fun a h => by omega⟩ ?_ ?_
 ·exact GS.to (by simp)
 ·rintro ⟨i, i1, i2⟩
  by_cases hi : i < l.length
  ·have hiz : (i : Int) < l.length := by omega
   have hx : l[i]? = some l[i] := List.getElem?_eq_getElem hi
   have hm : l[i] ∈ l := List.getElem_mem hi
   generalize l[i] = x at hx hm
   have hfx := hf x hm
   simp only [pkT, Pk.cs, List.map] at hfx
   simp -dsimp [hi, hiz, pks_get' hx, Pk.cs, wrap_i64 (n := (i : Int) + 1) (by omega) (by omega)]
   and_intros
   all_goals try first | rfl | omega | exact ⟨by kernel_rfl⟩
   refine ACall.of hfx [] 0 ?_
   rcases (Bool.eq_false_or_eq_true (q x)).symm with h | h
   ·simp -dsimp [h, hok, wrap_i64 (n := (i : Int) + 1) (by omega) (by omega)]
    and_intros
    all_goals try first | rfl | omega | exact ⟨by kernel_rfl⟩
    exact ⟨⟨i + 1, by omega, fun a ha y hy => by
     by_cases e : a = i
     ·subst e; rw [hx] at hy; simp only [Option.some.injEq] at hy; subst hy; exact h
     ·exact i2 a (by omega) y hy⟩, GS.to (by simp), by simp; omega⟩
   ·simp -dsimp [h, hok]
    and_intros
    all_goals try first | rfl | omega | exact ⟨by kernel_rfl⟩
    refine Fin.of ?_
    simp [idx_at hx h i2]
  ·simp -dsimp [hi]
   refine Fin.of ?_
   simp
   exact (idx_no fun a ha => i2 a (by omega)).symm
theorem containsFP0_c (l : List Pk) (hl : l.length ≤ 1000000) (f : FuncId) (q : Pk → Bool) (hf : ∀ x, x ∈ l → Contract Tryz.prog f [pkT x] [] (.d (.bool (q x))) [] []) (hok : fnOK Tryz.prog f = true) :
  Contract Tryz.prog 102 [.d (.sl (pks l)), .clo f []] [] (.d (.bool (l.any q))) [] [] := by
 refine contract_of Tryz.func102 rfl (fun E0 => ?_)
 refine awp.sound (g := .mk) (ow := []) (kp := (fun k => k==0||k==1||k==4)) ?_
 rw [Tryz.ntmps102]
 simp -dsimp
 refine ACall.of (indexP0_c l hl f q hf hok) [] 0 ?_
 simp -dsimp
 refine Fin.of ?_
 simp [idx_any]
theorem reached1_c (q : Pk) : Contract Tryz.prog 103 [pkT q] [] (.d (.bool (!q.ok))) [] [] := by
 refine contract_of Tryz.func103 rfl (fun E0 => ?_)
 refine awp.sound (g := .mk) (ow := []) (kp := (fun k => k==0||k==1||k==2)) ?_
 rw [Tryz.ntmps103]
 have hv := valid_c2 q
 simp only [pkT, Pk.cs, List.map] at hv
 simp -dsimp [pkT, Pk.cs]
 refine ACall.of hv [] 0 ?_
 simp -dsimp
 try refine ⟨?_, ⟨by kernel_rfl⟩⟩
 refine Fin.of ?_
 simp
def edEq (v e : Ed) : Bool := decide (e.r = v.r ∧ e.id = v.id)
def crSum (l : List Trc) : Int := (l.map fun t => (t.cr.length : Int)).sum
theorem indexEd_c (l : List Ed) (hl : l.length ≤ 1000000) (v : Ed) : Contract Tryz.prog 152 [.d (.sl (eds l)), .agg (v.cs.map .d)] [] (.d (.int .i64 (idxR (edEq v) l))) [] [] := by
 refine contract_of Tryz.func152 rfl (fun E0 => ?_)
 refine awp.sound (g := .mk) (ow := []) (kp := (fun k => k==0||k==1||k==3||k==4||k==5||k==7||k==8||k==9||k==16)) ?_
 rw [Tryz.ntmps152]
 simp -dsimp [Ed.cs]
 refine ALoop.of [] (fun k => k==0||k==1||k==3||k==4||k==5||k==7||k==8||k==9||k==16) (ι := { i : Nat // i ≤ l.length ∧ ∀ a, a < i → ∀ x, l[a]? = some x → edEq v x = false })
  (fun z => [(Pl.s 0, It.v (TV.d (D.sl (eds l)))), (Pl.o 3, It.box [TV.d (D.int IntKind.i64 v.r), TV.d (D.int IntKind.i64 v.id)]), (Pl.s 3, It.v (TV.ptr (Pl.o 3) 0)), (Pl.s 4, It.v (TV.d (D.int IntKind.i64 0))), (Pl.s 7, It.v (TV.d (D.int IntKind.i64 l.length))), (Pl.s 8, It.v (TV.d (D.int IntKind.i64 z.1)))]) (fun z => l.length - z.1) ⟨0, by omega, fun a h => by omega⟩ ?_ ?_
 ·exact GS.to (by simp)
 rintro ⟨i, i1, i2⟩
 by_cases hi : i < l.length
 ·have hiz : (i : Int) < l.length := by omega
  have hx : l[i]? = some l[i] := List.getElem?_eq_getElem hi
  generalize l[i] = x at hx
  by_cases t1 : v.r = x.r
  ·by_cases t2 : v.id = x.id
   ·simp -dsimp [hi, hiz, eds_get' hx, Ed.cs, eq_true t1, eq_true t2, eq_true t1.symm, eq_true t2.symm, wrap_i64 (n := (i : Int) + 1) (by omega) (by omega)]
    and_intros
    all_goals try first | rfl | omega | exact ⟨by kernel_rfl⟩
    refine Fin.of ?_
    have := idx_at (q := edEq v) hx (by simp [edEq, t1, t2]) i2
    simp [this]
   ·have t2' : ¬ x.id = v.id := fun e => t2 e.symm
    simp -dsimp [hi, hiz, eds_get' hx, Ed.cs, eq_true t1, eq_false t2, eq_true t1.symm, eq_false t2', wrap_i64 (n := (i : Int) + 1) (by omega) (by omega)]
    and_intros
    all_goals try first | rfl | omega | exact ⟨by kernel_rfl⟩
    exact ⟨⟨i + 1, by omega, fun a ha y hy => by
     by_cases e : a = i
     ·subst e; rw [hx] at hy; simp only [Option.some.injEq] at hy; subst hy; simp [edEq, t2']
     ·exact i2 a (by omega) y hy⟩, GS.to (by simp), by simp; omega⟩
  ·have t1' : ¬ x.r = v.r := fun e => t1 e.symm
   simp -dsimp [hi, hiz, eds_get' hx, Ed.cs, eq_false t1, eq_false t1', wrap_i64 (n := (i : Int) + 1) (by omega) (by omega)]
   and_intros
   all_goals try first | rfl | omega | exact ⟨by kernel_rfl⟩
   exact ⟨⟨i + 1, by omega, fun a ha y hy => by
    by_cases e : a = i
    ·subst e; rw [hx] at hy; simp only [Option.some.injEq] at hy; subst hy; simp [edEq, t1']
    ·exact i2 a (by omega) y hy⟩, GS.to (by simp), by simp; omega⟩
 ·simp -dsimp [hi]
  refine Fin.of ?_
  have := idx_no (q := edEq v) (l := l) fun a ha => i2 a (by omega)
  simp [this]
theorem containsEd_c (l : List Ed) (hl : l.length ≤ 1000000) (v : Ed) : Contract Tryz.prog 106 [.d (.sl (eds l)), .agg (v.cs.map .d)] [] (.d (.bool (l.any (edEq v)))) [] [] := by
 have hx := indexEd_c l hl v
 simp only [Ed.cs, List.map] at hx
 refine contract_of Tryz.func106 rfl (fun E0 => ?_)
 refine awp.sound (g := .mk) (ow := []) (kp := (fun k => k==0||k==1||k==3||k==4)) ?_
 rw [Tryz.ntmps106]
 simp -dsimp [Ed.cs]
 try refine ⟨?_, ⟨by kernel_rfl⟩⟩
 refine ACall.of hx [] 0 ?_
 simp -dsimp
 try refine ⟨?_, ⟨by kernel_rfl⟩⟩
 refine Fin.of ?_
 have := idx_any (q := edEq v) l
 simp [this]
theorem sum_take {l : List Trc} {i : Nat} {x : Trc} (h : l[i]? = some x) : crSum (l.take (i + 1)) = crSum (l.take i) + x.cr.length := by
 unfold crSum; rw [List.take_add_one, h]; simp
theorem sum_bnd {l : List Trc} (h : ∀ t ∈ l, t.cr.length ≤ 1000000) : ∀ i, 0 ≤ crSum (l.take i) ∧ crSum (l.take i) ≤ 1000000 * i := by
 intro i
 induction i with
 | zero => simp [crSum]
 | succ i ih =>
   by_cases hi : i < l.length
   ·have hx := List.getElem?_eq_getElem hi
    have hb := h _ (List.getElem_mem hi)
    rw [sum_take hx]; omega
   ·rw [List.take_of_length_le (by omega)] at ih
    rw [List.take_of_length_le (by omega)]; omega
theorem crossings17_c (ts : List Trc) (hn : ts.length ≤ 100000) (h : ∀ t ∈ ts, t.cr.length ≤ 1000000) : Contract Tryz.prog 59 [.d (.sl (ts.map trC))] [] (.d (.int .i64 (crSum ts))) [] [] := by
 refine contract_of Tryz.func59 rfl (fun E0 => ?_)
 refine awp.sound (g := .mk) (ow := []) (kp := (fun k => k==0||k==2||k==3||k==4||k==8)) ?_
 rw [Tryz.ntmps59]
 simp -dsimp
 refine ALoop.of [] (fun k => k==0||k==2||k==3||k==4||k==8) (ι := { i : Nat // i ≤ ts.length })
  (fun z => [(Pl.s 0, It.v (TV.d (D.sl (ts.map trC)))), (Pl.s 2, It.v (TV.d (D.int IntKind.i64 0))), (Pl.s 3, It.v (TV.d (D.int IntKind.i64 (crSum (ts.take z.1))))), (Pl.s 4, It.v (TV.d (D.int IntKind.i64 z.1)))])
  (fun z => ts.length - z.1) ⟨0, by omega⟩ ?_ ?_
 ·exact GS.to (by simp [crSum])
 rintro ⟨i, i1⟩
 have hS := sum_bnd h i
 by_cases hi : i < ts.length
 ·have hiz : (i : Int) < ts.length := by omega
  have hx : ts[i]? = some ts[i] := List.getElem?_eq_getElem hi
  have hb := h _ (List.getElem_mem hi)
  generalize ts[i] = x at hx hb
  have hst := sum_take hx
  generalize crSum (ts.take i) = S at hS hst ⊢
  have hx' : (ts.map trC)[i]? = some (trC x) := by rw [List.getElem?_map, hx]; rfl
  simp -dsimp [hiz, hx', trC, wrap_i64 (n := S + x.cr.length) (by omega) (by omega), wrap_i64 (n := (i : Int) + 1) (by omega) (by omega)]
  and_intros
  all_goals try first | rfl | omega | exact ⟨by kernel_rfl⟩
  exact ⟨⟨i + 1, by omega⟩, GS.to (by simp [hst]), by simp; omega⟩
 ·have e0 : ts.take i = ts := List.take_of_length_le (by omega)
  rw [e0]
  simp -dsimp [hi]
  refine Fin.of ?_
  simp
theorem crossings_c (ts : List Trc) (hn : ts.length ≤ 100000) (h : ∀ t ∈ ts, t.cr.length ≤ 1000000) : Contract Tryz.prog 22 [.d (.sl (ts.map trC))] [] (.d (.int .i64 (crSum ts))) [] [] := by
 refine contract_of Tryz.func22 rfl (fun E0 => ?_)
 refine awp.sound (g := .mk) (ow := []) (kp := (fun k => k==0||k==2||k==3||k==5||k==6||k==7||k==8||k==9)) ?_
 rw [Tryz.ntmps22]
 simp -dsimp
 refine ALoop.of [] (fun k => k==0||k==2||k==3||k==5||k==6||k==7||k==8||k==9) (ι := { i : Nat // i ≤ ts.length })
  (fun z => [(Pl.s 0, It.v (TV.d (D.sl (ts.map trC)))), (Pl.s 2, It.v (TV.d (D.int IntKind.i64 0))), (Pl.s 3, It.v (TV.d (D.int IntKind.i64 (crSum (ts.take z.1))))), (Pl.s 6, It.v (TV.d (D.sl (ts.map trC)))), (Pl.s 7, It.v (TV.d (D.int IntKind.i64 ts.length))), (Pl.s 8, It.v (TV.d (D.int IntKind.i64 z.1)))])
  (fun z => ts.length - z.1) ⟨0, by omega⟩ ?_ ?_
 ·exact GS.to (by simp [crSum])
 rintro ⟨i, i1⟩
 have hS := sum_bnd h i
 by_cases hi : i < ts.length
 ·have hiz : (i : Int) < ts.length := by omega
  have hx : ts[i]? = some ts[i] := List.getElem?_eq_getElem hi
  have hb := h _ (List.getElem_mem hi)
  generalize ts[i] = x at hx hb
  have hst := sum_take hx
  generalize crSum (ts.take i) = S at hS hst ⊢
  have hx' : (ts.map trC)[i]? = some (trC x) := by rw [List.getElem?_map, hx]; rfl
  simp -dsimp [hiz, hx', trC, wrap_i64 (n := S + x.cr.length) (by omega) (by omega), wrap_i64 (n := (i : Int) + 1) (by omega) (by omega)]
  and_intros
  all_goals try first | rfl | omega | exact ⟨by kernel_rfl⟩
  exact ⟨⟨i + 1, by omega⟩, GS.to (by simp [hst]), by simp; omega⟩
 ·have e0 : ts.take i = ts := List.take_of_length_le (by omega)
  rw [e0]
  simp -dsimp [hi]
  refine Fin.of ?_
  simp
theorem sorted_c (l : List Int) (hl : l.length ≤ 1000000) (n : Int) : Contract Tryz.prog 109 [.d (ints l), .d (.int .i64 n)] [] (.d (ints (l.takeWhile (fun x => decide (x < n)) ++ n :: l.dropWhile (fun x => decide (x < n))))) [] [] := by
 refine contract_of Tryz.func109 rfl (fun E0 => ?_)
 refine awp.sound (g := .mk) (ow := []) (kp := (fun k => k==0||k==1||k==4||k==5||k==6||k==18)) ?_
 rw [Tryz.ntmps109]
 simp -dsimp [ints]
 generalize hA : l.takeWhile (fun x => decide (x < n)) = A
 generalize hB : l.dropWhile (fun x => decide (x < n)) = B
 refine ALoop.of [] (fun k => k==0||k==1||k==4||k==5||k==6||k==18) (ι := { p : Nat // p ≤ l.length ∧ A = l.take p ++ (l.drop p).takeWhile (fun x => decide (x < n)) ∧ B = (l.drop p).dropWhile (fun x => decide (x < n)) }) (fun z => [(Pl.s 0, It.v (.d (ints l))), (Pl.s 1, It.v (.d (.int .i64 n))), (Pl.s 4, It.v (TV.c (Value.slice none 0 0))), (Pl.s 5, It.v (TV.d (D.int IntKind.i64 z.1)))]) (fun z => l.length - z.1) ⟨0, by omega, by simp [hA], by simp [hB]⟩ ?_ ?_
 ·exact GS.to (by simp [ints])
 rintro ⟨p, p1, p2, p3⟩
 by_cases hp : p < l.length
 ·have hd : l.drop p = l[p] :: l.drop (p + 1) := List.drop_eq_getElem_cons _
  have hx : l[p]? = some l[p] := List.getElem?_eq_getElem hp
  have htk : l.take (p + 1) = l.take p ++ [l[p]] := by rw [List.take_add_one, hx]; rfl
  by_cases h : l[p] < n
  ·simp -dsimp [ints, hp, h, wrap_i64 (n := (p : Int) + 1) (by omega) (by omega)]
   try refine ⟨?_, ⟨by kernel_rfl⟩⟩
   exact ⟨⟨p + 1, by omega, by rw [p2, hd, List.takeWhile_cons_of_pos (by simpa using h), htk, List.append_assoc]; rfl, by rw [p3, hd, List.dropWhile_cons_of_pos (by simpa using h)]⟩, GS.to (by simp [ints]), by simp; omega⟩
  ·have e1 : A = l.take p := by rw [p2, hd, List.takeWhile_cons_of_neg (by simpa using h)]; simp
   have e2 : B = l.drop p := by rw [p3, hd, List.dropWhile_cons_of_neg (by simpa using h)]
   subst e1; subst e2
   simp -dsimp [ints, hp, h]
   have dl : dLen 1 (l.map fun x => [D.int .i64 x]) := dLen_map 1 _ _ fun _ => rfl
   and_intros
   all_goals try first | omega | exact ⟨by kernel_rfl⟩ | exact dLen_take dl | exact dLen_drop (dLen_take dl) | (simp; omega)
   refine Fin.view 4 ?_
   simp -dsimp
   and_intros
   all_goals try first | omega | exact ⟨by kernel_rfl⟩ | (simp; omega)
   refine Fin.of ?_
   simp [ints, List.take_of_length_le]
 ·have e1 : A = l.take p := by rw [p2, List.drop_eq_nil_of_le (by omega)]; simp
  have e2 : B = l.drop p := by rw [p3, List.drop_eq_nil_of_le (by omega)]; rfl
  subst e1; subst e2
  simp -dsimp [ints, hp]
  have dl : dLen 1 (l.map fun x => [D.int .i64 x]) := dLen_map 1 _ _ fun _ => rfl
  and_intros
  all_goals try first | omega | exact ⟨by kernel_rfl⟩ | exact dLen_take dl | exact dLen_drop (dLen_take dl) | (simp; omega)
  refine Fin.view 4 ?_
  simp -dsimp
  and_intros
  all_goals try first | omega | exact ⟨by kernel_rfl⟩ | (simp; omega)
  refine Fin.of ?_
  simp [ints, List.take_of_length_le]
end Go.Proofs

set_option linter.unusedSimpArgs false
set_option linter.unusedVariables false
set_option maxRecDepth 100000
namespace Go.Proofs
open Go Go.Tr
end Go.Proofs

set_option maxRecDepth 100000
set_option maxHeartbeats 4000000
namespace Go.Proofs
open Go Go.Tr
def rpS (p : Pn) (q : Pk) (r k : Int) : Option Int :=
 if atB q.set k q.len = true ∧ p.es.any (edEq ⟨r, q.set * q.len + k + 1⟩) = true then some (q.set * q.len + k + 1) else none
def rpD (p : Pn) (q : Pk) (d : Int × Pk) : List (Option Int) := (bitsI d.2.bits).map (rpS p q d.1)
def rpT (p : Pn) (q : Pk) (t : Trc) : List (Option Int) := t.dl.flatMap (rpD p q)
def rpL (p : Pn) (l : List Pk) (ts : List Trc) : List (Option Int) := (l.zip ts).flatMap fun x => rpT p x.1 x.2
def rpF (ins : List Int → Int → List Int) : List (Option Int) → List Int → List Int × Int
 | [], out => (out, 0)
 | some x :: l, out => rpF ins l (ins out x)
 | none :: _, _ => ([], 4)
def srt (l : List Int) (n : Int) : List Int := l.takeWhile (fun x => decide (x < n)) ++ n :: l.dropWhile (fun x => decide (x < n))
def app1 (l : List Int) (n : Int) : List Int := l ++ [n]
def msort (l : List Int) : List Int := l.mergeSort fun x y => decide (x ≤ y)
noncomputable def reachV (p : Pn) (l : List Pk) (ts : List Trc) : List Int × Int :=
 if planB p = false ∨ l.length ≠ ts.length ∨ l.any (fun q => !q.ok) = true then ([], 1) else rpF srt (rpL p l ts) []
theorem srt_perm (l : List Int) (n : Int) : (srt l n).Perm (n :: l) := by
 unfold srt
 refine (List.perm_middle).trans ?_
 rw [List.takeWhile_append_dropWhile]
theorem srt_asc {l : List Int} (h : l.Pairwise (· ≤ ·)) (n : Int) : (srt l n).Pairwise (· ≤ ·) := by
 unfold srt
 induction l with
 | nil => simp
 | cons x l ih =>
   rw [List.pairwise_cons] at h
   by_cases hx : x < n
   ·rw [List.takeWhile_cons_of_pos (by simpa using hx), List.dropWhile_cons_of_pos (by simpa using hx), List.cons_append, List.pairwise_cons]
    refine ⟨fun y hy => ?_, ih h.2⟩
    have := (srt_perm l n).mem_iff.1 hy
    rcases List.mem_cons.1 this with e | e
    ·omega
    ·exact h.1 y e
   ·rw [List.takeWhile_cons_of_neg (by simpa using hx), List.dropWhile_cons_of_neg (by simpa using hx), List.nil_append, List.pairwise_cons, List.pairwise_cons]
    refine ⟨fun y hy => ?_, h⟩
    rcases List.mem_cons.1 hy with e | e
    ·omega
    ·have := h.1 y e; omega
theorem asc_eq {a b : List Int} (ha : a.Pairwise (· ≤ ·)) (hb : b.Pairwise (· ≤ ·)) (h : a.Perm b) : a = b := by
 induction a generalizing b with
 | nil => exact (List.nil_perm.1 h).symm
 | cons x a ih =>
   cases b with
   | nil => exact absurd h (by intro h; have := h.length_eq; simp at this)
   | cons y b =>
     rw [List.pairwise_cons] at ha hb
     have h1 : x = y := by
      have m1 : x ∈ y :: b := h.mem_iff.1 (by simp)
      have m2 : y ∈ x :: a := h.mem_iff.2 (by simp)
      rcases List.mem_cons.1 m1 with e | e
      ·exact e
      ·rcases List.mem_cons.1 m2 with e2 | e2
       ·exact e2.symm
       ·have := hb.1 x e; have := ha.1 y e2; omega
     subst h1
     rw [ih ha.2 hb.2 (List.Perm.cons_inv h)]
theorem msort_asc (l : List Int) : (msort l).Pairwise (· ≤ ·) := by
 have h := List.pairwise_mergeSort (le := fun x y : Int => decide (x ≤ y)) (fun a b c h1 h2 => by simp at *; omega) (fun a b => by simp; omega) l
 simpa [msort] using h
theorem msort_perm (l : List Int) : (msort l).Perm l := List.mergeSort_perm l _
theorem srt_msort (l : List Int) (n : Int) : srt (msort l) n = msort (l ++ [n]) :=
 asc_eq (srt_asc (msort_asc l) n) (msort_asc _) ((srt_perm _ _).trans (((msort_perm l).cons n).trans ((List.perm_append_singleton n l).symm.trans (msort_perm _).symm)))
theorem rpF_srt : ∀ (L : List (Option Int)) (o : List Int), rpF srt L (msort o) = (msort (rpF app1 L o).1, (rpF app1 L o).2)
 | [], o => rfl
 | some x :: L, o => by
   show rpF srt L (srt (msort o) x) = _
   rw [srt_msort]; exact rpF_srt L (o ++ [x])
 | none :: L, o => by simp [rpF, msort]
theorem rpF_srt0 (L : List (Option Int)) : rpF srt L [] = (msort (rpF app1 L []).1, (rpF app1 L []).2) := by
 have := rpF_srt L []
 simpa [msort] using this
theorem srt_len (l : List Int) (n : Int) : (srt l n).length = l.length + 1 := by rw [(srt_perm l n).length_eq]; simp
theorem any_edge {p : Pn} (h : planB p = true) (r id : Int) : p.es.any (edEq ⟨r, id⟩) = match p.es.find? (fun e => decide (e.id = id)) with | some e => decide (e.r = r) | none => false := by
 cases hf : p.es.find? (fun e => decide (e.id = id)) with
 | none =>
   rw [List.find?_eq_none] at hf
   rw [List.any_eq_false]
   intro e he
   have := hf e he
   simp [edEq] at this ⊢
   exact fun _ => this
 | some e =>
   have hm := List.mem_of_find?_eq_some hf
   have hid := List.find?_some hf
   simp at hid
   simp only
   by_cases hr : e.r = r
   ·rw [decide_eq_true hr, List.any_eq_true]
    exact ⟨e, hm, by simp [edEq, hr, hid]⟩
   ·rw [decide_eq_false hr, List.any_eq_false]
    intro x hx hh
    simp [edEq] at hh
    have := plan_inj h hx hm (by rw [hh.2, hid])
    subst this
    exact hr hh.1
end Go.Proofs

set_option linter.unusedSimpArgs false
set_option maxRecDepth 100000
set_option maxHeartbeats 8000000
namespace Go.Proofs
open Go Go.Tr
theorem zip_drop {l : List Pk} {ts : List Trc} {i : Nat} {q : Pk} {t : Trc} (hq : l[i]? = some q) (ht : ts[i]? = some t) : (l.zip ts).drop i = (q, t) :: (l.zip ts).drop (i + 1) := by
 have h : (l.zip ts)[i]? = some (q, t) := by rw [List.getElem?_zip_eq_some]; exact ⟨hq, ht⟩
 obtain ⟨hi, e⟩ := List.getElem?_eq_some_iff.1 h
 rw [← e]; exact List.drop_eq_getElem_cons hi
theorem drop_cons {α : Type} {l : List α} {i : Nat} {x : α} (h : l[i]? = some x) : l.drop i = x :: l.drop (i + 1) := by
 obtain ⟨hi, e⟩ := List.getElem?_eq_some_iff.1 h
 rw [← e]; exact List.drop_eq_getElem_cons hi
theorem reached17_c (p : Pn) (hp : p.es.length ≤ 1000) (l : List Pk) (_hl : l.length ≤ 100000) (ts : List Trc) (ht : ts.length ≤ 100000) (hd : ∀ t ∈ ts, t.dl.length ≤ 1000000) (hn : (rpL p l ts).length ≤ 1000000) :
  Contract Tryz.prog 58 [planT p, .d (.sl (pks l)), .d (.sl (ts.map trC))] [] (.tup [.d (ints (reachV p l ts).1), .d (.int .i64 (reachV p l ts).2)]) [] [] := by
 have hv := validPlan10_c p hp
 simp only [planT] at hv
 refine contract_of Tryz.func58 rfl (fun E0 => ?_)
 refine awp.sound (g := .mk) (ow := []) (kp := (fun k => k==0||k==1||k==2||k==3||k==6||k==7||k==8||k==9||k==10||k==11||k==12||k==13||k==14||k==15||k==16||k==17||k==18||k==28||k==32||k==40||k==44||k==54||k==72||k==111)) ?_
 rw [Tryz.ntmps58]
 simp -dsimp [planT]
 try refine ⟨?_, ⟨by kernel_rfl⟩⟩
 refine ACall.of hv [] 0 ?_
 rcases (Bool.eq_false_or_eq_true (planB p)).symm with hP | hP
 ·have e : reachV p l ts = ([], 1) := by simp [reachV, hP]
  rw [e]
  simp -dsimp [hP]
  refine Fin.view 6 ?_
  simp -dsimp
  refine Fin.of ?_
  simp [ints]
 by_cases hL : l.length = ts.length
 ·have hLz : (l.length : Int) = ts.length := by omega
  simp -dsimp [hP, hLz]
  refine ALoop.of [] (fun k => k==0||k==1||k==2||k==3||k==6||k==7||k==8||k==9||k==10||k==11||k==12||k==13||k==14||k==15||k==16||k==17||k==18||k==28||k==32||k==40||k==44||k==54||k==72||k==111) (ι := { i : Nat // i ≤ l.length ∧ ∀ a, a < i → ∀ x, l[a]? = some x → x.ok = true })
   (fun z => [(Pl.o 3, It.box [TV.d (D.int IntKind.i64 p.subd), TV.d (D.int IntKind.i64 p.len), TV.d (D.sl (eds p.es))]), (Pl.s 3, It.v (TV.ptr (Pl.o 3) 0)), (Pl.s 1, It.v (TV.d (D.sl (pks l)))), (Pl.s 2, It.v (TV.d (D.sl (List.map trC ts)))), (Pl.s 6, It.v (TV.c (Value.slice none 0 0))), (Pl.s 7, It.v (TV.d (D.int IntKind.i64 0))), (Pl.s 8, It.v (TV.d (D.int IntKind.i64 z.1)))])
   (fun z => l.length - z.1) ⟨0, by omega, fun a h => by omega⟩ ?_ ?_
  ·exact GS.to (by simp)
  rintro ⟨i, i1, i2⟩
  by_cases hi : i < l.length
  ·have hiz : (i : Int) < l.length := by omega
   have hx : l[i]? = some l[i] := List.getElem?_eq_getElem hi
   generalize l[i] = x at hx
   have hvx := valid_c x
   simp only [pkT, Pk.cs, List.map] at hvx
   simp -dsimp [hi, hiz, pks_get' hx, Pk.cs]
   and_intros
   all_goals try first | rfl | omega | exact ⟨by kernel_rfl⟩
   refine ACall.of hvx [] 0 ?_
   rcases (Bool.eq_false_or_eq_true x.ok).symm with ho | ho
   ·have e : reachV p l ts = ([], 1) := by
     have : l.any (fun q => !q.ok) = true := List.any_eq_true.2 ⟨x, List.mem_of_getElem? hx, by simp [ho]⟩
     simp only [reachV, this, or_true, if_true]
    rw [e]
    simp -dsimp [ho]
    try refine ⟨?_, ⟨by kernel_rfl⟩⟩
    refine Fin.view 6 ?_
    simp -dsimp
    refine Fin.of ?_
    simp [ints]
   ·simp -dsimp [ho, wrap_i64 (n := (i : Int) + 1) (by omega) (by omega)]
    try refine ⟨?_, ⟨by kernel_rfl⟩⟩
    exact ⟨⟨i + 1, by omega, fun a ha y hy => by
     by_cases e : a = i
     ·subst e; rw [hx] at hy; simp only [Option.some.injEq] at hy; subst hy; exact ho
     ·exact i2 a (by omega) y hy⟩, GS.to (by simp), by simp; omega⟩
  ·have e : reachV p l ts = rpF srt (rpL p l ts) [] := by
    rw [reachV, if_neg]
    rintro (h | h | h)
    ·rw [hP] at h; cases h
    ·exact h hL
    ·obtain ⟨x, hx, ho⟩ := List.any_eq_true.1 h
     obtain ⟨a, ha⟩ := List.getElem?_of_mem hx
     have := i2 a (by have := (List.getElem?_eq_some_iff.1 ha).1; omega) x ha
     simp [this] at ho
   rw [e]
   have hn' : (rpL p l ts).length ≤ 1000000 := hn
   clear e
   generalize hY : rpF srt (rpL p l ts) [] = Y
   have hY' : Y = rpF srt (((l.zip ts).drop 0).flatMap fun x => rpT p x.1 x.2) [] := by rw [← hY]; rfl
   rw [show rpL p l ts = ((l.zip ts).drop 0).flatMap fun x => rpT p x.1 x.2 from rfl] at hn'
   clear hY
   simp -dsimp [hi]
   have hlz : ∀ i, i < ts.length → ∃ q, l[i]? = some q := fun i hi => ⟨l[i]'(by omega), List.getElem?_eq_getElem (by omega)⟩
   refine ALoop.of [] (fun k => k==0||k==1||k==2||k==3||k==6||k==7||k==8||k==9||k==10||k==11||k==12||k==13||k==14||k==15||k==16||k==17||k==18||k==28||k==32||k==40||k==44||k==54||k==72||k==111) (ι := { z : Nat × List Int // z.1 ≤ ts.length ∧ Y = rpF srt (((l.zip ts).drop z.1).flatMap fun x => rpT p x.1 x.2) z.2 ∧ z.2.length + (((l.zip ts).drop z.1).flatMap fun x => rpT p x.1 x.2).length ≤ 1000000 })
    (fun z => [(Pl.o 3, It.box [TV.d (D.int IntKind.i64 p.subd), TV.d (D.int IntKind.i64 p.len), TV.d (D.sl (eds p.es))]), (Pl.s 3, It.v (TV.ptr (Pl.o 3) 0)), (Pl.s 1, It.v (TV.d (D.sl (pks l)))), (Pl.s 2, It.v (TV.d (D.sl (List.map trC ts)))), (Pl.s 6, It.v (TV.c (Value.slice none 0 0))), (Pl.s 7, It.v (TV.d (D.int IntKind.i64 0))), (Pl.s 9, It.v (TV.d (ints z.1.2))), (Pl.s 10, It.v (TV.d (D.int IntKind.i64 z.1.1)))])
    (fun z => ts.length - z.1.1) ⟨(0, []), by dsimp only; omega, hY', by dsimp only; simpa using hn'⟩ ?_ ?_
   ·exact GS.viewS 9 (by simp [ints])
   rintro ⟨⟨i, out⟩, q1, q2, q3⟩
   simp only at q1 q2 q3
   by_cases hi : i < ts.length
   ·have hiz : (i : Int) < ts.length := by omega
    obtain ⟨q, hq⟩ := hlz i hi
    have hx : ts[i]? = some ts[i] := List.getElem?_eq_getElem hi
    have hdi := hd _ (List.getElem_mem hi)
    generalize ts[i] = t at hx hdi
    rw [zip_drop hq hx, List.flatMap_cons] at q2 q3
    generalize hR : ((l.zip ts).drop (i + 1)).flatMap (fun x => rpT p x.1 x.2) = R at q2 q3
    have hx' : (ts.map trC)[i]? = some (trC t) := by rw [List.getElem?_map, hx]; rfl
    simp -dsimp [hiz]
    refine ALoop.of [] (fun k => k==0||k==1||k==2||k==3||k==6||k==7||k==8||k==9||k==10||k==11||k==12||k==13||k==14||k==15||k==16||k==17||k==18||k==28||k==32||k==40||k==44||k==54||k==72||k==111) (ι := { z : Nat × List Int // z.1 ≤ t.dl.length ∧ Y = rpF srt ((t.dl.drop z.1).flatMap (rpD p q) ++ R) z.2 ∧ z.2.length + ((t.dl.drop z.1).flatMap (rpD p q) ++ R).length ≤ 1000000 })
     (fun z => [(Pl.o 3, It.box [TV.d (D.int IntKind.i64 p.subd), TV.d (D.int IntKind.i64 p.len), TV.d (D.sl (eds p.es))]), (Pl.s 3, It.v (TV.ptr (Pl.o 3) 0)), (Pl.s 1, It.v (TV.d (D.sl (pks l)))), (Pl.s 2, It.v (TV.d (D.sl (List.map trC ts)))), (Pl.s 6, It.v (TV.c (Value.slice none 0 0))), (Pl.s 7, It.v (TV.d (D.int IntKind.i64 0))), (Pl.s 9, It.v (TV.d (ints z.1.2))), (Pl.s 10, It.v (TV.d (D.int IntKind.i64 i))), (Pl.s 11, It.v (TV.d (D.int IntKind.i64 z.1.1)))])
     (fun z => t.dl.length - z.1.1) ⟨(0, out), by dsimp only; omega, q2, q3⟩ ?_ ?_
    ·exact GS.to (by simp)
    rintro ⟨⟨k, out⟩, m1, m2, m3⟩
    simp only at m1 m2 m3
    by_cases hk : k < t.dl.length
    ·have hkz : (k : Int) < t.dl.length := by omega
     have hy : t.dl[k]? = some t.dl[k] := List.getElem?_eq_getElem hk
     generalize t.dl[k] = d at hy
     rw [drop_cons hy, List.flatMap_cons, List.append_assoc] at m2 m3
     generalize hR2 : (t.dl.drop (k + 1)).flatMap (rpD p q) ++ R = R2 at m2 m3
     have hli := list01_c d.2.bits
     have hbl := bitsI_len d.2.bits
     simp only [bv] at hli
     simp -dsimp [hiz, hx', trC, hkz, hy, dlC, Pk.cs, bv]
     and_intros
     all_goals try first | rfl | omega | exact ⟨by kernel_rfl⟩
     refine ACall.of hli [] 0 ?_
     simp only [rpD] at m2 m3
     generalize bitsI d.2.bits = bs at m2 m3 hbl ⊢
     simp -dsimp
     try refine ⟨?_, ⟨by kernel_rfl⟩⟩
     refine ALoop.of [] (fun k => k==0||k==1||k==2||k==3||k==6||k==7||k==8||k==9||k==10||k==11||k==12||k==13||k==14||k==15||k==16||k==17||k==18||k==28||k==32||k==40||k==44||k==54||k==72||k==111) (ι := { z : Nat × List Int // z.1 ≤ bs.length ∧ Y = rpF srt ((bs.drop z.1).map (rpS p q d.1) ++ R2) z.2 ∧ z.2.length + ((bs.drop z.1).map (rpS p q d.1) ++ R2).length ≤ 1000000 })
      (fun z => [(Pl.o 3, It.box [TV.d (D.int IntKind.i64 p.subd), TV.d (D.int IntKind.i64 p.len), TV.d (D.sl (eds p.es))]), (Pl.s 3, It.v (TV.ptr (Pl.o 3) 0)), (Pl.s 1, It.v (TV.d (D.sl (pks l)))), (Pl.s 2, It.v (TV.d (D.sl (List.map trC ts)))), (Pl.s 6, It.v (TV.c (Value.slice none 0 0))), (Pl.s 7, It.v (TV.d (D.int IntKind.i64 0))), (Pl.s 9, It.v (TV.d (ints z.1.2))), (Pl.s 10, It.v (TV.d (D.int IntKind.i64 i))), (Pl.s 11, It.v (TV.d (D.int IntKind.i64 k))), (Pl.o 12, It.box ((dlC d).map .d)), (Pl.s 12, It.v (TV.ptr (Pl.o 12) 0)), (Pl.s 13, It.v (TV.d (ints bs))), (Pl.s 14, It.v (TV.d (D.int IntKind.i64 z.1.1)))])
      (fun z => bs.length - z.1.1) ⟨(0, out), by dsimp only; omega, m2, m3⟩ ?_ ?_
     ·exact GS.to (by simp [dlC, Pk.cs, bv])
     rintro ⟨⟨j, out⟩, n1, n2, n3⟩
     simp only at n1 n2 n3
     by_cases hj : j < bs.length
     ·have hjz : (j : Int) < bs.length := by omega
      have hb : bs[j]? = some bs[j] := List.getElem?_eq_getElem hj
      generalize bs[j] = b at hb
      rw [drop_cons hb, List.map_cons, List.cons_append] at n2 n3
      have hat := at10_c q.set b q.len
      have hpq := pks_get' hq
      have hil : i < l.length := by omega
      have hilz : (i : Int) < l.length := by omega
      simp only [atT] at hat
      simp -dsimp [ints, dlC, hiz, hx', trC, hjz, hb, hil, hilz, hpq, Pk.cs, bv]
      and_intros
      all_goals try first | rfl | omega | exact ⟨by kernel_rfl⟩
      refine ACall.of hat [] 0 ?_
      have hed := fun id => edge10_c p hp id
      simp only [planT, edgeT] at hed
      rcases (Bool.eq_false_or_eq_true (atB q.set b q.len)).symm with ha | ha
      ·have hs : rpS p q d.1 b = none := by simp [rpS, ha]
       rw [hs] at n2
       simp only [rpF] at n2
       simp -dsimp [ints, dlC, ha]
       try refine ⟨?_, ⟨by kernel_rfl⟩⟩
       refine ACall.of (hed 0) [] 0 ?_
       cases hf : p.es.find? (fun e => decide (e.id = 0)) with
       | none =>
         simp -dsimp [ints, dlC, Pk.cs, bv]
         try refine ⟨?_, ⟨by kernel_rfl⟩⟩
         refine Fin.view 6 ?_
         simp -dsimp
         refine Fin.of ?_
         simp [n2, ints]
       | some e =>
         simp -dsimp [ints, dlC, Pk.cs, bv, Ed.cs]
         try refine ⟨?_, ⟨by kernel_rfl⟩⟩
         refine Fin.view 6 ?_
         simp -dsimp
         refine Fin.of ?_
         simp [n2, ints]
      ·simp -dsimp [ints, dlC, ha]
       try refine ⟨?_, ⟨by kernel_rfl⟩⟩
       refine ACall.of (hed (q.set * q.len + b + 1)) [] 0 ?_
       have he := any_edge hP d.1 (q.set * q.len + b + 1)
       cases hf : p.es.find? (fun e => decide (e.id = q.set * q.len + b + 1)) with
       | none =>
         rw [hf] at he
         simp only at he
         have hs : rpS p q d.1 b = none := by simp [rpS, he]
         rw [hs] at n2
         simp only [rpF] at n2
         simp -dsimp [ints, dlC, Pk.cs, bv]
         try refine ⟨?_, ⟨by kernel_rfl⟩⟩
         refine Fin.view 6 ?_
         simp -dsimp
         refine Fin.of ?_
         simp [n2, ints]
       | some e =>
         rw [hf] at he
         simp only at he
         by_cases hr : e.r = d.1
         ·have hs : rpS p q d.1 b = some (q.set * q.len + b + 1) := by simp [rpS, he, hr, ha]
          rw [hs] at n2
          simp only [rpF] at n2
          have hso := sorted_c out (by rw [List.length_cons] at n3; omega) (q.set * q.len + b + 1)
          have hsl := srt_len out (q.set * q.len + b + 1)
          have hse : out.takeWhile (fun x => decide (x < q.set * q.len + b + 1)) ++ (q.set * q.len + b + 1) :: out.dropWhile (fun x => decide (x < q.set * q.len + b + 1)) = srt out (q.set * q.len + b + 1) := rfl
          rw [hse] at hso
          simp only [ints] at hso
          simp -dsimp [ints, dlC, Pk.cs, bv, Ed.cs, hr]
          try refine ⟨?_, ⟨by kernel_rfl⟩⟩
          refine ACall.of hso [] 0 ?_
          generalize srt out (q.set * q.len + b + 1) = out2 at n2 hsl ⊢
          simp -dsimp [ints, dlC, Pk.cs, bv, wrap_i64 (n := (j : Int) + 1) (by omega) (by omega)]
          try refine ⟨?_, ⟨by kernel_rfl⟩⟩
          exact ⟨⟨(j + 1, out2), by dsimp only; omega, n2, by dsimp only; rw [List.length_cons] at n3; omega⟩, GS.to (by simp [ints, dlC, Pk.cs, bv]), by simp; omega⟩
         ·have hs : rpS p q d.1 b = none := by simp [rpS, he, hr]
          rw [hs] at n2
          simp only [rpF] at n2
          simp -dsimp [ints, dlC, Pk.cs, bv, Ed.cs, hr]
          try refine ⟨?_, ⟨by kernel_rfl⟩⟩
          refine Fin.view 6 ?_
          simp -dsimp
          refine Fin.of ?_
          simp [n2, ints]
     ·have e0 : bs.drop j = [] := List.drop_eq_nil_of_le (by omega)
      have hjz : ¬ (j : Int) < bs.length := by omega
      rw [e0, List.map_nil, List.nil_append, ← hR2] at n2 n3
      simp -dsimp [ints, dlC, Pk.cs, hjz, wrap_i64 (n := (k : Int) + 1) (by omega) (by omega)]
      try refine ⟨?_, ⟨by kernel_rfl⟩⟩
      exact ⟨⟨(k + 1, out), by dsimp only; omega, n2, n3⟩, GS.to (by simp [ints]), by simp; omega⟩
    ·have e0 : t.dl.drop k = [] := List.drop_eq_nil_of_le (by omega)
     have hkz : ¬ (k : Int) < t.dl.length := by omega
     rw [e0, List.flatMap_nil, List.nil_append, ← hR] at m2 m3
     simp -dsimp [hiz, hx', trC, hkz, wrap_i64 (n := (i : Int) + 1) (by omega) (by omega)]
     try refine ⟨?_, ⟨by kernel_rfl⟩⟩
     exact ⟨⟨(i + 1, out), by dsimp only; omega, m2, m3⟩, GS.to (by simp), by simp; omega⟩
   ·have hiz : ¬ (i : Int) < ts.length := by omega
    have e0 : (l.zip ts).drop i = [] := List.drop_eq_nil_of_le (by simp; omega)
    rw [e0, List.flatMap_nil, rpF] at q2
    simp -dsimp [hiz]
    try refine ⟨?_, ⟨by kernel_rfl⟩⟩
    refine Fin.of ?_
    simp [q2]
 ·have hLz : ¬ (l.length : Int) = ts.length := by omega
  have e : reachV p l ts = ([], 1) := by simp [reachV, hL]
  rw [e]
  simp -dsimp [hP, hLz]
  refine Fin.view 6 ?_
  simp -dsimp
  refine Fin.of ?_
  simp [ints]
end Go.Proofs
