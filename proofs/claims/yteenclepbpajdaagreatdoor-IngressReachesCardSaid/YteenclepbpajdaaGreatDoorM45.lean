/-
  What functions of the program compute, stated as contracts over plain data; the conditions of each stand in its own statement.
-/
import Derived.Test.YteenclepbpajdaaGreatDoorM32
import Derived.Test.YteenclepbpajdaaGreatDoorM18
import Derived.Test.YteenclepbpajdaaGreatDoorP16
import Derived.Test.YteenclepbpajdaaGreatDoorM27
import Derived.Test.YteenclepbpajdaaGreatDoorM30
set_option linter.unusedSimpArgs false
set_option maxRecDepth 100000
set_option maxHeartbeats 8000000
namespace Go.Proofs
open Go Go.Tr
def trC (t : Trc) : List D := [.sl (t.dl.map dlC), .sl (t.cr.map crC), .sl (t.ls.map lsC)]
def sendL (l : List Tb) (r : Int) : List Pk → List Trc → List Trc × Int
 | [], out => (out, 0)
 | p :: ps, out => if (runR l p r).2 = 0 then sendL l r ps (out ++ [(runR l p r).1]) else ([], (runR l p r).2)
noncomputable def sendR (l : List Tb) (p : Pn) (r : Int) (ids : List Int) (q : Pk) : List Trc × Int :=
 if (packR p ids q).2 = 0 then sendL l r (packR p ids q).1 [] else ([], (packR p ids q).2)
def sendT (x : List Trc × Int) : TV := .tup [.d (.sl (x.1.map trC)), .d (.int .i64 x.2)]
theorem pkAll_len (q : Pk) (p : Pn) : ∀ (l : List Sb) (out : List Pk), (pkAll q p l out).1.length ≤ l.length + out.length
 | [], out => by simp [pkAll]
 | s :: l, out => by
   have h := pkAll_len q p l (out ++ [q.with p s])
   rw [List.length_append, List.length_cons, List.length_nil] at h
   by_cases ho : (q.with p s).ok = true
   ·rw [pkAll, if_pos ho, List.length_cons]; omega
   ·rw [pkAll, if_neg ho]; simp
theorem packR_len (p : Pn) (ids : List Int) (q : Pk) : (packR p ids q).1.length ≤ ids.length := by
 have h1 := setsR_len p ids
 unfold packR
 split
 ·have h2 := pkAll_len q p (setsR p ids).1 []
  simp at h2; omega
 ·simp
theorem send17_c (l : List Tb) (hl : SmL l) (p : Pn) (hp : p.es.length ≤ 1000) (r : Int) (ids : List Int) (hi : ids.length ≤ 100000) (q : Pk) : Contract Tryz.prog 57 [.d (.sl (tbs l)), planT p, .d (.int .i64 r), .d (ints ids), pkT q] [] (sendT (sendR l p r ids q)) [] [] := by
 have hpk := packets17_c p hp ids hi q
 have hln := packR_len p ids q
 simp only [pkT, Pk.cs, List.map, planT, packT] at hpk
 refine contract_of Tryz.func57 rfl (fun E0 => ?_)
 refine awp.sound (g := .mk) (ow := []) (kp := (fun k => k==0||k==1||k==2||k==3||k==4||k==6||k==9||k==10||k==11||k==12||k==13||k==14||k==15||k==16||k==17||k==26||k==31||k==45)) ?_
 rw [Tryz.ntmps57]
 simp -dsimp [planT, pkT, Pk.cs]
 try refine ⟨?_, ⟨by kernel_rfl⟩⟩
 refine ACall.of hpk [] 0 ?_
 unfold sendR
 generalize packR p ids q = W at hln
 obtain ⟨W, e⟩ := W
 simp only at hln ⊢
 by_cases h0 : e = 0
 ·simp -dsimp [h0]
  try refine ⟨?_, ⟨by kernel_rfl⟩⟩
  refine ALoop.of [] (fun k => k==0||k==1||k==2||k==3||k==4||k==6||k==9||k==10||k==11||k==12||k==13||k==14||k==15||k==16||k==17||k==26||k==31||k==45) (ι := { z : Nat × List Trc // z.1 ≤ W.length ∧ z.2.length ≤ z.1 ∧ sendL l r W [] = sendL l r (W.drop z.1) z.2 })
   (fun z => [(Pl.s 0, It.v (TV.d (D.sl (tbs l)))), (Pl.s 2, It.v (TV.d (D.int IntKind.i64 r))), (Pl.s 10, It.v (TV.c (Value.slice none 0 0))), (Pl.s 11, It.v (TV.d (D.int IntKind.i64 0))), (Pl.s 12, It.v (TV.d (D.sl (pks W)))), (Pl.s 15, It.v (TV.d (D.int IntKind.i64 z.1.1))), (Pl.s 14, It.v (TV.oref 14 z.1.2.length)), (Pl.o 14, .row 65 3 (dd (z.1.2.map trC)) false)])
   (fun z => W.length - z.1.1) ⟨(0, []), by simp, by simp, rfl⟩ ?_ ?_
  ·exact GS.own' (k := 14) 65 3 (by simp) (by simp) (by simp [ints])
  rintro ⟨⟨i, out⟩, q1, q2, q3⟩
  simp only at q1 q2 q3
  by_cases hq : i < W.length
  ·obtain ⟨x, hx⟩ : ∃ x, W[i]? = some x := ⟨W[i], List.getElem?_eq_getElem hq⟩
   have hd : W.drop i = x :: W.drop (i + 1) := by rw [List.getElem?_eq_some_iff] at hx; obtain ⟨_, rfl⟩ := hx; exact List.drop_eq_getElem_cons _
   have hrn := run14_c l hl x r
   have q4 : sendL l r W [] = if (runR l x r).2 = 0 then sendL l r (W.drop (i + 1)) (out ++ [(runR l x r).1]) else ([], (runR l x r).2) := by rw [q3, hd, sendL]
   generalize runR l x r = V at hrn q4
   obtain ⟨V, f⟩ := V
   simp only at hrn q4
   have hiz : (i : Int) < W.length := by omega
   simp only [pkT, Pk.cs, List.map, trcT] at hrn
   simp -dsimp [hq, hiz, pks_get' hx, Pk.cs]
   try refine ⟨?_, ⟨by kernel_rfl⟩⟩
   refine ACall.of hrn [] 0 ?_
   by_cases hf : f = 0
   ·simp -dsimp [hf, wrap_i64 (n := (i : Int) + 1) (by omega) (by omega)]
    and_intros
    all_goals try first | omega | exact ⟨by kernel_rfl⟩
    exact ⟨⟨(i + 1, out ++ [V]), by dsimp only; omega, by simp; omega, by rw [q4, if_pos hf]⟩, GS.to (by simp [trC]), by simp; omega⟩
   ·simp -dsimp [hf]
    try refine ⟨?_, ⟨by kernel_rfl⟩⟩
    rw [if_neg hf] at q4
    refine Fin.view 10 ?_
    simp -dsimp
    refine Fin.of ?_
    simp [sendT, h0, q4]
  ·have hiz : ¬ (i : Int) < W.length := by omega
   have hX : sendL l r W [] = (out, 0) := by rw [q3, List.drop_eq_nil_of_le (by omega)]; rfl
   simp -dsimp [hq, hiz]
   try refine ⟨?_, ⟨by kernel_rfl⟩⟩
   refine Fin.view 10 ?_
   simp -dsimp
   refine Fin.of ?_
   simp [sendT, h0, hX]
 ·simp -dsimp [h0]
  refine Fin.view 10 ?_
  simp -dsimp
  refine Fin.of ?_
  simp [sendT, h0]
theorem send_c (l : List Tb) (hl : SmL l) (p : Pn) (hp : p.es.length ≤ 1000) (r : Int) (ids : List Int) (hi : ids.length ≤ 100000) (q : Pk) : Contract Tryz.prog 18 [.d (.sl (tbs l)), planT p, .d (.int .i64 r), .d (ints ids), pkT q] [] (sendT (sendR l p r ids q)) [] [] := by
 have hpk := packets_c p hp ids hi q
 have hln := packR_len p ids q
 simp only [pkT, Pk.cs, List.map, planT, packT] at hpk
 refine contract_of Tryz.func18 rfl (fun E0 => ?_)
 refine awp.sound (g := .mk) (ow := []) (kp := (fun k => k==0||k==1||k==2||k==3||k==4||k==6||k==9||k==10||k==11||k==12||k==13||k==14||k==16||k==17||k==18||k==27||k==29||k==30||k==31||k==32||k==43)) ?_
 rw [Tryz.ntmps18]
 simp -dsimp [planT, pkT, Pk.cs]
 try refine ⟨?_, ⟨by kernel_rfl⟩⟩
 refine ACall.of hpk [] 0 ?_
 unfold sendR
 generalize packR p ids q = W at hln
 obtain ⟨W, e⟩ := W
 simp only at hln ⊢
 by_cases h0 : e = 0
 ·simp -dsimp [h0]
  try refine ⟨?_, ⟨by kernel_rfl⟩⟩
  refine ALoop.of [] (fun k => k==0||k==1||k==2||k==3||k==4||k==6||k==9||k==10||k==11||k==12||k==13||k==14||k==16||k==17||k==18||k==27||k==29||k==30||k==31||k==32||k==43) (ι := { z : Nat × List Trc // z.1 ≤ W.length ∧ z.2.length ≤ z.1 ∧ sendL l r W [] = sendL l r (W.drop z.1) z.2 })
   (fun z => [(Pl.s 0, It.v (TV.d (D.sl (tbs l)))), (Pl.s 2, It.v (TV.d (D.int IntKind.i64 r))), (Pl.s 10, It.v (TV.c (Value.slice none 0 0))), (Pl.s 11, It.v (TV.d (D.int IntKind.i64 0))), (Pl.s 12, It.v (TV.d (D.sl (pks W)))), (Pl.s 29, It.v (TV.d (D.sl (pks W)))), (Pl.s 30, It.v (TV.d (D.int IntKind.i64 W.length))), (Pl.s 31, It.v (TV.d (D.int IntKind.i64 z.1.1))), (Pl.s 14, It.v (TV.oref 14 z.1.2.length)), (Pl.o 14, .row 65 3 (dd (z.1.2.map trC)) false)])
   (fun z => W.length - z.1.1) ⟨(0, []), by simp, by simp, rfl⟩ ?_ ?_
  ·exact GS.own' (k := 14) 65 3 (by simp) (by simp) (by simp [ints])
  rintro ⟨⟨i, out⟩, q1, q2, q3⟩
  simp only at q1 q2 q3
  by_cases hq : i < W.length
  ·obtain ⟨x, hx⟩ : ∃ x, W[i]? = some x := ⟨W[i], List.getElem?_eq_getElem hq⟩
   have hd : W.drop i = x :: W.drop (i + 1) := by rw [List.getElem?_eq_some_iff] at hx; obtain ⟨_, rfl⟩ := hx; exact List.drop_eq_getElem_cons _
   have hrn := run_c l hl x r
   have q4 : sendL l r W [] = if (runR l x r).2 = 0 then sendL l r (W.drop (i + 1)) (out ++ [(runR l x r).1]) else ([], (runR l x r).2) := by rw [q3, hd, sendL]
   generalize runR l x r = V at hrn q4
   obtain ⟨V, f⟩ := V
   simp only at hrn q4
   have hiz : (i : Int) < W.length := by omega
   simp only [pkT, Pk.cs, List.map, trcT] at hrn
   simp -dsimp [hq, hiz, pks_get' hx, Pk.cs]
   try refine ⟨?_, ⟨by kernel_rfl⟩⟩
   refine ACall.of hrn [] 0 ?_
   by_cases hf : f = 0
   ·simp -dsimp [hf, wrap_i64 (n := (i : Int) + 1) (by omega) (by omega)]
    and_intros
    all_goals try first | omega | exact ⟨by kernel_rfl⟩
    exact ⟨⟨(i + 1, out ++ [V]), by dsimp only; omega, by simp; omega, by rw [q4, if_pos hf]⟩, GS.to (by simp [trC]), by simp; omega⟩
   ·simp -dsimp [hf]
    try refine ⟨?_, ⟨by kernel_rfl⟩⟩
    rw [if_neg hf] at q4
    refine Fin.view 10 ?_
    simp -dsimp
    refine Fin.of ?_
    simp [sendT, h0, q4]
  ·have hiz : ¬ (i : Int) < W.length := by omega
   have hX : sendL l r W [] = (out, 0) := by rw [q3, List.drop_eq_nil_of_le (by omega)]; rfl
   simp -dsimp [hq, hiz]
   try refine ⟨?_, ⟨by kernel_rfl⟩⟩
   refine Fin.view 10 ?_
   simp -dsimp
   refine Fin.of ?_
   simp [sendT, h0, hX]
 ·simp -dsimp [h0]
  refine Fin.view 10 ?_
  simp -dsimp
  refine Fin.of ?_
  simp [sendT, h0]
end Go.Proofs

set_option linter.unusedSimpArgs false
set_option maxRecDepth 100000
set_option maxHeartbeats 4000000
namespace Go.Proofs
open Go Go.Tr
theorem indexP0_c (l : List Pk) (hl : l.length ≤ 1000000) (f : FuncId) (q : Pk → Bool) (hf : ∀ x, x ∈ l → Contract Tryz.prog f [pkT x] [] (.d (.bool (q x))) [] []) (hok : fnOK Tryz.prog f = true) :
  Contract Tryz.prog 151 [.d (.sl (pks l)), .clo f []] [] (.d (.int .i64 (idxR q l))) [] [] := by
 refine contract_of Tryz.func151 rfl (fun E0 => ?_)
 refine awp.sound (g := .mk) (ow := []) (kp := (fun k => k==0||k==1||k==4||k==5||k==7||k==8||k==9||k==16)) ?_
 rw [Tryz.ntmps151]
 simp -dsimp
 refine ALoop.of [] (fun k => k==0||k==1||k==4||k==5||k==7||k==8||k==9||k==16) (ι := { i : Nat // i ≤ l.length ∧ ∀ a, a < i → ∀ x, l[a]? = some x → q x = false })
  (fun z => [(Pl.s 0, It.v (TV.d (D.sl (pks l)))), (Pl.s 1, It.v (TV.clo f [])), (Pl.s 4, It.v (TV.d (D.int IntKind.i64 0))), (Pl.s 7, It.v (TV.d (D.int IntKind.i64 l.length))), (Pl.s 8, It.v (TV.d (D.int IntKind.i64 z.1)))]) (fun z => l.length - z.1) ⟨0, by omega, fun a h => by omega⟩ ?_ ?_
 ·exact GS.to (by simp)
 ·rintro ⟨i, i1, i2⟩
  by_cases hi : i < l.length
  ·have hiz : (i : Int) < l.length := by omega
   have hx : l[i]? = some l[i] := List.getElem?_eq_getElem hi
   have hm : l[i] ∈ l := List.getElem_mem hi
   generalize l[i] = x at hx hm
   have hfx := hf x hm
   simp only [pkT, Pk.cs, List.map] at hfx
   simp -dsimp [hi, hiz, pks_get' hx, Pk.cs, wrap_i64 (n := (i : Int) + 1) (by omega) (by omega)]
   and_intros
   all_goals try first | rfl | omega | exact ⟨by kernel_rfl⟩
   refine ACall.of hfx [] 0 ?_
   rcases (Bool.eq_false_or_eq_true (q x)).symm with h | h
   ·simp -dsimp [h, hok, wrap_i64 (n := (i : Int) + 1) (by omega) (by omega)]
    and_intros
    all_goals try first | rfl | omega | exact ⟨by kernel_rfl⟩
    exact ⟨⟨i + 1, by omega, fun a ha y hy => by
     by_cases e : a = i
     ·subst e; rw [hx] at hy; simp only [Option.some.injEq] at hy; subst hy; exact h
     ·exact i2 a (by omega) y hy⟩, GS.to (by simp), by simp; omega⟩
   ·simp -dsimp [h, hok]
    and_intros
    all_goals try first | rfl | omega | exact ⟨by kernel_rfl⟩
    refine Fin.of ?_
    simp [idx_at hx h i2]
  ·simp -dsimp [hi]
   refine Fin.of ?_
   simp
   exact (idx_no fun a ha => i2 a (by omega)).symm
theorem containsFP0_c (l : List Pk) (hl : l.length ≤ 1000000) (f : FuncId) (q : Pk → Bool) (hf : ∀ x, x ∈ l → Contract Tryz.prog f [pkT x] [] (.d (.bool (q x))) [] []) (hok : fnOK Tryz.prog f = true) :
  Contract Tryz.prog 102 [.d (.sl (pks l)), .clo f []] [] (.d (.bool (l.any q))) [] [] := by
 refine contract_of Tryz.func102 rfl (fun E0 => ?_)
 refine awp.sound (g := .mk) (ow := []) (kp := (fun k => k==0||k==1||k==4)) ?_
 rw [Tryz.ntmps102]
 simp -dsimp
 refine ACall.of (indexP0_c l hl f q hf hok) [] 0 ?_
 simp -dsimp
 refine Fin.of ?_
 simp [idx_any]
theorem reached1_c (q : Pk) : Contract Tryz.prog 103 [pkT q] [] (.d (.bool (!q.ok))) [] [] := by
 refine contract_of Tryz.func103 rfl (fun E0 => ?_)
 refine awp.sound (g := .mk) (ow := []) (kp := (fun k => k==0||k==1||k==2)) ?_
 rw [Tryz.ntmps103]
 have hv := valid_c2 q
 simp only [pkT, Pk.cs, List.map] at hv
 simp -dsimp [pkT, Pk.cs]
 refine ACall.of hv [] 0 ?_
 simp -dsimp
 try refine ⟨?_, ⟨by kernel_rfl⟩⟩
 refine Fin.of ?_
 simp
def edEq (v e : Ed) : Bool := decide (e.r = v.r ∧ e.id = v.id)
def crSum (l : List Trc) : Int := (l.map fun t => (t.cr.length : Int)).sum
theorem indexEd_c (l : List Ed) (hl : l.length ≤ 1000000) (v : Ed) : Contract Tryz.prog 152 [.d (.sl (eds l)), .agg (v.cs.map .d)] [] (.d (.int .i64 (idxR (edEq v) l))) [] [] := by
 refine contract_of Tryz.func152 rfl (fun E0 => ?_)
 refine awp.sound (g := .mk) (ow := []) (kp := (fun k => k==0||k==1||k==3||k==4||k==5||k==7||k==8||k==9||k==16)) ?_
 rw [Tryz.ntmps152]
 simp -dsimp [Ed.cs]
 refine ALoop.of [] (fun k => k==0||k==1||k==3||k==4||k==5||k==7||k==8||k==9||k==16) (ι := { i : Nat // i ≤ l.length ∧ ∀ a, a < i → ∀ x, l[a]? = some x → edEq v x = false })
  (fun z => [(Pl.s 0, It.v (TV.d (D.sl (eds l)))), (Pl.o 3, It.box [TV.d (D.int IntKind.i64 v.r), TV.d (D.int IntKind.i64 v.id)]), (Pl.s 3, It.v (TV.ptr (Pl.o 3) 0)), (Pl.s 4, It.v (TV.d (D.int IntKind.i64 0))), (Pl.s 7, It.v (TV.d (D.int IntKind.i64 l.length))), (Pl.s 8, It.v (TV.d (D.int IntKind.i64 z.1)))]) (fun z => l.length - z.1) ⟨0, by omega, fun a h => by omega⟩ ?_ ?_
 ·exact GS.to (by simp)
 rintro ⟨i, i1, i2⟩
 by_cases hi : i < l.length
 ·have hiz : (i : Int) < l.length := by omega
  have hx : l[i]? = some l[i] := List.getElem?_eq_getElem hi
  generalize l[i] = x at hx
  by_cases t1 : v.r = x.r
  ·by_cases t2 : v.id = x.id
   ·simp -dsimp [hi, hiz, eds_get' hx, Ed.cs, eq_true t1, eq_true t2, eq_true t1.symm, eq_true t2.symm, wrap_i64 (n := (i : Int) + 1) (by omega) (by omega)]
    and_intros
    all_goals try first | rfl | omega | exact ⟨by kernel_rfl⟩
    refine Fin.of ?_
    have := idx_at (q := edEq v) hx (by simp [edEq, t1, t2]) i2
    simp [this]
   ·have t2' : ¬ x.id = v.id := fun e => t2 e.symm
    simp -dsimp [hi, hiz, eds_get' hx, Ed.cs, eq_true t1, eq_false t2, eq_true t1.symm, eq_false t2', wrap_i64 (n := (i : Int) + 1) (by omega) (by omega)]
    and_intros
    all_goals try first | rfl | omega | exact ⟨by kernel_rfl⟩
    exact ⟨⟨i + 1, by omega, fun a ha y hy => by
     by_cases e : a = i
     ·subst e; rw [hx] at hy; simp only [Option.some.injEq] at hy; subst hy; simp [edEq, t2']
     ·exact i2 a (by omega) y hy⟩, GS.to (by simp), by simp; omega⟩
  ·have t1' : ¬ x.r = v.r := fun e => t1 e.symm
   simp -dsimp [hi, hiz, eds_get' hx, Ed.cs, eq_false t1, eq_false t1', wrap_i64 (n := (i : Int) + 1) (by omega) (by omega)]
   and_intros
   all_goals try first | rfl | omega | exact ⟨by kernel_rfl⟩
   exact ⟨⟨i + 1, by omega, fun a ha y hy => by
    by_cases e : a = i
    ·subst e; rw [hx] at hy; simp only [Option.some.injEq] at hy; subst hy; simp [edEq, t1']
    ·exact i2 a (by omega) y hy⟩, GS.to (by simp), by simp; omega⟩
 ·simp -dsimp [hi]
  refine Fin.of ?_
  have := idx_no (q := edEq v) (l := l) fun a ha => i2 a (by omega)
  simp [this]
theorem containsEd_c (l : List Ed) (hl : l.length ≤ 1000000) (v : Ed) : Contract Tryz.prog 106 [.d (.sl (eds l)), .agg (v.cs.map .d)] [] (.d (.bool (l.any (edEq v)))) [] [] := by
 have hx := indexEd_c l hl v
 simp only [Ed.cs, List.map] at hx
 refine contract_of Tryz.func106 rfl (fun E0 => ?_)
 refine awp.sound (g := .mk) (ow := []) (kp := (fun k => k==0||k==1||k==3||k==4)) ?_
 rw [Tryz.ntmps106]
 simp -dsimp [Ed.cs]
 try refine ⟨?_, ⟨by kernel_rfl⟩⟩
 refine ACall.of hx [] 0 ?_
 simp -dsimp
 try refine ⟨?_, ⟨by kernel_rfl⟩⟩
 refine Fin.of ?_
 have := idx_any (q := edEq v) l
 simp [this]
theorem sum_take {l : List Trc} {i : Nat} {x : Trc} (h : l[i]? = some x) : crSum (l.take (i + 1)) = crSum (l.take i) + x.cr.length := by
 unfold crSum; rw [List.take_add_one, h]; simp
theorem sum_bnd {l : List Trc} (h : ∀ t ∈ l, t.cr.length ≤ 1000000) : ∀ i, 0 ≤ crSum (l.take i) ∧ crSum (l.take i) ≤ 1000000 * i := by
 intro i
 induction i with
 | zero => simp [crSum]
 | succ i ih =>
   by_cases hi : i < l.length
   ·have hx := List.getElem?_eq_getElem hi
    have hb := h _ (List.getElem_mem hi)
    rw [sum_take hx]; omega
   ·rw [List.take_of_length_le (by omega)] at ih
    rw [List.take_of_length_le (by omega)]; omega
theorem crossings17_c (ts : List Trc) (hn : ts.length ≤ 100000) (h : ∀ t ∈ ts, t.cr.length ≤ 1000000) : Contract Tryz.prog 59 [.d (.sl (ts.map trC))] [] (.d (.int .i64 (crSum ts))) [] [] := by
 refine contract_of Tryz.func59 rfl (fun E0 => ?_)
 refine awp.sound (g := .mk) (ow := []) (kp := (fun k => k==0||k==2||k==3||k==4||k==8)) ?_
 rw [Tryz.ntmps59]
 simp -dsimp
 refine ALoop.of [] (fun k => k==0||k==2||k==3||k==4||k==8) (ι := { i : Nat // i ≤ ts.length })
  (fun z => [(Pl.s 0, It.v (TV.d (D.sl (ts.map trC)))), (Pl.s 2, It.v (TV.d (D.int IntKind.i64 0))), (Pl.s 3, It.v (TV.d (D.int IntKind.i64 (crSum (ts.take z.1))))), (Pl.s 4, It.v (TV.d (D.int IntKind.i64 z.1)))])
  (fun z => ts.length - z.1) ⟨0, by omega⟩ ?_ ?_
 ·exact GS.to (by simp [crSum])
 rintro ⟨i, i1⟩
 have hS := sum_bnd h i
 by_cases hi : i < ts.length
 ·have hiz : (i : Int) < ts.length := by omega
  have hx : ts[i]? = some ts[i] := List.getElem?_eq_getElem hi
  have hb := h _ (List.getElem_mem hi)
  generalize ts[i] = x at hx hb
  have hst := sum_take hx
  generalize crSum (ts.take i) = S at hS hst ⊢
  have hx' : (ts.map trC)[i]? = some (trC x) := by rw [List.getElem?_map, hx]; rfl
  simp -dsimp [hiz, hx', trC, wrap_i64 (n := S + x.cr.length) (by omega) (by omega), wrap_i64 (n := (i : Int) + 1) (by omega) (by omega)]
  and_intros
  all_goals try first | rfl | omega | exact ⟨by kernel_rfl⟩
  exact ⟨⟨i + 1, by omega⟩, GS.to (by simp [hst]), by simp; omega⟩
 ·have e0 : ts.take i = ts := List.take_of_length_le (by omega)
  rw [e0]
  simp -dsimp [hi]
  refine Fin.of ?_
  simp
theorem crossings_c (ts : List Trc) (hn : ts.length ≤ 100000) (h : ∀ t ∈ ts, t.cr.length ≤ 1000000) : Contract Tryz.prog 22 [.d (.sl (ts.map trC))] [] (.d (.int .i64 (crSum ts))) [] [] := by
 refine contract_of Tryz.func22 rfl (fun E0 => ?_)
 refine awp.sound (g := .mk) (ow := []) (kp := (fun k => k==0||k==2||k==3||k==5||k==6||k==7||k==8||k==9)) ?_
 rw [Tryz.ntmps22]
 simp -dsimp
 refine ALoop.of [] (fun k => k==0||k==2||k==3||k==5||k==6||k==7||k==8||k==9) (ι := { i : Nat // i ≤ ts.length })
  (fun z => [(Pl.s 0, It.v (TV.d (D.sl (ts.map trC)))), (Pl.s 2, It.v (TV.d (D.int IntKind.i64 0))), (Pl.s 3, It.v (TV.d (D.int IntKind.i64 (crSum (ts.take z.1))))), (Pl.s 6, It.v (TV.d (D.sl (ts.map trC)))), (Pl.s 7, It.v (TV.d (D.int IntKind.i64 ts.length))), (Pl.s 8, It.v (TV.d (D.int IntKind.i64 z.1)))])
  (fun z => ts.length - z.1) ⟨0, by omega⟩ ?_ ?_
 ·exact GS.to (by simp [crSum])
 rintro ⟨i, i1⟩
 have hS := sum_bnd h i
 by_cases hi : i < ts.length
 ·have hiz : (i : Int) < ts.length := by omega
  have hx : ts[i]? = some ts[i] := List.getElem?_eq_getElem hi
  have hb := h _ (List.getElem_mem hi)
  generalize ts[i] = x at hx hb
  have hst := sum_take hx
  generalize crSum (ts.take i) = S at hS hst ⊢
  have hx' : (ts.map trC)[i]? = some (trC x) := by rw [List.getElem?_map, hx]; rfl
  simp -dsimp [hiz, hx', trC, wrap_i64 (n := S + x.cr.length) (by omega) (by omega), wrap_i64 (n := (i : Int) + 1) (by omega) (by omega)]
  and_intros
  all_goals try first | rfl | omega | exact ⟨by kernel_rfl⟩
  exact ⟨⟨i + 1, by omega⟩, GS.to (by simp [hst]), by simp; omega⟩
 ·have e0 : ts.take i = ts := List.take_of_length_le (by omega)
  rw [e0]
  simp -dsimp [hi]
  refine Fin.of ?_
  simp
end Go.Proofs

set_option maxRecDepth 100000
set_option maxHeartbeats 4000000
namespace Go.Proofs
open Go Go.Tr
def rpS (p : Pn) (q : Pk) (r k : Int) : Option Int :=
 if atB q.set k q.len = true ∧ p.es.any (edEq ⟨r, q.set * q.len + k + 1⟩) = true then some (q.set * q.len + k + 1) else none
def rpD (p : Pn) (q : Pk) (d : Int × Pk) : List (Option Int) := (bitsI d.2.bits).map (rpS p q d.1)
def rpT (p : Pn) (q : Pk) (t : Trc) : List (Option Int) := t.dl.flatMap (rpD p q)
def rpL (p : Pn) (l : List Pk) (ts : List Trc) : List (Option Int) := (l.zip ts).flatMap fun x => rpT p x.1 x.2
def rpF (ins : List Int → Int → List Int) : List (Option Int) → List Int → List Int × Int
 | [], out => (out, 0)
 | some x :: l, out => rpF ins l (ins out x)
 | none :: _, _ => ([], 4)
def srt (l : List Int) (n : Int) : List Int := l.takeWhile (fun x => decide (x < n)) ++ n :: l.dropWhile (fun x => decide (x < n))
def app1 (l : List Int) (n : Int) : List Int := l ++ [n]
def msort (l : List Int) : List Int := l.mergeSort fun x y => decide (x ≤ y)
noncomputable def reachV (p : Pn) (l : List Pk) (ts : List Trc) : List Int × Int :=
 if planB p = false ∨ l.length ≠ ts.length ∨ l.any (fun q => !q.ok) = true then ([], 1) else rpF srt (rpL p l ts) []
theorem srt_perm (l : List Int) (n : Int) : (srt l n).Perm (n :: l) := by
 unfold srt
 refine (List.perm_middle).trans ?_
 rw [List.takeWhile_append_dropWhile]
theorem srt_asc {l : List Int} (h : l.Pairwise (· ≤ ·)) (n : Int) : (srt l n).Pairwise (· ≤ ·) := by
 unfold srt
 induction l with
 | nil => simp
 | cons x l ih =>
   rw [List.pairwise_cons] at h
   by_cases hx : x < n
   ·rw [List.takeWhile_cons_of_pos (by simpa using hx), List.dropWhile_cons_of_pos (by simpa using hx), List.cons_append, List.pairwise_cons]
    refine ⟨fun y hy => ?_, ih h.2⟩
    have := (srt_perm l n).mem_iff.1 hy
    rcases List.mem_cons.1 this with e | e
    ·omega
    ·exact h.1 y e
   ·rw [List.takeWhile_cons_of_neg (by simpa using hx), List.dropWhile_cons_of_neg (by simpa using hx), List.nil_append, List.pairwise_cons, List.pairwise_cons]
    refine ⟨fun y hy => ?_, h⟩
    rcases List.mem_cons.1 hy with e | e
    ·omega
    ·have := h.1 y e; omega
theorem asc_eq {a b : List Int} (ha : a.Pairwise (· ≤ ·)) (hb : b.Pairwise (· ≤ ·)) (h : a.Perm b) : a = b := by
 induction a generalizing b with
 | nil => exact (List.nil_perm.1 h).symm
 | cons x a ih =>
   cases b with
   | nil => exact absurd h (by intro h; have := h.length_eq; simp at this)
   | cons y b =>
     rw [List.pairwise_cons] at ha hb
     have h1 : x = y := by
      have m1 : x ∈ y :: b := h.mem_iff.1 (by simp)
      have m2 : y ∈ x :: a := h.mem_iff.2 (by simp)
      rcases List.mem_cons.1 m1 with e | e
      ·exact e
      ·rcases List.mem_cons.1 m2 with e2 | e2
       ·exact e2.symm
       ·have := hb.1 x e; have := ha.1 y e2; omega
     subst h1
     rw [ih ha.2 hb.2 (List.Perm.cons_inv h)]
theorem msort_asc (l : List Int) : (msort l).Pairwise (· ≤ ·) := by
 have h := List.pairwise_mergeSort (le := fun x y : Int => decide (x ≤ y)) (fun a b c h1 h2 => by simp at *; omega) (fun a b => by simp; omega) l
 simpa [msort] using h
theorem msort_perm (l : List Int) : (msort l).Perm l := List.mergeSort_perm l _
theorem srt_msort (l : List Int) (n : Int) : srt (msort l) n = msort (l ++ [n]) :=
 asc_eq (srt_asc (msort_asc l) n) (msort_asc _) ((srt_perm _ _).trans (((msort_perm l).cons n).trans ((List.perm_append_singleton n l).symm.trans (msort_perm _).symm)))
theorem rpF_srt : ∀ (L : List (Option Int)) (o : List Int), rpF srt L (msort o) = (msort (rpF app1 L o).1, (rpF app1 L o).2)
 | [], o => rfl
 | some x :: L, o => by
   show rpF srt L (srt (msort o) x) = _
   rw [srt_msort]; exact rpF_srt L (o ++ [x])
 | none :: L, o => by simp [rpF, msort]
theorem rpF_srt0 (L : List (Option Int)) : rpF srt L [] = (msort (rpF app1 L []).1, (rpF app1 L []).2) := by
 have := rpF_srt L []
 simpa [msort] using this
theorem srt_len (l : List Int) (n : Int) : (srt l n).length = l.length + 1 := by rw [(srt_perm l n).length_eq]; simp
theorem any_edge {p : Pn} (h : planB p = true) (r id : Int) : p.es.any (edEq ⟨r, id⟩) = match p.es.find? (fun e => decide (e.id = id)) with | some e => decide (e.r = r) | none => false := by
 cases hf : p.es.find? (fun e => decide (e.id = id)) with
 | none =>
   rw [List.find?_eq_none] at hf
   rw [List.any_eq_false]
   intro e he
   have := hf e he
   simp [edEq] at this ⊢
   exact fun _ => this
 | some e =>
   have hm := List.mem_of_find?_eq_some hf
   have hid := List.find?_some hf
   simp at hid
   simp only
   by_cases hr : e.r = r
   ·rw [decide_eq_true hr, List.any_eq_true]
    exact ⟨e, hm, by simp [edEq, hr, hid]⟩
   ·rw [decide_eq_false hr, List.any_eq_false]
    intro x hx hh
    simp [edEq] at hh
    have := plan_inj h hx hm (by rw [hh.2, hid])
    subst this
    exact hr hh.1
end Go.Proofs

set_option linter.unusedSimpArgs false
set_option maxRecDepth 100000
set_option maxHeartbeats 8000000
namespace Go.Proofs
open Go Go.Tr
theorem zip_drop {l : List Pk} {ts : List Trc} {i : Nat} {q : Pk} {t : Trc} (hq : l[i]? = some q) (ht : ts[i]? = some t) : (l.zip ts).drop i = (q, t) :: (l.zip ts).drop (i + 1) := by
 have h : (l.zip ts)[i]? = some (q, t) := by rw [List.getElem?_zip_eq_some]; exact ⟨hq, ht⟩
 obtain ⟨hi, e⟩ := List.getElem?_eq_some_iff.1 h
 rw [← e]; exact List.drop_eq_getElem_cons hi
theorem drop_cons {α : Type} {l : List α} {i : Nat} {x : α} (h : l[i]? = some x) : l.drop i = x :: l.drop (i + 1) := by
 obtain ⟨hi, e⟩ := List.getElem?_eq_some_iff.1 h
 rw [← e]; exact List.drop_eq_getElem_cons hi
end Go.Proofs

set_option linter.unusedSimpArgs false
set_option maxRecDepth 100000
set_option maxHeartbeats 8000000
namespace Go.Proofs
open Go Go.Tr
theorem reached_c (p : Pn) (hp : p.es.length ≤ 1000) (l : List Pk) (_hl : l.length ≤ 100000) (ts : List Trc) (ht : ts.length ≤ 100000) (hd : ∀ t ∈ ts, t.dl.length ≤ 1000000) (hn : (rpL p l ts).length ≤ 1000000) :
  Contract Tryz.prog 55 [planT p, .d (.sl (pks l)), .d (.sl (ts.map trC))] [] (.tup [.d (ints (reachV p l ts).1), .d (.int .i64 (reachV p l ts).2)]) [] [] := by
 have hv := validPlan_c p hp
 simp only [planT] at hv
 refine contract_of Tryz.func55 rfl (fun E0 => ?_)
 refine awp.sound (g := .mk) (ow := [1000107]) (kp := (fun k => k==0||k==1||k==2||k==3||k==6||k==7||k==8||k==9||k==10||k==12||k==14||k==15||k==16||k==30||k==31||k==32||k==33||k==34||k==42||k==43||k==44||k==45||k==51||k==52||k==53||k==54||k==77)) ?_
 rw [Tryz.ntmps55]
 simp -dsimp [planT]
 try refine ⟨?_, ⟨by kernel_rfl⟩⟩
 refine ACall.of hv [] 0 ?_
 rcases (Bool.eq_false_or_eq_true (planB p)).symm with hP | hP
 ·have e : reachV p l ts = ([], 1) := by simp [reachV, hP]
  rw [e]
  simp -dsimp [hP]
  refine Fin.view 6 ?_
  simp -dsimp
  refine Fin.of ?_
  simp [ints]
 by_cases hL : l.length = ts.length
 rotate_left
 ·have hLz : ¬ (l.length : Int) = ts.length := by omega
  have e : reachV p l ts = ([], 1) := by simp [reachV, hL]
  rw [e]
  simp -dsimp [hP, hLz]
  refine Fin.view 6 ?_
  simp -dsimp
  refine Fin.of ?_
  simp [ints]
 have hLz : (l.length : Int) = ts.length := by omega
 simp -dsimp [hP, hLz]
 try refine ⟨?_, ⟨by kernel_rfl⟩⟩
 refine ACall.of (containsFP0_c l (by omega) _ (fun q => !q.ok) (fun x _ => reached1_c x) (by kernel_rfl)) [] 0 ?_
 rcases (Bool.eq_false_or_eq_true (l.any (fun q => !q.ok))).symm with hA | hA
 ·rw [hA]
  simp -dsimp
  have e : reachV p l ts = (msort (rpF app1 (rpL p l ts) []).1, (rpF app1 (rpL p l ts) []).2) := by
   rw [← rpF_srt0, reachV, if_neg]
   rintro (h | h | h)
   ·rw [hP] at h; cases h
   ·exact h hL
   ·rw [hA] at h; cases h
  rw [e]
  have hn' : (rpL p l ts).length ≤ 1000000 := hn
  clear e
  generalize hY : rpF app1 (rpL p l ts) [] = Y
  have hY' : Y = rpF app1 (((l.zip ts).drop 0).flatMap fun x => rpT p x.1 x.2) [] := by rw [← hY]; rfl
  rw [show rpL p l ts = ((l.zip ts).drop 0).flatMap fun x => rpT p x.1 x.2 from rfl] at hn'
  clear hY
  refine ALoop.of [1000107] (fun k => k==0||k==1||k==2||k==3||k==6||k==7||k==8||k==9||k==10||k==12||k==14||k==15||k==16||k==30||k==31||k==32||k==33||k==34||k==42||k==43||k==44||k==45||k==51||k==52||k==53||k==54||k==77) (ι := { z : Nat × List Int // z.1 ≤ l.length ∧ Y = rpF app1 (((l.zip ts).drop z.1).flatMap fun x => rpT p x.1 x.2) z.2 ∧ z.2.length + (((l.zip ts).drop z.1).flatMap fun x => rpT p x.1 x.2).length ≤ 1000000 })
   (fun z => [(Pl.o 3, It.box [TV.d (D.int IntKind.i64 p.subd), TV.d (D.int IntKind.i64 p.len), TV.d (D.sl (eds p.es))]), (Pl.s 3, It.v (TV.ptr (Pl.o 3) 0)), (Pl.s 1, It.v (TV.d (D.sl (pks l)))), (Pl.s 2, It.v (TV.d (D.sl (List.map trC ts)))), (Pl.s 6, It.v (TV.c (Value.slice none 0 0))), (Pl.s 7, It.v (TV.d (D.int IntKind.i64 0))), (Pl.s 31, It.v (TV.d (D.sl (pks l)))), (Pl.s 32, It.v (TV.d (D.int IntKind.i64 l.length))), (Pl.s 8, It.v (TV.oref 8 z.1.2.length)), (Pl.o 8, .row 3 1 (dd (nrow .i64 z.1.2)) false), (Pl.s 33, It.v (TV.d (D.int IntKind.i64 z.1.1)))])
   (fun z => l.length - z.1.1) ⟨(0, []), by dsimp only; omega, hY', by dsimp only; simpa using hn'⟩ ?_ ?_
  ·exact GS.own' (k := 8) 3 1 (by simp) (by simp) (by simp [nrow])
  rintro ⟨⟨i, out⟩, q1, q2, q3⟩
  simp only at q1 q2 q3
  by_cases hi : i < l.length
  ·have hiz : (i : Int) < l.length := by omega
   have hitz : (i : Int) < ts.length := by omega
   have hq : l[i]? = some l[i] := List.getElem?_eq_getElem hi
   generalize l[i] = q at hq
   have hx : ts[i]? = some ts[i] := List.getElem?_eq_getElem (by omega)
   have hdi := hd _ (List.getElem_mem (show i < ts.length by omega))
   generalize ts[i] = t at hx hdi
   rw [zip_drop hq hx, List.flatMap_cons] at q2 q3
   generalize hR : ((l.zip ts).drop (i + 1)).flatMap (fun x => rpT p x.1 x.2) = R at q2 q3
   have hx' : (ts.map trC)[i]? = some (trC t) := by rw [List.getElem?_map, hx]; rfl
   have hpq := pks_get' hq
   simp -dsimp [hi, hiz, hitz, hx', hpq, trC, Pk.cs]
   refine ALoop.of [1000107] (fun k => k==0||k==1||k==2||k==3||k==6||k==7||k==8||k==9||k==10||k==12||k==14||k==15||k==16||k==30||k==31||k==32||k==33||k==34||k==42||k==43||k==44||k==45||k==51||k==52||k==53||k==54||k==77) (ι := { z : Nat × List Int // z.1 ≤ t.dl.length ∧ Y = rpF app1 ((t.dl.drop z.1).flatMap (rpD p q) ++ R) z.2 ∧ z.2.length + ((t.dl.drop z.1).flatMap (rpD p q) ++ R).length ≤ 1000000 })
    (fun z => [(Pl.o 3, It.box [TV.d (D.int IntKind.i64 p.subd), TV.d (D.int IntKind.i64 p.len), TV.d (D.sl (eds p.es))]), (Pl.s 3, It.v (TV.ptr (Pl.o 3) 0)), (Pl.s 1, It.v (TV.d (D.sl (pks l)))), (Pl.s 2, It.v (TV.d (D.sl (List.map trC ts)))), (Pl.s 6, It.v (TV.c (Value.slice none 0 0))), (Pl.s 7, It.v (TV.d (D.int IntKind.i64 0))), (Pl.s 31, It.v (TV.d (D.sl (pks l)))), (Pl.s 32, It.v (TV.d (D.int IntKind.i64 l.length))), (Pl.s 33, It.v (TV.d (D.int IntKind.i64 i))), (Pl.o 10, It.box (q.cs.map .d)), (Pl.s 10, It.v (TV.ptr (Pl.o 10) 0)), (Pl.s 42, It.v (TV.d (D.sl (List.map dlC t.dl)))), (Pl.s 43, It.v (TV.d (D.int IntKind.i64 t.dl.length))), (Pl.s 8, It.v (TV.oref 8 z.1.2.length)), (Pl.o 8, .row 3 1 (dd (nrow .i64 z.1.2)) false), (Pl.s 44, It.v (TV.d (D.int IntKind.i64 z.1.1)))])
    (fun z => t.dl.length - z.1.1) ⟨(0, out), by dsimp only; omega, q2, q3⟩ ?_ ?_
   ·exact GS.to (by simp [Pk.cs])
   rintro ⟨⟨k, out⟩, m1, m2, m3⟩
   simp only at m1 m2 m3
   by_cases hk : k < t.dl.length
   ·have hkz : (k : Int) < t.dl.length := by omega
    have hy : t.dl[k]? = some t.dl[k] := List.getElem?_eq_getElem hk
    generalize t.dl[k] = d at hy
    rw [drop_cons hy, List.flatMap_cons, List.append_assoc] at m2 m3
    generalize hR2 : (t.dl.drop (k + 1)).flatMap (rpD p q) ++ R = R2 at m2 m3
    have hli := list_c d.2.bits
    have hbl := bitsI_len d.2.bits
    simp only [bv] at hli
    simp -dsimp [hkz, hy, dlC, Pk.cs, bv]
    and_intros
    all_goals try first | rfl | omega | exact ⟨by kernel_rfl⟩
    refine ACall.of hli [] 0 ?_
    simp only [rpD] at m2 m3
    generalize bitsI d.2.bits = bs at m2 m3 hbl ⊢
    simp -dsimp [ints]
    try refine ⟨?_, ⟨by kernel_rfl⟩⟩
    refine ALoop.of [1000107] (fun k => k==0||k==1||k==2||k==3||k==6||k==7||k==8||k==9||k==10||k==12||k==14||k==15||k==16||k==30||k==31||k==32||k==33||k==34||k==42||k==43||k==44||k==45||k==51||k==52||k==53||k==54||k==77) (ι := { z : Nat × List Int // z.1 ≤ bs.length ∧ Y = rpF app1 ((bs.drop z.1).map (rpS p q d.1) ++ R2) z.2 ∧ z.2.length + ((bs.drop z.1).map (rpS p q d.1) ++ R2).length ≤ 1000000 })
     (fun z => [(Pl.o 3, It.box [TV.d (D.int IntKind.i64 p.subd), TV.d (D.int IntKind.i64 p.len), TV.d (D.sl (eds p.es))]), (Pl.s 3, It.v (TV.ptr (Pl.o 3) 0)), (Pl.s 1, It.v (TV.d (D.sl (pks l)))), (Pl.s 2, It.v (TV.d (D.sl (List.map trC ts)))), (Pl.s 6, It.v (TV.c (Value.slice none 0 0))), (Pl.s 7, It.v (TV.d (D.int IntKind.i64 0))), (Pl.s 31, It.v (TV.d (D.sl (pks l)))), (Pl.s 32, It.v (TV.d (D.int IntKind.i64 l.length))), (Pl.s 33, It.v (TV.d (D.int IntKind.i64 i))), (Pl.o 10, It.box (q.cs.map .d)), (Pl.s 10, It.v (TV.ptr (Pl.o 10) 0)), (Pl.s 42, It.v (TV.d (D.sl (List.map dlC t.dl)))), (Pl.s 43, It.v (TV.d (D.int IntKind.i64 t.dl.length))), (Pl.s 8, It.v (TV.oref 8 z.1.2.length)), (Pl.o 8, .row 3 1 (dd (nrow .i64 z.1.2)) false), (Pl.s 44, It.v (TV.d (D.int IntKind.i64 k))), (Pl.o 12, It.box ((dlC d).map .d)), (Pl.s 12, It.v (TV.ptr (Pl.o 12) 0)), (Pl.s 51, It.v (TV.d (ints bs))), (Pl.s 52, It.v (TV.d (D.int IntKind.i64 bs.length))), (Pl.s 53, It.v (TV.d (D.int IntKind.i64 z.1.1)))])
     (fun z => bs.length - z.1.1) ⟨(0, out), by dsimp only; omega, m2, m3⟩ ?_ ?_
    ·exact GS.to (by simp [dlC, Pk.cs, bv, ints])
    rintro ⟨⟨j, out⟩, n1, n2, n3⟩
    simp only at n1 n2 n3
    by_cases hj : j < bs.length
    ·have hjz : (j : Int) < bs.length := by omega
     have hb : bs[j]? = some bs[j] := List.getElem?_eq_getElem hj
     generalize bs[j] = b at hb
     rw [drop_cons hb, List.map_cons, List.cons_append] at n2 n3
     have hat := atP_c q.set b q.len
     simp only [atT] at hat
     simp -dsimp [ints, dlC, hjz, hb, Pk.cs, bv]
     and_intros
     all_goals try first | rfl | omega | exact ⟨by kernel_rfl⟩
     refine ACall.of hat [] 0 ?_
     have hed := containsEd_c p.es (by omega) ⟨d.1, q.set * q.len + b + 1⟩
     simp only [Ed.cs, List.map] at hed
     rcases (Bool.eq_false_or_eq_true (atB q.set b q.len)).symm with ha | ha
     ·have hs : rpS p q d.1 b = none := by simp [rpS, ha]
      rw [hs] at n2
      simp only [rpF] at n2
      simp -dsimp [ints, dlC, ha]
      try refine ⟨?_, ⟨by kernel_rfl⟩⟩
      refine Fin.view 6 ?_
      simp -dsimp
      refine Fin.of ?_
      simp [n2, ints, msort]
     ·simp -dsimp [ints, dlC, ha]
      try refine ⟨?_, ⟨by kernel_rfl⟩⟩
      refine ACall.of hed [] 0 ?_
      rcases (Bool.eq_false_or_eq_true (p.es.any (edEq ⟨d.1, q.set * q.len + b + 1⟩))).symm with he | he
      ·have hs : rpS p q d.1 b = none := by simp [rpS, he]
       rw [hs] at n2
       simp only [rpF] at n2
       rw [he]
       simp -dsimp [ints, dlC, Pk.cs, bv]
       try refine ⟨?_, ⟨by kernel_rfl⟩⟩
       refine Fin.view 6 ?_
       simp -dsimp
       refine Fin.of ?_
       simp [n2, ints, msort]
      ·have hs : rpS p q d.1 b = some (q.set * q.len + b + 1) := by simp [rpS, he, ha]
       rw [hs] at n2
       simp only [rpF, app1] at n2
       have hlo : out.length ≤ 1000000 := by omega
       rw [he]
       simp -dsimp [ints, dlC, Pk.cs, bv, wrap_i64 (n := (j : Int) + 1) (by omega) (by omega)]
       and_intros
       all_goals try first | rfl | omega | exact ⟨by kernel_rfl⟩
       exact ⟨⟨(j + 1, out ++ [q.set * q.len + b + 1]), by dsimp only; omega, n2, by dsimp only; rw [List.length_cons] at n3; rw [List.length_append, List.length_cons, List.length_nil]; omega⟩, GS.to (by simp [ints, dlC, Pk.cs, bv, nrow]), by simp; omega⟩
    ·have e0 : bs.drop j = [] := List.drop_eq_nil_of_le (by omega)
     have hjz : ¬ (j : Int) < bs.length := by omega
     rw [e0, List.map_nil, List.nil_append, ← hR2] at n2 n3
     simp -dsimp [ints, dlC, Pk.cs, hjz, wrap_i64 (n := (k : Int) + 1) (by omega) (by omega)]
     try refine ⟨?_, ⟨by kernel_rfl⟩⟩
     exact ⟨⟨(k + 1, out), by dsimp only; omega, n2, n3⟩, GS.to (by simp [ints, dlC, Pk.cs, bv]), by simp; omega⟩
   ·have e0 : t.dl.drop k = [] := List.drop_eq_nil_of_le (by omega)
    have hkz : ¬ (k : Int) < t.dl.length := by omega
    rw [e0, List.flatMap_nil, List.nil_append, ← hR] at m2 m3
    simp -dsimp [hkz, wrap_i64 (n := (i : Int) + 1) (by omega) (by omega)]
    try refine ⟨?_, ⟨by kernel_rfl⟩⟩
    exact ⟨⟨(i + 1, out), by dsimp only; omega, m2, m3⟩, GS.to (by simp), by simp; omega⟩
  ·have hiz : ¬ (i : Int) < l.length := by omega
   have e0 : (l.zip ts).drop i = [] := List.drop_eq_nil_of_le (by simp; omega)
   rw [e0, List.flatMap_nil, rpF] at q2
   have hlo : out.length ≤ 1000000 := by omega
   simp -dsimp [hiz]
   try refine ⟨?_, ⟨by kernel_rfl⟩⟩
   refine ACall.inpl sort_i out ?_
   simp -dsimp
   and_intros
   all_goals try first | omega | exact ⟨by kernel_rfl⟩
   refine Fin.view 6 ?_
   simp -dsimp
   refine Fin.of ?_
   simp [q2, ints, nrow, msort]
 ·have e : reachV p l ts = ([], 1) := by simp [reachV, hA]
  rw [e, hA]
  simp -dsimp
  refine Fin.view 6 ?_
  simp -dsimp
  refine Fin.of ?_
  simp [ints]
end Go.Proofs

set_option linter.unusedSimpArgs false
set_option maxRecDepth 100000
set_option maxHeartbeats 4000000
namespace Go.Proofs
open Go Go.Tr
def gTempl (T : Tp) : Pk × Tp :=
 let R := gPacket T 0
 let m := gPick R.2 [1, 3]
 (⟨m.1, R.1.subd, R.1.set, R.1.len, 63, R.1.ent, R.1.ing, R.1.proto, R.1.bits, R.1.pay⟩, m.2)
theorem template_c (T : Tp) (hT : TapeOK T) : Contract Tryz.prog 17 [.ptr (.x 0) 0] [tapeI T] (pkT (gTempl T).1) [tapeI (gTempl T).2] [] := by
 unfold gTempl
 refine contract_of Tryz.func17 rfl (fun E0 => ?_)
 refine awp.sound (g := .mk) (ow := []) (kp := (fun k => k==0||k==2||k==3)) ?_
 rw [Tryz.ntmps17]
 simp -dsimp
 refine ACall.of (packet_c T hT 0 ⟨by omega, by omega⟩) [.x 0] 0 ?_
 simp -dsimp [pkT, Pk.cs]
 have k1 : TapeOK (gPacket T 0).2 := by simpa using hT
 generalize gPacket T 0 = R at k1 ⊢
 refine ACall.of (pick_c R.2 k1 [1, 3] (by simp) (by simp)) [.x 0] 0 ?_
 simp -dsimp [ints]
 refine Fin.of ?_
 simp [pkT, Pk.cs]
end Go.Proofs

set_option maxRecDepth 100000
set_option maxHeartbeats 4000000
namespace Go.Proofs
open Go Go.Tr
theorem run_dl64 (l : List Tb) (p : Pk) (r : Int) : (runR l p r).1.dl.length ≤ 64 := by
 by_cases h : fitsR l p r = 0
 ·obtain ⟨hF, hr, h2⟩ := fits_fit h
  rw [h2]
  have h3 := len_sum (fun d : Int × Pk => d.2.bits) _ (fun x hx => by obtain ⟨k, hk, e⟩ := (run_all hF hr).dl x hx; rw [e]; intro h0; have := pc_one hk; rw [h0, pc_zero] at this; omega)
  have h4 : ∀ k < 64, ((runG l (wt p) [(r, p)] tr0).dl.filter fun d => d.2.bits.getLsbD k).length ≤ if p.bits.getLsbD k = true then 1 else 0 := fun k hk => by
   have := (run_bit hF r hk).1; omega
  have h5 := sum_le_bits h4
  have h6 : pc p.bits ≤ 64 := pc_le p.bits
  exact Nat.le_trans h3 (by omega)
 ·rw [fits_not h]; simp [tr0]
theorem sendL_all {P : Trc → Prop} {l : List Tb} {r : Int} (hP : ∀ x, P (runR l x r).1) : ∀ (ps : List Pk) (out : List Trc), (∀ t ∈ out, P t) → ∀ t ∈ (sendL l r ps out).1, P t
 | [], out, h => h
 | p :: ps, out, h => by
   rw [sendL]
   split
   ·exact sendL_all hP ps _ fun t ht => by
     rcases List.mem_append.1 ht with ht | ht
     ·exact h t ht
     ·simp at ht; subst ht; exact hP p
   ·simp
theorem sendL_len {l : List Tb} {r : Int} : ∀ (ps : List Pk) (out : List Trc), (sendL l r ps out).1.length ≤ ps.length + out.length
 | [], out => by simp [sendL]
 | p :: ps, out => by
   have h := sendL_len (l := l) (r := r) ps (out ++ [(runR l p r).1])
   rw [List.length_append, List.length_cons, List.length_nil] at h
   rw [sendL, List.length_cons]
   split
   ·omega
   ·simp
theorem sendR_all (l : List Tb) (p : Pn) (r : Int) (ids : List Int) (q : Pk) : ∀ t ∈ (sendR l p r ids q).1, t.dl.length ≤ 64 ∧ t.cr.length ≤ 1000000 ∧ t.ls.length ≤ 1000000 := by
 unfold sendR
 split
 ·exact sendL_all (P := fun t => t.dl.length ≤ 64 ∧ t.cr.length ≤ 1000000 ∧ t.ls.length ≤ 1000000) (fun x => ⟨run_dl64 l x r, (run_small l x r).2⟩) _ _ (by simp)
 ·simp
theorem sendR_len (l : List Tb) (p : Pn) (r : Int) (ids : List Int) (q : Pk) : (sendR l p r ids q).1.length ≤ ids.length := by
 have h := packR_len p ids q
 unfold sendR
 split
 ·have h2 := sendL_len (l := l) (r := r) (packR p ids q).1 []
  rw [List.length_nil] at h2; omega
 ·simp
theorem flat_len {α β : Type} (f : α → List β) (n : Nat) : ∀ (l : List α), (∀ x ∈ l, (f x).length ≤ n) → (l.flatMap f).length ≤ n * l.length
 | [], _ => by simp
 | x :: l, h => by
   have h1 := h x (by simp)
   have h2 := flat_len f n l fun y hy => h y (by simp [hy])
   rw [List.flatMap_cons, List.length_append, List.length_cons, Nat.mul_succ]; omega
theorem rpL_len (p : Pn) (l : List Pk) (ts : List Trc) (h : ∀ t ∈ ts, t.dl.length ≤ 64) : (rpL p l ts).length ≤ 4096 * ts.length := by
 have h1 := flat_len (fun x : Pk × Trc => rpT p x.1 x.2) 4096 (l.zip ts) fun x hx => by
  have ht := h x.2 (List.of_mem_zip hx).2
  have h2 := flat_len (rpD p x.1) 64 x.2.dl fun d _ => by simp only [rpD, List.length_map]; exact bitsI_len _
  show (x.2.dl.flatMap (rpD p x.1)).length ≤ 4096
  omega
 have h3 : (l.zip ts).length ≤ ts.length := by rw [List.length_zip]; omega
 show ((l.zip ts).flatMap fun x : Pk × Trc => rpT p x.1 x.2).length ≤ _
 omega
theorem rpF_len : ∀ (L : List (Option Int)) (o : List Int), (rpF srt L o).1.length ≤ L.length + o.length
 | [], o => by simp [rpF]
 | some x :: L, o => by
   have h := rpF_len L (srt o x)
   rw [srt_len] at h
   rw [rpF, List.length_cons]; omega
 | none :: L, o => by simp [rpF]
theorem reachV_len (p : Pn) (l : List Pk) (ts : List Trc) : (reachV p l ts).1.length ≤ (rpL p l ts).length := by
 unfold reachV
 split
 ·simp
 ·have h := rpF_len (rpL p l ts) []
  rw [List.length_nil] at h; omega
end Go.Proofs
