/-
  What functions of the program compute, stated as contracts over plain data; the conditions of each stand in its own statement.
-/
import Derived.Test.YtjgeggdefiejbaaGreatDoorM31
import Derived.Test.YtjgeggdefiejbaaGreatDoorM28
import Derived.Test.YtjgeggdefiejbaaGreatDoorM15
set_option linter.unusedSimpArgs false
set_option maxRecDepth 100000
set_option maxHeartbeats 4000000
namespace Go.Proofs
open Go Go.Tr
def forL (len set : Int) : List Ed → Tp → BitVec 64 → BitVec 64 × Tp
 | [], T, B => (B, T)
 | e :: es, T, B => if plSet e.id len = set then (if 0 < (gNext T 4).1 then forL len set es (gNext T 4).2 (B ||| bitB (plBit e.id len)) else forL len set es (gNext T 4).2 B) else forL len set es T B
def forS (T : Tp) (p : Pn) : Int × Tp := if p.es = [] then (0, T) else (plSet (p.es.getD (gNext T p.es.length).1.toNat ⟨0, 0⟩).id p.len, (gNext T p.es.length).2)
def Pk.for (q : Pk) (subd len set : Int) (B : BitVec 64) : Pk := ⟨1, subd, set, len, q.ttl, q.ent, q.ing, q.proto, B, q.pay⟩
def gFor (T : Tp) (p : Pn) : Pk × Tp :=
 let q := gPacket T 0
 let s := forS q.2 p
 let b := forL p.len s.1 p.es s.2 0#64
 let o := gOne b.2 6
 if o.1 = true then (q.1.for p.subd p.len s.1 (b.1 ||| (gBits o.2 p.len).1), (gBits o.2 p.len).2) else (q.1.for p.subd p.len s.1 b.1, o.2)
theorem forL_ok (len set : Int) : ∀ (es : List Ed) (T : Tp) (B : BitVec 64), TapeOK (forL len set es T B).2 = TapeOK T
 | [], _, _ => rfl
 | e :: es, T, B => by
   rw [forL]
   split
   ·split
    ·rw [forL_ok]; simp
    ·rw [forL_ok]; simp
   ·exact forL_ok len set es T B
theorem forS_ok (T : Tp) (p : Pn) : TapeOK (forS T p).2 = TapeOK T := by
 unfold forS
 split
 ·rfl
 ·simp
theorem gFor_ok (T : Tp) (p : Pn) : TapeOK (gFor T p).2 = TapeOK T := by
 unfold gFor
 simp only
 split <;> simp [forL_ok, forS_ok]
theorem for_c (T : Tp) (hT : TapeOK T) (p : Pn) (hp : p.es.length ≤ 1000) (l0 : p.len ≠ 0) (hl : I64 p.len) : Contract Tryz.prog 54 [.ptr (.x 0) 0, planT p] [tapeI T] (pkT (gFor T p).1) [tapeI (gFor T p).2] [] := by
 refine contract_of Tryz.func54 rfl (fun E0 => ?_)
 refine awp.sound (g := .mk) (ow := []) (kp := (fun k => k==0||k==1||k==3||k==4||k==5||k==6||k==7||k==8||k==23||k==28||k==51||k==75||k==83)) ?_
 rw [Tryz.ntmps54]
 simp -dsimp [planT]
 try refine ⟨?_, ⟨by kernel_rfl⟩⟩
 refine ACall.of (packet_c T hT 0 ⟨by omega, by omega⟩) [.x 0] 0 ?_
 have kQ : TapeOK (gPacket T 0).2 := by simpa using hT
 unfold gFor
 simp only
 generalize gPacket T 0 = q at kQ ⊢
 obtain ⟨q, T1⟩ := q
 simp only at kQ ⊢
 simp only [pkT, Pk.cs, List.map]
 by_cases e0 : p.es = []
 ·have eS : forS T1 p = (0, T1) := by rw [forS, if_pos e0]
  rw [eS]
  simp -dsimp [l0, e0]
  try refine ⟨?_, ⟨by kernel_rfl⟩⟩
  refine ALoop.of [] (fun k => k==0||k==1||k==3||k==4||k==5||k==6||k==7||k==8||k==23||k==28||k==51||k==75||k==83) (ι := { z : Nat × Tp × BitVec 64 // z.1 ≤ p.es.length ∧ TapeOK z.2.1 ∧ forL p.len 0 p.es T1 0#64 = forL p.len 0 (p.es.drop z.1) z.2.1 z.2.2 })
   (fun z => [(Pl.s 0, It.v (TV.ptr (Pl.x 0) 0)), (Pl.x 0, tapeI z.1.2.1), (Pl.o 3, It.box [TV.d (D.int IntKind.i64 p.subd), TV.d (D.int IntKind.i64 p.len), TV.d (D.sl (eds p.es))]), (Pl.s 3, It.v (TV.ptr (Pl.o 3) 0)),
    (Pl.o 4, It.box [TV.d (D.int IntKind.i64 0), TV.d (D.int IntKind.i64 0), TV.d (D.int IntKind.i64 0), TV.d (D.int IntKind.i64 0), TV.d (D.int IntKind.i64 0), TV.d (D.int IntKind.i64 0), TV.d (D.int IntKind.i64 0), TV.d (D.int IntKind.i64 0), TV.d (D.int IntKind.u64 0), TV.d (D.str ⟨#[]⟩)]),
    (Pl.s 4, It.v (TV.ptr (Pl.o 4) 0)),
    (Pl.o 5, It.box [TV.d (D.int IntKind.i64 1), TV.d (D.int IntKind.i64 p.subd), TV.d (D.int IntKind.i64 0), TV.d (D.int IntKind.i64 p.len), TV.d (D.int IntKind.i64 q.ttl), TV.d (D.int IntKind.i64 q.ent), TV.d (D.int IntKind.i64 q.ing), TV.d (D.int IntKind.i64 q.proto), TV.d (D.int IntKind.u64 (tn z.1.2.2)), TV.d (D.str q.pay)]),
    (Pl.s 5, It.v (TV.ptr (Pl.o 5) 0)), (Pl.s 6, It.v (TV.d (D.int IntKind.i64 z.1.1)))])
   (fun z => p.es.length - z.1.1) ⟨(0, T1, 0#64), by simp, kQ, rfl⟩ ?_ ?_
  ·exact GS.to (by simp [e0])
  generalize forL p.len 0 p.es T1 0#64 = X
  rintro ⟨⟨i, T3, B⟩, i1, i2, i3⟩
  simp only at i1 i2 i3
  by_cases hi : i < p.es.length
  ·have hiz : (i : Int) < p.es.length := by omega
   have hg : p.es[i]? = some p.es[i] := List.getElem?_eq_getElem hi
   have hd : p.es.drop i = p.es[i] :: p.es.drop (i + 1) := List.drop_eq_getElem_cons hi
   generalize p.es[i] = y at hg hd
   have hg' := eds_get hg
   rw [hd, forL] at i3
   have pb := plB y.id p.len
   have hbc := bit_c (plBit y.id p.len)
   simp -dsimp [hiz, hg', Ed.cs]
   try refine ⟨?_, ⟨by kernel_rfl⟩⟩
   and_intros
   all_goals try first | rfl | omega | exact ⟨by kernel_rfl⟩
   refine ACall.of (place10_c y.id p.len) [] 0 ?_
   simp only [placeT]
   generalize plSet y.id p.len = sy at i3 pb
   generalize plBit y.id p.len = by_ at i3 pb hbc
   by_cases c0 : sy = 0
   ·rw [if_pos c0] at i3
    simp -dsimp [hiz, hg', Ed.cs, placeT, eq_true c0]
    try refine ⟨?_, ⟨by kernel_rfl⟩⟩
    refine ACall.of (next_c T3 i2 4 ⟨by omega, by omega⟩) [.x 0] 0 ?_
    have n1 := gNext_nonneg T3 4
    have kS : TapeOK (gNext T3 4).2 := by simpa using i2
    generalize gNext T3 4 = m4 at n1 kS i3 ⊢
    obtain ⟨m4, T4⟩ := m4
    simp only at n1 kS i3 ⊢
    by_cases c1 : 0 < m4
    ·rw [if_pos c1] at i3
     simp -dsimp [c1]
     try refine ⟨?_, ⟨by kernel_rfl⟩⟩
     refine ACall.of hbc [] 0 ?_
     simp -dsimp [bv, wrap_i64 (n := (i : Int) + 1) (by omega) (by omega)]
     try refine ⟨?_, ⟨by kernel_rfl⟩⟩
     and_intros
     all_goals try first | rfl | omega | exact ⟨by kernel_rfl⟩
     exact ⟨⟨(i + 1, T4, B ||| bitB by_), by dsimp only; omega, kS, i3⟩, GS.to (by simp), by simp; omega⟩
    ·rw [if_neg c1] at i3
     simp -dsimp [c1, wrap_i64 (n := (i : Int) + 1) (by omega) (by omega)]
     try refine ⟨?_, ⟨by kernel_rfl⟩⟩
     and_intros
     all_goals try first | rfl | omega | exact ⟨by kernel_rfl⟩
     exact ⟨⟨(i + 1, T4, B), by dsimp only; omega, kS, i3⟩, GS.to (by simp), by simp; omega⟩
   ·rw [if_neg c0] at i3
    simp -dsimp [hiz, hg', Ed.cs, placeT, eq_false c0, wrap_i64 (n := (i : Int) + 1) (by omega) (by omega)]
    try refine ⟨?_, ⟨by kernel_rfl⟩⟩
    and_intros
    all_goals try first | rfl | omega | exact ⟨by kernel_rfl⟩
    exact ⟨⟨(i + 1, T3, B), by dsimp only; omega, i2, i3⟩, GS.to (by simp), by simp; omega⟩
  ·have hiz : ¬ (i : Int) < p.es.length := by omega
   have e1 : p.es.drop i = [] := List.drop_eq_nil_of_le (by omega)
   rw [e1, forL] at i3
   subst i3
   simp -dsimp [hiz]
   try refine ⟨?_, ⟨by kernel_rfl⟩⟩
   refine ACall.of (one_c T3 i2 6 ⟨by omega, by omega⟩ ⟨by omega, by omega⟩) [.x 0] 0 ?_
   have kO : TapeOK (gOne T3 6).2 := by simpa using i2
   generalize gOne T3 6 = o at kO ⊢
   obtain ⟨o, T5⟩ := o
   simp only at kO ⊢
   rcases (Bool.eq_false_or_eq_true o).symm with ho | ho
   ·subst ho
    simp -dsimp
    try refine ⟨?_, ⟨by kernel_rfl⟩⟩
    refine Fin.box (.o 4) rfl ?_
    simp -dsimp
    try refine ⟨?_, ⟨by kernel_rfl⟩⟩
    refine Fin.of ?_
    simp [Pk.for, bv]
   ·subst ho
    simp -dsimp
    try refine ⟨?_, ⟨by kernel_rfl⟩⟩
    refine ACall.of (bits_c T5 kO p.len hl) [.x 0] 0 ?_
    generalize gBits T5 p.len = gb
    simp -dsimp [bv]
    try refine ⟨?_, ⟨by kernel_rfl⟩⟩
    refine Fin.box (.o 4) rfl ?_
    simp -dsimp
    try refine ⟨?_, ⟨by kernel_rfl⟩⟩
    refine Fin.of ?_
    simp [Pk.for, bv]
 ·have eS : forS T1 p = (plSet (p.es.getD (gNext T1 p.es.length).1.toNat ⟨0, 0⟩).id p.len, (gNext T1 p.es.length).2) := by rw [forS, if_neg e0]
  have hlen : 0 < p.es.length := List.length_pos_iff.2 e0
  rw [eS]
  simp -dsimp [l0, e0, hlen]
  try refine ⟨?_, ⟨by kernel_rfl⟩⟩
  and_intros
  all_goals try first | rfl | omega | exact ⟨by kernel_rfl⟩
  refine ACall.of (next_c T1 kQ p.es.length ⟨by omega, by omega⟩) [.x 0] 0 ?_
  have m1 := gNext_nonneg T1 p.es.length
  have m2 := gNext_lt T1 (n := p.es.length) (by omega)
  have kN : TapeOK (gNext T1 p.es.length).2 := by simpa using kQ
  clear eS
  generalize gNext T1 p.es.length = m at m1 m2 kN ⊢
  obtain ⟨m, T2⟩ := m
  simp only at m1 m2 kN ⊢
  obtain ⟨j, rfl⟩ : ∃ j : Nat, m = j := ⟨m.toNat, by omega⟩
  have hj : j < p.es.length := by omega
  have hx : p.es[j]? = some p.es[j] := List.getElem?_eq_getElem hj
  have hgd : p.es.getD ((j : Int)).toNat ⟨0, 0⟩ = p.es[j] := by rw [List.getD_eq_getElem?_getD, show ((j : Int)).toNat = j by omega, hx]; rfl
  rw [hgd]
  generalize p.es[j] = x at hx
  have hx' := eds_get hx
  simp -dsimp [l0, e0, hlen, hx', Ed.cs]
  try refine ⟨?_, ⟨by kernel_rfl⟩⟩
  and_intros
  all_goals try first | rfl | omega | exact ⟨by kernel_rfl⟩
  refine ACall.of (place10_c x.id p.len) [] 0 ?_
  simp only [placeT]
  generalize plSet x.id p.len = S
  simp -dsimp [l0, e0, placeT]
  try refine ⟨?_, ⟨by kernel_rfl⟩⟩
  refine ALoop.of [] (fun k => k==0||k==1||k==3||k==4||k==5||k==6||k==7||k==8||k==23||k==28||k==51||k==75||k==83) (ι := { z : Nat × Tp × BitVec 64 // z.1 ≤ p.es.length ∧ TapeOK z.2.1 ∧ forL p.len S p.es T2 0#64 = forL p.len S (p.es.drop z.1) z.2.1 z.2.2 })
   (fun z => [(Pl.s 0, It.v (TV.ptr (Pl.x 0) 0)), (Pl.x 0, tapeI z.1.2.1), (Pl.o 3, It.box [TV.d (D.int IntKind.i64 p.subd), TV.d (D.int IntKind.i64 p.len), TV.d (D.sl (eds p.es))]), (Pl.s 3, It.v (TV.ptr (Pl.o 3) 0)),
    (Pl.o 4, It.box [TV.d (D.int IntKind.i64 0), TV.d (D.int IntKind.i64 0), TV.d (D.int IntKind.i64 0), TV.d (D.int IntKind.i64 0), TV.d (D.int IntKind.i64 0), TV.d (D.int IntKind.i64 0), TV.d (D.int IntKind.i64 0), TV.d (D.int IntKind.i64 0), TV.d (D.int IntKind.u64 0), TV.d (D.str ⟨#[]⟩)]),
    (Pl.s 4, It.v (TV.ptr (Pl.o 4) 0)),
    (Pl.o 5, It.box [TV.d (D.int IntKind.i64 1), TV.d (D.int IntKind.i64 p.subd), TV.d (D.int IntKind.i64 S), TV.d (D.int IntKind.i64 p.len), TV.d (D.int IntKind.i64 q.ttl), TV.d (D.int IntKind.i64 q.ent), TV.d (D.int IntKind.i64 q.ing), TV.d (D.int IntKind.i64 q.proto), TV.d (D.int IntKind.u64 (tn z.1.2.2)), TV.d (D.str q.pay)]),
    (Pl.s 5, It.v (TV.ptr (Pl.o 5) 0)), (Pl.s 6, It.v (TV.d (D.int IntKind.i64 z.1.1)))])
   (fun z => p.es.length - z.1.1) ⟨(0, T2, 0#64), by simp, kN, rfl⟩ ?_ ?_
  ·exact GS.to (by simp [e0])
  generalize forL p.len S p.es T2 0#64 = X
  rintro ⟨⟨i, T3, B⟩, i1, i2, i3⟩
  simp only at i1 i2 i3
  by_cases hi : i < p.es.length
  ·have hiz : (i : Int) < p.es.length := by omega
   have hg : p.es[i]? = some p.es[i] := List.getElem?_eq_getElem hi
   have hd : p.es.drop i = p.es[i] :: p.es.drop (i + 1) := List.drop_eq_getElem_cons hi
   generalize p.es[i] = y at hg hd
   have hg' := eds_get hg
   rw [hd, forL] at i3
   have pb := plB y.id p.len
   have hbc := bit_c (plBit y.id p.len)
   simp -dsimp [hiz, hg', Ed.cs]
   try refine ⟨?_, ⟨by kernel_rfl⟩⟩
   and_intros
   all_goals try first | rfl | omega | exact ⟨by kernel_rfl⟩
   refine ACall.of (place10_c y.id p.len) [] 0 ?_
   simp only [placeT]
   generalize plSet y.id p.len = sy at i3 pb
   generalize plBit y.id p.len = by_ at i3 pb hbc
   by_cases c0 : sy = S
   ·rw [if_pos c0] at i3
    simp -dsimp [hiz, hg', Ed.cs, placeT, eq_true c0]
    try refine ⟨?_, ⟨by kernel_rfl⟩⟩
    refine ACall.of (next_c T3 i2 4 ⟨by omega, by omega⟩) [.x 0] 0 ?_
    have n1 := gNext_nonneg T3 4
    have kS : TapeOK (gNext T3 4).2 := by simpa using i2
    generalize gNext T3 4 = m4 at n1 kS i3 ⊢
    obtain ⟨m4, T4⟩ := m4
    simp only at n1 kS i3 ⊢
    by_cases c1 : 0 < m4
    ·rw [if_pos c1] at i3
     simp -dsimp [c1]
     try refine ⟨?_, ⟨by kernel_rfl⟩⟩
     refine ACall.of hbc [] 0 ?_
     simp -dsimp [bv, wrap_i64 (n := (i : Int) + 1) (by omega) (by omega)]
     try refine ⟨?_, ⟨by kernel_rfl⟩⟩
     and_intros
     all_goals try first | rfl | omega | exact ⟨by kernel_rfl⟩
     exact ⟨⟨(i + 1, T4, B ||| bitB by_), by dsimp only; omega, kS, i3⟩, GS.to (by simp), by simp; omega⟩
    ·rw [if_neg c1] at i3
     simp -dsimp [c1, wrap_i64 (n := (i : Int) + 1) (by omega) (by omega)]
     try refine ⟨?_, ⟨by kernel_rfl⟩⟩
     and_intros
     all_goals try first | rfl | omega | exact ⟨by kernel_rfl⟩
     exact ⟨⟨(i + 1, T4, B), by dsimp only; omega, kS, i3⟩, GS.to (by simp), by simp; omega⟩
   ·rw [if_neg c0] at i3
    simp -dsimp [hiz, hg', Ed.cs, placeT, eq_false c0, wrap_i64 (n := (i : Int) + 1) (by omega) (by omega)]
    try refine ⟨?_, ⟨by kernel_rfl⟩⟩
    and_intros
    all_goals try first | rfl | omega | exact ⟨by kernel_rfl⟩
    exact ⟨⟨(i + 1, T3, B), by dsimp only; omega, i2, i3⟩, GS.to (by simp), by simp; omega⟩
  ·have hiz : ¬ (i : Int) < p.es.length := by omega
   have e1 : p.es.drop i = [] := List.drop_eq_nil_of_le (by omega)
   rw [e1, forL] at i3
   subst i3
   simp -dsimp [hiz]
   try refine ⟨?_, ⟨by kernel_rfl⟩⟩
   refine ACall.of (one_c T3 i2 6 ⟨by omega, by omega⟩ ⟨by omega, by omega⟩) [.x 0] 0 ?_
   have kO : TapeOK (gOne T3 6).2 := by simpa using i2
   generalize gOne T3 6 = o at kO ⊢
   obtain ⟨o, T5⟩ := o
   simp only at kO ⊢
   rcases (Bool.eq_false_or_eq_true o).symm with ho | ho
   ·subst ho
    simp -dsimp
    try refine ⟨?_, ⟨by kernel_rfl⟩⟩
    refine Fin.box (.o 4) rfl ?_
    simp -dsimp
    try refine ⟨?_, ⟨by kernel_rfl⟩⟩
    refine Fin.of ?_
    simp [Pk.for, bv]
   ·subst ho
    simp -dsimp
    try refine ⟨?_, ⟨by kernel_rfl⟩⟩
    refine ACall.of (bits_c T5 kO p.len hl) [.x 0] 0 ?_
    generalize gBits T5 p.len = gb
    simp -dsimp [bv]
    try refine ⟨?_, ⟨by kernel_rfl⟩⟩
    refine Fin.box (.o 4) rfl ?_
    simp -dsimp
    try refine ⟨?_, ⟨by kernel_rfl⟩⟩
    refine Fin.of ?_
    simp [Pk.for, bv]
end Go.Proofs

set_option linter.unusedSimpArgs false
set_option maxRecDepth 100000
set_option maxHeartbeats 4000000
namespace Go.Proofs
open Go Go.Tr
def fitsR (l : List Tb) (p : Pk) (r : Int) : Int := (runR l p r).2
theorem fits14_c (l : List Tb) (hl : SmL l) (p : Pk) (r : Int) : Contract Tryz.prog 108 [.d (.sl (tbs l)), pkT p, .d (.int .i64 r)] [] (.d (.int .i64 (fitsR l p r))) [] [] := by
 have hck := checkA11_c l hl
 have hv := valid_c p
 have hf := find11_c l hl r
 simp only [pkT, Pk.cs, List.map] at hv
 refine contract_of Tryz.func108 rfl (fun E0 => ?_)
 refine awp.sound (g := .mk) (ow := []) (kp := (fun k => k==0||k==1||k==2||k==4||k==6||k==7||k==8||k==16||k==24||k==27||k==39)) ?_
 rw [Tryz.ntmps108]
 simp -dsimp [pkT, Pk.cs]
 try refine ⟨?_, ⟨by kernel_rfl⟩⟩
 refine ACall.of hck [] 0 ?_
 by_cases h1 : chkA l = 0
 rotate_left
 ·simp -dsimp [h1]
  try refine ⟨?_, ⟨by kernel_rfl⟩⟩
  refine Fin.of ?_
  simp [fitsR, runR, h1]
 rcases (Bool.eq_false_or_eq_true p.ok).symm with h2 | h2
 ·simp -dsimp [h1]
  try refine ⟨?_, ⟨by kernel_rfl⟩⟩
  refine ACall.of hv [] 0 ?_
  simp -dsimp [h2]
  try refine ⟨?_, ⟨by kernel_rfl⟩⟩
  refine Fin.of ?_
  simp [fitsR, runR, h1, h2]
 simp -dsimp [h1]
 try refine ⟨?_, ⟨by kernel_rfl⟩⟩
 refine ACall.of hv [] 0 ?_
 cases hfd : findT l r with
 | none =>
   rw [hfd] at hf
   simp only [foundT, Option.getD_none, Option.isSome_none, tb0, tblT] at hf
   simp -dsimp [h2]
   try refine ⟨?_, ⟨by kernel_rfl⟩⟩
   refine ACall.of hf [] 0 ?_
   simp -dsimp
   try refine ⟨?_, ⟨by kernel_rfl⟩⟩
   refine Fin.of ?_
   simp [fitsR, runR, h1, h2, hfd]
 | some b =>
   rw [hfd] at hf
   simp only [foundT, Option.getD_some, Option.isSome_some, tblT] at hf
   simp -dsimp [h2]
   try refine ⟨?_, ⟨by kernel_rfl⟩⟩
   refine ACall.of hf [] 0 ?_
   by_cases h3 : p.mode = 2
   ·simp -dsimp [eq_true h3]
    try refine ⟨?_, ⟨by kernel_rfl⟩⟩
    refine Fin.of ?_
    simp [fitsR, runR, h1, h2, hfd, h3]
   by_cases h4 : p.subd = b.sd
   rotate_left
   ·simp -dsimp [h3, h4]
    try refine ⟨?_, ⟨by kernel_rfl⟩⟩
    refine Fin.of ?_
    simp [fitsR, runR, h1, h2, hfd, h3, h4]
   by_cases h5 : p.len = b.len
   rotate_left
   ·simp -dsimp [h3, eq_true h4, h5]
    try refine ⟨?_, ⟨by kernel_rfl⟩⟩
    refine Fin.of ?_
    simp [fitsR, runR, h1, h2, hfd, h3, h4, h5]
   simp -dsimp [h3, eq_true h4, eq_true h5]
   try refine ⟨?_, ⟨by kernel_rfl⟩⟩
   refine Fin.of ?_
   simp [fitsR, runR, h1, h2, hfd, h3, h4, h5]
def rowT3 (t : Trc) : List (Nat × It) := [(900, .row 138 11 (dd (t.dl.map dlC)) false), (901, .row 158 3 (dd (t.cr.map crC)) false), (902, .row 140 2 (dd (t.ls.map lsC)) false)]
def noteR (t : Trc) (r : Int) (p : Pk) (o : Out) : Trc := ⟨t.dl ++ locV r o p, t.cr ++ o.cps.map (fun c => (r, c.1, c.2.bits)), if o.lost = 0#64 then t.ls else t.ls ++ [(r, o.lost)]⟩
theorem note14_c (t : Trc) (h1 : t.dl.length ≤ 1000000) (h2 : t.cr.length ≤ 1000000) (h3 : t.ls.length ≤ 1000000) (r : Int) (p : Pk) (o : Out) (ho : o.cps.length ≤ 64) :
  Contract2 Tryz.prog 110 [.agg [.oref 900 t.dl.length, .oref 901 t.cr.length, .oref 902 t.ls.length], .d (.int .i64 r), pkT p, outT o] [] (rowT3 t) (.agg [.oref 900 (noteR t r p o).dl.length, .oref 901 (noteR t r p o).cr.length, .oref 902 (noteR t r p o).ls.length]) [] (rowT3 (noteR t r p o)) := by
 have hlc := local13_c r o p
 simp only [outT, pkT, Pk.cs, List.map] at hlc
 refine contract2_of Tryz.func110 rfl (fun E0 => ?_)
 refine awp.sound (g := .mk) (ow := []) (kp := (fun k => k==0||k==1||k==2||k==3||k==4||k==6||k==7||k==8||k==9||k==20||k==34)) ?_
 rw [Tryz.ntmps110]
 simp -dsimp [pkT, Pk.cs, outT, rowT3]
 try refine ⟨?_, ⟨by kernel_rfl⟩⟩
 refine ACall.of hlc [] 0 ?_
 have hll : (locV r o p).length ≤ 64 := by unfold locV; rw [List.length_map]; exact bitsI_len _
 have hn0 : noteR t r p o = ⟨t.dl ++ locV r o p, t.cr ++ o.cps.map (fun c => (r, c.1, c.2.bits)), if o.lost = 0#64 then t.ls else t.ls ++ [(r, o.lost)]⟩ := rfl
 rw [hn0]
 clear hn0
 generalize locV r o p = LV at hll ⊢
 have hdl : dLen 11 (LV.map dlC) := dLen_map 11 _ _ fun _ => rfl
 obtain ⟨oloc, olost, ocps⟩ := o
 simp only at ho ⊢
 have hCl : (ocps.map fun c => (r, c.1, c.2.bits)).length = ocps.length := by simp
 have hCg : ∀ (j : Nat) (c : Int × Pk), ocps[j]? = some c → (ocps.map fun c => (r, c.1, c.2.bits))[j]? = some (r, c.1, c.2.bits) := fun j c h => by simp [h]
 generalize (ocps.map fun c => (r, c.1, c.2.bits)) = CRL at hCl hCg ⊢
 by_cases c0 : olost = 0#64
 ·simp -dsimp [c0, bv]
  and_intros
  all_goals try first | omega | exact hdl | exact rfl | exact ⟨by kernel_rfl⟩
  refine ALoop.of [] (fun k => k==0||k==1||k==2||k==3||k==4||k==6||k==7||k==8||k==9||k==20||k==34) (ι := { j : Nat // j ≤ ocps.length })
   (fun j => [(Pl.s 1, It.v (TV.d (D.int IntKind.i64 r))),
    (Pl.o 900, It.row 138 11 (dd (t.dl.map dlC) ++ dd (LV.map dlC)) false), (Pl.o 901, It.row 158 3 (dd (t.cr.map crC) ++ dd (List.take j.1 (CRL.map crC))) false), (Pl.o 902, It.row 140 2 (dd (t.ls.map lsC)) false),
    (Pl.o 4, It.box [TV.oref 900 (t.dl.length + LV.length), TV.oref 901 (t.cr.length + j.1), TV.oref 902 (t.ls.length)]), (Pl.s 4, It.v (TV.ptr (Pl.o 4) 0)),
    (Pl.o 7, It.box [TV.d (D.int IntKind.u64 (tn oloc)), TV.d (D.int IntKind.u64 (tn olost)), TV.d (D.sl (List.map cpC ocps))]), (Pl.s 7, It.v (TV.ptr (Pl.o 7) 0)),
    (Pl.o 8, It.box [TV.c (Value.slice none 0 0), TV.c (Value.slice none 0 0), TV.c (Value.slice none 0 0)]), (Pl.s 8, It.v (TV.ptr (Pl.o 8) 0)), (Pl.s 9, It.v (TV.d (D.int IntKind.i64 j.1)))])
   (fun j => ocps.length - j.1) ⟨0, by omega⟩ ?_ ?_
  ·exact GS.to (by simp [c0])
  ·rintro ⟨j, j1⟩
   by_cases hj : j < ocps.length
   ·have hjz : (j : Int) < ocps.length := by omega
    have hg : ocps[j]? = some ocps[j] := List.getElem?_eq_getElem hj
    have hcg := hCg j _ hg
    generalize ocps[j] = c at hg hcg
    obtain ⟨c1, c2⟩ := c
    have hn1 : dd (List.take (j + 1) (CRL.map crC)) = dd (List.take j (CRL.map crC)) ++ [[TV.d (.int .i64 r), TV.d (.int .i64 c1), TV.d (bv c2.bits)]] := by
     rw [List.take_add_one, List.getElem?_map, hcg]; simp [dd, crC]
    have hm1 : min j CRL.length = j := by omega
    simp -dsimp [hg, hjz, cpC, Pk.cs, bv, hm1, wrap_i64 (n := (j : Int) + 1) (by omega) (by omega)]
    and_intros
    all_goals try first | omega | exact ⟨by kernel_rfl⟩
    exact ⟨⟨j + 1, by omega⟩, GS.to (by simp [hn1, bv, Nat.add_assoc]), by simp; omega⟩
   ·have hjz : ¬ (j : Int) < ocps.length := by omega
    obtain rfl : j = ocps.length := by omega
    have ht1 : List.take ocps.length (CRL.map crC) = CRL.map crC := List.take_of_length_le (by simp; omega)
    simp -dsimp [hjz]
    try refine ⟨?_, ⟨by kernel_rfl⟩⟩
    refine Fin.of ?_
    simp [ht1, c0, hCl, lsC, bv, rowT3]
 ·simp -dsimp [c0, bv]
  and_intros
  all_goals try first | omega | exact hdl | exact rfl | exact ⟨by kernel_rfl⟩
  refine ALoop.of [] (fun k => k==0||k==1||k==2||k==3||k==4||k==6||k==7||k==8||k==9||k==20||k==34) (ι := { j : Nat // j ≤ ocps.length })
   (fun j => [(Pl.s 1, It.v (TV.d (D.int IntKind.i64 r))),
    (Pl.o 900, It.row 138 11 (dd (t.dl.map dlC) ++ dd (LV.map dlC)) false), (Pl.o 901, It.row 158 3 (dd (t.cr.map crC) ++ dd (List.take j.1 (CRL.map crC))) false), (Pl.o 902, It.row 140 2 (dd (t.ls.map lsC) ++ [[TV.d (.int .i64 r), TV.d (.int .u64 (tn olost))]]) false),
    (Pl.o 4, It.box [TV.oref 900 (t.dl.length + LV.length), TV.oref 901 (t.cr.length + j.1), TV.oref 902 (t.ls.length + 1)]), (Pl.s 4, It.v (TV.ptr (Pl.o 4) 0)),
    (Pl.o 7, It.box [TV.d (D.int IntKind.u64 (tn oloc)), TV.d (D.int IntKind.u64 (tn olost)), TV.d (D.sl (List.map cpC ocps))]), (Pl.s 7, It.v (TV.ptr (Pl.o 7) 0)),
    (Pl.o 8, It.box [TV.c (Value.slice none 0 0), TV.c (Value.slice none 0 0), TV.c (Value.slice none 0 0)]), (Pl.s 8, It.v (TV.ptr (Pl.o 8) 0)), (Pl.s 9, It.v (TV.d (D.int IntKind.i64 j.1)))])
   (fun j => ocps.length - j.1) ⟨0, by omega⟩ ?_ ?_
  ·exact GS.to (by simp [c0])
  ·rintro ⟨j, j1⟩
   by_cases hj : j < ocps.length
   ·have hjz : (j : Int) < ocps.length := by omega
    have hg : ocps[j]? = some ocps[j] := List.getElem?_eq_getElem hj
    have hcg := hCg j _ hg
    generalize ocps[j] = c at hg hcg
    obtain ⟨c1, c2⟩ := c
    have hn1 : dd (List.take (j + 1) (CRL.map crC)) = dd (List.take j (CRL.map crC)) ++ [[TV.d (.int .i64 r), TV.d (.int .i64 c1), TV.d (bv c2.bits)]] := by
     rw [List.take_add_one, List.getElem?_map, hcg]; simp [dd, crC]
    have hm1 : min j CRL.length = j := by omega
    simp -dsimp [hg, hjz, cpC, Pk.cs, bv, hm1, wrap_i64 (n := (j : Int) + 1) (by omega) (by omega)]
    and_intros
    all_goals try first | omega | exact ⟨by kernel_rfl⟩
    exact ⟨⟨j + 1, by omega⟩, GS.to (by simp [hn1, bv, Nat.add_assoc]), by simp; omega⟩
   ·have hjz : ¬ (j : Int) < ocps.length := by omega
    obtain rfl : j = ocps.length := by omega
    have ht1 : List.take ocps.length (CRL.map crC) = CRL.map crC := List.take_of_length_le (by simp; omega)
    simp -dsimp [hjz]
    try refine ⟨?_, ⟨by kernel_rfl⟩⟩
    refine Fin.of ?_
    simp [ht1, c0, hCl, lsC, bv, rowT3]
end Go.Proofs

set_option linter.unusedSimpArgs false
set_option maxRecDepth 100000
set_option maxHeartbeats 8000000
namespace Go.Proofs
open Go Go.Tr
theorem noteR_step {l : List Tb} {q : Int × Pk} {b : Tb} (hf : findT l q.1 = some b) (t : Trc) : stepT l q t = noteR t q.1 q.2 (fwdR b q.2).1 := by
 simp [stepT, hf, noteR]
theorem noteR_none {l : List Tb} {q : Int × Pk} (hf : findT l q.1 = none) (hq : q.2.bits ≠ 0#64) (t : Trc) : stepT l q t = noteR t q.1 q.2 ⟨0#64, q.2.bits, []⟩ := by
 simp [stepT, hf, noteR, hq, locV, bitsI_zero]
theorem fits_fit {l : List Tb} {p : Pk} {r : Int} (h : fitsR l p r = 0) : FitL l p ∧ (findT l r).isSome ∧ runR l p r = (runG l (wt p) [(r, p)] tr0, 0) := by
 unfold fitsR runR at h
 unfold runR
 split at h
 ·simp at h
 rename_i h0
 rw [if_neg h0]
 have h1 : chkA l = 0 := Classical.byContradiction fun a => h0 (.inl a)
 have h2 : p.ok = true := by
  cases hp : p.ok with
  | true => rfl
  | false => exact absurd (.inr hp) h0
 cases hf : findT l r with
 | none => rw [hf] at h; simp at h
 | some b =>
   rw [hf] at h
   simp only at h ⊢
   split at h
   ·simp at h
   rename_i h3
   rw [if_neg h3]
   split at h
   ·simp at h
   rename_i h4
   rw [if_neg h4]
   have e1 : p.subd = b.sd := Classical.byContradiction fun a => h4 (.inl a)
   have e2 : p.len = b.len := Classical.byContradiction fun a => h4 (.inr a)
   have hall := firstE_zero (l := _) (by simp) h1
   simp only [List.mem_cons, List.not_mem_nil, or_false, forall_eq_or_imp, forall_eq] at hall
   have hd : ∀ c ∈ l, c.sd = (l.headD tb0).sd ∧ c.len = (l.headD tb0).len := fun c hc => by
    have := List.any_eq_false.1 hall.2.2.2 c hc
    simpa using this
   have hb := hd b (findT_mem hf).1
   refine ⟨⟨h2, fun c hc => ⟨chkA_all h1 c hc, ?_, ?_, h2, h3⟩⟩, rfl, rfl⟩
   ·rw [(hd c hc).1, ← hb.1, e1]
   ·rw [(hd c hc).2, ← hb.2, e2]
theorem fits_not {l : List Tb} {p : Pk} {r : Int} (h : fitsR l p r ≠ 0) : runR l p r = (tr0, fitsR l p r) := by
 unfold fitsR runR at h ⊢
 split
 ·rfl
 rename_i h0
 rw [if_neg h0] at h
 cases hf : findT l r with
 | none => rfl
 | some b =>
   rw [hf] at h
   simp only at h ⊢
   split
   ·rfl
   rename_i h3
   rw [if_neg h3] at h
   split
   ·rfl
   rename_i h4
   rw [if_neg h4] at h
   simp at h
theorem run14_c (l : List Tb) (hl : SmL l) (p : Pk) (r : Int) : Contract Tryz.prog 56 [.d (.sl (tbs l)), pkT p, .d (.int .i64 r)] [] (.tup [trcT (runR l p r).1, .d (.int .i64 (runR l p r).2)]) [] [] := by
 have hfi := fits14_c l hl p r
 simp only [pkT, Pk.cs, List.map] at hfi
 refine contract_of Tryz.func56 rfl (fun E0 => ?_)
 refine awp.sound (g := .mk) (ow := [29, 1000110]) (kp := (fun k => k==0||k==1||k==2||k==4||k==6||k==7||k==8||k==9||k==10||k==11||k==12||k==13||k==14||k==15||k==16||k==22||k==33||k==56)) ?_
 rw [Tryz.ntmps56]
 simp -dsimp [pkT, Pk.cs]
 try refine ⟨?_, ⟨by kernel_rfl⟩⟩
 refine ACall.of hfi [] 0 ?_
 by_cases h1 : fitsR l p r = 0
 rotate_left
 ·simp -dsimp [h1]
  try refine ⟨?_, ⟨by kernel_rfl⟩⟩
  refine Fin.box (.o 6) rfl ?_
  simp -dsimp
  refine Fin.of ?_
  simp [fits_not h1, trcT, tr0]
 simp -dsimp [h1]
 try refine ⟨?_, ⟨by kernel_rfl⟩⟩
 obtain ⟨hF, hfr, hr⟩ := fits_fit h1
 have hwt := wt_le hF.ok
 rw [hr]
 have hsum1 : wsum [(r, p)] = wt p := by simp [wsum]
 refine ALoop.of [29, 1000110] (fun k => k==0||k==1||k==2||k==4||k==6||k==7||k==8||k==9||k==10||k==11||k==12||k==13||k==14||k==15||k==16||k==22||k==33||k==56) (ι := { z : Nat × Nat × List (Int × Pk) × Trc // runG l (wt p) [(r, p)] tr0 = runG l z.1 (z.2.2.1.drop z.2.1) z.2.2.2 ∧ wsum (z.2.2.1.drop z.2.1) ≤ z.1 ∧ z.2.1 + z.1 ≤ 8129 ∧ z.2.1 ≤ z.2.2.1.length ∧ (∀ q ∈ z.2.2.1.drop z.2.1, FitL l q.2 ∧ (findT l q.1 = none → q.2.bits ≠ 0#64)) ∧ z.2.2.2.dl.length + 64 * z.1 ≤ 600000 ∧ z.2.2.2.cr.length + 64 * z.1 ≤ 600000 ∧ z.2.2.2.ls.length + z.1 ≤ 600000 })
  (fun z => [(Pl.s 0, It.v (TV.d (D.sl (tbs l)))), (Pl.o 6, It.box [TV.c (Value.slice none 0 0), TV.c (Value.slice none 0 0), TV.c (Value.slice none 0 0)]), (Pl.s 6, It.v (TV.ptr (Pl.o 6) 0)), (Pl.s 7, It.v (TV.d (D.int IntKind.i64 0))),
   (Pl.o 10, It.box [TV.oref 70 z.1.2.2.2.dl.length, TV.oref 71 z.1.2.2.2.cr.length, TV.oref 72 z.1.2.2.2.ls.length]), (Pl.s 10, It.v (TV.ptr (Pl.o 10) 0)),
   (Pl.o 70, It.row 138 11 (dd (z.1.2.2.2.dl.map dlC)) false), (Pl.o 71, It.row 158 3 (dd (z.1.2.2.2.cr.map crC)) false), (Pl.o 72, It.row 140 2 (dd (z.1.2.2.2.ls.map lsC)) false),
   (Pl.o 29, It.row 167 12 (dd (z.1.2.2.1.map cpC)) false), (Pl.s 9, It.v (TV.oref 29 z.1.2.2.1.length)), (Pl.s 11, It.v (TV.d (D.int IntKind.i64 z.1.2.1)))])
  (fun z => z.1.1) ⟨(wt p, 0, [(r, p)], tr0), rfl, by simp only [List.drop_zero, hsum1]; omega, by simp only; omega, by simp, by intro q hq; simp at hq; subst hq; exact ⟨hF, fun e => by simp [e] at hfr⟩, by simp [tr0]; omega, by simp [tr0]; omega, by simp [tr0]; omega⟩ ?_ ?_
 ·refine (GS.ownBp (.o 10) 0 70 (cs := [.c (.slice none 0 0), .c (.slice none 0 0), .c (.slice none 0 0)]) 138 11 (by simp) (by simp) (by simp) (by simp)).trans ?_
  simp only [put1, Pl.o.injEq, reduceCtorEq, if_false, if_true, Nat.reduceEqDiff, List.set]
  refine (GS.ownBp (.o 10) 1 71 (cs := [.oref 70 0, .c (.slice none 0 0), .c (.slice none 0 0)]) 158 3 (by simp) (by simp) (by simp) (by simp)).trans ?_
  simp only [put1, Pl.o.injEq, reduceCtorEq, if_false, if_true, Nat.reduceEqDiff, List.set]
  exact GS.ownB' (.o 10) 2 72 (cs := [.oref 70 0, .oref 71 0, .c (.slice none 0 0)]) 140 2 (by simp) (by simp) (by simp) (by simp) (by simp [tr0, cpC, Pk.cs])
 ·rintro ⟨⟨n, i, Q, t⟩, i1, i2, i3, i4, i5, i6, i7, i8⟩
  simp only at i1 i2 i3 i4 i5 i6 i7 i8
  by_cases hi : i < Q.length
  ·have hiz : (i : Int) < Q.length := by omega
   have hg : Q[i]? = some Q[i] := List.getElem?_eq_getElem hi
   have hd : Q.drop i = Q[i] :: Q.drop (i + 1) := List.drop_eq_getElem_cons hi
   generalize Q[i] = q at hg hd
   obtain ⟨q1, q2⟩ := q
   rw [hd] at i1 i2 i5
   rw [wsum_cons] at i2
   have hq := nextQ_wt l (q1, q2)
   have hQl := len_wsum (Q.drop (i + 1))
   rw [List.length_drop] at hQl
   have hw1 : 1 ≤ wt q2 := by unfold wt; omega
   simp only at i2 hq
   obtain ⟨n, rfl⟩ : ∃ j, n = j + 1 := ⟨n - 1, by omega⟩
   rw [runG] at i1
   have hFq := (i5 (q1, q2) (by simp)).1
   have hFb := (i5 (q1, q2) (by simp)).2
   have hfq := find11_c l hl q1
   have hgr : (dd (Q.map cpC))[i]? = some (TV.d (.int .i64 q1) :: TV.d (.sl []) :: q2.cs.map .d) := by simp [dd, hg, cpC]
   simp -dsimp [hiz, hgr, Pk.cs]
   and_intros
   all_goals try first | omega | exact ⟨by kernel_rfl⟩
   have step : ∀ (o : Out) (Q' : List (Int × Pk)) (i' : Int), GS { E0 := E0, N := 70 }
     (Tr.look [(Pl.s 0, It.v (TV.d (D.sl (tbs l)))), (Pl.o 6, It.box [TV.c (Value.slice none 0 0), TV.c (Value.slice none 0 0), TV.c (Value.slice none 0 0)]), (Pl.s 6, It.v (TV.ptr (Pl.o 6) 0)), (Pl.s 7, It.v (TV.d (D.int IntKind.i64 0))),
      (Pl.o 10, It.box [TV.oref 1900 (noteR t q1 q2 o).dl.length, TV.oref 1901 (noteR t q1 q2 o).cr.length, TV.oref 1902 (noteR t q1 q2 o).ls.length]), (Pl.s 10, It.v (TV.ptr (Pl.o 10) 0)),
      (Pl.o 1900, It.row 138 11 (dd ((noteR t q1 q2 o).dl.map dlC)) false), (Pl.o 1901, It.row 158 3 (dd ((noteR t q1 q2 o).cr.map crC)) false), (Pl.o 1902, It.row 140 2 (dd ((noteR t q1 q2 o).ls.map lsC)) false),
      (Pl.o 29, It.row 167 12 (dd (Q'.map cpC)) false), (Pl.s 9, It.v (TV.oref 29 Q'.length)), (Pl.s 11, It.v (TV.d (D.int IntKind.i64 i')))])
     (Tr.look [(Pl.s 0, It.v (TV.d (D.sl (tbs l)))), (Pl.o 6, It.box [TV.c (Value.slice none 0 0), TV.c (Value.slice none 0 0), TV.c (Value.slice none 0 0)]), (Pl.s 6, It.v (TV.ptr (Pl.o 6) 0)), (Pl.s 7, It.v (TV.d (D.int IntKind.i64 0))),
      (Pl.o 10, It.box [TV.oref 70 (noteR t q1 q2 o).dl.length, TV.oref 71 (noteR t q1 q2 o).cr.length, TV.oref 72 (noteR t q1 q2 o).ls.length]), (Pl.s 10, It.v (TV.ptr (Pl.o 10) 0)),
      (Pl.o 70, It.row 138 11 (dd ((noteR t q1 q2 o).dl.map dlC)) false), (Pl.o 71, It.row 158 3 (dd ((noteR t q1 q2 o).cr.map crC)) false), (Pl.o 72, It.row 140 2 (dd ((noteR t q1 q2 o).ls.map lsC)) false),
      (Pl.o 29, It.row 167 12 (dd (Q'.map cpC)) false), (Pl.s 9, It.v (TV.oref 29 Q'.length)), (Pl.s 11, It.v (TV.d (D.int IntKind.i64 i')))]) := fun o Q' i' => by
    refine GS.trans (GS.ren (a := 1900) (b := 70) (by decide) (by rw [Tr.look_o]; simp)) ?_
    rw [renS_look (by decide) (by simp)]
    refine GS.trans (GS.ren (a := 1901) (b := 71) (by decide) (by rw [Tr.look_o]; simp)) ?_
    rw [renS_look (by decide) (by simp)]
    exact GS.ren' 1902 72 (by decide) (by simp) (by simp)
   have rest : ∀ o : Out, o.cps.length ≤ 64 → runG l (wt p) [(r, p)] tr0 = runG l n (Q.drop (i + 1) ++ o.cps) (noteR t q1 q2 o) → wsum o.cps + 1 ≤ wt q2 → (∀ c ∈ o.cps, FitL l c.2 ∧ (findT l c.1 = none → c.2.bits ≠ 0#64)) →
     ∃ j : { z : Nat × Nat × List (Int × Pk) × Trc // runG l (wt p) [(r, p)] tr0 = runG l z.1 (z.2.2.1.drop z.2.1) z.2.2.2 ∧ wsum (z.2.2.1.drop z.2.1) ≤ z.1 ∧ z.2.1 + z.1 ≤ 8129 ∧ z.2.1 ≤ z.2.2.1.length ∧ (∀ q ∈ z.2.2.1.drop z.2.1, FitL l q.2 ∧ (findT l q.1 = none → q.2.bits ≠ 0#64)) ∧ z.2.2.2.dl.length + 64 * z.1 ≤ 600000 ∧ z.2.2.2.cr.length + 64 * z.1 ≤ 600000 ∧ z.2.2.2.ls.length + z.1 ≤ 600000 }, j.1 = (n, i + 1, Q ++ o.cps, noteR t q1 q2 o) := fun o ho e1 e2 e3 => by
    have hdrop : (Q ++ o.cps).drop (i + 1) = Q.drop (i + 1) ++ o.cps := List.drop_append_of_le_length (by omega)
    have hlv : (locV q1 o q2).length ≤ 64 := by unfold locV; rw [List.length_map]; exact bitsI_len _
    refine ⟨⟨(n, i + 1, Q ++ o.cps, noteR t q1 q2 o), by simp only [hdrop]; exact e1, by simp only [hdrop, wsum_app]; omega, by simp only; omega, by simp only [List.length_append]; omega, ?_, ?_, ?_, ?_⟩, rfl⟩
    ·intro q hq
     simp only [hdrop] at hq
     rcases List.mem_append.1 hq with hq | hq
     ·exact i5 q (by simp [hq])
     ·exact e3 q hq
    ·simp only [noteR, List.length_append]; omega
    ·simp only [noteR, List.length_append, List.length_map]; omega
    ·simp only [noteR]; split <;> (try simp only [List.length_append, List.length_cons, List.length_nil]) <;> omega
   cases hfd : findT l q1 with
   | none =>
     have eN : nextQ l (q1, q2) = [] := by simp [nextQ, hfd]
     have eS := noteR_none (q := (q1, q2)) hfd (hFb hfd) t
     rw [eN, eS] at i1
     obtain ⟨jj, hjj⟩ := rest ⟨0#64, q2.bits, []⟩ (by simp) i1 (by simp [wsum]; omega) (by simp)
     rw [hfd] at hfq
     simp only [foundT, Option.getD_none, Option.isSome_none, tb0, tblT] at hfq
     have hnt := note14_c t (by omega) (by omega) (by omega) q1 q2 ⟨0#64, q2.bits, []⟩ (by simp)
     simp only [pkT, Pk.cs, List.map, outT, rowT3] at hnt
     refine ACall.of hfq [] 0 ?_
     simp -dsimp [hiz]
     try refine ⟨?_, ⟨by kernel_rfl⟩⟩
     refine ACall.view [63] ?_
     simp -dsimp
     try refine ⟨?_, ⟨by kernel_rfl⟩⟩
     refine ACall.of2 hnt [] [(900, 70), (901, 71), (902, 72)] 1000 ?_
     simp -dsimp [bv, wrap_i64 (n := (i : Int) + 1) (by omega) (by omega)]
     and_intros
     all_goals try first | omega | exact ⟨by kernel_rfl⟩
     refine ⟨jj, ?_, by rw [hjj]; simp⟩
     rw [hjj]
     refine (GS.to ?_).trans (step ⟨0#64, q2.bits, []⟩ (Q ++ []) ((i : Int) + 1))
     simp [bv, Pk.cs]
   | some b2 =>
     have hb2 : b2.Sm := hl.t b2 (List.mem_of_find?_eq_some hfd)
     have hB2 := hFq.all b2 (findT_mem hfd).1
     obtain ⟨hV1, hV2⟩ := fwd_spec hB2
     have eN : nextQ l (q1, q2) = (fwdV b2 q2).cps := by simp [nextQ, hfd, hV1]
     have eS := noteR_step (q := (q1, q2)) hfd t
     have hnf := next_fit (q := (q1, q2)) hFq
     have hRI := (RunI.step (l := l) (q := (q1, q2)) (Q := []) (t := tr0) ⟨fun c hc => by simp at hc; subst hc; exact ⟨hFq, hFb⟩, by simp [tr0], by simp [tr0], by simp [tr0]⟩).fit
     rw [List.nil_append] at hRI
     rw [eN] at i1 hq hRI
     rw [eS, hV1] at i1
     have hcl := fwdR_len b2 q2
     rw [hV1] at hcl
     simp only at hcl i1
     have hdo := do13_c b2 hb2 q2 hB2.ck hFq.ok hB2.len
     rw [hfd] at hfq
     simp only [foundT, Option.getD_some, Option.isSome_some, tblT] at hfq
     clear hV1 hV2 eN eS hnf
     generalize fwdV b2 q2 = o at i1 hq hRI hcl hdo
     obtain ⟨jj, hjj⟩ := rest o hcl i1 hq hRI
     have hnt := note14_c t (by omega) (by omega) (by omega) q1 q2 o hcl
     simp only [pkT, Pk.cs, List.map, outT, rowT3, tblT] at hnt hdo
     have hdl : dLen 12 (o.cps.map cpC) := dLen_map 12 _ _ fun _ => rfl
     refine ACall.of hfq [] 0 ?_
     simp -dsimp [hiz]
     try refine ⟨?_, ⟨by kernel_rfl⟩⟩
     refine ACall.of hdo [] 0 ?_
     simp -dsimp
     try refine ⟨?_, ⟨by kernel_rfl⟩⟩
     refine ACall.of2 hnt [] [(900, 70), (901, 71), (902, 72)] 1000 ?_
     simp -dsimp [bv, wrap_i64 (n := (i : Int) + 1) (by omega) (by omega)]
     and_intros
     all_goals try first | omega | exact hdl | exact ⟨by kernel_rfl⟩
     refine ⟨jj, ?_, by rw [hjj]; simp⟩
     rw [hjj]
     refine (GS.to ?_).trans (step o (Q ++ o.cps) ((i : Int) + 1))
     simp [bv, Pk.cs]
  ·have hiz : ¬ (i : Int) < Q.length := by omega
   have e0 : Q.drop i = [] := List.drop_eq_nil_of_le (by omega)
   rw [e0, runG_nil] at i1
   simp -dsimp [hiz]
   try refine ⟨?_, ⟨by kernel_rfl⟩⟩
   refine Fin.box (.o 6) rfl ?_
   simp -dsimp
   refine Fin.of ?_
   simp [trcT, i1]
end Go.Proofs

set_option linter.unusedSimpArgs false
set_option maxRecDepth 100000
set_option maxHeartbeats 4000000
namespace Go.Proofs
open Go Go.Tr
theorem router0_c (T : Tp) (hT : TapeOK T) (rs : List Rt) (ls : List Lk) (hr : 1 ≤ rs.length ∧ rs.length ≤ 1000) : Contract Tryz.prog 41 [.ptr (.x 0) 0, .agg [.d (.sl (rts rs)), .d (.sl (lks ls))], .d (.int .i64 0)] [tapeI T] (.d (.int .i64 (rs.getD (gNext T rs.length).1.toNat ⟨0, false⟩).id)) [tapeI (gNext T rs.length).2] [] := by
 have hr0 : ¬ rs.length = 0 := by omega
 have hrn : ¬ rs = [] := fun h => by simp [h] at hr0
 refine contract_of Tryz.func41 rfl (fun E0 => ?_)
 refine awp.sound (g := .mk) (ow := []) (kp := (fun k => k==0||k==1||k==2||k==4||k==6||k==19)) ?_
 rw [Tryz.ntmps41]
 simp -dsimp [hrn]
 try refine ⟨?_, ⟨by kernel_rfl⟩⟩
 refine ACall.of (next_c T hT rs.length ⟨by omega, by omega⟩) [.x 0] 0 ?_
 have m1 := gNext_nonneg T rs.length
 have m2 := gNext_lt T (n := rs.length) (by omega)
 generalize gNext T rs.length = q at m1 m2 ⊢
 obtain ⟨k, hk⟩ : ∃ k : Nat, q.1 = k := ⟨q.1.toNat, by omega⟩
 have hkl : k < rs.length := by omega
 have hx : rs[k]? = some rs[k] := List.getElem?_eq_getElem hkl
 generalize rs[k] = x at hx
 have hx' := rts_get hx
 rw [hk]
 simp -dsimp [hx', Rt.cs]
 and_intros
 all_goals try first | rfl | omega | exact ⟨by kernel_rfl⟩
 refine Fin.of ?_
 simp [hx]
end Go.Proofs

set_option linter.unusedSimpArgs false
set_option maxRecDepth 100000
set_option maxHeartbeats 4000000
namespace Go.Proofs
open Go Go.Tr
end Go.Proofs

set_option linter.unusedSimpArgs false
set_option maxRecDepth 100000
set_option maxHeartbeats 4000000
namespace Go.Proofs
open Go Go.Tr
@[simp] theorem isObj_tape (T : Tp) : isObj (tapeI T) = true := rfl
theorem tape_new (L : List Int) (h : ∀ x ∈ L, I64 x) : TapeOK (L.take 600, 0) := ⟨by simp; omega, fun x hx => h x (List.mem_of_mem_take hx)⟩
theorem gDom_ok (T : Tp) {most : Int} (hm : 1 ≤ most ∧ most ≤ 24) : (gDom T most).2.2.1.length ≤ 24 ∧ (∀ b ∈ (gDom T most).2.2.1, chk b = 0) ∧ TapeOK (gDom T most).2.2.2 = TapeOK T ∧ (gDom T most).2.1.es.length ≤ 24 ∧ 1 ≤ (gDom T most).1.rs.length ∧ (gDom T most).1.rs.length ≤ 24 := by
 have hs := gTop_small T hm
 obtain ⟨h1, h2⟩ := gPlan_zero (gTop T most).2 (gTop T most).1.rs
 refine ⟨all11_len _ _, all11_ok _ _, h1.trans (by simp), Nat.le_trans h2 hs.1, ?_, hs.1⟩
 have b1 := gRange_lo T 1 most
 simp [gDom, gTop, gRts]
 omega
theorem locV_len (r : Int) (o : Out) (p : Pk) : (locV r o p).length ≤ 64 := by unfold locV; rw [List.length_map]; exact bitsI_len _
theorem stepT_len (l : List Tb) (q : Int × Pk) (t : Trc) : (stepT l q t).dl.length ≤ t.dl.length + 64 ∧ (stepT l q t).cr.length ≤ t.cr.length + 64 ∧ (stepT l q t).ls.length ≤ t.ls.length + 64 := by
 unfold stepT
 split
 ·simp
 ·rename_i b _
  have h1 := locV_len q.1 (fwdR b q.2).1 q.2
  have h2 := fwdR_len b q.2
  refine ⟨by simp only [List.length_append]; omega, by simp only [List.length_append, List.length_map]; omega, ?_⟩
  simp only
  split
  ·omega
  ·simp
theorem runG_len (l : List Tb) : ∀ (n : Nat) (Q : List (Int × Pk)) (t : Trc), (runG l n Q t).dl.length ≤ t.dl.length + 64 * n ∧ (runG l n Q t).cr.length ≤ t.cr.length + 64 * n ∧ (runG l n Q t).ls.length ≤ t.ls.length + 64 * n
 | 0, Q, t => by simp [runG]
 | n + 1, [], t => by rw [runG_nil]; omega
 | n + 1, q :: Q, t => by
   have h1 := runG_len l n (Q ++ nextQ l q) (stepT l q t)
   have h2 := stepT_len l q t
   rw [runG]; omega
theorem run_small (l : List Tb) (p : Pk) (r : Int) : (runR l p r).1.dl.length ≤ 1000000 ∧ (runR l p r).1.cr.length ≤ 1000000 ∧ (runR l p r).1.ls.length ≤ 1000000 := by
 by_cases h : fitsR l p r = 0
 ·obtain ⟨h1, _, h2⟩ := fits_fit h
  rw [h2]
  have h3 := runG_len l (wt p) [(r, p)] tr0
  have h4 := wt_le h1.ok
  simp only [tr0, List.length_nil] at h3 ⊢
  omega
 ·rw [fits_not h]; simp [tr0]
theorem rangeS_c (T : Tp) (hT : TapeOK T) (a b : Int) (h : -1000 ≤ a ∧ a ≤ b ∧ b ≤ 1000) : Contract Tryz.prog 42 [.ptr (.x 0) 0, .d (.int .i64 a), .d (.int .i64 b)] [tapeI T] (.d (.int .i64 (gRange T a b).1)) [tapeI (gRange T a b).2] [] := by
 have h1 := gRange_lo T a b
 have h2 := gRange_hi T (a := a) (b := b) (by omega)
 exact range_c T hT a b ⟨by omega, by omega⟩ ⟨by omega, by omega⟩ ⟨by omega, by omega⟩ ⟨by omega, by omega⟩
theorem gRouter_ok (T : Tp) (rs : List Rt) (n : Int) : TapeOK (gRouter T rs n).2 = TapeOK T := by
 unfold gRouter
 simp only
 split <;> simp
end Go.Proofs
