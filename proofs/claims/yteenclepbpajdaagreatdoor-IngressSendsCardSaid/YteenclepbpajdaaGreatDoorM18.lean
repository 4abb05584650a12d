/-
  What functions of the program compute, stated as contracts over plain data; the conditions of each stand in its own statement.
-/
import Derived.Test.YteenclepbpajdaaGreatDoorM17
set_option linter.unusedSimpArgs false
set_option maxRecDepth 100000
set_option maxHeartbeats 2000000
namespace Go.Proofs
open Go Go.Tr
theorem known_any (p : Pn) (id : Int) : (p.es.any fun y => decide (y.id = id)) = knownB p id := by
 rw [Bool.eq_iff_iff]
 simp [knownB, List.find?_isSome]
theorem shl_bit {k : Int} (h : 0 ≤ k ∧ k < 64) : (1#64 <<< k.toNat) = bitB k := by
 rw [bitB, if_neg (by omega)]
 have : IntKind.u64.wrap k = k := by rw [wrap_emod]; omega
 rw [this]
theorem sets_c (p : Pn) (hp : p.es.length ≤ 1000) (ids : List Int) (hi : ids.length ≤ 100000) : Contract Tryz.prog 100 [planT p, .d (ints ids)] [] (setsT (setsR p ids)) [] [] := by
 refine contract_of Tryz.func100 rfl (fun E0 => ?_)
 refine awp.sound (g := .mk) (ow := []) (kp := (fun k => k==0||k==1||k==2||k==4||k==5||k==6||k==7||k==9||k==10||k==11||k==13||k==16||k==18||k==19||k==20||k==35||k==39||k==40||k==41||k==42||k==43||k==67)) ?_
 rw [Tryz.ntmps100]
 simp -dsimp [planT]
 refine ACall.of (validPlan_c p hp) [] 0 ?_
 rcases (Bool.eq_false_or_eq_true (planB p)).symm with a1 | a1
 ·simp -dsimp [a1, planT]
  refine Fin.view 4 ?_
  simp -dsimp
  refine Fin.of ?_
  simp [setsT, setsR, a1, sbs]
 ·simp -dsimp [a1, planT, ints]
  refine ALoop.of [] (fun k => k==0||k==1||k==2||k==4||k==5||k==6||k==7||k==9||k==10||k==11||k==13||k==16||k==18||k==19||k==20||k==35||k==39||k==40||k==41||k==42||k==43||k==67) (ι := { i : Nat // i ≤ ids.length ∧ ∀ a, 0 < a → a < i → ids.getD (a - 1) 0 < ids.getD a 0 })
   (fun z => [(Pl.s 0, It.v (TV.agg [TV.d (D.int IntKind.i64 p.subd), TV.d (D.int IntKind.i64 p.len), TV.d (D.sl (eds p.es))])), (Pl.s 1, It.v (TV.d (ints ids))),
    (Pl.o 2, It.box [TV.d (D.int IntKind.i64 p.subd), TV.d (D.int IntKind.i64 p.len), TV.d (D.sl (eds p.es))]),
    (Pl.s 2, It.v (TV.ptr (Pl.o 2) 0)), (Pl.s 4, It.v (TV.c (Value.slice none 0 0))), (Pl.s 5, It.v (TV.d (D.int IntKind.i64 0))), (Pl.s 18, It.v (TV.d (D.int IntKind.i64 ids.length))), (Pl.s 19, It.v (TV.d (D.int IntKind.i64 z.1)))])
   (fun z => ids.length - z.1) ⟨0, by omega, fun a h => by omega⟩ ?_ ?_
  ·exact GS.to (by simp [ints])
  ·rintro ⟨i, i1, i2⟩
   by_cases hi : i < ids.length
   ·by_cases h0 : 0 < i
    ·have hi1 : i - 1 < ids.length := by omega
     have g1 : ids.getD i 0 = ids[i] := by simp [List.getD, hi]
     have g2 : ids.getD (i - 1) 0 = ids[i - 1] := by simp [List.getD, hi1]
     have b5 : (1 : Int) ≤ i := by omega
     have b6 : (i : Int) - 1 < ids.length := by omega
     by_cases h : ids[i] ≤ ids[i - 1]
     ·simp -dsimp [ints, hi, hi1, h0, b5, b6, h, wrap_i64 (n := (i : Int) - 1) (by omega) (by omega), wrap_i64 (n := (i : Int) + 1) (by omega) (by omega)]
      refine ⟨?_, ⟨by kernel_rfl⟩⟩
      refine Fin.view 4 ?_
      simp -dsimp
      refine Fin.of ?_
      have hasc : ascB ids = false := by
       simp only [ascB, decide_eq_false_iff_not]
       exact fun hc => by have := hc i (by omega) hi; rw [g1, g2] at this; omega
      simp [setsT, setsR, a1, hasc, sbs]
     ·simp -dsimp [ints, hi, hi1, h0, b5, b6, h, wrap_i64 (n := (i : Int) - 1) (by omega) (by omega), wrap_i64 (n := (i : Int) + 1) (by omega) (by omega)]
      refine ⟨?_, ⟨by kernel_rfl⟩⟩
      exact ⟨⟨i + 1, by omega, fun a h0 ha => by
       by_cases e : a = i
       ·subst e; rw [g1, g2]; omega
       ·exact i2 a h0 (by omega)⟩, GS.to (by simp [ints]), by simp; omega⟩
    ·obtain rfl : i = 0 := by omega
     simp -dsimp [ints, hi, wrap_i64 (n := 1) (by omega) (by omega)]
     try refine ⟨?_, ⟨by kernel_rfl⟩⟩
     exact ⟨⟨1, by omega, fun a h0 ha => by omega⟩, GS.to (by simp [ints]), by simp; omega⟩
   ·have hasc : ascB ids = true := by
     simp only [ascB, decide_eq_true_eq]
     exact fun a h0 ha => i2 a h0 (by omega)
    simp -dsimp [ints, hi]
    refine ACall.of (contains_i_c ids (by omega) 144 [.int .i64 p.subd, .int .i64 p.len, .sl (eds p.es)] (fun id => !(p.es.any fun y => decide (y.id = id))) (sets1_c p hp) (by simp)) [.o 2] 0 ?_
    rcases (Bool.eq_false_or_eq_true (ids.any (fun id => !(p.es.any fun y => decide (y.id = id))))).symm with a2 | a2
    ·have hkn : ids.all (knownB p) = true := by
      rw [List.all_eq_true]
      intro x hx
      rw [List.any_eq_false] at a2
      have := a2 x hx
      rw [known_any] at this
      simpa using this
     simp -dsimp [a2, intRows]
     refine ALoop.of [] (fun k => k==0||k==1||k==2||k==4||k==5||k==6||k==7||k==9||k==10||k==11||k==13||k==16||k==18||k==19||k==20||k==35||k==39||k==40||k==41||k==42||k==43||k==67) (ι := { z : Nat × List Sb // z.1 ≤ ids.length ∧ z.2.length ≤ z.1 ∧ sbAll p.len ids [] = sbAll p.len (ids.drop z.1) z.2 })
      (fun z => [(Pl.s 0, It.v (TV.agg [TV.d (D.int IntKind.i64 p.subd), TV.d (D.int IntKind.i64 p.len), TV.d (D.sl (eds p.es))])), (Pl.s 1, It.v (TV.d (ints ids))),
       (Pl.o 2, It.box [TV.d (D.int IntKind.i64 p.subd), TV.d (D.int IntKind.i64 p.len), TV.d (D.sl (eds p.es))]),
       (Pl.s 2, It.v (TV.ptr (Pl.o 2) 0)), (Pl.s 4, It.v (TV.c (Value.slice none 0 0))), (Pl.s 5, It.v (TV.d (D.int IntKind.i64 0))), (Pl.s 7, It.v (TV.oref 7 z.1.2.length)), (Pl.o 7, .row 160 2 (dd (sbs z.1.2)) false),
       (Pl.s 40, It.v (TV.d (ints ids))), (Pl.s 41, It.v (TV.d (D.int IntKind.i64 ids.length))), (Pl.s 42, It.v (TV.d (D.int IntKind.i64 z.1.1)))])
      (fun z => ids.length - z.1.1) ⟨(0, []), by simp, by simp, rfl⟩ ?_ ?_
     ·exact GS.own' (k := 7) 160 2 (by simp) (by simp) (by simp [ints, sbs])
     ·rintro ⟨⟨i, l⟩, q1, q2, q3⟩
      simp only at q1 q2 q3
      by_cases hq : i < ids.length
      ·have hd : ids.drop i = ids[i] :: ids.drop (i + 1) := List.drop_eq_getElem_cons _
       have hB := plB ids[i] p.len
       have hsh := shl_bit ⟨hB.2.2.1, hB.2.2.2⟩
       have hsg : 0 ≤ plBit ids[i] p.len := hB.2.2.1
       simp -dsimp [ints, hq, wrap_i64 (n := (i : Int) + 1) (by omega) (by omega)]
       refine ACall.of (place10_c2 ids[i] p.len) [] 0 ?_
       rcases List.eq_nil_or_concat l with rfl | ⟨pre, y, rfl⟩
       ·simp -dsimp [placeT, planT, sbs, hsg, wrap_i64 (n := 0) (by omega) (by omega), wrap_i64 (n := (i : Int) + 1) (by omega) (by omega)]
        refine ⟨?_, ⟨by kernel_rfl⟩⟩
        exact ⟨⟨(i + 1, [⟨plSet ids[i] p.len, bitB (plBit ids[i] p.len)⟩]), by dsimp only; omega, by simp, by dsimp only; rw [q3, hd, sbAll, sbPut_nil]⟩, GS.to (by simp [ints, sbs, Sb.cs, bv, hsh]), by simp; omega⟩
       ·rw [List.concat_eq_append] at *
        have hlen : pre.length + 1 ≤ i := by simpa using q2
        have d1 : ∀ x, (dd (List.map Sb.cs pre) ++ [x])[pre.length]? = some x := fun x => by simp [dd]
        have d2 : ∀ x y, (dd (List.map Sb.cs pre) ++ [x]).set pre.length y = dd (List.map Sb.cs pre) ++ [y] := fun x y => by simp [dd, List.set_append_right]
        have d3 : ∀ x y, (dd (List.map Sb.cs pre) ++ [x, y])[pre.length + 1]? = some y := fun x y => by simp [dd, List.getElem?_append_right]
        have d4 : ∀ x y z, (dd (List.map Sb.cs pre) ++ [x, y]).set (pre.length + 1) z = dd (List.map Sb.cs pre) ++ [x, z] := fun x y z => by simp [dd, List.set_append_right]
        have n0 : ¬ (pre.length : Int) + 1 = 0 := by omega
        by_cases hs : y.set = plSet ids[i] p.len
        ·simp -dsimp [placeT, hs, sbs, Sb.cs, bv, hsg, n0, d1, d2, d3, d4, wrap_i64 (n := (pre.length : Int)) (by omega) (by omega), wrap_i64 (n := (pre.length : Int) + 1) (by omega) (by omega), wrap_i64 (n := (i : Int) + 1) (by omega) (by omega)]
         and_intros
         all_goals try first | omega | exact ⟨by kernel_rfl⟩
         exact ⟨⟨(i + 1, pre ++ [⟨y.set, y.bits ||| bitB (plBit ids[i] p.len)⟩]), by dsimp only; omega, by simp; omega, by dsimp only; rw [q3, hd, sbAll, ← hs, sbPut_same]⟩, GS.to (by simp [ints, sbs, Sb.cs, bv, hs, hsh]), by simp; omega⟩
        ·simp -dsimp [placeT, hs, sbs, Sb.cs, bv, hsg, n0, d1, d2, d3, d4, wrap_i64 (n := (pre.length : Int)) (by omega) (by omega), wrap_i64 (n := (pre.length : Int) + 1) (by omega) (by omega), wrap_i64 (n := (i : Int) + 1) (by omega) (by omega)]
         and_intros
         all_goals try first | omega | exact ⟨by kernel_rfl⟩
         exact ⟨⟨(i + 1, pre ++ [y] ++ [⟨plSet ids[i] p.len, bitB (plBit ids[i] p.len)⟩]), by dsimp only; omega, by simp; omega, by dsimp only; rw [q3, hd, sbAll, sbPut_new _ _ hs]⟩, GS.to (by simp [ints, sbs, Sb.cs, bv, hsh]), by simp; omega⟩
      ·simp -dsimp [ints, hq]
       refine Fin.view 4 ?_
       simp -dsimp
       refine Fin.of ?_
       have hX : sbAll p.len ids [] = l := by rw [q3, List.drop_eq_nil_of_le (by omega)]; rfl
       simp [setsT, setsR, a1, hasc, hkn, hX]
    ·have hkn : ids.all (knownB p) = false := by
      rw [List.any_eq_true] at a2
      obtain ⟨x, hx, he⟩ := a2
      rw [known_any] at he
      rw [List.all_eq_false]
      exact ⟨x, hx, by simpa using he⟩
     simp -dsimp [a2, intRows]
     refine Fin.view 4 ?_
     simp -dsimp
     refine Fin.of ?_
     simp [setsT, setsR, a1, hasc, hkn, sbs]
end Go.Proofs

set_option linter.unusedSimpArgs false
set_option maxRecDepth 100000
set_option maxHeartbeats 2000000
namespace Go.Proofs
open Go Go.Tr
def Pk.with (q : Pk) (p : Pn) (s : Sb) : Pk := ⟨q.mode, p.subd, s.set, p.len, q.ttl, q.ent, q.ing, q.proto, s.bits, q.pay⟩
def pkAll (q : Pk) (p : Pn) : List Sb → List Pk → List Pk × Int
 | [], out => (out, 0)
 | s :: l, out => if (q.with p s).ok = true then pkAll q p l (out ++ [q.with p s]) else ([], 1)
noncomputable def packR (p : Pn) (ids : List Int) (q : Pk) : List Pk × Int :=
 if (setsR p ids).2 = 0 then pkAll q p (setsR p ids).1 [] else ([], (setsR p ids).2)
def packT (r : List Pk × Int) : TV := .tup [.d (.sl (pks r.1)), .d (.int .i64 r.2)]
theorem sbAll_len (len : Int) : ∀ (ids : List Int) (l : List Sb), (sbAll len ids l).length ≤ l.length + ids.length
 | [], l => by simp [sbAll]
 | id :: ids, l => by
   have h1 := sbAll_len len ids (sbPut l (plSet id len) (bitB (plBit id len)))
   have h2 := sbPut_len l (plSet id len) (bitB (plBit id len))
   simp only [sbAll, List.length_cons]
   omega
theorem setsR_len (p : Pn) (ids : List Int) : (setsR p ids).1.length ≤ ids.length := by
 unfold setsR
 split
 ·split
  ·split
   ·have := sbAll_len p.len ids []; simpa using this
   ·simp
  ·simp
 ·simp
theorem packets17_c (p : Pn) (hp : p.es.length ≤ 1000) (ids : List Int) (hi : ids.length ≤ 100000) (q : Pk) : Contract Tryz.prog 56 [planT p, .d (ints ids), pkT q] [] (packT (packR p ids q)) [] [] := by
 refine contract_of Tryz.func56 rfl (fun E0 => ?_)
 refine awp.sound (g := .mk) (ow := []) (kp := (fun k => k==0||k==1||k==2||k==3||k==5||k==6||k==7||k==8||k==9||k==10||k==11||k==19||k==24||k==47)) ?_
 rw [Tryz.ntmps56]
 have hlen := setsR_len p ids
 simp -dsimp [planT, pkT, Pk.cs]
 refine ACall.of (sets10_c p hp ids hi) [] 0 ?_
 have hR : packR p ids q = if (setsR p ids).2 = 0 then pkAll q p (setsR p ids).1 [] else ([], (setsR p ids).2) := rfl
 rw [hR]
 generalize hr : setsR p ids = r at hlen
 by_cases h0 : r.2 = 0
 ·simp -dsimp [setsT, planT, h0]
  refine ALoop.of [] (fun k => k==0||k==1||k==2||k==3||k==5||k==6||k==7||k==8||k==9||k==10||k==11||k==19||k==24||k==47) (ι := { z : Nat × Pk × List Pk // z.1 ≤ r.1.length ∧ z.2.2.length ≤ z.1 ∧ (∀ s, z.2.1.with p s = q.with p s) ∧ pkAll q p r.1 [] = pkAll q p (r.1.drop z.1) z.2.2 })
   (fun z => [(Pl.s 0, It.v (TV.agg [TV.d (D.int IntKind.i64 p.subd), TV.d (D.int IntKind.i64 p.len), TV.d (D.sl (eds p.es))])), (Pl.s 1, It.v (TV.d (ints ids))),
    (Pl.s 2, It.v (TV.agg [TV.d (D.int IntKind.i64 q.mode), TV.d (D.int IntKind.i64 q.subd), TV.d (D.int IntKind.i64 q.set), TV.d (D.int IntKind.i64 q.len), TV.d (D.int IntKind.i64 q.ttl), TV.d (D.int IntKind.i64 q.ent), TV.d (D.int IntKind.i64 q.ing), TV.d (D.int IntKind.i64 q.proto), TV.d (bv q.bits), TV.d (D.str q.pay)])),
    (Pl.o 3, It.box [TV.d (D.int IntKind.i64 p.subd), TV.d (D.int IntKind.i64 p.len), TV.d (D.sl (eds p.es))]), (Pl.s 3, It.v (TV.ptr (Pl.o 3) 0)),
    (Pl.o 5, It.box [TV.d (D.int IntKind.i64 z.1.2.1.mode), TV.d (D.int IntKind.i64 z.1.2.1.subd), TV.d (D.int IntKind.i64 z.1.2.1.set), TV.d (D.int IntKind.i64 z.1.2.1.len), TV.d (D.int IntKind.i64 z.1.2.1.ttl), TV.d (D.int IntKind.i64 z.1.2.1.ent), TV.d (D.int IntKind.i64 z.1.2.1.ing), TV.d (D.int IntKind.i64 z.1.2.1.proto), TV.d (bv z.1.2.1.bits), TV.d (D.str z.1.2.1.pay)]),
    (Pl.s 5, It.v (TV.ptr (Pl.o 5) 0)), (Pl.s 6, It.v (TV.c (Value.slice none 0 0))), (Pl.s 7, It.v (TV.d (D.int IntKind.i64 0))),
    (Pl.s 8, It.v (TV.d (D.sl (sbs r.1)))), (Pl.s 9, It.v (TV.d (D.int IntKind.i64 0))), (Pl.s 10, It.v (TV.oref 10 z.1.2.2.length)), (Pl.o 10, .row 39 10 (dd (pks z.1.2.2)) false), (Pl.s 11, It.v (TV.d (D.int IntKind.i64 z.1.1)))])
   (fun z => r.1.length - z.1.1) ⟨(0, q, []), by simp, by simp, fun s => rfl, rfl⟩ ?_ ?_
  ·exact GS.own' (k := 10) 39 10 (by simp) (by simp) (by simp [ints, pks, h0])
  ·rintro ⟨⟨i, qc, out⟩, q1, q2, q4, q3⟩
   simp only at q1 q2 q3 q4
   by_cases hq : i < r.1.length
   ·obtain ⟨s, hs⟩ : ∃ s, r.1[i]? = some s := ⟨r.1[i], List.getElem?_eq_getElem hq⟩
    have hd : r.1.drop i = s :: r.1.drop (i + 1) := by rw [List.getElem?_eq_some_iff] at hs; obtain ⟨_, rfl⟩ := hs; exact List.drop_eq_getElem_cons _
    have hw := q4 s
    have ew : pkT (q.with p s) = .agg [TV.d (D.int IntKind.i64 qc.mode), TV.d (D.int IntKind.i64 p.subd), TV.d (D.int IntKind.i64 s.set), TV.d (D.int IntKind.i64 p.len), TV.d (D.int IntKind.i64 qc.ttl), TV.d (D.int IntKind.i64 qc.ent), TV.d (D.int IntKind.i64 qc.ing), TV.d (D.int IntKind.i64 qc.proto), TV.d (bv s.bits), TV.d (D.str qc.pay)] := by rw [← hw]; rfl
    simp -dsimp [hq, sbs_get' hs, Sb.cs, wrap_i64 (n := (i : Int) + 1) (by omega) (by omega)]
    try refine ⟨?_, ⟨by kernel_rfl⟩⟩
    refine ACall.of (valid_c (q.with p s)) [] 0 ?_
    rcases (Bool.eq_false_or_eq_true (q.with p s).ok).symm with ho | ho
    ·simp -dsimp [ho, ew]
     refine Fin.view 6 ?_
     simp -dsimp
     refine Fin.of ?_
     simp [packT, h0, q3, hd, pkAll, ho, pks]
    ·simp -dsimp [ho, ew, wrap_i64 (n := (i : Int) + 1) (by omega) (by omega)]
     and_intros
     all_goals try first | omega | exact ⟨by kernel_rfl⟩
     exact ⟨⟨(i + 1, qc.with p s, out ++ [qc.with p s]), by dsimp only; omega, by simp; omega, fun s' => q4 s', by dsimp only; rw [q3, hd, pkAll, if_pos ho, hw]⟩, GS.to (by simp [pks, Pk.with, Pk.cs]), by simp; omega⟩
   ·simp -dsimp [hq]
    refine Fin.view 6 ?_
    simp -dsimp
    refine Fin.of ?_
    have hX : pkAll q p r.1 [] = (out, 0) := by rw [q3, List.drop_eq_nil_of_le (by omega)]; rfl
    simp [packT, h0, hX]
 ·simp -dsimp [setsT, planT, h0]
  refine Fin.view 6 ?_
  simp -dsimp
  refine Fin.of ?_
  simp [packT, h0, pks]
theorem packets_c (p : Pn) (hp : p.es.length ≤ 1000) (ids : List Int) (hi : ids.length ≤ 100000) (q : Pk) : Contract Tryz.prog 54 [planT p, .d (ints ids), pkT q] [] (packT (packR p ids q)) [] [] := by
 refine contract_of Tryz.func54 rfl (fun E0 => ?_)
 refine awp.sound (g := .mk) (ow := []) (kp := (fun k => k==0||k==1||k==2||k==3||k==5||k==6||k==7||k==8||k==9||k==10||k==12||k==20||k==22||k==23||k==24||k==25||k==42)) ?_
 rw [Tryz.ntmps54]
 have hlen := setsR_len p ids
 simp -dsimp [planT, pkT, Pk.cs]
 refine ACall.of (sets_c p hp ids hi) [] 0 ?_
 have hR : packR p ids q = if (setsR p ids).2 = 0 then pkAll q p (setsR p ids).1 [] else ([], (setsR p ids).2) := rfl
 rw [hR]
 generalize hr : setsR p ids = r at hlen
 by_cases h0 : r.2 = 0
 ·simp -dsimp [setsT, planT, h0]
  refine ALoop.of [] (fun k => k==0||k==1||k==2||k==3||k==5||k==6||k==7||k==8||k==9||k==10||k==12||k==20||k==22||k==23||k==24||k==25||k==42) (ι := { z : Nat × Pk × List Pk // z.1 ≤ r.1.length ∧ z.2.2.length ≤ z.1 ∧ (∀ s, z.2.1.with p s = q.with p s) ∧ pkAll q p r.1 [] = pkAll q p (r.1.drop z.1) z.2.2 })
   (fun z => [(Pl.s 0, It.v (TV.agg [TV.d (D.int IntKind.i64 p.subd), TV.d (D.int IntKind.i64 p.len), TV.d (D.sl (eds p.es))])), (Pl.s 1, It.v (TV.d (ints ids))),
    (Pl.s 2, It.v (TV.agg [TV.d (D.int IntKind.i64 q.mode), TV.d (D.int IntKind.i64 q.subd), TV.d (D.int IntKind.i64 q.set), TV.d (D.int IntKind.i64 q.len), TV.d (D.int IntKind.i64 q.ttl), TV.d (D.int IntKind.i64 q.ent), TV.d (D.int IntKind.i64 q.ing), TV.d (D.int IntKind.i64 q.proto), TV.d (bv q.bits), TV.d (D.str q.pay)])),
    (Pl.o 3, It.box [TV.d (D.int IntKind.i64 p.subd), TV.d (D.int IntKind.i64 p.len), TV.d (D.sl (eds p.es))]), (Pl.s 3, It.v (TV.ptr (Pl.o 3) 0)),
    (Pl.o 5, It.box [TV.d (D.int IntKind.i64 z.1.2.1.mode), TV.d (D.int IntKind.i64 z.1.2.1.subd), TV.d (D.int IntKind.i64 z.1.2.1.set), TV.d (D.int IntKind.i64 z.1.2.1.len), TV.d (D.int IntKind.i64 z.1.2.1.ttl), TV.d (D.int IntKind.i64 z.1.2.1.ent), TV.d (D.int IntKind.i64 z.1.2.1.ing), TV.d (D.int IntKind.i64 z.1.2.1.proto), TV.d (bv z.1.2.1.bits), TV.d (D.str z.1.2.1.pay)]),
    (Pl.s 5, It.v (TV.ptr (Pl.o 5) 0)), (Pl.s 6, It.v (TV.c (Value.slice none 0 0))), (Pl.s 7, It.v (TV.d (D.int IntKind.i64 0))),
    (Pl.s 8, It.v (TV.d (D.sl (sbs r.1)))), (Pl.s 9, It.v (TV.d (D.int IntKind.i64 0))), (Pl.s 10, It.v (TV.oref 10 z.1.2.2.length)), (Pl.o 10, .row 39 10 (dd (pks z.1.2.2)) false), (Pl.s 22, It.v (TV.d (D.sl (sbs r.1)))), (Pl.s 23, It.v (TV.d (D.int IntKind.i64 r.1.length))), (Pl.s 24, It.v (TV.d (D.int IntKind.i64 z.1.1)))])
   (fun z => r.1.length - z.1.1) ⟨(0, q, []), by simp, by simp, fun s => rfl, rfl⟩ ?_ ?_
  ·exact GS.own' (k := 10) 39 10 (by simp) (by simp) (by simp [ints, pks, h0])
  ·rintro ⟨⟨i, qc, out⟩, q1, q2, q4, q3⟩
   simp only at q1 q2 q3 q4
   by_cases hq : i < r.1.length
   ·obtain ⟨s, hs⟩ : ∃ s, r.1[i]? = some s := ⟨r.1[i], List.getElem?_eq_getElem hq⟩
    have hd : r.1.drop i = s :: r.1.drop (i + 1) := by rw [List.getElem?_eq_some_iff] at hs; obtain ⟨_, rfl⟩ := hs; exact List.drop_eq_getElem_cons _
    have hw := q4 s
    have ew : pkT (q.with p s) = .agg [TV.d (D.int IntKind.i64 qc.mode), TV.d (D.int IntKind.i64 p.subd), TV.d (D.int IntKind.i64 s.set), TV.d (D.int IntKind.i64 p.len), TV.d (D.int IntKind.i64 qc.ttl), TV.d (D.int IntKind.i64 qc.ent), TV.d (D.int IntKind.i64 qc.ing), TV.d (D.int IntKind.i64 qc.proto), TV.d (bv s.bits), TV.d (D.str qc.pay)] := by rw [← hw]; rfl
    simp -dsimp [hq, sbs_get' hs, Sb.cs, wrap_i64 (n := (i : Int) + 1) (by omega) (by omega)]
    try refine ⟨?_, ⟨by kernel_rfl⟩⟩
    refine ACall.of (valid_c2 (q.with p s)) [] 0 ?_
    rcases (Bool.eq_false_or_eq_true (q.with p s).ok).symm with ho | ho
    ·simp -dsimp [ho, ew]
     refine Fin.view 6 ?_
     simp -dsimp
     refine Fin.of ?_
     simp [packT, h0, q3, hd, pkAll, ho, pks]
    ·simp -dsimp [ho, ew, wrap_i64 (n := (i : Int) + 1) (by omega) (by omega)]
     and_intros
     all_goals try first | omega | exact ⟨by kernel_rfl⟩
     exact ⟨⟨(i + 1, qc.with p s, out ++ [qc.with p s]), by dsimp only; omega, by simp; omega, fun s' => q4 s', by dsimp only; rw [q3, hd, pkAll, if_pos ho, hw]⟩, GS.to (by simp [pks, Pk.with, Pk.cs]), by simp; omega⟩
   ·simp -dsimp [hq]
    refine Fin.view 6 ?_
    simp -dsimp
    refine Fin.of ?_
    have hX : pkAll q p r.1 [] = (out, 0) := by rw [q3, List.drop_eq_nil_of_le (by omega)]; rfl
    simp [packT, h0, hX]
 ·simp -dsimp [setsT, planT, h0]
  refine Fin.view 6 ?_
  simp -dsimp
  refine Fin.of ?_
  simp [packT, h0, pks]
end Go.Proofs

set_option linter.unusedSimpArgs false
set_option maxRecDepth 100000
set_option maxHeartbeats 2000000
namespace Go.Proofs
open Go Go.Tr
def e0 : ByteArray := ⟨#[]⟩
def awP : Pn := ⟨0, 8, [⟨1, 1⟩, ⟨2, 8⟩, ⟨3, 9⟩]⟩
def awQ : Pk := ⟨1, 0, 0, 0, 5, 0, 0, 0, 0#64, e0⟩
theorem aw_sets : setsR awP [1, 8, 9] = ([⟨0, 129#64⟩, ⟨1, 1#64⟩], 0) := by
 have h1 : planB awP = true := planB_ok (by decide) (fun i hi => by
  simp [awP] at hi
  obtain rfl | rfl | rfl : i = 0 ∨ i = 1 ∨ i = 2 := by omega
  all_goals decide) (fun i j hj hi => by
  simp [awP] at hi
  obtain ⟨rfl, rfl⟩ | ⟨rfl, rfl⟩ | ⟨rfl, rfl⟩ : (i = 1 ∧ j = 0) ∨ (i = 2 ∧ j = 0) ∨ (i = 2 ∧ j = 1) := by omega
  all_goals decide)
 have h2 : ascB [1, 8, 9] = true := by
  simp only [ascB, decide_eq_true_eq]
  intro i h0 hi
  simp at hi
  obtain rfl | rfl : i = 1 ∨ i = 2 := by omega
  all_goals decide
 have h3 : ([1, 8, 9] : List Int).all (knownB awP) = true := by decide
 have h4 : sbAll awP.len [1, 8, 9] [] = [⟨0, 129#64⟩, ⟨1, 1#64⟩] := by
  have a1 : plSet 1 8 = 0 ∧ plBit 1 8 = 0 ∧ plSet 8 8 = 0 ∧ plBit 8 8 = 7 ∧ plSet 9 8 = 1 ∧ plBit 9 8 = 0 := by decide
  have a2 : bitB 0 = 1#64 ∧ bitB 7 = 128#64 := by decide
  simp [awP, sbAll, a1, a2, sbPut]
 simp [setsR, h1, h2, h3, h4]
theorem aw_val : packR awP [1, 8, 9] awQ = ([⟨1, 0, 0, 8, 5, 0, 0, 0, 129#64, e0⟩, ⟨1, 0, 1, 8, 5, 0, 0, 0, 1#64, e0⟩], 0) := by
 have v1 : validB 129#64 8 = true := by decide
 have v2 : validB 1#64 8 = true := by decide
 have v3 : e0.size = 0 := rfl
 unfold packR
 rw [aw_sets]
 simp [pkAll, Pk.ok, Pk.with, awP, awQ, insB, v1, v2, v3]
theorem awake_c : Contract Tryz.prog 21 [] [] (.d (.bool true)) [] [] := by
 have hc := packets_c awP (by decide) [1, 8, 9] (by decide) awQ
 rw [aw_val] at hc
 refine contract_of Tryz.func21 rfl (fun E0 => ?_)
 refine awp.sound (g := .mk) (ow := []) (kp := (fun k => k==0||k==1||k==2||k==3)) ?_
 rw [Tryz.ntmps21]
 simp -dsimp
 refine ACall.of hc [] 0 ?_
 simp -dsimp [planT, awP, eds, Ed.cs, ints, pkT, Pk.cs, awQ, bv, e0, packT, pks, show tn 129#64 = 129 from rfl]
 try refine ⟨?_, ⟨by kernel_rfl⟩⟩
 refine Fin.of ?_
 simp
theorem gPlanL_len (rs : List Rt) (len : Int) : ∀ (o : List Int) (T : Tp) (id : Int) (l : List Ed), (gPlanL rs len o T id l).1.length ≤ l.length + o.length
 | [], _, _, _ => by simp [gPlanL]
 | x :: o, T, id, l => by
   have h1 := gPlanL_len rs len o (gPlanS rs len x T id l).2.2 (gPlanS rs len x T id l).2.1 (gPlanS rs len x T id l).1
   have h2 : (gPlanS rs len x T id l).1.length ≤ l.length + 1 := by
    unfold gPlanS
    simp only
    split
    ·simp
    ·simp only
     split <;> simp
   simp only [gPlanL, List.length_cons]
   omega
theorem gPlan0_len (T : Tp) (rs : List Rt) : (gPlan0 T rs).1.es.length ≤ rs.length := by
 have := gPlanL_len rs (gPick (gNext T 3).2 [8, 8, 16, 32, 64]).1 (gOrder (gPick (gNext T 3).2 [8, 8, 16, 32, 64]).2 rs.length).1 (gOrder (gPick (gNext T 3).2 [8, 8, 16, 32, 64]).2 rs.length).2 0 []
 rw [gOrder_len] at this
 simpa [gPlan0] using this
theorem gChL_len : ∀ (es : List Ed) (T : Tp) (l : List Int), (gChL es T l).1.length ≤ l.length + es.length
 | [], _, _ => by simp [gChL]
 | e :: es, T, l => by
   have h := gChL_len es (gNext T 3).2 (if 0 < (gNext T 3).1 then l ++ [e.id] else l)
   have h2 : (if 0 < (gNext T 3).1 then l ++ [e.id] else l).length ≤ l.length + 1 := by split <;> simp
   simp only [gChL, List.length_cons]
   omega
theorem gCh_len (T : Tp) (p : Pn) (n : Int) : (gCh T p n).1.length ≤ p.es.length + 1 := by
 have := gChL_len p.es T []
 unfold gCh
 simp only
 split
 ·split
  ·simp at this ⊢; omega
  ·simp at this ⊢; omega
 ·simp at this ⊢; omega
theorem gTopA_ok (cost tree : Int) (skip : Bool) (b : Int) : ∀ (n : Nat) (a : Int) (T : Tp) (l : List Lk), TapeOK (gTopA cost tree skip b n a T l).2 = TapeOK T
 | 0, _, _, _ => rfl
 | n + 1, a, T, l => by rw [gTopA, gTopA_ok cost tree skip b n, gTopS_ok]
theorem gTopB_ok (cost : Int) : ∀ (n : Nat) (b : Int) (T : Tp) (l : List Lk), TapeOK (gTopB cost n b T l).2 = TapeOK T
 | 0, _, _, _ => rfl
 | n + 1, b, T, l => by
   rw [gTopB, gTopB_ok cost n]
   simp only [gTopR]
   rw [gTopA_ok]; simp
@[simp] theorem gTop_ok (T : Tp) (most : Int) : TapeOK (gTop T most).2 = TapeOK T := by
 simp only [gTop]; rw [gTopB_ok]; simp
@[simp] theorem gWild_ok (T : Tp) : TapeOK (gWild T).2 = TapeOK T := by simp [gWild]
@[simp] theorem gPk0_ok (T : Tp) : TapeOK (gPk0 T).2 = TapeOK T := by simp [gPk0]
@[simp] theorem gPacket_ok (T : Tp) (n : Int) : TapeOK (gPacket T n).2 = TapeOK T := by
 unfold gPacket
 split
 ·split
  ·unfold gSpoilP
   simp only
   repeat' split
   all_goals simp
  ·simp
 ·simp
end Go.Proofs

set_option linter.unusedSimpArgs false
set_option maxRecDepth 100000
set_option maxHeartbeats 2000000
namespace Go.Proofs
open Go Go.Tr
theorem inside11_c (n lo hi : Int) : Contract Tryz.prog 167 [.d (.int .i64 n), .d (.int .i64 lo), .d (.int .i64 hi)] [] (.d (.bool (inB n lo hi))) [] [] := by
 refine contract_of Tryz.func167 rfl (fun E0 => ?_)
 refine awp.sound (g := .mk) (ow := []) (kp := (fun k => k==0||k==1||k==2||k==6)) ?_
 rw [Tryz.ntmps167]
 by_cases h : lo ≤ n
 ·simp -dsimp [h]
  refine Fin.of ?_
  simp [inB, h]
 ·simp -dsimp [h]
  refine Fin.of ?_
  simp [inB, h]
theorem in11_c (n lo hi : Int) : Contract Tryz.prog 156 [.d (.int .i64 n), .d (.int .i64 lo), .d (.int .i64 hi)] [] (.d (.bool (inB n lo hi))) [] [] := by
 refine contract_of Tryz.func156 rfl (fun E0 => ?_)
 refine awp.sound (g := .mk) (ow := []) (kp := (fun k => k==0||k==1||k==2||k==6)) ?_
 rw [Tryz.ntmps156]
 by_cases h : lo ≤ n
 ·simp -dsimp [h]
  refine Fin.of ?_
  simp [inB, h]
 ·simp -dsimp [h]
  refine Fin.of ?_
  simp [inB, h]
def atB (set bit len : Int) : Bool := validLen len && (inB bit 0 (len - 1) && (inB set 0 31 && decide (set * len + bit + 1 ≤ 256)))
def atT (set bit len : Int) : TV := .tup [.d (.int .i64 (if atB set bit len then set * len + bit + 1 else 0)), .d (.bool (atB set bit len))]
theorem at10_c (set bit len : Int) : Contract Tryz.prog 42 [.d (.int .i64 set), .d (.int .i64 bit), .d (.int .i64 len)] [] (atT set bit len) [] [] := by
 refine contract_of Tryz.func42 rfl (fun E0 => ?_)
 refine awp.sound (g := .mk) (ow := []) (kp := (fun k => k==0||k==1||k==2||k==6||k==7||k==8||k==23||k==31)) ?_
 rw [Tryz.ntmps42]
 simp -dsimp
 refine ACall.of (validLength_c len) [] 0 ?_
 rcases (Bool.eq_false_or_eq_true (validLen len)).symm with a1 | a1
 ·simp -dsimp [a1]
  try refine ⟨?_, ⟨by kernel_rfl⟩⟩
  refine Fin.of ?_
  simp [atT, atB, a1]
 ·have hl : len = 8 ∨ len = 16 ∨ len = 32 ∨ len = 64 := by simp [validLen] at a1; omega
  simp -dsimp [a1, wrap_i64 (n := len - 1) (by omega) (by omega)]
  refine ACall.of (inside10_c bit 0 (len - 1)) [] 0 ?_
  rcases (Bool.eq_false_or_eq_true (inB bit 0 (len - 1))).symm with a2 | a2
  ·simp -dsimp [a1, a2]
   try refine ⟨?_, ⟨by kernel_rfl⟩⟩
   refine Fin.of ?_
   simp [atT, atB, a1, a2]
  ·simp -dsimp [a1, a2]
   refine ACall.of (inside10_c set 0 31) [] 0 ?_
   rcases (Bool.eq_false_or_eq_true (inB set 0 31)).symm with a3 | a3
   ·simp -dsimp [a1, a2, a3]
    try refine ⟨?_, ⟨by kernel_rfl⟩⟩
    refine Fin.of ?_
    simp [atT, atB, a1, a2, a3]
   ·have b2 : 0 ≤ bit ∧ bit ≤ len - 1 := by simpa [inB] using a2
    have b3 : 0 ≤ set ∧ set ≤ 31 := by simpa [inB] using a3
    have b4 : 0 ≤ set * len ∧ set * len ≤ 1984 := by rcases hl with rfl | rfl | rfl | rfl <;> omega
    by_cases a4 : set * len + bit + 1 ≤ 256
    ·have a5 : ¬ 256 < set * len + bit + 1 := by omega
     simp -dsimp [a1, a2, a3, a4, a5, wrap_i64 (n := set * len) (by omega) (by omega), wrap_i64 (n := set * len + bit) (by omega) (by omega), wrap_i64 (n := set * len + bit + 1) (by omega) (by omega)]
     try refine ⟨?_, ⟨by kernel_rfl⟩⟩
     refine Fin.of ?_
     simp [atT, atB, a1, a2, a3, a4]
    ·have a5 : 256 < set * len + bit + 1 := by omega
     simp -dsimp [a1, a2, a3, a4, a5, wrap_i64 (n := set * len) (by omega) (by omega), wrap_i64 (n := set * len + bit) (by omega) (by omega), wrap_i64 (n := set * len + bit + 1) (by omega) (by omega)]
     try refine ⟨?_, ⟨by kernel_rfl⟩⟩
     refine Fin.of ?_
     simp [atT, atB, a1, a2, a3, a4]
end Go.Proofs

set_option linter.unusedSimpArgs false
set_option maxRecDepth 100000
set_option maxHeartbeats 1000000
namespace Go.Proofs
open Go Go.Tr
def hasI (l : List Int) (n : Int) : Bool := decide (n ∈ l)
theorem has04_c (l : List Int) (hl : l.length ≤ 1000000) (n : Int) : Contract Tryz.prog 91 [.d (ints l), .d (.int .i64 n)] [] (.d (.bool (hasI l n))) [] [] := by
 refine contract_of Tryz.func91 rfl (fun E0 => ?_)
 refine awp.sound (g := .mk) (ow := []) (kp := (fun k => k==0||k==1||k==4||k==5||k==9||k==17)) ?_
 rw [Tryz.ntmps91]
 simp -dsimp [ints]
 refine ALoop.of [] (fun k => k==0||k==1||k==4||k==5||k==9||k==17) (ι := { i : Nat // i ≤ l.length ∧ ∀ a, a < i → ∀ x, l[a]? = some x → x ≠ n }) (fun z => [(Pl.s 0, It.v (.d (ints l))), (Pl.s 1, It.v (.d (.int .i64 n))), (Pl.s 4, It.v (.d (.bool false))), (Pl.s 5, It.v (TV.d (D.int IntKind.i64 z.1)))]) (fun z => l.length - z.1) ⟨0, by omega, fun a h => by omega⟩ ?_ ?_
 ·exact GS.to (by simp [ints])
 ·rintro ⟨i, i1, i2⟩
  by_cases hi : i < l.length
  ·by_cases h : l[i] = n
   ·simp -dsimp [ints, hi, h]
    try refine ⟨?_, ⟨by kernel_rfl⟩⟩
    refine Fin.of ?_
    have : hasI l n = true := by simp only [hasI, decide_eq_true_eq]; rw [← h]; exact List.getElem_mem hi
    simp [this]
   ·simp -dsimp [ints, hi, h, wrap_i64 (n := (i : Int) + 1) (by omega) (by omega)]
    try refine ⟨?_, ⟨by kernel_rfl⟩⟩
    exact ⟨⟨i + 1, by omega, fun a ha x hx => by
     by_cases e : a = i
     ·subst e; rw [List.getElem?_eq_getElem hi] at hx; simp only [Option.some.injEq] at hx; rw [← hx]; exact h
     ·exact i2 a (by omega) x hx⟩, GS.to (by simp [ints]), by simp; omega⟩
  ·simp -dsimp [ints, hi]
   refine Fin.of ?_
   have : hasI l n = false := by
    simp only [hasI, decide_eq_false_iff_not]
    intro hm
    obtain ⟨a, ha⟩ := List.getElem?_of_mem hm
    exact i2 a (by have := (List.getElem?_eq_some_iff.1 ha).1; omega) n ha rfl
   simp [this]
theorem ints04_c (a b : List Int) (hl : a.length ≤ 1000000) : Contract Tryz.prog 50 [.d (ints a), .d (ints b)] [] (.d (.bool (decide (a = b)))) [] [] := by
 refine contract_of Tryz.func50 rfl (fun E0 => ?_)
 refine awp.sound (g := .mk) (ow := []) (kp := (fun k => k==0||k==1||k==4||k==5||k==10||k==14||k==25)) ?_
 rw [Tryz.ntmps50]
 by_cases hlen : a.length = b.length
 ·simp -dsimp [ints, hlen]
  refine ALoop.of [] (fun k => k==0||k==1||k==4||k==5||k==10||k==14||k==25) (ι := { i : Nat // i ≤ a.length ∧ ∀ j, j < i → a[j]? = b[j]? }) (fun z => [(Pl.s 0, It.v (.d (ints a))), (Pl.s 1, It.v (.d (ints b))), (Pl.s 4, It.v (.d (.bool false))), (Pl.s 5, It.v (TV.d (D.int IntKind.i64 z.1)))]) (fun z => a.length - z.1) ⟨0, by omega, fun j h => by omega⟩ ?_ ?_
  ·exact GS.to (by simp [ints])
  ·rintro ⟨i, i1, i2⟩
   by_cases hi : i < a.length
   ·have hi' : i < b.length := by omega
    by_cases h : a[i] = b[i]
    ·simp -dsimp [ints, hi, hi', h, wrap_i64 (n := (i : Int) + 1) (by omega) (by omega)]
     try refine ⟨?_, ⟨by kernel_rfl⟩⟩
     exact ⟨⟨i + 1, by omega, fun j hj => by
      by_cases e : j = i
      ·subst e; rw [List.getElem?_eq_getElem hi, List.getElem?_eq_getElem hi', h]
      ·exact i2 j (by omega)⟩, GS.to (by simp [ints]), by simp; omega⟩
    ·simp -dsimp [ints, hi, hi', h]
     try refine ⟨?_, ⟨by kernel_rfl⟩⟩
     refine Fin.of ?_
     have : a ≠ b := fun e => by subst e; exact h rfl
     simp [this]
   ·simp -dsimp [ints, hi]
    refine Fin.of ?_
    have : a = b := List.ext_getElem? fun j => by
     by_cases hj : j < i
     ·exact i2 j hj
     ·rw [List.getElem?_eq_none (by omega), List.getElem?_eq_none (by omega)]
    simp [this]
 ·have hlen' : ¬ (a.length : Int) = b.length := by omega
  simp -dsimp [ints, hlen, hlen']
  refine Fin.of ?_
  have : a ≠ b := fun e => hlen (by rw [e])
  simp [this]
theorem insert04_c (l : List Int) (hl : l.length ≤ 1000000) (n : Int) : Contract Tryz.prog 135 [.d (ints l), .d (.int .i64 n)] [] (.d (ints (insI l n))) [] [] := by
 refine contract_of Tryz.func135 rfl (fun E0 => ?_)
 refine awp.sound (g := .mk) (ow := []) (kp := (fun k => k==0||k==1||k==4||k==5||k==6||k==18||k==32)) ?_
 rw [Tryz.ntmps135]
 simp -dsimp [ints]
 refine ALoop.of [] (fun k => k==0||k==1||k==4||k==5||k==6||k==18||k==32) (ι := { p : Nat // p ≤ l.length ∧ insPos n l = p + insPos n (l.drop p) }) (fun z => [(Pl.s 0, It.v (.d (ints l))), (Pl.s 1, It.v (.d (.int .i64 n))), (Pl.s 4, It.v (TV.c (Value.slice none 0 0))), (Pl.s 5, It.v (TV.d (D.int IntKind.i64 z.1)))]) (fun z => l.length - z.1) ⟨0, by omega, by simp⟩ ?_ ?_
 ·exact GS.to (by simp [ints])
 ·rintro ⟨p, p1, p2⟩
  by_cases hp : p < l.length
  ·have hd : l.drop p = l[p] :: l.drop (p + 1) := List.drop_eq_getElem_cons _
   by_cases h : l[p] < n
   ·simp -dsimp [ints, hp, h, wrap_i64 (n := (p : Int) + 1) (by omega) (by omega)]
    try refine ⟨?_, ⟨by kernel_rfl⟩⟩
    exact ⟨⟨p + 1, by omega, by rw [p2, hd, insPos, if_pos h]; omega⟩, GS.to (by simp [ints]), by simp; omega⟩
   ·have hq : insPos n l = p := by rw [p2, hd, insPos, if_neg h]; omega
    by_cases he : l[p] = n
    ·simp -dsimp [ints, hp, h, he]
     try refine ⟨?_, ⟨by kernel_rfl⟩⟩
     refine Fin.of ?_
     have hI : insI l n = l := by rw [insI, if_pos (by rw [hq, List.getElem?_eq_getElem hp, he])]
     simp [hI]
    ·simp -dsimp [ints, hp, h, he]
     have dl : dLen 1 (l.map fun x => [D.int .i64 x]) := dLen_map 1 _ _ fun _ => rfl
     and_intros
     all_goals try first | omega | exact ⟨by kernel_rfl⟩ | exact dLen_take dl | exact dLen_drop (dLen_take dl) | (simp; omega)
     refine Fin.view 4 ?_
     simp -dsimp
     and_intros
     all_goals try first | omega | exact ⟨by kernel_rfl⟩ | (simp; omega)
     refine Fin.of ?_
     have hI : insI l n = l.take p ++ [n] ++ l.drop p := by rw [insI, hq, if_neg (by rw [List.getElem?_eq_getElem hp]; simpa using he)]
     simp [hI, ints, List.take_of_length_le]
  ·have hq : insPos n l = p := by rw [p2, List.drop_eq_nil_of_le (by omega), insPos]; omega
   simp -dsimp [ints, hp]
   have dl : dLen 1 (l.map fun x => [D.int .i64 x]) := dLen_map 1 _ _ fun _ => rfl
   and_intros
   all_goals try first | omega | exact ⟨by kernel_rfl⟩ | exact dLen_take dl | exact dLen_drop (dLen_take dl) | (simp; omega)
   refine Fin.view 4 ?_
   simp -dsimp
   and_intros
   all_goals try first | omega | exact ⟨by kernel_rfl⟩ | (simp; omega)
   refine Fin.of ?_
   have hI : insI l n = l.take p ++ [n] ++ l.drop p := by rw [insI, hq, if_neg (by rw [List.getElem?_eq_none (by omega)]; simp)]
   simp [hI, ints, List.take_of_length_le]
def idxV (v : Int) (l : List Int) : Int := match l.findIdx? (fun x => decide (x = v)) with | some i => i | none => -1
theorem idxV_at {v : Int} {l : List Int} {i : Nat} (hx : l[i]? = some v) (h : ∀ a, a < i → ∀ y, l[a]? = some y → y ≠ v) : idxV v l = i := by
 unfold idxV
 obtain ⟨hi, hv⟩ := List.getElem?_eq_some_iff.1 hx
 have : l.findIdx? (fun x => decide (x = v)) = some i := by
  rw [List.findIdx?_eq_some_iff_getElem]
  exact ⟨hi, by simp [hv], fun j hj => by have := h j hj _ (List.getElem?_eq_getElem (by omega)); simpa using this⟩
 rw [this]
theorem idxV_no {v : Int} {l : List Int} (h : ∀ a, a < l.length → ∀ y, l[a]? = some y → y ≠ v) : idxV v l = -1 := by
 unfold idxV
 have : l.findIdx? (fun x => decide (x = v)) = none := by
  rw [List.findIdx?_eq_none_iff]
  intro x hx
  obtain ⟨i, hi⟩ := List.getElem?_of_mem hx
  simpa using h i (List.getElem?_eq_some_iff.1 hi).1 x hi
 rw [this]
theorem idxV_has (v : Int) (l : List Int) : decide (0 ≤ idxV v l) = hasI l v := by
 unfold idxV hasI
 cases h : l.findIdx? (fun x => decide (x = v)) with
 | none =>
   have := List.findIdx?_eq_none_iff.1 h
   simp
   intro hm
   simpa using this v hm
 | some i =>
   obtain ⟨hi, h1, _⟩ := List.findIdx?_eq_some_iff_getElem.1 h
   simp at h1
   simp
   rw [← h1]; exact List.getElem_mem hi
theorem index_c (l : List Int) (hl : l.length ≤ 1000000) (v : Int) : Contract Tryz.prog 184 [.d (ints l), .d (.int .i64 v)] [] (.d (.int .i64 (idxV v l))) [] [] := by
 refine contract_of Tryz.func184 rfl (fun E0 => ?_)
 refine awp.sound (g := .mk) (ow := []) (kp := (fun k => k==0||k==1||k==4||k==5||k==7||k==8||k==9||k==16)) ?_
 rw [Tryz.ntmps184]
 simp -dsimp [ints]
 refine ALoop.of [] (fun k => k==0||k==1||k==4||k==5||k==7||k==8||k==9||k==16) (ι := { i : Nat // i ≤ l.length ∧ ∀ a, a < i → ∀ x, l[a]? = some x → x ≠ v }) (fun z => [(Pl.s 0, It.v (.d (ints l))), (Pl.s 1, It.v (.d (.int .i64 v))), (Pl.s 4, It.v (.d (.int .i64 0))), (Pl.s 7, It.v (TV.d (D.int IntKind.i64 l.length))), (Pl.s 8, It.v (TV.d (D.int IntKind.i64 z.1)))]) (fun z => l.length - z.1) ⟨0, by omega, fun a h => by omega⟩ ?_ ?_
 ·exact GS.to (by simp [ints])
 ·rintro ⟨i, i1, i2⟩
  by_cases hi : i < l.length
  ·by_cases h : l[i] = v
   ·have h' : v = l[i] := h.symm
    simp -dsimp [ints, hi, h, wrap_i64 (n := (i : Int) + 1) (by omega) (by omega)]
    try refine ⟨?_, ⟨by kernel_rfl⟩⟩
    refine Fin.of ?_
    simp [idxV_at (v := v) (l := l) (i := i) (by rw [List.getElem?_eq_getElem hi, h]) i2]
   ·have h' : ¬ v = l[i] := fun e => h e.symm
    simp -dsimp [ints, hi, h, h', wrap_i64 (n := (i : Int) + 1) (by omega) (by omega)]
    try refine ⟨?_, ⟨by kernel_rfl⟩⟩
    exact ⟨⟨i + 1, by omega, fun a ha x hx => by
     by_cases e : a = i
     ·subst e; rw [List.getElem?_eq_getElem hi] at hx; simp only [Option.some.injEq] at hx; rw [← hx]; exact h
     ·exact i2 a (by omega) x hx⟩, GS.to (by simp [ints]), by simp; omega⟩
  ·simp -dsimp [ints, hi]
   refine Fin.of ?_
   simp [idxV_no (v := v) (l := l) fun a ha => i2 a (by omega)]
theorem contains_c (l : List Int) (hl : l.length ≤ 1000000) (v : Int) : Contract Tryz.prog 162 [.d (ints l), .d (.int .i64 v)] [] (.d (.bool (hasI l v))) [] [] := by
 refine contract_of Tryz.func162 rfl (fun E0 => ?_)
 refine awp.sound (g := .mk) (ow := []) (kp := (fun k => k==0||k==1||k==4)) ?_
 rw [Tryz.ntmps162]
 simp -dsimp
 refine ACall.of (index_c l hl v) [] 0 ?_
 simp -dsimp
 refine Fin.of ?_
 simp [idxV_has]
end Go.Proofs
