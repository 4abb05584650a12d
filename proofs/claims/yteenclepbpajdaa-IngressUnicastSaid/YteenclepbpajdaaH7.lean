/-
  What functions of the program compute, stated as contracts over plain data; the conditions of each stand in its own statement.
-/
import Derived.Test.YteenclepbpajdaaH6
set_option linter.unusedSimpArgs false
set_option maxRecDepth 100000
set_option maxHeartbeats 2000000
namespace Go.Proofs
open Go Go.Tr

def Pk.with (q : Pk) (p : Pn) (s : Sb) : Pk := ⟨q.mode, p.subd, s.set, p.len, q.ttl, q.ent, q.ing, q.proto, s.bits, q.pay⟩
def pkAll (q : Pk) (p : Pn) : List Sb → List Pk → List Pk × Int
  | [], out => (out, 0)
  | s :: l, out => if (q.with p s).ok = true then pkAll q p l (out ++ [q.with p s]) else ([], 1)
noncomputable def packR (p : Pn) (ids : List Int) (q : Pk) : List Pk × Int :=
  if (setsR p ids).2 = 0 then pkAll q p (setsR p ids).1 [] else ([], (setsR p ids).2)
def packT (r : List Pk × Int) : TV := .tup [.d (.sl (pks r.1)), .d (.int .i64 r.2)]
theorem sbAll_len (len : Int) : ∀ (ids : List Int) (l : List Sb), (sbAll len ids l).length ≤ l.length + ids.length
  | [], l => by simp [sbAll]
  | id :: ids, l => by
    have h1 := sbAll_len len ids (sbPut l (plSet id len) (bitB (plBit id len)))
    have h2 := sbPut_len l (plSet id len) (bitB (plBit id len))
    simp only [sbAll, List.length_cons]
    omega
theorem setsR_len (p : Pn) (ids : List Int) : (setsR p ids).1.length ≤ ids.length := by
  unfold setsR
  split
  · split
    · split
      · have := sbAll_len p.len ids []; simpa using this
      · simp
    · simp
  · simp
theorem packets_c (p : Pn) (hp : p.es.length ≤ 1000) (ids : List Int) (hi : ids.length ≤ 100000) (q : Pk) : Contract Try.prog 22 [planT p, .d (ints ids), pkT q] [] (packT (packR p ids q)) [] [] := by
  refine contract_of Try.func22 rfl (fun E0 => ?_)
  refine awp.sound (g := .mk) (ow := []) (kp := (fun k => k == 0 || k == 1 || k == 2 || k == 3 || k == 5 || k == 6 || k == 7 || k == 8 || k == 9 || k == 10 || k == 12 || k == 20 || k == 22 || k == 23 || k == 24 || k == 25 || k == 42)) ?_
  rw [Try.ntmps22]
  have hlen := setsR_len p ids
  simp -dsimp [planT, pkT, Pk.cs]
  refine ACall.of (sets_c p hp ids hi) [] 0 ?_
  have hR : packR p ids q = if (setsR p ids).2 = 0 then pkAll q p (setsR p ids).1 [] else ([], (setsR p ids).2) := rfl
  rw [hR]
  generalize hr : setsR p ids = r at hlen
  by_cases h0 : r.2 = 0
  · simp -dsimp [setsT, planT, h0]
    refine ALoop.of [] (fun k => k == 0 || k == 1 || k == 2 || k == 3 || k == 5 || k == 6 || k == 7 || k == 8 || k == 9 || k == 10 || k == 12 || k == 20 || k == 22 || k == 23 || k == 24 || k == 25 || k == 42) (ι := { z : Nat × Pk × List Pk // z.1 ≤ r.1.length ∧ z.2.2.length ≤ z.1 ∧ (∀ s, z.2.1.with p s = q.with p s) ∧ pkAll q p r.1 [] = pkAll q p (r.1.drop z.1) z.2.2 })
      (fun z => [(Pl.s 0, It.v (TV.agg [TV.d (D.int IntKind.i64 p.subd), TV.d (D.int IntKind.i64 p.len), TV.d (D.sl (eds p.es))])), (Pl.s 1, It.v (TV.d (ints ids))),
        (Pl.s 2, It.v (TV.agg [TV.d (D.int IntKind.i64 q.mode), TV.d (D.int IntKind.i64 q.subd), TV.d (D.int IntKind.i64 q.set), TV.d (D.int IntKind.i64 q.len), TV.d (D.int IntKind.i64 q.ttl), TV.d (D.int IntKind.i64 q.ent), TV.d (D.int IntKind.i64 q.ing), TV.d (D.int IntKind.i64 q.proto), TV.d (bv q.bits), TV.d (D.str q.pay)])),
        (Pl.o 3, It.box [TV.d (D.int IntKind.i64 p.subd), TV.d (D.int IntKind.i64 p.len), TV.d (D.sl (eds p.es))]), (Pl.s 3, It.v (TV.ptr (Pl.o 3) 0)),
        (Pl.o 5, It.box [TV.d (D.int IntKind.i64 z.1.2.1.mode), TV.d (D.int IntKind.i64 z.1.2.1.subd), TV.d (D.int IntKind.i64 z.1.2.1.set), TV.d (D.int IntKind.i64 z.1.2.1.len), TV.d (D.int IntKind.i64 z.1.2.1.ttl), TV.d (D.int IntKind.i64 z.1.2.1.ent), TV.d (D.int IntKind.i64 z.1.2.1.ing), TV.d (D.int IntKind.i64 z.1.2.1.proto), TV.d (bv z.1.2.1.bits), TV.d (D.str z.1.2.1.pay)]),
        (Pl.s 5, It.v (TV.ptr (Pl.o 5) 0)), (Pl.s 6, It.v (TV.c (Value.slice none 0 0))), (Pl.s 7, It.v (TV.d (D.int IntKind.i64 0))),
        (Pl.s 8, It.v (TV.d (D.sl (sbs r.1)))), (Pl.s 9, It.v (TV.d (D.int IntKind.i64 0))), (Pl.s 10, It.v (TV.oref 10 z.1.2.2.length)), (Pl.o 10, .row 70 10 (dd (pks z.1.2.2)) false), (Pl.s 22, It.v (TV.d (D.sl (sbs r.1)))), (Pl.s 23, It.v (TV.d (D.int IntKind.i64 r.1.length))), (Pl.s 24, It.v (TV.d (D.int IntKind.i64 z.1.1)))])
      (fun z => r.1.length - z.1.1) ⟨(0, q, []), by simp, by simp, fun s => rfl, rfl⟩ ?_ ?_
    · exact GS.own' (k := 10) 70 10 (by simp) (by simp) (by simp [ints, pks, h0])
    · rintro ⟨⟨i, qc, out⟩, q1, q2, q4, q3⟩
      simp only at q1 q2 q3 q4
      by_cases hq : i < r.1.length
      · obtain ⟨s, hs⟩ : ∃ s, r.1[i]? = some s := ⟨r.1[i], List.getElem?_eq_getElem hq⟩
        have hd : r.1.drop i = s :: r.1.drop (i + 1) := by rw [List.getElem?_eq_some_iff] at hs; obtain ⟨_, rfl⟩ := hs; exact List.drop_eq_getElem_cons _
        have hw := q4 s
        have ew : pkT (q.with p s) = .agg [TV.d (D.int IntKind.i64 qc.mode), TV.d (D.int IntKind.i64 p.subd), TV.d (D.int IntKind.i64 s.set), TV.d (D.int IntKind.i64 p.len), TV.d (D.int IntKind.i64 qc.ttl), TV.d (D.int IntKind.i64 qc.ent), TV.d (D.int IntKind.i64 qc.ing), TV.d (D.int IntKind.i64 qc.proto), TV.d (bv s.bits), TV.d (D.str qc.pay)] := by rw [← hw]; rfl
        simp -dsimp [hq, sbs_get' hs, Sb.cs, wrap_i64 (n := (i : Int) + 1) (by omega) (by omega)]
        try refine ⟨?_, ⟨by kernel_rfl⟩⟩
        refine ACall.of (valid_c2 (q.with p s)) [] 0 ?_
        rcases (Bool.eq_false_or_eq_true (q.with p s).ok).symm with ho | ho
        · simp -dsimp [ho, ew]
          refine Fin.view 6 ?_
          simp -dsimp
          refine Fin.of ?_
          simp [packT, h0, q3, hd, pkAll, ho, pks]
        · simp -dsimp [ho, ew, wrap_i64 (n := (i : Int) + 1) (by omega) (by omega)]
          and_intros
          all_goals try first | omega | exact ⟨by kernel_rfl⟩
          exact ⟨⟨(i + 1, qc.with p s, out ++ [qc.with p s]), by dsimp only; omega, by simp; omega, fun s' => q4 s', by dsimp only; rw [q3, hd, pkAll, if_pos ho, hw]⟩, GS.to (by simp [pks, Pk.with, Pk.cs]), by simp; omega⟩
      · simp -dsimp [hq]
        refine Fin.view 6 ?_
        simp -dsimp
        refine Fin.of ?_
        have hX : pkAll q p r.1 [] = (out, 0) := by rw [q3, List.drop_eq_nil_of_le (by omega)]; rfl
        simp [packT, h0, hX]
  · simp -dsimp [setsT, planT, h0]
    refine Fin.view 6 ?_
    simp -dsimp
    refine Fin.of ?_
    simp [packT, h0, pks]
end Go.Proofs
