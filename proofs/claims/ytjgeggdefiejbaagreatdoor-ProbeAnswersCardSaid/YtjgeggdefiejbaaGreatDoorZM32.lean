/-
  What functions of the program compute, stated as contracts over plain data; the conditions of each stand in its own statement.
-/
import Derived.Test.YtjgeggdefiejbaaGreatDoorZM31
set_option linter.unusedSimpArgs false
set_option maxRecDepth 100000
set_option maxHeartbeats 8000000
namespace Go.Proofs
open Go Go.Tr
def cD (p : Pk) (L : List (Int × Pk)) : List (List Int) := L.flatMap fun d => (bitsL d.2.bits).map fun k => [1, d.1, idAt p k, d.2.ttl]
def cS (p : Pk) (L : List (Int × BitVec 64)) : List (List Int) := L.flatMap fun x => (bitsL x.2).map fun k => [2, x.1, idAt p k, 0]
theorem colA_eq (p : Pk) (U : Trc) : colA p U = cD p U.dl ++ cS p U.ls := rfl
theorem cD_len (p : Pk) (L : List (Int × Pk)) (i : Nat) : (cD p (L.take i)).length ≤ (cD p L).length := by
 have h : (cD p L).length = (cD p (L.take i ++ L.drop i)).length := by rw [List.take_append_drop]
 rw [h]
 simp only [cD, List.flatMap_append, List.length_append]
 omega
theorem cS_len (p : Pk) (L : List (Int × BitVec 64)) (i : Nat) : (cS p (L.take i)).length ≤ (cS p L).length := by
 have h : (cS p L).length = (cS p (L.take i ++ L.drop i)).length := by rw [List.take_append_drop]
 rw [h]
 simp only [cS, List.flatMap_append, List.length_append]
 omega
theorem gotL_all {p : Pk} {kd rt tl : Int} {L : List Nat} (h : L.all (fun k : Nat => atB p.set k p.len) = true) : gotL p kd rt tl L = L.map fun k => [kd, rt, idAt p k, tl] := by
 unfold gotL
 congr 1
 induction L with
 | nil => rfl
 | cons x L ih =>
   rw [List.all_cons, Bool.and_eq_true] at h
   rw [List.takeWhile_cons, if_pos h.1, ih h.2]
theorem send_c (l : List Tb) (hl : Good l) (p : Pk) (r : Int) : Contract Tryz.prog 25 [.d (.sl (tbs l)), pkT p, .d (.int .i64 r)] [] (.tup [.d (.sl (irow (sendP l p r).1)), .d (.int .i64 (sendP l p r).2)]) [] [] := by
 have h1 := run_g l hl p r
 have hfit := run_fitL (l := l) (p := p) (r := r)
 have hsm := run_small l p r
 have hS : sendP l p r = if (runR l p r).2 ≠ 0 then ([], (runR l p r).2) else if p.mode ≠ 3 then ([], 7) else if atAll p = true then (ansL l p r, 0) else ([], 2) := rfl
 rw [hS]
 simp only [pkT, Pk.cs, List.map, trcT] at h1
 refine contract_of Tryz.func25 rfl (fun E0 => ?_)
 refine awp.sound (g := .mk) (ow := [1000084]) (kp := (fun k => k==0||k==1||k==2||k==4||k==6||k==7||k==8||k==9||k==10||k==11||k==13||k==15||k==24||k==28||k==31||k==32||k==33||k==34||k==47||k==50||k==51||k==52||k==53||k==62)) ?_
 rw [Tryz.ntmps25]
 simp -dsimp [pkT, Pk.cs]
 try refine ⟨?_, ⟨by kernel_rfl⟩⟩
 refine ACall.of h1 [] 0 ?_
 by_cases he : ¬ (runR l p r).2 = 0
 ·rw [if_pos he]
  simp -dsimp [he]
  and_intros
  all_goals try first | omega | exact ⟨by kernel_rfl⟩ | rfl
  refine Fin.view 6 ?_
  simp -dsimp
  and_intros
  all_goals try first | omega | exact ⟨by kernel_rfl⟩ | rfl
  refine Fin.of ?_
  simp [irow]
 have he : (runR l p r).2 = 0 := Decidable.not_not.1 he
 rw [if_neg (fun h => h he)]
 by_cases hm : ¬ p.mode = 3
 ·rw [if_pos hm]
  simp -dsimp [he, hm]
  and_intros
  all_goals try first | omega | exact ⟨by kernel_rfl⟩ | rfl
  refine Fin.view 6 ?_
  simp -dsimp
  and_intros
  all_goals try first | omega | exact ⟨by kernel_rfl⟩ | rfl
  refine Fin.of ?_
  simp [irow]
 have hm : p.mode = 3 := Decidable.not_not.1 hm
 rw [if_neg (fun h => h hm)]
 obtain ⟨hF, hs, hR⟩ := hfit he
 rw [hR] at hsm ⊢
 have hcl := col_len (r := r) hF
 have hca := col_at (r := r) hF
 have hcs := col_sorted2 hF hs
 have hcp := col_pre (r := r) hF
 simp -dsimp [he, hm, hR]
 and_intros
 all_goals try first | omega | exact ⟨by kernel_rfl⟩ | rfl
 generalize runG l (wt p) [(r, p)] tr0 = U at hsm hcl hca hcs hcp
 simp only at hsm
 have hlA : (colA p U).length = (cD p U.dl).length + (cS p U.ls).length := by rw [colA_eq, List.length_append]
 refine ALoop.of [1000084] (fun k => k==0||k==1||k==2||k==4||k==6||k==7||k==8||k==9||k==10||k==11||k==13||k==15||k==24||k==28||k==31||k==32||k==33||k==34||k==47||k==50||k==51||k==52||k==53||k==62) (ι := { i : Nat // i ≤ U.dl.length ∧ ∀ d ∈ U.dl.take i, (bitsL d.2.bits).all (fun k : Nat => atB p.set k p.len) = true })
  (fun z => [(Pl.o 4, It.box (p.cs.map .d)), (Pl.s 4, It.v (.ptr (Pl.o 4) 0)), (Pl.s 6, It.v (.c (Value.slice none 0 0))), (Pl.s 7, It.v (.d (.int .i64 0))), (Pl.o 8, It.box [TV.d (.sl (U.dl.map dlC)), TV.d (.sl (U.cr.map crC)), TV.d (.sl (U.ls.map lsC))]), (Pl.s 8, It.v (.ptr (Pl.o 8) 0)), (Pl.s 10, It.v (.ptr (Pl.o 10) 0)), (Pl.s 11, It.v (.clo 81 [TV.ptr (Pl.o 4) 0, TV.ptr (Pl.o 10) 0])), (Pl.o 10, It.box [TV.oref 50 (cD p (U.dl.take z.1)).length]), (Pl.o 50, It.row 61 4 (dd (irow (cD p (U.dl.take z.1)))) false), (Pl.s 31, It.v (.d (.sl (U.dl.map dlC)))), (Pl.s 32, It.v (.d (.int .i64 U.dl.length))), (Pl.s 33, It.v (.d (.int .i64 z.1)))])
  (fun z => U.dl.length - z.1) ⟨0, by omega, by simp⟩ ?_ ?_
 ·exact GS.ownB' (.o 10) 0 50 (cs := [TV.c (Value.slice none 0 0)]) 61 4 rfl (by simp) (by simp) (by simp) (by simp [cD, irow, Pk.cs, hm])
 rintro ⟨i, i1, i2⟩
 have hli := cD_len p U.dl i
 by_cases hi : i < U.dl.length
 ·have hiz : (i : Int) < U.dl.length := by omega
  have hge : U.dl[i]? = some U.dl[i] := List.getElem?_eq_getElem hi
  have hdm : U.dl[i] ∈ U.dl := List.getElem_mem hi
  generalize U.dl[i] = d at hge hdm
  have hst : cD p (U.dl.take (i + 1)) = cD p (U.dl.take i) ++ (bitsL d.2.bits).map fun k => [1, d.1, idAt p k, d.2.ttl] := by rw [cD, cD, List.take_add_one, hge]; simp
  have hA := ans_c p (cD p (U.dl.take i)) (by omega) 1 d.1 d.2.ttl d.2.bits
  simp only [bv, Pk.cs, List.map] at hA
  rcases (Bool.eq_false_or_eq_true ((bitsL d.2.bits).all fun k : Nat => atB p.set k p.len)).symm with hat | hat
  ·have hno : ¬ atAll p = true := fun h => by have := (hca.1 h).1 d hdm; rw [hat] at this; simp at this
   rw [if_neg hno]
   rw [hat] at hA
   simp -dsimp [hiz, hge, dlC, Pk.cs, bv]
   and_intros
   all_goals try first | omega | exact ⟨by kernel_rfl⟩ | rfl
   refine ACall.of2 hA [.o 4, .o 10] [(900, 50)] 1000 ?_
   simp -dsimp
   and_intros
   all_goals try first | omega | exact ⟨by kernel_rfl⟩ | rfl
   refine Fin.view 6 ?_
   simp -dsimp
   and_intros
   all_goals try first | omega | exact ⟨by kernel_rfl⟩ | rfl
   refine Fin.of ?_
   simp [irow]
  ·rw [gotL_all hat, ← hst] at hA
   rw [hat] at hA
   simp -dsimp [hiz, hge, dlC, Pk.cs, bv]
   and_intros
   all_goals try first | omega | exact ⟨by kernel_rfl⟩ | rfl
   refine ACall.of2 hA [.o 4, .o 10] [(900, 50)] 1000 ?_
   simp -dsimp [wrap_i64 (n := (i : Int) + 1) (by omega) (by omega)]
   and_intros
   all_goals try first | omega | exact ⟨by kernel_rfl⟩ | rfl
   refine ⟨⟨i + 1, by omega, fun e he => ?_⟩, (GS.to (l' := [(Pl.o 4, It.box (p.cs.map .d)), (Pl.s 4, It.v (.ptr (Pl.o 4) 0)), (Pl.s 6, It.v (.c (Value.slice none 0 0))), (Pl.s 7, It.v (.d (.int .i64 0))), (Pl.o 8, It.box [TV.d (.sl (U.dl.map dlC)), TV.d (.sl (U.cr.map crC)), TV.d (.sl (U.ls.map lsC))]), (Pl.s 8, It.v (.ptr (Pl.o 8) 0)), (Pl.s 10, It.v (.ptr (Pl.o 10) 0)), (Pl.s 11, It.v (.clo 81 [TV.ptr (Pl.o 4) 0, TV.ptr (Pl.o 10) 0])), (Pl.o 10, It.box [TV.oref 1900 (cD p (U.dl.take (i + 1))).length]), (Pl.o 1900, It.row 61 4 (dd (irow (cD p (U.dl.take (i + 1))))) false), (Pl.s 31, It.v (.d (.sl (U.dl.map dlC)))), (Pl.s 32, It.v (.d (.int .i64 U.dl.length))), (Pl.s 33, It.v (.d (.int .i64 ((i : Int) + 1))))]) (by simp [Pk.cs, bv])).trans (GS.ren' 1900 50 (by omega) (by simp) (by simp [renP, renI_row, renI_v, renI_box, renN, TV.ren, TV.rens, rens_dd, Pk.cs, bv])), by simp; omega⟩
   rw [List.take_add_one, hge] at he
   rcases List.mem_append.1 he with he | he
   ·exact i2 e he
   ·obtain rfl : e = d := by simpa using he
    exact hat
 have hiz : ¬ (i : Int) < U.dl.length := by omega
 obtain rfl : i = U.dl.length := by omega
 rw [List.take_length] at i2
 simp only [List.take_length]
 simp -dsimp [hiz]
 and_intros
 all_goals try first | omega | exact ⟨by kernel_rfl⟩ | rfl
 refine ALoop.of [1000084] (fun k => k==0||k==1||k==2||k==4||k==6||k==7||k==8||k==9||k==10||k==11||k==13||k==15||k==24||k==28||k==31||k==32||k==33||k==34||k==47||k==50||k==51||k==52||k==53||k==62) (ι := { i : Nat // i ≤ U.ls.length ∧ ∀ d ∈ U.ls.take i, (bitsL d.2).all (fun k : Nat => atB p.set k p.len) = true })
  (fun z => [(Pl.o 4, It.box (p.cs.map .d)), (Pl.s 4, It.v (.ptr (Pl.o 4) 0)), (Pl.s 6, It.v (.c (Value.slice none 0 0))), (Pl.s 7, It.v (.d (.int .i64 0))), (Pl.o 8, It.box [TV.d (.sl (U.dl.map dlC)), TV.d (.sl (U.cr.map crC)), TV.d (.sl (U.ls.map lsC))]), (Pl.s 8, It.v (.ptr (Pl.o 8) 0)), (Pl.s 10, It.v (.ptr (Pl.o 10) 0)), (Pl.s 11, It.v (.clo 81 [TV.ptr (Pl.o 4) 0, TV.ptr (Pl.o 10) 0])), (Pl.o 10, It.box [TV.oref 50 (cD p U.dl ++ cS p (U.ls.take z.1)).length]), (Pl.o 50, It.row 61 4 (dd (irow (cD p U.dl ++ cS p (U.ls.take z.1)))) false), (Pl.s 50, It.v (.d (.sl (U.ls.map lsC)))), (Pl.s 51, It.v (.d (.int .i64 U.ls.length))), (Pl.s 52, It.v (.d (.int .i64 z.1)))])
  (fun z => U.ls.length - z.1) ⟨0, by omega, by simp⟩ ?_ ?_
 ·exact GS.to (by simp [cS, Pk.cs])
 rintro ⟨i, i1, i3⟩
 have hli := cS_len p U.ls i
 by_cases hi : i < U.ls.length
 ·have hiz : (i : Int) < U.ls.length := by omega
  have hge : U.ls[i]? = some U.ls[i] := List.getElem?_eq_getElem hi
  have hdm : U.ls[i] ∈ U.ls := List.getElem_mem hi
  generalize U.ls[i] = d at hge hdm
  have hst : (cD p U.dl ++ cS p (U.ls.take (i + 1))) = (cD p U.dl ++ cS p (U.ls.take i)) ++ (bitsL d.2).map fun k => [2, d.1, idAt p k, 0] := by rw [cS, cS, List.take_add_one, hge]; simp
  have hA := ans_c p (cD p U.dl ++ cS p (U.ls.take i)) (by rw [List.length_append]; omega) 2 d.1 0 d.2
  simp only [bv, Pk.cs, List.map] at hA
  rcases (Bool.eq_false_or_eq_true ((bitsL d.2).all fun k : Nat => atB p.set k p.len)).symm with hat | hat
  ·have hno : ¬ atAll p = true := fun h => by have := (hca.1 h).2 d hdm; rw [hat] at this; simp at this
   rw [if_neg hno]
   rw [hat] at hA
   simp -dsimp [hiz, hge, lsC, Pk.cs, bv]
   and_intros
   all_goals try first | omega | exact ⟨by kernel_rfl⟩ | rfl
   refine ACall.of2 hA [.o 4, .o 10] [(900, 50)] 1000 ?_
   simp -dsimp
   and_intros
   all_goals try first | omega | exact ⟨by kernel_rfl⟩ | rfl
   refine Fin.view 6 ?_
   simp -dsimp
   and_intros
   all_goals try first | omega | exact ⟨by kernel_rfl⟩ | rfl
   refine Fin.of ?_
   simp [irow]
  ·rw [gotL_all hat, ← hst] at hA
   rw [hat] at hA
   simp -dsimp [hiz, hge, lsC, Pk.cs, bv]
   and_intros
   all_goals try first | omega | exact ⟨by kernel_rfl⟩ | rfl
   refine ACall.of2 hA [.o 4, .o 10] [(900, 50)] 1000 ?_
   simp -dsimp [wrap_i64 (n := (i : Int) + 1) (by omega) (by omega)]
   and_intros
   all_goals try first | omega | exact ⟨by kernel_rfl⟩ | rfl
   refine ⟨⟨i + 1, by omega, fun e he => ?_⟩, (GS.to (l' := [(Pl.o 4, It.box (p.cs.map .d)), (Pl.s 4, It.v (.ptr (Pl.o 4) 0)), (Pl.s 6, It.v (.c (Value.slice none 0 0))), (Pl.s 7, It.v (.d (.int .i64 0))), (Pl.o 8, It.box [TV.d (.sl (U.dl.map dlC)), TV.d (.sl (U.cr.map crC)), TV.d (.sl (U.ls.map lsC))]), (Pl.s 8, It.v (.ptr (Pl.o 8) 0)), (Pl.s 10, It.v (.ptr (Pl.o 10) 0)), (Pl.s 11, It.v (.clo 81 [TV.ptr (Pl.o 4) 0, TV.ptr (Pl.o 10) 0])), (Pl.o 10, It.box [TV.oref 1900 (cD p U.dl ++ cS p (U.ls.take (i + 1))).length]), (Pl.o 1900, It.row 61 4 (dd (irow (cD p U.dl ++ cS p (U.ls.take (i + 1))))) false), (Pl.s 50, It.v (.d (.sl (U.ls.map lsC)))), (Pl.s 51, It.v (.d (.int .i64 U.ls.length))), (Pl.s 52, It.v (.d (.int .i64 ((i : Int) + 1))))]) (by simp [Pk.cs, bv])).trans (GS.ren' 1900 50 (by omega) (by simp) (by simp [renP, renI_row, renI_v, renI_box, renN, TV.ren, TV.rens, rens_dd, Pk.cs, bv])), by simp; omega⟩
   rw [List.take_add_one, hge] at he
   rcases List.mem_append.1 he with he | he
   ·exact i3 e he
   ·obtain rfl : e = d := by simpa using he
    exact hat
 have hiz : ¬ (i : Int) < U.ls.length := by omega
 obtain rfl : i = U.ls.length := by omega
 rw [List.take_length] at i3
 simp only [List.take_length]
 have hA : atAll p = true := hca.2 ⟨i2, i3⟩
 rw [if_pos hA]
 have hpre : Parts2 cfA (colA p U) := parts_cfA (hcp hA)
 have hS := hcs hA
 have hlS : (ansL l p r).length = (colA p U).length := by rw [← hS, List.length_mergeSort]
 have hcA := colA_eq p U
 simp -dsimp [hiz]
 and_intros
 all_goals try first | omega | exact ⟨by kernel_rfl⟩ | rfl
 rw [← hcA]
 refine ACall.sortF sortAns_c (colA p U) ?_
 simp -dsimp [hpre, hS, ← List.length_append, ← hcA]
 and_intros
 all_goals try first | omega | exact ⟨by kernel_rfl⟩ | rfl
 refine Fin.view 6 ?_
 simp -dsimp [hlS]
 and_intros
 all_goals try first | omega | exact ⟨by kernel_rfl⟩ | rfl
 refine Fin.of ?_
 simp
set_option linter.unusedVariables false
def kdE (e : Bool × Int × Nat) : Int := if e.1 = true then 1 else 2
def ltE (e : Bool × Int × Nat) : Int := if e.1 = true then (e.2.2 : Int) else 0
theorem ansE_eq (e : Bool × Int × Nat) (id : Int) : ansE e id = [kdE e, e.2.1, id, ltE e] := by
 unfold ansE kdE ltE
 split <;> rfl
def oneB (l : List Tb) (r id en ttl : Int) : Int :=
 if chkA l ≠ 0 then 1 else match findT l r with
 | none => 4
 | some b => if (validLen b.len && inB id 1 256) = false ∨ 31 < plSet id b.len ∨ en < 0 ∨ 1023 < en ∨ ttl < 0 ∨ 63 < ttl then 2 else 0
theorem oneB_ttl {l : List Tb} {r id en t u : Int} (ht : 0 ≤ t ∧ t ≤ 63) (hu : 0 ≤ u ∧ u ≤ 63) : oneB l r id en t = oneB l r id en u := by
 unfold oneB
 split
 ·rfl
 ·split
  ·rfl
  ·have e1 : ¬ t < 0 := by omega
   have e2 : ¬ 63 < t := by omega
   have e3 : ¬ u < 0 := by omega
   have e4 : ¬ 63 < u := by omega
   simp [e1, e2, e3, e4]
theorem endE_0 (l : List Tb) (id pl : Int) (r : Int) : (endE l id pl 0 r).2.1 = r := by
 rw [endE]
 cases findT l r with
 | none => rfl
 | some b => simp only; split <;> (try split) <;> rfl
theorem endE_nz (l : List Tb) (id pl : Int) : ∀ (t : Nat) {r : Int}, r ≠ 0 → (endE l id pl t r).2.1 ≠ 0
 | 0, r, h => by rw [endE_0]; exact h
 | t + 1, r, h => by
   rw [endE]
   cases hf : findT l r with
   | none => exact h
   | some b =>
     simp only
     split
     ·exact h
     ·split
      ·exact h
      ·rename_i h1 h2
       exact endE_nz l id pl t h1
def nxtP (l : List Tb) (r id pl : Int) : Int × Int :=
 if oneB l r id pl 1 ≠ 0 then (0, oneB l r id pl 1) else if pl < 0 ∨ 8 ≤ pl then (0, 2) else
 if (endE l id (pl % 8) 1 r).2.1 = r ∧ kdE (endE l id (pl % 8) 1 r) ≠ 1 then (0, 0) else ((endE l id (pl % 8) 1 r).2.1, 0)
def rtL (l : List Tb) (r id pl : Int) : Nat → Nat → Int → List Int → List Int
 | 0, _, _, out => out
 | n + 1, t, last, out =>
   let e := endE l id pl t r
   if e.2.1 = last then out else if e.1 = true then out ++ [e.2.1] else rtL l r id pl n (t + 1) e.2.1 (out ++ [e.2.1])
theorem rtL_len (l : List Tb) (r id pl : Int) : ∀ (n t : Nat) (last : Int) (out : List Int), (rtL l r id pl n t last out).length ≤ out.length + n
 | 0, _, _, out => by simp [rtL]
 | n + 1, t, last, out => by
   rw [rtL]
   try simp only
   split
   ·omega
   ·split
    ·simp
    ·have := rtL_len l r id pl n (t + 1) (endE l id pl t r).2.1 (out ++ [(endE l id pl t r).2.1])
     simp at this
     omega
def rtR (l : List Tb) (r id en : Int) : List Int := if (endE l id (en % 8) 0 r).1 = true then [] else rtL l r id (en % 8) 63 1 r []
def rtP (l : List Tb) (r id en : Int) : List Int × Int := if oneB l r id en 0 ≠ 0 then ([], oneB l r id en 0) else (rtR l r id en, 0)
def ansT (b : Bool) (e : Bool × Int × Nat) (id : Int) : TV := if b then .agg [.d (.int .i64 (kdE e)), .d (.int .i64 e.2.1), .d (.int .i64 id), .d (.int .i64 (ltE e))] else .agg [.d (.int .i64 0), .d (.int .i64 0), .d (.int .i64 0), .d (.int .i64 0)]
theorem kdE_or (e : Bool × Int × Nat) : kdE e = 1 ∨ kdE e = 2 := by unfold kdE; split <;> simp
theorem probe1_c (l : List Tb) (hl : Good l) (r id en ttl : Int) : Contract Tryz.prog 24 [.d (.sl (tbs l)), .d (.int .i64 r), .d (.int .i64 id), .d (.int .i64 en), .d (.int .i64 ttl)] [] (.tup [ansT (decide (oneB l r id en ttl = 0)) (endE l id (en % 8) ttl.toNat r) id, .d (.int .i64 (oneB l r id en ttl))]) [] [] := by
 have hck := checkA_cL l hl.big
 refine contract_of Tryz.func24 rfl (fun E0 => ?_)
 refine awp.sound (g := .mk) (ow := []) (kp := (fun k => k==0||k==1||k==2||k==3||k==4||k==10||k==11||k==12||k==13||k==14||k==15||k==16||k==17||k==18||k==21||k==30||k==61||k==86)) ?_
 rw [Tryz.ntmps24]
 simp -dsimp
 and_intros
 all_goals try first | omega | exact ⟨by kernel_rfl⟩ | rfl
 refine ACall.of hck [] 0 ?_
 by_cases hA : ¬ chkA l = 0
 ·have hB : oneB l r id en ttl = 1 := by unfold oneB; rw [if_pos hA]
  rw [hB]
  simp -dsimp [hA]
  and_intros
  all_goals try first | omega | exact ⟨by kernel_rfl⟩ | rfl
  refine Fin.of ?_
  simp [ansT]
 have hA : chkA l = 0 := Decidable.not_not.1 hA
 have hf := find_c l (hl.sm hA) r
 cases hfT : findT l r with
 | none =>
   have hB : oneB l r id en ttl = 4 := by unfold oneB; rw [if_neg (by simp [hA]), hfT]
   rw [hB]
   rw [hfT] at hf
   simp only [foundT, Option.getD_none, Option.isSome_none, tblT, tb0] at hf
   simp -dsimp [hA]
   and_intros
   all_goals try first | omega | exact ⟨by kernel_rfl⟩ | rfl
   refine ACall.of hf [] 0 ?_
   simp -dsimp
   and_intros
   all_goals try first | omega | exact ⟨by kernel_rfl⟩ | rfl
   refine Fin.of ?_
   simp [ansT]
 | some b =>
   rw [hfT] at hf
   simp only [foundT, Option.getD_some, Option.isSome_some, tblT] at hf
   have hpl := place10_c2 id b.len
   simp only [placeT] at hpl
   have hB : oneB l r id en ttl = if (validLen b.len && inB id 1 256) = false ∨ 31 < plSet id b.len ∨ en < 0 ∨ 1023 < en ∨ ttl < 0 ∨ 63 < ttl then 2 else 0 := by unfold oneB; rw [if_neg (by simp [hA]), hfT]
   simp -dsimp [hA]
   and_intros
   all_goals try first | omega | exact ⟨by kernel_rfl⟩ | rfl
   refine ACall.of hf [] 0 ?_
   simp -dsimp
   and_intros
   all_goals try first | omega | exact ⟨by kernel_rfl⟩ | rfl
   refine ACall.of hpl [] 0 ?_
   rcases (Bool.eq_false_or_eq_true (validLen b.len && inB id 1 256)).symm with hv | hv
   ·rw [if_pos (by simp [hv])] at hB
    rw [hB]
    simp -dsimp [hv]
    and_intros
    all_goals try first | omega | exact ⟨by kernel_rfl⟩ | rfl
    refine Fin.of ?_
    simp [ansT]
   ·by_cases hs : 31 < plSet id b.len
    ·rw [if_pos (by simp [hv, hs])] at hB
     rw [hB]
     simp -dsimp [hv, hs]
     and_intros
     all_goals try first | omega | exact ⟨by kernel_rfl⟩ | rfl
     refine Fin.of ?_
     simp [ansT]
    by_cases he0 : en < 0
    ·rw [if_pos (by simp [hv, hs, he0])] at hB
     rw [hB]
     simp -dsimp [hv, hs, he0]
     and_intros
     all_goals try first | omega | exact ⟨by kernel_rfl⟩ | rfl
     refine Fin.of ?_
     simp [ansT]
    by_cases he1 : 1023 < en
    ·rw [if_pos (by simp [hv, hs, he0, he1])] at hB
     rw [hB]
     simp -dsimp [hv, hs, he0, he1]
     and_intros
     all_goals try first | omega | exact ⟨by kernel_rfl⟩ | rfl
     refine Fin.of ?_
     simp [ansT]
    by_cases ht0 : ttl < 0
    ·rw [if_pos (by simp [hv, hs, he0, he1, ht0])] at hB
     rw [hB]
     simp -dsimp [hv, hs, he0, he1, ht0]
     and_intros
     all_goals try first | omega | exact ⟨by kernel_rfl⟩ | rfl
     refine Fin.of ?_
     simp [ansT]
    by_cases ht1 : 63 < ttl
    ·rw [if_pos (by simp [hv, hs, he0, he1, ht0, ht1])] at hB
     rw [hB]
     simp -dsimp [hv, hs, he0, he1, ht0, ht1]
     and_intros
     all_goals try first | omega | exact ⟨by kernel_rfl⟩ | rfl
     refine Fin.of ?_
     simp [ansT]
    rw [if_neg (by simp [hv]; omega)] at hB
    rw [hB]
    have hS := send_c l hl (pkOne b id en ttl) r
    rw [one_ok hA hfT hv ⟨by omega, by omega⟩ ⟨by omega, by omega⟩, ansE_eq] at hS
    simp only [pkT, Pk.cs, pkOne, List.map, irow, bv] at hS
    have hpb := plB id b.len
    have hsh : (1#64 <<< (plBit id b.len).toNat) = bitB (plBit id b.len) := by
     unfold bitB
     rw [if_neg (by omega), wrap_u64 (by omega) (by omega)]
    simp -dsimp [hv, hs, he0, he1, ht0, ht1, hsh]
    and_intros
    all_goals try first | omega | exact ⟨by kernel_rfl⟩ | rfl
    refine ACall.of hS [] 0 ?_
    simp -dsimp
    and_intros
    all_goals try first | omega | exact ⟨by kernel_rfl⟩ | rfl | exact hsh
    refine Fin.of ?_
    simp [ansT]
theorem pnext_c (l : List Tb) (hl : Good l) (r id pl : Int) : Contract Tryz.prog 33 [.d (.sl (tbs l)), .d (.int .i64 r), .d (.int .i64 id), .d (.int .i64 pl)] [] (.tup [.d (.int .i64 (nxtP l r id pl).1), .d (.int .i64 (nxtP l r id pl).2)]) [] [] := by
 have h1 := probe1_c l hl r id pl 1
 rw [show (1 : Int).toNat = 1 from rfl] at h1
 have hN : nxtP l r id pl = if oneB l r id pl 1 ≠ 0 then (0, oneB l r id pl 1) else if pl < 0 ∨ 8 ≤ pl then (0, 2) else
  if (endE l id (pl % 8) 1 r).2.1 = r ∧ kdE (endE l id (pl % 8) 1 r) ≠ 1 then (0, 0) else ((endE l id (pl % 8) 1 r).2.1, 0) := rfl
 rw [hN]
 generalize endE l id (pl % 8) 1 r = e at h1
 generalize oneB l r id pl 1 = o at h1
 have hkd := kdE_or e
 refine contract_of Tryz.func33 rfl (fun E0 => ?_)
 refine awp.sound (g := .mk) (ow := []) (kp := (fun k => k==0||k==1||k==2||k==3||k==8||k==9||k==10||k==11||k==21||k==28||k==37)) ?_
 rw [Tryz.ntmps33]
 by_cases ho : o = 0
 ·subst ho
  simp only [ansT, decide_true, if_true] at h1
  rw [if_neg (by simp)]
  simp -dsimp
  and_intros
  all_goals try first | omega | exact ⟨by kernel_rfl⟩ | rfl
  refine ACall.of h1 [] 0 ?_
  by_cases p0 : pl < 0
  ·rw [if_pos (.inl p0)]
   simp -dsimp [p0]
   and_intros
   all_goals try first | omega | exact ⟨by kernel_rfl⟩ | rfl
   refine Fin.of ?_
   simp
  by_cases p1 : 8 ≤ pl
  ·rw [if_pos (.inr p1)]
   simp -dsimp [p0, p1]
   and_intros
   all_goals try first | omega | exact ⟨by kernel_rfl⟩ | rfl
   refine Fin.of ?_
   simp
  rw [if_neg (by omega)]
  by_cases c1 : e.2.1 = r
  ·by_cases c2 : kdE e = 1
   ·rw [if_neg (by simp [c2])]
    simp -dsimp [p0, p1, c1, c2]
    and_intros
    all_goals try first | omega | exact ⟨by kernel_rfl⟩ | rfl
    refine Fin.of ?_
    simp [c1]
   ·rw [if_pos ⟨c1, c2⟩]
    simp -dsimp [p0, p1, c1, c2]
    and_intros
    all_goals try first | omega | exact ⟨by kernel_rfl⟩ | rfl
    refine Fin.of ?_
    simp
  ·rw [if_neg (fun h => c1 h.1)]
   simp -dsimp [p0, p1, c1]
   and_intros
   all_goals try first | omega | exact ⟨by kernel_rfl⟩ | rfl
   refine Fin.of ?_
   simp
 ·simp only [ansT, decide_eq_false ho, Bool.false_eq_true, if_false] at h1
  rw [if_pos ho]
  simp -dsimp [ho]
  and_intros
  all_goals try first | omega | exact ⟨by kernel_rfl⟩ | rfl
  refine ACall.of h1 [] 0 ?_
  simp -dsimp [ho]
  and_intros
  all_goals try first | omega | exact ⟨by kernel_rfl⟩ | rfl
  refine Fin.of ?_
  simp
theorem proute_c (l : List Tb) (hl : Good l) (r id en : Int) : Contract Tryz.prog 17 [.d (.sl (tbs l)), .d (.int .i64 r), .d (.int .i64 id), .d (.int .i64 en)] [] (.tup [.d (ints (rtP l r id en).1), .d (.int .i64 (rtP l r id en).2)]) [] [] := by
 have h1 : ∀ t : Nat, t < 64 → Contract Tryz.prog 24 [.d (.sl (tbs l)), .d (.int .i64 r), .d (.int .i64 id), .d (.int .i64 en), .d (.int .i64 t)] [] (.tup [ansT (decide (oneB l r id en 0 = 0)) (endE l id (en % 8) t r) id, .d (.int .i64 (oneB l r id en 0))]) [] [] := fun t ht => by
  have := probe1_c l hl r id en t
  rw [oneB_ttl (t := t) (u := 0) (by omega) (by omega), Int.toNat_natCast] at this
  exact this
 have hP : rtP l r id en = if oneB l r id en 0 ≠ 0 then ([], oneB l r id en 0) else (rtR l r id en, 0) := rfl
 have hrz : oneB l r id en 0 = 0 → r ≠ 0 := fun h => by
  unfold oneB at h
  split at h
  ·simp at h
  ·rename_i hA
   have hA : chkA l = 0 := Decidable.not_not.1 hA
   cases hf : findT l r with
   | none => simp [hf] at h
   | some b =>
     obtain ⟨hb, hbr⟩ := findT_mem hf
     have h1 : 1 ≤ b.r := (chk_parts (chkA_all hA b hb)).1.1.1
     omega
 rw [hP]
 refine contract_of Tryz.func17 rfl (fun E0 => ?_)
 refine awp.sound (g := .mk) (ow := [10]) (kp := (fun k => k==0||k==1||k==2||k==3||k==8||k==9||k==10||k==11||k==12||k==13||k==14||k==15||k==16||k==28||k==33||k==35||k==43)) ?_
 rw [Tryz.ntmps17]
 by_cases ho : oneB l r id en 0 = 0
 ·have hr0 := hrz ho
  rw [if_neg (by simp [ho])]
  simp only [ho, ansT, decide_true, if_true] at h1
  have hR : rtR l r id en = if (endE l id (en % 8) 0 r).1 = true then [] else rtL l r id (en % 8) 63 1 r [] := rfl
  have hE0 := endE_0 l id (en % 8) r
  generalize en % 8 = pl at h1 hR hE0
  simp -dsimp
  and_intros
  all_goals try first | omega | exact ⟨by kernel_rfl⟩ | rfl
  refine ALoop.of [10] (fun k => k==0||k==1||k==2||k==3||k==8||k==9||k==10||k==11||k==12||k==13||k==14||k==15||k==16||k==28||k==33||k==35||k==43) (ι := { z : Nat × Int × List Int // z.1 ≤ 64 ∧ z.2.2.length ≤ z.1 ∧ ((z.1 = 0 ∧ z.2.1 = 0 ∧ z.2.2 = []) ∨ (1 ≤ z.1 ∧ z.2.1 ≠ 0 ∧ rtR l r id en = rtL l r id pl (64 - z.1) z.1 z.2.1 z.2.2)) })
   (fun z => [(Pl.s 0, It.v (.d (.sl (tbs l)))), (Pl.s 1, It.v (.d (.int .i64 r))), (Pl.s 2, It.v (.d (.int .i64 id))), (Pl.s 3, It.v (.d (.int .i64 en))), (Pl.s 8, It.v (.c (Value.slice none 0 0))), (Pl.s 9, It.v (.d (.int .i64 0))), (Pl.s 10, It.v (.oref 10 z.1.2.2.length)), (Pl.o 10, It.row 3 1 (dd (nrow .i64 z.1.2.2)) false), (Pl.s 11, It.v (.d (.int .i64 z.1.2.1))), (Pl.s 15, It.v (.d (.int .i64 z.1.1)))])
   (fun z => 64 - z.1.1) ⟨(0, 0, []), by omega, by simp, .inl ⟨rfl, rfl, rfl⟩⟩ ?_ ?_
  ·exact GS.own' (k := 10) 3 1 (by simp) (by simp) (by simp [nrow])
  rintro ⟨⟨t, last, out⟩, z1, z2, z3⟩
  simp only at z1 z2 z3
  by_cases ht : t < 64
  ·have htz : (t : Int) < 64 := by omega
   have hc := h1 t ht
   rcases z3 with ⟨rfl, rfl, rfl⟩ | ⟨z4, z5, z6⟩
   ·generalize endE l id pl 0 r = e at hc hR hE0
    obtain ⟨k, q, m⟩ := e
    simp only at hE0
    subst hE0
    simp only at hR hc
    have hc0 : (((0 : Nat) : Int)) = 0 := rfl
    simp only [hc0] at hc
    cases k with
    | true =>
      simp only [if_true] at hR
      simp only [kdE, ltE, if_true] at hc
      simp -dsimp [hr0]
      and_intros
      all_goals try first | omega | exact ⟨by kernel_rfl⟩ | rfl
      refine ACall.of hc [] 0 ?_
      simp -dsimp [hr0]
      and_intros
      all_goals try first | omega | exact ⟨by kernel_rfl⟩ | rfl
      refine Fin.view 8 ?_
      simp -dsimp
      and_intros
      all_goals try first | omega | exact ⟨by kernel_rfl⟩ | rfl | (simp [nrow]; done)
      refine Fin.of ?_
      simp [ints, nrow, hR]
    | false =>
      simp only [Bool.false_eq_true, if_false] at hR
      simp only [kdE, ltE, Bool.false_eq_true, if_false] at hc
      simp -dsimp [hr0]
      and_intros
      all_goals try first | omega | exact ⟨by kernel_rfl⟩ | rfl
      refine ACall.of hc [] 0 ?_
      simp -dsimp [hr0]
      and_intros
      all_goals try first | omega | exact ⟨by kernel_rfl⟩ | rfl
      exact ⟨⟨(1, q, []), by omega, by simp, .inr ⟨by omega, hr0, hR⟩⟩, GS.to (by simp [nrow, wrap_i64 (n := 1) (by omega) (by omega)]), by simp⟩
   ·rw [show 64 - t = (63 - t) + 1 by omega, rtL] at z6
    try simp only at z6
    have hnz := endE_nz l id pl t hr0
    generalize endE l id pl t r = e at hc z6 hnz
    obtain ⟨k, q, m⟩ := e
    try simp only at z6 hnz
    by_cases hq : q = last
    ·rw [if_pos hq] at z6
     try simp only at hc
     simp -dsimp [htz, ht]
     and_intros
     all_goals try first | omega | exact ⟨by kernel_rfl⟩ | rfl
     refine ACall.of hc [] 0 ?_
     simp -dsimp [hq]
     and_intros
     all_goals try first | omega | exact ⟨by kernel_rfl⟩ | rfl
     refine Fin.view 8 ?_
     simp -dsimp
     and_intros
     all_goals try first | omega | exact ⟨by kernel_rfl⟩ | rfl | (simp [nrow]; done)
     refine Fin.of ?_
     simp [ints, nrow, z6]
    ·rw [if_neg hq] at z6
     cases k with
     | true =>
       simp only [if_true] at z6
       simp only [kdE, ltE, if_true] at hc
       simp -dsimp [htz, ht]
       and_intros
       all_goals try first | omega | exact ⟨by kernel_rfl⟩ | rfl
       refine ACall.of hc [] 0 ?_
       simp -dsimp [hq, z5]
       and_intros
       all_goals try first | omega | exact ⟨by kernel_rfl⟩ | rfl | (simp [nrow]; done) | (simp [nrow]; omega)
       refine Fin.view 8 ?_
       simp -dsimp
       and_intros
       all_goals try first | omega | exact ⟨by kernel_rfl⟩ | rfl | (simp [nrow]; done)
       refine Fin.of ?_
       simp [ints, nrow, z6]
     | false =>
       simp only [Bool.false_eq_true, if_false] at z6
       simp only [kdE, ltE, Bool.false_eq_true, if_false] at hc
       simp -dsimp [htz, ht]
       and_intros
       all_goals try first | omega | exact ⟨by kernel_rfl⟩ | rfl
       refine ACall.of hc [] 0 ?_
       simp -dsimp [hq, z5, wrap_i64 (n := (t : Int) + 1) (by omega) (by omega)]
       and_intros
       all_goals try first | omega | exact ⟨by kernel_rfl⟩ | rfl | (simp [nrow]; done) | (simp [nrow]; omega)
       exact ⟨⟨(t + 1, q, out ++ [q]), by omega, by simp; omega, .inr ⟨by omega, hnz, by rw [show 64 - (t + 1) = 63 - t by omega]; exact z6⟩⟩, GS.to (by simp [nrow]), by simp; omega⟩
  ·have htz : ¬ (t : Int) < 64 := by omega
   obtain rfl : t = 64 := by omega
   rcases z3 with ⟨z4, _⟩ | ⟨z4, z5, z6⟩
   ·omega
   ·rw [show 64 - 64 = 0 from rfl, rtL] at z6
    simp -dsimp [htz]
    and_intros
    all_goals try first | omega | exact ⟨by kernel_rfl⟩ | rfl
    refine Fin.view 8 ?_
    simp -dsimp
    and_intros
    all_goals try first | omega | exact ⟨by kernel_rfl⟩ | rfl | (simp [nrow]; done)
    refine Fin.of ?_
    simp [ints, nrow, z6]
 ·rw [if_pos ho]
  have hc := h1 0 (by omega)
  simp only [ansT, decide_eq_false ho, Bool.false_eq_true, if_false] at hc
  have hc0 : (((0 : Nat) : Int)) = 0 := rfl
  simp only [hc0] at hc
  simp -dsimp
  and_intros
  all_goals try first | omega | exact ⟨by kernel_rfl⟩ | rfl
  refine ALoop.of [10] (fun k => k==0||k==1||k==2||k==3||k==8||k==9||k==10||k==11||k==12||k==13||k==14||k==15||k==16||k==28||k==33||k==35||k==43) (ι := Unit)
   (fun z => [(Pl.s 0, It.v (.d (.sl (tbs l)))), (Pl.s 1, It.v (.d (.int .i64 r))), (Pl.s 2, It.v (.d (.int .i64 id))), (Pl.s 3, It.v (.d (.int .i64 en))), (Pl.s 8, It.v (.c (Value.slice none 0 0))), (Pl.s 9, It.v (.d (.int .i64 0))), (Pl.s 11, It.v (.d (.int .i64 0))), (Pl.s 15, It.v (.d (.int .i64 0)))])
   (fun z => 0) () ?_ ?_
  ·exact GS.to (by simp)
  rintro ⟨⟩
  simp -dsimp
  and_intros
  all_goals try first | omega | exact ⟨by kernel_rfl⟩ | rfl
  refine ACall.of hc [] 0 ?_
  simp -dsimp [ho]
  and_intros
  all_goals try first | omega | exact ⟨by kernel_rfl⟩ | rfl
  refine Fin.view 8 ?_
  simp -dsimp
  and_intros
  all_goals try first | omega | exact ⟨by kernel_rfl⟩ | rfl
  refine Fin.of ?_
  simp [ints]
end Go.Proofs
