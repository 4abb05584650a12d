/-
  What functions of the program compute, stated as contracts over plain data; the conditions of each stand in its own statement.
-/
import Derived.Test.YteenclepbpajdaaV1
set_option linter.unusedSimpArgs false
set_option maxRecDepth 100000
set_option maxHeartbeats 2000000
namespace Go.Proofs
open Go Go.Tr
theorem indexT0_c (l : List Tb) (hl : l.length ≤ 1000000) (f : FuncId) (q : Tb → Bool) (hf : ∀ x, x ∈ l → Contract Try.prog f [tblT x] [] (.d (.bool (q x))) [] []) (hok : fnOK Try.prog f = true) :
    Contract Try.prog 69 [.d (.sl (l.map Tb.cs)), .clo f []] [] (.d (.int .i64 (idxR q l))) [] [] := by
  refine contract_of Try.func69 rfl (fun E0 => ?_)
  refine awp.sound (g := .mk) (ow := []) (kp := (fun k => k == 0 || k == 1 || k == 4 || k == 5 || k == 7 || k == 8 || k == 9 || k == 16)) ?_
  rw [Try.ntmps69]
  simp -dsimp
  refine ALoop.of [] (fun k => k == 0 || k == 1 || k == 4 || k == 5 || k == 7 || k == 8 || k == 9 || k == 16) (ι := { i : Nat // i ≤ l.length ∧ ∀ a, a < i → ∀ x, l[a]? = some x → q x = false })
    (fun z => [(Pl.s 0, It.v (TV.d (D.sl (l.map Tb.cs)))), (Pl.s 1, It.v (TV.clo f [])), (Pl.s 4, It.v (TV.d (D.int IntKind.i64 0))), (Pl.s 7, It.v (TV.d (D.int IntKind.i64 l.length))), (Pl.s 8, It.v (TV.d (D.int IntKind.i64 z.1)))]) (fun z => l.length - z.1) ⟨0, by omega, fun a h => by omega⟩ ?_ ?_
  · exact GS.to (by simp)
  · rintro ⟨i, i1, i2⟩
    by_cases hi : i < l.length
    · have hiz : (i : Int) < l.length := by omega
      have hx : l[i]? = some l[i] := List.getElem?_eq_getElem hi
      have hm : l[i] ∈ l := List.getElem_mem hi
      generalize l[i] = x at hx hm
      simp -dsimp [hiz, hx, Tb.cs, rwsD, wrap_i64 (n := (i : Int) + 1) (by omega) (by omega)]
      and_intros
      all_goals try first | rfl | omega | exact ⟨by kernel_rfl⟩
      refine ACall.of (hf x hm) [] 0 ?_
      rcases (Bool.eq_false_or_eq_true (q x)).symm with h | h
      · simp -dsimp [h, hok, tblT, rwsD, wrap_i64 (n := (i : Int) + 1) (by omega) (by omega)]
        and_intros
        all_goals try first | rfl | omega | exact ⟨by kernel_rfl⟩
        exact ⟨⟨i + 1, by omega, fun a ha y hy => by
          by_cases e : a = i
          · subst e; rw [hx] at hy; simp only [Option.some.injEq] at hy; subst hy; exact h
          · exact i2 a (by omega) y hy⟩, GS.to (by simp), by simp; omega⟩
      · simp -dsimp [h, hok, tblT, rwsD]
        and_intros
        all_goals try first | rfl | omega | exact ⟨by kernel_rfl⟩
        refine Fin.of ?_
        simp [idx_at hx h i2]
    · simp -dsimp [hi]
      refine Fin.of ?_
      simp
      exact (idx_no fun a ha => i2 a (by omega)).symm
theorem containsFT0_c (l : List Tb) (hl : l.length ≤ 1000000) (f : FuncId) (q : Tb → Bool) (hf : ∀ x, x ∈ l → Contract Try.prog f [tblT x] [] (.d (.bool (q x))) [] []) (hok : fnOK Try.prog f = true) :
    Contract Try.prog 48 [.d (.sl (l.map Tb.cs)), .clo f []] [] (.d (.bool (l.any q))) [] [] := by
  refine contract_of Try.func48 rfl (fun E0 => ?_)
  refine awp.sound (g := .mk) (ow := []) (kp := (fun k => k == 0 || k == 1 || k == 4)) ?_
  rw [Try.ntmps48]
  simp -dsimp
  refine ACall.of (indexT0_c l hl f q hf hok) [] 0 ?_
  simp -dsimp
  refine Fin.of ?_
  simp [idx_any]
theorem indexT1_c (l : List Tb) (hl : l.length ≤ 1000000) (f : FuncId) (ds : List D) (q : Tb → Bool) (hf : ∀ x, x ∈ l → Contract Try.prog f [tblT x, .ptr (.x 0) 0] [.box (ds.map .d)] (.d (.bool (q x))) [.box (ds.map .d)] []) (hok : fnOK Try.prog f = true) :
    Contract Try.prog 69 [.d (.sl (l.map Tb.cs)), .clo f [.ptr (.x 0) 0]] [.box (ds.map .d)] (.d (.int .i64 (idxR q l))) [.box (ds.map .d)] [] := by
  refine contract_of Try.func69 rfl (fun E0 => ?_)
  refine awp.sound (g := .mk) (ow := []) (kp := (fun k => k == 0 || k == 1 || k == 4 || k == 5 || k == 7 || k == 8 || k == 9 || k == 16)) ?_
  rw [Try.ntmps69]
  simp -dsimp
  refine ALoop.of [] (fun k => k == 0 || k == 1 || k == 4 || k == 5 || k == 7 || k == 8 || k == 9 || k == 16) (ι := { i : Nat // i ≤ l.length ∧ ∀ a, a < i → ∀ x, l[a]? = some x → q x = false })
    (fun z => [(Pl.s 0, It.v (TV.d (D.sl (l.map Tb.cs)))), (Pl.s 1, It.v (TV.clo f [TV.ptr (Pl.x 0) 0])), (Pl.x 0, It.box (List.map TV.d ds)), (Pl.s 4, It.v (TV.d (D.int IntKind.i64 0))), (Pl.s 7, It.v (TV.d (D.int IntKind.i64 l.length))), (Pl.s 8, It.v (TV.d (D.int IntKind.i64 z.1)))]) (fun z => l.length - z.1) ⟨0, by omega, fun a h => by omega⟩ ?_ ?_
  · exact GS.to (by simp)
  · rintro ⟨i, i1, i2⟩
    by_cases hi : i < l.length
    · have hiz : (i : Int) < l.length := by omega
      have hx : l[i]? = some l[i] := List.getElem?_eq_getElem hi
      have hm : l[i] ∈ l := List.getElem_mem hi
      generalize l[i] = x at hx hm
      simp -dsimp [hiz, hx, Tb.cs, rwsD, wrap_i64 (n := (i : Int) + 1) (by omega) (by omega)]
      and_intros
      all_goals try first | rfl | omega | exact ⟨by kernel_rfl⟩
      refine ACall.of (hf x hm) [.x 0] 0 ?_
      rcases (Bool.eq_false_or_eq_true (q x)).symm with h | h
      · simp -dsimp [h, hok, tblT, rwsD, wrap_i64 (n := (i : Int) + 1) (by omega) (by omega)]
        and_intros
        all_goals try first | rfl | omega | exact ⟨by kernel_rfl⟩
        exact ⟨⟨i + 1, by omega, fun a ha y hy => by
          by_cases e : a = i
          · subst e; rw [hx] at hy; simp only [Option.some.injEq] at hy; subst hy; exact h
          · exact i2 a (by omega) y hy⟩, GS.to (by simp), by simp; omega⟩
      · simp -dsimp [h, hok, tblT, rwsD]
        and_intros
        all_goals try first | rfl | omega | exact ⟨by kernel_rfl⟩
        refine Fin.of ?_
        simp [idx_at hx h i2]
    · simp -dsimp [hi]
      refine Fin.of ?_
      simp
      exact (idx_no fun a ha => i2 a (by omega)).symm
theorem containsFT1_c (l : List Tb) (hl : l.length ≤ 1000000) (f : FuncId) (ds : List D) (q : Tb → Bool) (hf : ∀ x, x ∈ l → Contract Try.prog f [tblT x, .ptr (.x 0) 0] [.box (ds.map .d)] (.d (.bool (q x))) [.box (ds.map .d)] []) (hok : fnOK Try.prog f = true) :
    Contract Try.prog 48 [.d (.sl (l.map Tb.cs)), .clo f [.ptr (.x 0) 0]] [.box (ds.map .d)] (.d (.bool (l.any q))) [.box (ds.map .d)] [] := by
  refine contract_of Try.func48 rfl (fun E0 => ?_)
  refine awp.sound (g := .mk) (ow := []) (kp := (fun k => k == 0 || k == 1 || k == 4)) ?_
  rw [Try.ntmps48]
  simp -dsimp
  refine ACall.of (indexT1_c l hl f ds q hf hok) [.x 0] 0 ?_
  simp -dsimp
  refine Fin.of ?_
  simp [idx_any]

def tbs (l : List Tb) : List (List D) := l.map Tb.cs
def rws (l : List Rw) : List (List D) := l.map Rw.cs
theorem rws_get {l : List Rw} {i : Nat} {x : Rw} (h : l[i]? = some x) : (rws l)[i]? = some [.int .i64 x.id, ints x.nx] := by simp [rws, h, Rw.cs]
@[simp] theorem rws_len (l : List Rw) : (rws l).length = l.length := by simp [rws]
theorem rws_app (l : List Rw) (x : Rw) : rws (l ++ [x]) = rws l ++ [[.int .i64 x.id, ints x.nx]] := by simp [rws, Rw.cs]
theorem rwsD_eq (l : List Rw) : rwsD l = .sl (rws l) := rfl
theorem tbs_get {l : List Tb} {i : Nat} {b : Tb} (h : l[i]? = some b) : (tbs l)[i]? = some [.int .i64 b.r, .int .i64 b.sd, .int .i64 b.len, .sl (rws b.rows)] := by simp [tbs, h, Tb.cs, rwsD_eq]
@[simp] theorem tbs_len (l : List Tb) : (tbs l).length = l.length := by simp [tbs]
/-- small enough for the machine's numbers -/
structure SmL (l : List Tb) : Prop where
  n : l.length ≤ 1000
  t : ∀ b ∈ l, b.Sm
def tb0 : Tb := ⟨0, 0, 0, []⟩
/-- the first error of tables -/
def chkA (l : List Tb) : Int := firstE [(decide (24 < l.length), 3), (l.any fun b => decide (chk b ≠ 0), 1), (adjB (fun x y => decide (y.r ≤ x.r)) l, 25),
  (l.any fun b => decide (b.sd ≠ (l.headD tb0).sd) || decide (b.len ≠ (l.headD tb0).len), 8)]
def findT (l : List Tb) (r : Int) : Option Tb := l.find? fun b => decide (b.r = r)
def foundT (o : Option Tb) : TV := .tup [tblT (o.getD tb0), .d (.bool o.isSome)]
theorem find11_c (l : List Tb) (hl : SmL l) (r : Int) : Contract Try.prog 36 [.d (.sl (tbs l)), .d (.int .i64 r)] [] (foundT (findT l r)) [] [] := by
  have hn := hl.n
  refine contract_of Try.func36 rfl (fun E0 => ?_)
  refine awp.sound (g := .mk) (ow := []) (kp := (fun k => k == 0 || k == 1 || k == 4 || k == 5 || k == 6 || k == 10 || k == 19)) ?_
  rw [Try.ntmps36]
  simp -dsimp
  refine ALoop.of [] (fun k => k == 0 || k == 1 || k == 4 || k == 5 || k == 6 || k == 10 || k == 19) (ι := { i : Nat // i ≤ l.length ∧ findT l r = findT (l.drop i) r }) (fun z => [(Pl.s 0, It.v (TV.d (D.sl (tbs l)))), (Pl.s 1, It.v (TV.d (D.int IntKind.i64 r))), (Pl.o 4, It.box [TV.d (D.int IntKind.i64 0), TV.d (D.int IntKind.i64 0), TV.d (D.int IntKind.i64 0), TV.c (Value.slice none 0 0)]), (Pl.s 4, It.v (TV.ptr (Pl.o 4) 0)), (Pl.s 5, It.v (TV.d (D.bool false))), (Pl.s 6, It.v (TV.d (D.int IntKind.i64 z.1)))]) (fun z => l.length - z.1) ⟨0, by omega, rfl⟩ ?_ ?_
  · exact GS.to (by simp)
  rintro ⟨i, i1, i2⟩
  by_cases hi : i < l.length
  · have hiz : (i : Int) < l.length := by omega
    have hx : l[i]? = some l[i] := List.getElem?_eq_getElem hi
    generalize l[i] = b at hx
    have hx' := tbs_get hx
    by_cases hr : b.r = r
    · have e : findT l r = some b := find_hit hx i2 (by simpa using hr)
      simp -dsimp [hiz, hx', eq_true hr]
      and_intros
      all_goals try first | rfl | omega | exact ⟨by kernel_rfl⟩
      refine Fin.of ?_
      simp [foundT, e, tblT, rwsD_eq]
    · have e : findT l r = findT (l.drop (i + 1)) r := find_step hx i2 (by simpa using hr)
      simp -dsimp [hiz, hx', eq_false hr, wrap_i64 (n := (i : Int) + 1) (by omega) (by omega)]
      and_intros
      all_goals try first | rfl | omega | exact ⟨by kernel_rfl⟩
      exact ⟨⟨i + 1, by omega, e⟩, GS.to (by simp []), by simp; omega⟩
  · have e : findT l r = none := find_end i2 hi
    have hiz : ¬ (i : Int) < l.length := by omega
    simp -dsimp [hiz]
    refine Fin.box (.o 4) rfl ?_
    simp -dsimp
    refine Fin.of ?_
    simp [foundT, e, tblT, rwsD_eq, tb0, rws]
theorem checkA11_c (l : List Tb) (hl : SmL l) : Contract Try.prog 35 [.d (.sl (tbs l))] [] (.d (.int .i64 (chkA l))) [] [] := by
  have hn := hl.n
  refine contract_of Try.func35 rfl (fun E0 => ?_)
  refine awp.sound (g := .mk) (ow := []) (kp := (fun k => k == 0 || k == 2 || k == 3 || k == 4 || k == 5 || k == 8 || k == 12 || k == 20 || k == 24 || k == 38 || k == 42 || k == 66)) ?_
  rw [Try.ntmps35]
  by_cases c1 : 24 < l.length
  · have c1z : (24 : Int) < l.length := by omega
    simp -dsimp [c1z]
    refine Fin.of ?_
    simp [chkA, firstE, c1]
  have c1z : ¬ (24 : Int) < l.length := by omega
  simp -dsimp [c1z]
  clear c1z
  refine ALoop.of [] (fun k => k == 0 || k == 2 || k == 3 || k == 4 || k == 5 || k == 8 || k == 12 || k == 20 || k == 24 || k == 38 || k == 42 || k == 66) (ι := { i : Nat // i ≤ l.length ∧ (l.any fun b => decide (chk b ≠ 0)) = (l.drop i).any fun b => decide (chk b ≠ 0) }) (fun z => [(Pl.s 0, It.v (TV.d (D.sl (tbs l)))), (Pl.s 2, It.v (TV.d (D.int IntKind.i64 0))), (Pl.s 3, It.v (TV.d (D.int IntKind.i64 z.1)))]) (fun z => l.length - z.1) ⟨0, by omega, rfl⟩ ?_ ?_
  · exact GS.to (by simp)
  rintro ⟨i, i1, i2⟩
  by_cases hi : i < l.length
  · have hiz : (i : Int) < l.length := by omega
    have hx : l[i]? = some l[i] := List.getElem?_eq_getElem hi
    have hm := hl.t l[i] (List.getElem_mem hi)
    generalize l[i] = b at hx hm
    have hx' := tbs_get hx
    simp -dsimp [hiz, hx']
    and_intros
    all_goals try first | rfl | omega | exact ⟨by kernel_rfl⟩
    refine ACall.of (check11_c b hm.rows hm.nx) [] 0 ?_
    by_cases a1 : chk b = 0
    · simp -dsimp [hiz, hx', tblT, rwsD_eq, eq_true a1, wrap_i64 (n := (i : Int) + 1) (by omega) (by omega)]
      and_intros
      all_goals try first | rfl | omega | exact ⟨by kernel_rfl⟩
      exact ⟨⟨i + 1, by omega, any_step hx i2 (by simpa using a1)⟩, GS.to (by simp []), by simp; omega⟩
    · simp -dsimp [hiz, hx', tblT, rwsD_eq, eq_false a1]
      and_intros
      all_goals try first | rfl | omega | exact ⟨by kernel_rfl⟩
      refine Fin.of ?_
      have e : (l.any fun b => decide (chk b ≠ 0)) = true := any_hit hx (by simpa using a1)
      simp only [chkA, firstE, cond_true, cond_false, decide_eq_false c1, e]; simp
  have e1 := any_end i2 hi
  have hiz : ¬ (i : Int) < l.length := by omega
  simp -dsimp [hiz]
  as_aux_lemma =>
  refine ALoop.of [] (fun k => k == 0 || k == 2 || k == 3 || k == 4 || k == 5 || k == 8 || k == 12 || k == 20 || k == 24 || k == 38 || k == 42 || k == 66) (ι := { i : Nat // i ≤ l.length ∧ adjB (fun x y => decide (y.r ≤ x.r)) l = adjB (fun (x y : Tb) => decide (y.r ≤ x.r)) (l.drop i) }) (fun z => [(Pl.s 0, It.v (TV.d (D.sl (tbs l)))), (Pl.s 2, It.v (TV.d (D.int IntKind.i64 0))), (Pl.s 4, It.v (TV.d (D.int IntKind.i64 ((z.1 : Int) + 1))))]) (fun z => l.length - z.1) ⟨0, by omega, rfl⟩ ?_ ?_
  · exact GS.to (by simp)
  rintro ⟨i, i1, i2⟩
  by_cases hi : i + 1 < l.length
  · have hi0 : i < l.length := by omega
    have hiz : (i : Int) + 1 < l.length := by omega
    have hx : l[i]? = some l[i] := List.getElem?_eq_getElem hi0
    have hy : l[i + 1]? = some l[i + 1] := List.getElem?_eq_getElem hi
    generalize l[i] = x at hx
    generalize l[i + 1] = y at hy
    have hx' := tbs_get hx
    have hy' := tbs_get hy
    by_cases a1 : y.r ≤ x.r
    · simp -dsimp [hiz, hx', hy', a1, toNat_succ, wrap_i64 (n := (i : Int)) (by omega) (by omega)]
      and_intros
      all_goals try first | rfl | omega | exact ⟨by kernel_rfl⟩
      refine Fin.of ?_
      have e := adj_hit hx hy i2 (by simpa using a1)
      simp only [chkA, firstE, cond_true, cond_false, decide_eq_false c1, e1, e]; simp
    · simp -dsimp [hiz, hx', hy', a1, toNat_succ, wrap_i64 (n := (i : Int)) (by omega) (by omega), wrap_i64 (n := (i : Int) + 1 + 1) (by omega) (by omega)]
      and_intros
      all_goals try first | rfl | omega | exact ⟨by kernel_rfl⟩
      exact ⟨⟨i + 1, by omega, adj_step hx hy i2 (by simpa using a1)⟩, GS.to (by simp []), by simp; omega⟩
  have e2 := adj_end i2 hi
  have hiz : ¬ (i : Int) + 1 < l.length := by omega
  simp -dsimp [hiz]
  as_aux_lemma =>
  have hcf : (l.any fun b => decide (b.sd ≠ (l.headD tb0).sd) || decide (b.len ≠ (l.headD tb0).len)) = ((l.drop 1).any fun b => decide (b.sd ≠ (l.headD tb0).sd) || decide (b.len ≠ (l.headD tb0).len)) := by
    cases l with
    | nil => rfl
    | cons c m =>
      have : (decide (c.sd ≠ c.sd) || decide (c.len ≠ c.len)) = false := by simp
      exact (congrArg (· || _) this).trans (Bool.false_or _)
  have hget : ∀ (i : Nat) (b : Tb), l[i]? = some b → l[0]? = some (l.headD tb0) := fun i b h => by
    have hi := (List.getElem?_eq_some_iff.1 h).1
    obtain ⟨c, m, e⟩ := List.exists_cons_of_length_pos (show 0 < l.length by omega)
    rw [e]; rfl
  have hck : chkA l = bif (l.any fun b => decide (b.sd ≠ (l.headD tb0).sd) || decide (b.len ≠ (l.headD tb0).len)) then 8 else 0 := by
    simp only [chkA, firstE, cond_true, cond_false, decide_eq_false c1, e1, e2]
  generalize l.headD tb0 = c at hcf hget hck
  refine ALoop.of [] (fun k => k == 0 || k == 2 || k == 3 || k == 4 || k == 5 || k == 8 || k == 12 || k == 20 || k == 24 || k == 38 || k == 42 || k == 66) (ι := { i : Nat // (l.any fun b => decide (b.sd ≠ c.sd) || decide (b.len ≠ c.len)) = (l.drop (i + 1)).any fun b => decide (b.sd ≠ c.sd) || decide (b.len ≠ c.len) }) (fun z => [(Pl.s 0, It.v (TV.d (D.sl (tbs l)))), (Pl.s 2, It.v (TV.d (D.int IntKind.i64 0))), (Pl.s 5, It.v (TV.d (D.int IntKind.i64 ((z.1 : Int) + 1))))]) (fun z => l.length - z.1) ⟨0, hcf⟩ ?_ ?_
  · exact GS.to (by simp)
  rintro ⟨i, i2⟩
  by_cases hi : i + 1 < l.length
  · have hiz : (i : Int) + 1 < l.length := by omega
    have hx : l[i + 1]? = some l[i + 1] := List.getElem?_eq_getElem hi
    have h0 := hget _ _ hx
    generalize l[i + 1] = b at hx
    have hx' := tbs_get hx
    have h0' := tbs_get h0
    by_cases a1 : b.sd = c.sd
    · by_cases a2 : b.len = c.len
      · simp -dsimp [hiz, hx', h0', eq_true a1, eq_true a2, toNat_succ, wrap_i64 (n := (i : Int) + 1 + 1) (by omega) (by omega)]
        and_intros
        all_goals try first | rfl | omega | exact ⟨by kernel_rfl⟩
        exact ⟨⟨i + 1, any_step hx i2 (by simp [a1, a2])⟩, GS.to (by simp), by simp; omega⟩
      · simp -dsimp [hiz, hx', h0', eq_true a1, eq_false a2, toNat_succ]
        and_intros
        all_goals try first | rfl | omega | exact ⟨by kernel_rfl⟩
        refine Fin.of ?_
        have e := any_hit (q := fun b => decide (b.sd ≠ c.sd) || decide (b.len ≠ c.len)) hx (by simp [a2])
        rw [hck, e]; simp
    · simp -dsimp [hiz, hx', h0', eq_false a1, toNat_succ]
      and_intros
      all_goals try first | rfl | omega | exact ⟨by kernel_rfl⟩
      refine Fin.of ?_
      have e := any_hit (q := fun b => decide (b.sd ≠ c.sd) || decide (b.len ≠ c.len)) hx (by simp [a1])
      rw [hck, e]; simp
  · have e3 := any_end i2 hi
    have hiz : ¬ (i : Int) + 1 < l.length := by omega
    simp -dsimp [hiz]
    refine Fin.of ?_
    rw [hck, e3]; simp
theorem ck1_c (b : Tb) (hb : b.Sm) : Contract Try.prog 49 [tblT b] [] (.d (.bool (decide (chk b ≠ 0)))) [] [] := by
  refine contract_of Try.func49 rfl (fun E0 => ?_)
  refine awp.sound (g := .mk) (ow := []) (kp := (fun k => k == 0 || k == 1 || k == 2)) ?_
  rw [Try.ntmps49]
  simp -dsimp [tblT]
  refine ACall.of (tcheck_c b hb.rows hb.nx) [] 0 ?_
  simp -dsimp [tblT]
  refine Fin.of ?_
  simp
theorem ck2_c (l : List Tb) (c : Tb) (h0 : l[0]? = some c) (b : Tb) : Contract Try.prog 51 [tblT b, .ptr (.x 0) 0] [.box ([D.sl (tbs l)].map .d)] (.d (.bool (decide (b.sd ≠ c.sd) || decide (b.len ≠ c.len)))) [.box ([D.sl (tbs l)].map .d)] [] := by
  have h0' := tbs_get h0
  have hl : 0 < l.length := (List.getElem?_eq_some_iff.1 h0).1
  refine contract_of Try.func51 rfl (fun E0 => ?_)
  refine awp.sound (g := .mk) (ow := []) (kp := (fun k => k == 0 || k == 1 || k == 2 || k == 3)) ?_
  rw [Try.ntmps51]
  by_cases a1 : b.sd = c.sd
  · simp -dsimp [tblT, h0', eq_true a1]
    and_intros
    all_goals try first | rfl | omega | exact ⟨by kernel_rfl⟩
    refine Fin.of ?_
    simp
  · simp -dsimp [tblT, h0', eq_false a1]
    and_intros
    all_goals try first | rfl | omega | exact ⟨by kernel_rfl⟩
    refine Fin.of ?_
    simp [a1]
theorem checkA_c (l : List Tb) (hl : SmL l) : Contract Try.prog 32 [.d (.sl (tbs l))] [] (.d (.int .i64 (chkA l))) [] [] := by
  have hn := hl.n
  refine contract_of Try.func32 rfl (fun E0 => ?_)
  refine awp.sound (g := .mk) (ow := []) (kp := (fun k => k == 0 || k == 1 || k == 2 || k == 3 || k == 4 || k == 8 || k == 12 || k == 13 || k == 14 || k == 31 || k == 35)) ?_
  rw [Try.ntmps32]
  by_cases c1 : 24 < l.length
  · have c1z : (24 : Int) < l.length := by omega
    simp -dsimp [c1z]
    refine Fin.of ?_
    simp [chkA, firstE, c1]
  have c1z : ¬ (24 : Int) < l.length := by omega
  simp -dsimp [c1z]
  have hA := containsFT0_c l (by omega) 49 (fun b => decide (chk b ≠ 0)) (fun b hb => ck1_c b (hl.t b hb)) (by simp)
  refine ACall.of hA [] 0 ?_
  rcases Bool.eq_false_or_eq_true (l.any fun b => decide (chk b ≠ 0)) with e1 | e1
  · rw [e1]
    simp -dsimp [c1z, tbs]
    refine Fin.of ?_
    simp only [chkA, firstE, cond_true, cond_false, decide_eq_false c1, e1]; simp
  rw [e1]
  simp -dsimp [c1z, tbs]
  as_aux_lemma =>
  refine ALoop.of [] (fun k => k == 0 || k == 1 || k == 2 || k == 3 || k == 4 || k == 8 || k == 12 || k == 13 || k == 14 || k == 31 || k == 35) (ι := { i : Nat // i ≤ l.length ∧ adjB (fun x y => decide (y.r ≤ x.r)) l = adjB (fun (x y : Tb) => decide (y.r ≤ x.r)) (l.drop (i - 1)) }) (fun z => [(Pl.s 0, It.v (TV.d (D.sl (tbs l)))), (Pl.o 1, It.box [TV.d (D.sl (tbs l))]), (Pl.s 1, It.v (TV.ptr (Pl.o 1) 0)), (Pl.s 2, It.v (TV.d (D.int IntKind.i64 0))), (Pl.s 12, It.v (TV.d (D.int IntKind.i64 l.length))), (Pl.s 13, It.v (TV.d (D.int IntKind.i64 z.1)))]) (fun z => l.length - z.1) ⟨0, by omega, rfl⟩ ?_ ?_
  · exact GS.to (by simp [tbs])
  rintro ⟨i, i1, i2⟩
  by_cases hi : i < l.length
  · have hiz : (i : Int) < l.length := by omega
    have hy : l[i]? = some l[i] := List.getElem?_eq_getElem hi
    generalize l[i] = y at hy
    have hy' := tbs_get hy
    by_cases h0 : i = 0
    · have h0z : ¬ 0 < i := by omega
      simp -dsimp [hiz, hy', h0z, wrap_i64 (n := (i : Int) + 1) (by omega) (by omega)]
      and_intros
      all_goals try first | rfl | omega | exact ⟨by kernel_rfl⟩
      exact ⟨⟨i + 1, by omega, by simp [h0]⟩, GS.to (by simp), by simp; omega⟩
    · have h0z : 0 < i := by omega
      have hx : l[i - 1]? = some l[i - 1] := List.getElem?_eq_getElem (by omega)
      have hi1 : ((i : Int) - 1).toNat = i - 1 := by omega
      have hy2 : l[i - 1 + 1]? = some y := by rw [show i - 1 + 1 = i by omega]; exact hy
      generalize l[i - 1] = x at hx
      have hx' := tbs_get hx
      by_cases a1 : y.r ≤ x.r
      · simp -dsimp [hiz, hx', hy', h0z, hi1, a1, wrap_i64 (n := (i : Int) - 1) (by omega) (by omega)]
        and_intros
        all_goals try first | rfl | omega | exact ⟨by kernel_rfl⟩
        refine Fin.of ?_
        have e := adj_hit hx hy2 i2 (by simpa using a1)
        simp only [chkA, firstE, cond_true, cond_false, decide_eq_false c1, e1, e]; simp
      · simp -dsimp [hiz, hx', hy', h0z, hi1, a1, wrap_i64 (n := (i : Int) - 1) (by omega) (by omega), wrap_i64 (n := (i : Int) + 1) (by omega) (by omega)]
        and_intros
        all_goals try first | rfl | omega | exact ⟨by kernel_rfl⟩
        have e := adj_step hx hy2 i2 (by simpa using a1)
        rw [show i - 1 + 1 = i by omega] at e
        exact ⟨⟨i + 1, by omega, e⟩, GS.to (by simp), by simp; omega⟩
  have e2 : adjB (fun x y => decide (y.r ≤ x.r)) l = false := adj_end i2 (by omega)
  have hiz : ¬ (i : Int) < l.length := by omega
  simp -dsimp [hiz]
  have hget : ∀ b ∈ l, l[0]? = some (l.headD tb0) := fun b h => by
    have hi := List.length_pos_of_mem h
    obtain ⟨c, m, e⟩ := List.exists_cons_of_length_pos hi
    rw [e]; rfl
  have hck : chkA l = bif (l.any fun b => decide (b.sd ≠ (l.headD tb0).sd) || decide (b.len ≠ (l.headD tb0).len)) then 8 else 0 := by
    simp only [chkA, firstE, cond_true, cond_false, decide_eq_false c1, e1, e2]
  have hB := containsFT1_c l (by omega) 51 [D.sl (tbs l)] (fun b => decide (b.sd ≠ (l.headD tb0).sd) || decide (b.len ≠ (l.headD tb0).len)) (fun b hb => ck2_c l _ (hget b hb) b) (by simp)
  rw [hck]
  generalize (l.any fun b => decide (b.sd ≠ (l.headD tb0).sd) || decide (b.len ≠ (l.headD tb0).len)) = B at hB ⊢
  have hT : l.map Tb.cs = tbs l := rfl
  rw [hT] at hB
  refine ACall.of hB [.o 1] 0 ?_
  cases B
  · simp -dsimp
    refine Fin.of ?_
    simp
  · simp -dsimp
    refine Fin.of ?_
    simp
theorem find_c (l : List Tb) (hl : SmL l) (r : Int) : Contract Try.prog 33 [.d (.sl (tbs l)), .d (.int .i64 r)] [] (foundT (findT l r)) [] [] := by
  have hn := hl.n
  refine contract_of Try.func33 rfl (fun E0 => ?_)
  refine awp.sound (g := .mk) (ow := []) (kp := (fun k => k == 0 || k == 1 || k == 4 || k == 5 || k == 7 || k == 8 || k == 10 || k == 11 || k == 12 || k == 13 || k == 14 || k == 20 || k == 24 || k == 25 || k == 26 || k == 27)) ?_
  rw [Try.ntmps33]
  simp -dsimp
  refine ALoop.of [] (fun k => k == 0 || k == 1 || k == 4 || k == 5 || k == 7 || k == 8 || k == 10 || k == 11 || k == 12 || k == 13 || k == 14 || k == 20 || k == 24 || k == 25 || k == 26 || k == 27) (ι := { i : Nat // i ≤ l.length ∧ findT l r = findT (l.drop i) r }) (fun z => [(Pl.s 0, It.v (TV.d (D.sl (tbs l)))), (Pl.s 1, It.v (TV.d (D.int IntKind.i64 r))), (Pl.o 4, It.box [TV.d (D.int IntKind.i64 0), TV.d (D.int IntKind.i64 0), TV.d (D.int IntKind.i64 0), TV.c (Value.slice none 0 0)]), (Pl.s 4, It.v (TV.ptr (Pl.o 4) 0)), (Pl.s 5, It.v (TV.d (D.bool false))), (Pl.s 11, It.v (TV.d (D.sl (tbs l)))), (Pl.s 12, It.v (TV.d (D.int IntKind.i64 l.length))), (Pl.s 13, It.v (TV.d (D.int IntKind.i64 z.1)))]) (fun z => l.length - z.1) ⟨0, by omega, rfl⟩ ?_ ?_
  · exact GS.to (by simp)
  rintro ⟨i, i1, i2⟩
  by_cases hi : i < l.length
  · have hiz : (i : Int) < l.length := by omega
    have hx : l[i]? = some l[i] := List.getElem?_eq_getElem hi
    have hm := hl.t l[i] (List.getElem_mem hi)
    generalize l[i] = b at hx hm
    have hx' := tbs_get hx
    by_cases hr : b.r = r
    · have e : findT l r = some b := find_hit hx i2 (by simpa using hr)
      have hrl := hm.rows
      simp -dsimp [hiz, hx', eq_true hr]
      and_intros
      all_goals try first | rfl | omega | exact ⟨by kernel_rfl⟩
      as_aux_lemma =>
      refine ALoop.of [] (fun k => k == 0 || k == 1 || k == 4 || k == 5 || k == 7 || k == 8 || k == 10 || k == 11 || k == 12 || k == 13 || k == 14 || k == 20 || k == 24 || k == 25 || k == 26 || k == 27) (ι := { k : Nat // k ≤ b.rows.length }) (fun z => [(Pl.o 4, It.box [TV.d (D.int IntKind.i64 0), TV.d (D.int IntKind.i64 0), TV.d (D.int IntKind.i64 0), TV.c (Value.slice none 0 0)]), (Pl.s 4, It.v (TV.ptr (Pl.o 4) 0)), (Pl.s 5, It.v (TV.d (D.bool false))), (Pl.o 8, It.box [TV.d (D.int IntKind.i64 b.r), TV.d (D.int IntKind.i64 b.sd), TV.d (D.int IntKind.i64 b.len), TV.oref 1000 z.1]), (Pl.s 8, It.v (TV.ptr (Pl.o 8) 0)), (Pl.o 1000, .row 57 2 (dd (rws (b.rows.take z.1))) false), (Pl.s 24, It.v (TV.d (D.sl (rws b.rows)))), (Pl.s 25, It.v (TV.d (D.int IntKind.i64 b.rows.length))), (Pl.s 26, It.v (TV.d (D.int IntKind.i64 z.1)))]) (fun z => b.rows.length - z.1) ⟨0, by omega⟩ ?_ ?_
      · exact GS.ownB' (.o 8) 3 1000 (cs := [TV.d (D.int IntKind.i64 b.r), TV.d (D.int IntKind.i64 b.sd), TV.d (D.int IntKind.i64 b.len), TV.c (Value.slice none 0 0)]) 57 2 (by simp) (by simp) (by simp) (by simp) (by simp [rws])
      rintro ⟨k, k1⟩
      by_cases hk : k < b.rows.length
      · have hkz : (k : Int) < b.rows.length := by omega
        have hy : b.rows[k]? = some b.rows[k] := List.getElem?_eq_getElem hk
        have ht : b.rows.take (k + 1) = b.rows.take k ++ [b.rows[k]] := by rw [List.take_add_one, List.getElem?_eq_getElem hk]; rfl
        have hnx := hm.nx b.rows[k] (List.getElem_mem hk)
        generalize b.rows[k] = y at hy ht hnx
        have hy' := rws_get hy
        simp -dsimp [hkz, hy']
        and_intros
        all_goals try first | rfl | omega | exact ⟨by kernel_rfl⟩
        refine ACall.of (clone_c y.nx (by omega)) [] 0 ?_
        simp -dsimp [hkz, hy', ints, wrap_i64 (n := (k : Int) + 1) (by omega) (by omega)]
        and_intros
        all_goals try first | rfl | omega | exact ⟨by kernel_rfl⟩
        exact ⟨⟨k + 1, by omega⟩, GS.to (by simp [ht, rws_app, ints]), by simp; omega⟩
      · have hkz : ¬ (k : Int) < b.rows.length := by omega
        obtain rfl : k = b.rows.length := by omega
        simp -dsimp [hkz]
        refine Fin.box (.o 4) rfl ?_
        simp -dsimp
        refine Fin.of ?_
        simp [foundT, e, tblT, rwsD_eq]
    · have e : findT l r = findT (l.drop (i + 1)) r := find_step hx i2 (by simpa using hr)
      simp -dsimp [hiz, hx', eq_false hr, wrap_i64 (n := (i : Int) + 1) (by omega) (by omega)]
      and_intros
      all_goals try first | rfl | omega | exact ⟨by kernel_rfl⟩
      exact ⟨⟨i + 1, by omega, e⟩, GS.to (by simp []), by simp; omega⟩
  · have e : findT l r = none := find_end i2 hi
    have hiz : ¬ (i : Int) < l.length := by omega
    simp -dsimp [hiz]
    refine Fin.box (.o 4) rfl ?_
    simp -dsimp
    refine Fin.of ?_
    simp [foundT, e, tblT, rwsD_eq, tb0, rws]
end Go.Proofs
