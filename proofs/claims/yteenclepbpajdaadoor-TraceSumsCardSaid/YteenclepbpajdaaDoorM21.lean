/-
  What functions of the program compute, stated as contracts over plain data; the conditions of each stand in its own statement.
-/
import Derived.Test.YteenclepbpajdaaDoorM20
import Derived.Test.YteenclepbpajdaaDoorM15
import Derived.Test.YteenclepbpajdaaDoorM16
import Derived.Test.YteenclepbpajdaaDoorM18
set_option linter.unusedSimpArgs false
set_option maxRecDepth 100000
set_option maxHeartbeats 2000000
namespace Go.Proofs
open Go Go.Tr
theorem indexT0_c (l : List Tb) (hl : l.length ≤ 1000000) (f : FuncId) (q : Tb → Bool) (hf : ∀ x, x ∈ l → Contract Tryd.prog f [tblT x] [] (.d (.bool (q x))) [] []) (hok : fnOK Tryd.prog f = true) :
    Contract Tryd.prog 54 [.d (.sl (l.map Tb.cs)), .clo f []] [] (.d (.int .i64 (idxR q l))) [] [] := by
  refine contract_of Tryd.func54 rfl (fun E0 => ?_)
  refine awp.sound (g := .mk) (ow := []) (kp := (fun k => k == 0 || k == 1 || k == 4 || k == 5 || k == 7 || k == 8 || k == 9 || k == 16)) ?_
  rw [Tryd.ntmps54]
  simp -dsimp
  refine ALoop.of [] (fun k => k == 0 || k == 1 || k == 4 || k == 5 || k == 7 || k == 8 || k == 9 || k == 16) (ι := { i : Nat // i ≤ l.length ∧ ∀ a, a < i → ∀ x, l[a]? = some x → q x = false })
    (fun z => [(Pl.s 0, It.v (TV.d (D.sl (l.map Tb.cs)))), (Pl.s 1, It.v (TV.clo f [])), (Pl.s 4, It.v (TV.d (D.int IntKind.i64 0))), (Pl.s 7, It.v (TV.d (D.int IntKind.i64 l.length))), (Pl.s 8, It.v (TV.d (D.int IntKind.i64 z.1)))]) (fun z => l.length - z.1) ⟨0, by omega, fun a h => by omega⟩ ?_ ?_
  · exact GS.to (by simp)
  · rintro ⟨i, i1, i2⟩
    by_cases hi : i < l.length
    · have hiz : (i : Int) < l.length := by omega
      have hx : l[i]? = some l[i] := List.getElem?_eq_getElem hi
      have hm : l[i] ∈ l := List.getElem_mem hi
      generalize l[i] = x at hx hm
      simp -dsimp [hiz, hx, Tb.cs, rwsD, wrap_i64 (n := (i : Int) + 1) (by omega) (by omega)]
      and_intros
      all_goals try first | rfl | omega | exact ⟨by kernel_rfl⟩
      refine ACall.of (hf x hm) [] 0 ?_
      rcases (Bool.eq_false_or_eq_true (q x)).symm with h | h
      · simp -dsimp [h, hok, tblT, rwsD, wrap_i64 (n := (i : Int) + 1) (by omega) (by omega)]
        and_intros
        all_goals try first | rfl | omega | exact ⟨by kernel_rfl⟩
        exact ⟨⟨i + 1, by omega, fun a ha y hy => by
          by_cases e : a = i
          · subst e; rw [hx] at hy; simp only [Option.some.injEq] at hy; subst hy; exact h
          · exact i2 a (by omega) y hy⟩, GS.to (by simp), by simp; omega⟩
      · simp -dsimp [h, hok, tblT, rwsD]
        and_intros
        all_goals try first | rfl | omega | exact ⟨by kernel_rfl⟩
        refine Fin.of ?_
        simp [idx_at hx h i2]
    · simp -dsimp [hi]
      refine Fin.of ?_
      simp
      exact (idx_no fun a ha => i2 a (by omega)).symm
theorem containsFT0_c (l : List Tb) (hl : l.length ≤ 1000000) (f : FuncId) (q : Tb → Bool) (hf : ∀ x, x ∈ l → Contract Tryd.prog f [tblT x] [] (.d (.bool (q x))) [] []) (hok : fnOK Tryd.prog f = true) :
    Contract Tryd.prog 25 [.d (.sl (l.map Tb.cs)), .clo f []] [] (.d (.bool (l.any q))) [] [] := by
  refine contract_of Tryd.func25 rfl (fun E0 => ?_)
  refine awp.sound (g := .mk) (ow := []) (kp := (fun k => k == 0 || k == 1 || k == 4)) ?_
  rw [Tryd.ntmps25]
  simp -dsimp
  refine ACall.of (indexT0_c l hl f q hf hok) [] 0 ?_
  simp -dsimp
  refine Fin.of ?_
  simp [idx_any]
theorem indexT1_c (l : List Tb) (hl : l.length ≤ 1000000) (f : FuncId) (ds : List D) (q : Tb → Bool) (hf : ∀ x, x ∈ l → Contract Tryd.prog f [tblT x, .ptr (.x 0) 0] [.box (ds.map .d)] (.d (.bool (q x))) [.box (ds.map .d)] []) (hok : fnOK Tryd.prog f = true) :
    Contract Tryd.prog 54 [.d (.sl (l.map Tb.cs)), .clo f [.ptr (.x 0) 0]] [.box (ds.map .d)] (.d (.int .i64 (idxR q l))) [.box (ds.map .d)] [] := by
  refine contract_of Tryd.func54 rfl (fun E0 => ?_)
  refine awp.sound (g := .mk) (ow := []) (kp := (fun k => k == 0 || k == 1 || k == 4 || k == 5 || k == 7 || k == 8 || k == 9 || k == 16)) ?_
  rw [Tryd.ntmps54]
  simp -dsimp
  refine ALoop.of [] (fun k => k == 0 || k == 1 || k == 4 || k == 5 || k == 7 || k == 8 || k == 9 || k == 16) (ι := { i : Nat // i ≤ l.length ∧ ∀ a, a < i → ∀ x, l[a]? = some x → q x = false })
    (fun z => [(Pl.s 0, It.v (TV.d (D.sl (l.map Tb.cs)))), (Pl.s 1, It.v (TV.clo f [TV.ptr (Pl.x 0) 0])), (Pl.x 0, It.box (List.map TV.d ds)), (Pl.s 4, It.v (TV.d (D.int IntKind.i64 0))), (Pl.s 7, It.v (TV.d (D.int IntKind.i64 l.length))), (Pl.s 8, It.v (TV.d (D.int IntKind.i64 z.1)))]) (fun z => l.length - z.1) ⟨0, by omega, fun a h => by omega⟩ ?_ ?_
  · exact GS.to (by simp)
  · rintro ⟨i, i1, i2⟩
    by_cases hi : i < l.length
    · have hiz : (i : Int) < l.length := by omega
      have hx : l[i]? = some l[i] := List.getElem?_eq_getElem hi
      have hm : l[i] ∈ l := List.getElem_mem hi
      generalize l[i] = x at hx hm
      simp -dsimp [hiz, hx, Tb.cs, rwsD, wrap_i64 (n := (i : Int) + 1) (by omega) (by omega)]
      and_intros
      all_goals try first | rfl | omega | exact ⟨by kernel_rfl⟩
      refine ACall.of (hf x hm) [.x 0] 0 ?_
      rcases (Bool.eq_false_or_eq_true (q x)).symm with h | h
      · simp -dsimp [h, hok, tblT, rwsD, wrap_i64 (n := (i : Int) + 1) (by omega) (by omega)]
        and_intros
        all_goals try first | rfl | omega | exact ⟨by kernel_rfl⟩
        exact ⟨⟨i + 1, by omega, fun a ha y hy => by
          by_cases e : a = i
          · subst e; rw [hx] at hy; simp only [Option.some.injEq] at hy; subst hy; exact h
          · exact i2 a (by omega) y hy⟩, GS.to (by simp), by simp; omega⟩
      · simp -dsimp [h, hok, tblT, rwsD]
        and_intros
        all_goals try first | rfl | omega | exact ⟨by kernel_rfl⟩
        refine Fin.of ?_
        simp [idx_at hx h i2]
    · simp -dsimp [hi]
      refine Fin.of ?_
      simp
      exact (idx_no fun a ha => i2 a (by omega)).symm
theorem containsFT1_c (l : List Tb) (hl : l.length ≤ 1000000) (f : FuncId) (ds : List D) (q : Tb → Bool) (hf : ∀ x, x ∈ l → Contract Tryd.prog f [tblT x, .ptr (.x 0) 0] [.box (ds.map .d)] (.d (.bool (q x))) [.box (ds.map .d)] []) (hok : fnOK Tryd.prog f = true) :
    Contract Tryd.prog 25 [.d (.sl (l.map Tb.cs)), .clo f [.ptr (.x 0) 0]] [.box (ds.map .d)] (.d (.bool (l.any q))) [.box (ds.map .d)] [] := by
  refine contract_of Tryd.func25 rfl (fun E0 => ?_)
  refine awp.sound (g := .mk) (ow := []) (kp := (fun k => k == 0 || k == 1 || k == 4)) ?_
  rw [Tryd.ntmps25]
  simp -dsimp
  refine ACall.of (indexT1_c l hl f ds q hf hok) [.x 0] 0 ?_
  simp -dsimp
  refine Fin.of ?_
  simp [idx_any]
def tbs (l : List Tb) : List (List D) := l.map Tb.cs
def rws (l : List Rw) : List (List D) := l.map Rw.cs
theorem rws_get {l : List Rw} {i : Nat} {x : Rw} (h : l[i]? = some x) : (rws l)[i]? = some [.int .i64 x.id, ints x.nx] := by simp [rws, h, Rw.cs]
@[simp] theorem rws_len (l : List Rw) : (rws l).length = l.length := by simp [rws]
theorem rws_app (l : List Rw) (x : Rw) : rws (l ++ [x]) = rws l ++ [[.int .i64 x.id, ints x.nx]] := by simp [rws, Rw.cs]
theorem rwsD_eq (l : List Rw) : rwsD l = .sl (rws l) := rfl
theorem tbs_get {l : List Tb} {i : Nat} {b : Tb} (h : l[i]? = some b) : (tbs l)[i]? = some [.int .i64 b.r, .int .i64 b.sd, .int .i64 b.len, .sl (rws b.rows)] := by simp [tbs, h, Tb.cs, rwsD_eq]
@[simp] theorem tbs_len (l : List Tb) : (tbs l).length = l.length := by simp [tbs]
/-- small enough for the machine's numbers -/
structure SmL (l : List Tb) : Prop where
  n : l.length ≤ 1000
  t : ∀ b ∈ l, b.Sm
def tb0 : Tb := ⟨0, 0, 0, []⟩
/-- the first error of tables -/
def chkA (l : List Tb) : Int := firstE [(decide (24 < l.length), 3), (l.any fun b => decide (chk b ≠ 0), 1), (adjB (fun x y => decide (y.r ≤ x.r)) l, 25),
  (l.any fun b => decide (b.sd ≠ (l.headD tb0).sd) || decide (b.len ≠ (l.headD tb0).len), 8)]
def findT (l : List Tb) (r : Int) : Option Tb := l.find? fun b => decide (b.r = r)
def foundT (o : Option Tb) : TV := .tup [tblT (o.getD tb0), .d (.bool o.isSome)]
theorem ck1_c (b : Tb) (hb : b.Sm) : Contract Tryd.prog 26 [tblT b] [] (.d (.bool (decide (chk b ≠ 0)))) [] [] := by
  refine contract_of Tryd.func26 rfl (fun E0 => ?_)
  refine awp.sound (g := .mk) (ow := []) (kp := (fun k => k == 0 || k == 1 || k == 2)) ?_
  rw [Tryd.ntmps26]
  simp -dsimp [tblT]
  refine ACall.of (tcheck_c b hb.rows hb.nx) [] 0 ?_
  simp -dsimp [tblT]
  refine Fin.of ?_
  simp
theorem ck2_c (l : List Tb) (c : Tb) (h0 : l[0]? = some c) (b : Tb) : Contract Tryd.prog 28 [tblT b, .ptr (.x 0) 0] [.box ([D.sl (tbs l)].map .d)] (.d (.bool (decide (b.sd ≠ c.sd) || decide (b.len ≠ c.len)))) [.box ([D.sl (tbs l)].map .d)] [] := by
  have h0' := tbs_get h0
  have hl : 0 < l.length := (List.getElem?_eq_some_iff.1 h0).1
  refine contract_of Tryd.func28 rfl (fun E0 => ?_)
  refine awp.sound (g := .mk) (ow := []) (kp := (fun k => k == 0 || k == 1 || k == 2 || k == 3)) ?_
  rw [Tryd.ntmps28]
  by_cases a1 : b.sd = c.sd
  · simp -dsimp [tblT, h0', eq_true a1]
    and_intros
    all_goals try first | rfl | omega | exact ⟨by kernel_rfl⟩
    refine Fin.of ?_
    simp
  · simp -dsimp [tblT, h0', eq_false a1]
    and_intros
    all_goals try first | rfl | omega | exact ⟨by kernel_rfl⟩
    refine Fin.of ?_
    simp [a1]
theorem checkA_c (l : List Tb) (hl : SmL l) : Contract Tryd.prog 17 [.d (.sl (tbs l))] [] (.d (.int .i64 (chkA l))) [] [] := by
  have hn := hl.n
  refine contract_of Tryd.func17 rfl (fun E0 => ?_)
  refine awp.sound (g := .mk) (ow := []) (kp := (fun k => k == 0 || k == 1 || k == 2 || k == 3 || k == 4 || k == 8 || k == 12 || k == 13 || k == 14 || k == 31 || k == 35)) ?_
  rw [Tryd.ntmps17]
  by_cases c1 : 24 < l.length
  · have c1z : (24 : Int) < l.length := by omega
    simp -dsimp [c1z]
    refine Fin.of ?_
    simp [chkA, firstE, c1]
  have c1z : ¬ (24 : Int) < l.length := by omega
  simp -dsimp [c1z]
  have hA := containsFT0_c l (by omega) 26 (fun b => decide (chk b ≠ 0)) (fun b hb => ck1_c b (hl.t b hb)) (by simp)
  refine ACall.of hA [] 0 ?_
  rcases Bool.eq_false_or_eq_true (l.any fun b => decide (chk b ≠ 0)) with e1 | e1
  · rw [e1]
    simp -dsimp [c1z, tbs]
    refine Fin.of ?_
    simp only [chkA, firstE, cond_true, cond_false, decide_eq_false c1, e1]; simp
  rw [e1]
  simp -dsimp [c1z, tbs]
  as_aux_lemma =>
  refine ALoop.of [] (fun k => k == 0 || k == 1 || k == 2 || k == 3 || k == 4 || k == 8 || k == 12 || k == 13 || k == 14 || k == 31 || k == 35) (ι := { i : Nat // i ≤ l.length ∧ adjB (fun x y => decide (y.r ≤ x.r)) l = adjB (fun (x y : Tb) => decide (y.r ≤ x.r)) (l.drop (i - 1)) }) (fun z => [(Pl.s 0, It.v (TV.d (D.sl (tbs l)))), (Pl.o 1, It.box [TV.d (D.sl (tbs l))]), (Pl.s 1, It.v (TV.ptr (Pl.o 1) 0)), (Pl.s 2, It.v (TV.d (D.int IntKind.i64 0))), (Pl.s 12, It.v (TV.d (D.int IntKind.i64 l.length))), (Pl.s 13, It.v (TV.d (D.int IntKind.i64 z.1)))]) (fun z => l.length - z.1) ⟨0, by omega, rfl⟩ ?_ ?_
  · exact GS.to (by simp [tbs])
  rintro ⟨i, i1, i2⟩
  by_cases hi : i < l.length
  · have hiz : (i : Int) < l.length := by omega
    have hy : l[i]? = some l[i] := List.getElem?_eq_getElem hi
    generalize l[i] = y at hy
    have hy' := tbs_get hy
    by_cases h0 : i = 0
    · have h0z : ¬ 0 < i := by omega
      simp -dsimp [hiz, hy', h0z, wrap_i64 (n := (i : Int) + 1) (by omega) (by omega)]
      and_intros
      all_goals try first | rfl | omega | exact ⟨by kernel_rfl⟩
      exact ⟨⟨i + 1, by omega, by simp [h0]⟩, GS.to (by simp), by simp; omega⟩
    · have h0z : 0 < i := by omega
      have hx : l[i - 1]? = some l[i - 1] := List.getElem?_eq_getElem (by omega)
      have hi1 : ((i : Int) - 1).toNat = i - 1 := by omega
      have hy2 : l[i - 1 + 1]? = some y := by rw [show i - 1 + 1 = i by omega]; exact hy
      generalize l[i - 1] = x at hx
      have hx' := tbs_get hx
      by_cases a1 : y.r ≤ x.r
      · simp -dsimp [hiz, hx', hy', h0z, hi1, a1, wrap_i64 (n := (i : Int) - 1) (by omega) (by omega)]
        and_intros
        all_goals try first | rfl | omega | exact ⟨by kernel_rfl⟩
        refine Fin.of ?_
        have e := adj_hit hx hy2 i2 (by simpa using a1)
        simp only [chkA, firstE, cond_true, cond_false, decide_eq_false c1, e1, e]; simp
      · simp -dsimp [hiz, hx', hy', h0z, hi1, a1, wrap_i64 (n := (i : Int) - 1) (by omega) (by omega), wrap_i64 (n := (i : Int) + 1) (by omega) (by omega)]
        and_intros
        all_goals try first | rfl | omega | exact ⟨by kernel_rfl⟩
        have e := adj_step hx hy2 i2 (by simpa using a1)
        rw [show i - 1 + 1 = i by omega] at e
        exact ⟨⟨i + 1, by omega, e⟩, GS.to (by simp), by simp; omega⟩
  have e2 : adjB (fun x y => decide (y.r ≤ x.r)) l = false := adj_end i2 (by omega)
  have hiz : ¬ (i : Int) < l.length := by omega
  simp -dsimp [hiz]
  have hget : ∀ b ∈ l, l[0]? = some (l.headD tb0) := fun b h => by
    have hi := List.length_pos_of_mem h
    obtain ⟨c, m, e⟩ := List.exists_cons_of_length_pos hi
    rw [e]; rfl
  have hck : chkA l = bif (l.any fun b => decide (b.sd ≠ (l.headD tb0).sd) || decide (b.len ≠ (l.headD tb0).len)) then 8 else 0 := by
    simp only [chkA, firstE, cond_true, cond_false, decide_eq_false c1, e1, e2]
  have hB := containsFT1_c l (by omega) 28 [D.sl (tbs l)] (fun b => decide (b.sd ≠ (l.headD tb0).sd) || decide (b.len ≠ (l.headD tb0).len)) (fun b hb => ck2_c l _ (hget b hb) b) (by simp)
  rw [hck]
  generalize (l.any fun b => decide (b.sd ≠ (l.headD tb0).sd) || decide (b.len ≠ (l.headD tb0).len)) = B at hB ⊢
  have hT : l.map Tb.cs = tbs l := rfl
  rw [hT] at hB
  refine ACall.of hB [.o 1] 0 ?_
  cases B
  · simp -dsimp
    refine Fin.of ?_
    simp
  · simp -dsimp
    refine Fin.of ?_
    simp
theorem find_c (l : List Tb) (hl : SmL l) (r : Int) : Contract Tryd.prog 19 [.d (.sl (tbs l)), .d (.int .i64 r)] [] (foundT (findT l r)) [] [] := by
  have hn := hl.n
  refine contract_of Tryd.func19 rfl (fun E0 => ?_)
  refine awp.sound (g := .mk) (ow := []) (kp := (fun k => k == 0 || k == 1 || k == 4 || k == 5 || k == 7 || k == 8 || k == 10 || k == 11 || k == 12 || k == 13 || k == 14 || k == 20 || k == 24 || k == 25 || k == 26 || k == 27)) ?_
  rw [Tryd.ntmps19]
  simp -dsimp
  refine ALoop.of [] (fun k => k == 0 || k == 1 || k == 4 || k == 5 || k == 7 || k == 8 || k == 10 || k == 11 || k == 12 || k == 13 || k == 14 || k == 20 || k == 24 || k == 25 || k == 26 || k == 27) (ι := { i : Nat // i ≤ l.length ∧ findT l r = findT (l.drop i) r }) (fun z => [(Pl.s 0, It.v (TV.d (D.sl (tbs l)))), (Pl.s 1, It.v (TV.d (D.int IntKind.i64 r))), (Pl.o 4, It.box [TV.d (D.int IntKind.i64 0), TV.d (D.int IntKind.i64 0), TV.d (D.int IntKind.i64 0), TV.c (Value.slice none 0 0)]), (Pl.s 4, It.v (TV.ptr (Pl.o 4) 0)), (Pl.s 5, It.v (TV.d (D.bool false))), (Pl.s 11, It.v (TV.d (D.sl (tbs l)))), (Pl.s 12, It.v (TV.d (D.int IntKind.i64 l.length))), (Pl.s 13, It.v (TV.d (D.int IntKind.i64 z.1)))]) (fun z => l.length - z.1) ⟨0, by omega, rfl⟩ ?_ ?_
  · exact GS.to (by simp)
  rintro ⟨i, i1, i2⟩
  by_cases hi : i < l.length
  · have hiz : (i : Int) < l.length := by omega
    have hx : l[i]? = some l[i] := List.getElem?_eq_getElem hi
    have hm := hl.t l[i] (List.getElem_mem hi)
    generalize l[i] = b at hx hm
    have hx' := tbs_get hx
    by_cases hr : b.r = r
    · have e : findT l r = some b := find_hit hx i2 (by simpa using hr)
      have hrl := hm.rows
      simp -dsimp [hiz, hx', eq_true hr]
      and_intros
      all_goals try first | rfl | omega | exact ⟨by kernel_rfl⟩
      as_aux_lemma =>
      refine ALoop.of [] (fun k => k == 0 || k == 1 || k == 4 || k == 5 || k == 7 || k == 8 || k == 10 || k == 11 || k == 12 || k == 13 || k == 14 || k == 20 || k == 24 || k == 25 || k == 26 || k == 27) (ι := { k : Nat // k ≤ b.rows.length }) (fun z => [(Pl.o 4, It.box [TV.d (D.int IntKind.i64 0), TV.d (D.int IntKind.i64 0), TV.d (D.int IntKind.i64 0), TV.c (Value.slice none 0 0)]), (Pl.s 4, It.v (TV.ptr (Pl.o 4) 0)), (Pl.s 5, It.v (TV.d (D.bool false))), (Pl.o 8, It.box [TV.d (D.int IntKind.i64 b.r), TV.d (D.int IntKind.i64 b.sd), TV.d (D.int IntKind.i64 b.len), TV.oref 1000 z.1]), (Pl.s 8, It.v (TV.ptr (Pl.o 8) 0)), (Pl.o 1000, .row 94 2 (dd (rws (b.rows.take z.1))) false), (Pl.s 24, It.v (TV.d (D.sl (rws b.rows)))), (Pl.s 25, It.v (TV.d (D.int IntKind.i64 b.rows.length))), (Pl.s 26, It.v (TV.d (D.int IntKind.i64 z.1)))]) (fun z => b.rows.length - z.1) ⟨0, by omega⟩ ?_ ?_
      · exact GS.ownB' (.o 8) 3 1000 (cs := [TV.d (D.int IntKind.i64 b.r), TV.d (D.int IntKind.i64 b.sd), TV.d (D.int IntKind.i64 b.len), TV.c (Value.slice none 0 0)]) 94 2 (by simp) (by simp) (by simp) (by simp) (by simp [rws])
      rintro ⟨k, k1⟩
      by_cases hk : k < b.rows.length
      · have hkz : (k : Int) < b.rows.length := by omega
        have hy : b.rows[k]? = some b.rows[k] := List.getElem?_eq_getElem hk
        have ht : b.rows.take (k + 1) = b.rows.take k ++ [b.rows[k]] := by rw [List.take_add_one, List.getElem?_eq_getElem hk]; rfl
        have hnx := hm.nx b.rows[k] (List.getElem_mem hk)
        generalize b.rows[k] = y at hy ht hnx
        have hy' := rws_get hy
        simp -dsimp [hkz, hy']
        and_intros
        all_goals try first | rfl | omega | exact ⟨by kernel_rfl⟩
        refine ACall.of (clone_c y.nx (by omega)) [] 0 ?_
        simp -dsimp [hkz, hy', ints, wrap_i64 (n := (k : Int) + 1) (by omega) (by omega)]
        and_intros
        all_goals try first | rfl | omega | exact ⟨by kernel_rfl⟩
        exact ⟨⟨k + 1, by omega⟩, GS.to (by simp [ht, rws_app, ints]), by simp; omega⟩
      · have hkz : ¬ (k : Int) < b.rows.length := by omega
        obtain rfl : k = b.rows.length := by omega
        simp -dsimp [hkz]
        refine Fin.box (.o 4) rfl ?_
        simp -dsimp
        refine Fin.of ?_
        simp [foundT, e, tblT, rwsD_eq]
    · have e : findT l r = findT (l.drop (i + 1)) r := find_step hx i2 (by simpa using hr)
      simp -dsimp [hiz, hx', eq_false hr, wrap_i64 (n := (i : Int) + 1) (by omega) (by omega)]
      and_intros
      all_goals try first | rfl | omega | exact ⟨by kernel_rfl⟩
      exact ⟨⟨i + 1, by omega, e⟩, GS.to (by simp []), by simp; omega⟩
  · have e : findT l r = none := find_end i2 hi
    have hiz : ¬ (i : Int) < l.length := by omega
    simp -dsimp [hiz]
    refine Fin.box (.o 4) rfl ?_
    simp -dsimp
    refine Fin.of ?_
    simp [foundT, e, tblT, rwsD_eq, tb0, rws]
end Go.Proofs

set_option linter.unusedSimpArgs false
set_option maxRecDepth 100000
set_option maxHeartbeats 2000000
namespace Go.Proofs
open Go Go.Tr
theorem chk_parts {b : Tb} (h : chk b = 0) : b.head ∧ b.rows.length ≤ 256 ∧ (∀ x ∈ b.rows, x.nx.length ≤ 24) ∧ ∀ x ∈ b.rows, ¬ (1 < x.nx.length ∧ b.r ∈ x.nx) := by
  unfold chk at h
  split at h
  · simp at h
  rename_i h1
  split at h
  · simp at h
  split at h
  · simp at h
  rename_i h2
  split at h
  · simp at h
  rename_i h3
  split at h
  · simp at h
  split at h
  · simp at h
  rename_i h4
  exact ⟨Classical.byContradiction fun g => h1 g, by omega, fun x hx => Nat.le_of_not_lt fun g => h3 ⟨x, hx, g⟩, fun x hx g => h4 ⟨x, hx, g⟩⟩
theorem chk_sm {b : Tb} (h : chk b = 0) : b.Sm := ⟨by have := (chk_parts h).2.1; omega, fun x hx => by have := (chk_parts h).2.2.1 x hx; omega⟩
theorem gMixL_tape : ∀ (l : List Rt) (T : Tp), TapeOK (gMixL l T).2 = TapeOK T
  | [], _ => rfl
  | x :: l, T => by simp [gMixL, gMixL_tape l]
@[simp] theorem gMix_tape (T : Tp) (most : Int) : TapeOK (gMix T most).2 = TapeOK T := by simp [gMix, gMixL_tape]
end Go.Proofs

set_option linter.unusedSimpArgs false
set_option maxRecDepth 100000
set_option maxHeartbeats 2000000
namespace Go.Proofs
open Go Go.Tr
end Go.Proofs

set_option linter.unusedSimpArgs false
set_option maxRecDepth 100000
set_option maxHeartbeats 2000000
namespace Go.Proofs
open Go Go.Tr
end Go.Proofs

set_option linter.unusedSimpArgs false
set_option maxRecDepth 100000
set_option maxHeartbeats 2000000
namespace Go.Proofs
open Go Go.Tr
end Go.Proofs

set_option linter.unusedSimpArgs false
set_option maxRecDepth 100000
set_option maxHeartbeats 2000000
namespace Go.Proofs
open Go Go.Tr
end Go.Proofs

set_option linter.unusedSimpArgs false
set_option maxRecDepth 100000
set_option maxHeartbeats 2000000
namespace Go.Proofs
open Go Go.Tr
end Go.Proofs

set_option linter.unusedSimpArgs false
set_option maxRecDepth 100000
set_option maxHeartbeats 2000000
namespace Go.Proofs
open Go Go.Tr
theorem findT_mem {l : List Tb} {r : Int} {b : Tb} (h : findT l r = some b) : b ∈ l ∧ b.r = r := ⟨List.mem_of_find?_eq_some h, by simpa using List.find?_some h⟩
theorem path_n {l : List Tb} {pr : List Int} (h : pr.Nodup) (hf : ∀ x ∈ pr, (findT l x).isSome) : pr.length ≤ l.length := by
  have := nodup_le (m := l.map (·.r)) h fun x hx => by
    obtain ⟨b, hb⟩ := Option.isSome_iff_exists.1 (hf x hx)
    obtain ⟨h1, h2⟩ := findT_mem hb
    exact List.mem_map.2 ⟨b, h1, h2⟩
  simpa using this
end Go.Proofs

set_option linter.unusedSimpArgs false
set_option maxRecDepth 100000
set_option maxHeartbeats 2000000
namespace Go.Proofs
open Go Go.Tr
end Go.Proofs

set_option linter.unusedSimpArgs false
namespace Go.Proofs
open Go Go.Tr
/-! ### the lowest bit -/
def tz (B : BitVec 64) : Nat := ((List.range 64).find? fun i => B.getLsbD i).getD 64
theorem tz_spec {B : BitVec 64} (h : B ≠ 0#64) : tz B < 64 ∧ B.getLsbD (tz B) = true ∧ ∀ i < tz B, B.getLsbD i = false := by
  unfold tz
  cases hf : (List.range 64).find? fun i => B.getLsbD i with
  | none =>
    exfalso
    apply h
    apply BitVec.eq_of_getLsbD_eq
    intro i hi
    have := List.find?_eq_none.1 hf i (by simpa using hi)
    simpa using this
  | some k =>
    have h1 := List.find?_some hf
    have h2 := List.mem_of_find?_eq_some hf
    refine ⟨by simpa using h2, h1, fun i hi => ?_⟩
    obtain ⟨_, ps, qs, e, ha⟩ := List.find?_eq_some_iff_append.1 hf
    have hi' : i ∈ ps := by
      have hk : ps.length = k := by
        have h3 : (List.range 64)[ps.length]? = some k := by rw [e]; simp
        have h4 : ps.length < 64 := by
          have := congrArg List.length e
          simp at this
          omega
        rw [List.getElem?_range h4] at h3
        exact Option.some.inj h3
      have h5 : (List.range 64)[i]? = some i := List.getElem?_range (by simp at h2 hi; omega)
      rw [e, List.getElem?_append_left (by simp at hi; omega)] at h5
      exact List.mem_of_getElem? h5
    simpa using ha i hi'
theorem low_bit {B : BitVec 64} (h : B ≠ 0#64) : B &&& -B = 1#64 <<< tz B := by
  obtain ⟨h1, h2, h3⟩ := tz_spec h
  apply BitVec.eq_of_getLsbD_eq
  intro i hi
  rw [BitVec.getLsbD_and, BitVec.getLsbD_neg]
  simp only [BitVec.getLsbD_shiftLeft, BitVec.getLsbD_one]
  rcases Nat.lt_trichotomy i (tz B) with g | g | g
  · simp [h3 i g, g]
  · have : ¬ ∃ j < i, B.getLsbD j = true := fun ⟨j, hj, e⟩ => by rw [h3 j (by omega)] at e; cases e
    subst g
    rw [h2]
    simp [this, h1]
  · have : ∃ j < i, B.getLsbD j = true := ⟨_, g, h2⟩
    have e : ¬ i < tz B := by omega
    have e' : ¬ i - tz B = 0 := by omega
    simp [this, e, e', hi]
theorem deb_tz : ∀ k : Nat, k < 64 → deb[(((1#64 <<< k) * 0x03f79d71b4ca8b09#64) >>> 58).toNat]? = some (k : Int) := by decide
theorem wu_mul (X : BitVec 64) (c : Int) : wu (tn X * c) = X * wu c := by
  rw [wu, BitVec.ofInt_mul]
  exact congrArg (· * wu c) (wu_tn X)
theorem wu_neg (X : BitVec 64) : wu (tn (wu (-tn X))) = -X := by
  rw [wu_tn, wu, BitVec.ofInt_neg]
  exact congrArg (- ·) (wu_tn X)
theorem deb_at {B : BitVec 64} (h : B ≠ 0#64) : ∃ v : Nat, shrI IntKind.u64 (IntKind.u64.wrap (tn (B &&& wu (IntKind.u64.wrap (-tn B))) * 285870213051353865)) 58 = v ∧ v < 64 ∧ deb[v]? = some (tz B : Int) := by
  refine ⟨(((1#64 <<< tz B) * 0x03f79d71b4ca8b09#64) >>> 58).toNat, ?_, ?_, deb_tz _ (tz_spec h).1⟩
  · rw [wrap_tn, wrap_tn, wu_neg, low_bit h, wu_mul, u64_shr]
    rfl
  · rw [BitVec.toNat_ushiftRight, Nat.shiftRight_eq_div_pow]
    have := ((1#64 <<< tz B) * 0x03f79d71b4ca8b09#64).isLt
    omega
theorem tz64_c (B : BitVec 64) : Contract Tryd.prog 64 [.d (bv B)] [] (.d (.int .i64 (tz B))) [] [] := by
  refine contract_of Tryd.func64 rfl (fun E0 => ?_)
  refine awp.sound (g := .mk) (ow := []) (kp := (fun k => k == 0 || k == 2 || k == 4)) ?_
  rw [Tryd.ntmps64]
  by_cases h : B = 0#64
  · subst h
    simp -dsimp [bv]
    refine Fin.of ?_
    simp
    decide
  · obtain ⟨v, e, hv, hd⟩ := deb_at h
    have ht := (tz_spec h).1
    simp -dsimp [bv, h, e, hd]
    refine ⟨by omega, ?_⟩
    simp -dsimp [bv, h, e, hd, wrap_i64 (n := (tz B : Int)) (by omega) (by omega)]
    refine Fin.of ?_
    simp
def firstI (B : BitVec 64) : Int := if B = 0#64 then -1 else (tz B : Int)
theorem first_c (B : BitVec 64) : Contract Tryd.prog 33 [.d (bv B)] [] (.d (.int .i64 (firstI B))) [] [] := by
  refine contract_of Tryd.func33 rfl (fun E0 => ?_)
  refine awp.sound (g := .mk) (ow := []) (kp := (fun k => k == 0 || k == 2 || k == 4)) ?_
  rw [Tryd.ntmps33]
  by_cases h : B = 0#64
  · subst h
    simp -dsimp [bv]
    refine Fin.of ?_
    simp [firstI]
  · simp -dsimp [bv, h]
    refine ACall.of (tz64_c B) [] 0 ?_
    simp -dsimp
    refine ⟨rfl, Fin.of ?_⟩
    simp [firstI, h]
end Go.Proofs

set_option linter.unusedSimpArgs false
namespace Go.Proofs
open Go Go.Tr
/-- the bits, in order -/
def bitsL (B : BitVec 64) : List Nat := (List.range 64).filter fun i => B.getLsbD i
theorem clear_bit (B : BitVec 64) (i : Nat) (hi : i < 64) : (B &&& wu (tn B - 1)).getLsbD i = (B.getLsbD i && decide (∃ j < i, B.getLsbD j = true)) := by
  have e : wu (tn B - 1) = ~~~(-B) := by
    rw [BitVec.not_neg, wu, Int.sub_eq_add_neg, BitVec.ofInt_add]
    rw [show BitVec.ofInt 64 (tn B) = B from wu_tn B, show BitVec.ofInt 64 (-1) = -1#64 by decide, BitVec.sub_eq_add_neg]
  rw [e, BitVec.getLsbD_and, BitVec.getLsbD_not, BitVec.getLsbD_neg]
  cases h : B.getLsbD i
  · simp
  · simp [hi]
theorem bitsL_step {B : BitVec 64} (h : B ≠ 0#64) : bitsL B = tz B :: bitsL (B &&& wu (tn B - 1)) := by
  obtain ⟨h1, h2, h3⟩ := tz_spec h
  have e : List.range 64 = List.range (tz B) ++ (tz B :: (List.range' (tz B + 1) (63 - tz B))) := by
    rw [← List.range'_succ, List.range_eq_range', List.range_eq_range', show 64 = tz B + (63 - tz B + 1) by omega, ← List.range'_append_1]
    simp
  have f1 : ∀ (C : BitVec 64), (∀ i < tz B, C.getLsbD i = false) → (List.range (tz B)).filter (fun i => C.getLsbD i) = [] := fun C hC => by
    rw [List.filter_eq_nil_iff]
    intro i hi
    simp [hC i (by simpa using hi)]
  have c0 : ∀ i < tz B, (B &&& wu (tn B - 1)).getLsbD i = false := fun i hi => by rw [clear_bit B i (by omega), h3 i hi]; rfl
  have c1 : (B &&& wu (tn B - 1)).getLsbD (tz B) = false := by
    rw [clear_bit B _ h1, h2]
    have : ¬ ∃ j < tz B, B.getLsbD j = true := fun ⟨j, hj, e⟩ => by rw [h3 j hj] at e; cases e
    simp [this]
  unfold bitsL
  rw [e, List.filter_append, List.filter_append, f1 B h3, f1 _ c0, List.filter_cons, List.filter_cons, h2, c1]
  simp only [List.nil_append, if_true, Bool.false_eq_true, if_false, List.cons.injEq, true_and]
  apply List.filter_congr
  intro i hi
  have hi' := List.mem_range'_1.1 hi
  rw [clear_bit B i (by omega)]
  have : ∃ j < i, B.getLsbD j = true := ⟨tz B, by omega, h2⟩
  simp [this]
theorem bitsL_zero : bitsL 0#64 = [] := by simp [bitsL]
theorem bitsL_len (B : BitVec 64) : (bitsL B).length ≤ 64 := by
  have := List.length_filter_le (fun i => B.getLsbD i) (List.range 64)
  simpa [bitsL] using this
def bitsI (B : BitVec 64) : List Int := (bitsL B).map Int.ofNat
theorem bitsI_len (B : BitVec 64) : (bitsI B).length ≤ 64 := by simpa [bitsI] using bitsL_len B
theorem bitsI_step {B : BitVec 64} (h : B ≠ 0#64) : bitsI B = (tz B : Int) :: bitsI (B &&& wu (tn B - 1)) := by simp [bitsI, bitsL_step h]
theorem bitsI_zero : bitsI 0#64 = [] := by simp [bitsI, bitsL_zero]
theorem list_c (B : BitVec 64) : Contract Tryd.prog 38 [.d (bv B)] [] (.d (ints (bitsI B))) [] [] := by
  have hB := bitsI_len B
  refine contract_of Tryd.func38 rfl (fun E0 => ?_)
  refine awp.sound (g := .mk) (ow := []) (kp := (fun k => k == 0 || k == 2 || k == 3 || k == 5)) ?_
  rw [Tryd.ntmps38]
  simp -dsimp [bv]
  refine ALoop.of [3] (fun k => k == 0 || k == 2 || k == 3 || k == 5) (ι := { z : BitVec 64 × List Int // bitsI B = z.2 ++ bitsI z.1 }) (fun z => [(Pl.s 0, It.v (TV.d (D.int IntKind.u64 (tn z.1.1)))), (Pl.s 2, It.v (TV.c (Value.slice none 0 0))), (Pl.s 3, It.v (.oref 3 z.1.2.length)), (Pl.o 3, .row 3 1 (dd (nrow .i64 z.1.2)) false)]) (fun z => (bitsI z.1.1).length) ⟨(B, []), by simp⟩ ?_ ?_
  · exact GS.own' (k := 3) 3 1 (by simp) (by simp) (by simp [nrow])
  · rintro ⟨⟨R, l⟩, h⟩
    simp only at h
    have hl := congrArg List.length h
    simp only [List.length_append] at hl
    simp -dsimp
    by_cases h0 : R = 0#64
    · subst h0
      simp -dsimp
      refine Fin.view 2 ?_
      simp -dsimp
      refine Fin.of ?_
      simp [h, bitsI_zero, ints, nrow]
    · have hs := bitsI_step h0
      have hf := first_c R
      simp only [bv] at hf
      have ht := (tz_spec h0).1
      rw [hs] at hl
      simp only [List.length_cons] at hl
      simp -dsimp [h0]
      refine ACall.of hf [] 0 ?_
      have e : firstI R = (tz R : Int) := by simp [firstI, h0]
      rw [e]
      simp -dsimp [h0]
      and_intros
      all_goals try first | rfl | omega | exact ⟨by kernel_rfl⟩
      refine ⟨⟨(R &&& wu (tn R - 1), l ++ [(tz R : Int)]), by simp [h, hs]⟩, GS.to (by simp [nrow, wrap_tn]), by simp [hs]⟩
end Go.Proofs

set_option linter.unusedSimpArgs false
namespace Go.Proofs
open Go Go.Tr
theorem atP_c (set bit len : Int) : Contract Tryd.prog 34 [.d (.int .i64 set), .d (.int .i64 bit), .d (.int .i64 len)] [] (atT set bit len) [] [] := by
  refine contract_of Tryd.func34 rfl (fun E0 => ?_)
  refine awp.sound (g := .mk) (ow := []) (kp := (fun k => k == 0 || k == 1 || k == 2 || k == 6 || k == 7 || k == 8 || k == 23 || k == 31)) ?_
  rw [Tryd.ntmps34]
  simp -dsimp
  refine ACall.of (validLength_c2 len) [] 0 ?_
  rcases (Bool.eq_false_or_eq_true (validLen len)).symm with a1 | a1
  · simp -dsimp [a1]
    try refine ⟨?_, ⟨by kernel_rfl⟩⟩
    refine Fin.of ?_
    simp [atT, atB, a1]
  · have hl : len = 8 ∨ len = 16 ∨ len = 32 ∨ len = 64 := by simp [validLen] at a1; omega
    simp -dsimp [a1, wrap_i64 (n := len - 1) (by omega) (by omega)]
    refine ACall.of (in10_c bit 0 (len - 1)) [] 0 ?_
    rcases (Bool.eq_false_or_eq_true (inB bit 0 (len - 1))).symm with a2 | a2
    · simp -dsimp [a1, a2]
      try refine ⟨?_, ⟨by kernel_rfl⟩⟩
      refine Fin.of ?_
      simp [atT, atB, a1, a2]
    · simp -dsimp [a1, a2]
      refine ACall.of (in10_c set 0 31) [] 0 ?_
      rcases (Bool.eq_false_or_eq_true (inB set 0 31)).symm with a3 | a3
      · simp -dsimp [a1, a2, a3]
        try refine ⟨?_, ⟨by kernel_rfl⟩⟩
        refine Fin.of ?_
        simp [atT, atB, a1, a2, a3]
      · have b2 : 0 ≤ bit ∧ bit ≤ len - 1 := by simpa [inB] using a2
        have b3 : 0 ≤ set ∧ set ≤ 31 := by simpa [inB] using a3
        have b4 : 0 ≤ set * len ∧ set * len ≤ 1984 := by rcases hl with rfl | rfl | rfl | rfl <;> omega
        by_cases a4 : set * len + bit + 1 ≤ 256
        · have a5 : ¬ 256 < set * len + bit + 1 := by omega
          simp -dsimp [a1, a2, a3, a4, a5, wrap_i64 (n := set * len) (by omega) (by omega), wrap_i64 (n := set * len + bit) (by omega) (by omega), wrap_i64 (n := set * len + bit + 1) (by omega) (by omega)]
          try refine ⟨?_, ⟨by kernel_rfl⟩⟩
          refine Fin.of ?_
          simp [atT, atB, a1, a2, a3, a4]
        · have a5 : 256 < set * len + bit + 1 := by omega
          simp -dsimp [a1, a2, a3, a4, a5, wrap_i64 (n := set * len) (by omega) (by omega), wrap_i64 (n := set * len + bit) (by omega) (by omega), wrap_i64 (n := set * len + bit + 1) (by omega) (by omega)]
          try refine ⟨?_, ⟨by kernel_rfl⟩⟩
          refine Fin.of ?_
          simp [atT, atB, a1, a2, a3, a4]
def plnP (p : Pk) : Int := if p.ok = true then p.ent % 8 else 0
theorem ok_ent {p : Pk} (h : p.ok = true) : 0 ≤ p.ent ∧ p.ent ≤ 1023 := by
  simp only [Pk.ok, insB, Bool.and_eq_true, decide_eq_true_eq] at h
  omega
theorem plane_c (p : Pk) : Contract Tryd.prog 32 [pkT p] [] (.d (.int .i64 (plnP p))) [] [] := by
  refine contract_of Tryd.func32 rfl (fun E0 => ?_)
  refine awp.sound (g := .mk) (ow := []) (kp := (fun k => k == 0 || k == 1 || k == 2 || k == 5)) ?_
  rw [Tryd.ntmps32]
  have hv := valid_c2 p
  simp only [pkT, Pk.cs, List.map] at hv
  simp -dsimp [pkT, Pk.cs]
  refine ACall.of hv [] 0 ?_
  rcases (Bool.eq_false_or_eq_true p.ok).symm with a1 | a1
  · simp -dsimp [a1]
    refine Fin.of ?_
    simp [plnP, a1]
  · have h := ok_ent a1
    simp -dsimp [a1, wrap_i64 (n := p.ent % 8) (by omega) (by omega), Int.tmod_eq_emod_of_nonneg h.1]
    refine Fin.of ?_
    simp [plnP, a1]
def pkMask (p : Pk) (m : BitVec 64) : Pk := ⟨p.mode, p.subd, p.set, p.len, p.ttl - 1, p.ent, p.ing, p.proto, p.bits &&& m, p.pay⟩
def pk0 : Pk := ⟨0, 0, 0, 0, 0, 0, 0, 0, 0#64, ⟨#[]⟩⟩
def pkmR (p : Pk) (m : BitVec 64) : Pk × Bool := if p.ok = true ∧ p.ttl ≠ 0 ∧ p.bits &&& m ≠ 0#64 then (pkMask p m, true) else (pk0, false)
theorem ok_ttl {p : Pk} (h : p.ok = true) : 0 ≤ p.ttl ∧ p.ttl ≤ 63 := by
  simp only [Pk.ok, insB, Bool.and_eq_true, decide_eq_true_eq] at h
  omega
theorem masked_c (p : Pk) (m : BitVec 64) : Contract Tryd.prog 37 [pkT p, .d (bv m)] [] (.tup [pkT (pkmR p m).1, .d (.bool (pkmR p m).2)]) [] [] := by
  refine contract_of Tryd.func37 rfl (fun E0 => ?_)
  refine awp.sound (g := .mk) (ow := []) (kp := (fun k => k == 0 || k == 1 || k == 2 || k == 4 || k == 5 || k == 20)) ?_
  rw [Tryd.ntmps37]
  have hv := valid_c2 p
  simp only [pkT, Pk.cs, List.map, bv] at hv
  simp -dsimp [pkT, Pk.cs, bv]
  refine ACall.of hv [] 0 ?_
  rcases (Bool.eq_false_or_eq_true p.ok).symm with a1 | a1
  · simp -dsimp [a1]
    refine Fin.of ?_
    simp [pkmR, a1, pk0, pkT, Pk.cs, bv]
  · have h := ok_ttl a1
    by_cases a2 : p.ttl = 0
    · simp -dsimp [a1, a2]
      refine Fin.of ?_
      simp [pkmR, a2, pk0, pkT, Pk.cs, bv]
    by_cases a3 : p.bits &&& m = 0#64
    · simp -dsimp [a1, a2, a3]
      refine Fin.of ?_
      simp [pkmR, a3, pk0, pkT, Pk.cs, bv]
    simp -dsimp [a1, a2, a3, wrap_i64 (n := p.ttl - 1) (by omega) (by omega)]
    refine Fin.of ?_
    simp [pkmR, a1, a2, a3, pkMask, pkT, Pk.cs, bv]
def onlyR (p : Pk) (k : Int) : Pk := if p.ok = true ∧ 0 ≤ k ∧ k ≤ 63 ∧ p.bits.getLsbD k.toNat = true then ⟨p.mode, p.subd, p.set, p.len, p.ttl, p.ent, p.ing, p.proto, 1#64 <<< k.toNat, p.pay⟩ else pk0
theorem only_c (p : Pk) (k : Int) : Contract Tryd.prog 39 [pkT p, .d (.int .i64 k)] [] (pkT (onlyR p k)) [] [] := by
  refine contract_of Tryd.func39 rfl (fun E0 => ?_)
  refine awp.sound (g := .mk) (ow := []) (kp := (fun k => k == 0 || k == 1 || k == 2 || k == 4 || k == 23)) ?_
  rw [Tryd.ntmps39]
  have hv := valid_c2 p
  simp only [pkT, Pk.cs, List.map, bv] at hv
  simp -dsimp [pkT, Pk.cs, bv]
  refine ACall.of hv [] 0 ?_
  rcases (Bool.eq_false_or_eq_true p.ok).symm with a1 | a1
  · simp -dsimp [a1]
    refine Fin.of ?_
    simp [onlyR, a1, pk0, pkT, Pk.cs, bv]
  · by_cases a2 : k < 0
    · simp -dsimp [a1, a2]
      refine Fin.of ?_
      have : ¬ 0 ≤ k := by omega
      simp [onlyR, this, pk0, pkT, Pk.cs, bv]
    by_cases a3 : 63 < k
    · simp -dsimp [a1, a2, a3]
      refine Fin.of ?_
      have : ¬ k ≤ 63 := by omega
      simp [onlyR, this, pk0, pkT, Pk.cs, bv]
    have a4 : 0 ≤ k := by omega
    have a5 : k ≤ 63 := by omega
    simp -dsimp [a1, a2, a3, a4]
    have hb : (p.bits >>> k.toNat &&& 1#64 = 0#64) ↔ p.bits.getLsbD k.toNat = false := by
      rw [BitVec.and_one_eq_setWidth_ofBool_getLsbD, BitVec.getLsbD_ushiftRight, Nat.add_zero]
      cases p.bits.getLsbD k.toNat <;> decide
    refine AIf.dec (fun g => ?_) (fun g => ?_)
    · simp -dsimp
      refine Fin.of ?_
      simp [onlyR, hb.1 g, pk0, pkT, Pk.cs, bv]
    · have g' : p.bits.getLsbD k.toNat = true := by
        cases h : p.bits.getLsbD k.toNat with
        | true => rfl
        | false => exact absurd (by simpa using hb.2 h) g
      simp -dsimp [a4]
      refine Fin.of ?_
      simp [onlyR, a1, a4, a5, g', pkT, Pk.cs, bv]
end Go.Proofs

set_option linter.unusedSimpArgs false
namespace Go.Proofs
open Go Go.Tr
/-! ### what a router makes of a packet, plainly -/
structure Out where
  loc : BitVec 64
  lost : BitVec 64
  cps : List (Int × Pk)
def out0 : Out := ⟨0#64, 0#64, []⟩
def idAt (p : Pk) (k : Nat) : Int := if atB p.set k p.len = true then p.set * p.len + k + 1 else 0
def Pk.setB (p : Pk) (R : BitVec 64) : Pk := ⟨p.mode, p.subd, p.set, p.len, p.ttl, p.ent, p.ing, p.proto, R, p.pay⟩
def hopAt (b : Tb) (p : Pk) (k : Nat) : Int := nextV b (idAt p k) (plnP p)
def togR (b : Tb) (p : Pk) (R : BitVec 64) (n : Int) : BitVec 64 := R &&& maskP b (plnP p) p.set n
def fwdO (b : Tb) (p : Pk) (o : Out) (R : BitVec 64) : Out :=
  if hopAt b p (tz R) = 0 then ⟨o.loc, o.lost ||| 1#64 <<< tz R, o.cps⟩
  else if hopAt b p (tz R) = b.r then ⟨o.loc ||| 1#64 <<< tz R, o.lost, o.cps⟩
  else if (pkmR (p.setB R) (togR b p R (hopAt b p (tz R)))).2 = true then ⟨o.loc, o.lost, o.cps ++ [(hopAt b p (tz R), (pkmR (p.setB R) (togR b p R (hopAt b p (tz R)))).1)]⟩
  else ⟨o.loc, o.lost ||| togR b p R (hopAt b p (tz R)), o.cps⟩
def fwdM (b : Tb) (p : Pk) (R : BitVec 64) : BitVec 64 :=
  if hopAt b p (tz R) = 0 ∨ hopAt b p (tz R) = b.r then 1#64 <<< tz R else togR b p R (hopAt b p (tz R))
def fwdG (b : Tb) (p : Pk) : Nat → Out → BitVec 64 → Out
  | 0, o, _ => o
  | n + 1, o, R => if R = 0#64 then o else fwdG b p n (fwdO b p o R) (R &&& ~~~ fwdM b p R)
def fwdV (b : Tb) (p : Pk) : Out := fwdG b p 64 out0 p.bits
def fwdR (b : Tb) (p : Pk) : Out × Int :=
  if chk b ≠ 0 ∨ p.ok = false then (out0, 1) else if p.mode = 2 then (out0, 7) else if b.sd ≠ p.subd ∨ b.len ≠ p.len then (out0, 8) else (fwdV b p, 0)
theorem pop_less {R m : BitVec 64} {k : Nat} (hk : k < 64) (h1 : R.getLsbD k = true) (h2 : m.getLsbD k = true) : (bitsL (R &&& ~~~ m)).length < (bitsL R).length := by
  have e : bitsL (R &&& ~~~ m) = (bitsL R).filter fun i => !m.getLsbD i := by
    unfold bitsL
    rw [List.filter_filter]
    apply List.filter_congr
    intro i hi
    have : i < 64 := by simpa using hi
    rw [BitVec.getLsbD_and, BitVec.getLsbD_not]
    simp [this, Bool.and_comm]
  rw [e]
  refine List.length_filter_lt_length_iff_exists.2 ⟨k, ?_, by simp [h2]⟩
  simp [bitsL, hk, h1]
theorem pop_zero {R : BitVec 64} (h : (bitsL R).length = 0) : R = 0#64 := Classical.byContradiction fun g => by
  rw [bitsL_step g] at h
  simp at h
theorem ok_bits {p : Pk} (h : p.ok = true) : validLen p.len = true ∧ ∀ k < 64, p.bits.getLsbD k = true → (k : Int) < p.len := by
  simp only [Pk.ok, Bool.and_eq_true, validB, decide_eq_true_eq] at h
  obtain ⟨_, _, _, _, ⟨h1, h2⟩, _⟩ := h
  refine ⟨h1, fun k hk hb => ?_⟩
  have hl : p.len = 8 ∨ p.len = 16 ∨ p.len = 32 ∨ p.len = 64 := by simp [validLen] at h1; omega
  have h3 := congrArg (fun z => z.getLsbD k) h2
  simp only [BitVec.getLsbD_and, BitVec.getLsbD_not, hb, hk, decide_true, Bool.true_and, BitVec.getLsbD_zero, Bool.not_eq_false', fullB, h1, if_true] at h3
  rw [fullN_bit hk _ (by omega)] at h3
  have := of_decide_eq_true h3
  omega
theorem hop_zero {b : Tb} (h : chk b = 0) (p : Int) : hopB b 0 p = 0 := by
  have : rowOf b 0 = none := by
    rw [rowOf, List.find?_eq_none]
    intro x hx
    have := (chk_next h x hx).1
    simp
    omega
  simp [hopB, this, hopR]
theorem hop_range {b : Tb} (h : chk b = 0) {id p : Int} (h0 : hopB b id p ≠ 0) : 1 ≤ hopB b id p ∧ hopB b id p ≤ 99 := by
  unfold hopB at h0 ⊢
  have hm := hopR_mem h0
  cases hr : rowOf b id with
  | none => rw [hr] at h0; exact absurd (by simp [hopR]) h0
  | some x =>
    simp only [hr, Option.getD_some] at hm ⊢
    exact (chk_next h x (List.mem_of_find?_eq_some hr)).2 _ hm
theorem fwdM_bit {b : Tb} {p : Pk} (hc : chk b = 0) (hp : p.ok = true) (hl : b.len = p.len) {R : BitVec 64} (hR : ∀ k < 64, R.getLsbD k = true → p.bits.getLsbD k = true) (h0 : R ≠ 0#64) : (fwdM b p R).getLsbD (tz R) = true := by
  obtain ⟨t1, t2, _⟩ := tz_spec h0
  unfold fwdM
  split
  · rw [bit_one t1 t1]; simp
  · rename_i hn
    have hn0 : hopAt b p (tz R) ≠ 0 := fun e => hn (.inl e)
    have hk : ((tz R : Nat) : Int) < p.len := (ok_bits hp).2 _ t1 (hR _ t1 t2)
    have hpl : 0 ≤ plnP p ∧ plnP p ≤ 7 := by unfold plnP; split <;> omega
    have hs : 0 ≤ p.set ∧ p.set ≤ 31 := by
      simp only [Pk.ok, insB, Bool.and_eq_true, decide_eq_true_eq] at hp
      omega
    have v0 : valB b (plnP p) 0 = true := valB_iff.2 ⟨hc, hpl, by omega, by omega⟩
    have vs : valB b (plnP p) p.set = true := valB_iff.2 ⟨hc, hpl, hs⟩
    have ha : atB p.set (tz R) p.len = true := Classical.byContradiction fun g => hn0 (by
      rw [hopAt, idAt, if_neg g, nextV, if_pos v0]
      exact hop_zero hc _)
    have hh : hopAt b p (tz R) = hopB b (p.set * p.len + tz R + 1) (plnP p) := by rw [hopAt, idAt, if_pos ha, nextV, if_pos v0]
    have hr := hop_range hc (hh ▸ hn0)
    rw [togR, BitVec.getLsbD_and, t2, Bool.true_and, maskP_eq, maskR, if_pos ⟨vs, by rw [hh]; exact hr⟩]
    have hlen : b.len ≤ 64 := by
      have := (ok_bits hp).1
      simp [validLen] at this
      omega
    rw [bitsR_bit b _ _ _ t1 _ (by omega)]
    exact ⟨by omega, by rw [hl]; exact ha, by rw [hh]; omega, by rw [hl, hh]⟩
end Go.Proofs
