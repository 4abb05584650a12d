/-
  What functions of the program compute, stated as contracts over plain data; the conditions of each stand in its own statement.
-/
import Derived.Test.YtjgeggdefiejbaaGreatDoorW26
set_option linter.unusedSimpArgs false
set_option maxRecDepth 100000
set_option maxHeartbeats 2000000
namespace Go.Proofs
open Go Go.Tr
theorem indexT0_c (l : List Tb) (hl : l.length ≤ 1000000) (f : FuncId) (q : Tb → Bool) (hf : ∀ x, x ∈ l → Contract Tryz.prog f [tblT x] [] (.d (.bool (q x))) [] []) (hok : fnOK Tryz.prog f = true) :
  Contract Tryz.prog 151 [.d (.sl (l.map Tb.cs)), .clo f []] [] (.d (.int .i64 (idxR q l))) [] [] := by
 refine contract_of Tryz.func151 rfl (fun E0 => ?_)
 refine awp.sound (g := .mk) (ow := []) (kp := (fun k => k==0||k==1||k==4||k==5||k==7||k==8||k==9||k==16)) ?_
 rw [Tryz.ntmps151]
 simp -dsimp
 refine ALoop.of [] (fun k => k==0||k==1||k==4||k==5||k==7||k==8||k==9||k==16) (ι := { i : Nat // i ≤ l.length ∧ ∀ a, a < i → ∀ x, l[a]? = some x → q x = false })
  (fun z => [(Pl.s 0, It.v (.d (.sl (l.map Tb.cs)))), (Pl.s 1, It.v (.clo f [])), (Pl.s 4, It.v (.d (.int .i64 0))), (Pl.s 7, It.v (.d (.int .i64 l.length))), (Pl.s 8, It.v (.d (.int .i64 z.1)))]) (fun z => l.length - z.1) ⟨0, by omega, fun a h => by omega⟩ ?_ ?_
 ·exact GS.to (by simp)
 ·rintro ⟨i, i1, i2⟩
  by_cases hi : i < l.length
  ·have hiz : (i : Int) < l.length := by omega
   have hx : l[i]? = some l[i] := List.getElem?_eq_getElem hi
   have hm : l[i] ∈ l := List.getElem_mem hi
   generalize l[i] = x at hx hm
   simp -dsimp [hiz, hx, Tb.cs, rwsD, wrap_i64 (n := (i : Int) + 1) (by omega) (by omega)]
   and_intros
   all_goals try first | rfl | omega | exact ⟨by kernel_rfl⟩
   refine ACall.of (hf x hm) [] 0 ?_
   rcases (Bool.eq_false_or_eq_true (q x)).symm with h | h
   ·simp -dsimp [h, hok, tblT, rwsD, wrap_i64 (n := (i : Int) + 1) (by omega) (by omega)]
    and_intros
    all_goals try first | rfl | omega | exact ⟨by kernel_rfl⟩
    exact ⟨⟨i + 1, by omega, fun a ha y hy => by
     by_cases e : a = i
     ·subst e; rw [hx] at hy; simp only [Option.some.injEq] at hy; subst hy; exact h
     ·exact i2 a (by omega) y hy⟩, GS.to (by simp), by simp; omega⟩
   ·simp -dsimp [h, hok, tblT, rwsD]
    and_intros
    all_goals try first | rfl | omega | exact ⟨by kernel_rfl⟩
    refine Fin.of ?_
    simp [idx_at hx h i2]
  ·simp -dsimp [hi]
   refine Fin.of ?_
   simp
   exact (idx_no fun a ha => i2 a (by omega)).symm
theorem containsFT0_c (l : List Tb) (hl : l.length ≤ 1000000) (f : FuncId) (q : Tb → Bool) (hf : ∀ x, x ∈ l → Contract Tryz.prog f [tblT x] [] (.d (.bool (q x))) [] []) (hok : fnOK Tryz.prog f = true) :
  Contract Tryz.prog 121 [.d (.sl (l.map Tb.cs)), .clo f []] [] (.d (.bool (l.any q))) [] [] := by
 refine contract_of Tryz.func121 rfl (fun E0 => ?_)
 refine awp.sound (g := .mk) (ow := []) (kp := (fun k => k==0||k==1||k==4)) ?_
 rw [Tryz.ntmps121]
 simp -dsimp
 refine ACall.of (indexT0_c l hl f q hf hok) [] 0 ?_
 simp -dsimp
 refine Fin.of ?_
 simp [idx_any]
theorem indexT1_c (l : List Tb) (hl : l.length ≤ 1000000) (f : FuncId) (ds : List D) (q : Tb → Bool) (hf : ∀ x, x ∈ l → Contract Tryz.prog f [tblT x, .ptr (.x 0) 0] [.box (ds.map .d)] (.d (.bool (q x))) [.box (ds.map .d)] []) (hok : fnOK Tryz.prog f = true) :
  Contract Tryz.prog 151 [.d (.sl (l.map Tb.cs)), .clo f [.ptr (.x 0) 0]] [.box (ds.map .d)] (.d (.int .i64 (idxR q l))) [.box (ds.map .d)] [] := by
 refine contract_of Tryz.func151 rfl (fun E0 => ?_)
 refine awp.sound (g := .mk) (ow := []) (kp := (fun k => k==0||k==1||k==4||k==5||k==7||k==8||k==9||k==16)) ?_
 rw [Tryz.ntmps151]
 simp -dsimp
 refine ALoop.of [] (fun k => k==0||k==1||k==4||k==5||k==7||k==8||k==9||k==16) (ι := { i : Nat // i ≤ l.length ∧ ∀ a, a < i → ∀ x, l[a]? = some x → q x = false })
  (fun z => [(Pl.s 0, It.v (.d (.sl (l.map Tb.cs)))), (Pl.s 1, It.v (.clo f [TV.ptr (Pl.x 0) 0])), (Pl.x 0, It.box (List.map TV.d ds)), (Pl.s 4, It.v (.d (.int .i64 0))), (Pl.s 7, It.v (.d (.int .i64 l.length))), (Pl.s 8, It.v (.d (.int .i64 z.1)))]) (fun z => l.length - z.1) ⟨0, by omega, fun a h => by omega⟩ ?_ ?_
 ·exact GS.to (by simp)
 ·rintro ⟨i, i1, i2⟩
  by_cases hi : i < l.length
  ·have hiz : (i : Int) < l.length := by omega
   have hx : l[i]? = some l[i] := List.getElem?_eq_getElem hi
   have hm : l[i] ∈ l := List.getElem_mem hi
   generalize l[i] = x at hx hm
   simp -dsimp [hiz, hx, Tb.cs, rwsD, wrap_i64 (n := (i : Int) + 1) (by omega) (by omega)]
   and_intros
   all_goals try first | rfl | omega | exact ⟨by kernel_rfl⟩
   refine ACall.of (hf x hm) [.x 0] 0 ?_
   rcases (Bool.eq_false_or_eq_true (q x)).symm with h | h
   ·simp -dsimp [h, hok, tblT, rwsD, wrap_i64 (n := (i : Int) + 1) (by omega) (by omega)]
    and_intros
    all_goals try first | rfl | omega | exact ⟨by kernel_rfl⟩
    exact ⟨⟨i + 1, by omega, fun a ha y hy => by
     by_cases e : a = i
     ·subst e; rw [hx] at hy; simp only [Option.some.injEq] at hy; subst hy; exact h
     ·exact i2 a (by omega) y hy⟩, GS.to (by simp), by simp; omega⟩
   ·simp -dsimp [h, hok, tblT, rwsD]
    and_intros
    all_goals try first | rfl | omega | exact ⟨by kernel_rfl⟩
    refine Fin.of ?_
    simp [idx_at hx h i2]
  ·simp -dsimp [hi]
   refine Fin.of ?_
   simp
   exact (idx_no fun a ha => i2 a (by omega)).symm
theorem containsFT1_c (l : List Tb) (hl : l.length ≤ 1000000) (f : FuncId) (ds : List D) (q : Tb → Bool) (hf : ∀ x, x ∈ l → Contract Tryz.prog f [tblT x, .ptr (.x 0) 0] [.box (ds.map .d)] (.d (.bool (q x))) [.box (ds.map .d)] []) (hok : fnOK Tryz.prog f = true) :
  Contract Tryz.prog 121 [.d (.sl (l.map Tb.cs)), .clo f [.ptr (.x 0) 0]] [.box (ds.map .d)] (.d (.bool (l.any q))) [.box (ds.map .d)] [] := by
 refine contract_of Tryz.func121 rfl (fun E0 => ?_)
 refine awp.sound (g := .mk) (ow := []) (kp := (fun k => k==0||k==1||k==4)) ?_
 rw [Tryz.ntmps121]
 simp -dsimp
 refine ACall.of (indexT1_c l hl f ds q hf hok) [.x 0] 0 ?_
 simp -dsimp
 refine Fin.of ?_
 simp [idx_any]
def tbs (l : List Tb) : List (List D) := l.map Tb.cs
def rws (l : List Rw) : List (List D) := l.map Rw.cs
theorem rws_get {l : List Rw} {i : Nat} {x : Rw} (h : l[i]? = some x) : (rws l)[i]? = some [.int .i64 x.id, ints x.nx] := by simp [rws, h, Rw.cs]
@[simp] theorem rws_len (l : List Rw) : (rws l).length = l.length := by simp [rws]
theorem rws_app (l : List Rw) (x : Rw) : rws (l ++ [x]) = rws l ++ [[.int .i64 x.id, ints x.nx]] := by simp [rws, Rw.cs]
theorem rwsD_eq (l : List Rw) : rwsD l = .sl (rws l) := rfl
theorem tbs_get {l : List Tb} {i : Nat} {b : Tb} (h : l[i]? = some b) : (tbs l)[i]? = some [.int .i64 b.r, .int .i64 b.sd, .int .i64 b.len, .sl (rws b.rows)] := by simp [tbs, h, Tb.cs, rwsD_eq]
@[simp] theorem tbs_len (l : List Tb) : (tbs l).length = l.length := by simp [tbs]
structure SmL (l : List Tb) : Prop where
 n : l.length ≤ 1000
 t : ∀ b ∈ l, b.Sm
structure Tb.SmB (b : Tb) : Prop where
 rows : b.rows.length ≤ 9223372036854775807
 nx : ∀ x ∈ b.rows, x.nx.length ≤ 9223372036854775807
theorem Tb.Sm.big {b : Tb} (h : b.Sm) : b.SmB := ⟨Nat.le_trans h.rows (by decide), fun x hx => Nat.le_trans (h.nx x hx) (by decide)⟩
structure SmLB (l : List Tb) : Prop where
 n : l.length ≤ 1000
 t : ∀ b ∈ l, b.SmB
theorem SmL.big {l : List Tb} (h : SmL l) : SmLB l := ⟨h.n, fun b hb => (h.t b hb).big⟩
def tb0 : Tb := ⟨0, 0, 0, []⟩
def chkA (l : List Tb) : Int := firstE [(decide (24 < l.length), 3), (l.any fun b => decide (chk b ≠ 0), 1), (adjB (fun x y => decide (y.r ≤ x.r)) l, 25),
 (l.any fun b => decide (b.sd ≠ (l.headD tb0).sd) || decide (b.len ≠ (l.headD tb0).len), 8)]
def findT (l : List Tb) (r : Int) : Option Tb := l.find? fun b => decide (b.r = r)
def foundT (o : Option Tb) : TV := .tup [tblT (o.getD tb0), .d (.bool o.isSome)]
theorem find11_c (l : List Tb) (hl : SmL l) (r : Int) : Contract Tryz.prog 49 [.d (.sl (tbs l)), .d (.int .i64 r)] [] (foundT (findT l r)) [] [] := by
 have hn := hl.n
 refine contract_of Tryz.func49 rfl (fun E0 => ?_)
 refine awp.sound (g := .mk) (ow := []) (kp := (fun k => k==0||k==1||k==4||k==5||k==6||k==10||k==19)) ?_
 rw [Tryz.ntmps49]
 simp -dsimp
 refine ALoop.of [] (fun k => k==0||k==1||k==4||k==5||k==6||k==10||k==19) (ι := { i : Nat // i ≤ l.length ∧ findT l r = findT (l.drop i) r }) (fun z => [(Pl.s 0, It.v (.d (.sl (tbs l)))), (Pl.s 1, It.v (.d (.int .i64 r))), (Pl.o 4, It.box [TV.d (.int .i64 0), TV.d (.int .i64 0), TV.d (.int .i64 0), TV.c (Value.slice none 0 0)]), (Pl.s 4, It.v (.ptr (Pl.o 4) 0)), (Pl.s 5, It.v (.d (.bool false))), (Pl.s 6, It.v (.d (.int .i64 z.1)))]) (fun z => l.length - z.1) ⟨0, by omega, rfl⟩ ?_ ?_
 ·exact GS.to (by simp)
 rintro ⟨i, i1, i2⟩
 by_cases hi : i < l.length
 ·have hiz : (i : Int) < l.length := by omega
  have hx : l[i]? = some l[i] := List.getElem?_eq_getElem hi
  generalize l[i] = b at hx
  have hx' := tbs_get hx
  by_cases hr : b.r = r
  ·have e : findT l r = some b := find_hit hx i2 (by simpa using hr)
   simp -dsimp [hiz, hx', eq_true hr]
   and_intros
   all_goals try first | rfl | omega | exact ⟨by kernel_rfl⟩
   refine Fin.of ?_
   simp [foundT, e, tblT, rwsD_eq]
  ·have e : findT l r = findT (l.drop (i + 1)) r := find_step hx i2 (by simpa using hr)
   simp -dsimp [hiz, hx', eq_false hr, wrap_i64 (n := (i : Int) + 1) (by omega) (by omega)]
   and_intros
   all_goals try first | rfl | omega | exact ⟨by kernel_rfl⟩
   exact ⟨⟨i + 1, by omega, e⟩, GS.to (by simp []), by simp; omega⟩
 ·have e : findT l r = none := find_end i2 hi
  have hiz : ¬ (i : Int) < l.length := by omega
  simp -dsimp [hiz]
  refine Fin.box (.o 4) rfl ?_
  simp -dsimp
  refine Fin.of ?_
  simp [foundT, e, tblT, rwsD_eq, tb0, rws]
theorem checkA11_cL (l : List Tb) (hl : SmLB l) : Contract Tryz.prog 67 [.d (.sl (tbs l))] [] (.d (.int .i64 (chkA l))) [] [] := by
 have hn := hl.n
 refine contract_of Tryz.func67 rfl (fun E0 => ?_)
 refine awp.sound (g := .mk) (ow := []) (kp := (fun k => k==0||k==2||k==3||k==4||k==5||k==8||k==12||k==20||k==24||k==38||k==42||k==66)) ?_
 rw [Tryz.ntmps67]
 by_cases c1 : 24 < l.length
 ·have c1z : (24 : Int) < l.length := by omega
  simp -dsimp [c1z]
  refine Fin.of ?_
  simp [chkA, firstE, c1]
 have c1z : ¬ (24 : Int) < l.length := by omega
 simp -dsimp [c1z]
 clear c1z
 refine ALoop.of [] (fun k => k==0||k==2||k==3||k==4||k==5||k==8||k==12||k==20||k==24||k==38||k==42||k==66) (ι := { i : Nat // i ≤ l.length ∧ (l.any fun b => decide (chk b ≠ 0)) = (l.drop i).any fun b => decide (chk b ≠ 0) }) (fun z => [(Pl.s 0, It.v (.d (.sl (tbs l)))), (Pl.s 2, It.v (.d (.int .i64 0))), (Pl.s 3, It.v (.d (.int .i64 z.1)))]) (fun z => l.length - z.1) ⟨0, by omega, rfl⟩ ?_ ?_
 ·exact GS.to (by simp)
 rintro ⟨i, i1, i2⟩
 by_cases hi : i < l.length
 ·have hiz : (i : Int) < l.length := by omega
  have hx : l[i]? = some l[i] := List.getElem?_eq_getElem hi
  have hm := hl.t l[i] (List.getElem_mem hi)
  generalize l[i] = b at hx hm
  have hx' := tbs_get hx
  simp -dsimp [hiz, hx']
  and_intros
  all_goals try first | rfl | omega | exact ⟨by kernel_rfl⟩
  refine ACall.of (check11_cL b hm.rows hm.nx) [] 0 ?_
  by_cases a1 : chk b = 0
  ·simp -dsimp [hiz, hx', tblT, rwsD_eq, eq_true a1, wrap_i64 (n := (i : Int) + 1) (by omega) (by omega)]
   and_intros
   all_goals try first | rfl | omega | exact ⟨by kernel_rfl⟩
   exact ⟨⟨i + 1, by omega, any_step hx i2 (by simpa using a1)⟩, GS.to (by simp []), by simp; omega⟩
  ·simp -dsimp [hiz, hx', tblT, rwsD_eq, eq_false a1]
   and_intros
   all_goals try first | rfl | omega | exact ⟨by kernel_rfl⟩
   refine Fin.of ?_
   have e : (l.any fun b => decide (chk b ≠ 0)) = true := any_hit hx (by simpa using a1)
   simp only [chkA, firstE, cond_true, cond_false, decide_eq_false c1, e]; simp
 have e1 := any_end i2 hi
 have hiz : ¬ (i : Int) < l.length := by omega
 simp -dsimp [hiz]
 as_aux_lemma =>
 refine ALoop.of [] (fun k => k==0||k==2||k==3||k==4||k==5||k==8||k==12||k==20||k==24||k==38||k==42||k==66) (ι := { i : Nat // i ≤ l.length ∧ adjB (fun x y => decide (y.r ≤ x.r)) l = adjB (fun (x y : Tb) => decide (y.r ≤ x.r)) (l.drop i) }) (fun z => [(Pl.s 0, It.v (.d (.sl (tbs l)))), (Pl.s 2, It.v (.d (.int .i64 0))), (Pl.s 4, It.v (.d (.int .i64 ((z.1 : Int) + 1))))]) (fun z => l.length - z.1) ⟨0, by omega, rfl⟩ ?_ ?_
 ·exact GS.to (by simp)
 rintro ⟨i, i1, i2⟩
 by_cases hi : i + 1 < l.length
 ·have hi0 : i < l.length := by omega
  have hiz : (i : Int) + 1 < l.length := by omega
  have hx : l[i]? = some l[i] := List.getElem?_eq_getElem hi0
  have hy : l[i + 1]? = some l[i + 1] := List.getElem?_eq_getElem hi
  generalize l[i] = x at hx
  generalize l[i + 1] = y at hy
  have hx' := tbs_get hx
  have hy' := tbs_get hy
  by_cases a1 : y.r ≤ x.r
  ·simp -dsimp [hiz, hx', hy', a1, toNat_succ, wrap_i64 (n := (i : Int)) (by omega) (by omega)]
   and_intros
   all_goals try first | rfl | omega | exact ⟨by kernel_rfl⟩
   refine Fin.of ?_
   have e := adj_hit hx hy i2 (by simpa using a1)
   simp only [chkA, firstE, cond_true, cond_false, decide_eq_false c1, e1, e]; simp
  ·simp -dsimp [hiz, hx', hy', a1, toNat_succ, wrap_i64 (n := (i : Int)) (by omega) (by omega), wrap_i64 (n := (i : Int) + 1 + 1) (by omega) (by omega)]
   and_intros
   all_goals try first | rfl | omega | exact ⟨by kernel_rfl⟩
   exact ⟨⟨i + 1, by omega, adj_step hx hy i2 (by simpa using a1)⟩, GS.to (by simp []), by simp; omega⟩
 have e2 := adj_end i2 hi
 have hiz : ¬ (i : Int) + 1 < l.length := by omega
 simp -dsimp [hiz]
 as_aux_lemma =>
 have hcf : (l.any fun b => decide (b.sd ≠ (l.headD tb0).sd) || decide (b.len ≠ (l.headD tb0).len)) = ((l.drop 1).any fun b => decide (b.sd ≠ (l.headD tb0).sd) || decide (b.len ≠ (l.headD tb0).len)) := by
  cases l with
  | nil => rfl
  | cons c m =>
    have : (decide (c.sd ≠ c.sd) || decide (c.len ≠ c.len)) = false := by simp
    exact (congrArg (· || _) this).trans (Bool.false_or _)
 have hget : ∀ (i : Nat) (b : Tb), l[i]? = some b → l[0]? = some (l.headD tb0) := fun i b h => by
  have hi := (List.getElem?_eq_some_iff.1 h).1
  obtain ⟨c, m, e⟩ := List.exists_cons_of_length_pos (show 0 < l.length by omega)
  rw [e]; rfl
 have hck : chkA l = bif (l.any fun b => decide (b.sd ≠ (l.headD tb0).sd) || decide (b.len ≠ (l.headD tb0).len)) then 8 else 0 := by
  simp only [chkA, firstE, cond_true, cond_false, decide_eq_false c1, e1, e2]
 generalize l.headD tb0 = c at hcf hget hck
 refine ALoop.of [] (fun k => k==0||k==2||k==3||k==4||k==5||k==8||k==12||k==20||k==24||k==38||k==42||k==66) (ι := { i : Nat // (l.any fun b => decide (b.sd ≠ c.sd) || decide (b.len ≠ c.len)) = (l.drop (i + 1)).any fun b => decide (b.sd ≠ c.sd) || decide (b.len ≠ c.len) }) (fun z => [(Pl.s 0, It.v (.d (.sl (tbs l)))), (Pl.s 2, It.v (.d (.int .i64 0))), (Pl.s 5, It.v (.d (.int .i64 ((z.1 : Int) + 1))))]) (fun z => l.length - z.1) ⟨0, hcf⟩ ?_ ?_
 ·exact GS.to (by simp)
 rintro ⟨i, i2⟩
 by_cases hi : i + 1 < l.length
 ·have hiz : (i : Int) + 1 < l.length := by omega
  have hx : l[i + 1]? = some l[i + 1] := List.getElem?_eq_getElem hi
  have h0 := hget _ _ hx
  generalize l[i + 1] = b at hx
  have hx' := tbs_get hx
  have h0' := tbs_get h0
  by_cases a1 : b.sd = c.sd
  ·by_cases a2 : b.len = c.len
   ·simp -dsimp [hiz, hx', h0', eq_true a1, eq_true a2, toNat_succ, wrap_i64 (n := (i : Int) + 1 + 1) (by omega) (by omega)]
    and_intros
    all_goals try first | rfl | omega | exact ⟨by kernel_rfl⟩
    exact ⟨⟨i + 1, any_step hx i2 (by simp [a1, a2])⟩, GS.to (by simp), by simp; omega⟩
   ·simp -dsimp [hiz, hx', h0', eq_true a1, eq_false a2, toNat_succ]
    and_intros
    all_goals try first | rfl | omega | exact ⟨by kernel_rfl⟩
    refine Fin.of ?_
    have e := any_hit (q := fun b => decide (b.sd ≠ c.sd) || decide (b.len ≠ c.len)) hx (by simp [a2])
    rw [hck, e]; simp
  ·simp -dsimp [hiz, hx', h0', eq_false a1, toNat_succ]
   and_intros
   all_goals try first | rfl | omega | exact ⟨by kernel_rfl⟩
   refine Fin.of ?_
   have e := any_hit (q := fun b => decide (b.sd ≠ c.sd) || decide (b.len ≠ c.len)) hx (by simp [a1])
   rw [hck, e]; simp
 ·have e3 := any_end i2 hi
  have hiz : ¬ (i : Int) + 1 < l.length := by omega
  simp -dsimp [hiz]
  refine Fin.of ?_
  rw [hck, e3]; simp
theorem checkA11_c (l : List Tb) (hl : SmL l) : Contract Tryz.prog 67 [.d (.sl (tbs l))] [] (.d (.int .i64 (chkA l))) [] [] := checkA11_cL l hl.big
theorem ck1_cL (b : Tb) (hb : b.SmB) : Contract Tryz.prog 122 [tblT b] [] (.d (.bool (decide (chk b ≠ 0)))) [] [] := by
 refine contract_of Tryz.func122 rfl (fun E0 => ?_)
 refine awp.sound (g := .mk) (ow := []) (kp := (fun k => k==0||k==1||k==2)) ?_
 rw [Tryz.ntmps122]
 simp -dsimp [tblT]
 refine ACall.of (tcheck_cL b hb.rows hb.nx) [] 0 ?_
 simp -dsimp [tblT]
 refine Fin.of ?_
 simp
theorem ck1_c (b : Tb) (hb : b.Sm) : Contract Tryz.prog 122 [tblT b] [] (.d (.bool (decide (chk b ≠ 0)))) [] [] := ck1_cL b hb.big
theorem ck2_c (l : List Tb) (c : Tb) (h0 : l[0]? = some c) (b : Tb) : Contract Tryz.prog 124 [tblT b, .ptr (.x 0) 0] [.box ([D.sl (tbs l)].map .d)] (.d (.bool (decide (b.sd ≠ c.sd) || decide (b.len ≠ c.len)))) [.box ([D.sl (tbs l)].map .d)] [] := by
 have h0' := tbs_get h0
 have hl : 0 < l.length := (List.getElem?_eq_some_iff.1 h0).1
 refine contract_of Tryz.func124 rfl (fun E0 => ?_)
 refine awp.sound (g := .mk) (ow := []) (kp := (fun k => k==0||k==1||k==2||k==3)) ?_
 rw [Tryz.ntmps124]
 by_cases a1 : b.sd = c.sd
 ·simp -dsimp [tblT, h0', eq_true a1]
  and_intros
  all_goals try first | rfl | omega | exact ⟨by kernel_rfl⟩
  refine Fin.of ?_
  simp
 ·simp -dsimp [tblT, h0', eq_false a1]
  and_intros
  all_goals try first | rfl | omega | exact ⟨by kernel_rfl⟩
  refine Fin.of ?_
  simp [a1]
theorem checkA_cL (l : List Tb) (hl : SmLB l) : Contract Tryz.prog 76 [.d (.sl (tbs l))] [] (.d (.int .i64 (chkA l))) [] [] := by
 have hn := hl.n
 refine contract_of Tryz.func76 rfl (fun E0 => ?_)
 refine awp.sound (g := .mk) (ow := []) (kp := (fun k => k==0||k==1||k==2||k==3||k==4||k==8||k==12||k==13||k==14||k==31||k==35)) ?_
 rw [Tryz.ntmps76]
 by_cases c1 : 24 < l.length
 ·have c1z : (24 : Int) < l.length := by omega
  simp -dsimp [c1z]
  refine Fin.of ?_
  simp [chkA, firstE, c1]
 have c1z : ¬ (24 : Int) < l.length := by omega
 simp -dsimp [c1z]
 have hA := containsFT0_c l (by omega) 122 (fun b => decide (chk b ≠ 0)) (fun b hb => ck1_cL b (hl.t b hb)) (by simp)
 refine ACall.of hA [] 0 ?_
 rcases Bool.eq_false_or_eq_true (l.any fun b => decide (chk b ≠ 0)) with e1 | e1
 ·rw [e1]
  simp -dsimp [c1z, tbs]
  refine Fin.of ?_
  simp only [chkA, firstE, cond_true, cond_false, decide_eq_false c1, e1]; simp
 rw [e1]
 simp -dsimp [c1z, tbs]
 as_aux_lemma =>
 refine ALoop.of [] (fun k => k==0||k==1||k==2||k==3||k==4||k==8||k==12||k==13||k==14||k==31||k==35) (ι := { i : Nat // i ≤ l.length ∧ adjB (fun x y => decide (y.r ≤ x.r)) l = adjB (fun (x y : Tb) => decide (y.r ≤ x.r)) (l.drop (i - 1)) }) (fun z => [(Pl.s 0, It.v (.d (.sl (tbs l)))), (Pl.o 1, It.box [TV.d (.sl (tbs l))]), (Pl.s 1, It.v (.ptr (Pl.o 1) 0)), (Pl.s 2, It.v (.d (.int .i64 0))), (Pl.s 12, It.v (.d (.int .i64 l.length))), (Pl.s 13, It.v (.d (.int .i64 z.1)))]) (fun z => l.length - z.1) ⟨0, by omega, rfl⟩ ?_ ?_
 ·exact GS.to (by simp [tbs])
 rintro ⟨i, i1, i2⟩
 by_cases hi : i < l.length
 ·have hiz : (i : Int) < l.length := by omega
  have hy : l[i]? = some l[i] := List.getElem?_eq_getElem hi
  generalize l[i] = y at hy
  have hy' := tbs_get hy
  by_cases h0 : i = 0
  ·have h0z : ¬ 0 < i := by omega
   simp -dsimp [hiz, hy', h0z, wrap_i64 (n := (i : Int) + 1) (by omega) (by omega)]
   and_intros
   all_goals try first | rfl | omega | exact ⟨by kernel_rfl⟩
   exact ⟨⟨i + 1, by omega, by simp [h0]⟩, GS.to (by simp), by simp; omega⟩
  ·have h0z : 0 < i := by omega
   have hx : l[i - 1]? = some l[i - 1] := List.getElem?_eq_getElem (by omega)
   have hi1 : ((i : Int) - 1).toNat = i - 1 := by omega
   have hy2 : l[i - 1 + 1]? = some y := by rw [show i - 1 + 1 = i by omega]; exact hy
   generalize l[i - 1] = x at hx
   have hx' := tbs_get hx
   by_cases a1 : y.r ≤ x.r
   ·simp -dsimp [hiz, hx', hy', h0z, hi1, a1, wrap_i64 (n := (i : Int) - 1) (by omega) (by omega)]
    and_intros
    all_goals try first | rfl | omega | exact ⟨by kernel_rfl⟩
    refine Fin.of ?_
    have e := adj_hit hx hy2 i2 (by simpa using a1)
    simp only [chkA, firstE, cond_true, cond_false, decide_eq_false c1, e1, e]; simp
   ·simp -dsimp [hiz, hx', hy', h0z, hi1, a1, wrap_i64 (n := (i : Int) - 1) (by omega) (by omega), wrap_i64 (n := (i : Int) + 1) (by omega) (by omega)]
    and_intros
    all_goals try first | rfl | omega | exact ⟨by kernel_rfl⟩
    have e := adj_step hx hy2 i2 (by simpa using a1)
    rw [show i - 1 + 1 = i by omega] at e
    exact ⟨⟨i + 1, by omega, e⟩, GS.to (by simp), by simp; omega⟩
 have e2 : adjB (fun x y => decide (y.r ≤ x.r)) l = false := adj_end i2 (by omega)
 have hiz : ¬ (i : Int) < l.length := by omega
 simp -dsimp [hiz]
 have hget : ∀ b ∈ l, l[0]? = some (l.headD tb0) := fun b h => by
  have hi := List.length_pos_of_mem h
  obtain ⟨c, m, e⟩ := List.exists_cons_of_length_pos hi
  rw [e]; rfl
 have hck : chkA l = bif (l.any fun b => decide (b.sd ≠ (l.headD tb0).sd) || decide (b.len ≠ (l.headD tb0).len)) then 8 else 0 := by
  simp only [chkA, firstE, cond_true, cond_false, decide_eq_false c1, e1, e2]
 have hB := containsFT1_c l (by omega) 124 [D.sl (tbs l)] (fun b => decide (b.sd ≠ (l.headD tb0).sd) || decide (b.len ≠ (l.headD tb0).len)) (fun b hb => ck2_c l _ (hget b hb) b) (by simp)
 rw [hck]
 generalize (l.any fun b => decide (b.sd ≠ (l.headD tb0).sd) || decide (b.len ≠ (l.headD tb0).len)) = B at hB ⊢
 have hT : l.map Tb.cs = tbs l := rfl
 rw [hT] at hB
 refine ACall.of hB [.o 1] 0 ?_
 cases B
 ·simp -dsimp
  refine Fin.of ?_
  simp
 ·simp -dsimp
  refine Fin.of ?_
  simp
theorem checkA_c (l : List Tb) (hl : SmL l) : Contract Tryz.prog 76 [.d (.sl (tbs l))] [] (.d (.int .i64 (chkA l))) [] [] := checkA_cL l hl.big
theorem find_c (l : List Tb) (hl : SmL l) (r : Int) : Contract Tryz.prog 77 [.d (.sl (tbs l)), .d (.int .i64 r)] [] (foundT (findT l r)) [] [] := by
 have hn := hl.n
 refine contract_of Tryz.func77 rfl (fun E0 => ?_)
 refine awp.sound (g := .mk) (ow := []) (kp := (fun k => k==0||k==1||k==4||k==5||k==7||k==8||k==10||k==11||k==12||k==13||k==14||k==20||k==24||k==25||k==26||k==27)) ?_
 rw [Tryz.ntmps77]
 simp -dsimp
 refine ALoop.of [] (fun k => k==0||k==1||k==4||k==5||k==7||k==8||k==10||k==11||k==12||k==13||k==14||k==20||k==24||k==25||k==26||k==27) (ι := { i : Nat // i ≤ l.length ∧ findT l r = findT (l.drop i) r }) (fun z => [(Pl.s 0, It.v (.d (.sl (tbs l)))), (Pl.s 1, It.v (.d (.int .i64 r))), (Pl.o 4, It.box [TV.d (.int .i64 0), TV.d (.int .i64 0), TV.d (.int .i64 0), TV.c (Value.slice none 0 0)]), (Pl.s 4, It.v (.ptr (Pl.o 4) 0)), (Pl.s 5, It.v (.d (.bool false))), (Pl.s 11, It.v (.d (.sl (tbs l)))), (Pl.s 12, It.v (.d (.int .i64 l.length))), (Pl.s 13, It.v (.d (.int .i64 z.1)))]) (fun z => l.length - z.1) ⟨0, by omega, rfl⟩ ?_ ?_
 ·exact GS.to (by simp)
 rintro ⟨i, i1, i2⟩
 by_cases hi : i < l.length
 ·have hiz : (i : Int) < l.length := by omega
  have hx : l[i]? = some l[i] := List.getElem?_eq_getElem hi
  have hm := hl.t l[i] (List.getElem_mem hi)
  generalize l[i] = b at hx hm
  have hx' := tbs_get hx
  by_cases hr : b.r = r
  ·have e : findT l r = some b := find_hit hx i2 (by simpa using hr)
   have hrl := hm.rows
   simp -dsimp [hiz, hx', eq_true hr]
   and_intros
   all_goals try first | rfl | omega | exact ⟨by kernel_rfl⟩
   as_aux_lemma =>
   refine ALoop.of [] (fun k => k==0||k==1||k==4||k==5||k==7||k==8||k==10||k==11||k==12||k==13||k==14||k==20||k==24||k==25||k==26||k==27) (ι := { k : Nat // k ≤ b.rows.length }) (fun z => [(Pl.o 4, It.box [TV.d (.int .i64 0), TV.d (.int .i64 0), TV.d (.int .i64 0), TV.c (Value.slice none 0 0)]), (Pl.s 4, It.v (.ptr (Pl.o 4) 0)), (Pl.s 5, It.v (.d (.bool false))), (Pl.o 8, It.box [TV.d (.int .i64 b.r), TV.d (.int .i64 b.sd), TV.d (.int .i64 b.len), TV.oref 1000 z.1]), (Pl.s 8, It.v (.ptr (Pl.o 8) 0)), (Pl.o 1000, .row 95 2 (dd (rws (b.rows.take z.1))) false), (Pl.s 24, It.v (.d (.sl (rws b.rows)))), (Pl.s 25, It.v (.d (.int .i64 b.rows.length))), (Pl.s 26, It.v (.d (.int .i64 z.1)))]) (fun z => b.rows.length - z.1) ⟨0, by omega⟩ ?_ ?_
   ·exact GS.ownB' (.o 8) 3 1000 (cs := [TV.d (.int .i64 b.r), TV.d (.int .i64 b.sd), TV.d (.int .i64 b.len), TV.c (Value.slice none 0 0)]) 95 2 (by simp) (by simp) (by simp) (by simp) (by simp [rws])
   rintro ⟨k, k1⟩
   by_cases hk : k < b.rows.length
   ·have hkz : (k : Int) < b.rows.length := by omega
    have hy : b.rows[k]? = some b.rows[k] := List.getElem?_eq_getElem hk
    have ht : b.rows.take (k + 1) = b.rows.take k ++ [b.rows[k]] := by rw [List.take_add_one, List.getElem?_eq_getElem hk]; rfl
    have hnx := hm.nx b.rows[k] (List.getElem_mem hk)
    generalize b.rows[k] = y at hy ht hnx
    have hy' := rws_get hy
    simp -dsimp [hkz, hy']
    and_intros
    all_goals try first | rfl | omega | exact ⟨by kernel_rfl⟩
    refine ACall.of (clone_c y.nx (by omega)) [] 0 ?_
    simp -dsimp [hkz, hy', ints, wrap_i64 (n := (k : Int) + 1) (by omega) (by omega)]
    and_intros
    all_goals try first | rfl | omega | exact ⟨by kernel_rfl⟩
    exact ⟨⟨k + 1, by omega⟩, GS.to (by simp [ht, rws_app, ints]), by simp; omega⟩
   ·have hkz : ¬ (k : Int) < b.rows.length := by omega
    obtain rfl : k = b.rows.length := by omega
    simp -dsimp [hkz]
    refine Fin.box (.o 4) rfl ?_
    simp -dsimp
    refine Fin.of ?_
    simp [foundT, e, tblT, rwsD_eq]
  ·have e : findT l r = findT (l.drop (i + 1)) r := find_step hx i2 (by simpa using hr)
   simp -dsimp [hiz, hx', eq_false hr, wrap_i64 (n := (i : Int) + 1) (by omega) (by omega)]
   and_intros
   all_goals try first | rfl | omega | exact ⟨by kernel_rfl⟩
   exact ⟨⟨i + 1, by omega, e⟩, GS.to (by simp []), by simp; omega⟩
 ·have e : findT l r = none := find_end i2 hi
  have hiz : ¬ (i : Int) < l.length := by omega
  simp -dsimp [hiz]
  refine Fin.box (.o 4) rfl ?_
  simp -dsimp
  refine Fin.of ?_
  simp [foundT, e, tblT, rwsD_eq, tb0, rws]
theorem chk_parts {b : Tb} (h : chk b = 0) : b.head ∧ b.rows.length ≤ 256 ∧ (∀ x ∈ b.rows, x.nx.length ≤ 24) ∧ ∀ x ∈ b.rows, ¬ (1 < x.nx.length ∧ b.r ∈ x.nx) := by
 unfold chk at h
 split at h
 ·simp at h
 rename_i h1
 split at h
 ·simp at h
 split at h
 ·simp at h
 rename_i h2
 split at h
 ·simp at h
 rename_i h3
 split at h
 ·simp at h
 split at h
 ·simp at h
 rename_i h4
 exact ⟨Classical.byContradiction fun g => h1 g, by omega, fun x hx => Nat.le_of_not_lt fun g => h3 ⟨x, hx, g⟩, fun x hx g => h4 ⟨x, hx, g⟩⟩
theorem chk_sm {b : Tb} (h : chk b = 0) : b.Sm := ⟨by have := (chk_parts h).2.1; omega, fun x hx => by have := (chk_parts h).2.2.1 x hx; omega⟩
theorem gTopA_len (cost tree : Int) (skip : Bool) (b : Int) : ∀ (n : Nat) (a : Int) (T : Tp) (l : List Lk), (gTopA cost tree skip b n a T l).1.length ≤ l.length + n
 | 0, _, _, _ => Nat.le_refl _
 | n + 1, a, T, l => by
   have h1 := gTopA_len cost tree skip b n (a + 1) (gTopS cost tree skip b a T l).2 (gTopS cost tree skip b a T l).1
   have h2 := gTopS_len cost tree skip b a T l
   rw [gTopA]
   omega
theorem gTopB_len (cost : Int) : ∀ (n : Nat) (b : Int) (T : Tp) (l : List Lk), 0 ≤ b → (gTopB cost n b T l).1.length ≤ l.length + n * (b + n).toNat
 | 0, _, _, _, _ => by simp [gTopB]
 | n + 1, b, T, l, hb => by
   have h1 := gTopB_len cost n (b + 1) (gTopR cost b T l).2 (gTopR cost b T l).1 (by omega)
   have h2 : (gTopR cost b T l).1.length ≤ l.length + (b - 1).toNat := gTopA_len _ _ _ _ _ _ _ _
   rw [gTopB]
   have e : (b + 1 + n).toNat = (b + (n + 1 : Nat)).toNat := by omega
   rw [e] at h1
   have h3 : (n + 1) * (b + (n + 1 : Nat)).toNat = n * (b + (n + 1 : Nat)).toNat + (b + (n + 1 : Nat)).toNat := Nat.succ_mul _ _
   omega
theorem ordL_len : ∀ (l out : List Lk), (ordL l out).length = l.length + out.length
 | [], _ => by simp [ordL]
 | x :: l, out => by
   rw [ordL, ordL_len l]
   simp
   omega
theorem gTop_small (T : Tp) {most : Int} (hm : 1 ≤ most ∧ most ≤ 24) : (gTop T most).1.rs.length ≤ 24 ∧ (gTop T most).1.ls.length ≤ 1000 := by
 have b1 := gRange_lo T 1 most
 have b2 := gRange_hi T (a := 1) (b := most) (by omega)
 simp only [gTop, ordL_len]
 generalize gRange T 1 most = R at b1 b2 ⊢
 have h := gTopB_len (gPick R.2 [1, 2, 2, 5]).1 (R.1 + 1 - 2).toNat 2 (gPick R.2 [1, 2, 2, 5]).2 [] (by omega)
 have h1 : (R.1 + 1 - 2).toNat ≤ 23 := by omega
 have h2 : (2 + ((R.1 + 1 - 2).toNat : Int)).toNat ≤ 25 := by omega
 have h3 := Nat.mul_le_mul h1 h2
 simp only [List.length_nil] at h ⊢
 exact ⟨by simp [gRts]; omega, by omega⟩
theorem gMixL_tape : ∀ (l : List Rt) (T : Tp), TapeOK (gMixL l T).2 = TapeOK T
 | [], _ => rfl
 | x :: l, T => by simp [gMixL, gMixL_tape l]
@[simp] theorem gMix_tape (T : Tp) (most : Int) : TapeOK (gMix T most).2 = TapeOK T := by simp [gMix, gMixL_tape]
theorem gPlanS_ok (rs : List Rt) (len x : Int) (T : Tp) (id : Int) (l : List Ed) : TapeOK (gPlanS rs len x T id l).2.2 = TapeOK T ∧ (gPlanS rs len x T id l).1.length ≤ l.length + 1 := by
 unfold gPlanS
 simp only
 split
 ·simp
 ·split <;> simp
theorem gPlanL_ok2 (rs : List Rt) (len : Int) : ∀ (o : List Int) (T : Tp) (id : Int) (l : List Ed), TapeOK (gPlanL rs len o T id l).2.2 = TapeOK T ∧ (gPlanL rs len o T id l).1.length ≤ l.length + o.length
 | [], _, _, _ => ⟨rfl, Nat.le_refl _⟩
 | x :: o, T, id, l => by
   rw [gPlanL]
   obtain ⟨h1, h2⟩ := gPlanS_ok rs len x T id l
   obtain ⟨h3, h4⟩ := gPlanL_ok2 rs len o (gPlanS rs len x T id l).2.2 (gPlanS rs len x T id l).2.1 (gPlanS rs len x T id l).1
   exact ⟨h3.trans h1, by simp only [List.length_cons]; omega⟩
theorem gPlan_zero (T : Tp) (rs : List Rt) : TapeOK (gPlan T rs 0).2 = TapeOK T ∧ (gPlan T rs 0).1.es.length ≤ rs.length := by
 have h := gPlanL_ok2 rs (gPick (gNext T 3).2 [8, 8, 16, 32, 64]).1 (gOrder (gPick (gNext T 3).2 [8, 8, 16, 32, 64]).2 rs.length).1 (gOrder (gPick (gNext T 3).2 [8, 8, 16, 32, 64]).2 rs.length).2 0 []
 simp only [gPlan, gPlan0, Int.lt_irrefl, if_false]
 refine ⟨h.1.trans (by simp), ?_⟩
 have h2 := h.2
 rw [gOrder_len] at h2
 simpa using h2
def mixR (l : List Rw) (k : Nat) (y : Rw) (id : Nat) : List (List TV) := dd (rws (l.take k)) ++ [TV.d (.int .i64 y.id), TV.oref id y.nx.length] :: dd (rws (l.drop (k + 1)))
@[simp] theorem only_mix (po : Nat → Prop) (l : List Rw) (k : Nat) (y : Rw) (id : Nat) : rowsOnly po (mixR l k y id) = po id := by simp [mixR, TV.onlys, TV.only]
def pathG (l : List Tb) (id p : Int) : Nat → List Int → Int → List Int × Int
 | 0, _, _ => ([], 10)
 | k + 1, pr, r => if r ∈ pr then ([], 10) else match findT l r with
   | none => ([], 4)
   | some b => if hopB b id p = 0 then ([], 9) else if hopB b id p = r then ((pr ++ [r]).tail, 0) else pathG l id p k (pr ++ [r]) (hopB b id p)
def pathV (l : List Tb) (r id p : Int) : List Int × Int :=
 if chkA l ≠ 0 then ([], 1) else if ¬ (0 ≤ p ∧ p ≤ 7) then ([], 2) else pathG l id p (l.length + 1) [] r
def pathT (x : List Int × Int) : TV := .tup [.d (ints x.1), .d (.int .i64 x.2)]
def mpS (pr : List Int) : List (Int × D) := pr.map fun x => (x, D.bool true)
theorem mget_mp (k : Int) : ∀ pr : List Int, mget (mpS pr) k = if k ∈ pr then some (.bool true) else none
 | [] => rfl
 | x :: pr => by
   have ih := mget_mp k pr
   simp only [mpS] at ih
   simp only [mpS, List.map_cons, mget, ih, List.mem_cons]
   by_cases e : k = x
   ·simp [e]
   ·simp [e]
theorem mput_mp (k : Int) : ∀ pr : List Int, k ∉ pr → mput (mpS pr) k (.bool true) = mpS (pr ++ [k])
 | [], _ => rfl
 | x :: pr, h => by
   simp only [List.mem_cons, not_or] at h
   have ih := mput_mp k pr h.2
   simp only [mpS] at ih
   simp only [mpS, List.map_cons, List.cons_append, mput, ih, if_neg h.1]
theorem findT_mem {l : List Tb} {r : Int} {b : Tb} (h : findT l r = some b) : b ∈ l ∧ b.r = r := ⟨List.mem_of_find?_eq_some h, by simpa using List.find?_some h⟩
theorem chkA_all {l : List Tb} (h : chkA l = 0) : ∀ b ∈ l, chk b = 0 := fun b hb => by
 have := firstE_zero (l := _) (by simp) h
 simp only [List.mem_cons, List.not_mem_nil, or_false, forall_eq_or_imp, forall_eq] at this
 have h2 := List.any_eq_false.1 this.2.1 b hb
 simpa using h2
theorem path_n {l : List Tb} {pr : List Int} (h : pr.Nodup) (hf : ∀ x ∈ pr, (findT l x).isSome) : pr.length ≤ l.length := by
 have := nodup_le (m := l.map (·.r)) h fun x hx => by
  obtain ⟨b, hb⟩ := Option.isSome_iff_exists.1 (hf x hx)
  obtain ⟨h1, h2⟩ := findT_mem hb
  exact List.mem_map.2 ⟨b, h1, h2⟩
 simpa using this
theorem nextV_hop {b : Tb} {id p : Int} (hc : chk b = 0) (hp : 0 ≤ p ∧ p ≤ 7) : nextV b id p = hopB b id p := by
 rw [nextV, if_pos (valB_iff.2 ⟨hc, hp, by omega⟩)]
theorem path_c (l : List Tb) (hl : SmL l) (r id p : Int) : Contract Tryz.prog 94 [.d (.sl (tbs l)), .d (.int .i64 r), .d (.int .i64 id), .d (.int .i64 p)] [] (pathT (pathV l r id p)) [] [] := by
 have hn := hl.n
 refine contract_of Tryz.func94 rfl (fun E0 => ?_)
 refine awp.sound (g := .mk) (ow := []) (kp := (fun k => k==0||k==1||k==2||k==3||k==8||k==9||k==10||k==11||k==12||k==13||k==14||k==15||k==16||k==20||k==31||k==41||k==46||k==47||k==49)) ?_
 rw [Tryz.ntmps94]
 simp -dsimp
 refine ACall.of (checkA_c l hl) [] 0 ?_
 by_cases hA : ¬ chkA l = 0
 ·simp -dsimp [eq_false hA]
  refine Fin.view 8 ?_
  simp -dsimp
  refine Fin.of ?_
  simp [pathV, hA, pathT, ints]
 replace hA : chkA l = 0 := Classical.not_not.1 hA
 by_cases p1 : p < 0
 ·simp -dsimp [eq_true hA, p1]
  and_intros
  all_goals try first | rfl | omega | exact ⟨by kernel_rfl⟩
  refine Fin.view 8 ?_
  simp -dsimp
  refine Fin.of ?_
  have : ¬ (0 ≤ p ∧ p ≤ 7) := by omega
  simp only [pathV, hA, pathT, ints]; simp [this]
 by_cases p2 : 8 ≤ p
 ·simp -dsimp [eq_true hA, p1, p2]
  and_intros
  all_goals try first | rfl | omega | exact ⟨by kernel_rfl⟩
  refine Fin.view 8 ?_
  simp -dsimp
  refine Fin.of ?_
  have : ¬ (0 ≤ p ∧ p ≤ 7) := by omega
  simp only [pathV, hA, pathT, ints]; simp [this]
 have hV : pathV l r id p = pathG l id p (l.length + 1) [] r := by rw [pathV, if_neg (by simp [hA]), if_neg (by omega)]
 simp -dsimp [eq_true hA, p1, p2]
 rw [hV]
 have hch := chkA_all hA
 refine ALoop.of [] (fun k => k==0||k==1||k==2||k==3||k==8||k==9||k==10||k==11||k==12||k==13||k==14||k==15||k==16||k==20||k==31||k==41||k==46||k==47||k==49) (ι := { z : List Int × Int // z.1.Nodup ∧ (∀ x ∈ z.1, (findT l x).isSome) ∧ pathG l id p (l.length + 1) [] r = pathG l id p (l.length + 1 - z.1.length) z.1 z.2 })
  (fun z => [(Pl.s 0, It.v (.d (.sl (tbs l)))), (Pl.s 1, It.v (.d (.int .i64 r))), (Pl.s 2, It.v (.d (.int .i64 id))), (Pl.s 3, It.v (.d (.int .i64 p))), (Pl.s 8, It.v (.c (Value.slice none 0 0))), (Pl.s 9, It.v (.d (.int .i64 0))), (Pl.s 10, It.v (.oref 10 z.1.1.length)), (Pl.o 10, It.row 3 1 (dd (nrow .i64 (z.1.1 ++ [z.1.2]).tail)) false), (Pl.o 27, It.mp (mpS z.1.1)), (Pl.s 11, It.v (.mref 27)), (Pl.s 12, It.v (.d (.int .i64 z.1.2)))]) (fun z => l.length + 1 - z.1.1.length) ⟨([], r), by simp, by simp, rfl⟩ ?_ ?_
 ·exact GS.own' (k := 10) 3 1 (by simp) (by simp) (by simp [nrow, mpS])
 generalize pathG l id p (l.length + 1) [] r = G
 rintro ⟨⟨pr, at_⟩, i1, i2, i3⟩
 simp only at i1 i2 i3
 have hpl := path_n i1 i2
 rw [show l.length + 1 - pr.length = (l.length - pr.length) + 1 by omega, pathG] at i3
 have hmg := mget_mp at_ pr
 have htl : (pr ++ [at_]).tail.length = pr.length := by simp
 by_cases hin : at_ ∈ pr
 ·rw [if_pos hin] at i3 hmg
  simp -dsimp [hmg]
  refine Fin.view 8 ?_
  simp -dsimp
  refine Fin.of ?_
  simp [i3, pathT, ints]
 rw [if_neg hin] at i3 hmg
 have hmp := mput_mp at_ pr hin
 simp -dsimp [hmg, hmp]
 and_intros
 all_goals try first | rfl | omega | exact ⟨by kernel_rfl⟩
 refine ACall.of (find_c l hl at_) [] 0 ?_
 cases hf : findT l at_ with
 | none =>
   simp only [hf] at i3
   simp -dsimp [foundT, tb0, tblT, rwsD_eq, rws]
   refine Fin.view 8 ?_
   simp -dsimp
   refine Fin.of ?_
   simp [i3, pathT, ints]
 | some b =>
   simp only [hf] at i3
   obtain ⟨hbm, hbr⟩ := findT_mem hf
   have hbs := hl.t b hbm
   have hv := nextV_hop (id := id) (hch b hbm) (p := p) ⟨by omega, by omega⟩
   simp -dsimp [foundT, tblT, rwsD_eq]
   refine ACall.of (mnext_c b hbs id p) [] 0 ?_
   rw [hv]
   generalize hopB b id p = w at i3 ⊢
   have hnt : (nrow .i64 (pr ++ [at_]).tail).length = pr.length := by simp [nrow]
   by_cases w0 : w = 0
   ·rw [if_pos w0] at i3
    simp -dsimp [foundT, tblT, rwsD_eq, eq_true w0]
    and_intros
    all_goals try first | rfl | omega | exact ⟨by kernel_rfl⟩
    refine Fin.view 8 ?_
    simp -dsimp
    refine Fin.of ?_
    simp [i3, pathT, ints]
   rw [if_neg w0] at i3
   by_cases w1 : w = at_
   ·rw [if_pos w1] at i3
    simp -dsimp [foundT, tblT, rwsD_eq, eq_false w0, eq_true w1]
    and_intros
    all_goals try first | rfl | omega | exact ⟨by kernel_rfl⟩
    refine Fin.view 8 ?_
    simp -dsimp [hnt]
    refine Fin.of ?_
    simp [i3, pathT, ints, nrow]
   rw [if_neg w1] at i3
   have ht2 : (pr ++ [at_] ++ [w]).tail = (pr ++ [at_]).tail ++ [w] := by
    rw [List.tail_append_of_ne_nil (by simp)]
   have hnod : (pr ++ [at_]).Nodup := by
    rw [List.nodup_append]
    exact ⟨i1, by simp, fun a ha b hb e => by simp at hb; subst hb; subst e; exact hin ha⟩
   have hfd : ∀ x ∈ pr ++ [at_], (findT l x).isSome := fun x hx => by
    rcases List.mem_append.1 hx with hx | hx
    ·exact i2 x hx
    ·simp at hx; subst hx; simp [hf]
   have hpl2 := path_n hnod hfd
   have hk : l.length - pr.length = l.length + 1 - (pr ++ [at_]).length := by simp
   rw [hk] at i3
   simp -dsimp [foundT, tblT, rwsD_eq, eq_false w0, eq_false w1, hnt]
   and_intros
   all_goals try first | rfl | omega | exact ⟨by kernel_rfl⟩
   exact ⟨⟨(pr ++ [at_], w), hnod, hfd, i3⟩, GS.to (by simp only [ht2]; simp [nrow]), by simp at hpl2 ⊢; omega⟩
theorem pathG_len (l : List Tb) (id p : Int) : ∀ (k : Nat) (pr : List Int) (r : Int), (pathG l id p k pr r).1.length ≤ pr.length + k
 | 0, _, _ => by simp [pathG]
 | k + 1, pr, r => by
   rw [pathG]
   split
   ·simp
   ·split
    ·simp
    ·split
     ·simp
     ·split
      ·simp
      ·refine Nat.le_trans (pathG_len l id p k (pr ++ [r]) _) ?_
       simp
       omega
theorem pathV_len (l : List Tb) (r id p : Int) : (pathV l r id p).1.length ≤ l.length + 1 := by
 unfold pathV
 split
 ·simp
 ·split
  ·simp
  ·have := pathG_len l id p (l.length + 1) [] r
   simpa using this
noncomputable def gDom (T : Tp) (most : Int) : Topo × Pn × List Tb × Tp :=
 let g := gTop T most
 let p := gPlan g.2 g.1.rs 0
 (g.1, p.1, (all11 g.1 p.1).1, p.2)
end Go.Proofs
