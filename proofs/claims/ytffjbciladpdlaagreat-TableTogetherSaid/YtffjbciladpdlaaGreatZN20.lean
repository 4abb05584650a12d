/-
  What functions of the program compute, stated as contracts over plain data; the conditions of each stand in its own statement.
-/
import Derived.Test.YtffjbciladpdlaaGreatZN19
set_option linter.unusedSimpArgs false
set_option maxRecDepth 100000
set_option maxHeartbeats 4000000
namespace Go.Proofs
open Go Go.Tr
theorem indexI0_cL (l : List Int) (hl : l.length ≤ 9223372036854775807) (f : FuncId) (q : Int → Bool) (hf : ∀ x, x ∈ l → Contract Tryz.prog f [.d (.int .i64 x)] [] (.d (.bool (q x))) [] []) (hok : fnOK Tryz.prog f = true) :
  Contract Tryz.prog 133 [.d (.sl (l.map (fun n => [D.int .i64 n]))), .clo f []] [] (.d (.int .i64 (idxR q l))) [] [] := by
 refine contract_of Tryz.func133 rfl (fun E0 => ?_)
 refine awp.sound (g := .mk) (ow := []) (kp := (fun k => k==0||k==1||k==4||k==5||k==7||k==8||k==9||k==16)) ?_
 rw [Tryz.ntmps133]
 simp -dsimp
 refine ALoop.of [] (fun k => k==0||k==1||k==4||k==5||k==7||k==8||k==9||k==16) (ι := { i : Nat // i ≤ l.length ∧ ∀ a, a < i → ∀ x, l[a]? = some x → q x = false })
  (fun z => [(Pl.s 0, It.v (.d (.sl (l.map (fun n => [D.int .i64 n]))))), (Pl.s 1, It.v (.clo f [])), (Pl.s 4, It.v (.d (.int .i64 0))), (Pl.s 7, It.v (.d (.int .i64 l.length))), (Pl.s 8, It.v (.d (.int .i64 z.1)))]) (fun z => l.length - z.1) ⟨0, by omega, fun a h => by omega⟩ ?_ ?_
 ·exact GS.to (by simp)
 ·rintro ⟨i, i1, i2⟩
  by_cases hi : i < l.length
  ·have hiz : (i : Int) < l.length := by omega
   have hx : l[i]? = some l[i] := List.getElem?_eq_getElem hi
   have hm : l[i] ∈ l := List.getElem_mem hi
   generalize l[i] = x at hx hm
   simp -dsimp [hiz, hx, Rw.cs, wrap_i64 (n := (i : Int) + 1) (by omega) (by omega)]
   and_intros
   all_goals try first | rfl | omega | exact ⟨by kernel_rfl⟩
   refine ACall.of (hf x hm) [] 0 ?_
   rcases (Bool.eq_false_or_eq_true (q x)).symm with h | h
   ·simp -dsimp [h, hok, rwT, wrap_i64 (n := (i : Int) + 1) (by omega) (by omega)]
    and_intros
    all_goals try first | rfl | omega | exact ⟨by kernel_rfl⟩
    exact ⟨⟨i + 1, by omega, fun a ha y hy => by
     by_cases e : a = i
     ·subst e; rw [hx] at hy; simp only [Option.some.injEq] at hy; subst hy; exact h
     ·exact i2 a (by omega) y hy⟩, GS.to (by simp), by simp; omega⟩
   ·simp -dsimp [h, hok, rwT]
    and_intros
    all_goals try first | rfl | omega | exact ⟨by kernel_rfl⟩
    refine Fin.of ?_
    simp [idx_at hx h i2]
  ·simp -dsimp [hi]
   refine Fin.of ?_
   simp
   exact (idx_no fun a ha => i2 a (by omega)).symm
theorem containsFI0_cL (l : List Int) (hl : l.length ≤ 9223372036854775807) (f : FuncId) (q : Int → Bool) (hf : ∀ x, x ∈ l → Contract Tryz.prog f [.d (.int .i64 x)] [] (.d (.bool (q x))) [] []) (hok : fnOK Tryz.prog f = true) :
  Contract Tryz.prog 122 [.d (.sl (l.map (fun n => [D.int .i64 n]))), .clo f []] [] (.d (.bool (l.any q))) [] [] := by
 refine contract_of Tryz.func122 rfl (fun E0 => ?_)
 refine awp.sound (g := .mk) (ow := []) (kp := (fun k => k==0||k==1||k==4)) ?_
 rw [Tryz.ntmps122]
 simp -dsimp
 refine ACall.of (indexI0_cL l hl f q hf hok) [] 0 ?_
 simp -dsimp
 refine Fin.of ?_
 simp [idx_any]
theorem indexR0_cL (l : List Rw) (hl : l.length ≤ 9223372036854775807) (f : FuncId) (q : Rw → Bool) (hf : ∀ x, x ∈ l → Contract Tryz.prog f [rwT x] [] (.d (.bool (q x))) [] []) (hok : fnOK Tryz.prog f = true) :
  Contract Tryz.prog 121 [.d (.sl (l.map Rw.cs)), .clo f []] [] (.d (.int .i64 (idxR q l))) [] [] := by
 refine contract_of Tryz.func121 rfl (fun E0 => ?_)
 refine awp.sound (g := .mk) (ow := []) (kp := (fun k => k==0||k==1||k==4||k==5||k==7||k==8||k==9||k==16)) ?_
 rw [Tryz.ntmps121]
 simp -dsimp
 refine ALoop.of [] (fun k => k==0||k==1||k==4||k==5||k==7||k==8||k==9||k==16) (ι := { i : Nat // i ≤ l.length ∧ ∀ a, a < i → ∀ x, l[a]? = some x → q x = false })
  (fun z => [(Pl.s 0, It.v (.d (.sl (l.map Rw.cs)))), (Pl.s 1, It.v (.clo f [])), (Pl.s 4, It.v (.d (.int .i64 0))), (Pl.s 7, It.v (.d (.int .i64 l.length))), (Pl.s 8, It.v (.d (.int .i64 z.1)))]) (fun z => l.length - z.1) ⟨0, by omega, fun a h => by omega⟩ ?_ ?_
 ·exact GS.to (by simp)
 ·rintro ⟨i, i1, i2⟩
  by_cases hi : i < l.length
  ·have hiz : (i : Int) < l.length := by omega
   have hx : l[i]? = some l[i] := List.getElem?_eq_getElem hi
   have hm : l[i] ∈ l := List.getElem_mem hi
   generalize l[i] = x at hx hm
   simp -dsimp [hiz, hx, Rw.cs, wrap_i64 (n := (i : Int) + 1) (by omega) (by omega)]
   and_intros
   all_goals try first | rfl | omega | exact ⟨by kernel_rfl⟩
   refine ACall.of (hf x hm) [] 0 ?_
   rcases (Bool.eq_false_or_eq_true (q x)).symm with h | h
   ·simp -dsimp [h, hok, rwT, wrap_i64 (n := (i : Int) + 1) (by omega) (by omega)]
    and_intros
    all_goals try first | rfl | omega | exact ⟨by kernel_rfl⟩
    exact ⟨⟨i + 1, by omega, fun a ha y hy => by
     by_cases e : a = i
     ·subst e; rw [hx] at hy; simp only [Option.some.injEq] at hy; subst hy; exact h
     ·exact i2 a (by omega) y hy⟩, GS.to (by simp), by simp; omega⟩
   ·simp -dsimp [h, hok, rwT]
    and_intros
    all_goals try first | rfl | omega | exact ⟨by kernel_rfl⟩
    refine Fin.of ?_
    simp [idx_at hx h i2]
  ·simp -dsimp [hi]
   refine Fin.of ?_
   simp
   exact (idx_no fun a ha => i2 a (by omega)).symm
theorem containsFR0_cL (l : List Rw) (hl : l.length ≤ 9223372036854775807) (f : FuncId) (q : Rw → Bool) (hf : ∀ x, x ∈ l → Contract Tryz.prog f [rwT x] [] (.d (.bool (q x))) [] []) (hok : fnOK Tryz.prog f = true) :
  Contract Tryz.prog 79 [.d (.sl (l.map Rw.cs)), .clo f []] [] (.d (.bool (l.any q))) [] [] := by
 refine contract_of Tryz.func79 rfl (fun E0 => ?_)
 refine awp.sound (g := .mk) (ow := []) (kp := (fun k => k==0||k==1||k==4)) ?_
 rw [Tryz.ntmps79]
 simp -dsimp
 refine ACall.of (indexR0_cL l hl f q hf hok) [] 0 ?_
 simp -dsimp
 refine Fin.of ?_
 simp [idx_any]
theorem indexR1_cL (l : List Rw) (hl : l.length ≤ 9223372036854775807) (f : FuncId) (ds : List D) (q : Rw → Bool) (hf : ∀ x, x ∈ l → Contract Tryz.prog f [rwT x, .ptr (.x 0) 0] [.box (ds.map .d)] (.d (.bool (q x))) [.box (ds.map .d)] []) (hok : fnOK Tryz.prog f = true) :
  Contract Tryz.prog 121 [.d (.sl (l.map Rw.cs)), .clo f [.ptr (.x 0) 0]] [.box (ds.map .d)] (.d (.int .i64 (idxR q l))) [.box (ds.map .d)] [] := by
 refine contract_of Tryz.func121 rfl (fun E0 => ?_)
 refine awp.sound (g := .mk) (ow := []) (kp := (fun k => k==0||k==1||k==4||k==5||k==7||k==8||k==9||k==16)) ?_
 rw [Tryz.ntmps121]
 simp -dsimp
 refine ALoop.of [] (fun k => k==0||k==1||k==4||k==5||k==7||k==8||k==9||k==16) (ι := { i : Nat // i ≤ l.length ∧ ∀ a, a < i → ∀ x, l[a]? = some x → q x = false })
  (fun z => [(Pl.s 0, It.v (.d (.sl (l.map Rw.cs)))), (Pl.s 1, It.v (.clo f [TV.ptr (Pl.x 0) 0])), (Pl.x 0, It.box (List.map TV.d ds)), (Pl.s 4, It.v (.d (.int .i64 0))), (Pl.s 7, It.v (.d (.int .i64 l.length))), (Pl.s 8, It.v (.d (.int .i64 z.1)))]) (fun z => l.length - z.1) ⟨0, by omega, fun a h => by omega⟩ ?_ ?_
 ·exact GS.to (by simp)
 ·rintro ⟨i, i1, i2⟩
  by_cases hi : i < l.length
  ·have hiz : (i : Int) < l.length := by omega
   have hx : l[i]? = some l[i] := List.getElem?_eq_getElem hi
   have hm : l[i] ∈ l := List.getElem_mem hi
   generalize l[i] = x at hx hm
   simp -dsimp [hiz, hx, Rw.cs, wrap_i64 (n := (i : Int) + 1) (by omega) (by omega)]
   and_intros
   all_goals try first | rfl | omega | exact ⟨by kernel_rfl⟩
   refine ACall.of (hf x hm) [.x 0] 0 ?_
   rcases (Bool.eq_false_or_eq_true (q x)).symm with h | h
   ·simp -dsimp [h, hok, rwT, wrap_i64 (n := (i : Int) + 1) (by omega) (by omega)]
    and_intros
    all_goals try first | rfl | omega | exact ⟨by kernel_rfl⟩
    exact ⟨⟨i + 1, by omega, fun a ha y hy => by
     by_cases e : a = i
     ·subst e; rw [hx] at hy; simp only [Option.some.injEq] at hy; subst hy; exact h
     ·exact i2 a (by omega) y hy⟩, GS.to (by simp), by simp; omega⟩
   ·simp -dsimp [h, hok, rwT]
    and_intros
    all_goals try first | rfl | omega | exact ⟨by kernel_rfl⟩
    refine Fin.of ?_
    simp [idx_at hx h i2]
  ·simp -dsimp [hi]
   refine Fin.of ?_
   simp
   exact (idx_no fun a ha => i2 a (by omega)).symm
theorem containsFR1_cL (l : List Rw) (hl : l.length ≤ 9223372036854775807) (f : FuncId) (ds : List D) (q : Rw → Bool) (hf : ∀ x, x ∈ l → Contract Tryz.prog f [rwT x, .ptr (.x 0) 0] [.box (ds.map .d)] (.d (.bool (q x))) [.box (ds.map .d)] []) (hok : fnOK Tryz.prog f = true) :
  Contract Tryz.prog 79 [.d (.sl (l.map Rw.cs)), .clo f [.ptr (.x 0) 0]] [.box (ds.map .d)] (.d (.bool (l.any q))) [.box (ds.map .d)] [] := by
 refine contract_of Tryz.func79 rfl (fun E0 => ?_)
 refine awp.sound (g := .mk) (ow := []) (kp := (fun k => k==0||k==1||k==4)) ?_
 rw [Tryz.ntmps79]
 simp -dsimp
 refine ACall.of (indexR1_cL l hl f ds q hf hok) [.x 0] 0 ?_
 simp -dsimp
 refine Fin.of ?_
 simp [idx_any]
theorem inB_dec (n lo hi : Int) : inB n lo hi = decide (inR n lo hi) := by
 by_cases h : inR n lo hi
 ·rw [inB_true h]; simp [h]
 ·rw [inB_false h]; simp [h]
theorem outside1_c (n : Int) : Contract Tryz.prog 123 [.d (.int .i64 n)] [] (.d (.bool (!decide (inR n 1 99)))) [] [] := by
 refine contract_of Tryz.func123 rfl (fun E0 => ?_)
 refine awp.sound (g := .mk) (ow := []) (kp := (fun k => k==0||k==2)) ?_
 rw [Tryz.ntmps123]
 simp -dsimp
 refine ACall.of (in11_c n 1 99) [] 0 ?_
 simp -dsimp
 and_intros
 all_goals try first | rfl | omega | exact ⟨by kernel_rfl⟩
 refine Fin.of ?_
 simp [inB_dec]
theorem outside_cL (x : Rw) (hx : x.nx.length ≤ 9223372036854775807) : Contract Tryz.prog 80 [rwT x] [] (.d (.bool (decide x.out))) [] [] := by
 refine contract_of Tryz.func80 rfl (fun E0 => ?_)
 refine awp.sound (g := .mk) (ow := []) (kp := (fun k => k==0||k==1||k==2)) ?_
 rw [Tryz.ntmps80]
 simp -dsimp [rwT]
 refine ACall.of (in11_c x.id 1 256) [] 0 ?_
 by_cases c1 : inR x.id 1 256
 ·simp -dsimp [inB_true c1]
  and_intros
  all_goals try first | rfl | omega | exact ⟨by kernel_rfl⟩
  refine ACall.of (containsFI0_cL x.nx hx 123 (fun n => !decide (inR n 1 99)) (fun n _ => outside1_c n) (by simp)) [] 0 ?_
  simp -dsimp [ints]
  and_intros
  all_goals try first | rfl | omega | exact ⟨by kernel_rfl⟩
  refine Fin.of ?_
  have : (x.nx.any fun n => !decide (inR n 1 99)) = decide x.out := by
   refine Bool.eq_iff_iff.2 ?_
   simp only [List.any_eq_true, Bool.not_eq_true', decide_eq_false_iff_not, decide_eq_true_eq, Rw.out, c1, not_true_eq_false, false_or]
  simp [this]
 ·simp -dsimp [inB_false c1]
  and_intros
  all_goals try first | rfl | omega | exact ⟨by kernel_rfl⟩
  refine Fin.of ?_
  have : x.out := .inl c1
  simp [this]
theorem check1_c (x : Rw) : Contract Tryz.prog 81 [rwT x] [] (.d (.bool (decide (24 < x.nx.length)))) [] [] := by
 refine contract_of Tryz.func81 rfl (fun E0 => ?_)
 refine awp.sound (g := .mk) (ow := []) (kp := (fun k => k==0||k==1||k==2)) ?_
 rw [Tryz.ntmps81]
 simp -dsimp [rwT, ints]
 and_intros
 all_goals try first | rfl | omega | exact ⟨by kernel_rfl⟩
 refine Fin.of ?_
 simp
 omega
def Tb.ds (b : Tb) : List D := [.int .i64 b.r, .int .i64 b.sd, .int .i64 b.len, rwsD b.rows]
theorem check2_cL (b : Tb) (x : Rw) (hx : x.nx.length ≤ 9223372036854775807) : Contract Tryz.prog 83 [rwT x, .ptr (.x 0) 0] [.box (b.ds.map .d)] (.d (.bool ((decide (1 < x.nx.length) && decide (b.r ∈ x.nx))))) [.box (b.ds.map .d)] [] := by
 refine contract_of Tryz.func83 rfl (fun E0 => ?_)
 refine awp.sound (g := .mk) (ow := []) (kp := (fun k => k==0||k==1||k==2||k==3)) ?_
 rw [Tryz.ntmps83]
 by_cases c1 : 1 < x.nx.length
 ·have c1z : (1 : Int) < x.nx.length := by omega
  simp -dsimp [rwT, ints, c1, c1z, Tb.ds]
  refine ACall.of (contains_cL x.nx hx b.r) [] 0 ?_
  simp -dsimp [ints, c1, c1z, Tb.ds]
  and_intros
  all_goals try first | rfl | omega | exact ⟨by kernel_rfl⟩
  refine Fin.of ?_
  simp [c1, hasI, Tb.ds]
 ·have c1z : ¬ (1 : Int) < x.nx.length := by omega
  simp -dsimp [rwT, ints, c1, c1z, Tb.ds]
  and_intros
  all_goals try first | rfl | omega | exact ⟨by kernel_rfl⟩
  refine Fin.of ?_
  simp [c1, Tb.ds]
theorem ascending_cL (l : List Int) (hl : l.length ≤ 9223372036854775807) : Contract Tryz.prog 82 [.d (ints l)] [] (.d (.bool (decide (l.Pairwise (· < ·))))) [] [] := by
 refine contract_of Tryz.func82 rfl (fun E0 => ?_)
 refine awp.sound (g := .mk) (ow := []) (kp := (fun k => k==0||k==2||k==3||k==5||k==6||k==7||k==22)) ?_
 rw [Tryz.ntmps82]
 simp -dsimp [ints]
 refine ALoop.of [] (fun k => k==0||k==2||k==3||k==5||k==6||k==7||k==22) (ι := { i : Nat // i ≤ l.length ∧ ∀ a, a < i → ∀ x y, 0 < a → l[a - 1]? = some x → l[a]? = some y → x < y })
  (fun z => [(Pl.s 0, It.v (.d (ints l))), (Pl.s 2, It.v (.d (.bool false))), (Pl.s 5, It.v (.d (.int .i64 l.length))), (Pl.s 6, It.v (.d (.int .i64 z.1)))]) (fun z => l.length - z.1) ⟨0, by omega, fun a h => by omega⟩ ?_ ?_
 ·exact GS.to (by simp [ints])
 ·rintro ⟨i, i1, i2⟩
  by_cases hi : i < l.length
  ·have hiz : (i : Int) < l.length := by omega
   have hg : l[i]? = some l[i] := List.getElem?_eq_getElem hi
   by_cases c0 : 0 < i
   ·have c0z : (0 : Int) < i := by omega
    have hi0 : i - 1 < l.length := by omega
    have hp : l[i - 1]? = some l[i - 1] := List.getElem?_eq_getElem hi0
    have hw : ((i : Int) - 1).toNat = i - 1 := by omega
    have hlt : ∀ u v, l[i - 1]? = some u → l[i]? = some v → (l.Pairwise (· < ·)) → u < v := fun u v hu hv hpw => by
     obtain ⟨h1, h2⟩ := List.getElem?_eq_some_iff.1 hu
     obtain ⟨h3, h4⟩ := List.getElem?_eq_some_iff.1 hv
     have := List.pairwise_iff_getElem.1 hpw (i - 1) i h1 h3 (by omega)
     rw [h2, h4] at this
     exact this
    generalize l[i - 1] = u at hp
    generalize l[i] = v at hg
    by_cases c1 : v ≤ u
    ·simp -dsimp [ints, hiz, hg, c0, c0z, hp, hw, c1, wrap_i64 (n := (i : Int) - 1) (by omega) (by omega)]
     and_intros
     all_goals try first | rfl | omega | exact ⟨by kernel_rfl⟩
     refine Fin.of ?_
     have : ¬ l.Pairwise (· < ·) := fun h => by have := hlt u v hp hg h; omega
     simp [this]
    ·simp -dsimp [ints, hiz, hg, c0, c0z, hp, hw, c1, wrap_i64 (n := (i : Int) - 1) (by omega) (by omega), wrap_i64 (n := (i : Int) + 1) (by omega) (by omega)]
     and_intros
     all_goals try first | rfl | omega | exact ⟨by kernel_rfl⟩
     exact ⟨⟨i + 1, by omega, fun a ha x y h0 hx hy => by
      by_cases e : a = i
      ·subst e; rw [hp] at hx; rw [hg] at hy; simp only [Option.some.injEq] at hx hy; omega
      ·exact i2 a (by omega) x y h0 hx hy⟩, GS.to (by simp [ints]), by simp; omega⟩
   ·have c0z : ¬ (0 : Int) < i := by omega
    simp -dsimp [ints, hiz, c0, c0z, wrap_i64 (n := (i : Int) + 1) (by omega) (by omega)]
    and_intros
    all_goals try first | rfl | omega | exact ⟨by kernel_rfl⟩
    exact ⟨⟨i + 1, by omega, fun a ha x y h0 hx hy => by
     by_cases e : a = i
     ·omega
     ·exact i2 a (by omega) x y h0 hx hy⟩, GS.to (by simp [ints]), by simp; omega⟩
  ·have hiz : ¬ (i : Int) < l.length := by omega
   simp -dsimp [ints, hiz]
   refine Fin.of ?_
   have : l.Pairwise (· < ·) := asc_next fun a x y hx hy => i2 (a + 1) (by have := (List.getElem?_eq_some_iff.1 hy).1; omega) x y (by omega) (by simpa using hx) hy
   simp [this]
theorem tcheck_cL (b : Tb) (hb : b.rows.length ≤ 9223372036854775807) (hn : ∀ x ∈ b.rows, x.nx.length ≤ 9223372036854775807) : Contract Tryz.prog 39 [tblT b] [] (.d (.int .i64 (chk b))) [] [] := by
 refine contract_of Tryz.func39 rfl (fun E0 => ?_)
 refine awp.sound (g := .mk) (ow := []) (kp := (fun k => k==0||k==1||k==2||k==3||k==4||k==5||k==15||k==41||k==52||k==53||k==54||k==55||k==78||k==83)) ?_
 rw [Tryz.ntmps39]
 by_cases a4 : b.len = 0
 ·by_cases a5 : b.rows.length = 0
  ·have a5z : (b.rows.length : Int) = 0 := by omega
   simp -dsimp [tblT, rwsD, eq_true a4, a5, a5z]
   and_intros
   all_goals try first | rfl | omega | exact ⟨by kernel_rfl⟩
   refine ACall.of (in11_c b.r 1 99) [] 0 ?_
   by_cases a1 : inR b.r 1 99
   ·simp -dsimp [inB_true a1]
    refine ACall.of (in11_c b.sd 0 7) [] 0 ?_
    by_cases a2 : inR b.sd 0 7
    ·simp -dsimp [inB_true a1, inB_true a2]
     refine ACall.of (validLength_c2 b.len) [] 0 ?_
     have a3 : validLen b.len = false := by rw [a4]; rfl
     have hh : b.head := ⟨a1, a2, .inr ⟨a4, a5⟩⟩
     clear a5 a5z
     simp -dsimp [inB_true a1, inB_true a2, a3]
     and_intros
     all_goals try first | rfl | omega | exact ⟨by kernel_rfl⟩
     refine ACall.of (containsFR0_cL b.rows hb 80 (fun x => decide x.out) (fun x hx => outside_cL x (hn x hx)) (by simp)) [] 0 ?_
     by_cases ho : ∃ x ∈ b.rows, x.out
     ·have e1 : (b.rows.any fun x => decide x.out) = true := by simpa using ho
      simp -dsimp [inB_true a1, inB_true a2, a3, e1, rwsD]
      and_intros
      all_goals try first | rfl | omega | exact ⟨by kernel_rfl⟩
      refine Fin.of ?_
      have hc := chk_out hh ho
      simp [hc]
     ·have e1 : (b.rows.any fun x => decide x.out) = false := by simpa using ho
      by_cases c3 : 256 < b.rows.length
      ·have c3z : (256 : Int) < b.rows.length := by omega
       simp -dsimp [inB_true a1, inB_true a2, a3, e1, c3, c3z, rwsD]
       and_intros
       all_goals try first | rfl | omega | exact ⟨by kernel_rfl⟩
       refine Fin.of ?_
       have hc := chk_big hh ho c3
       simp [hc]
      ·have c3z : ¬ (256 : Int) < b.rows.length := by omega
       simp -dsimp [inB_true a1, inB_true a2, a3, e1, c3, c3z, rwsD]
       and_intros
       all_goals try first | rfl | omega | exact ⟨by kernel_rfl⟩
       refine ACall.of (containsFR0_cL b.rows hb 81 (fun x => decide (24 < x.nx.length)) (fun x hx => check1_c x) (by simp)) [] 0 ?_
       by_cases hlim : ∃ x ∈ b.rows, 24 < x.nx.length
       ·have e2 : (b.rows.any fun x => decide (24 < x.nx.length)) = true := by simpa using hlim
        simp -dsimp [inB_true a1, inB_true a2, a3, e1, c3, c3z, e2, rwsD]
        and_intros
        all_goals try first | rfl | omega | exact ⟨by kernel_rfl⟩
        refine Fin.of ?_
        have hc := chk_lim hh ho c3 hlim
        simp [hc]
       ·have e2 : (b.rows.any fun x => decide (24 < x.nx.length)) = false := by simpa using hlim
        simp -dsimp [inB_true a1, inB_true a2, a3, e1, c3, c3z, e2, rwsD]
        and_intros
        all_goals try first | rfl | omega | exact ⟨by kernel_rfl⟩
        as_aux_lemma =>
        refine ALoop.of [] (fun k => k==0||k==1||k==2||k==3||k==4||k==5||k==15||k==41||k==52||k==53||k==54||k==55||k==78||k==83) (ι := { i : Nat // i ≤ b.rows.length ∧ ∀ a, a < i → ∀ x, b.rows[a]? = some x → x.nx.Pairwise (· < ·) ∧ ∀ y, 0 < a → b.rows[a - 1]? = some y → y.id < x.id })
         (fun z => [(Pl.o 1, It.box [TV.d (.int .i64 b.r), TV.d (.int .i64 b.sd), TV.d (.int .i64 b.len), TV.d (rwsD b.rows)]), (Pl.s 1, It.v (.ptr (Pl.o 1) 0)), (Pl.s 2, It.v (.d (.int .i64 0))),
          (Pl.s 52, It.v (.d (rwsD b.rows))), (Pl.s 53, It.v (.d (.int .i64 b.rows.length))), (Pl.s 54, It.v (.d (.int .i64 z.1)))]) (fun z => b.rows.length - z.1) ⟨0, by omega, fun a h => by omega⟩ ?_ ?_
        ·exact GS.to (by simp [rwsD])
        ·rintro ⟨i3, i31, i32⟩
         by_cases hi3 : i3 < b.rows.length
         ·have hiz3 : (i3 : Int) < b.rows.length := by omega
          have hg3 : b.rows[i3]? = some b.rows[i3] := List.getElem?_eq_getElem hi3
          have hx3 := hn _ (List.getElem_mem hi3)
          have hm3 : b.rows[i3] ∈ b.rows := List.getElem_mem hi3
          generalize b.rows[i3] = x at hg3 hx3 hm3
          simp -dsimp [rwsD, hg3, hiz3, Rw.cs]
          and_intros
          all_goals try first | rfl | omega | exact ⟨by kernel_rfl⟩
          refine ACall.of (ascending_cL x.nx hx3) [] 0 ?_
          by_cases hpw : x.nx.Pairwise (· < ·)
          ·by_cases c0 : 0 < i3
           ·have c0z : (0 : Int) < i3 := by omega
            have hi3p : i3 - 1 < b.rows.length := by omega
            have hp3 : b.rows[i3 - 1]? = some b.rows[i3 - 1] := List.getElem?_eq_getElem hi3p
            generalize b.rows[i3 - 1] = y at hp3
            have hiw : ((i3 : Int) - 1).toNat = i3 - 1 := by omega
            by_cases c1 : x.id ≤ y.id
            ·simp -dsimp [hpw, rwsD, c0, c0z, hp3, hiw, Rw.cs, c1, wrap_i64 (n := (i3 : Int) - 1) (by omega) (by omega)]
             and_intros
             all_goals try first | rfl | omega | exact ⟨by kernel_rfl⟩
             refine Fin.of ?_
             have hc := chk_order hh ho (by omega) hlim (fun h => ids_bad h hp3 hg3 c0 c1)
             simp [hc]
            ·simp -dsimp [hpw, rwsD, c0, c0z, hp3, hiw, Rw.cs, c1, wrap_i64 (n := (i3 : Int) - 1) (by omega) (by omega), wrap_i64 (n := (i3 : Int) + 1) (by omega) (by omega)]
             and_intros
             all_goals try first | rfl | omega | exact ⟨by kernel_rfl⟩
             exact ⟨⟨i3 + 1, by omega, fun a ha y' hy => by
              by_cases e : a = i3
              ·subst e; rw [hg3] at hy; simp only [Option.some.injEq] at hy; subst hy
               exact ⟨hpw, fun z _ hz => by rw [hp3] at hz; simp only [Option.some.injEq] at hz; subst hz; omega⟩
              ·exact i32 a (by omega) y' hy⟩, GS.to (by simp [rwsD]), by simp; omega⟩
           ·have c0z : ¬ (0 : Int) < i3 := by omega
            simp -dsimp [hpw, rwsD, c0, c0z, Rw.cs, wrap_i64 (n := (i3 : Int) + 1) (by omega) (by omega)]
            and_intros
            all_goals try first | rfl | omega | exact ⟨by kernel_rfl⟩
            exact ⟨⟨i3 + 1, by omega, fun a ha y' hy => by
             by_cases e : a = i3
             ·subst e; rw [hg3] at hy; simp only [Option.some.injEq] at hy; subst hy
              exact ⟨hpw, fun z h0 _ => absurd h0 c0⟩
             ·exact i32 a (by omega) y' hy⟩, GS.to (by simp [rwsD]), by simp; omega⟩
          ·simp -dsimp [hpw, rwsD, Rw.cs]
           and_intros
           all_goals try first | rfl | omega | exact ⟨by kernel_rfl⟩
           refine Fin.of ?_
           have hc := chk_order hh ho (by omega) hlim (fun h => hpw (h.2 x hm3))
           simp [hc]
         ·have hiz3 : ¬ (i3 : Int) < b.rows.length := by omega
          have hasc : b.asc := asc_of (fun a x y hx hy => ((i32 (a + 1) (by have := (List.getElem?_eq_some_iff.1 hy).1; omega) y hy).2 x (by omega) hx)) (fun x hx => by obtain ⟨a, ha⟩ := List.getElem?_of_mem hx; exact (i32 a (by have := (List.getElem?_eq_some_iff.1 ha).1; omega) x ha).1)
          simp -dsimp [rwsD, hiz3]
          and_intros
          all_goals try first | rfl | omega | exact ⟨by kernel_rfl⟩
          refine ACall.of (containsFR1_cL b.rows hb 83 b.ds (fun x => (decide (1 < x.nx.length) && decide (b.r ∈ x.nx))) (fun x hx => check2_cL b x (hn x hx)) (by simp)) [.o 1] 0 ?_
          by_cases hcf : ∃ x ∈ b.rows, 1 < x.nx.length ∧ b.r ∈ x.nx
          ·have e3 : (b.rows.any fun x => (decide (1 < x.nx.length) && decide (b.r ∈ x.nx))) = true := by simpa using hcf
           simp -dsimp [e3, Tb.ds, rwsD]
           and_intros
           all_goals try first | rfl | omega | exact ⟨by kernel_rfl⟩
           refine Fin.of ?_
           have hc := chk_conf hh ho (by omega) hlim hasc hcf
           simp [hc]
          ·have e3 : (b.rows.any fun x => (decide (1 < x.nx.length) && decide (b.r ∈ x.nx))) = false := by
            rw [Bool.eq_false_iff]
            intro h
            exact hcf (by simpa using h)
           simp -dsimp [e3, Tb.ds, rwsD]
           and_intros
           all_goals try first | rfl | omega | exact ⟨by kernel_rfl⟩
           refine Fin.of ?_
           have hc := chk_ok hh ho (by omega) hlim hasc hcf
           simp [hc]
    ·simp -dsimp [inB_true a1, inB_false a2]
     and_intros
     all_goals try first | rfl | omega | exact ⟨by kernel_rfl⟩
     refine Fin.of ?_
     have hc := chk_head (b := b) (fun h => a2 h.2.1)
     simp [hc]
   ·simp -dsimp [inB_false a1]
    and_intros
    all_goals try first | rfl | omega | exact ⟨by kernel_rfl⟩
    refine Fin.of ?_
    have hc := chk_head (b := b) (fun h => a1 h.1)
    simp [hc]
  ·have a5z : ¬ (b.rows.length : Int) = 0 := by omega
   simp -dsimp [tblT, rwsD, eq_true a4, a5, a5z]
   and_intros
   all_goals try first | rfl | omega | exact ⟨by kernel_rfl⟩
   refine ACall.of (in11_c b.r 1 99) [] 0 ?_
   by_cases a1 : inR b.r 1 99
   ·simp -dsimp [inB_true a1]
    refine ACall.of (in11_c b.sd 0 7) [] 0 ?_
    by_cases a2 : inR b.sd 0 7
    ·simp -dsimp [inB_true a1, inB_true a2]
     refine ACall.of (validLength_c2 b.len) [] 0 ?_
     have a3 : validLen b.len = false := by rw [a4]; rfl
     simp -dsimp [inB_true a1, inB_true a2, a3]
     and_intros
     all_goals try first | rfl | omega | exact ⟨by kernel_rfl⟩
     refine Fin.of ?_
     have hc := chk_head (b := b) (fun h => h.2.2.elim (fun h => by rw [a3] at h; simp at h) fun h => a5 h.2)
     simp [hc]
    ·simp -dsimp [inB_true a1, inB_false a2]
     and_intros
     all_goals try first | rfl | omega | exact ⟨by kernel_rfl⟩
     refine Fin.of ?_
     have hc := chk_head (b := b) (fun h => a2 h.2.1)
     simp [hc]
   ·simp -dsimp [inB_false a1]
    and_intros
    all_goals try first | rfl | omega | exact ⟨by kernel_rfl⟩
    refine Fin.of ?_
    have hc := chk_head (b := b) (fun h => a1 h.1)
    simp [hc]
 ·simp -dsimp [tblT, rwsD, a4]
  and_intros
  all_goals try first | rfl | omega | exact ⟨by kernel_rfl⟩
  refine ACall.of (in11_c b.r 1 99) [] 0 ?_
  by_cases a1 : inR b.r 1 99
  ·simp -dsimp [inB_true a1]
   refine ACall.of (in11_c b.sd 0 7) [] 0 ?_
   by_cases a2 : inR b.sd 0 7
   ·simp -dsimp [inB_true a1, inB_true a2]
    refine ACall.of (validLength_c2 b.len) [] 0 ?_
    rcases (Bool.eq_false_or_eq_true (validLen b.len)).symm with a3 | a3
    ·simp -dsimp [inB_true a1, inB_true a2, a3]
     and_intros
     all_goals try first | rfl | omega | exact ⟨by kernel_rfl⟩
     refine Fin.of ?_
     have hc := chk_head (b := b) (fun h => h.2.2.elim (fun h => by rw [a3] at h; simp at h) fun h => a4 h.1)
     simp [hc]
    ·have hh : b.head := ⟨a1, a2, .inl a3⟩
     simp -dsimp [inB_true a1, inB_true a2, a3]
     and_intros
     all_goals try first | rfl | omega | exact ⟨by kernel_rfl⟩
     refine ACall.of (containsFR0_cL b.rows hb 80 (fun x => decide x.out) (fun x hx => outside_cL x (hn x hx)) (by simp)) [] 0 ?_
     by_cases ho : ∃ x ∈ b.rows, x.out
     ·have e1 : (b.rows.any fun x => decide x.out) = true := by simpa using ho
      simp -dsimp [inB_true a1, inB_true a2, a3, e1, rwsD]
      and_intros
      all_goals try first | rfl | omega | exact ⟨by kernel_rfl⟩
      refine Fin.of ?_
      have hc := chk_out hh ho
      simp [hc]
     ·have e1 : (b.rows.any fun x => decide x.out) = false := by simpa using ho
      by_cases c3 : 256 < b.rows.length
      ·have c3z : (256 : Int) < b.rows.length := by omega
       simp -dsimp [inB_true a1, inB_true a2, a3, e1, c3, c3z, rwsD]
       and_intros
       all_goals try first | rfl | omega | exact ⟨by kernel_rfl⟩
       refine Fin.of ?_
       have hc := chk_big hh ho c3
       simp [hc]
      ·have c3z : ¬ (256 : Int) < b.rows.length := by omega
       simp -dsimp [inB_true a1, inB_true a2, a3, e1, c3, c3z, rwsD]
       and_intros
       all_goals try first | rfl | omega | exact ⟨by kernel_rfl⟩
       refine ACall.of (containsFR0_cL b.rows hb 81 (fun x => decide (24 < x.nx.length)) (fun x hx => check1_c x) (by simp)) [] 0 ?_
       by_cases hlim : ∃ x ∈ b.rows, 24 < x.nx.length
       ·have e2 : (b.rows.any fun x => decide (24 < x.nx.length)) = true := by simpa using hlim
        simp -dsimp [inB_true a1, inB_true a2, a3, e1, c3, c3z, e2, rwsD]
        and_intros
        all_goals try first | rfl | omega | exact ⟨by kernel_rfl⟩
        refine Fin.of ?_
        have hc := chk_lim hh ho c3 hlim
        simp [hc]
       ·have e2 : (b.rows.any fun x => decide (24 < x.nx.length)) = false := by simpa using hlim
        simp -dsimp [inB_true a1, inB_true a2, a3, e1, c3, c3z, e2, rwsD]
        and_intros
        all_goals try first | rfl | omega | exact ⟨by kernel_rfl⟩
        as_aux_lemma =>
        refine ALoop.of [] (fun k => k==0||k==1||k==2||k==3||k==4||k==5||k==15||k==41||k==52||k==53||k==54||k==55||k==78||k==83) (ι := { i : Nat // i ≤ b.rows.length ∧ ∀ a, a < i → ∀ x, b.rows[a]? = some x → x.nx.Pairwise (· < ·) ∧ ∀ y, 0 < a → b.rows[a - 1]? = some y → y.id < x.id })
         (fun z => [(Pl.o 1, It.box [TV.d (.int .i64 b.r), TV.d (.int .i64 b.sd), TV.d (.int .i64 b.len), TV.d (rwsD b.rows)]), (Pl.s 1, It.v (.ptr (Pl.o 1) 0)), (Pl.s 2, It.v (.d (.int .i64 0))),
          (Pl.s 52, It.v (.d (rwsD b.rows))), (Pl.s 53, It.v (.d (.int .i64 b.rows.length))), (Pl.s 54, It.v (.d (.int .i64 z.1)))]) (fun z => b.rows.length - z.1) ⟨0, by omega, fun a h => by omega⟩ ?_ ?_
        ·exact GS.to (by simp [rwsD])
        ·rintro ⟨i3, i31, i32⟩
         by_cases hi3 : i3 < b.rows.length
         ·have hiz3 : (i3 : Int) < b.rows.length := by omega
          have hg3 : b.rows[i3]? = some b.rows[i3] := List.getElem?_eq_getElem hi3
          have hx3 := hn _ (List.getElem_mem hi3)
          have hm3 : b.rows[i3] ∈ b.rows := List.getElem_mem hi3
          generalize b.rows[i3] = x at hg3 hx3 hm3
          simp -dsimp [rwsD, hg3, hiz3, Rw.cs]
          and_intros
          all_goals try first | rfl | omega | exact ⟨by kernel_rfl⟩
          refine ACall.of (ascending_cL x.nx hx3) [] 0 ?_
          by_cases hpw : x.nx.Pairwise (· < ·)
          ·by_cases c0 : 0 < i3
           ·have c0z : (0 : Int) < i3 := by omega
            have hi3p : i3 - 1 < b.rows.length := by omega
            have hp3 : b.rows[i3 - 1]? = some b.rows[i3 - 1] := List.getElem?_eq_getElem hi3p
            generalize b.rows[i3 - 1] = y at hp3
            have hiw : ((i3 : Int) - 1).toNat = i3 - 1 := by omega
            by_cases c1 : x.id ≤ y.id
            ·simp -dsimp [hpw, rwsD, c0, c0z, hp3, hiw, Rw.cs, c1, wrap_i64 (n := (i3 : Int) - 1) (by omega) (by omega)]
             and_intros
             all_goals try first | rfl | omega | exact ⟨by kernel_rfl⟩
             refine Fin.of ?_
             have hc := chk_order hh ho (by omega) hlim (fun h => ids_bad h hp3 hg3 c0 c1)
             simp [hc]
            ·simp -dsimp [hpw, rwsD, c0, c0z, hp3, hiw, Rw.cs, c1, wrap_i64 (n := (i3 : Int) - 1) (by omega) (by omega), wrap_i64 (n := (i3 : Int) + 1) (by omega) (by omega)]
             and_intros
             all_goals try first | rfl | omega | exact ⟨by kernel_rfl⟩
             exact ⟨⟨i3 + 1, by omega, fun a ha y' hy => by
              by_cases e : a = i3
              ·subst e; rw [hg3] at hy; simp only [Option.some.injEq] at hy; subst hy
               exact ⟨hpw, fun z _ hz => by rw [hp3] at hz; simp only [Option.some.injEq] at hz; subst hz; omega⟩
              ·exact i32 a (by omega) y' hy⟩, GS.to (by simp [rwsD]), by simp; omega⟩
           ·have c0z : ¬ (0 : Int) < i3 := by omega
            simp -dsimp [hpw, rwsD, c0, c0z, Rw.cs, wrap_i64 (n := (i3 : Int) + 1) (by omega) (by omega)]
            and_intros
            all_goals try first | rfl | omega | exact ⟨by kernel_rfl⟩
            exact ⟨⟨i3 + 1, by omega, fun a ha y' hy => by
             by_cases e : a = i3
             ·subst e; rw [hg3] at hy; simp only [Option.some.injEq] at hy; subst hy
              exact ⟨hpw, fun z h0 _ => absurd h0 c0⟩
             ·exact i32 a (by omega) y' hy⟩, GS.to (by simp [rwsD]), by simp; omega⟩
          ·simp -dsimp [hpw, rwsD, Rw.cs]
           and_intros
           all_goals try first | rfl | omega | exact ⟨by kernel_rfl⟩
           refine Fin.of ?_
           have hc := chk_order hh ho (by omega) hlim (fun h => hpw (h.2 x hm3))
           simp [hc]
         ·have hiz3 : ¬ (i3 : Int) < b.rows.length := by omega
          have hasc : b.asc := asc_of (fun a x y hx hy => ((i32 (a + 1) (by have := (List.getElem?_eq_some_iff.1 hy).1; omega) y hy).2 x (by omega) hx)) (fun x hx => by obtain ⟨a, ha⟩ := List.getElem?_of_mem hx; exact (i32 a (by have := (List.getElem?_eq_some_iff.1 ha).1; omega) x ha).1)
          simp -dsimp [rwsD, hiz3]
          and_intros
          all_goals try first | rfl | omega | exact ⟨by kernel_rfl⟩
          refine ACall.of (containsFR1_cL b.rows hb 83 b.ds (fun x => (decide (1 < x.nx.length) && decide (b.r ∈ x.nx))) (fun x hx => check2_cL b x (hn x hx)) (by simp)) [.o 1] 0 ?_
          by_cases hcf : ∃ x ∈ b.rows, 1 < x.nx.length ∧ b.r ∈ x.nx
          ·have e3 : (b.rows.any fun x => (decide (1 < x.nx.length) && decide (b.r ∈ x.nx))) = true := by simpa using hcf
           simp -dsimp [e3, Tb.ds, rwsD]
           and_intros
           all_goals try first | rfl | omega | exact ⟨by kernel_rfl⟩
           refine Fin.of ?_
           have hc := chk_conf hh ho (by omega) hlim hasc hcf
           simp [hc]
          ·have e3 : (b.rows.any fun x => (decide (1 < x.nx.length) && decide (b.r ∈ x.nx))) = false := by
            rw [Bool.eq_false_iff]
            intro h
            exact hcf (by simpa using h)
           simp -dsimp [e3, Tb.ds, rwsD]
           and_intros
           all_goals try first | rfl | omega | exact ⟨by kernel_rfl⟩
           refine Fin.of ?_
           have hc := chk_ok hh ho (by omega) hlim hasc hcf
           simp [hc]
   ·simp -dsimp [inB_true a1, inB_false a2]
    and_intros
    all_goals try first | rfl | omega | exact ⟨by kernel_rfl⟩
    refine Fin.of ?_
    have hc := chk_head (b := b) (fun h => a2 h.2.1)
    simp [hc]
  ·simp -dsimp [inB_false a1]
   and_intros
   all_goals try first | rfl | omega | exact ⟨by kernel_rfl⟩
   refine Fin.of ?_
   have hc := chk_head (b := b) (fun h => a1 h.1)
   simp [hc]
theorem tcheck_c (b : Tb) (hb : b.rows.length ≤ 1000000) (hn : ∀ x ∈ b.rows, x.nx.length ≤ 1000000) : Contract Tryz.prog 39 [tblT b] [] (.d (.int .i64 (chk b))) [] [] := tcheck_cL b (Nat.le_trans hb (by decide)) (fun x hx => Nat.le_trans (hn x hx) (by decide))
theorem clone_nil_c (ad : Option Addr) (c : Nat) : Contract Tryz.prog 76 [.c (.slice ad 0 c)] [] (.d (ints [])) [] [] := by
 refine contract_of Tryz.func76 rfl (fun E0 => ?_)
 refine awp.sound (g := .mk) (ow := [5]) (kp := (fun k => k==0||k==2||k==4)) ?_
 rw [Tryz.ntmps76]
 cases ad with
 | none =>
   simp -dsimp [ints]
   and_intros
   all_goals try first | rfl | omega | exact ⟨by kernel_rfl⟩
   refine Fin.view 2 ?_
   simp -dsimp
   refine Fin.of ?_
   simp [ints]
 | some ad =>
   simp -dsimp [ints]
   and_intros
   all_goals try first | rfl | omega | exact ⟨by kernel_rfl⟩
   refine Fin.view 2 ?_
   simp -dsimp
   refine Fin.of ?_
   simp [ints]
theorem clone_c (l : List Int) (hl : l.length ≤ 1000000) : Contract Tryz.prog 76 [.d (ints l)] [] (.d (ints l)) [] [] := by
 by_cases h0 : l.length = 0
 ·obtain rfl : l = [] := List.length_eq_zero_iff.1 h0
  refine Contract.cases fun E us ha => ?_
  simp only [RelVs, RelV, Rep, ints] at ha
  obtain ⟨u, us', rfl, hu, rfl⟩ := ha
  rcases hu with ⟨_, ad, c, rfl⟩ | ⟨b, o, c, k, rfl, _⟩
  ·exact ⟨[.c (.slice ad 0 c)], by simp [RelVs, RelV], clone_nil_c ad c⟩
  ·exact ⟨[.c (.slice (some ⟨b, o, none⟩) 0 c)], by simp [RelVs, RelV], clone_nil_c _ c⟩
 ·have dl : dLen 1 (l.map fun x => [D.int .i64 x]) := dLen_map 1 _ _ fun _ => rfl
  refine contract_of Tryz.func76 rfl (fun E0 => ?_)
  refine awp.sound (g := .mk) (ow := [5]) (kp := (fun k => k==0||k==2||k==4)) ?_
  rw [Tryz.ntmps76]
  simp -dsimp [ints]
  and_intros
  all_goals try first | rfl | omega | exact dl | exact ⟨by kernel_rfl⟩
  refine Fin.view 2 ?_
  simp -dsimp
  refine Fin.of ?_
  simp [ints]
def rowOf (b : Tb) (id : Int) : Option Rw := b.rows.find? fun x => decide (x.id = id)
def hopR (x : Rw) (p : Int) : Int := if x.nx.length = 0 then 0 else x.nx.getD (p % x.nx.length).toNat 0
structure Tb.Sm (b : Tb) : Prop where
 rows : b.rows.length ≤ 1000000
 nx : ∀ x ∈ b.rows, x.nx.length ≤ 1000000
def hopB (b : Tb) (id p : Int) : Int := hopR ((rowOf b id).getD ⟨0, []⟩) p
def valB (b : Tb) (p s : Int) : Bool := decide (chk b = 0) && (inB p 0 7 && inB s 0 31)
def nextV (b : Tb) (id p : Int) : Int := if valB b p 0 = true then hopB b id p else 0
abbrev Mk := List (Int × BitVec 64)
def mk (m : Mk) : List (Int × D) := m.map fun e => (e.1, bv e.2)
end Go.Proofs
