/-
  What functions of the program compute, stated as contracts over plain data; the conditions of each stand in its own statement.
-/
import Derived.Test.YtffjbciladpdlaaGreatZN29
import Derived.Test.YtffjbciladpdlaaGreatZN22
import Derived.Test.YtffjbciladpdlaaGreatZN27
set_option linter.unusedSimpArgs false
set_option maxRecDepth 100000
set_option maxHeartbeats 8000000
namespace Go.Proofs
open Go Go.Tr
theorem tpcheck_c (g : Topo) (hg : g.rs.length ≤ 1000000) (hl : g.ls.length ≤ 1000000) : Contract Tryz.prog 50 [topT g] [] (.d (.int .i64 (chkT g))) [] [] := by
 have hs : g.Sm := ⟨hg, hl⟩
 have q1 := containsFQ0_cL g.rs (by omega) 93 (fun x => !inB x.id 1 99) (fun x _ => tck1_c x) (by kernel_rfl)
 have q3 := containsFK0_cL g.ls (by omega) 99 Lk.bad (fun x _ => tck3_c x) (by kernel_rfl)
 have q5 := containsFK0_cL g.ls (by omega) 101 (fun x => decide (x.b ≤ x.a)) (fun x _ => tck5_c x) (by kernel_rfl)
 by_cases c1 : 24 < g.rs.length
 ·refine contract_of Tryz.func50 rfl (fun E0 => ?_)
  refine awp.sound (g := .mk) (ow := []) (kp := (fun k => k==0||k==1||k==2||k==3||k==4||k==5||k==6||k==17||k==23||k==24||k==25||k==44||k==47||k==51||k==56||k==62||k==63||k==64||k==82)) ?_
  rw [Tryz.ntmps50]
  have c1z : (24 : Int) < g.rs.length := by omega
  simp -dsimp [topT, c1z]
  and_intros
  all_goals try first | rfl | omega | exact ⟨by kernel_rfl⟩
  refine Fin.of ?_
  simp [chkT, firstE, c1]
 by_cases c2 : 60 < g.ls.length
 ·refine contract_of Tryz.func50 rfl (fun E0 => ?_)
  refine awp.sound (g := .mk) (ow := []) (kp := (fun k => k==0||k==1||k==2||k==3||k==4||k==5||k==6||k==17||k==23||k==24||k==25||k==44||k==47||k==51||k==56||k==62||k==63||k==64||k==82)) ?_
  rw [Tryz.ntmps50]
  have c1z : ¬ (24 : Int) < g.rs.length := by omega
  have c2z : (60 : Int) < g.ls.length := by omega
  simp -dsimp [topT, c1z, c2z]
  and_intros
  all_goals try first | rfl | omega | exact ⟨by kernel_rfl⟩
  refine Fin.of ?_
  simp [chkT, firstE, c1, c2]
 have c1z : ¬ (24 : Int) < g.rs.length := by omega
 have c2z : ¬ (60 : Int) < g.ls.length := by omega
 rcases (Bool.eq_false_or_eq_true (g.rs.any fun x => !inB x.id 1 99)).symm with e1 | e1
 case inr =>
  rw [e1] at q1
  refine contract_of Tryz.func50 rfl (fun E0 => ?_)
  refine awp.sound (g := .mk) (ow := []) (kp := (fun k => k==0||k==1||k==2||k==3||k==4||k==5||k==6||k==17||k==23||k==24||k==25||k==44||k==47||k==51||k==56||k==62||k==63||k==64||k==82)) ?_
  rw [Tryz.ntmps50]
  simp -dsimp [topT, c1z, c2z, rts]
  refine ACall.of q1 [] 0 ?_
  simp -dsimp
  and_intros
  all_goals try first | rfl | omega | exact ⟨by kernel_rfl⟩
  refine Fin.of ?_
  simp only [chkT, firstE, cond_true, cond_false, decide_eq_false c1, decide_eq_false c2, e1]; simp
 rw [e1] at q1
 refine contract_of Tryz.func50 rfl (fun E0 => ?_)
 refine awp.sound (g := .mk) (ow := []) (kp := (fun k => k==0||k==1||k==2||k==3||k==4||k==5||k==6||k==17||k==23||k==24||k==25||k==44||k==47||k==51||k==56||k==62||k==63||k==64||k==82)) ?_
 rw [Tryz.ntmps50]
 simp -dsimp [topT, c1z, c2z, rts]
 refine ACall.of q1 [] 0 ?_
 simp -dsimp
 try refine ⟨?_, ⟨by kernel_rfl⟩⟩
 refine ALoop.of [] (fun k => k==0||k==1||k==2||k==3||k==4||k==5||k==6||k==17||k==23||k==24||k==25||k==44||k==47||k==51||k==56||k==62||k==63||k==64||k==82) (ι := { i : Nat // i ≤ g.rs.length ∧ adjB (fun x y => decide (y.id ≤ x.id)) g.rs = adjB (fun (x y : Rt) => decide (y.id ≤ x.id)) (g.rs.drop (i - 1)) })
  (fun z => [(Pl.o 1, It.box [TV.d (.sl (rts g.rs)), TV.d (.sl (lks g.ls))]), (Pl.s 1, It.v (.ptr (Pl.o 1) 0)), (Pl.s 2, It.v (.d (.int .i64 0))), (Pl.s 23, It.v (.d (.int .i64 g.rs.length))), (Pl.s 24, It.v (.d (.int .i64 z.1)))])
  (fun z => g.rs.length - z.1) ⟨0, by omega, by simp⟩ ?_ ?_
 ·exact GS.to (by simp [rts])
 ·rintro ⟨i, i1, i2⟩
  by_cases hi : i < g.rs.length
  ·have hiz : (i : Int) < g.rs.length := by omega
   have w1 : IntKind.i64.wrap ((i : Int) + 1) = (i : Int) + 1 := wrap_i64 (by omega) (by omega)
   by_cases h0 : i = 0
   ·subst h0
    have hiz' : 0 < g.rs.length := hi
    simp -dsimp [hiz', w1]
    and_intros
    all_goals try first | rfl | omega | exact ⟨by kernel_rfl⟩
    exact ⟨⟨1, by omega, by simp⟩, GS.to (by simp [wrap_i64 (n := 1) (by omega) (by omega)]), by simp; omega⟩
   ·have h0z : (0 : Int) < i := by omega
    obtain ⟨j, rfl⟩ : ∃ j, i = j + 1 := ⟨i - 1, by omega⟩
    rw [Nat.add_sub_cancel] at i2
    have hx : g.rs[j]? = some g.rs[j] := List.getElem?_eq_getElem (by omega)
    have hy : g.rs[j + 1]? = some g.rs[j + 1] := List.getElem?_eq_getElem hi
    generalize g.rs[j] = x at hx
    generalize g.rs[j + 1] = y at hy
    have hx' := rts_get hx
    have hy' := rts_get hy
    have w0 : IntKind.i64.wrap ((j : Int) + 1 - 1) = j := by rw [wrap_i64 (by omega) (by omega)]; omega
    have w0' : IntKind.i64.wrap (j : Int) = j := wrap_i64 (by omega) (by omega)
    have hjz : (j : Int) < g.rs.length := by omega
    have hiz2 : (j : Int) + 1 < g.rs.length := by omega
    have h0z2 : (0 : Int) < (j : Int) + 1 := by omega
    by_cases a1 : y.id ≤ x.id
    ·simp -dsimp [hiz2, h0z2, hjz, hx', hy', Rt.cs, a1, toNat_succ, w0, w0', w1]
     and_intros
     all_goals try first | rfl | omega | exact ⟨by kernel_rfl⟩
     refine Fin.of ?_
     have e := adj_hit hx hy i2 (by simpa using a1)
     simp only [chkT, firstE, cond_true, cond_false, decide_eq_false c1, decide_eq_false c2, e1, e]; simp
    ·simp -dsimp [hiz2, h0z2, hjz, hx', hy', Rt.cs, a1, toNat_succ, w0, w0', wrap_i64 (n := (j : Int) + 1 + 1) (by omega) (by omega)]
     and_intros
     all_goals try first | rfl | omega | exact ⟨by kernel_rfl⟩
     exact ⟨⟨j + 1 + 1, by omega, adj_step hx hy i2 (by simpa using a1)⟩, GS.to (by simp), by simp; omega⟩
  have e2 := adj_end (i := i - 1) i2 (by omega)
  have hiz : ¬ (i : Int) < g.rs.length := by omega
  have hpw := rpw_of e2
  have q4 := containsFK2_cL g.ls (by omega) 100 95 [D.sl (rts g.rs), D.sl (lks g.ls)] (fun x => !hasR g.rs x.a || !hasR g.rs x.b) (fun x _ => tck4_c g hs hpw x) (by kernel_rfl)
  simp only [rts, lks] at q4
  rcases (Bool.eq_false_or_eq_true (g.ls.any Lk.bad)).symm with e3 | e3
  case inr =>
   rw [e3] at q3
   simp -dsimp [hiz, lks]
   refine ACall.of q3 [] 0 ?_
   simp -dsimp
   and_intros
   all_goals try first | rfl | omega | exact ⟨by kernel_rfl⟩
   refine Fin.of ?_
   simp only [chkT, firstE, cond_true, cond_false, decide_eq_false c1, decide_eq_false c2, e1, e2, e3]; simp
  rw [e3] at q3
  rcases (Bool.eq_false_or_eq_true (g.ls.any fun x => !hasR g.rs x.a || !hasR g.rs x.b)).symm with e4 | e4
  case inr =>
   rw [e4] at q4
   simp -dsimp [hiz, lks, rts]
   refine ACall.of q3 [] 0 ?_
   simp -dsimp
   refine ACall.of q4 [.o 4, .o 1] 0 ?_
   simp -dsimp
   and_intros
   all_goals try first | rfl | omega | exact ⟨by kernel_rfl⟩
   refine Fin.of ?_
   simp only [chkT, firstE, cond_true, cond_false, decide_eq_false c1, decide_eq_false c2, e1, e2, e3, e4]; simp
  rw [e4] at q4
  rcases (Bool.eq_false_or_eq_true (g.ls.any fun x => decide (x.b ≤ x.a))).symm with e5 | e5
  case inr =>
   rw [e5] at q5
   simp -dsimp [hiz, lks, rts]
   refine ACall.of q3 [] 0 ?_
   simp -dsimp
   refine ACall.of q4 [.o 4, .o 1] 0 ?_
   simp -dsimp
   and_intros
   all_goals try first | rfl | omega | exact ⟨by kernel_rfl⟩
   refine ACall.of q5 [] 0 ?_
   simp -dsimp
   and_intros
   all_goals try first | rfl | omega | exact ⟨by kernel_rfl⟩
   refine Fin.of ?_
   simp only [chkT, firstE, cond_true, cond_false, decide_eq_false c1, decide_eq_false c2, e1, e2, e3, e4, e5]; simp
  rw [e5] at q5
  simp -dsimp [hiz, lks, rts]
  refine ACall.of q3 [] 0 ?_
  simp -dsimp
  refine ACall.of q4 [.o 4, .o 1] 0 ?_
  simp -dsimp
  and_intros
  all_goals try first | rfl | omega | exact ⟨by kernel_rfl⟩
  refine ACall.of q5 [] 0 ?_
  simp -dsimp
  and_intros
  all_goals try first | rfl | omega | exact ⟨by kernel_rfl⟩
  refine ALoop.of [] (fun k => k==0||k==1||k==2||k==3||k==4||k==5||k==6||k==17||k==23||k==24||k==25||k==44||k==47||k==51||k==56||k==62||k==63||k==64||k==82) (ι := { i : Nat // i ≤ g.ls.length ∧ adjB (fun x y => decide (y.a < x.a) || decide (x.a = y.a) && decide (y.b ≤ x.b)) g.ls = adjB (fun (x y : Lk) => decide (y.a < x.a) || decide (x.a = y.a) && decide (y.b ≤ x.b)) (g.ls.drop (i - 1)) })
   (fun z => [(Pl.o 1, It.box [TV.d (.sl (rts g.rs)), TV.d (.sl (lks g.ls))]), (Pl.s 1, It.v (.ptr (Pl.o 1) 0)), (Pl.s 2, It.v (.d (.int .i64 0))), (Pl.s 62, It.v (.d (.int .i64 g.ls.length))), (Pl.s 63, It.v (.d (.int .i64 z.1)))])
   (fun z => g.ls.length - z.1) ⟨0, by omega, by simp⟩ ?_ ?_
  ·exact GS.to (by simp [rts, lks])
  ·rintro ⟨i, i1, i2⟩
   by_cases hi : i < g.ls.length
   ·have hiz : (i : Int) < g.ls.length := by omega
    have w1 : IntKind.i64.wrap ((i : Int) + 1) = (i : Int) + 1 := wrap_i64 (by omega) (by omega)
    by_cases h0 : i = 0
    ·subst h0
     have hiz' : 0 < g.ls.length := hi
     simp -dsimp [hiz', w1]
     and_intros
     all_goals try first | rfl | omega | exact ⟨by kernel_rfl⟩
     exact ⟨⟨1, by omega, by simp⟩, GS.to (by simp [wrap_i64 (n := 1) (by omega) (by omega)]), by simp; omega⟩
    ·obtain ⟨j, rfl⟩ : ∃ j, i = j + 1 := ⟨i - 1, by omega⟩
     rw [Nat.add_sub_cancel] at i2
     have hx : g.ls[j]? = some g.ls[j] := List.getElem?_eq_getElem (by omega)
     have hy : g.ls[j + 1]? = some g.ls[j + 1] := List.getElem?_eq_getElem hi
     generalize g.ls[j] = x at hx
     generalize g.ls[j + 1] = y at hy
     have hx' := lks_get hx
     have hy' := lks_get hy
     have w0 : IntKind.i64.wrap ((j : Int) + 1 - 1) = j := by rw [wrap_i64 (by omega) (by omega)]; omega
     have w0' : IntKind.i64.wrap (j : Int) = j := wrap_i64 (by omega) (by omega)
     have hjz : (j : Int) < g.ls.length := by omega
     have hiz2 : (j : Int) + 1 < g.ls.length := by omega
     have h0z2 : (0 : Int) < (j : Int) + 1 := by omega
     have hcm := tcompare_c x y
     simp only [lkT, Lk.cs, List.map] at hcm
     have hge := cmpL_ge x y
     generalize cmpL x y = cc at hcm hge
     by_cases a1 : 0 ≤ cc
     ·rw [decide_eq_true a1] at hge
      simp -dsimp [hiz2, h0z2, hjz, hx', hy', Lk.cs, toNat_succ, w0, w0', w1]
      and_intros
      all_goals try first | rfl | omega | exact ⟨by kernel_rfl⟩
      refine ACall.of hcm [] 0 ?_
      simp -dsimp [a1]
      and_intros
      all_goals try first | rfl | omega | exact ⟨by kernel_rfl⟩
      refine Fin.of ?_
      have e := adj_hit hx hy i2 hge.symm
      simp only [chkT, firstE, cond_true, cond_false, decide_eq_false c1, decide_eq_false c2, e1, e2, e3, e4, e5, e]; simp
     ·rw [decide_eq_false a1] at hge
      simp -dsimp [hiz2, h0z2, hjz, hx', hy', Lk.cs, toNat_succ, w0, w0']
      and_intros
      all_goals try first | rfl | omega | exact ⟨by kernel_rfl⟩
      refine ACall.of hcm [] 0 ?_
      simp -dsimp [a1, wrap_i64 (n := (j : Int) + 1 + 1) (by omega) (by omega)]
      and_intros
      all_goals try first | rfl | omega | exact ⟨by kernel_rfl⟩
      exact ⟨⟨j + 1 + 1, by omega, adj_step hx hy i2 hge.symm⟩, GS.to (by simp), by simp; omega⟩
   ·have e6 := adj_end (i := i - 1) i2 (by omega)
    have hiz : ¬ (i : Int) < g.ls.length := by omega
    simp -dsimp [hiz]
    and_intros
    all_goals try first | rfl | omega | exact ⟨by kernel_rfl⟩
    refine Fin.of ?_
    simp only [chkT, firstE, cond_true, cond_false, decide_eq_false c1, decide_eq_false c2, e1, e2, e3, e4, e5, e6]; simp
theorem tvalid_c (g : Topo) (hs : g.Sm) : Contract Tryz.prog 107 [topT g] [] (.d (.bool (decide (chkT g = 0)))) [] [] := by
 refine contract_of Tryz.func107 rfl (fun E0 => ?_)
 refine awp.sound (g := .mk) (ow := []) (kp := (fun k => k==0||k==1||k==2)) ?_
 rw [Tryz.ntmps107]
 simp -dsimp [topT]
 refine ACall.of (tpcheck_c g hs.r hs.l) [] 0 ?_
 simp -dsimp [topT]
 and_intros
 all_goals try first | rfl | omega | exact ⟨by kernel_rfl⟩
 refine Fin.of ?_
 simp
theorem thas_c (g : Topo) (hs : g.Sm) (r : Int) : Contract Tryz.prog 52 [topT g, .d (.int .i64 r)] [] (.d (.bool (decide (chkT g = 0) && hasR g.rs r))) [] [] := by
 have hf := find_c0 g hs r
 simp only [rtT, Rt.cs, List.map] at hf
 have hsd := fun h => (bs_sorted (rpw_of (chkT_zero (g := g) h).ord) r).1
 refine contract_of Tryz.func52 rfl (fun E0 => ?_)
 refine awp.sound (g := .mk) (ow := []) (kp := (fun k => k==0||k==1||k==2||k==4||k==6)) ?_
 rw [Tryz.ntmps52]
 simp -dsimp [topT]
 refine ACall.of hf [] 0 ?_
 simp -dsimp [topT]
 refine ACall.of (tvalid_c g hs) [] 0 ?_
 by_cases h : chkT g = 0
 ·simp -dsimp [h]
  and_intros
  all_goals try first | rfl | omega | exact ⟨by kernel_rfl⟩
  refine Fin.of ?_
  simp [h, hsd h]
 ·simp -dsimp [h]
  and_intros
  all_goals try first | rfl | omega | exact ⟨by kernel_rfl⟩
  refine Fin.of ?_
  simp [h]
theorem tcapable_c (g : Topo) (hs : g.Sm) (r : Int) : Contract Tryz.prog 53 [topT g, .d (.int .i64 r)] [] (.d (.bool (decide (chkT g = 0) && capR g.rs r))) [] [] := by
 have hf := find_c0 g hs r
 simp only [rtT, Rt.cs, List.map] at hf
 have hsd := fun h => (bs_sorted (rpw_of (chkT_zero (g := g) h).ord) r).2
 refine contract_of Tryz.func53 rfl (fun E0 => ?_)
 refine awp.sound (g := .mk) (ow := []) (kp := (fun k => k==0||k==1||k==2||k==4||k==5)) ?_
 rw [Tryz.ntmps53]
 simp -dsimp [topT]
 refine ACall.of hf [] 0 ?_
 simp -dsimp [topT]
 refine ACall.of (tvalid_c g hs) [] 0 ?_
 by_cases h : chkT g = 0
 ·simp -dsimp [h]
  and_intros
  all_goals try first | rfl | omega | exact ⟨by kernel_rfl⟩
  refine Fin.of ?_
  simp [h, hsd h, capR]
 ·simp -dsimp [h]
  and_intros
  all_goals try first | rfl | omega | exact ⟨by kernel_rfl⟩
  refine Fin.of ?_
  simp [h]
set_option linter.unusedVariables false
set_option maxHeartbeats 16000000
theorem svalid_c (g : Topo) (hs : g.Sm) : Contract Tryz.prog 65 [topT g] [] (.d (.bool (decide (chkT g = 0)))) [] [] := by
 refine contract_of Tryz.func65 rfl (fun E0 => ?_)
 refine awp.sound (g := .mk) (ow := []) (kp := (fun k => k==0||k==1||k==2)) ?_
 rw [Tryz.ntmps65]
 simp -dsimp [topT]
 refine ACall.of (tpcheck_c g hs.r hs.l) [] 0 ?_
 simp -dsimp [topT]
 and_intros
 all_goals try first | omega | exact ⟨by kernel_rfl⟩ | rfl
 refine Fin.of ?_
 simp
def twE (g : Topo) (to : Int) (l : IM) : List (List Int × D) := l.map fun x => ([x.1], ints (steps g (dist g to) x.1))
def twK (g : Topo) (to : Int) (l : IM) : List (List Int × TV) := (twE g to l).map fun x => (x.1, .d x.2)
def twD (g : Topo) (to : Int) : D := if chkT g = 0 then frzV (twE g to (DM g to)) else .mp [] []
theorem twK_len (g : Topo) (to : Int) (l : IM) : klen 1 (twK g to l) := fun y hy => by
 simp only [twK, twE, List.map_map, List.mem_map] at hy
 obtain ⟨x, _, rfl⟩ := hy
 rfl
theorem twK_new {g : Topo} {to : Int} {l : IM} {x : Int} (h : x ∉ l.map (·.1)) (v : TV) : kput (twK g to l) [x] v = twK g to l ++ [([x], v)] := by
 refine kput_new fun y hy e => ?_
 simp only [twK, twE, List.map_map, List.mem_map] at hy
 obtain ⟨z, hz, rfl⟩ := hy
 simp only [Function.comp, List.cons.injEq, and_true] at e
 exact h (List.mem_map.2 ⟨z, hz, e⟩)
@[simp] theorem only_twK {po : Nat → Prop} {g : Topo} {to : Int} {l : IM} {c : Nat} {pd : Option (List Int)} {s : Option Snap} : It.only po (It.mpk (twK g to l) c pd s) := by
 intro x hx
 simp only [twK, twE, List.map_map, List.mem_map] at hx
 obtain ⟨y, _, rfl⟩ := hx
 exact trivial
@[simp] theorem only_mpz_im {po : Nat → Prop} {l : IM} {s : Snap} : It.only po (It.mpz (im l) s) := by
 intro x hx
 obtain ⟨y, _, rfl⟩ := List.mem_map.1 hx
 exact trivial
theorem toward_c (g : Topo) (hs : g.Sm) (to : Int) : Contract Tryz.prog 60 [topT g, .d (.int .i64 to)] [] (.d (twD g to)) [] [] := by
 refine contract_of Tryz.func60 rfl (fun E0 => ?_)
 refine awp.sound (g := .mk) (ow := [3000009]) (kp := (fun k => k==0||k==1||k==2||k==4||k==5||k==6||k==7||k==8||k==12||k==21||k==23)) ?_
 rw [Tryz.ntmps60]
 by_cases h0 : chkT g = 0
 ·have hg := chkT_zero h0
  have hrd := read_c g (by have := hg.nr; omega) (by have := hg.nl; omega) (rs_nd hg) (fun x hx => by
   obtain ⟨h1, h2⟩ := hg.ends' hx
   exact ⟨hasR_mem.1 h1, hasR_mem.1 h2⟩) (fun x hx => by have := hg.lab hx; omega) (fun v => ouL_asc hg v)
  have hds := distances_c g hg to
  have hnx := fun x => nextS_c g hg to x
  have hnd := dm_nd hg to
  have hst : ∀ x ∈ DM g to, nxG (DM g to) (ouL g.ls x.1) x.1 = steps g (dist g to) x.1 := fun x hx => by
   by_cases hto : hasR g.rs to = true
   ·exact nxG_steps hg hto (dm_get hg hto) ((dm_mem hto).1 (show (x.1, x.2) ∈ _ from hx)).1
   ·unfold DM at hx; rw [if_neg hto] at hx; simp at hx
  have hD : twD g to = frzV (twE g to (DM g to)) := by unfold twD; rw [if_pos h0]
  rw [hD]
  obtain ⟨L, hL⟩ : ∃ L, L = DM g to := ⟨_, rfl⟩
  rw [← hL] at hds hnx hnd hst ⊢
  simp only [inM] at hds
  simp only [grT, ouM, inM] at hnx
  simp -dsimp [topT]
  refine ACall.of (svalid_c g hs) [] 0 ?_
  simp -dsimp [topT, h0]
  refine ACall.of hrd [] 0 ?_
  simp -dsimp [topT, h0]
  and_intros
  all_goals try first | omega | exact ⟨by kernel_rfl⟩ | rfl
  refine ACall.of hds [] 0 ?_
  simp -dsimp [topT, h0]
  and_intros
  all_goals try first | omega | exact ⟨by kernel_rfl⟩ | rfl
  refine ANon.range ?_
  simp -dsimp [ANo_some, rangeO, imD, kzip_im, im_keys]
  intro sn
  refine ALoop.of [3000009] (fun k => k==0||k==1||k==2||k==4||k==5||k==6||k==7||k==8||k==12||k==21||k==23) (ι := { z : IM × List (List Int) × Option (List Int) // ((z.1.map fun x => [x.1]) ++ z.2.1).Perm (L.map fun x => [x.1]) ∧ ∀ x ∈ z.1, x ∈ L })
   (fun z => [(Pl.s 5, It.v (.mref 9)), (Pl.o 9, It.mpk (twK g to z.1.1) 0 none none), (Pl.s 6, It.v (.ptr (Pl.o 6) 0)), (Pl.o 6, It.box [.d (ouM g), .d (inM g)]), (Pl.s 7, It.v (.d (imD L))),
    (Pl.s 21, It.v (.ptr (Pl.o 21) 0)), (Pl.o 21, It.mit 4000021 sn z.1.2.1 z.1.2.2), (Pl.o 4000021, It.mpz (im L) sn)])
   (fun z => z.1.2.1.length) ⟨([], L.map (fun x => [x.1]), none), by simp, by simp⟩ ?_ ?_
  ·exact GS.to (by simp [twK, twE, ouM, inM, imD])
  ·rintro ⟨⟨dn, left, cur⟩, j1, j2⟩
   simp only at j1 j2
   simp -dsimp
   refine ANon.next ?_
   simp -dsimp [nextO]
   refine ⟨fun hl0 => ?_, fun x hx => ?_⟩
   ·subst hl0
    rw [List.append_nil] at j1
    have hp := perm_im j1 j2 hnd
    refine Fin.ghost ?_ (GS.permM' (l' := [(Pl.s 4, It.v (.mref 9)), (Pl.o 9, It.mpk (twK g to L) 0 none none)]) 9 (c := 0) (pd := none) (s := none) (es := twK g to dn) (es' := twK g to L) (by simp) ((hp.map _).map _) (by simp))
    refine Fin.frz 9 (twE g to L) (c := 0) (pd := none) (s := none) (by simp [twK]) ?_
    simp -dsimp
    refine Fin.of ?_
    simp
   ·have hxm : x ∈ L.map fun x => [x.1] := j1.mem_iff.1 (List.mem_append.2 (.inr hx))
    obtain ⟨y, hy, rfl⟩ := im_mem hxm
    have hgy : gI L y.1 = some y.2 := gI_of hnd (show (y.1, y.2) ∈ L from hy)
    have hnk : y.1 ∉ dn.map (·.1) := fun hm => by
     obtain ⟨z, hz, e⟩ := List.mem_map.1 hm
     have nd : ((dn.map fun x => [x.1]) ++ left).Nodup := j1.symm.nodup (by
      rw [List.nodup_iff_pairwise_ne, List.pairwise_map] at hnd ⊢
      exact hnd.imp fun h e => h (by simpa using e))
     exact (List.nodup_append.1 nd).2.2 [z.1] (List.mem_map.2 ⟨z, hz, rfl⟩) [y.1] hx (by rw [e])
    have hkp := fun v => twK_new (g := g) (to := to) hnk v
    have hkl := twK_len g to dn
    simp -dsimp [kget_im, hgy]
    refine ACall.of (hnx y.1) [] 0 ?_
    rw [hst y hy]
    simp -dsimp [kget_im, hgy, hkl, hkp]
    have jp : (((dn ++ [y]).map fun x => [x.1]) ++ left.erase [y.1]).Perm (L.map fun x => [x.1]) := by
     rw [List.map_append, List.append_assoc]
     exact (((List.perm_cons_erase hx).symm).append_left _).trans j1
    have jm : ∀ x ∈ dn ++ [y], x ∈ L := fun x hx => by
     rcases List.mem_append.1 hx with h | h
     ·exact j2 x h
     ·rw [List.mem_singleton.1 h]; exact hy
    have hlt : (left.erase [y.1]).length < left.length := by
     rw [List.length_erase_of_mem hx]
     have := List.length_pos_of_mem hx
     omega
    have hsn : twK g to (dn ++ [y]) = twK g to dn ++ [([y.1], TV.d (ints (steps g (dist g to) y.1)))] := by simp [twK, twE]
    exact ⟨rfl, rfl, ⟨⟨(dn ++ [y], left.erase [y.1], some [y.1]), jp, jm⟩, GS.to (by simp [← hsn]), hlt⟩⟩
 ·have hD : twD g to = .mp [] [] := by unfold twD; rw [if_neg h0]
  rw [hD]
  simp -dsimp [topT]
  refine ACall.of (svalid_c g hs) [] 0 ?_
  simp -dsimp [topT, h0]
  refine Fin.frz 9 [] rfl ?_
  simp -dsimp
  refine Fin.of ?_
  simp [frzV]
end Go.Proofs

set_option linter.unusedVariables false
namespace Go.Proofs
def dfs1 (cp : Int → Bool) (go : Int → List Int × List Int → List Int × List Int) (s : List Int × List Int) (n : Int) : List Int × List Int :=
 if n ∈ s.1 then s else if cp n = true then (s.1 ++ [n], s.2 ++ [n]) else go n (s.1 ++ [n], s.2)
def dfs (nx : Int → List Int) (cp : Int → Bool) : Nat → Int → List Int × List Int → List Int × List Int
 | 0, _, s => s
 | k + 1, r, s => (nx r).foldl (dfs1 cp (dfs nx cp k)) s
structure DfsOk (nx : Int → List Int) (cp : Int → Bool) (R : Int → Prop) (ns : List Int) (s s' : List Int × List Int) : Prop where
 sub : ∀ x ∈ s.1, x ∈ s'.1
 dn : ∀ n ∈ ns, n ∈ s'.1
 cl : ∀ x ∈ s'.1, x ∈ s.1 ∨ cp x = true ∨ ∀ n ∈ nx x, n ∈ s'.1
 out : ∀ n, n ∈ s'.2 ↔ n ∈ s.2 ∨ (n ∈ s'.1 ∧ n ∉ s.1 ∧ cp n = true)
 nd : s.1.Nodup → s'.1.Nodup
 ndo : s.2.Nodup → (∀ x ∈ s.2, x ∈ s.1) → s'.2.Nodup ∧ (∀ x ∈ s'.2, x ∈ s'.1)
 via : ∀ x ∈ s'.1, x ∈ s.1 ∨ R x
 len : s'.2.length + s.1.length ≤ s'.1.length + s.2.length
section
variable {nx : Int → List Int} {cp : Int → Bool} {R : Int → Prop}
theorem DfsOk.refl {ns : List Int} {s : List Int × List Int} (h : ∀ n ∈ ns, n ∈ s.1) : DfsOk nx cp R ns s s :=
 ⟨fun _ h => h, h, fun _ h => .inl h, fun n => ⟨.inl, fun h => h.elim id fun h => absurd h.1 h.2.1⟩, id, fun h g => ⟨h, g⟩, fun _ h => .inl h, by omega⟩
theorem DfsOk.trans {a b : List Int} {s t u : List Int × List Int} (h : DfsOk nx cp R a s t) (g : DfsOk nx cp R b t u) : DfsOk nx cp R (a ++ b) s u := by
 refine ⟨fun x hx => g.sub x (h.sub x hx), fun n hn => ?_, fun x hx => ?_, fun n => ?_, fun hn => g.nd (h.nd hn), fun h1 h2 => ?_, fun x hx => ?_, ?_⟩
 ·rcases List.mem_append.1 hn with hn | hn
  ·exact g.sub n (h.dn n hn)
  ·exact g.dn n hn
 ·rcases g.cl x hx with h1 | h1
  ·rcases h.cl x h1 with h2 | h2 | h2
   ·exact .inl h2
   ·exact .inr (.inl h2)
   ·exact .inr (.inr fun n hn => g.sub n (h2 n hn))
  ·exact .inr h1
 ·rw [g.out, h.out]
  have hs := h.sub n
  have hg := g.sub n
  constructor
  ·rintro ((h1 | ⟨h1, h2, h3⟩) | ⟨h1, h2, h3⟩)
   ·exact .inl h1
   ·exact .inr ⟨hg h1, h2, h3⟩
   ·exact .inr ⟨h1, fun e => h2 (hs e), h3⟩
  ·rintro (h1 | ⟨h1, h2, h3⟩)
   ·exact .inl (.inl h1)
   ·by_cases e : n ∈ t.1
    ·exact .inl (.inr ⟨e, h2, h3⟩)
    ·exact .inr ⟨h1, e, h3⟩
 ·obtain ⟨h3, h4⟩ := h.ndo h1 h2
  exact g.ndo h3 h4
 ·rcases g.via x hx with h1 | h1
  ·exact h.via x h1
  ·exact .inr h1
 ·have := h.len
  have := g.len
  omega
theorem nodup_snoc {l : List Int} {n : Int} (h : l.Nodup) (hn : n ∉ l) : (l ++ [n]).Nodup := by
 rw [List.nodup_append]
 exact ⟨h, by simp, fun a ha b hb e => by
  obtain rfl := List.mem_singleton.1 hb
  subst e; exact hn ha⟩
theorem DfsOk.one {go : Int → List Int × List Int → List Int × List Int} {n : Int} {s : List Int × List Int} (hR : R n) (hgo : cp n = false → ∀ s, DfsOk nx cp R (nx n) s (go n s)) : DfsOk nx cp R [n] s (dfs1 cp go s n) := by
 unfold dfs1
 split
 ·rename_i h
  exact DfsOk.refl fun m hm => by
   obtain rfl := List.mem_singleton.1 hm
   exact h
 ·rename_i h
  split
  ·rename_i hc
   refine ⟨fun x hx => by simp [hx], fun m hm => by simp_all, fun x hx => ?_, fun m => ?_, fun hn => nodup_snoc hn h, fun h1 h2 => ⟨nodup_snoc h1 fun e => h (h2 n e), fun x hx => ?_⟩, fun x hx => ?_, ?_⟩
   ·rcases List.mem_append.1 hx with hx | hx
    ·exact .inl hx
    ·obtain rfl := List.mem_singleton.1 hx
     exact .inr (.inl hc)
   ·simp only [List.mem_append, List.mem_singleton]
    constructor
    ·rintro (h1 | rfl)
     ·exact .inl h1
     ·exact .inr ⟨.inr rfl, h, hc⟩
    ·rintro (h1 | ⟨h1 | h1, h2, _⟩)
     ·exact .inl h1
     ·exact absurd h1 h2
     ·exact .inr h1
   ·rcases List.mem_append.1 hx with hx | hx
    ·exact List.mem_append.2 (.inl (h2 x hx))
    ·exact List.mem_append.2 (.inr hx)
   ·rcases List.mem_append.1 hx with hx | hx
    ·exact .inl hx
    ·obtain rfl := List.mem_singleton.1 hx
     exact .inr hR
   ·simp only [List.length_append, List.length_singleton]; omega
  ·rename_i hc
   have hcf : cp n = false := by simpa using hc
   have g := hgo hcf (s.1 ++ [n], s.2)
   refine ⟨fun x hx => g.sub x (by simp [hx]), fun m hm => ?_, fun x hx => ?_, fun m => ?_, fun hn => g.nd (nodup_snoc hn h), fun h1 h2 => g.ndo h1 fun x hx => by simp [h2 x hx], fun x hx => ?_, ?_⟩
   ·obtain rfl := List.mem_singleton.1 hm
    exact g.sub _ (by simp)
   ·rcases g.cl x hx with h1 | h1
    ·rcases List.mem_append.1 h1 with h1 | h1
     ·exact .inl h1
     ·obtain rfl := List.mem_singleton.1 h1
      exact .inr (.inr g.dn)
    ·exact .inr h1
   ·rw [g.out]
    simp only [List.mem_append, List.mem_singleton]
    constructor
    ·rintro (h1 | ⟨h1, h2, h3⟩)
     ·exact .inl h1
     ·exact .inr ⟨h1, fun e => h2 (.inl e), h3⟩
    ·rintro (h1 | ⟨h1, h2, h3⟩)
     ·exact .inl h1
     ·refine .inr ⟨h1, fun e => ?_, h3⟩
      rcases e with e | rfl
      ·exact h2 e
      ·exact hc h3
   ·rcases g.via x hx with h1 | h1
    ·rcases List.mem_append.1 h1 with h1 | h1
     ·exact .inl h1
     ·obtain rfl := List.mem_singleton.1 h1
      exact .inr hR
    ·exact .inr h1
   ·have := g.len
    simp only [List.length_append, List.length_singleton] at this
    omega
theorem DfsOk.fold {go : Int → List Int × List Int → List Int × List Int} : ∀ {ns : List Int} {s : List Int × List Int}, (∀ n ∈ ns, R n ∧ (cp n = false → ∀ s, DfsOk nx cp R (nx n) s (go n s))) → DfsOk nx cp R ns s (ns.foldl (dfs1 cp go) s)
 | [], s, _ => DfsOk.refl (by simp)
 | n :: ns, s, h => by
   have h1 := h n (by simp)
   exact DfsOk.trans (a := [n]) (DfsOk.one h1.1 h1.2) (DfsOk.fold fun m hm => h m (by simp [hm]))
theorem dfs_ok (d : Int → Nat) (hd : ∀ r, ∀ n ∈ nx r, d n < d r) (hR : ∀ n, R n → cp n = false → ∀ m ∈ nx n, R m) : ∀ (k : Nat) (r : Int), d r < k → (∀ n ∈ nx r, R n) → ∀ s, DfsOk nx cp R (nx r) s (dfs nx cp k r s)
 | 0, _, h, _, _ => by omega
 | k + 1, r, h, hr, s => by
   rw [dfs]
   exact DfsOk.fold fun n hn => ⟨hr n hn, fun hc s => dfs_ok d hd hR k n (by have := hd r n hn; omega) (hR n (hr n hn) hc) s⟩
end
theorem dfs_hops {g : Topo} (hg : g.Ok) {t f : Int} {k : Nat} (hk : (dst g t f).toNat < k) :
  (dfs (steps g (dist g t)) (capR g.rs) k f ([], [])).2.Nodup ∧ ∀ n, n ∈ (dfs (steps g (dist g t)) (capR g.rs) k f ([], [])).2 ↔ HopR g t f n := by
 have hd : ∀ r, ∀ n ∈ steps g (dist g t) r, (dst g t n).toNat < (dst g t r).toNat := fun r n hn => by
  have h1 := (steps_dst hg hn).1
  have h2 := (dst_bd hg t n).1
  omega
 have h := dfs_ok (nx := steps g (dist g t)) (cp := capR g.rs) (R := fun n => ∃ x, Thru g t f x ∧ n ∈ steps g (dist g t) x) (fun x => (dst g t x).toNat) hd (fun n hn hc m hm => by
  obtain ⟨x, hx, hnx⟩ := hn
  exact ⟨n, .via hx hnx hc, hm⟩) k f hk (fun n hn => ⟨f, .nil, hn⟩) ([], [])
 refine ⟨(h.ndo (by simp) (by simp)).1, fun n => ?_⟩
 rw [h.out]
 simp only [List.not_mem_nil, false_or, not_false_iff, true_and]
 constructor
 ·rintro ⟨h1, h2⟩
  rcases h.via n h1 with h3 | ⟨x, hx, hn⟩
  ·simp at h3
  ·exact ⟨x, hx, hn, h2⟩
 ·rintro ⟨x, hx, hn, hc⟩
  refine ⟨?_, hc⟩
  have key : ∀ x, Thru g t f x → ∀ n ∈ steps g (dist g t) x, n ∈ (dfs (steps g (dist g t)) (capR g.rs) k f ([], [])).1 := by
   intro x hx
   induction hx with
   | nil => exact h.dn
   | via _ hm hcm ih =>
     intro n hn
     rcases h.cl _ (ih _ hm) with h3 | h3 | h3
     ·simp at h3
     ·rw [hcm] at h3; simp at h3
     ·exact h3 n hn
  exact key x hx n hn
end Go.Proofs
