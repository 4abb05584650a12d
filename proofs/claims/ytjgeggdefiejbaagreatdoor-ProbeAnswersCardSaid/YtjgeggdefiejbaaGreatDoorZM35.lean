/-
  What functions of the program compute, stated as contracts over plain data; the conditions of each stand in its own statement.
-/
import Derived.Test.YtjgeggdefiejbaaGreatDoorZM30
import Derived.Test.YtjgeggdefiejbaaGreatDoorZM33
import Derived.Test.YtjgeggdefiejbaaGreatDoorZM34
set_option linter.unusedSimpArgs false
set_option linter.unusedVariables false
set_option maxRecDepth 100000
set_option maxHeartbeats 16000000
namespace Go.Proofs
open Go Go.Tr
@[simp] theorem nIds_okF (T : Tp) : ∀ i : Nat, TapeF (nIds T i).1 = TapeF T
 | 0 => rfl
 | i + 1 => by simp only [nIds, gPick_okF]; exact nIds_okF T i
@[simp] theorem nTree_okF (T : Tp) : ∀ i : Nat, TapeF (nTree T i).1 = TapeF T
 | 0 => rfl
 | i + 1 => by
   have ih := nTree_okF T i
   simp only [nTree]
   split <;> simp [ih]
@[simp] theorem nMore_okF (n : Nat) (T : Tp) (M : Mx) : ∀ i : Nat, TapeF (nMore n T M i).1 = TapeF T
 | 0 => rfl
 | i + 1 => by
   have ih := nMore_okF n T M i
   simp only [nMore, gNext_okF, ih]
@[simp] theorem gLnk_okF (flat : Bool) (x y : Int) (T : Tp) : TapeF (gLnk flat x y T).2 = TapeF T := by
 unfold gLnk
 simp only
 split <;> simp
theorem push_okF (flat : Bool) (rs : List Rt) : ∀ (ps : List (Nat × Nat)) (s : List Lk × Tp), TapeF (ps.foldl (pushK flat rs) s).2 = TapeF s.2
 | [], _ => rfl
 | q :: ps, s => by rw [List.foldl_cons, push_okF flat rs ps]; simp [pushK]
@[simp] theorem nLnk_okF (flat : Bool) (rs : List Rt) (M : Mx) (T : Tp) (n a b : Nat) : TapeF (nLnk flat rs M T n a b).2 = TapeF T := push_okF _ _ _ _
@[simp] theorem tape_ren (a b : Nat) (T : Tp) : renI a b (tapeI T) = tapeI T := by simp [tapeI, renI_box, TV.rens, TV.ren]
def mrow (M : Mx) (n i : Nat) : List (List D) := (List.range n).map fun j => [.bool (M i j)]
def mcel (n i : Nat) : List (List TV) := (List.range n).map fun j => if j < i then [TV.oref (9000 + j) n] else [TV.c (Value.slice none 0 0)]
theorem mrow0 (n a : Nat) : List.replicate n [TV.d (.bool false)] = dd (mrow (fun _ _ => false) n a) := by
 unfold mrow dd
 rw [List.map_map]
 refine List.ext_getElem (by simp) fun j h1 h2 => by simp
theorem mrow_len (M : Mx) (n a : Nat) : (mrow M n a).length = n := by simp [mrow]
theorem mrow_set (M : Mx) (n a b : Nat) : (dd (mrow M n a)).set b [TV.d (.bool true)] = dd (mrow (mset M a b) n a) := by
 unfold mrow dd
 refine List.ext_getElem (by simp) fun j h1 h2 => ?_
 simp only [List.getElem_set, List.getElem_map, List.getElem_range]
 by_cases e : b = j
 ·subst e; simp [mset]
 ·rw [if_neg e]
  have : ¬ j = b := fun g => e g.symm
  simp [mset, this]
theorem mrow_other (M : Mx) (n : Nat) {a b j : Nat} (h : ¬ j = a) : mrow (mset M a b) n j = mrow M n j := by
 unfold mrow mset
 simp [h]
theorem mcel_len (n i : Nat) : (mcel n i).length = n := by simp [mcel]
theorem mcel_zero (n : Nat) : List.replicate n [TV.c (Value.slice none 0 0)] = mcel n 0 := by
 unfold mcel
 refine List.ext_getElem (by simp) fun j h1 h2 => by simp
theorem mcel_ren {n i : Nat} (h : i < n) : ((mcel n i).set i [TV.oref 49 n]).map (TV.rens 49 (9000 + i)) = mcel n (i + 1) := by
 unfold mcel
 refine List.ext_getElem (by simp) fun j h1 h2 => ?_
 simp only [List.getElem_map, List.getElem_set, List.getElem_range]
 by_cases e : i = j
 ·subst e; simp [TV.rens, TV.ren, renN]
 ·rw [if_neg e]
  by_cases g : j < i
  ·rw [if_pos g, if_pos (by omega)]
   have : ¬ 9000 + j = 49 := by omega
   simp [TV.rens, TV.ren, renN, this]
  ·rw [if_neg g, if_neg (by omega)]
   simp [TV.rens, TV.ren]
theorem mcel_at {n i j : Nat} (h : j < (mcel n i).length) : (mcel n i)[j] = if j < i then [TV.oref (9000 + j) n] else [TV.c (Value.slice none 0 0)] := by simp [mcel]
theorem mcel_only {po : Nat → Prop} {n i : Nat} : rowsOnly po (mcel n i) ↔ ∀ j, j < n → j < i → po (9000 + j) := by
 simp only [rowsOnly]
 constructor
 ·intro h j h1 h2
  have := h _ (List.mem_map.2 ⟨j, List.mem_range.2 h1, rfl⟩)
  rw [if_pos h2] at this
  simpa [TV.onlys, TV.only] using this
 ·intro h e he
  obtain ⟨j, hj, rfl⟩ := List.mem_map.1 he
  have := h j (List.mem_range.1 hj)
  split
  ·rename_i g; simp [TV.onlys, TV.only, this g]
  ·simp [TV.onlys, TV.only]
theorem dmrow_at {M : Mx} {n a j : Nat} (h : j < (dd (mrow M n a)).length) : (dd (mrow M n a))[j] = [TV.d (.bool (M a j))] := by simp [mrow, dd]
theorem drts_at {rs : List Rt} {a : Nat} (h : a < (dd (rts rs)).length) : (dd (rts rs))[a] = [TV.d (.int .i64 (rid rs a)), TV.d (.bool (rs.getD a ⟨0, false⟩).cap)] := by
 have h2 : a < rs.length := by simpa [dd, rts] using h
 simp [dd, rts, Rt.cs, rid, List.getD, h2]
theorem nLnk_len {flat : Bool} {rs : List Rt} {M : Mx} {T : Tp} {n a b : Nat} : (nLnk flat rs M T n a b).1.length ≤ a * n + b := by
 have h : ∀ (ps : List (Nat × Nat)) (s : List Lk × Tp), (ps.foldl (pushK flat rs) s).1.length = s.1.length + ps.length := by
  intro ps
  induction ps with
  | nil => intro s; simp
  | cons q ps ih => intro s; rw [List.foldl_cons, ih]; simp [pushK]; omega
 rw [nLnk, h]
 have h1 := prs_len M n a
 have h2 := rowP_len M a b
 have e : (prs M n a b).length = (prs M n a 0).length + (rowP M a b).length := by simp [prs, rowP]
 simp only [List.length_nil]
 omega
theorem netTop_c (T : Tp) (hT : TapeF T) (most : Int) (hm : 1 ≤ most ∧ most ≤ 7) : Contract Tryz.prog 20 [.ptr (.x 0) 0, .d (.int .i64 most)] [tapeI T] (topT (gNet T most).1) [tapeI (gNet T most).2] [] := by
 refine contract_of Tryz.func20 rfl (fun E0 => ?_)
 refine awp.sound (g := .mk) (ow := []) (kp := (fun k => k==0||k==1||k==4||k==5||k==6||k==7||k==8||k==9||k==10||k==11||k==12||k==13||k==14||k==15||k==16||k==17||k==18||k==24||k==42||k==43||k==44||k==54||k==59||k==73||k==84||k==99||k==100||k==101||k==104||k==105||k==106||k==115||k==133)) ?_
 rw [Tryz.ntmps20]
 simp -dsimp
 have a1 := gRange_lo T 1 most
 have a2 := gRange_hi T (a := 1) (b := most) (by omega)
 refine ACall.of (rangeF_c T hT 1 most ⟨by omega, by omega⟩ ⟨by omega, by omega⟩ ⟨by omega, by omega⟩ ⟨by omega, by omega⟩) [.x 0] 0 ?_
 have kR : TapeF (gRange T 1 most).2 := by simpa using hT
 have hG : gNet T most = (⟨(gNetP T most).rs, (nLnk (gNetP T most).flat (gNetP T most).rs (gNetP T most).M2 (gNetP T most).T4 (gNetP T most).n (gNetP T most).n 0).1⟩, (nLnk (gNetP T most).flat (gNetP T most).rs (gNetP T most).M2 (gNetP T most).T4 (gNetP T most).n (gNetP T most).n 0).2) := rfl
 rw [hG]
 have hP : gNetP T most = gNetP T most := rfl
 conv at hP => rhs; unfold gNetP
 generalize gNetP T most = P at hP ⊢
 generalize gRange T 1 most = R at a1 a2 kR hP ⊢
 obtain ⟨n', T1⟩ := R
 simp only at a1 a2 kR hP ⊢
 obtain ⟨n, rfl⟩ : ∃ n : Nat, n' = n := ⟨n'.toNat, by omega⟩
 simp only [Int.toNat_natCast] at hP
 subst hP
 simp only
 simp -dsimp
 refine ALoop.of [] (fun k => k==0||k==1||k==4||k==5||k==6||k==7||k==8||k==9||k==10||k==11||k==12||k==13||k==14||k==15||k==16||k==17||k==18||k==24||k==42||k==43||k==44||k==54||k==59||k==73||k==84||k==99||k==100||k==101||k==104||k==105||k==106||k==115||k==133) (ι := { i : Nat // i ≤ n })
  (fun z => [(Pl.s 0, It.v (.ptr (Pl.x 0) 0)), (Pl.s 1, It.v (.d (.int .i64 most))), (Pl.o 4, It.box [TV.c (Value.slice none 0 0), TV.c (Value.slice none 0 0)]), (Pl.s 4, It.v (.ptr (Pl.o 4) 0)), (Pl.s 5, It.v (.d (.int .i64 n))), (Pl.x 0, tapeI (nIds T1 z.1).1), (Pl.o 6, It.box [TV.oref 600 z.1, TV.c (Value.slice none 0 0)]), (Pl.s 6, It.v (.ptr (Pl.o 6) 0)), (Pl.o 600, It.row 52 2 (dd (rts (nIds T1 z.1).2.2)) false), (Pl.s 7, It.v (.d (.int .i64 (nIds T1 z.1).2.1))), (Pl.s 8, It.v (.d (.int .i64 z.1)))])
  (fun z => n - z.1) ⟨0, by omega⟩ ?_ ?_
 ·exact GS.ownB' (.o 6) 0 600 (cs := [TV.c (Value.slice none 0 0), TV.c (Value.slice none 0 0)]) 52 2 rfl (by simp) (by simp) (by simp) (by simp [nIds, rts])
 rintro ⟨i, i1⟩
 have kI : TapeF (nIds T1 i).1 := by simpa using kR
 obtain ⟨b1, b2, b3, b4, b5⟩ := nIds_ok T1 i
 by_cases hi : i < n
 ·have hiz : (i : Int) < n := by omega
  have hp := idPicks_r (nIds T1 i).1
  have hc := pickF_c (nIds T1 i).1 kI idPicks (by simp [idPicks]) (by simp [idPicks])
  have hs : nIds T1 (i + 1) = ((gPick (nIds T1 i).1 idPicks).2, (nIds T1 i).2.1 + (gPick (nIds T1 i).1 idPicks).1, (nIds T1 i).2.2 ++ [⟨(nIds T1 i).2.1 + (gPick (nIds T1 i).1 idPicks).1, true⟩]) := rfl
  generalize gPick (nIds T1 i).1 idPicks = w at hc hp hs
  simp only [ints, idPicks, List.map] at hc
  simp -dsimp [hiz]
  try refine ⟨?_, ⟨by kernel_rfl⟩⟩
  refine ACall.of hc [.x 0] 0 ?_
  simp -dsimp [b1, wrap_i64 (n := (i : Int) + 1) (by omega) (by omega), wrap_i64 (n := (nIds T1 i).2.1 + w.1) (by omega) (by omega)]
  and_intros
  all_goals try first | omega | exact ⟨by kernel_rfl⟩ | rfl | (simp [rts, b1]; done) | (simp; omega)
  exact ⟨⟨i + 1, by omega⟩, GS.to (by simp [hs, rts, Rt.cs, b1]), by simp; omega⟩
 have hiz : ¬ (i : Int) < n := by omega
 obtain rfl : n = i := by omega
 simp -dsimp [hiz]
 and_intros
 all_goals try first | omega | exact ⟨by kernel_rfl⟩ | rfl
 have kN : TapeF (nIds T1 n).1 := kI
 have hrl : (nIds T1 n).2.2.length = n := b1
 have hT2 : ∀ j, TapeF (nTree (nIds T1 n).1 j).1 := fun j => by simpa using kN
 obtain ⟨⟨T2, id0, rs⟩, hI⟩ : ∃ I, nIds T1 n = I := ⟨_, rfl⟩
 simp only [hI] at b1 b2 b3 b4 b5 kN hrl hT2 ⊢
 refine ALoop.of [] (fun k => k==0||k==1||k==4||k==5||k==6||k==7||k==8||k==9||k==10||k==11||k==12||k==13||k==14||k==15||k==16||k==17||k==18||k==24||k==42||k==43||k==44||k==54||k==59||k==73||k==84||k==99||k==100||k==101||k==104||k==105||k==106||k==115||k==133) (ι := { i : Nat // i ≤ n })
  (fun z => fam 9000 z.1 (fun _ => It.row 4 1 (List.replicate n [TV.d (.bool false)]) false) [(Pl.s 0, It.v (.ptr (Pl.x 0) 0)), (Pl.s 1, It.v (.d (.int .i64 most))), (Pl.o 4, It.box [TV.c (Value.slice none 0 0), TV.c (Value.slice none 0 0)]), (Pl.s 4, It.v (.ptr (Pl.o 4) 0)), (Pl.s 5, It.v (.d (.int .i64 n))), (Pl.x 0, tapeI T2), (Pl.o 6, It.box [TV.oref 600 n, TV.c (Value.slice none 0 0)]), (Pl.s 6, It.v (.ptr (Pl.o 6) 0)), (Pl.o 600, It.row 52 2 (dd (rts rs)) false), (Pl.s 9, It.v (.oref 40 n)), (Pl.o 40, It.row 127 1 (mcel n z.1) false), (Pl.s 42, It.v (.d (.int .i64 n))), (Pl.s 43, It.v (.d (.int .i64 z.1)))])
  (fun z => n - z.1) ⟨0, by omega⟩ ?_ ?_
 ·simp only [fam_zero]
  exact GS.to (by simp [mcel_zero, mcel_only])
 ·rintro ⟨i, i1⟩
  by_cases hi : i < n
  ·have hiz : (i : Int) < n := by omega
   simp -dsimp [hiz, hi, mcel_len, mcel_at, wrap_i64 (n := (i : Int) + 1) (by omega) (by omega)]
   and_intros
   all_goals try first | omega | exact ⟨by kernel_rfl⟩ | rfl
   refine ⟨⟨i + 1, by omega⟩, GS.ren' 49 (9000 + i) (by omega) ?_ ⟨?_, ?_⟩, by simp; omega⟩
   ·simp; omega
   ·simp only [fam_snoc, renL_fam (show 49 < 9000 by omega), renL_cons, renL_nil]
    refine Sub.fam (fun j hj => ?_) ?_ (fun j hj => ?_) ?_
    ·simp [renP, renI_row, renN, TV.ren, TV.rens, hj]
    ·simp [renP, renI_row, renI_v, renI_box, renN, TV.ren, TV.rens, mcel_ren hi, fam_ne, ne_fam]
    ·simp [rowsOnly_rep]
    ·simp [mcel_only, rowsOnly_rep]
     intro j _ hj
     omega
   ·simp only [fam_snoc, renL_fam (show 49 < 9000 by omega), renL_cons, renL_nil]
    simp [renP]
  have hiz : ¬ (i : Int) < n := by omega
  obtain rfl : n = i := by omega
  simp -dsimp [hiz]
  and_intros
  all_goals try first | omega | exact ⟨by kernel_rfl⟩ | rfl
  refine ALoop.of [] (fun k => k==0||k==1||k==4||k==5||k==6||k==7||k==8||k==9||k==10||k==11||k==12||k==13||k==14||k==15||k==16||k==17||k==18||k==24||k==42||k==43||k==44||k==54||k==59||k==73||k==84||k==99||k==100||k==101||k==104||k==105||k==106||k==115||k==133) (ι := { i : Nat // i ≤ n - 1 })
   (fun z => fam 9000 n (fun a => It.row 4 1 (dd (mrow (nTree T2 z.1).2 n a)) false) [(Pl.s 0, It.v (.ptr (Pl.x 0) 0)), (Pl.s 1, It.v (.d (.int .i64 most))), (Pl.o 4, It.box [TV.c (Value.slice none 0 0), TV.c (Value.slice none 0 0)]), (Pl.s 4, It.v (.ptr (Pl.o 4) 0)), (Pl.s 5, It.v (.d (.int .i64 n))), (Pl.x 0, tapeI (nTree T2 z.1).1), (Pl.o 6, It.box [TV.oref 600 n, TV.c (Value.slice none 0 0)]), (Pl.s 6, It.v (.ptr (Pl.o 6) 0)), (Pl.o 600, It.row 52 2 (dd (rts rs)) false), (Pl.s 9, It.v (.oref 40 n)), (Pl.o 40, It.row 127 1 (mcel n n) false), (Pl.s 11, It.v (.d (.int .i64 ((z.1 : Int) + 1))))])
   (fun z => n - z.1) ⟨0, by omega⟩ ?_ ?_
  ·refine GS.to ⟨?_, by simp⟩
   refine Sub.fam (fun j hj => ?_) ?_ (fun j hj => ?_) ?_
   ·simp [hj, nTree, mrow0 n j]
   ·simp [nTree]
   ·simp
   ·simp [mcel_only]
    intro j hj; omega
  rintro ⟨i, i1⟩
  have kI2 := hT2 i
  by_cases hi : i + 1 < n
  ·have hiz : (i : Int) + 1 < n := by omega
   have kW : TapeF (gNext (nTree T2 i).1 12).2 := by simpa using kI2
   have hs : nTree T2 (i + 1) = if (gNext (nTree T2 i).1 12).1 < 11 then ((gNext (gNext (nTree T2 i).1 12).2 ((i : Int) + 1)).2, mset (nTree T2 i).2 (gNext (gNext (nTree T2 i).1 12).2 ((i : Int) + 1)).1.toNat (i + 1)) else ((gNext (nTree T2 i).1 12).2, (nTree T2 i).2) := rfl
   have hc := nextF_c (nTree T2 i).1 kI2 12 ⟨by omega, by omega⟩
   generalize gNext (nTree T2 i).1 12 = w at kW hs hc
   simp -dsimp [hiz]
   and_intros
   all_goals try first | omega | exact ⟨by kernel_rfl⟩ | rfl
   refine ACall.of hc [.x 0] 0 ?_
   by_cases hw : w.1 < 11
   ·rw [if_pos hw] at hs
    have v1 := gNext_nonneg w.2 ((i : Int) + 1)
    have v2 := gNext_lt w.2 (n := (i : Int) + 1) (by omega)
    have hd := nextF_c w.2 kW ((i : Int) + 1) ⟨by omega, by omega⟩
    generalize gNext w.2 ((i : Int) + 1) = v at v1 v2 hs hd
    obtain ⟨v', T3⟩ := v
    simp only at v1 v2 hs hd
    obtain ⟨v, rfl⟩ : ∃ v : Nat, v' = v := ⟨v'.toNat, by omega⟩
    have hvn : v < n := by omega
    simp only [Int.toNat_natCast] at hs
    have e1 : ((i : Int) + 1).toNat = i + 1 := by omega
    simp -dsimp [hw]
    and_intros
    all_goals try first | omega | exact ⟨by kernel_rfl⟩ | rfl
    refine ACall.of hd [.x 0] 0 ?_
    simp -dsimp [hvn, hi, mcel_len, mcel_at, dmrow_at, mrow_len, e1, wrap_i64 (n := (i : Int) + 1 + 1) (by omega) (by omega)]
    and_intros
    all_goals try first | omega | exact ⟨by kernel_rfl⟩ | rfl
    refine ⟨⟨i + 1, by omega⟩, GS.to ⟨?_, by simp⟩, by simp; omega⟩
    refine Sub.fam (fun j hj => ?_) ?_ (fun j hj => ?_) ?_
    ·by_cases hjv : j = v
     ·subst hjv; simp [hj, hs, mrow_set]
     ·simp [hj, hs, hjv, mrow_other]
    ·simp [hs]
    ·simp
    ·simp [mcel_only]
     intro j hj; omega
   ·rw [if_neg hw] at hs
    simp -dsimp [hw, wrap_i64 (n := (i : Int) + 1 + 1) (by omega) (by omega)]
    and_intros
    all_goals try first | omega | exact ⟨by kernel_rfl⟩ | rfl
    refine ⟨⟨i + 1, by omega⟩, GS.to ⟨?_, by simp⟩, by simp; omega⟩
    refine Sub.fam (fun j hj => ?_) ?_ (fun j hj => ?_) ?_
    ·simp [hj, hs]
    ·simp [hs]
    ·simp
    ·simp [mcel_only]
     intro j hj; omega
  have hiz : ¬ (i : Int) + 1 < n := by omega
  obtain rfl : n - 1 = i := by omega
  simp -dsimp [hiz, wrap_i64 (n := (n : Int) + 2) (by omega) (by omega)]
  and_intros
  all_goals try first | omega | exact ⟨by kernel_rfl⟩ | rfl
  have kT : TapeF (nTree T2 (n - 1)).1 := hT2 (n - 1)
  obtain ⟨⟨T3, M1⟩, hI3⟩ : ∃ I, nTree T2 (n - 1) = I := ⟨_, rfl⟩
  have hc := nextF_c (nTree T2 (n - 1)).1 kT ((n : Int) + 2) ⟨by omega, by omega⟩
  simp only [hI3] at kT hc ⊢
  have q1 := gNext_nonneg T3 ((n : Int) + 2)
  have q2 := gNext_lt T3 (n := (n : Int) + 2) (by omega)
  have kQ : TapeF (gNext T3 ((n : Int) + 2)).2 := by simpa using kT
  obtain ⟨⟨K', T4⟩, hI4⟩ : ∃ I, gNext T3 ((n : Int) + 2) = I := ⟨_, rfl⟩
  simp only [hI4] at q1 q2 kQ hc ⊢
  obtain ⟨K, rfl⟩ : ∃ K : Nat, K' = K := ⟨K'.toNat, by omega⟩
  try simp only [Int.toNat_natCast]
  refine ACall.of hc [.x 0] 0 ?_
  simp -dsimp
  and_intros
  all_goals try first | omega | exact ⟨by kernel_rfl⟩ | rfl
  refine ALoop.of [] (fun k => k==0||k==1||k==4||k==5||k==6||k==7||k==8||k==9||k==10||k==11||k==12||k==13||k==14||k==15||k==16||k==17||k==18||k==24||k==42||k==43||k==44||k==54||k==59||k==73||k==84||k==99||k==100||k==101||k==104||k==105||k==106||k==115||k==133) (ι := { i : Nat // i ≤ K })
   (fun z => fam 9000 n (fun a => It.row 4 1 (dd (mrow (nMore n T4 M1 z.1).2 n a)) false) [(Pl.s 0, It.v (.ptr (Pl.x 0) 0)), (Pl.s 1, It.v (.d (.int .i64 most))), (Pl.o 4, It.box [TV.c (Value.slice none 0 0), TV.c (Value.slice none 0 0)]), (Pl.s 4, It.v (.ptr (Pl.o 4) 0)), (Pl.s 5, It.v (.d (.int .i64 n))), (Pl.x 0, tapeI (nMore n T4 M1 z.1).1), (Pl.o 6, It.box [TV.oref 600 n, TV.c (Value.slice none 0 0)]), (Pl.s 6, It.v (.ptr (Pl.o 6) 0)), (Pl.o 600, It.row 52 2 (dd (rts rs)) false), (Pl.s 9, It.v (.oref 40 n)), (Pl.o 40, It.row 127 1 (mcel n n) false), (Pl.s 12, It.v (.d (.int .i64 ((K : Int) - z.1))))])
   (fun z => K - z.1) ⟨0, by omega⟩ ?_ ?_
  ·refine GS.to ⟨?_, by simp⟩
   refine Sub.fam (fun j hj => ?_) ?_ (fun j hj => ?_) ?_
   ·simp [hj, nMore, hI3]
   ·simp [nMore, hI3]
   ·simp
   ·simp [mcel_only]
    intro j hj; omega
  rintro ⟨i, i1⟩
  have kI3 : TapeF (nMore n T4 M1 i).1 := by simpa using kQ
  by_cases hi : i < K
  ·have hiz : (0 : Int) < (K : Int) - i := by omega
   have hs : nMore n T4 M1 (i + 1) = ((gNext (gNext (nMore n T4 M1 i).1 n).2 n).2, if (gNext (nMore n T4 M1 i).1 n).1 = (gNext (gNext (nMore n T4 M1 i).1 n).2 n).1 then (nMore n T4 M1 i).2 else mset (nMore n T4 M1 i).2 (min (gNext (nMore n T4 M1 i).1 n).1 (gNext (gNext (nMore n T4 M1 i).1 n).2 n).1).toNat (max (gNext (nMore n T4 M1 i).1 n).1 (gNext (gNext (nMore n T4 M1 i).1 n).2 n).1).toNat) := rfl
   have hc := nextF_c (nMore n T4 M1 i).1 kI3 n ⟨by omega, by omega⟩
   have kA : TapeF (gNext (nMore n T4 M1 i).1 n).2 := by simpa using kI3
   have v1 := gNext_nonneg (nMore n T4 M1 i).1 n
   have v2 := gNext_lt (nMore n T4 M1 i).1 (n := n) (by omega)
   generalize gNext (nMore n T4 M1 i).1 n = a at kA v1 v2 hs hc
   obtain ⟨a', T5⟩ := a
   simp only at kA v1 v2 hs hc
   have hd := nextF_c T5 kA n ⟨by omega, by omega⟩
   have w1 := gNext_nonneg T5 n
   have w2 := gNext_lt T5 (n := n) (by omega)
   generalize gNext T5 n = b at w1 w2 hs hd
   obtain ⟨b', T6⟩ := b
   simp only at w1 w2 hs hd
   obtain ⟨a, rfl⟩ : ∃ a : Nat, a' = a := ⟨a'.toNat, by omega⟩
   obtain ⟨b, rfl⟩ : ∃ b : Nat, b' = b := ⟨b'.toNat, by omega⟩
   simp -dsimp [hiz, hi]
   and_intros
   all_goals try first | omega | exact ⟨by kernel_rfl⟩ | rfl
   refine ACall.of hc [.x 0] 0 ?_
   simp -dsimp [hiz, hi]
   and_intros
   all_goals try first | omega | exact ⟨by kernel_rfl⟩ | rfl
   refine ACall.of hd [.x 0] 0 ?_
   by_cases hab : a = b
   ·have habz : (a : Int) = b := by omega
    rw [if_pos habz] at hs
    simp -dsimp [hab, habz, wrap_i64 (n := (K : Int) - i - 1) (by omega) (by omega)]
    and_intros
    all_goals try first | omega | exact ⟨by kernel_rfl⟩ | rfl
    refine ⟨⟨i + 1, by omega⟩, GS.to ⟨?_, by simp⟩, by simp; omega⟩
    refine Sub.fam (fun j hj => ?_) ?_ (fun j hj => ?_) ?_
    ·simp [hj, hs]
    ·simp [hs]; omega
    ·simp
    ·simp [mcel_only]
     intro j hj; omega
   ·have habz : ¬ (a : Int) = b := by omega
    rw [if_neg habz] at hs
    have hmn : minI IntKind.i64 a b = .d (.int .i64 (min a b : Nat)) := by simp [minI]; omega
    have hmx : maxI IntKind.i64 a b = .d (.int .i64 (max a b : Nat)) := by simp [maxI]; omega
    have e1 : (min (a : Int) b).toNat = min a b := by omega
    have e2 : (max (a : Int) b).toNat = max a b := by omega
    rw [e1, e2] at hs
    have m1 : min a b < n := by omega
    have m2 : max a b < n := by omega
    generalize min a b = u at hmn hs m1
    generalize max a b = v at hmx hs m2
    simp -dsimp [hab, habz, hmn, hmx, m1, m2, mcel_len, mcel_at, dmrow_at, mrow_len, wrap_i64 (n := (K : Int) - i - 1) (by omega) (by omega)]
    and_intros
    all_goals try first | omega | exact ⟨by kernel_rfl⟩ | rfl
    refine ⟨⟨i + 1, by omega⟩, GS.to ⟨?_, by simp⟩, by simp; omega⟩
    refine Sub.fam (fun j hj => ?_) ?_ (fun j hj => ?_) ?_
    ·by_cases hjv : j = u
     ·subst hjv; simp [hj, hs, mrow_set]
     ·simp [hj, hs, hjv, mrow_other]
    ·simp [hs]; omega
    ·simp
    ·simp [mcel_only]
     intro j hj; omega
  have hiz : ¬ (0 : Int) < (K : Int) - i := by omega
  obtain rfl : K = i := by omega
  obtain ⟨⟨T5, M2⟩, hI5⟩ : ∃ I, nMore n T4 M1 K = I := ⟨_, rfl⟩
  simp only [hI5] at kI3 ⊢
  have hc := nextF_c T5 kI3 3 ⟨by omega, by omega⟩
  have kF : TapeF (gNext T5 3).2 := by simpa using kI3
  obtain ⟨⟨f', T6⟩, hI6⟩ : ∃ I, gNext T5 3 = I := ⟨_, rfl⟩
  simp only [hI6] at kF hc ⊢
  simp -dsimp [hiz]
  and_intros
  all_goals try first | omega | exact ⟨by kernel_rfl⟩ | rfl
  refine ACall.of hc [.x 0] 0 ?_
  simp -dsimp [mcel_len]
  and_intros
  all_goals try first | omega | exact ⟨by kernel_rfl⟩ | rfl
  obtain ⟨flat, hflat⟩ : ∃ b, decide (f' = 0) = b := ⟨_, rfl⟩
  simp only [hflat]
  have kL : ∀ a b, TapeF (nLnk flat rs M2 T6 n a b).2 := fun a b => by simpa using kF
  have hnn : n * n ≤ 49 := Nat.mul_le_mul (show n ≤ 7 by omega) (show n ≤ 7 by omega)
  refine ALoop.of [] (fun k => k==0||k==1||k==4||k==5||k==6||k==7||k==8||k==9||k==10||k==11||k==12||k==13||k==14||k==15||k==16||k==17||k==18||k==24||k==42||k==43||k==44||k==54||k==59||k==73||k==84||k==99||k==100||k==101||k==104||k==105||k==106||k==115||k==133) (ι := { i : Nat // i ≤ n })
   (fun z => fam 9000 n (fun a => It.row 4 1 (dd (mrow M2 n a)) false) [(Pl.s 0, It.v (.ptr (Pl.x 0) 0)), (Pl.s 1, It.v (.d (.int .i64 most))), (Pl.o 4, It.box [TV.c (Value.slice none 0 0), TV.c (Value.slice none 0 0)]), (Pl.s 4, It.v (.ptr (Pl.o 4) 0)), (Pl.s 5, It.v (.d (.int .i64 n))), (Pl.x 0, tapeI (nLnk flat rs M2 T6 n z.1 0).2), (Pl.o 6, It.box [TV.oref 600 n, TV.oref 601 (nLnk flat rs M2 T6 n z.1 0).1.length]), (Pl.s 6, It.v (.ptr (Pl.o 6) 0)), (Pl.o 600, It.row 52 2 (dd (rts rs)) false), (Pl.o 601, It.row 125 5 (dd (lks (nLnk flat rs M2 T6 n z.1 0).1)) false), (Pl.s 9, It.v (.oref 40 n)), (Pl.o 40, It.row 127 1 (mcel n n) false), (Pl.s 15, It.v (.d (.bool flat))), (Pl.s 99, It.v (.d (.int .i64 n))), (Pl.s 100, It.v (.d (.int .i64 z.1)))])
   (fun z => n - z.1) ⟨0, by omega⟩ ?_ ?_
  ·refine GS.ownB' (.o 6) 1 601 (cs := [TV.oref 600 n, TV.c (Value.slice none 0 0)]) 125 5 rfl (by simp) (by simp) (by simp) ⟨?_, by simp⟩
   simp only [put1_fam_o _ (show 6 < 9000 by omega), put1_fam_o _ (show 601 < 9000 by omega)]
   refine Sub.fam (fun j hj => ?_) ?_ (fun j hj => ?_) ?_
   ·simp [hj]
   ·simp [nLnk, prs, rowP, lks]
   ·simp
   ·simp [mcel_only]
    intro j hj; omega
  rintro ⟨a, ha1⟩
  by_cases ha : a < n
  ·have haz : (a : Int) < n := by omega
   simp -dsimp [haz, ha, mcel_len]
   and_intros
   all_goals try first | omega | exact ⟨by kernel_rfl⟩ | rfl
   refine ALoop.of [] (fun k => k==0||k==1||k==4||k==5||k==6||k==7||k==8||k==9||k==10||k==11||k==12||k==13||k==14||k==15||k==16||k==17||k==18||k==24||k==42||k==43||k==44||k==54||k==59||k==73||k==84||k==99||k==100||k==101||k==104||k==105||k==106||k==115||k==133) (ι := { i : Nat // i ≤ n })
    (fun z => fam 9000 n (fun a => It.row 4 1 (dd (mrow M2 n a)) false) [(Pl.s 0, It.v (.ptr (Pl.x 0) 0)), (Pl.s 1, It.v (.d (.int .i64 most))), (Pl.o 4, It.box [TV.c (Value.slice none 0 0), TV.c (Value.slice none 0 0)]), (Pl.s 4, It.v (.ptr (Pl.o 4) 0)), (Pl.s 5, It.v (.d (.int .i64 n))), (Pl.x 0, tapeI (nLnk flat rs M2 T6 n a z.1).2), (Pl.o 6, It.box [TV.oref 600 n, TV.oref 601 (nLnk flat rs M2 T6 n a z.1).1.length]), (Pl.s 6, It.v (.ptr (Pl.o 6) 0)), (Pl.o 600, It.row 52 2 (dd (rts rs)) false), (Pl.o 601, It.row 125 5 (dd (lks (nLnk flat rs M2 T6 n a z.1).1)) false), (Pl.s 9, It.v (.oref 40 n)), (Pl.o 40, It.row 127 1 (mcel n n) false), (Pl.s 15, It.v (.d (.bool flat))), (Pl.s 16, It.v (.d (.int .i64 a))), (Pl.s 99, It.v (.d (.int .i64 n))), (Pl.s 100, It.v (.d (.int .i64 a))), (Pl.s 104, It.v (.d (.int .i64 n))), (Pl.s 105, It.v (.d (.int .i64 z.1)))])
    (fun z => n - z.1) ⟨0, by omega⟩ ?_ ?_
   ·refine GS.to ⟨?_, by simp⟩
    refine Sub.fam (fun j hj => ?_) ?_ (fun j hj => ?_) ?_
    ·simp [hj]
    ·simp
    ·simp
    ·simp [mcel_only]
     intro j hj; omega
   rintro ⟨b, hb1⟩
   by_cases hb : b < n
   ·have hbz : (b : Int) < n := by omega
    rcases (Bool.eq_false_or_eq_true (M2 a b)).symm with hM | hM
    ·have hs := nLnk_skip (flat := flat) (rs := rs) (T := T6) (n := n) hM
     simp -dsimp [hbz, hb, ha, haz, mcel_len, mcel_at, dmrow_at, mrow_len, hM, wrap_i64 (n := (b : Int) + 1) (by omega) (by omega)]
     and_intros
     all_goals try first | omega | exact ⟨by kernel_rfl⟩ | rfl
     refine ⟨⟨b + 1, by omega⟩, GS.to ⟨?_, by simp⟩, by simp; omega⟩
     refine Sub.fam (fun j hj => ?_) ?_ (fun j hj => ?_) ?_
     ·simp [hj]
     ·simp [hs]
     ·simp
     ·simp [mcel_only]
      intro j hj; omega
    ·have hs := nLnk_push (flat := flat) (rs := rs) (T := T6) (n := n) hM
     have hll := nLnk_len (flat := flat) (rs := rs) (M := M2) (T := T6) (n := n) (a := a) (b := b)
     have han : a * n ≤ 49 := Nat.le_trans (Nat.mul_le_mul (show a ≤ n by omega) (Nat.le_refl n)) hnn
     have kC := kL a b
     generalize nLnk flat rs M2 T6 n a b = s at hs hll kC
     have hrt : (dd (rts rs)).length = n := by simp [dd, rts, b1]
     have hc := pickF_c s.2 kC capPicks (by simp [capPicks]) (by simp [capPicks])
     have kc2 : TapeF (gPick s.2 capPicks).2 := by simpa using kC
     have hgl : gLnk flat (rid rs a) (rid rs b) s.2 = gLnk flat (rid rs a) (rid rs b) s.2 := rfl
     conv at hgl => rhs; unfold gLnk
     simp only [pushK] at hs
     generalize gPick s.2 capPicks = c at hc kc2 hgl
     simp only [ints, capPicks, List.map] at hc
     simp -dsimp [hbz, hb, ha, haz, mcel_len, mcel_at, dmrow_at, mrow_len, hM, drts_at, hrt]
     and_intros
     all_goals try first | omega | exact ⟨by kernel_rfl⟩ | rfl
     refine ACall.of hc [.x 0] 0 ?_
     rcases (Bool.eq_false_or_eq_true flat).symm with hfl | hfl
     ·simp only [hfl, Bool.false_eq_true, if_false] at hgl
      have u1 := gRange_lo c.2 1 20
      have u2 := gRange_hi c.2 (a := 1) (b := 20) (by omega)
      have hu := rangeF_c c.2 kc2 1 20 ⟨by omega, by omega⟩ ⟨by omega, by omega⟩ ⟨by omega, by omega⟩ ⟨by omega, by omega⟩
      have ku : TapeF (gRange c.2 1 20).2 := by simpa using kc2
      generalize gRange c.2 1 20 = u at hgl u1 u2 hu ku
      have hv := pickF_c u.2 ku [1, 2, 3, u.1, 1000] (by simp) (by simp)
      have kv : TapeF (gPick u.2 [1, 2, 3, u.1, 1000]).2 := by simpa using ku
      generalize gPick u.2 [1, 2, 3, u.1, 1000] = v at hgl hv kv
      have w1 := gRange_lo v.2 1 20
      have w2 := gRange_hi v.2 (a := 1) (b := 20) (by omega)
      have hw := rangeF_c v.2 kv 1 20 ⟨by omega, by omega⟩ ⟨by omega, by omega⟩ ⟨by omega, by omega⟩ ⟨by omega, by omega⟩
      have kw : TapeF (gRange v.2 1 20).2 := by simpa using kv
      generalize gRange v.2 1 20 = w at hgl w1 w2 hw kw
      have hz := pickF_c w.2 kw [v.1, v.1, w.1] (by simp) (by simp)
      generalize gPick w.2 [v.1, v.1, w.1] = z at hgl hz
      simp only [ints, List.map] at hv hz
      rw [hfl, hgl] at hs
      simp -dsimp [hfl]
      and_intros
      all_goals try first | omega | exact ⟨by kernel_rfl⟩ | rfl
      refine ACall.of hu [.x 0] 0 ?_
      simp -dsimp
      and_intros
      all_goals try first | omega | exact ⟨by kernel_rfl⟩ | rfl
      refine ACall.of hv [.x 0] 0 ?_
      simp -dsimp
      and_intros
      all_goals try first | omega | exact ⟨by kernel_rfl⟩ | rfl
      refine ACall.of hw [.x 0] 0 ?_
      simp -dsimp
      and_intros
      all_goals try first | omega | exact ⟨by kernel_rfl⟩ | rfl
      refine ACall.of hz [.x 0] 0 ?_
      simp -dsimp [wrap_i64 (n := (b : Int) + 1) (by omega) (by omega)]
      and_intros
      all_goals try first | omega | exact ⟨by kernel_rfl⟩ | rfl
      refine ⟨⟨b + 1, by omega⟩, GS.to ⟨?_, by simp⟩, by simp; omega⟩
      refine Sub.fam (fun j hj => ?_) ?_ (fun j hj => ?_) ?_
      ·simp [hj]
      ·simp [hs, lks, Lk.cs, hfl]
      ·simp
      ·simp [mcel_only]
       intro j hj; omega
     ·simp only [hfl, if_true] at hgl
      rw [hfl, hgl] at hs
      simp -dsimp [hfl, wrap_i64 (n := (b : Int) + 1) (by omega) (by omega)]
      and_intros
      all_goals try first | omega | exact ⟨by kernel_rfl⟩ | rfl
      refine ⟨⟨b + 1, by omega⟩, GS.to ⟨?_, by simp⟩, by simp; omega⟩
      refine Sub.fam (fun j hj => ?_) ?_ (fun j hj => ?_) ?_
      ·simp [hj]
      ·simp [hs, lks, Lk.cs, hfl]
      ·simp
      ·simp [mcel_only]
       intro j hj; omega
   ·have hbz : ¬ (b : Int) < n := by omega
    obtain rfl : n = b := by omega
    have hs := nLnk_row (flat := flat) (rs := rs) (M := M2) (T := T6) (n := n) (a := a)
    simp -dsimp [hbz, wrap_i64 (n := (a : Int) + 1) (by omega) (by omega)]
    and_intros
    all_goals try first | omega | exact ⟨by kernel_rfl⟩ | rfl
    refine ⟨⟨a + 1, by omega⟩, GS.to ⟨?_, by simp⟩, by simp; omega⟩
    refine Sub.fam (fun j hj => ?_) ?_ (fun j hj => ?_) ?_
    ·simp [hj]
    ·simp [hs]
    ·simp
    ·simp [mcel_only]
     intro j hj; omega
  ·have haz : ¬ (a : Int) < n := by omega
   obtain rfl : n = a := by omega
   simp -dsimp [haz]
   and_intros
   all_goals try first | omega | exact ⟨by kernel_rfl⟩ | rfl
   refine Fin.box (.o 4) rfl ?_
   simp -dsimp
   and_intros
   all_goals try first | omega | exact ⟨by kernel_rfl⟩ | rfl
   refine Fin.of ?_
   simp [topT, hI, hI3, hI4, hI5, hI6, hflat]
theorem nSome_ok (g : Topo) (hg : chkT g = 0) (h0 : 0 < g.rs.length) (T : Tp) : ∀ i : Nat, (nSome g.rs T i).2.Pairwise (· < ·) ∧ ∀ x ∈ (nSome g.rs T i).2, 1 ≤ x ∧ x ≤ 99
 | 0 => by simp [nSome]
 | i + 1 => by
   obtain ⟨h1, h2⟩ := nSome_ok g hg h0 T i
   have v1 := gNext_nonneg (nSome g.rs T i).1 g.rs.length
   have v2 := gNext_lt (nSome g.rs T i).1 (n := g.rs.length) (by omega)
   simp only [nSome]
   obtain ⟨h3, h4⟩ := insI_asc (rid g.rs (gNext (nSome g.rs T i).1 g.rs.length).1.toNat) h1
   refine ⟨h3, fun x hx => ?_⟩
   rcases (h4 x).1 hx with hx | rfl
   ·exact h2 x hx
   ·have := (chkT_zero hg).id (rid_has (rs := g.rs) (i := (gNext (nSome g.rs T i).1 g.rs.length).1.toNat) (by omega))
    exact this
theorem flR_ok {r : Int} {L : List Int} (h : L.Pairwise (· < ·)) (g : ∀ x ∈ L, 1 ≤ x ∧ x ≤ 99) : (flR r L).Pairwise (· < ·) ∧ (∀ x ∈ flR r L, 1 ≤ x ∧ x ≤ 99) ∧ r ∉ flR r L := by
 refine ⟨h.filter _, fun x hx => g x (List.mem_filter.1 hx).1, fun hr => ?_⟩
 have := (List.mem_filter.1 hr).2
 simp at this
theorem splNx_ok {g : Topo} (hg : chkT g = 0) (h0 : 0 < g.rs.length) {r : Int} (hr : 1 ≤ r ∧ r ≤ 99) (T : Tp) : (splNx g.rs r T).1.length ≤ 24 ∧ (splNx g.rs r T).1.Pairwise (· < ·) ∧ (∀ x ∈ (splNx g.rs r T).1, 1 ≤ x ∧ x ≤ 99) ∧ ¬ (1 < (splNx g.rs r T).1.length ∧ r ∈ (splNx g.rs r T).1) := by
 unfold splNx
 simp only
 split
 ·simp [hr]
 ·split
  ·simp
  ·have q1 := gNext_nonneg (gNext T 4).2 (2 + 1)
   have q2 := gNext_lt (gNext T 4).2 (n := 2 + 1) (by omega)
   have hl := nSome_len g.rs (gNext (gNext T 4).2 (2 + 1)).2 (gNext (gNext T 4).2 (2 + 1)).1.toNat
   obtain ⟨h1, h2⟩ := nSome_ok g hg h0 (gNext (gNext T 4).2 (2 + 1)).2 (gNext (gNext T 4).2 (2 + 1)).1.toNat
   obtain ⟨a1, a2, a3⟩ := flR_ok (r := r) h1 h2
   refine ⟨?_, a1, a2, fun h => a3 h.2⟩
   have : (flR r (nSome g.rs (gNext (gNext T 4).2 (2 + 1)).2 (gNext (gNext T 4).2 (2 + 1)).1.toNat).2).length ≤ _ := List.length_filter_le _ _
   show (flR r (nSome g.rs (gNext (gNext T 4).2 (2 + 1)).2 (gNext (gNext T 4).2 (2 + 1)).1.toNat).2).length ≤ 24
   omega
theorem chk_set {b : Tb} (h : chk b = 0) {j : Nat} {x : Rw} (hx : b.rows[j]? = some x) {nx : List Int} (h1 : nx.length ≤ 24) (h2 : nx.Pairwise (· < ·)) (h3 : ∀ y ∈ nx, 1 ≤ y ∧ y ≤ 99) (h4 : ¬ (1 < nx.length ∧ b.r ∈ nx)) : chk ⟨b.r, b.sd, b.len, b.rows.set j ⟨x.id, nx⟩⟩ = 0 := by
 obtain ⟨p1, p2, p3, p4⟩ := chk_parts h
 have hN := chk_next h
 have hA := chk_asc h
 have hxm := List.mem_of_getElem? hx
 have hM : ∀ y ∈ b.rows.set j ⟨x.id, nx⟩, y ∈ b.rows ∨ y = ⟨x.id, nx⟩ := fun y hy => List.mem_or_eq_of_mem_set hy
 have hids : (b.rows.set j ⟨x.id, nx⟩).map (·.id) = b.rows.map (·.id) := by
  rw [List.map_set]
  refine List.ext_getElem? fun i => ?_
  rw [List.getElem?_set]
  split
  ·rename_i e
   subst e
   have hj : j < b.rows.length := (List.getElem?_eq_some_iff.1 hx).1
   rw [if_pos (by simpa using hj), List.getElem?_map, hx]; rfl
  ·rfl
 refine chk_ok ⟨p1.1, p1.2.1, ?_⟩ ?_ ?_ ?_ ⟨?_, fun y hy => ?_⟩ ?_
 ·simp only [List.length_set]; exact p1.2.2
 ·rintro ⟨y, hy, ho⟩
  rcases hM y hy with hy | rfl
  ·rcases ho with ho | ⟨z, hz, ho⟩
   ·exact ho (hN y hy).1
   ·exact ho ((hN y hy).2 z hz)
  ·rcases ho with ho | ⟨z, hz, ho⟩
   ·exact ho (hN x hxm).1
   ·exact ho (h3 z hz)
 ·simp only [List.length_set]; omega
 ·rintro ⟨y, hy, hl⟩
  rcases hM y hy with hy | rfl
  ·have := p3 y hy; omega
  ·simp only at hl; omega
 ·simp only [hids]; exact hA.1
 ·rcases hM y hy with hy | rfl
  ·exact hA.2 y hy
  ·exact h2
 ·rintro ⟨y, hy, hc⟩
  rcases hM y hy with hy | rfl
  ·exact p4 y hy hc
  ·exact h4 hc
structure SplV (g : Topo) (p : Pn) (l : List Tb) : Prop where
 rs : l.map (·.r) = (tabs g p g.rs).map (·.r)
 ck : ∀ b ∈ l, chk b = 0
 sd : ∀ b ∈ l, b.sd = p.subd ∧ b.len = p.len
theorem SplV.init {g : Topo} (hg : chkT g = 0) {p : Pn} (hp : planB p = true) : SplV g p (tabs g p g.rs) := ⟨rfl, tabs_chk hg hp, tabs_sd⟩
theorem SplV.step {g : Topo} (hg : chkT g = 0) (h0 : 0 < g.rs.length) {p : Pn} {l : List Tb} (h : SplV g p l) (T : Tp) : SplV g p (splT g.rs l T).1.1 := by
 unfold splT
 split
 ·exact h
 ·rename_i hl
  have k1 := gNext_nonneg T l.length
  have k2 := gNext_lt T (n := l.length) (by omega)
  simp only
  split
  ·exact h
  ·rename_i hr
   obtain ⟨k, hk⟩ : ∃ k : Nat, (gNext T l.length).1 = k := ⟨(gNext T l.length).1.toNat, by omega⟩
   simp only [hk, Int.toNat_natCast] at hr ⊢
   have hkl : k < l.length := by omega
   have hgd : l.getD k tb0 = l[k] := by rw [List.getD_eq_getElem?_getD, List.getElem?_eq_getElem hkl]; rfl
   rw [hgd] at hr ⊢
   have hbm : l[k] ∈ l := List.getElem_mem hkl
   have hb := h.ck _ hbm
   have hsd := h.sd _ hbm
   obtain ⟨b, hb0⟩ : ∃ b, l[k] = b := ⟨_, rfl⟩
   rw [hb0] at hr hb hsd hbm ⊢
   have j1 := gNext_nonneg (gNext T l.length).2 b.rows.length
   have j2 := gNext_lt (gNext T l.length).2 (n := b.rows.length) (by omega)
   obtain ⟨j, hj⟩ : ∃ j : Nat, (gNext (gNext T l.length).2 b.rows.length).1 = j := ⟨(gNext (gNext T l.length).2 b.rows.length).1.toNat, by omega⟩
   simp only [hj, Int.toNat_natCast]
   have hjl : j < b.rows.length := by omega
   have hx : b.rows[j]? = some b.rows[j] := List.getElem?_eq_getElem hjl
   have hxd : b.rows.getD j ⟨0, []⟩ = b.rows[j] := by rw [List.getD_eq_getElem?_getD, hx]; rfl
   rw [hxd]
   obtain ⟨s1, s2, s3, s4⟩ := splNx_ok hg h0 (chk_parts hb).1.1 (gNext (gNext T l.length).2 b.rows.length).2
   have hnew := chk_set hb hx s1 s2 s3 s4
   refine ⟨?_, fun c hc => ?_, fun c hc => ?_⟩
   ·rw [← h.rs, List.map_set]
    refine List.ext_getElem? fun i => ?_
    rw [List.getElem?_set]
    split
    ·rename_i e
     subst e
     rw [if_pos (by simpa using hkl), List.getElem?_map, List.getElem?_eq_getElem hkl, hb0]; rfl
    ·rfl
   ·rcases List.mem_or_eq_of_mem_set hc with hc | rfl
    ·exact h.ck c hc
    ·exact hnew
   ·rcases List.mem_or_eq_of_mem_set hc with hc | rfl
    ·exact h.sd c hc
    ·exact hsd
theorem SplV.tabV {g : Topo} (hg : chkT g = 0) {p : Pn} {l : List Tb} (h : SplV g p l) : TabV p ((tabs g p g.rs).map (·.r)) l := by
 have hl : l.length ≤ 24 := by
  have := congrArg List.length h.rs
  simp only [List.length_map] at this
  rw [this]; exact Nat.le_trans (tabs_len g p) (chkT_zero hg).nr
 refine ⟨chkA_of hl h.ck ?_ fun b hb c hc => ?_, h.ck, h.sd, fun r => ?_, hl⟩
 ·have h1 := tabs_asc (chkT_zero hg) p
  have h2 : ((tabs g p g.rs).map (·.r)).Pairwise (· < ·) := by rw [List.pairwise_map]; exact h1
  rw [← h.rs, List.pairwise_map] at h2
  exact h2
 ·have h1 := h.sd b hb
  have h2 := h.sd c hc
  exact ⟨h1.1.trans h2.1.symm, h1.2.trans h2.2.symm⟩
 ·rw [findT_some, h.rs]
def nSpl (rs : List Rt) (l : List Tb) (T : Tp) : Nat → List Tb × Tp
 | 0 => (l, T)
 | i + 1 => let s := nSpl rs l T i; ((splT rs s.1 s.2).1.1, (splT rs s.1 s.2).2)
@[simp] theorem nSpl_okF (rs : List Rt) (l : List Tb) (T : Tp) : ∀ i : Nat, TapeF (nSpl rs l T i).2 = TapeF T
 | 0 => rfl
 | i + 1 => by simp only [nSpl, splT_okF]; exact nSpl_okF rs l T i
theorem nSpl_v {g : Topo} (hg : chkT g = 0) (h0 : 0 < g.rs.length) {p : Pn} {l : List Tb} (h : SplV g p l) (T : Tp) : ∀ i : Nat, SplV g p (nSpl g.rs l T i).1
 | 0 => h
 | i + 1 => (nSpl_v hg h0 h T i).step hg h0 _
def gTabs (T : Tp) : Topo × Pn × List Tb × Tp :=
 let a := gNet T 7
 let b := gPlanN a.1.rs a.2
 let n := gNext b.2 4
 let s := nSpl a.1.rs (tabs a.1 b.1 a.1.rs) n.2 n.1.toNat
 (a.1, b.1, s.1, s.2)
structure GenV (g : Topo) (p : Pn) (l : List Tb) : Prop where
 ok : chkT g = 0
 cap : AllCap g
 n : 1 ≤ g.rs.length ∧ g.rs.length ≤ 7
 plan : planB p = true
 len : p.len = 0 ↔ p.es = []
 val : p.len = 0 ∨ validLen p.len = true
 subd : 0 ≤ p.subd ∧ p.subd ≤ 2
 es : p.es.length ≤ 7
 tab : SplV g p l
theorem gTabs_v (T : Tp) : GenV (gTabs T).1 (gTabs T).2.1 (gTabs T).2.2.1 := by
 obtain ⟨h1, h2, h3, h4⟩ := gNet_valid T (most := 7) (by omega)
 obtain ⟨p1, p2, p3, p4, p5, p6⟩ := gPlanN_valid h1 (by omega) (gNet T 7).2
 exact ⟨h1, h2, ⟨h3, (by omega : (gNet T 7).1.rs.length ≤ 7)⟩, p1, p4, p6, ⟨p2, p3⟩, p5, nSpl_v h1 (by omega) (SplV.init h1 p1) _ _⟩
@[simp] theorem gNet_okF (T : Tp) (most : Int) : TapeF (gNet T most).2 = TapeF T := by
 have e : (gNet T most).2 = (nLnk (gNetP T most).flat (gNetP T most).rs (gNetP T most).M2 (gNetP T most).T4 (gNetP T most).n (gNetP T most).n 0).2 := rfl
 rw [e, nLnk_okF]
 unfold gNetP
 simp
@[simp] theorem gTabs_okF (T : Tp) : TapeF (gTabs T).2.2.2 = TapeF T := by
 unfold gTabs
 simp
theorem tables_c (T : Tp) (hT : TapeF T) : Contract Tryz.prog 14 [.ptr (.x 0) 0] [tapeI T] (.tup [topT (gTabs T).1, planT (gTabs T).2.1, .d (.sl (tbs (gTabs T).2.2.1))]) [tapeI (gTabs T).2.2.2] [] := by
 obtain ⟨h1, h2, h3, h4⟩ := gNet_valid T (most := 7) (by omega)
 obtain ⟨p1, p2, p3, p4, p5, p6⟩ := gPlanN_valid h1 (by omega) (gNet T 7).2
 have hc1 := netTop_c T hT 7 (by omega)
 have kA : TapeF (gNet T 7).2 := by simpa using hT
 have hG : gTabs T = ((gNet T 7).1, (gPlanN (gNet T 7).1.rs (gNet T 7).2).1, (nSpl (gNet T 7).1.rs (tabs (gNet T 7).1 (gPlanN (gNet T 7).1.rs (gNet T 7).2).1 (gNet T 7).1.rs) (gNext (gPlanN (gNet T 7).1.rs (gNet T 7).2).2 4).2 (gNext (gPlanN (gNet T 7).1.rs (gNet T 7).2).2 4).1.toNat).1, (nSpl (gNet T 7).1.rs (tabs (gNet T 7).1 (gPlanN (gNet T 7).1.rs (gNet T 7).2).1 (gNet T 7).1.rs) (gNext (gPlanN (gNet T 7).1.rs (gNet T 7).2).2 4).2 (gNext (gPlanN (gNet T 7).1.rs (gNet T 7).2).2 4).1.toNat).2) := rfl
 rw [hG]
 generalize gNet T 7 = A at h1 h2 h3 h4 p1 p2 p3 p4 p5 p6 hc1 kA ⊢
 obtain ⟨g, T1⟩ := A
 simp only at h1 h2 h3 h4 p1 p2 p3 p4 p5 p6 hc1 kA ⊢
 have hc2 := planN_c T1 kA g (by omega)
 have kB : TapeF (gPlanN g.rs T1).2 := by simpa using kA
 generalize gPlanN g.rs T1 = B at p1 p2 p3 p4 p5 p6 hc2 kB ⊢
 obtain ⟨p, T2⟩ := B
 simp only at p1 p2 p3 p4 p5 p6 hc2 kB ⊢
 have hc3 := all11_c g (chkT_zero h1).sm p (by omega)
 have ha : all11 g p = (tabs g p g.rs, 0) := by unfold all11; rw [if_pos ⟨h1, p1⟩]
 rw [ha] at hc3
 have hc4 := nextF_c T2 kB 4 ⟨by omega, by omega⟩
 have q1 := gNext_nonneg T2 4
 have q2 := gNext_lt T2 (n := 4) (by omega)
 have kN : TapeF (gNext T2 4).2 := by simpa using kB
 generalize gNext T2 4 = N at hc4 q1 q2 kN ⊢
 obtain ⟨n', T3⟩ := N
 simp only at hc4 q1 q2 kN ⊢
 obtain ⟨n, rfl⟩ : ∃ n : Nat, n' = n := ⟨n'.toNat, by omega⟩
 simp only [Int.toNat_natCast]
 have hV := nSpl_v h1 (by omega) (SplV.init h1 p1) T3
 simp only [topT, planT, allT] at hc1 hc2 hc3
 have et : List.map Tb.cs (tabs g p g.rs) = tbs (tabs g p g.rs) := rfl
 rw [et] at hc3
 generalize tabs g p g.rs = X0 at hV hc3 ⊢
 refine contract_of Tryz.func14 rfl (fun E0 => ?_)
 refine awp.sound (g := .mk) (ow := []) (kp := (fun k => k==0||k==2||k==3||k==4||k==5||k==6||k==7||k==9||k==24)) ?_
 rw [Tryz.ntmps14]
 simp -dsimp
 and_intros
 all_goals try first | omega | exact ⟨by kernel_rfl⟩ | rfl
 refine ACall.of hc1 [.x 0] 0 ?_
 simp -dsimp [topT]
 and_intros
 all_goals try first | omega | exact ⟨by kernel_rfl⟩ | rfl
 refine ACall.of hc2 [.x 0] 0 ?_
 simp -dsimp [topT, planT]
 and_intros
 all_goals try first | omega | exact ⟨by kernel_rfl⟩ | rfl
 refine ACall.of hc3 [] 0 ?_
 simp -dsimp
 and_intros
 all_goals try first | omega | exact ⟨by kernel_rfl⟩ | rfl
 refine ACall.of hc4 [.x 0] 0 ?_
 simp -dsimp
 and_intros
 all_goals try first | omega | exact ⟨by kernel_rfl⟩ | rfl
 refine ALoop.of [] (fun k => k==0||k==2||k==3||k==4||k==5||k==6||k==7||k==9||k==24) (ι := { i : Nat // i ≤ n })
  (fun z => [(Pl.s 0, It.v (.ptr (Pl.x 0) 0)), (Pl.x 0, tapeI (nSpl g.rs X0 T3 z.1).2), (Pl.o 2, It.box [TV.c (Value.slice none 0 0), TV.c (Value.slice none 0 0)]), (Pl.s 2, It.v (.ptr (Pl.o 2) 0)), (Pl.o 3, It.box [TV.d (.int .i64 0), TV.d (.int .i64 0), TV.c (Value.slice none 0 0)]), (Pl.s 3, It.v (.ptr (Pl.o 3) 0)), (Pl.s 4, It.v (.c (Value.slice none 0 0))), (Pl.o 5, It.box [TV.d (.sl (rts g.rs)), TV.d (.sl (lks g.ls))]), (Pl.s 5, It.v (.ptr (Pl.o 5) 0)), (Pl.o 6, It.box [TV.d (.int .i64 p.subd), TV.d (.int .i64 p.len), TV.d (.sl (eds p.es))]), (Pl.s 6, It.v (.ptr (Pl.o 6) 0)), (Pl.s 7, It.v (.d (.sl (tbs (nSpl g.rs X0 T3 z.1).1)))), (Pl.s 9, It.v (.d (.int .i64 ((n : Int) - z.1))))])
  (fun z => n - z.1) ⟨0, by omega⟩ ?_ ?_
 ·exact GS.to (by simp [nSpl])
 rintro ⟨i, i1⟩
 have hVi := hV i
 have kI : TapeF (nSpl g.rs X0 T3 i).2 := by simpa using kN
 by_cases hi : i < n
 ·have hiz : (0 : Int) < (n : Int) - i := by omega
  have hsm : SmL (nSpl g.rs X0 T3 i).1 := (hVi.tabV h1).sm
  have hc := spoil_c (nSpl g.rs X0 T3 i).2 kI g ⟨by omega, by omega⟩ (nSpl g.rs X0 T3 i).1 hsm
  have hs : nSpl g.rs X0 T3 (i + 1) = ((splT g.rs (nSpl g.rs X0 T3 i).1 (nSpl g.rs X0 T3 i).2).1.1, (splT g.rs (nSpl g.rs X0 T3 i).1 (nSpl g.rs X0 T3 i).2).2) := rfl
  simp only [topT] at hc
  simp -dsimp [hiz, hi]
  and_intros
  all_goals try first | omega | exact ⟨by kernel_rfl⟩ | rfl
  refine ACall.of hc [.x 0] 0 ?_
  simp -dsimp [wrap_i64 (n := (n : Int) - i - 1) (by omega) (by omega)]
  and_intros
  all_goals try first | omega | exact ⟨by kernel_rfl⟩ | rfl
  exact ⟨⟨i + 1, by omega⟩, GS.to (by simp [hs]; omega), by simp; omega⟩
 have hiz : ¬ (0 : Int) < (n : Int) - i := by omega
 obtain rfl : n = i := by omega
 simp -dsimp [hiz]
 and_intros
 all_goals try first | omega | exact ⟨by kernel_rfl⟩ | rfl
 refine Fin.view 4 ?_
 simp -dsimp
 and_intros
 all_goals try first | omega | exact ⟨by kernel_rfl⟩ | rfl
 refine Fin.of ?_
 simp [topT, planT]
end Go.Proofs
